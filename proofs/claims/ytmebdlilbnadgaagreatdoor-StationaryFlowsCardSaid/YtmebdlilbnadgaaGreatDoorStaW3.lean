/- Contracts of functions and lemmas, used by the proofs of the given statements. No condition beyond those that each lemma names. -/
import Derived.Test.YtmebdlilbnadgaaGreatDoorJStaW1
import Derived.Test.YtmebdlilbnadgaaGreatDoorStaM
import Derived.Test.YtmebdlilbnadgaaGreatDoorJLinY
namespace Go.Proofs.YtmebdlilbnadgaaGreatDoor
open Go.RowKit
set_option linter.unusedSimpArgs false
set_option linter.unusedVariables false
set_option maxRecDepth 20000
attribute [local irreducible] nv wp win plainB validR valR canR mvE chkM codeC spr sprN chg cnt cntB ixB kept adj rsF clB clK parK oneK parQ outK gj staK mpD
/-! ## package stationary: Solve -/
/-- the number of Solve's error -/
def Chn.codeP (c : Chn) : Int := if c.code ≠ 0 then c.code else if c.ncl = 1 then 0 else 16
theorem Chn.codeP_a {c : Chn} (h : c.code ≠ 0) : c.codeP = c.code := by unfold Chn.codeP; rw [if_pos h]
theorem Chn.codeP_n {c : Chn} (h : c.code = 0) (h1 : c.ncl ≠ 1) : c.codeP = 16 := by unfold Chn.codeP; rw [if_neg (by omega), if_neg h1]
theorem Chn.codeP_z {c : Chn} (h : c.code = 0) (h1 : c.ncl = 1) : c.codeP = 0 := by unfold Chn.codeP; rw [if_neg (by omega), if_pos h1]
/-- the right side: 1 at the end -/
def rhL (m : Nat) : Nat → Rat := fun i => if i = m - 1 then 1 else 0
theorem rhL_set (m : Nat) : upd (fun _ => (0 : Rat)) (m - 1) 1 = rhL m := by
  funext i
  unfold upd rhL
  rfl
theorem wrap_small {a : Nat} (h : a ≤ 1000000) : IntKind.i64.wrap (a : Int) = (a : Int) := by
  rw [IntKind.wrap_i64]
  omega
theorem ansV_0 {n : Nat} {x : Nat → Rat} {code : Int} {w' : World} {A : Option Addr} {c : Nat} (h : code = 0) (hr : RowA w' w'.heap.size A n (can x)) : AnsV errM (outN' code n) x code (.returned (.tuple #[.slice A n c, .nilIface])) w' := by
  subst h
  exact ⟨A, c, by rw [errM_0]; rfl, hr⟩
theorem ansV_n {n : Nat} {x : Nat → Rat} {code : Int} {w' : World} {z : Value} (h : code ≠ 0) (hz : errM code = z) : AnsV errM (outN' code n) x code (.returned (.tuple #[.slice none 0 0, z])) w' := by
  unfold AnsV outN'
  rw [if_neg h]
  exact ⟨none, 0, by rw [hz], RowA.nil_ _ _ _ _⟩
set_option maxHeartbeats 32000000 in
theorem SolveP_any {w : World} {AM AD : Option Addr} {cm cd : Nat} {c : Chn} (h : ChI w w.heap.size AM cm AD cd c) (hS : SizP c) :
    Calls Tryz.prog 13 #[cv c.st c.sr AM c.nm cm AD c.nd cd] w fun e w' => AnsV errM (outN' c.codeP c.nd) c.pi c.codeP e w' ∧ Below w.heap.size w w' := by
  have hs := hS.ch
  have hnm := hS.nm
  have K1 := Lib.hid (fun W (hb : Below w.heap.size w W) => chCheck (h.below hb) hs.nm hs.short)
  have HPB := Lib.hid (fun W hb => par_below (W := W) (w := w) (o := .cells #[.int .i64 c.st, .int .i64 c.sr, .slice AM c.nm cm, .slice AD c.nd cd] 25) hb)
  have HPC := Lib.hid (fun W hb => par_cells (W := W) (w := w) (a := .int .i64 c.st) (b := .int .i64 c.sr) (d := .slice AM c.nm cm) (e := .slice AD c.nd cd) (t := 25) hb)
  have hW0z : (w.alloc (.cells #[.int .i64 c.st, .int .i64 c.sr, .slice AM c.nm cm, .slice AD c.nd cd] 25)).heap.size = w.heap.size + 1 := by simp
  by_cases h0 : c.code = 0
  · have ok := Chn.ok_iff.1 h0
    have K2 := Lib.hid (fun W (hb : Below w.heap.size w W) => closed_any (h.below hb) ok (by omega))
    rw [h0, errM_0] at K1
    by_cases h1 : c.ncl = 1
    · have hcP := Chn.codeP_z h0 h1
      have hn1 := ok.lo
      have hn9 := hS.nd ok
      obtain ⟨hp1', hp2⟩ := Chn.pi_par ok h1
      have hp1 : codeS (cntB c.clS c.nd) (cntB c.clS c.nd) (wide (parQ c.clS c.f c.t c.q c.nm c.nd) (rhL (cntB c.clS c.nd)) (cntB c.clS c.nd)) = 0 := hp1'
      have hft := Chn.ftA ok
      have HSP : Hid (∀ k, k ≤ c.nm → ∀ a b, Sz 400 (parK c.clS c.f c.t c.q c.nd k a b)) := fun k hk a b => by unfold parK; exact hS.K ok k hk _ _
      have HP0 : Hid (parK c.clS c.f c.t c.q c.nd 0 = fun _ _ => 0) := parK_0
      have HPN := Lib.hid (fun k (h : c.clS (c.f k) = false) i j (hj : j < cntB c.clS c.nd) => parK_no (T := c.t) (q := c.q) (i := i) h hj)
      have HP2 := Lib.hid (fun k (h : c.clS (c.f k) = true) (ht : c.clS (c.t k) = true) hF hT hne a b ha hb => parK_two (F := c.f) (T := c.t) (q := c.q) (n := c.nd) (k := k) h ht hF hT hne (a := a) (b := b) ha hb)
      have HBT := Lib.hid (fun k (hk : k < c.nm) (h : c.clS (c.f k) = true) => Chn.clS_shut ok k hk h)
      have HCI := Lib.hid (fun s (hs : s < c.nd) (h : c.clS s = true) => (ixB_cnt hs h).1)
      have HCN := Lib.hid (fun s t (hs : s < c.nd) (ht : t < c.nd) (h : c.clS s = true) (h2 : c.clS t = true) (hne : s ≠ t) (e : cntB c.clS s = cntB c.clS t) => hne (by have h3 := (ixB_cnt hs h).2; have h4 := (ixB_cnt ht h2).2; rw [e, h4] at h3; exact h3.symm))
      have HIL := Lib.hid (fun k (hk : k < cntB c.clS c.nd) => (ixB_lt hk).1)
      have HKG := Lib.hid (fun k hk => (kept_get hk : (kept c.clS c.nd)[k]'hk = ixB c.clS c.nd k))
      have hkl : (kept c.clS c.nd).length = cntB c.clS c.nd := kept_len
      have hL0 : c.clL 0 = kept c.clS c.nd := rfl
      have hml : cntB c.clS c.nd ≤ c.nd := cntB_le
      have hmp : 0 < cntB c.clS c.nd := by
        have := (ixB_cnt (B := c.clS) (ixB_lt (show 0 < cntB (clB c.f c.t c.nm c.nd) c.nd by have := ok.lo; have h2 : cntB (clB c.f c.t c.nm c.nd) c.nd = 1 := h1; omega)).1 Chn.clS_0).1
        omega
      have HO0 := Lib.hid (fun x => outK_0 c.clS x)
      have HOs := Lib.hid (fun x k (hk : k < cntB c.clS c.nd) s (hs : s < c.nd) => outK_s (l := c.clS) (x := x) hk hs)
      have HRH : Hid (∀ i, Sz 400 (rhL (cntB c.clS c.nd) i)) := fun i => by
        unfold rhL
        split
        · exact Sz.one (by omega)
        · exact Sz.zero (by omega)
      have KS : Hid (∀ W A B ca cb, MatI W W.heap.size A (cntB c.clS c.nd) (fun _ => cntB c.clS c.nd) (fun i => can (parQ c.clS c.f c.t c.q c.nm c.nd i)) → RowI W W.heap.size B (cntB c.clS c.nd) (can (rhL (cntB c.clS c.nd))) →
          Calls Tryz.prog 52 #[.slice A (cntB c.clS c.nd) ca, .slice B (cntB c.clS c.nd) cb] W fun e w' => (∃ A' d, e = .returned (.tuple #[.slice A' (cntB c.clS c.nd) d, .nilIface]) ∧ OwR w' W.heap.size A' d (cntB c.clS c.nd) (can fun i => (gj (cntB c.clS c.nd) (wide (parQ c.clS c.f c.t c.q c.nm c.nd) (rhL (cntB c.clS c.nd)) (cntB c.clS c.nd)) (cntB c.clS c.nd + 1)).1 i (cntB c.clS c.nd))) ∧ Below W.heap.size W w') := by
        intro W A B ca cb hA hB
        have hSq : ∀ i k, Sz 400 (parQ c.clS c.f c.t c.q c.nm c.nd i k) := fun i k => by
          unfold parQ
          split
          · exact Sz.one (by omega)
          · exact hS.K ok _ (Nat.le_refl _) _ _
        have := solve_any (ca := ca) (cb := cb) (m := 0) (L := 400) hA hB (codeM_sq hmp (by omega)) rfl (fun i k _ _ => Sz_canR (hSq i k)) (fun i k _ _ => canR_ok _) (fun i _ => Sz_canR (HRH.out i)) (fun i _ => canR_ok _) (by omega) (gl_10 (by omega))
        have e1 : (fun i k => valR (can (parQ c.clS c.f c.t c.q c.nm c.nd i) k)) = parQ c.clS c.f c.t c.q c.nm c.nd := by funext i k; exact valR_canR _
        have e2 : (fun i => valR (can (rhL (cntB c.clS c.nd)) i)) = rhL (cntB c.clS c.nd) := by funext i; exact valR_canR _
        rw [e1, e2] at this
        refine this.mono fun e w' hh => ⟨?_, hh.2⟩
        have h1 := hh.1
        unfold RetSolve at h1
        rw [if_pos hp1] at h1
        exact h1
      have HSOL : Hid (∀ s, s < c.nd → outK c.clS (fun i => (gj (cntB c.clS c.nd) (wide (parQ c.clS c.f c.t c.q c.nm c.nd) (rhL (cntB c.clS c.nd)) (cntB c.clS c.nd)) (cntB c.clS c.nd + 1)).1 i (cntB c.clS c.nd)) (cntB c.clS c.nd) s = c.pi s) := fun s hs => by
        rw [outK_e hs]
        exact hp2 s hs
      have HQP : Hid (∀ i j, j < cntB c.clS c.nd → oneK (parK c.clS c.f c.t c.q c.nd c.nm) (cntB c.clS c.nd) (cntB c.clS c.nd) i j = parQ c.clS c.f c.t c.q c.nm c.nd i j) := fun i j hj => oneK_par hj
      obtain ⟨X, hX⟩ : ∃ X : Nat → Rat, X = fun i => (gj (cntB c.clS c.nd) (wide (parQ c.clS c.f c.t c.q c.nm c.nd) (rhL (cntB c.clS c.nd)) (cntB c.clS c.nd)) (cntB c.clS c.nd + 1)).1 i (cntB c.clS c.nd) := ⟨_, rfl⟩
      rw [← hX] at KS HSOL
      obtain ⟨PQ, hPQ⟩ : ∃ PQ, PQ = parQ c.clS c.f c.t c.q c.nm c.nd := ⟨_, rfl⟩
      rw [← hPQ] at KS HQP
      obtain ⟨P, hP⟩ : ∃ P : Nat → Mf, P = fun k => parK c.clS c.f c.t c.q c.nd k := ⟨_, rfl⟩
      have hPn : parK c.clS c.f c.t c.q c.nd c.nm = P c.nm := by rw [hP]
      rw [hPn] at HQP
      have HSP' : Hid (∀ k, k ≤ c.nm → ∀ a b, Sz 400 (P k a b)) := by rw [hP]; exact HSP
      have HP0' : Hid (P 0 = fun _ _ => 0) := by rw [hP]; exact HP0
      have HPN' : Hid (∀ k, c.clS (c.f k) = false → ∀ i j, j < cntB c.clS c.nd → P (k + 1) i j = P k i j) := by rw [hP]; exact HPN
      have HP2' : Hid (∀ k, c.clS (c.f k) = true → c.clS (c.t k) = true → c.f k < c.nd → c.t k < c.nd → c.f k ≠ c.t k → ∀ a b, a < cntB c.clS c.nd → b < cntB c.clS c.nd → P (k + 1) a b = if a = cntB c.clS (c.t k) ∧ b = cntB c.clS (c.f k) then P k a b + c.q k else if a = cntB c.clS (c.f k) ∧ b = cntB c.clS (c.f k) then P k a b - c.q k else P k a b) := by rw [hP]; exact HP2
      obtain ⟨PI, hPI⟩ : ∃ PI, PI = c.pi := ⟨_, rfl⟩
      rw [← hPI] at HSOL ⊢
      obtain ⟨LL, hLL⟩ : ∃ LL, LL = c.clL := ⟨_, rfl⟩
      rw [← hLL] at hL0 K2
      obtain ⟨B, hB⟩ : ∃ B, B = c.clS := ⟨_, rfl⟩
      rw [← hB] at KS HSOL HQP HPN' HP2' HBT HCI HCN HIL HKG hkl hL0 hml hmp HO0 HOs HRH
      obtain ⟨m, hm⟩ : ∃ m, m = cntB B c.nd := ⟨_, rfl⟩
      rw [← hm] at KS HSOL HQP HPN' HP2' HCI HIL hkl hml hmp HOs HRH
      have HM := Lib.hid hm
      have HL0 := Lib.hid hL0
      rw [h1] at K2
      rw [hcP]
      have HMV := Lib.hid (fun W hb k hk => h.mv_later (W := W) ok hb (k := k) hk)
      have HSQ := Lib.hid (fun k hk => (hs.siz ok).raw k hk)
      have K0 : Hid (∀ W : World, Calls Tryz.prog 11 #[.int .i64 1] W fun e w' => RetQ W.heap.size ((1 : Nat) : Rat) e w' ∧ Below W.heap.size W w') := fun W => ofQ 1 W (by omega)
      have hst := ok.st
      rw [hst] at K1 K2 HPB HPC hW0z ⊢
      have hmm := @run_makeMap Tryz.prog
      have HMD0 : Hid (mpD B c.nd 0 = .map []) := by show mpD B c.nd 0 = _; unfold mpD; rfl
      clear h hS hs hst ok h0 h1 hcP hp1 hp1' hp2 hft HSP HP0 HPN HP2 hX hPQ hP hPn hPI hLL hB hm hL0
      go_enter Tryz.func13, Tryz.ntmps13
      (go_wp2_with fail; (with_reducible refine (K1.out _ (by (skip); repeat' (first | (with_reducible exact Below.refl _ _) | (with_reducible assumption) | (with_reducible refine Below.alloc ?_ ?_ _) | (with_reducible refine Below.drew ?_) | (with_reducible refine below_drewN ?_ _) | (with_reducible refine Below.setCell ?_ ?_ _) | (with_reducible refine Below.trans ?_ (Below.mono (by with_reducible assumption) ?_)) | omega | (simp only [ZA, ZS, ZD, ZN]; omega) | go_size))).mono ?_); rintro e w1 ⟨rfl, hb1⟩; have hb1z := Below.size hb1; (try simp only [ZA, ZS, ZD, ZN] at hb1z); have hb1c0 := fun o => below_at hb1 (w.heap.size) o (by first | omega | (simp only [ZA, ZS, ZD, ZN]; omega)); have hb1f0 := fun o => below_fr hb1 (w.heap.size) o (by first | omega | (simp only [ZA, ZS, ZD, ZN]; omega)))
      have HB1 : Hid (Below (w.heap.size + 1) (w.alloc (.cells #[.int .i64 (c.nd : Int), .int .i64 c.sr, .slice AM c.nm cm, .slice AD c.nd cd] 25)) w1) := by show Below _ _ _; simpa using hb1
      have hz1 := HB1.out.size
      rw [hW0z] at hz1
      have HW0z := Lib.hid hW0z
      clear hb1 hb1c0 hb1f0 hW0z
      generalize w.alloc (.cells #[.int .i64 (c.nd : Int), .int .i64 c.sr, .slice AM c.nm cm, .slice AD c.nd cd] 25) = W0 at *
      obtain ⟨y0, y1, y2, y3⟩ := HPC.out _ HB1.out
      (go_wp2_with fail; (with_reducible refine (K2.out _ (HPB.out _ HB1.out)).mono ?_); rintro e w2 ⟨⟨A1, c1, rfl, own2⟩, hb2⟩; have hb2z := Below.size hb2; (try simp only [ZA, ZS, ZD, ZN] at hb2z); have hb2c0 := fun o => below_at hb2 (w.heap.size) o (by first | omega | (simp only [ZA, ZS, ZD, ZN]; omega)); have hb2f0 := fun o => below_fr hb2 (w.heap.size) o (by first | omega | (simp only [ZA, ZS, ZD, ZN]; omega)))
      have HB2 : Hid (Below (w.heap.size + 1) W0 w2) := HB1.out.trans (hb2.mono (by omega))
      have hz2 := hb2.size
      obtain ⟨gL, Ai, ci, rfl, hgL, -, hcell, hrow⟩ := own2.at_ (i := 0) (by omega)
      rw [HL0.out] at hrow hcell
      have HI := Lib.hid hrow
      obtain ⟨gc, eA, -⟩ := hrow.at_ (k := 0) (by omega)
      subst eA
      rw [hkl] at hcell
      clear hb2 hb2c0 hb2f0 own2 hrow y0 y1 y2 y3
      go_wp2
      go_loopw [44] (fun i wr => ∃ k : Nat, k ≤ m ∧ i = .int .i64 (k : Int) ∧ OwMp wr w2.heap.size k (mpD B c.nd k) ∧ Below w2.heap.size w2 wr) (fun i _ => m - (intOf i).toNat)
      case atStart => exact ⟨0, Nat.zero_le _, rfl, by rw [HMD0.out]; exact World.ownsMap_made _ _ _ _, (Below.refl _ _).alloc (Nat.le_refl _) _⟩
      case round =>
        obtain ⟨k, hk, rfl, oM, hb⟩ := hrel
        have hz := hb.size
        by_cases hlt : k < m
        · obtain ⟨gs, e, hcs⟩ := (HI.out.below hb).at_ (k := k) (by omega)
          cases e
          rw [HKG.out k (by omega)] at hcs
          have hil := HIL.out k hlt
          obtain ⟨ik, hik⟩ : ∃ ik, ik = ixB B c.nd k := ⟨_, rfl⟩
          rw [← hik] at hcs hil
          have HIK := Lib.hid hik
          have HOM := Lib.hid oM
          have HB := Lib.hid hb
          have hki : (k : Int) < (m : Int) := by omega
          have hk0 : (0 : Int) ≤ (k : Int) := by omega
          clear hik oM hb hcell
          go_wp2_with (first | (at_mapUpdate; refine wpList_mpPut rfl (.tmp 49) (.tmp 50) (.tmp 51) rfl w2.heap.size k c.nd ik (by rfl) HOM.out (by omega) HIK.out (by omega) (by rfl) (by rfl) ?_; intro w5 own5 hgr5) | fail)
          go_roundw
          case rel => exact ⟨k + 1, by omega, by go_num, own5, HB.out.trans (below_of_row hgr5 (fun q hq => by injection hq with hq; omega) (by omega))⟩
          case measure => simp [intOf]; omega
        · have hkm : m = k := by omega
          subst hkm
          have HOM : Hid (OwMp wr w2.heap.size (cntB B c.nd) (mpD B c.nd (cntB B c.nd))) := by rw [← HM.out]; exact oM
          have HBM := Lib.hid hb
          clear oM hb
          obtain ⟨wM, hwM⟩ : ∃ wM, wM = wr := ⟨_, rfl⟩
          subst hwM
          go_wp2_with (first | (at_make; refine wpList_makeM rfl (.tmp 53) (.tmp 53) rfl wM.heap.size m (fun _ _ => 0) (m : Int) (m : Int) (by simp [Act.eval]) (by simp [Act.eval]) rfl rfl (by omega) (Nat.le_refl _) ?_; intro w3 own3 hb3) | fail)
          have own4 := own3.congr (len' := fun j => if j < 0 then m else 0) (M' := fun _ _ => 0) (fun i _ => by simp) (fun i k _ hk => rfl)
          have HO3 := Lib.hid own4
          have HB3 := Lib.hid hb3
          clear own3 own4 hb3
          go_loopw [57] (fun i wr => ∃ k : Nat, k ≤ m ∧ i = .int .i64 (k : Int) ∧ MatG wr wM.heap.size wM.heap.size m m (fun j => if j < k then m else 0) (fun _ _ => 0) ∧ Below wM.heap.size wM wr) (fun i _ => m - (intOf i).toNat)
          case atStart => exact ⟨0, Nat.zero_le _, rfl, HO3.out, HB3.out⟩
          case round =>
            clear HO3 HB3 hcell
            obtain ⟨i, hi, rfl, own, hb⟩ := hrel
            have hbz2 := hb.size
            by_cases hlt : i < m
            · obtain ⟨A9, c9, hX⟩ := own.row i
              have hcell := hX.cell hlt
              have hfz := own.frozen
              have holt := own.lt
              simp only [Nat.lt_irrefl, if_false] at hcell
              have HX := Lib.hid hX
              have HB9 := Lib.hid hb
              have hi0 : (0 : Int) ≤ (i : Int) := by omega
              have hi1 : (i : Int) < (m : Int) := by omega
              clear hX own hb
              go_wp2_with (first | (at_make; refine wpList_makeR rfl (.tmp 62) (.tmp 62) rfl wM.heap.size m (m : Int) (m : Int) (by simp [Act.eval]) (by simp [Act.eval]) rfl rfl (by omega) (by omega) ?_; intro w5 own5 hb5; (have hcell5 := (hb5.cell (p := ⟨wM.heap.size, i, none⟩) holt).trans hcell); (have hfz5 := fun o => (below_fr hb5 (wM.heap.size) o holt))) | fail)
              have hp := HX.out.put' hlt (grown_of_below hb5 (Value.slice A9 0 c9).ownBlock) own5 (.inr (Nat.le_refl _)) hbz2
              have hp1 := hp.1.congr (len' := fun j => if j < i + 1 then m else 0) (M' := fun _ _ => 0) (fun j hj => by
                unfold upd
                by_cases e : j = i
                · subst e; simp
                · by_cases e2 : j < i
                  · simp [e, e2, show j < i + 1 by omega]
                  · simp [e, e2, show ¬ j < i + 1 by omega]) (fun j k hj hk => by unfold upd; by_cases e : j = i <;> simp [e])
              have HP9 := Lib.hid hp1
              have HPB9 := Lib.hid (HB9.out.trans hp.2.2)
              clear hp hp1 own5 hb5
              go_roundw
              case rel => exact ⟨i + 1, by omega, by go_num, HP9.out, HPB9.out⟩
              case measure => simp [intOf]; omega
            · have hkm : m = i := by omega
              subst hkm
              have own4 := own.congr (len' := fun _ => m) (M' := P 0) (fun j hj => by simp [hj]) (fun j k _ _ => by rw [HP0'.out])
              have HO4 := Lib.hid own4
              have HB4 := Lib.hid hb
              obtain ⟨-, -, y2, -⟩ := HPC.out _ (HB2.out.trans ((HBM.out.trans (hb.mono hz)).mono (by omega)))
              clear own own4 hb
              go_wp2
              go_loopw [69] (fun j wr => ∃ k : Nat, k ≤ c.nm ∧ j = .int .i64 (k : Int) ∧ MatG wr wM.heap.size wM.heap.size m m (fun _ => m) (P k) ∧ Below wM.heap.size wM wr) (fun i _ => c.nm - (intOf i).toNat)
              case atStart => exact ⟨0, Nat.zero_le _, rfl, HO4.out, HB4.out⟩
              case round =>
                clear HO4 HB4 y2
                obtain ⟨k, hk, rfl, own, hb⟩ := hrel
                have hz9 := hb.size
                by_cases hlt : k < c.nm
                · have hbW := HPB.out _ (HB2.out.trans ((HBM.out.trans (hb.mono hz)).mono (by omega)))
                  obtain ⟨bm, om, s1, A1, n1, c1, B1, m1, d1, rfl, hbm, g0, g1, g2, g3, g4, r1, hfn, htn, hft⟩ := HMV.out wr hbW k hlt
                  have HOMx : Hid (∀ W, Below wr.heap.size wr W → OwMp W w2.heap.size (cntB B c.nd) (mpD B c.nd (cntB B c.nd))) := fun W hW => HOM.out.below (hb.trans (hW.mono hz9))
                  have hPN := HPN'.out k
                  have hP2 := HP2'.out k
                  have hBT := HBT.out k hlt
                  have hCf := HCI.out _ hfn
                  have hCt := HCI.out _ htn
                  have hCN := HCN.out _ _ hfn htn
                  obtain ⟨q1, q2⟩ := HSQ.out k hlt
                  have r1B := r1.base (b1 := wM.heap.size) (by have := HW0z.out; omega)
                  have hqq : ∀ W, RdS W wM.heap.size (rv s1 A1 n1 c1 B1 m1 d1) (c.R k) → RdQ W 400 (rv s1 A1 n1 c1 B1 m1 d1) (c.q k) := fun W hr => hr.rdq (L := 400) q1 q2
                  have hsk := HSP'.out k hk
                  obtain ⟨f, hf⟩ : ∃ f, f = c.f k := ⟨_, rfl⟩
                  obtain ⟨tt, ht⟩ : ∃ tt, tt = c.t k := ⟨_, rfl⟩
                  obtain ⟨q, hq⟩ : ∃ q, q = c.q k := ⟨_, rfl⟩
                  rw [← hf] at g0 hfn hPN hP2 hBT hCf hCN hft
                  rw [← ht] at g1 htn hP2 hBT hCt hCN hft
                  rw [← hq] at hP2
                  have HQQ : Hid (∀ W, RdS W wM.heap.size (rv s1 A1 n1 c1 B1 m1 d1) (c.R k) → RdQ W 400 (rv s1 A1 n1 c1 B1 m1 d1) q) := by rw [hq]; exact hqq
                  clear hf ht hq q1 q2 hqq
                  have hki : (k : Int) < (c.nm : Int) := by omega
                  have hk0 : (0 : Int) ≤ (k : Int) := by omega
                  have hfi : (f : Int) < (c.nd : Int) := by omega
                  have hf0 : (0 : Int) ≤ (f : Int) := by omega
                  have hti : (tt : Int) < (c.nd : Int) := by omega
                  have ht0 : (0 : Int) ≤ (tt : Int) := by omega
                  have HB5 := Lib.hid hb
                  have HO := Lib.hid own
                  clear own hb
                  have hal : Below wr.heap.size wr (wr.alloc (.cells #[.int .i64 (f : Int), .int .i64 (tt : Int), .bool s1, .slice A1 n1 c1, .slice B1 m1 d1] 33)) := (Below.refl _ _).alloc (Nat.le_refl _) _
                  have HAL := Lib.hid hal
                  clear hal
                  cases hA : B f
                  · have HE := Lib.hid (hPN hA)
                    have HBF := Lib.hid hA
                    clear hA hPN hP2 hCf hCt hCN r1B r1 hBT
                    go_wp2_with (first | (at_lookup; refine wpList_mpNo rfl (.tmp 74) (.tmp 76) rfl w2.heap.size c.nd f (by rfl) (HOMx.out _ HAL.out) (by omega) (by omega) HBF.out (by rfl) ?_; intro c5) | fail)
                    go_roundw
                    case rel => exact ⟨k + 1, by omega, by go_num, (HO.out.below HAL.out).congr (fun _ _ => rfl) (fun a b _ hb => by rw [HE.out a b hb]), HB5.out.trans (HAL.out.mono (by omega))⟩
                    case measure => simp [intOf]; omega
                  · have hBt := hBT hA
                    have hpf := hCf hA
                    have hpt := hCt hBt
                    have hP2' := hP2 hA hBt hfn htn hft
                    have hCN' := hCN hA hBt hft
                    have HBF := Lib.hid hA
                    have HBTt := Lib.hid hBt
                    clear hPN hP2 hCf hCt hCN hBT hA hBt
                    obtain ⟨p, hp⟩ : ∃ p, p = cntB B f := ⟨_, rfl⟩
                    obtain ⟨p2, hp2⟩ : ∃ p2, p2 = cntB B tt := ⟨_, rfl⟩
                    rw [← hp] at hpf hP2' hCN'
                    rw [← hp2] at hpt hP2' hCN'
                    have HPp := Lib.hid hp
                    have HPp2 := Lib.hid hp2
                    have HP2z := Lib.hid hP2'
                    clear hp hp2 hP2'
                    have hp0 : (0 : Int) ≤ (p : Int) := by omega
                    have hp1 : (p : Int) < (m : Int) := by omega
                    have hp20 : (0 : Int) ≤ (p2 : Int) := by omega
                    have hp21 : (p2 : Int) < (m : Int) := by omega
                    have hnp : p ≠ p2 := hCN'
                    go_wp2_with (first | (at_lookup; refine wpList_mpYes rfl (.tmp 74) (.tmp 76) rfl w2.heap.size c.nd f p (by rfl) (HOMx.out _ HAL.out) (by omega) (by omega) HBF.out HPp.out (by rfl) ?_) | (at_lookup; refine wpList_mpGet rfl (.tmp 82) (.tmp 84) rfl w2.heap.size c.nd tt p2 (by rfl) (HOMx.out _ HAL.out) (by omega) (by omega) HBTt.out HPp2.out (by rfl) ?_) | fail)
                    obtain ⟨wq, hwq⟩ : ∃ wq, wq = wr.alloc (.cells #[.int .i64 (f : Int), .int .i64 (tt : Int), .bool s1, .slice A1 n1 c1, .slice B1 m1 d1] 33) := ⟨_, rfl⟩
                    rw [← hwq]
                    have hAL : Below wr.heap.size wr wq := by rw [hwq]; exact HAL.out
                    have z0 : wq.cell? ⟨wr.heap.size, 0, none⟩ = some (.int .i64 (f : Int)) := by rw [hwq]; simp
                    have z1 : wq.cell? ⟨wr.heap.size, 1, none⟩ = some (.int .i64 (tt : Int)) := by rw [hwq]; simp
                    have z2 : wq.cell? ⟨wr.heap.size, 2, none⟩ = some (.bool s1) := by rw [hwq]; simp
                    have z3 : wq.cell? ⟨wr.heap.size, 3, none⟩ = some (.slice A1 n1 c1) := by rw [hwq]; simp
                    have z4 : wq.cell? ⟨wr.heap.size, 4, none⟩ = some (.slice B1 m1 d1) := by rw [hwq]; simp
                    have hTq : TyB 33 wq wr.heap.size := by rw [hwq]; exact TyB.new _ _
                    have hwz : wq.heap.size = wr.heap.size + 1 := by rw [hwq]; simp
                    have r1q := r1B.kp (Kp.of_below hAL)
                    have qr := HQQ.out _ r1q
                    obtain ⟨A9, c9, hX'⟩ := HO.out.row p
                    obtain ⟨g, rfl⟩ := hX'.head hpf (by omega)
                    have hgl := (hX'.own hpf).lt
                    have hgb := (hX'.own hpf).block.1
                    have hol := HO.out.lt
                    have hne : g ≠ wM.heap.size := hX'.ne hpf rfl
                    have hX := hX'.below hAL
                    have hcellq : wq.cell? ⟨wM.heap.size, p, none⟩ = some (.slice (some ⟨g, 0, none⟩) m c9) := hX.cell hpf
                    have hown : OwR wq wM.heap.size (some ⟨g, 0, none⟩) c9 m (can (P k p)) := hX.own hpf
                    obtain ⟨s0, A3, n3', c3', B3, m3, d3, o0, o1, o2, r0⟩ := hown.at_ hpf
                    have qd := (show RdS wq _ _ (canR (P k p p)) from r0).canQ (hsk p p)
                    have KA := Lib.hid (fun W (hb : Below wq.heap.size wq W) => subQ (qd.below hb) (qr.below hb) (by omega) (by omega))
                    have hfz := hown.frozen
                    have HX := Lib.hid hX
                    have HOn := Lib.hid hown
                    have HAL2 := Lib.hid hAL
                    have HR1 := Lib.hid r1q
                    clear hX hX' hown r0 qd hAL HAL hwq g0 g1 g2 g3 g4 r1q r1B r1
                    have ne1 : ¬ (wM.heap.size = g) := fun e => hne e.symm
                    have ne2 : ¬ (wr.heap.size = g) := by omega
                    have ne3 : ¬ (g = wr.heap.size) := by omega
                    rw [ld_later 30 (.tmp 96)]
                    go_region_held3 (fun W => W.cell? ⟨wM.heap.size, p, none⟩ = some (.slice (some ⟨g, 0, none⟩) m c9) ∧ W.cell? ⟨wr.heap.size, 2, none⟩ = some (.bool s1) ∧ W.cell? ⟨wr.heap.size, 3, none⟩ = some (.slice A1 n1 c1) ∧ W.cell? ⟨wr.heap.size, 4, none⟩ = some (.slice B1 m1 d1)) (go_keep)
                      (first | ((go_at_call 51; (with_reducible refine (KA.out _ (by (skip); repeat' (first | (with_reducible exact Below.refl _ _) | (with_reducible assumption) | (with_reducible refine Below.alloc ?_ ?_ _) | (with_reducible refine Below.drew ?_) | (with_reducible refine below_drewN ?_ _) | (with_reducible refine Below.setCell ?_ ?_ _) | (with_reducible refine Below.trans ?_ (Below.mono (by with_reducible assumption) ?_)) | omega | (simp only [ZA, ZS, ZD, ZN]; omega) | go_size))).mono ?_); rintro e w4 ⟨⟨v4, rfl, own4⟩, hb6⟩; have hb6z := Below.size hb6; (try simp only [ZA, ZS, ZD] at hb6z); have hb6c0 := fun o => below_at hb6 (wM.heap.size) o (by first | omega | (simp only [ZA, ZS, ZD]; omega)); have hb6f0 := fun o => below_fr hb6 (wM.heap.size) o (by first | omega | (simp only [ZA, ZS, ZD]; omega)); have hb6l0 : wM.heap.size < (w4).heap.size := (by omega); have hb6c1 := fun o => below_at hb6 (g) o (by first | omega | (simp only [ZA, ZS, ZD]; omega)); have hb6f1 := fun o => below_fr hb6 (g) o (by first | omega | (simp only [ZA, ZS, ZD]; omega)); have hb6l1 : g < (w4).heap.size := (by omega); have hb6c2 := fun o => below_at hb6 (wr.heap.size) o (by first | omega | (simp only [ZA, ZS, ZD]; omega)); have hb6f2 := fun o => below_fr hb6 (wr.heap.size) o (by first | omega | (simp only [ZA, ZS, ZD]; omega)); have hb6l2 : wr.heap.size < (w4).heap.size := (by omega)); obtain ⟨s4, A5, n5, c5, B5, m5, d5, rfl⟩ := own4.form) | fail)
                    all_goals
                      have hb9 : Below wq.heap.size wq w4 := (by have z0 := Below.size hb6; (try simp only [ZA, ZS, ZD, ZN] at z0 ⊢; skip); repeat' (first | (with_reducible exact Below.refl _ _) | (with_reducible assumption) | (with_reducible refine Below.alloc ?_ ?_ _) | (with_reducible refine Below.drew ?_) | (with_reducible refine below_drewN ?_ _) | (with_reducible refine Below.setCell ?_ ?_ _) | (with_reducible refine Below.trans ?_ (Below.mono (by with_reducible assumption) ?_)) | omega | (simp only [ZA, ZS, ZD, ZN]; omega) | go_size))
                      have hst := (HOn.out.below hb9).set hpf (own4.rs (b0 := wM.heap.size))
                      have hs := (HX.out.below hb9).same hpf hst.2 (f' := fun b => if b = p then P k p p - q else P k p b) (hst.1.congr fun b _ => by
                        rw [upd_can]
                        unfold can upd
                        by_cases e : b = p
                        · simp [e]
                        · simp [e]) (by have := hb9.size; omega)
                      have hcz : ∀ b o, b < wq.heap.size → b ≠ g → (((w4.setCell ⟨g, p * 3, none⟩ (.bool s4)).setCell ⟨g, p * 3 + 1, none⟩ (.slice A5 n5 c5)).setCell ⟨g, p * 3 + 2, none⟩ (.slice B5 m5 d5)).cell? ⟨b, o, none⟩ = wq.cell? ⟨b, o, none⟩ := fun b o h1 h2 => by
                        rw [World.cell?_setCell_far _ _ _ _ (fun e => h2 e.symm), World.cell?_setCell_far _ _ _ _ (fun e => h2 e.symm), World.cell?_setCell_far _ _ _ _ (fun e => h2 e.symm)]
                        exact hb9.cell (p := ⟨b, o, none⟩) h1
                      have hbz9 := (HB5.out.trans (HAL2.out.mono (by omega))).trans ((hb9.mono (by omega)).trans hs.2.2)
                      have hsz9 := hs.2.2.size
                      have hmz := hs.1.mg
                      have hrz := (HR1.out.kp (Kp.of_below hb9)).kp hs.2.1
                      have hTz := (((hTq.below hb9 (by omega)).set g (p * 3) (.bool s4)).set g (p * 3 + 1) (.slice A5 n5 c5)).set g (p * 3 + 2) (.slice B5 m5 d5)
                      obtain ⟨wz, hwz2⟩ : ∃ wz, wz = (((w4.setCell ⟨g, p * 3, none⟩ (.bool s4)).setCell ⟨g, p * 3 + 1, none⟩ (.slice A5 n5 c5)).setCell ⟨g, p * 3 + 2, none⟩ (.slice B5 m5 d5)) := ⟨_, rfl⟩
                      rw [← hwz2] at hcz hbz9 hmz hsz9 hrz hTz
                      rw [← hwz2]
                      have y2 := (hcz wr.heap.size 2 (by omega) (by omega)).trans z2
                      have y3 := (hcz wr.heap.size 3 (by omega) (by omega)).trans z3
                      have y4 := (hcz wr.heap.size 4 (by omega) (by omega)).trans z4
                      have QZ := Lib.hid (HQQ.out _ hrz)
                      have HMZ := Lib.hid hmz
                      have HBZ := Lib.hid hbz9
                      have HNR : Hid (∀ cur fz, wz.heap[wr.heap.size]? = some (.cells cur 30 fz) → False) := fun cur fz e => by
                        obtain ⟨_, _, e2⟩ := hTz
                        rw [e2] at e
                        injection e with e
                        injection e with _ e _
                        exact absurd e (by decide)
                      clear hTz hTq hwz2 hcz hbz9 hmz hrz z0 z1 z2 z3 z4 hs hst hb9 hb6 own4 hcellq o0 o1 o2 hfz HX HOn
                      obtain ⟨A9, c9, hX⟩ := HMZ.out.row p2
                      obtain ⟨g2, rfl⟩ := hX.head hpt (by omega)
                      have hgl2 := (hX.own hpt).lt
                      have hgb2 := (hX.own hpt).block.1
                      have hol2 := HMZ.out.lt
                      have hne2 : g2 ≠ wM.heap.size := hX.ne hpt rfl
                      have hcell2 : wz.cell? ⟨wM.heap.size, p2, none⟩ = some (.slice (some ⟨g2, 0, none⟩) m c9) := hX.cell hpt
                      have hown2 : OwR wz wM.heap.size (some ⟨g2, 0, none⟩) c9 m (can (upd (P k) p (fun b => if b = p then P k p p - q else P k p b) p2)) := hX.own hpt
                      obtain ⟨s0', A3', n3'', c3'', B3', m3', d3', o0', o1', o2', r0'⟩ := hown2.at_ hpf
                      have hent : upd (P k) p (fun b => if b = p then P k p p - q else P k p b) p2 p = P k p2 p := by
                        unfold upd
                        rw [if_neg (fun e => hnp e.symm)]
                      have r0c : RdS wz wM.heap.size (rv s0' A3' n3'' c3'' B3' m3' d3') (canR (upd (P k) p (fun b => if b = p then P k p p - q else P k p b) p2 p)) := r0'
                      rw [hent] at r0c
                      have qd2 := r0c.canQ (hsk p2 p)
                      have KB := Lib.hid (fun W (hb : Below wz.heap.size wz W) => addQ (qd2.below hb) (QZ.out.below hb) (by omega) (by omega))
                      have hfz2 := hown2.frozen
                      have HX2 := Lib.hid hX
                      have HOn2 := Lib.hid hown2
                      have hgq : g2 ≠ wr.heap.size := by
                        intro e
                        have h1 := (hX.own hpt).block.2
                        obtain ⟨cur, h1⟩ := h1
                        rw [e] at h1
                        exact HNR.out _ _ h1
                      clear hX hown2 r0' r0c qd2
                      have nf1 : ¬ (wM.heap.size = g2) := fun e => hne2 e.symm
                      have nf2 : ¬ (wr.heap.size = g2) := fun e => hgq e.symm
                      go_wp2
                      rw [ld_later 30 (.tmp 112)]
                      go_region_held3 (fun W => W.cell? ⟨wM.heap.size, p2, none⟩ = some (.slice (some ⟨g2, 0, none⟩) m c9) ∧ W.cell? ⟨wr.heap.size, 2, none⟩ = some (.bool s1) ∧ W.cell? ⟨wr.heap.size, 3, none⟩ = some (.slice A1 n1 c1) ∧ W.cell? ⟨wr.heap.size, 4, none⟩ = some (.slice B1 m1 d1)) (go_keep)
                        (first | ((go_at_call 29; (with_reducible refine (KB.out _ (by (skip); repeat' (first | (with_reducible exact Below.refl _ _) | (with_reducible assumption) | (with_reducible refine Below.alloc ?_ ?_ _) | (with_reducible refine Below.drew ?_) | (with_reducible refine below_drewN ?_ _) | (with_reducible refine Below.setCell ?_ ?_ _) | (with_reducible refine Below.trans ?_ (Below.mono (by with_reducible assumption) ?_)) | omega | (simp only [ZA, ZS, ZD, ZN]; omega) | go_size))).mono ?_); rintro e w6 ⟨⟨v6, rfl, own6⟩, hb7⟩; have hb7z := Below.size hb7; (try simp only [ZA, ZS, ZD] at hb7z); have hb7c0 := fun o => below_at hb7 (wM.heap.size) o (by first | omega | (simp only [ZA, ZS, ZD]; omega)); have hb7f0 := fun o => below_fr hb7 (wM.heap.size) o (by first | omega | (simp only [ZA, ZS, ZD]; omega)); have hb7l0 : wM.heap.size < (w6).heap.size := (by omega); have hb7c1 := fun o => below_at hb7 (g2) o (by first | omega | (simp only [ZA, ZS, ZD]; omega)); have hb7f1 := fun o => below_fr hb7 (g2) o (by first | omega | (simp only [ZA, ZS, ZD]; omega)); have hb7l1 : g2 < (w6).heap.size := (by omega); have hb7c2 := fun o => below_at hb7 (wr.heap.size) o (by first | omega | (simp only [ZA, ZS, ZD]; omega)); have hb7f2 := fun o => below_fr hb7 (wr.heap.size) o (by first | omega | (simp only [ZA, ZS, ZD]; omega)); have hb7l2 : wr.heap.size < (w6).heap.size := (by omega)); obtain ⟨s6, A7, n7, c7, B7, m7, d7, rfl⟩ := own6.form) | fail)
                      all_goals
                        have hb8 : Below wz.heap.size wz w6 := (by have z0 := Below.size hb7; (try simp only [ZA, ZS, ZD, ZN] at z0 ⊢; skip); repeat' (first | (with_reducible exact Below.refl _ _) | (with_reducible assumption) | (with_reducible refine Below.alloc ?_ ?_ _) | (with_reducible refine Below.drew ?_) | (with_reducible refine below_drewN ?_ _) | (with_reducible refine Below.setCell ?_ ?_ _) | (with_reducible refine Below.trans ?_ (Below.mono (by with_reducible assumption) ?_)) | omega | (simp only [ZA, ZS, ZD, ZN]; omega) | go_size))
                        have hst := (HOn2.out.below hb8).set hpf (own6.rs (b0 := wM.heap.size))
                        have hs := (HX2.out.below hb8).same hpt hst.2 (f' := fun b => if b = p then P k p2 p + q else upd (P k) p (fun b => if b = p then P k p p - q else P k p b) p2 b) (hst.1.congr fun b _ => by
                          rw [upd_can]
                          unfold can
                          rw [show upd (fun b => upd (P k) p (fun b => if b = p then P k p p - q else P k p b) p2 b) p (P k p2 p + q) b = if b = p then P k p2 p + q else upd (P k) p (fun b => if b = p then P k p p - q else P k p b) p2 b from rfl]) (by have := hb8.size; omega)
                        have HF := Lib.hid (hs.1.mg.congr (len' := fun _ => m) (M' := P (k + 1)) (fun _ _ => rfl) (fun a b ha hb => by
                          rw [HP2z.out a b ha hb, two_sub (by omega)]))
                        have HBF2 := Lib.hid (HBZ.out.trans ((hb8.mono (by omega)).trans hs.2.2))
                        clear hs hst
                        go_wp2
                        go_roundw
                        case rel => exact ⟨k + 1, by omega, by go_num, HF.out, HBF2.out⟩
                        case measure => simp [intOf]; omega
                · have hkm : k = c.nm := by omega
                  subst hkm
                  have HO := Lib.hid own
                  have HBE := Lib.hid hb
                  clear own hb
                  obtain ⟨wE, hwE⟩ : ∃ wE, wE = wr := ⟨_, rfl⟩
                  subst hwE
                  obtain ⟨mp, hmp9⟩ : ∃ mp, mp = m - 1 := ⟨_, rfl⟩
                  have hsub : (m : Int) - 1 = (mp : Int) := by omega
                  have hmp0 : (0 : Int) ≤ (mp : Int) := by omega
                  have hmp1 : (mp : Int) < (m : Int) := by omega
                  have hmpN : mp < m := by omega
                  have HMP := Lib.hid hmp9
                  clear hmp9
                  go_wp2_with (first | (at_make; refine wpList_makeR rfl (.tmp 119) (.tmp 119) rfl wM.heap.size m (m : Int) (m : Int) (by simp [Act.eval]) (by simp [Act.eval]) rfl rfl (by omega) (by omega) ?_; intro w6 own6 hb6) | fail)
                  have hz6 := hb6.size
                  have HM6 := Lib.hid (HO.out.below hb6)
                  have HN6 := Lib.hid (HO.out.nb.below hb6 HO.out.lt)
                  have hol := HO.out.lt
                  have HO6 := Lib.hid own6
                  have HB6 : Hid (Below wM.heap.size wM w6) := HBE.out.trans (hb6.mono (by have := HBE.out.size; omega))
                  have hzE := HBE.out.size
                  have hgb6 := own6.lt
                  clear own6 hb6
                  have ofz := HO6.out.frozen
                  obtain ⟨u0, u1, u2, u3, u4, u5, u6, v0, v1, v2, -⟩ := HO6.out.at_ hmpN
                  (go_wp2_with fail; (with_reducible refine (K0.out _).mono ?_); rintro e w7 ⟨⟨v7, rfl, own7⟩, hb7⟩; have hb7z := Below.size hb7; (try simp only [ZA, ZS, ZD, ZN] at hb7z); have hb7c0 := fun o => below_at hb7 (wE.heap.size) o (by first | omega | (simp only [ZA, ZS, ZD, ZN]; omega)); have hb7f0 := fun o => below_fr hb7 (wE.heap.size) o (by first | omega | (simp only [ZA, ZS, ZD, ZN]; omega)); have hb7c1 := fun o => below_at hb7 (wM.heap.size) o (by first | omega | (simp only [ZA, ZS, ZD, ZN]; omega)); have hb7f1 := fun o => below_fr hb7 (wM.heap.size) o (by first | omega | (simp only [ZA, ZS, ZD, ZN]; omega)))
                  obtain ⟨s9, A9, n9, c9, B9, m9, d9, rfl⟩ := own7.form
                  have hb67 := hb7
                  have st := (HO6.out.below hb7).set hmpN (own7.rs (b0 := wM.heap.size))
                  have hMO := (HM6.out.below hb7).other (HO6.out.below hb7) (HN6.out.below hb7 (by omega)) st.2
                  obtain ⟨hM8, -, hN8, -⟩ := hMO
                  have hr8 := st.1
                  rw [upd_can] at hr8
                  have e8 : upd (fun _ => (0 : Rat)) mp ((1 : Nat) : Rat) = rhL m := by rw [HMP.out]; exact rhL_set m
                  rw [e8] at hr8
                  have hB8 := (HB6.out.trans (hb7.mono (by omega))).trans (below_of_row st.2 (fun q hq => by injection hq with hq; omega) (by have := hb7.size; omega))
                  obtain ⟨Ah, ch, hX8⟩ := hM8.row mp
                  obtain ⟨gh, rfl⟩ := hX8.head hmpN (by omega)
                  have hc8 := hX8.cell hmpN
                  have hz7 := hb7.size
                  have HM8 := Lib.hid hM8
                  have HN8 := Lib.hid hN8
                  have HR8 := Lib.hid hr8
                  have HB8 := Lib.hid hB8
                  have neE1 : ¬ (wE.heap.size = wM.heap.size) := by omega
                  have neE2 : ¬ (wM.heap.size = wE.heap.size) := by omega
                  have hc7 : w7.cell? ⟨wM.heap.size, mp, none⟩ = some (.slice (some ⟨gh, 0, none⟩) m ch) := by
                    rw [World.cell?_setCell_far _ _ _ _ (by show wE.heap.size ≠ wM.heap.size; omega), World.cell?_setCell_far _ _ _ _ (by show wE.heap.size ≠ wM.heap.size; omega), World.cell?_setCell_far _ _ _ _ (by show wE.heap.size ≠ wM.heap.size; omega)] at hc8
                    exact hc8
                  clear st hM8 hN8 hr8 hB8 hX8 hb67 hb7 own7 e8
                  go_wp2
                  obtain ⟨OK, hOK⟩ : ∃ OK : Nat → Mf, OK = fun k => oneK (P c.nm) m k := ⟨_, rfl⟩
                  have HK0 : Hid (OK 0 = P c.nm) := by show OK 0 = _; rw [hOK]; exact oneK_0 _ _
                  have HKS : Hid (∀ k, upd (OK k) mp (upd (OK k mp) k 1) = OK (k + 1)) := fun k => by rw [hOK, HMP.out]; exact oneK_s _ _ _
                  have HKE : Hid (∀ i j, j < m → OK m i j = PQ i j) := fun i j hj => by rw [hOK]; exact HQP.out i j hj
                  clear hOK
                  go_loopw [132] (fun i wr => ∃ k : Nat, k ≤ m ∧ i = .int .i64 (k : Int) ∧ MatG wr wM.heap.size wM.heap.size m m (fun _ => m) (OK k) ∧ OwR wr wM.heap.size (some ⟨wE.heap.size, 0, none⟩) m m (can (rhL m)) ∧ NB wr wM.heap.size m wE.heap.size ∧ Below wM.heap.size wM wr ∧ wE.heap.size < wr.heap.size) (fun i _ => m - (intOf i).toNat)
                  case atStart => exact ⟨0, Nat.zero_le _, rfl, by rw [HK0.out]; exact HM8.out, HR8.out, HN8.out, HB8.out, HR8.out.lt⟩
                  case round =>
                    clear HM8 HR8 HN8 HB8 hc7 hc8
                    obtain ⟨k, hk, rfl, oM, oR, oN, hb, hgE⟩ := hrel
                    have hz8 := hb.size
                    by_cases hlt : k < m
                    · obtain ⟨A9, c9, hX⟩ := oM.row mp
                      obtain ⟨g, rfl⟩ := hX.head hmpN (by omega)
                      have hgl := (hX.own hmpN).lt
                      have hgb := (hX.own hmpN).block.1
                      have hol := oM.lt
                      have hne : g ≠ wM.heap.size := hX.ne hmpN rfl
                      have hcell := hX.cell hmpN
                      have hown : OwR wr wM.heap.size (some ⟨g, 0, none⟩) c9 m (can (OK k mp)) := hX.own hmpN
                      obtain ⟨s0, A3, n3', c3', B3, m3, d3, o0, o1, o2, r0⟩ := hown.at_ hlt
                      have hfz := hown.frozen
                      have hneE : wE.heap.size ≠ g := oN.ne hmpN hcell
                      have HX := Lib.hid hX
                      have HOn := Lib.hid hown
                      have HR := Lib.hid oR
                      have HN := Lib.hid oN
                      have HB := Lib.hid hb
                      clear hX hown r0 oM oR oN hb
                      have hki : (k : Int) < (m : Int) := by omega
                      have hk0 : (0 : Int) ≤ (k : Int) := by omega
                      have ne1 : ¬ (wM.heap.size = g) := fun e => hne e.symm
                      have hwrap : IntKind.i64.wrap ((m : Int) - 1) = (mp : Int) := by rw [hsub]; exact wrap_small (by omega)
                      have hwrap2 : IntKind.i64.wrap (mp : Int) = (mp : Int) := wrap_small (by omega)
                      go_wp2
                      go_region_held3 (fun W => W.cell? ⟨wM.heap.size, mp, none⟩ = some (.slice (some ⟨g, 0, none⟩) m c9)) (go_keep)
                        (first | ((go_at_call 11; (with_reducible refine (K0.out _).mono ?_); rintro e w4 ⟨⟨v4, rfl, own4⟩, hb4⟩; have hb4z := Below.size hb4; (try simp only [ZA, ZS, ZD] at hb4z); have hb4c0 := fun o => below_at hb4 (wM.heap.size) o (by first | omega | (simp only [ZA, ZS, ZD]; omega)); have hb4f0 := fun o => below_fr hb4 (wM.heap.size) o (by first | omega | (simp only [ZA, ZS, ZD]; omega)); have hb4l0 : wM.heap.size < (w4).heap.size := (by omega); have hb4c1 := fun o => below_at hb4 (g) o (by first | omega | (simp only [ZA, ZS, ZD]; omega)); have hb4f1 := fun o => below_fr hb4 (g) o (by first | omega | (simp only [ZA, ZS, ZD]; omega)); have hb4l1 : g < (w4).heap.size := (by omega)); obtain ⟨s4, A5, n5, c5, B5, m5, d5, rfl⟩ := own4.form) | fail)
                      all_goals
                        have hb9 : Below wr.heap.size wr w4 := (by have z0 := Below.size hb4; (try simp only [ZA, ZS, ZD, ZN] at z0 ⊢; skip); repeat' (first | (with_reducible exact Below.refl _ _) | (with_reducible assumption) | (with_reducible refine Below.alloc ?_ ?_ _) | (with_reducible refine Below.drew ?_) | (with_reducible refine below_drewN ?_ _) | (with_reducible refine Below.setCell ?_ ?_ _) | (with_reducible refine Below.trans ?_ (Below.mono (by with_reducible assumption) ?_)) | omega | (simp only [ZA, ZS, ZD, ZN]; omega) | go_size))
                        have hst := (HOn.out.below hb9).set hlt (own4.rs (b0 := wM.heap.size))
                        have hs := (HX.out.below hb9).same hmpN hst.2 (f' := upd (OK k mp) k 1) (hst.1.congr fun b _ => by
                          rw [upd_can]
                          rfl) (by have := hb9.size; omega)
                        have hR2 := (HR.out.below hb9).keep hst.2 hs.2.1 hneE
                        have hN2 : NB _ wM.heap.size m wE.heap.size := (HN.out.below hb9 (by omega)).keep fun i _ => grown_at hst.2 i (by have := hb9.size; omega) (Ne.symm hne)
                        have hmg := hs.1.mg
                        rw [HKS.out] at hmg
                        have HF := Lib.hid hmg
                        have HR2 := Lib.hid hR2
                        have HN2 := Lib.hid hN2
                        have HBF := Lib.hid (HB.out.trans ((hb9.mono (by omega)).trans hs.2.2))
                        have hsz := hst.2.size
                        have hsz9 := hb9.size
                        clear hs hst hmg hR2 hN2
                        go_wp2
                        go_roundw
                        case rel => exact ⟨k + 1, by omega, by go_num, HF.out, HR2.out, HN2.out, HBF.out, by omega⟩
                        case measure => simp [intOf]; omega
                    · have hkm : m = k := by omega
                      subst hkm
                      have hmi : MatI wr wr.heap.size (some ⟨wM.heap.size, 0, none⟩) m (fun _ => m) (fun i => can (PQ i)) := (MatG.mo (oM.congr (fun _ _ => rfl) (fun i k _ hk => HKE.out i k hk))).mi (by omega)
                      have hri := oR.ri (by omega)
                      have HMI := Lib.hid hmi
                      have HRI := Lib.hid hri
                      have HB := Lib.hid hb
                      have hbW : Below (w.heap.size + 1) W0 wr := HB2.out.trans ((HBM.out.trans (hb.mono hz)).mono (by omega))
                      have HBW := Lib.hid hbW
                      obtain ⟨y0, -, -, -⟩ := HPC.out _ hbW
                      clear oM oR oN hb hmi hri hbW
                      (go_wp2_with fail; (with_reducible refine (KS.out _ (some ⟨wM.heap.size, 0, none⟩) (some ⟨wE.heap.size, 0, none⟩) m m HMI.out HRI.out).mono ?_); rintro e w9 ⟨⟨A7, c7, rfl, own9⟩, hb9⟩; have hb9z := Below.size hb9; (try simp only [ZA, ZS, ZD, ZN] at hb9z); have hb9c0 := fun o => below_at hb9 (w.heap.size) o (by first | omega | (simp only [ZA, ZS, ZD, ZN]; omega)); have hb9f0 := fun o => below_fr hb9 (w.heap.size) o (by first | omega | (simp only [ZA, ZS, ZD, ZN]; omega)))
                      have hz9 := hb9.size
                      have HX9 : Hid (RowA w9 w9.heap.size A7 m (can X)) := (OwS.of_own own9 (b0 := w9.heap.size) (by omega)).ra
                      have HB9 : Hid (Below (w.heap.size + 1) W0 w9) := HBW.out.trans (hb9.mono (by have := HB2.out.size; omega))
                      have HI9 : Hid (OwI w9 w1.heap.size (some ⟨gc, 0, none⟩) ci (kept B c.nd)) := by
                        have h1 := HI.out.below ((HBM.out.trans (HB.out.mono hz)).trans (hb9.mono (by omega)))
                        exact h1
                      obtain ⟨z0, -, -, -⟩ := HPC.out _ HB9.out
                      clear own9 hb9 hb9c0 hb9f0 y0
                      go_wp2_with (first | (at_make; refine wpList_makeR rfl (.tmp 154) (.tmp 154) rfl w9.heap.size c.nd (c.nd : Int) (c.nd : Int) (by simp [Act.eval]) (by simp [Act.eval]) rfl rfl (by omega) (Nat.le_refl _) ?_; intro w10 own10 hb10) | fail)
                      have HU : Hid (OwS w10 w9.heap.size w9.heap.size (some ⟨w9.heap.size, 0, none⟩) c.nd c.nd (can (outK B X 0))) := by rw [HO0.out]; exact OwS.of_own own10 (Nat.le_refl _)
                      have HB10 := Lib.hid hb10
                      clear own10 hb10
                      go_loopw [158] (fun i wr => ∃ j : Nat, j ≤ m ∧ i = .int .i64 (j : Int) ∧ OwS wr w9.heap.size w9.heap.size (some ⟨w9.heap.size, 0, none⟩) c.nd c.nd (can (outK B X j)) ∧ Below w9.heap.size w9 wr) (fun i _ => m - (intOf i).toNat)
                      case atStart => exact ⟨0, Nat.zero_le _, rfl, HU.out, HB10.out⟩
                      case round =>
                        clear HU HB10
                        obtain ⟨j, hj, rfl, oU, hb⟩ := hrel
                        have hzj := hb.size
                        by_cases hlt : j < m
                        · obtain ⟨gs, e, hcs⟩ := (HI9.out.below hb).at_ (k := j) (by omega)
                          cases e
                          rw [HKG.out j (by omega)] at hcs
                          have hil := HIL.out j hlt
                          have hxs := HOs.out X j hlt
                          obtain ⟨ij, hij⟩ : ∃ ij, ij = ixB B c.nd j := ⟨_, rfl⟩
                          rw [← hij] at hcs hil hxs
                          clear hij
                          obtain ⟨bx, ox, s1, A1', n1, c1', B1, m1, d1, rfl, hbx, f0, f1, f2, r1⟩ := (HX9.out.below hb).at_ hlt
                          obtain ⟨t0, t1, t2, t3, t4, t5, t6, o0, o1, o2, -⟩ := oU.at_ hil
                          have hfz := oU.frozen
                          have hgl := oU.lt
                          have st := oU.set hil r1
                          have hb2 := hb.trans (below_of_row st.2 (fun q hq => by injection hq with hq; omega) (by omega))
                          have HS := Lib.hid (st.1.congr (U := can (outK B X (j + 1))) fun s hs => by
                            have := hxs s hs
                            show upd (can (outK B X j)) ij (can X j) s = _
                            unfold can
                            rw [show upd (fun k => canR (outK B X j k)) ij (canR (X j)) s = canR (upd (outK B X j) ij (X j) s) by unfold upd; split <;> rfl, this])
                          have HBj := Lib.hid hb2
                          have hji : (j : Int) < (m : Int) := by omega
                          have hj0 : (0 : Int) ≤ (j : Int) := by omega
                          have hii : (ij : Int) < (c.nd : Int) := by omega
                          have hi0 : (0 : Int) ≤ (ij : Int) := by omega
                          clear oU hb st hb2 r1 hxs
                          go_wp2
                          go_roundw
                          case rel => exact ⟨j + 1, by omega, by go_num, HS.out, HBj.out⟩
                          case measure => simp [intOf]; omega
                        · have hjm : m = j := by omega
                          subst hjm
                          have HF := Lib.hid ((oU.up (b1 := wr.heap.size) hzj).congr (U := can PI) fun s hs => by unfold can; rw [HSOL.out s hs]).ra
                          have HBF := Lib.hid (HPB.out _ (HB9.out.trans (hb.mono (by have := HB9.out.size; omega))))
                          clear oU hb
                          go_wp2
                          go_ret2
                          exact ⟨ansV_0 rfl HF.out, HBF.out⟩
    · have hcP := Lib.hid (Chn.codeP_n h0 h1)
      have e1 : ((c.ncl : Int) != 1) = true := by simp; omega
      obtain ⟨n9, hn9⟩ : ∃ n9, n9 = c.ncl := ⟨_, rfl⟩
      rw [← hn9] at K2 e1
      clear h hS hs ok h0 h1 hn9
      go_enter Tryz.func13, Tryz.ntmps13
      (go_wp2_with fail; (with_reducible refine (K1.out _ (by (skip); repeat' (first | (with_reducible exact Below.refl _ _) | (with_reducible assumption) | (with_reducible refine Below.alloc ?_ ?_ _) | (with_reducible refine Below.drew ?_) | (with_reducible refine below_drewN ?_ _) | (with_reducible refine Below.setCell ?_ ?_ _) | (with_reducible refine Below.trans ?_ (Below.mono (by with_reducible assumption) ?_)) | omega | (simp only [ZA, ZS, ZD, ZN]; omega) | go_size))).mono ?_); rintro e w1 ⟨rfl, hb1⟩; have hb1z := Below.size hb1; (try simp only [ZA, ZS, ZD, ZN] at hb1z); have hb1c0 := fun o => below_at hb1 (w.heap.size) o (by first | omega | (simp only [ZA, ZS, ZD, ZN]; omega)); have hb1f0 := fun o => below_fr hb1 (w.heap.size) o (by first | omega | (simp only [ZA, ZS, ZD, ZN]; omega)))
      have hB1 := HPB.out w1 (by rw [← hW0z]; exact hb1)
      have hz1 := hB1.size
      (go_wp2_with fail; (with_reducible refine (K2.out _ hB1).mono ?_); rintro e w2 ⟨⟨A1, c1, rfl, -⟩, hb2⟩; have hb2z := Below.size hb2; (try simp only [ZA, ZS, ZD, ZN] at hb2z))
      have HBF := Lib.hid (hB1.trans (hb2.mono hz1))
      clear hB1 hb1 hb2
      go_wp2
      go_ret2
      exact ⟨ansV_n (by rw [hcP.out]; omega) (by rw [hcP.out]; exact errM_n (by omega)), HBF.out⟩
  · have hcP := Lib.hid (Chn.codeP_a h0)
    rw [errM_n h0] at K1
    have HN := Lib.hid h0
    clear h hS hs h0
    go_enter Tryz.func13, Tryz.ntmps13
    (go_wp2_with fail; (with_reducible refine (K1.out _ (by (skip); repeat' (first | (with_reducible exact Below.refl _ _) | (with_reducible assumption) | (with_reducible refine Below.alloc ?_ ?_ _) | (with_reducible refine Below.drew ?_) | (with_reducible refine below_drewN ?_ _) | (with_reducible refine Below.setCell ?_ ?_ _) | (with_reducible refine Below.trans ?_ (Below.mono (by with_reducible assumption) ?_)) | omega | (simp only [ZA, ZS, ZD, ZN]; omega) | go_size))).mono ?_); rintro e w1 ⟨rfl, hb1⟩; have hb1z := Below.size hb1; (try simp only [ZA, ZS, ZD, ZN] at hb1z); have hb1c0 := fun o => below_at hb1 (w.heap.size) o (by first | omega | (simp only [ZA, ZS, ZD, ZN]; omega)); have hb1f0 := fun o => below_fr hb1 (w.heap.size) o (by first | omega | (simp only [ZA, ZS, ZD, ZN]; omega)))
    have hB1 := HPB.out w1 (by rw [← hW0z]; exact hb1)
    go_wp2
    go_ret2
    exact ⟨ansV_n (by rw [hcP.out]; exact HN.out) (by rw [hcP.out]; exact errM_n HN.out), hB1⟩
end Go.Proofs.YtmebdlilbnadgaaGreatDoor
