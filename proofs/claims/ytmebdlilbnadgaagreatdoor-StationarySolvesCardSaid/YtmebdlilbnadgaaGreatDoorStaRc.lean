/- Contracts of functions and lemmas, used by the proofs of the given statements. No condition beyond those that each lemma names. -/
import Derived.Test.YtmebdlilbnadgaaGreatDoorStaRb
import Derived.Test.YtmebdlilbnadgaaGreatDoorStaW3
import Derived.Test.YtmebdlilbnadgaaGreatDoorRlG
import Derived.Test.YtmebdlilbnadgaaGreatDoorJLinY
import Derived.Test.YtmebdlilbnadgaaGreatDoorStaZ
namespace Go.Proofs.YtmebdlilbnadgaaGreatDoor
open Go.RowKit
set_option linter.unusedSimpArgs false
set_option linter.unusedVariables false
set_option maxRecDepth 20000
attribute [local irreducible] nv wp win plainB validR valR canR mvE chkM codeC spr sprN chg cnt cntB ixB kept adj rsF clB clK oneK gj staK
/-! ## reference: Closed, Solve -/
theorem two_add {P : Nat → Nat → Rat} {p ri : Nat} {q : Rat} (hne : ri ≠ p) (a b : Nat) :
    upd (upd P ri (fun b => if b = p then P ri p + q else P ri b)) p (fun b => if b = p then P p p - q else upd P ri (fun b => if b = p then P ri p + q else P ri b) p b) a b = if a = ri ∧ b = p then P a b + q else if a = p ∧ b = p then P a b - q else P a b := by
  unfold upd
  by_cases h1 : a = p
  · subst h1
    rw [if_pos rfl, if_neg (show ¬ (a = ri ∧ b = a) from fun h => hne h.1.symm)]
    by_cases h2 : b = a
    · rw [if_pos h2, if_pos ⟨rfl, h2⟩, h2]
    · rw [if_neg h2, if_neg (show ¬ (a = a ∧ b = a) from fun h => h2 h.2), if_neg (show ¬ a = ri from fun e => hne e.symm)]
  · rw [if_neg h1, if_neg (show ¬ (a = p ∧ b = p) from fun h => h1 h.1)]
    by_cases h3 : a = ri
    · subst h3
      rw [if_pos rfl]
      by_cases h2 : b = p
      · rw [if_pos h2, if_pos ⟨rfl, h2⟩, h2]
      · rw [if_neg h2, if_neg (fun h => h2 h.2)]
    · rw [if_neg h3, if_neg (fun h => h3 h.1)]
theorem staK_two {F T : Nat → Nat} {q : Nat → Rat} {k : Nat} (hne : F k ≠ T k) (a b : Nat) : staK F T q (k + 1) a b = if a = T k ∧ b = F k then staK F T q k a b + q k else if a = F k ∧ b = F k then staK F T q k a b - q k else staK F T q k a b := by
  rw [staK_s]
  by_cases h1 : a = T k ∧ b = F k
  · rw [if_pos h1, if_pos h1, if_neg (fun h => hne (by rw [← h.1, h1.1]))]; grind
  · rw [if_neg h1, if_neg h1]
    split <;> grind
theorem rwL_nil (w : World) (b0 : Nat) (LL : Nat → List Nat) : RwL w b0 none 0 0 LL := RwO.nil_ _ _ _
set_option maxHeartbeats 4000000 in
theorem rClosed_any {w : World} {AM AD : Option Addr} {cm cd : Nat} {c : Chn} (h : ChI w w.heap.size AM cm AD cd c) (hs : ChS c 400) :
    Calls Tryz.prog 20 #[cv c.st c.sr AM c.nm cm AD c.nd cd] w fun e w' => AnsL intV (outN' c.code c.ncl) c.clL c.code e w' ∧ Below w.heap.size w w' := by
  have K1 := Lib.hid (fun W (hb : Below w.heap.size w W) => rchCheck (h.below hb) hs.nm hs.short)
  have HPB := Lib.hid (fun W hb => par_below (W := W) (w := w) (o := .cells #[.int .i64 c.st, .int .i64 c.sr, .slice AM c.nm cm, .slice AD c.nd cd] 25) hb)
  have hW0z : (w.alloc (.cells #[.int .i64 c.st, .int .i64 c.sr, .slice AM c.nm cm, .slice AD c.nd cd] 25)).heap.size = w.heap.size + 1 := by simp
  by_cases h0 : c.code = 0
  · have ok := Chn.ok_iff.1 h0
    have K2 := Lib.hid (fun W (hb : Below w.heap.size w W) => rclasses_any (h.below hb) ok hs.nm)
    rw [h0] at K1
    rw [h0]
    obtain ⟨LL, hLL⟩ : ∃ LL, LL = c.clL := ⟨_, rfl⟩
    obtain ⟨n9, hn9⟩ : ∃ n9, n9 = c.ncl := ⟨_, rfl⟩
    rw [← hLL, ← hn9] at K2 ⊢
    clear h hs ok h0 hLL hn9
    go_enter Tryz.func20, Tryz.ntmps20
    (go_wp2_with fail; (with_reducible refine (K1.out _ (by (skip); repeat' (first | (with_reducible exact Below.refl _ _) | (with_reducible assumption) | (with_reducible refine Below.alloc ?_ ?_ _) | (with_reducible refine Below.drew ?_) | (with_reducible refine below_drewN ?_ _) | (with_reducible refine Below.setCell ?_ ?_ _) | (with_reducible refine Below.trans ?_ (Below.mono (by with_reducible assumption) ?_)) | omega | (simp only [ZA, ZS, ZD, ZN]; omega) | go_size))).mono ?_); rintro e w1 ⟨rfl, hb1⟩; have hb1z := Below.size hb1; (try simp only [ZA, ZS, ZD, ZN] at hb1z); have hb1c0 := fun o => below_at hb1 (w.heap.size) o (by first | omega | (simp only [ZA, ZS, ZD, ZN]; omega)); have hb1f0 := fun o => below_fr hb1 (w.heap.size) o (by first | omega | (simp only [ZA, ZS, ZD, ZN]; omega)))
    have hB1 := HPB.out w1 (by rw [← hW0z]; exact hb1)
    (go_wp2_with fail; (with_reducible refine (K2.out _ hB1).mono ?_); rintro e w2 ⟨⟨A1, c1, rfl, own1⟩, hb2⟩; have hb2z := Below.size hb2; (try simp only [ZA, ZS, ZD, ZN] at hb2z))
    go_wp2
    go_ret2
    exact ⟨⟨_, _, rfl, RwO.base own1 (Nat.zero_le _)⟩, hB1.trans (hb2.mono hB1.size)⟩
  · have hm : outN' c.code c.ncl = 0 := by unfold outN'; rw [if_neg h0]
    rw [hm]
    obtain ⟨LL, hLL⟩ : ∃ LL, LL = c.clL := ⟨_, rfl⟩
    obtain ⟨cc, hcc⟩ : ∃ cc, cc = c.code := ⟨_, rfl⟩
    rw [← hcc] at K1 h0 ⊢
    rw [← hLL]
    have e5 : (cc != 0) = true := by simpa using h0
    have e6 : (cc == 0) = false := by simpa using h0
    clear h hs hm hLL hcc h0
    go_enter Tryz.func20, Tryz.ntmps20
    (go_wp2_with fail; (with_reducible refine (K1.out _ (by (skip); repeat' (first | (with_reducible exact Below.refl _ _) | (with_reducible assumption) | (with_reducible refine Below.alloc ?_ ?_ _) | (with_reducible refine Below.drew ?_) | (with_reducible refine below_drewN ?_ _) | (with_reducible refine Below.setCell ?_ ?_ _) | (with_reducible refine Below.trans ?_ (Below.mono (by with_reducible assumption) ?_)) | omega | (simp only [ZA, ZS, ZD, ZN]; omega) | go_size))).mono ?_); rintro e w1 ⟨rfl, hb1⟩; have hb1z := Below.size hb1; (try simp only [ZA, ZS, ZD, ZN] at hb1z); have hb1c0 := fun o => below_at hb1 (w.heap.size) o (by first | omega | (simp only [ZA, ZS, ZD, ZN]; omega)); have hb1f0 := fun o => below_fr hb1 (w.heap.size) o (by first | omega | (simp only [ZA, ZS, ZD, ZN]; omega)))
    have hB1 := HPB.out w1 (by rw [← hW0z]; exact hb1)
    go_wp2
    go_ret2
    exact ⟨⟨_, _, rfl, rwL_nil _ _ _⟩, hB1⟩
set_option maxHeartbeats 32000000 in
theorem rSolveP_any {w : World} {AM AD : Option Addr} {cm cd : Nat} {c : Chn} (h : ChI w w.heap.size AM cm AD cd c) (hS : SizP c) :
    Calls Tryz.prog 21 #[cv c.st c.sr AM c.nm cm AD c.nd cd] w fun e w' => AnsV intV (outN' c.codeP c.nd) c.pi c.codeP e w' ∧ Below w.heap.size w w' := by
  have hs := hS.ch
  have hnm := hS.nm
  have K1 := Lib.hid (fun W (hb : Below w.heap.size w W) => rchCheck (h.below hb) hs.nm hs.short)
  have HPB := Lib.hid (fun W hb => par_below (W := W) (w := w) (o := .cells #[.int .i64 c.st, .int .i64 c.sr, .slice AM c.nm cm, .slice AD c.nd cd] 25) hb)
  have HPC := Lib.hid (fun W hb => par_cells (W := W) (w := w) (a := .int .i64 c.st) (b := .int .i64 c.sr) (d := .slice AM c.nm cm) (e := .slice AD c.nd cd) (t := 25) hb)
  have hW0z : (w.alloc (.cells #[.int .i64 c.st, .int .i64 c.sr, .slice AM c.nm cm, .slice AD c.nd cd] 25)).heap.size = w.heap.size + 1 := by simp
  by_cases h0 : c.code = 0
  · have ok := Chn.ok_iff.1 h0
    have K2 := Lib.hid (fun W (hb : Below w.heap.size w W) => rclasses_any (h.below hb) ok hs.nm)
    rw [h0] at K1
    have hncl := Chn.ncl_pos ok
    by_cases h1 : c.ncl = 1
    · have hcP := Chn.codeP_z h0 h1
      have hn1 := ok.lo
      have hn9 := hS.nd ok
      have hun := (Chn.uns ok h1).staX_eq.1
      have HSP : Hid (∀ k, k ≤ c.nm → ∀ a b, Sz 400 (staK c.f c.t c.q k a b)) := fun k hk a b => hS.K ok k hk a b
      have HP0 : Hid (staK c.f c.t c.q 0 = fun _ _ => 0) := by show staK c.f c.t c.q 0 = _; unfold staK; rfl
      have HP2 : Hid (∀ k, c.f k ≠ c.t k → ∀ a b, staK c.f c.t c.q (k + 1) a b = if a = c.t k ∧ b = c.f k then staK c.f c.t c.q k a b + c.q k else if a = c.f k ∧ b = c.f k then staK c.f c.t c.q k a b - c.q k else staK c.f c.t c.q k a b) := fun k hne a b => staK_two hne a b
      have HRH : Hid (∀ i, Sz 400 (rhL c.nd i)) := fun i => by
        unfold rhL
        split
        · exact Sz.one (by omega)
        · exact Sz.zero (by omega)
      have HSM : Hid (∀ i j, j < c.nd → oneK (staK c.f c.t c.q c.nm) c.nd c.nd i j = staM c.f c.t c.q c.nm c.nd i j) := fun i j hj => by
        unfold oneK staM
        by_cases h : i = c.nd - 1
        · rw [if_pos ⟨h, hj⟩, if_pos h]
        · rw [if_neg (fun h' => h h'.1), if_neg h]
      have KS : Hid (∀ W A B ca cb, MatI W W.heap.size A c.nd (fun _ => c.nd) (fun i => can (staM c.f c.t c.q c.nm c.nd i)) → RowI W W.heap.size B c.nd (can (rhL c.nd)) →
          Calls Tryz.prog 57 #[.slice A c.nd ca, .slice B c.nd cb] W fun e w' => (∃ A' d, e = .returned (.tuple #[.slice A' c.nd d, .int .i64 0]) ∧ RowA w' w'.heap.size A' c.nd (can c.pi)) ∧ Below W.heap.size W w') := by
        intro W A B ca cb hA hB
        have hSq : ∀ i k, Sz 400 (staM c.f c.t c.q c.nm c.nd i k) := fun i k => by
          unfold staM
          split
          · exact Sz.one (by omega)
          · exact hS.K ok _ (Nat.le_refl _) _ _
        have := rsolve_any (ca := ca) (cb := cb) (L := 400) hA hB (codeM_sq (by omega) (by omega)) rfl (fun i k _ _ => Sz_canR (hSq i k)) (fun i _ => Sz_canR (HRH.out i)) (by omega) (gl_10 (by omega))
        have e1 : (fun i k => valR (can (staM c.f c.t c.q c.nm c.nd i) k)) = staM c.f c.t c.q c.nm c.nd := by funext i k; exact valR_canR _
        have e2 : (fun i => valR (can (rhL c.nd) i)) = rhL c.nd := by funext i; exact valR_canR _
        rw [e1, e2] at this
        refine this.mono fun e w' hh => ⟨?_, hh.2⟩
        rcases hh.1 with ⟨-, A', d, e1, hr, -⟩ | ⟨hn, -⟩
        · exact ⟨A', d, e1, hr.ra.congr fun s hs => by
            show canR _ = canR _
            congr 1
            unfold Chn.pi staX
            rw [if_pos hs]
            rfl⟩
        · exact absurd hun hn
      obtain ⟨P, hP⟩ : ∃ P : Nat → Mf, P = fun k => staK c.f c.t c.q k := ⟨_, rfl⟩
      have hPn : staK c.f c.t c.q c.nm = P c.nm := by rw [hP]
      rw [hPn] at HSM
      have HSP' : Hid (∀ k, k ≤ c.nm → ∀ a b, Sz 400 (P k a b)) := by rw [hP]; exact HSP
      have HP0' : Hid (P 0 = fun _ _ => 0) := by rw [hP]; exact HP0
      have HP2' : Hid (∀ k, c.f k ≠ c.t k → ∀ a b, P (k + 1) a b = if a = c.t k ∧ b = c.f k then P k a b + c.q k else if a = c.f k ∧ b = c.f k then P k a b - c.q k else P k a b) := by rw [hP]; exact HP2
      obtain ⟨PQ, hPQ⟩ : ∃ PQ, PQ = staM c.f c.t c.q c.nm c.nd := ⟨_, rfl⟩
      rw [← hPQ] at KS HSM
      obtain ⟨PI, hPI⟩ : ∃ PI, PI = c.pi := ⟨_, rfl⟩
      rw [← hPI] at KS ⊢
      rw [h1] at K2
      rw [hcP]
      have HMV := Lib.hid (fun W hb k hk => h.mv_later (W := W) ok hb (k := k) hk)
      have HSQ := Lib.hid (fun k hk => (hs.siz ok).raw k hk)
      have K0 : Hid (∀ W : World, Calls Tryz.prog 42 #[.int .i64 1] W fun e w' => RetQ W.heap.size ((1 : Nat) : Rat) e w' ∧ Below W.heap.size W w') := fun W => rofQ 1 W (by omega)
      have hst := ok.st
      rw [hst] at K1 K2 HPB HPC hW0z ⊢
      clear h hS hs hst ok h0 h1 hcP hun HSP HP0 HP2 hP hPn hPQ hPI HRH hncl
      go_enter Tryz.func21, Tryz.ntmps21
      (go_wp2_with fail; (with_reducible refine (K1.out _ (by (skip); repeat' (first | (with_reducible exact Below.refl _ _) | (with_reducible assumption) | (with_reducible refine Below.alloc ?_ ?_ _) | (with_reducible refine Below.drew ?_) | (with_reducible refine below_drewN ?_ _) | (with_reducible refine Below.setCell ?_ ?_ _) | (with_reducible refine Below.trans ?_ (Below.mono (by with_reducible assumption) ?_)) | omega | (simp only [ZA, ZS, ZD, ZN]; omega) | go_size))).mono ?_); rintro e w1 ⟨rfl, hb1⟩; have hb1z := Below.size hb1; (try simp only [ZA, ZS, ZD, ZN] at hb1z); have hb1c0 := fun o => below_at hb1 (w.heap.size) o (by first | omega | (simp only [ZA, ZS, ZD, ZN]; omega)); have hb1f0 := fun o => below_fr hb1 (w.heap.size) o (by first | omega | (simp only [ZA, ZS, ZD, ZN]; omega)))
      have HB1 : Hid (Below (w.heap.size + 1) (w.alloc (.cells #[.int .i64 (c.nd : Int), .int .i64 c.sr, .slice AM c.nm cm, .slice AD c.nd cd] 25)) w1) := by show Below _ _ _; simpa using hb1
      have hz1 := HB1.out.size
      rw [hW0z] at hz1
      have HW0z := Lib.hid hW0z
      clear hb1 hb1c0 hb1f0 hW0z
      generalize w.alloc (.cells #[.int .i64 (c.nd : Int), .int .i64 c.sr, .slice AM c.nm cm, .slice AD c.nd cd] 25) = W0 at *
      obtain ⟨y0, y1, y2, y3⟩ := HPC.out _ HB1.out
      (go_wp2_with fail; (with_reducible refine (K2.out _ (HPB.out _ HB1.out)).mono ?_); rintro e w2 ⟨⟨A1, c1, rfl, -⟩, hb2⟩; have hb2z := Below.size hb2; (try simp only [ZA, ZS, ZD, ZN] at hb2z); have hb2c0 := fun o => below_at hb2 (w.heap.size) o (by first | omega | (simp only [ZA, ZS, ZD, ZN]; omega)); have hb2f0 := fun o => below_fr hb2 (w.heap.size) o (by first | omega | (simp only [ZA, ZS, ZD, ZN]; omega)))
      have HB2 : Hid (Below (w.heap.size + 1) W0 w2) := HB1.out.trans (hb2.mono (by omega))
      have hz2 := hb2.size
      obtain ⟨x0, -, -, -⟩ := HPC.out _ HB2.out
      clear hb2 hb2c0 hb2f0 y0 y1 y2 y3
      obtain ⟨wM, hwM⟩ : ∃ wM, wM = w2 := ⟨_, rfl⟩
      subst hwM
      go_wp2_with (first | (at_make; refine wpList_makeM rfl (.tmp 23) (.tmp 23) rfl wM.heap.size c.nd (fun _ _ => 0) (c.nd : Int) (c.nd : Int) (by first | rfl | simp [Act.eval]) (by first | rfl | simp [Act.eval]) rfl rfl (by omega) (Nat.le_refl _) ?_; intro w3 own3 hb3) | fail)
      have own4 := own3.congr (len' := fun j => if j < 0 then c.nd else 0) (M' := fun _ _ => 0) (fun i _ => by simp) (fun i k _ hk => rfl)
      have HO3 := Lib.hid own4
      have HB3 := Lib.hid hb3
      clear own3 own4 hb3
      go_loopw [27] (fun i wr => ∃ k : Nat, k ≤ c.nd ∧ i = .int .i64 (k : Int) ∧ MatG wr wM.heap.size wM.heap.size c.nd c.nd (fun j => if j < k then c.nd else 0) (fun _ _ => 0) ∧ Below wM.heap.size wM wr) (fun i _ => c.nd - (intOf i).toNat)
      case atStart => exact ⟨0, Nat.zero_le _, rfl, HO3.out, HB3.out⟩
      case round =>
        clear HO3 HB3 x0
        obtain ⟨i, hi, rfl, own, hb⟩ := hrel
        have hbz2 := hb.size
        by_cases hlt : i < c.nd
        · obtain ⟨A9, c9, hX⟩ := own.row i
          have hcell := hX.cell hlt
          have hfz := own.frozen
          have holt := own.lt
          simp only [Nat.lt_irrefl, if_false] at hcell
          have HX := Lib.hid hX
          have HB9 := Lib.hid hb
          obtain ⟨x0, -, -, -⟩ := HPC.out _ (HB2.out.trans (hb.mono (by omega)))
          have hi0 : (0 : Int) ≤ (i : Int) := by omega
          have hi1 : (i : Int) < (c.nd : Int) := by omega
          clear hX own hb
          go_wp2_with (first | (at_make; refine wpList_makeR rfl (.tmp 33) (.tmp 33) rfl wM.heap.size c.nd (c.nd : Int) (c.nd : Int) (by first | rfl | simp [Act.eval]) (by first | rfl | simp [Act.eval]) rfl rfl (by omega) (by omega) ?_; intro w5 own5 hb5; (have hcell5 := (hb5.cell (p := ⟨wM.heap.size, i, none⟩) holt).trans hcell); (have hfz5 := fun o => (below_fr hb5 (wM.heap.size) o holt))) | fail)
          have hp := HX.out.put' hlt (grown_of_below hb5 (Value.slice A9 0 c9).ownBlock) own5 (.inr (Nat.le_refl _)) hbz2
          have hp1 := hp.1.congr (len' := fun j => if j < i + 1 then c.nd else 0) (M' := fun _ _ => 0) (fun j hj => by
            unfold upd
            by_cases e : j = i
            · subst e; simp
            · by_cases e2 : j < i
              · simp [e, e2, show j < i + 1 by omega]
              · simp [e, e2, show ¬ j < i + 1 by omega]) (fun j k hj hk => by unfold upd; by_cases e : j = i <;> simp [e])
          have HP9 := Lib.hid hp1
          have HPB9 := Lib.hid (HB9.out.trans hp.2.2)
          clear hp hp1 own5 hb5
          go_roundw
          case rel => exact ⟨i + 1, by omega, by go_num, HP9.out, HPB9.out⟩
          case measure => simp [intOf]; omega
        · have hkm : i = c.nd := by omega
          subst hkm
          have own4 := own.congr (len' := fun _ => c.nd) (M' := P 0) (fun j hj => by simp [hj]) (fun j k _ _ => by rw [HP0'.out])
          have HO4 := Lib.hid own4
          have HB4 := Lib.hid hb
          obtain ⟨-, -, y2, -⟩ := HPC.out _ (HB2.out.trans (hb.mono (by omega)))
          clear own own4 hb
          go_wp2
          go_loopw [40] (fun j wr => ∃ k : Nat, k ≤ c.nm ∧ j = .int .i64 (k : Int) ∧ MatG wr wM.heap.size wM.heap.size c.nd c.nd (fun _ => c.nd) (P k) ∧ Below wM.heap.size wM wr) (fun i _ => c.nm - (intOf i).toNat)
          case atStart => exact ⟨0, Nat.zero_le _, rfl, HO4.out, HB4.out⟩
          case round =>
            clear HO4 HB4 y2
            obtain ⟨k, hk, rfl, own, hb⟩ := hrel
            have hz9 := hb.size
            by_cases hlt : k < c.nm
            · have hbW := HPB.out _ (HB2.out.trans (hb.mono (by omega)))
              obtain ⟨bm, om, s1, A1, n1, c1, B1, m1, d1, rfl, hbm, g0, g1, g2, g3, g4, r1, hfn, htn, hft⟩ := HMV.out wr hbW k hlt
              have hP2 := HP2'.out k hft
              obtain ⟨q1, q2⟩ := HSQ.out k hlt
              have r1B := r1.base (b1 := wM.heap.size) (by have := HW0z.out; omega)
              have hqq : ∀ W, RdS W wM.heap.size (rv s1 A1 n1 c1 B1 m1 d1) (c.R k) → RdQ W 400 (rv s1 A1 n1 c1 B1 m1 d1) (c.q k) := fun W hr => hr.rdq (L := 400) q1 q2
              have hsk := HSP'.out k hk
              obtain ⟨f, hf⟩ : ∃ f, f = c.f k := ⟨_, rfl⟩
              obtain ⟨tt, ht⟩ : ∃ tt, tt = c.t k := ⟨_, rfl⟩
              obtain ⟨q, hq⟩ : ∃ q, q = c.q k := ⟨_, rfl⟩
              rw [← hf] at g0 hfn hP2 hft
              rw [← ht] at g1 htn hP2 hft
              rw [← hq] at hP2
              have HQQ : Hid (∀ W, RdS W wM.heap.size (rv s1 A1 n1 c1 B1 m1 d1) (c.R k) → RdQ W 400 (rv s1 A1 n1 c1 B1 m1 d1) q) := by rw [hq]; exact hqq
              have HP2z := Lib.hid hP2
              clear hf ht hq q1 q2 hqq hP2
              have hki : (k : Int) < (c.nm : Int) := by omega
              have hk0 : (0 : Int) ≤ (k : Int) := by omega
              have hfi : (f : Int) < (c.nd : Int) := by omega
              have hf0 : (0 : Int) ≤ (f : Int) := by omega
              have hti : (tt : Int) < (c.nd : Int) := by omega
              have ht0 : (0 : Int) ≤ (tt : Int) := by omega
              have HB5 := Lib.hid hb
              have HO := Lib.hid own
              clear own hb
              go_wp2
              obtain ⟨wq, hwq⟩ : ∃ wq, wq = wr.alloc (.cells #[.int .i64 (f : Int), .int .i64 (tt : Int), .bool s1, .slice A1 n1 c1, .slice B1 m1 d1] 33) := ⟨_, rfl⟩
              rw [← hwq]
              have hAL : Below wr.heap.size wr wq := by rw [hwq]; exact (Below.refl _ _).alloc (Nat.le_refl _) _
              have z0 : wq.cell? ⟨wr.heap.size, 0, none⟩ = some (.int .i64 (f : Int)) := by rw [hwq]; simp
              have z1 : wq.cell? ⟨wr.heap.size, 1, none⟩ = some (.int .i64 (tt : Int)) := by rw [hwq]; simp
              have z2 : wq.cell? ⟨wr.heap.size, 2, none⟩ = some (.bool s1) := by rw [hwq]; simp
              have z3 : wq.cell? ⟨wr.heap.size, 3, none⟩ = some (.slice A1 n1 c1) := by rw [hwq]; simp
              have z4 : wq.cell? ⟨wr.heap.size, 4, none⟩ = some (.slice B1 m1 d1) := by rw [hwq]; simp
              have hTq : TyB 33 wq wr.heap.size := by rw [hwq]; exact TyB.new _ _
              have hwz : wq.heap.size = wr.heap.size + 1 := by rw [hwq]; simp
              have r1q := r1B.kp (Kp.of_below hAL)
              have qr := HQQ.out _ r1q
              obtain ⟨A9, c9, hX'⟩ := HO.out.row tt
              obtain ⟨g, rfl⟩ := hX'.head htn (by omega)
              have hgl := (hX'.own htn).lt
              have hgb := (hX'.own htn).block.1
              have hol := HO.out.lt
              have hne : g ≠ wM.heap.size := hX'.ne htn rfl
              have hX := hX'.below hAL
              have hcellq : wq.cell? ⟨wM.heap.size, tt, none⟩ = some (.slice (some ⟨g, 0, none⟩) c.nd c9) := hX.cell htn
              have hown : OwR wq wM.heap.size (some ⟨g, 0, none⟩) c9 c.nd (can (P k tt)) := hX.own htn
              obtain ⟨s0, A3, n3', c3', B3, m3, d3, o0, o1, o2, r0⟩ := hown.at_ hfn
              have qd := (show RdS wq _ _ (canR (P k tt f)) from r0).canQ (hsk tt f)
              have KA := Lib.hid (fun W (hb : Below wq.heap.size wq W) => raddQ (qd.below hb) (qr.below hb) (by omega) (by omega))
              have hfz := hown.frozen
              have HX := Lib.hid hX
              have HOn := Lib.hid hown
              have HAL2 := Lib.hid hAL
              have HR1 := Lib.hid r1q
              clear hX hX' hown r0 qd hAL hwq g0 g1 g2 g3 g4 r1q r1B r1
              have ne1 : ¬ (wM.heap.size = g) := fun e => hne e.symm
              have ne2 : ¬ (wr.heap.size = g) := by omega
              have ne3 : ¬ (g = wr.heap.size) := by omega
              rw [ld_later 30 (.tmp 58)]
              go_region_held3 (fun W => W.cell? ⟨wM.heap.size, tt, none⟩ = some (.slice (some ⟨g, 0, none⟩) c.nd c9) ∧ W.cell? ⟨wr.heap.size, 0, none⟩ = some (.int .i64 (f : Int)) ∧ W.cell? ⟨wr.heap.size, 1, none⟩ = some (.int .i64 (tt : Int)) ∧ W.cell? ⟨wr.heap.size, 2, none⟩ = some (.bool s1) ∧ W.cell? ⟨wr.heap.size, 3, none⟩ = some (.slice A1 n1 c1) ∧ W.cell? ⟨wr.heap.size, 4, none⟩ = some (.slice B1 m1 d1)) (go_keep)
                (first | ((go_at_call 55; (with_reducible refine (KA.out _ (by (skip); repeat' (first | (with_reducible exact Below.refl _ _) | (with_reducible assumption) | (with_reducible refine Below.alloc ?_ ?_ _) | (with_reducible refine Below.drew ?_) | (with_reducible refine below_drewN ?_ _) | (with_reducible refine Below.setCell ?_ ?_ _) | (with_reducible refine Below.trans ?_ (Below.mono (by with_reducible assumption) ?_)) | omega | (simp only [ZA, ZS, ZD, ZN]; omega) | go_size))).mono ?_); rintro e w4 ⟨⟨v4, rfl, own4⟩, hb6⟩; have hb6z := Below.size hb6; (try simp only [ZA, ZS, ZD] at hb6z); have hb6c0 := fun o => below_at hb6 (wM.heap.size) o (by first | omega | (simp only [ZA, ZS, ZD]; omega)); have hb6f0 := fun o => below_fr hb6 (wM.heap.size) o (by first | omega | (simp only [ZA, ZS, ZD]; omega)); have hb6l0 : wM.heap.size < (w4).heap.size := (by omega); have hb6c1 := fun o => below_at hb6 (g) o (by first | omega | (simp only [ZA, ZS, ZD]; omega)); have hb6f1 := fun o => below_fr hb6 (g) o (by first | omega | (simp only [ZA, ZS, ZD]; omega)); have hb6l1 : g < (w4).heap.size := (by omega); have hb6c2 := fun o => below_at hb6 (wr.heap.size) o (by first | omega | (simp only [ZA, ZS, ZD]; omega)); have hb6f2 := fun o => below_fr hb6 (wr.heap.size) o (by first | omega | (simp only [ZA, ZS, ZD]; omega)); have hb6l2 : wr.heap.size < (w4).heap.size := (by omega)); obtain ⟨s4, A5, n5, c5, B5, m5, d5, rfl⟩ := own4.form) | fail)
              all_goals
                have hb9 : Below wq.heap.size wq w4 := (by have z0 := Below.size hb6; (try simp only [ZA, ZS, ZD, ZN] at z0 ⊢; skip); repeat' (first | (with_reducible exact Below.refl _ _) | (with_reducible assumption) | (with_reducible refine Below.alloc ?_ ?_ _) | (with_reducible refine Below.drew ?_) | (with_reducible refine below_drewN ?_ _) | (with_reducible refine Below.setCell ?_ ?_ _) | (with_reducible refine Below.trans ?_ (Below.mono (by with_reducible assumption) ?_)) | omega | (simp only [ZA, ZS, ZD, ZN]; omega) | go_size))
                have hst := (HOn.out.below hb9).set hfn (own4.rs (b0 := wM.heap.size))
                have hs := (HX.out.below hb9).same htn hst.2 (f' := fun b => if b = f then P k tt f + q else P k tt b) (hst.1.congr fun b _ => by
                  rw [upd_can]
                  unfold can upd
                  by_cases e : b = f
                  · simp [e]
                  · simp [e]) (by have := hb9.size; omega)
                have hcz : ∀ b o, b < wq.heap.size → b ≠ g → (((w4.setCell ⟨g, f * 3, none⟩ (.bool s4)).setCell ⟨g, f * 3 + 1, none⟩ (.slice A5 n5 c5)).setCell ⟨g, f * 3 + 2, none⟩ (.slice B5 m5 d5)).cell? ⟨b, o, none⟩ = wq.cell? ⟨b, o, none⟩ := fun b o h1 h2 => by
                  rw [World.cell?_setCell_far _ _ _ _ (fun e => h2 e.symm), World.cell?_setCell_far _ _ _ _ (fun e => h2 e.symm), World.cell?_setCell_far _ _ _ _ (fun e => h2 e.symm)]
                  exact hb9.cell (p := ⟨b, o, none⟩) h1
                have hbz9 := (HB5.out.trans (HAL2.out.mono (by omega))).trans ((hb9.mono (by omega)).trans hs.2.2)
                have hsz9 := hs.2.2.size
                have hmz := hs.1.mg
                have hrz := (HR1.out.kp (Kp.of_below hb9)).kp hs.2.1
                have hTz := (((hTq.below hb9 (by omega)).set g (f * 3) (.bool s4)).set g (f * 3 + 1) (.slice A5 n5 c5)).set g (f * 3 + 2) (.slice B5 m5 d5)
                obtain ⟨wz, hwz2⟩ : ∃ wz, wz = (((w4.setCell ⟨g, f * 3, none⟩ (.bool s4)).setCell ⟨g, f * 3 + 1, none⟩ (.slice A5 n5 c5)).setCell ⟨g, f * 3 + 2, none⟩ (.slice B5 m5 d5)) := ⟨_, rfl⟩
                rw [← hwz2] at hcz hbz9 hmz hsz9 hrz hTz
                rw [← hwz2]
                have y0 := (hcz wr.heap.size 0 (by omega) (by omega)).trans z0
                have y1 := (hcz wr.heap.size 1 (by omega) (by omega)).trans z1
                have y2 := (hcz wr.heap.size 2 (by omega) (by omega)).trans z2
                have y3 := (hcz wr.heap.size 3 (by omega) (by omega)).trans z3
                have y4 := (hcz wr.heap.size 4 (by omega) (by omega)).trans z4
                have QZ := Lib.hid (HQQ.out _ hrz)
                have HMZ := Lib.hid hmz
                have HBZ := Lib.hid hbz9
                have HNR : Hid (∀ cur fz, wz.heap[wr.heap.size]? = some (.cells cur 30 fz) → False) := fun cur fz e => by
                  obtain ⟨_, _, e2⟩ := hTz
                  rw [e2] at e
                  injection e with e
                  injection e with _ e _
                  exact absurd e (by decide)
                clear hTz hTq hwz2 hcz hbz9 hmz hrz z0 z1 z2 z3 z4 hs hst hb9 hb6 own4 hcellq o0 o1 o2 hfz HX HOn
                obtain ⟨A9, c9, hX⟩ := HMZ.out.row f
                obtain ⟨g2, rfl⟩ := hX.head hfn (by omega)
                have hgl2 := (hX.own hfn).lt
                have hgb2 := (hX.own hfn).block.1
                have hol2 := HMZ.out.lt
                have hne2 : g2 ≠ wM.heap.size := hX.ne hfn rfl
                have hcell2 : wz.cell? ⟨wM.heap.size, f, none⟩ = some (.slice (some ⟨g2, 0, none⟩) c.nd c9) := hX.cell hfn
                have hown2 : OwR wz wM.heap.size (some ⟨g2, 0, none⟩) c9 c.nd (can (upd (P k) tt (fun b => if b = f then P k tt f + q else P k tt b) f)) := hX.own hfn
                obtain ⟨s0', A3', n3'', c3'', B3', m3', d3', o0', o1', o2', r0'⟩ := hown2.at_ hfn
                have hent : upd (P k) tt (fun b => if b = f then P k tt f + q else P k tt b) f f = P k f f := by
                  unfold upd
                  rw [if_neg hft]
                have r0c : RdS wz wM.heap.size (rv s0' A3' n3'' c3'' B3' m3' d3') (canR (upd (P k) tt (fun b => if b = f then P k tt f + q else P k tt b) f f)) := r0'
                rw [hent] at r0c
                have qd2 := r0c.canQ (hsk f f)
                have KB := Lib.hid (fun W (hb : Below wz.heap.size wz W) => rsubQ (qd2.below hb) (QZ.out.below hb) (by omega) (by omega))
                have hfz2 := hown2.frozen
                have HX2 := Lib.hid hX
                have HOn2 := Lib.hid hown2
                have hgq : g2 ≠ wr.heap.size := by
                  intro e
                  have h1 := (hX.own hfn).block.2
                  obtain ⟨cur, h1⟩ := h1
                  rw [e] at h1
                  exact HNR.out _ _ h1
                clear hX hown2 r0' r0c qd2
                have nf1 : ¬ (wM.heap.size = g2) := fun e => hne2 e.symm
                have nf2 : ¬ (wr.heap.size = g2) := fun e => hgq e.symm
                go_wp2
                rw [ld_later 30 (.tmp 78)]
                go_region_held3 (fun W => W.cell? ⟨wM.heap.size, f, none⟩ = some (.slice (some ⟨g2, 0, none⟩) c.nd c9) ∧ W.cell? ⟨wr.heap.size, 0, none⟩ = some (.int .i64 (f : Int)) ∧ W.cell? ⟨wr.heap.size, 2, none⟩ = some (.bool s1) ∧ W.cell? ⟨wr.heap.size, 3, none⟩ = some (.slice A1 n1 c1) ∧ W.cell? ⟨wr.heap.size, 4, none⟩ = some (.slice B1 m1 d1)) (go_keep)
                  (first | ((go_at_call 56; (with_reducible refine (KB.out _ (by (skip); repeat' (first | (with_reducible exact Below.refl _ _) | (with_reducible assumption) | (with_reducible refine Below.alloc ?_ ?_ _) | (with_reducible refine Below.drew ?_) | (with_reducible refine below_drewN ?_ _) | (with_reducible refine Below.setCell ?_ ?_ _) | (with_reducible refine Below.trans ?_ (Below.mono (by with_reducible assumption) ?_)) | omega | (simp only [ZA, ZS, ZD, ZN]; omega) | go_size))).mono ?_); rintro e w6 ⟨⟨v6, rfl, own6⟩, hb7⟩; have hb7z := Below.size hb7; (try simp only [ZA, ZS, ZD] at hb7z); have hb7c0 := fun o => below_at hb7 (wM.heap.size) o (by first | omega | (simp only [ZA, ZS, ZD]; omega)); have hb7f0 := fun o => below_fr hb7 (wM.heap.size) o (by first | omega | (simp only [ZA, ZS, ZD]; omega)); have hb7l0 : wM.heap.size < (w6).heap.size := (by omega); have hb7c1 := fun o => below_at hb7 (g2) o (by first | omega | (simp only [ZA, ZS, ZD]; omega)); have hb7f1 := fun o => below_fr hb7 (g2) o (by first | omega | (simp only [ZA, ZS, ZD]; omega)); have hb7l1 : g2 < (w6).heap.size := (by omega); have hb7c2 := fun o => below_at hb7 (wr.heap.size) o (by first | omega | (simp only [ZA, ZS, ZD]; omega)); have hb7f2 := fun o => below_fr hb7 (wr.heap.size) o (by first | omega | (simp only [ZA, ZS, ZD]; omega)); have hb7l2 : wr.heap.size < (w6).heap.size := (by omega)); obtain ⟨s6, A7, n7, c7, B7, m7, d7, rfl⟩ := own6.form) | fail)
                all_goals
                  have hb8 : Below wz.heap.size wz w6 := (by have z0 := Below.size hb7; (try simp only [ZA, ZS, ZD, ZN] at z0 ⊢; skip); repeat' (first | (with_reducible exact Below.refl _ _) | (with_reducible assumption) | (with_reducible refine Below.alloc ?_ ?_ _) | (with_reducible refine Below.drew ?_) | (with_reducible refine below_drewN ?_ _) | (with_reducible refine Below.setCell ?_ ?_ _) | (with_reducible refine Below.trans ?_ (Below.mono (by with_reducible assumption) ?_)) | omega | (simp only [ZA, ZS, ZD, ZN]; omega) | go_size))
                  have hst := (HOn2.out.below hb8).set hfn (own6.rs (b0 := wM.heap.size))
                  have hs := (HX2.out.below hb8).same hfn hst.2 (f' := fun b => if b = f then P k f f - q else upd (P k) tt (fun b => if b = f then P k tt f + q else P k tt b) f b) (hst.1.congr fun b _ => by
                    rw [upd_can]
                    unfold can
                    rw [show upd (fun b => upd (P k) tt (fun b => if b = f then P k tt f + q else P k tt b) f b) f (P k f f - q) b = if b = f then P k f f - q else upd (P k) tt (fun b => if b = f then P k tt f + q else P k tt b) f b from rfl]) (by have := hb8.size; omega)
                  have HF := Lib.hid (hs.1.mg.congr (len' := fun _ => c.nd) (M' := P (k + 1)) (fun _ _ => rfl) (fun a b ha hb => by
                    rw [HP2z.out a b, two_add (fun e => hft e.symm)]))
                  have HBF2 := Lib.hid (HBZ.out.trans ((hb8.mono (by omega)).trans hs.2.2))
                  clear hs hst
                  go_wp2
                  go_roundw
                  case rel => exact ⟨k + 1, by omega, by go_num, HF.out, HBF2.out⟩
                  case measure => simp [intOf]; omega
            · have hkm : k = c.nm := by omega
              subst hkm
              have HO := Lib.hid own
              have HBE := Lib.hid hb
              obtain ⟨x0, -, -, -⟩ := HPC.out _ (HB2.out.trans (hb.mono (by omega)))
              clear own hb
              obtain ⟨wE, hwE⟩ : ∃ wE, wE = wr := ⟨_, rfl⟩
              subst hwE
              have hzE := HBE.out.size
              obtain ⟨mp, hmp9⟩ : ∃ mp, mp = c.nd - 1 := ⟨_, rfl⟩
              have hsub : (c.nd : Int) - 1 = (mp : Int) := by omega
              have hmp0 : (0 : Int) ≤ (mp : Int) := by omega
              have hmp1 : (mp : Int) < (c.nd : Int) := by omega
              have hmpN : mp < c.nd := by omega
              have HMP := Lib.hid hmp9
              clear hmp9
              go_wp2_with (first | (at_make; refine wpList_makeR rfl (.tmp 86) (.tmp 86) rfl wM.heap.size c.nd (c.nd : Int) (c.nd : Int) (by first | rfl | simp [Act.eval]) (by first | rfl | simp [Act.eval]) rfl rfl (by omega) (by omega) ?_; intro w6 own6 hb6) | fail)
              have hz6 := hb6.size
              have HM6 := Lib.hid (HO.out.below hb6)
              have HN6 := Lib.hid (HO.out.nb.below hb6 HO.out.lt)
              have HO6 := Lib.hid own6
              have HB6 : Hid (Below wM.heap.size wM w6) := HBE.out.trans (hb6.mono hzE)
              have hgb6 := own6.lt
              clear own6 hb6 x0
              obtain ⟨OK, hOK⟩ : ∃ OK : Nat → Mf, OK = fun k => oneK (P c.nm) c.nd k := ⟨_, rfl⟩
              have HK0 : Hid (OK 0 = P c.nm) := by show OK 0 = _; rw [hOK]; exact oneK_0 _ _
              have HKS : Hid (∀ k, upd (OK k) mp (upd (OK k mp) k 1) = OK (k + 1)) := fun k => by rw [hOK, HMP.out]; exact oneK_s _ _ _
              have HKE : Hid (∀ i j, j < c.nd → OK c.nd i j = PQ i j) := fun i j hj => by rw [hOK]; exact HSM.out i j hj
              clear hOK
              go_loopw [90] (fun i wr => ∃ k : Nat, k ≤ c.nd ∧ i = .int .i64 (k : Int) ∧ MatG wr wM.heap.size wM.heap.size c.nd c.nd (fun _ => c.nd) (OK k) ∧ OwR wr wM.heap.size (some ⟨wE.heap.size, 0, none⟩) c.nd c.nd (can fun _ => 0) ∧ NB wr wM.heap.size c.nd wE.heap.size ∧ Below wM.heap.size wM wr ∧ wE.heap.size < wr.heap.size) (fun i _ => c.nd - (intOf i).toNat)
              case atStart => exact ⟨0, Nat.zero_le _, rfl, by rw [HK0.out]; exact HM6.out, HO6.out, HN6.out, HB6.out, hgb6⟩
              case round =>
                clear HM6 HO6 HN6 HB6
                obtain ⟨k, hk, rfl, oM, oR, oN, hb, hgE⟩ := hrel
                have hz8 := hb.size
                by_cases hlt : k < c.nd
                · obtain ⟨A9, c9, hX⟩ := oM.row mp
                  obtain ⟨g, rfl⟩ := hX.head hmpN (by omega)
                  have hgl := (hX.own hmpN).lt
                  have hgb := (hX.own hmpN).block.1
                  have hol := oM.lt
                  have hne : g ≠ wM.heap.size := hX.ne hmpN rfl
                  have hcell := hX.cell hmpN
                  have hown : OwR wr wM.heap.size (some ⟨g, 0, none⟩) c9 c.nd (can (OK k mp)) := hX.own hmpN
                  obtain ⟨s0, A3, n3', c3', B3, m3, d3, o0, o1, o2, r0⟩ := hown.at_ hlt
                  have hfz := hown.frozen
                  have hneE : wE.heap.size ≠ g := oN.ne hmpN hcell
                  obtain ⟨x0, -, -, -⟩ := HPC.out _ (HB2.out.trans (hb.mono (by omega)))
                  have HX := Lib.hid hX
                  have HOn := Lib.hid hown
                  have HR := Lib.hid oR
                  have HN := Lib.hid oN
                  have HB := Lib.hid hb
                  clear hX hown r0 oM oR oN hb
                  have hki : (k : Int) < (c.nd : Int) := by omega
                  have hk0 : (0 : Int) ≤ (k : Int) := by omega
                  have ne1 : ¬ (wM.heap.size = g) := fun e => hne e.symm
                  have ne2 : ¬ (w.heap.size = g) := by have := HW0z.out; omega
                  have ne3 : ¬ (g = w.heap.size) := fun e => ne2 e.symm
                  have hwl : w.heap.size < wr.heap.size := by have := HW0z.out; omega
                  have hwrap : IntKind.i64.wrap ((c.nd : Int) - 1) = (mp : Int) := by rw [hsub]; exact wrap_small (by omega)
                  have hwrap2 : IntKind.i64.wrap (mp : Int) = (mp : Int) := wrap_small (by omega)
                  go_wp2
                  go_region_held3 (fun W => W.cell? ⟨wM.heap.size, mp, none⟩ = some (.slice (some ⟨g, 0, none⟩) c.nd c9) ∧ W.cell? ⟨w.heap.size, 0, none⟩ = some (.int .i64 (c.nd : Int))) (go_keep)
                    (first | ((go_at_call 42; (with_reducible refine (K0.out _).mono ?_); rintro e w4 ⟨⟨v4, rfl, own4⟩, hb4⟩; have hb4z := Below.size hb4; (try simp only [ZA, ZS, ZD] at hb4z); have hb4c0 := fun o => below_at hb4 (wM.heap.size) o (by first | omega | (simp only [ZA, ZS, ZD]; omega)); have hb4f0 := fun o => below_fr hb4 (wM.heap.size) o (by first | omega | (simp only [ZA, ZS, ZD]; omega)); have hb4l0 : wM.heap.size < (w4).heap.size := (by omega); have hb4c1 := fun o => below_at hb4 (g) o (by first | omega | (simp only [ZA, ZS, ZD]; omega)); have hb4f1 := fun o => below_fr hb4 (g) o (by first | omega | (simp only [ZA, ZS, ZD]; omega)); have hb4l1 : g < (w4).heap.size := (by omega); have hb4c2 := fun o => below_at hb4 (w.heap.size) o (by first | omega | (simp only [ZA, ZS, ZD]; omega)); have hb4f2 := fun o => below_fr hb4 (w.heap.size) o (by first | omega | (simp only [ZA, ZS, ZD]; omega)); have hb4l2 : w.heap.size < (w4).heap.size := (by omega)); obtain ⟨s4, A5, n5, c5, B5, m5, d5, rfl⟩ := own4.form) | fail)
                  all_goals
                    have hb9 : Below wr.heap.size wr w4 := (by have z0 := Below.size hb4; (try simp only [ZA, ZS, ZD, ZN] at z0 ⊢; skip); repeat' (first | (with_reducible exact Below.refl _ _) | (with_reducible assumption) | (with_reducible refine Below.alloc ?_ ?_ _) | (with_reducible refine Below.drew ?_) | (with_reducible refine below_drewN ?_ _) | (with_reducible refine Below.setCell ?_ ?_ _) | (with_reducible refine Below.trans ?_ (Below.mono (by with_reducible assumption) ?_)) | omega | (simp only [ZA, ZS, ZD, ZN]; omega) | go_size))
                    have hst := (HOn.out.below hb9).set hlt (own4.rs (b0 := wM.heap.size))
                    have hs := (HX.out.below hb9).same hmpN hst.2 (f' := upd (OK k mp) k 1) (hst.1.congr fun b _ => by
                      rw [upd_can]
                      rfl) (by have := hb9.size; omega)
                    have hR2 := (HR.out.below hb9).keep hst.2 hs.2.1 hneE
                    have hN2 : NB _ wM.heap.size c.nd wE.heap.size := (HN.out.below hb9 (by omega)).keep fun i _ => grown_at hst.2 i (by have := hb9.size; omega) (Ne.symm hne)
                    have hmg := hs.1.mg
                    rw [HKS.out] at hmg
                    have HF := Lib.hid hmg
                    have HR2 := Lib.hid hR2
                    have HN2 := Lib.hid hN2
                    have HBF := Lib.hid (HB.out.trans ((hb9.mono (by omega)).trans hs.2.2))
                    have hsz := hst.2.size
                    have hsz9 := hb9.size
                    clear hs hst hmg hR2 hN2
                    go_wp2
                    go_roundw
                    case rel => exact ⟨k + 1, by omega, by go_num, HF.out, HR2.out, HN2.out, HBF.out, by omega⟩
                    case measure => simp [intOf]; omega
                · have hkm : k = c.nd := by omega
                  subst hkm
                  have ofz := oR.frozen
                  obtain ⟨u0, u1, u2, u3, u4, u5, u6, v0, v1, v2, -⟩ := oR.at_ hmpN
                  obtain ⟨x0, -, -, -⟩ := HPC.out _ (HB2.out.trans (hb.mono (by omega)))
                  have HM9 := Lib.hid oM
                  have HR9 := Lib.hid oR
                  have HN9 := Lib.hid oN
                  have HB9 := Lib.hid hb
                  clear oM oR oN hb
                  have hwrap : IntKind.i64.wrap ((c.nd : Int) - 1) = (mp : Int) := by rw [hsub]; exact wrap_small (by omega)
                  have hwrap2 : IntKind.i64.wrap (mp : Int) = (mp : Int) := wrap_small (by omega)
                  have hwl : w.heap.size < wr.heap.size := by have := HW0z.out; omega
                  have ne2 : ¬ (w.heap.size = wE.heap.size) := by have := HW0z.out; omega
                  have ne3 : ¬ (wE.heap.size = w.heap.size) := fun e => ne2 e.symm
                  go_wp2
                  go_region_held3 (fun W => W.cell? ⟨w.heap.size, 0, none⟩ = some (.int .i64 (c.nd : Int))) (go_keep)
                    (first | ((go_at_call 42; (with_reducible refine (K0.out _).mono ?_); rintro e w7 ⟨⟨v7, rfl, own7⟩, hb7⟩; have hb7z := Below.size hb7; (try simp only [ZA, ZS, ZD] at hb7z); have hb7c0 := fun o => below_at hb7 (wE.heap.size) o (by first | omega | (simp only [ZA, ZS, ZD]; omega)); have hb7f0 := fun o => below_fr hb7 (wE.heap.size) o (by first | omega | (simp only [ZA, ZS, ZD]; omega)); have hb7l0 : wE.heap.size < (w7).heap.size := (by omega); have hb7c1 := fun o => below_at hb7 (w.heap.size) o (by first | omega | (simp only [ZA, ZS, ZD]; omega)); have hb7f1 := fun o => below_fr hb7 (w.heap.size) o (by first | omega | (simp only [ZA, ZS, ZD]; omega)); have hb7l1 : w.heap.size < (w7).heap.size := (by omega)); obtain ⟨s9, A9, n9, c9, B9, m9, d9, rfl⟩ := own7.form) | fail)
                  all_goals
                    have hb67 : Below wr.heap.size wr w7 := (by have z0 := Below.size hb7; (try simp only [ZA, ZS, ZD, ZN] at z0 ⊢; skip); repeat' (first | (with_reducible exact Below.refl _ _) | (with_reducible assumption) | (with_reducible refine Below.alloc ?_ ?_ _) | (with_reducible refine Below.drew ?_) | (with_reducible refine below_drewN ?_ _) | (with_reducible refine Below.setCell ?_ ?_ _) | (with_reducible refine Below.trans ?_ (Below.mono (by with_reducible assumption) ?_)) | omega | (simp only [ZA, ZS, ZD, ZN]; omega) | go_size))
                    have hz7 := hb67.size
                    have hol := HM9.out.lt
                    have st := (HR9.out.below hb67).set hmpN (own7.rs (b0 := wM.heap.size))
                    have hMO := (HM9.out.below hb67).other (HR9.out.below hb67) (HN9.out.below hb67 (by omega)) st.2
                    obtain ⟨hM8, -, hN8, -⟩ := hMO
                    have hr8 := st.1
                    rw [upd_can] at hr8
                    have e8 : upd (fun _ => (0 : Rat)) mp ((1 : Nat) : Rat) = rhL c.nd := by rw [HMP.out]; exact rhL_set c.nd
                    rw [e8] at hr8
                    have hB8 := (HB9.out.trans (hb67.mono (by omega))).trans (below_of_row st.2 (fun q hq => by injection hq with hq; omega) (by omega))
                    have hz89 := st.2.size
                    have hmi := (MatG.mo (hM8.congr (M' := PQ) (fun _ _ => rfl) (fun i k _ hk => HKE.out i k hk))).mi (show wM.heap.size ≤ _ by simp; omega)
                    have hri := hr8.ri (show wM.heap.size ≤ _ by simp; omega)
                    have HMI := Lib.hid hmi
                    have HRI := Lib.hid hri
                    have HBW := Lib.hid (HPB.out _ (HB2.out.trans (hB8.mono (by omega))))
                    clear st hM8 hN8 hr8 hB8 hb67 hb7 own7 e8 hmi hri
                    (go_wp2_with fail; (with_reducible refine (KS.out _ (some ⟨wM.heap.size, 0, none⟩) (some ⟨wE.heap.size, 0, none⟩) c.nd c.nd HMI.out HRI.out).mono ?_); rintro e w9 ⟨⟨A7, c7, rfl, r9⟩, hb9⟩; have hb9z := Below.size hb9; (try simp only [ZA, ZS, ZD, ZN] at hb9z))
                    have HR9' := Lib.hid r9
                    have HBF := Lib.hid (HBW.out.trans (hb9.mono HBW.out.size))
                    clear r9 hb9
                    go_wp2
                    go_ret2
                    exact ⟨⟨A7, c7, rfl, HR9'.out⟩, HBF.out⟩
    · have hcP := Lib.hid (Chn.codeP_n h0 h1)
      have e1 : decide ((1 : Int) < (c.ncl : Int)) = true := by simp; omega
      obtain ⟨n9, hn9⟩ : ∃ n9, n9 = c.ncl := ⟨_, rfl⟩
      rw [← hn9] at K2 e1
      have hm : Hid (outN' c.codeP c.nd = 0) := by show outN' c.codeP c.nd = 0; unfold outN'; rw [if_neg (by rw [hcP.out]; omega)]
      clear h hS hs ok h0 h1 hn9 hncl
      go_enter Tryz.func21, Tryz.ntmps21
      (go_wp2_with fail; (with_reducible refine (K1.out _ (by (skip); repeat' (first | (with_reducible exact Below.refl _ _) | (with_reducible assumption) | (with_reducible refine Below.alloc ?_ ?_ _) | (with_reducible refine Below.drew ?_) | (with_reducible refine below_drewN ?_ _) | (with_reducible refine Below.setCell ?_ ?_ _) | (with_reducible refine Below.trans ?_ (Below.mono (by with_reducible assumption) ?_)) | omega | (simp only [ZA, ZS, ZD, ZN]; omega) | go_size))).mono ?_); rintro e w1 ⟨rfl, hb1⟩; have hb1z := Below.size hb1; (try simp only [ZA, ZS, ZD, ZN] at hb1z); have hb1c0 := fun o => below_at hb1 (w.heap.size) o (by first | omega | (simp only [ZA, ZS, ZD, ZN]; omega)); have hb1f0 := fun o => below_fr hb1 (w.heap.size) o (by first | omega | (simp only [ZA, ZS, ZD, ZN]; omega)))
      have hB1 := HPB.out w1 (by rw [← hW0z]; exact hb1)
      have hz1 := hB1.size
      (go_wp2_with fail; (with_reducible refine (K2.out _ hB1).mono ?_); rintro e w2 ⟨⟨A1, c1, rfl, -⟩, hb2⟩; have hb2z := Below.size hb2; (try simp only [ZA, ZS, ZD, ZN] at hb2z))
      have HBF := Lib.hid (hB1.trans (hb2.mono hz1))
      clear hB1 hb1 hb2
      go_wp2
      go_ret2
      exact ⟨by rw [hm.out, hcP.out]; exact ⟨_, _, rfl, RowA.nil_ _ _ _ _⟩, HBF.out⟩
  · have hcP := Lib.hid (Chn.codeP_a h0)
    have hm : Hid (outN' c.codeP c.nd = 0) := by show outN' c.codeP c.nd = 0; unfold outN'; rw [if_neg (by rw [hcP.out]; exact h0)]
    obtain ⟨cc, hcc⟩ : ∃ cc, cc = c.code := ⟨_, rfl⟩
    rw [← hcc] at K1 hcP h0
    have e5 : (cc != 0) = true := by simpa using h0
    have e6 : (cc == 0) = false := by simpa using h0
    clear h hS hs h0 hcc
    go_enter Tryz.func21, Tryz.ntmps21
    (go_wp2_with fail; (with_reducible refine (K1.out _ (by (skip); repeat' (first | (with_reducible exact Below.refl _ _) | (with_reducible assumption) | (with_reducible refine Below.alloc ?_ ?_ _) | (with_reducible refine Below.drew ?_) | (with_reducible refine below_drewN ?_ _) | (with_reducible refine Below.setCell ?_ ?_ _) | (with_reducible refine Below.trans ?_ (Below.mono (by with_reducible assumption) ?_)) | omega | (simp only [ZA, ZS, ZD, ZN]; omega) | go_size))).mono ?_); rintro e w1 ⟨rfl, hb1⟩; have hb1z := Below.size hb1; (try simp only [ZA, ZS, ZD, ZN] at hb1z); have hb1c0 := fun o => below_at hb1 (w.heap.size) o (by first | omega | (simp only [ZA, ZS, ZD, ZN]; omega)); have hb1f0 := fun o => below_fr hb1 (w.heap.size) o (by first | omega | (simp only [ZA, ZS, ZD, ZN]; omega)))
    have hB1 := HPB.out w1 (by rw [← hW0z]; exact hb1)
    go_wp2
    go_ret2
    exact ⟨by rw [hm.out, hcP.out]; exact ⟨_, _, rfl, RowA.nil_ _ _ _ _⟩, hB1⟩
end Go.Proofs.YtmebdlilbnadgaaGreatDoor
