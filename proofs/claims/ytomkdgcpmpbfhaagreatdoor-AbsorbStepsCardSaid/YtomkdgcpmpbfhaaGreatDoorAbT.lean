/- Contracts of functions and lemmas, used by the proofs of the given statements. No condition beyond those that each lemma names. -/
import Derived.Test.YtomkdgcpmpbfhaaGreatDoorJLawTr
namespace Go.Proofs.YtomkdgcpmpbfhaaGreatDoor
open Go.RowKit
set_option linter.unusedSimpArgs false
set_option linter.unusedVariables false
set_option maxRecDepth 20000
attribute [local irreducible] nv wp win plainB validR valR canR mvE chkM codeC spr sprN chg cnt cntB ixB kept sysK plB parM
/-! ## package absorb: system, the walk -/
def RetSys (l : Nat → Bool) (n : Nat) (P : Mf) (b : Nat) (e : Ending) (w' : World) : Prop :=
  ∃ A1 c1 A2 c2, e = .returned (.tuple #[.slice A1 (cntB l n) c1, .slice A2 (cntB l n) c2]) ∧ OwI w' b A1 c1 (kept l n) ∧ MatI w' w'.heap.size A2 (cntB l n) (fun _ => cntB l n) (fun i => can (P i))
set_option maxHeartbeats 16000000 in
theorem system_any {w : World} {AM AD Al : Option Addr} {cm cd cl : Nat} {c : Chn} {l : Nat → Bool} (back : Bool) (h : ChI w w.heap.size AM cm AD cd c) (ok : c.Ok) (hs : ChS c 400) (hl : MkI w Al c.nd l) (hsz : ∀ k, k ≤ c.nm → ∀ i j, Sz 400 (sysK l c.f c.t c.q back k i j)) :
    Calls Tryz.prog 70 #[cv c.st c.sr AM c.nm cm AD c.nd cd, .slice Al c.nd cl, .bool back] w fun e w' => RetSys l c.nd (parM l c.f c.t c.q back c.nd c.nm) w.heap.size e w' ∧ Below w.heap.size w w' := by
  have HMV := Lib.hid (fun W hb k hk => h.mv_later (W := W) ok hb (k := k) hk)
  have HMK := Lib.hid (fun W hb i hi => hl.later (W := W) hb (i := i) hi)
  have hnm := hs.nm
  have hn1 := ok.lo
  have hn2 := ok.hi
  have HSQ := Lib.hid (fun k hk => (hs.siz ok).raw k hk)
  have HSP : Hid (∀ k, k ≤ c.nm → ∀ a b, Sz 400 (parM l c.f c.t c.q back c.nd k a b)) := fun k hk a b => by unfold parM; exact hsz k hk _ _
  have HP0 : Hid (parM l c.f c.t c.q back c.nd 0 = fun _ _ => 0) := by show parM l c.f c.t c.q back c.nd 0 = fun _ _ => 0; unfold parM sysK; rfl
  have HPN := Lib.hid (fun k (h : l (c.f k) = false) => parM_no (T := c.t) (q := c.q) (back := back) (n := c.nd) h)
  have HP1 := Lib.hid (fun k (h : l (c.f k) = true) (ht : l (c.t k) = false) hF a b ha hb => parM_one (F := c.f) (T := c.t) (q := c.q) (back := back) (n := c.nd) (k := k) h ht hF (a := a) (b := b) ha hb)
  have HP2 := Lib.hid (fun k (h : l (c.f k) = true) (ht : l (c.t k) = true) hF hT hne a b ha hb => parM_two (F := c.f) (T := c.t) (q := c.q) (back := back) (n := c.nd) (k := k) h ht hF hT hne (a := a) (b := b) ha hb)
  obtain ⟨P, hP⟩ : ∃ P : Nat → Mf, P = fun k => parM l c.f c.t c.q back c.nd k := ⟨_, rfl⟩
  have hPn : parM l c.f c.t c.q back c.nd c.nm = P c.nm := by rw [hP]
  rw [hPn]
  have HSP' : Hid (∀ k, k ≤ c.nm → ∀ a b, Sz 400 (P k a b)) := by rw [hP]; exact HSP
  have HP0' : Hid (P 0 = fun _ _ => 0) := by rw [hP]; exact HP0
  have HPN' : Hid (∀ k, l (c.f k) = false → P (k + 1) = P k) := by rw [hP]; exact HPN
  have HP1' : Hid (∀ k, l (c.f k) = true → l (c.t k) = false → c.f k < c.nd → ∀ a b, a < cntB l c.nd → b < cntB l c.nd → P (k + 1) a b = if a = cntB l (c.f k) ∧ b = cntB l (c.f k) then P k a b + c.q k else P k a b) := by rw [hP]; exact HP1
  have HP2' : Hid (∀ k, l (c.f k) = true → l (c.t k) = true → c.f k < c.nd → c.t k < c.nd → c.f k ≠ c.t k → ∀ a b, a < cntB l c.nd → b < cntB l c.nd → P (k + 1) a b = if a = cntB l (if back then c.t k else c.f k) ∧ b = cntB l (if back then c.f k else c.t k) then P k a b - c.q k else if a = cntB l (c.f k) ∧ b = cntB l (c.f k) then P k a b + c.q k else P k a b) := by rw [hP]; exact HP2
  have HCI := Lib.hid (fun s (hs : s < c.nd) (h : l s = true) => (ixB_cnt hs h).1)
  have HCN := Lib.hid (fun s t (hs : s < c.nd) (ht : t < c.nd) (h : l s = true) (h2 : l t = true) (hne : s ≠ t) (e : cntB l s = cntB l t) => hne (by have h3 := (ixB_cnt hs h).2; have h4 := (ixB_cnt ht h2).2; rw [e, h4] at h3; exact h3.symm))
  have HCL := Lib.hid (fun k => (cntB_le : cntB l k ≤ k))
  have HK0 := Lib.hid (by unfold kept; rfl : kept l 0 = [])
  have HKY := Lib.hid (fun k (h : l k = true) => kept_yes h)
  have HKN := Lib.hid (fun k (h : l k = false) => kept_no h)
  have HC0 := Lib.hid (cntB_zero (B := l))
  have HCY := Lib.hid (fun k (h : l k = true) => cntB_yes h)
  have HCNo := Lib.hid (fun k (h : l k = false) => cntB_no h)
  have HKL := Lib.hid (fun k => (kept_len : (kept l k).length = cntB l k))
  have HPY := Lib.hid (fun k (h : l k = true) => plB_yes h)
  have HPNo := Lib.hid (fun k (h : l k = false) => plB_no h)
  have HPA := Lib.hid (fun k i (h : l i = true) (hi : i < k) => plB_at h hi)
  have HPZ : Hid (plB l 0 = fun _ => 0) := by show plB l 0 = fun _ => 0; funext i; unfold plB; rw [if_neg (fun h => by omega)]
  clear hP hPn HSP HP0 HPN HP1 HP2 hsz h ok hs hl
  obtain ⟨bl, ol, rfl, hbl, -⟩ := HMK.out w (Below.refl _ _) 0 (by omega)
  have hmk := fun W (hb : Below w.heap.size w W) i (hi : i < c.nd) => (by
    obtain ⟨bd, od, e, -, p⟩ := HMK.out W hb i hi
    cases e
    exact p : W.cell? ⟨bl, ol + i, none⟩ = some (.bool (l i)))
  have HL := Lib.hid hmk
  clear hmk HMK
  obtain ⟨st, hst⟩ : ∃ st, st = c.st := ⟨_, rfl⟩
  obtain ⟨sr, hsr⟩ : ∃ sr, sr = c.sr := ⟨_, rfl⟩
  rw [← hst, ← hsr]
  clear hst hsr
  have HPC := Lib.hid (fun W hb => par_cells (W := W) (w := w) (a := .int .i64 st) (b := .int .i64 sr) (d := .slice AM c.nm cm) (e := .slice AD c.nd cd) (t := 25) hb)
  have HPB := Lib.hid (fun W hb => par_below (W := W) (w := w) (o := .cells #[.int .i64 st, .int .i64 sr, .slice AM c.nm cm, .slice AD c.nd cd] 25) hb)
  have hW0z : (w.alloc (.cells #[.int .i64 st, .int .i64 sr, .slice AM c.nm cm, .slice AD c.nd cd] 25)).heap.size = w.heap.size + 1 := by simp
  have HW0 := Lib.hid (Below.refl (w.heap.size + 1) (w.alloc (.cells #[.int .i64 st, .int .i64 sr, .slice AM c.nm cm, .slice AD c.nd cd] 25)))
  go_enter Tryz.func70, Tryz.ntmps70
  go_wp2_with (first | (at_make; refine wpList_makeK rfl (.tmp 19) (.tmp 19) rfl (w.heap.size + 1) c.nd (c.nd : Int) (c.nd : Int) (by simp [Act.eval]) (by simp [Act.eval]) rfl rfl (by omega) (by simp) ?_; intro w1 own1 hb1) | fail)
  rw [hW0z] at own1 hb1
  have hz1 := hb1.size
  rw [hW0z] at hz1
  have hg1 := (World.ownsRow.lt own1 (w.heap.size + 1) rfl).2
  generalize w.alloc (.cells #[.int .i64 st, .int .i64 sr, .slice AM c.nm cm, .slice AD c.nd cd] 25) = W0 at *
  go_loopw [23, 8] (fun i ss wr => ∃ (k : Nat) (A : Option Addr) (cp : Nat), k ≤ c.nd ∧ i = .int .i64 (k : Int) ∧ ss = .slice A (cntB l k) cp ∧ OwK wr (w.heap.size + 1) (some ⟨w.heap.size + 1, 0, none⟩) c.nd c.nd (plB l k) ∧ OwI wr w1.heap.size A cp (kept l k) ∧ Below (w.heap.size + 1) W0 wr ∧ w1.heap.size ≤ wr.heap.size) (fun i _ _ => c.nd - (intOf i).toNat)
  case atStart => exact ⟨0, none, 0, Nat.zero_le _, rfl, by rw [HC0.out], by rw [HPZ.out]; exact own1, by rw [HK0.out]; exact OwI.nil_ _ _, hb1, Nat.le_refl _⟩
  case round =>
    obtain ⟨k, A, cp, hk, rfl, rfl, oK, oI, hb, hwz⟩ := hrel
    by_cases hlt : k < c.nd
    · have hgl := HL.out wr (HPB.out _ hb) k hlt
      have hbz := hb.size
      have hbl2 : bl < wr.heap.size := by omega
      have hki : (k : Int) < (c.nd : Int) := by omega
      have hk0 : (0 : Int) ≤ (k : Int) := by omega
      cases hA : l k
      · rw [hA] at hgl
        have HE := Lib.hid (HPNo.out k hA)
        have HC := Lib.hid (HCNo.out k hA)
        have HK := Lib.hid (HKN.out k hA)
        have HO := Lib.hid oK
        have HI := Lib.hid oI
        have HB := Lib.hid hb
        clear hA oK oI hb
        go_wp2
        go_roundw
        case rel => exact ⟨k + 1, A, cp, by omega, by go_num, by rw [HC.out], by rw [← HE.out]; exact HO.out, by rw [HK.out]; exact HI.out, HB.out, hwz⟩
        case measure => simp [intOf]; omega
      · rw [hA] at hgl
        have HE := Lib.hid (HPY.out k hA)
        have HC := Lib.hid (HCY.out k hA)
        have HK := Lib.hid (HKY.out k hA)
        have hck := HCL.out k
        have hln := HKL.out k
        have hkz := oK.at_ hlt
        have hfz := oK.frozen
        have st := oK.set k (cntB l k)
        rw [HE.out] at st
        have hne : ∀ q, (Value.slice A (kept l k).length cp).ownBlock = some q → w1.heap.size ≤ q := fun q hq => (World.ownsRow.lt oI q hq).1
        have HNE := Lib.hid hne
        have oI2 := oI.kept_ st.2 (by
          cases e : (Value.slice A (kept l k).length cp).ownBlock with
          | none => exact .inl rfl
          | some q => exact .inr fun e2 => by injection e2 with e2; have := hne q e; omega)
        have hb2 := hb.trans (below_of_row st.2 (fun q hq => by injection hq with hq; omega) (by omega))
        have HO := Lib.hid st.1
        have HI := Lib.hid oI2
        have HB := Lib.hid hb2
        have hsz2 := hb2.size
        clear hA oK oI hb st oI2 hb2 hne
        go_wp2_with (first | (at_builtin; refine wpList_appI1 rfl (.tmp 34) (.tmp 36) rfl w1.heap.size A cp (cntB l k) (kept l k) hln (by first | rfl | simp [Act.eval]) (HI.out.below ((Below.refl _ _).alloc (Nat.le_refl _) _)) k wr.heap.size (by first | rfl | simp [Act.eval]) (by rw [World.cell?_alloc_at _ _ _ _ (by simp)]; rfl) (by omega) (by first | omega | (simp; omega)) ?_; intro A5 c5 w5 own5 hbel5 hgr5) | fail)
        go_roundw
        case rel =>
          have hal : Below wr.heap.size (wr.setCell ⟨w.heap.size + 1, k, none⟩ (.int .i64 ((cntB l k : Nat) : Int))) ((wr.setCell ⟨w.heap.size + 1, k, none⟩ (.int .i64 ((cntB l k : Nat) : Int))).alloc (.cells #[.int .i64 (k : Int)] 3)) := (Below.refl _ _).alloc (by simp) _
          refine ⟨k + 1, A5, c5, by omega, by go_num, by rw [HC.out], OwK.kept (HO.out.below (by simpa using hal)) hgr5 (fun e => by have := HNE.out _ e.symm; omega), by rw [HK.out]; exact own5, (HB.out.trans (hal.mono (by omega))).trans (hbel5.mono (by omega)), by have := hbel5.size; simp at this; omega⟩
        case measure => simp [intOf]; omega
    · have hkn : k = c.nd := by omega
      subst hkn
      have HI := Lib.hid oI
      have HKp := Lib.hid oK
      have HB := Lib.hid hb
      have hbz := hb.size
      have hm0 := HCL.out c.nd
      clear oI oK hb own1 hb1
      obtain ⟨wB, hwB⟩ : ∃ wB, wB = wr := ⟨_, rfl⟩
      subst hwB
      obtain ⟨m, hm⟩ : ∃ m, m = cntB l c.nd := ⟨_, rfl⟩
      rw [← hm] at hm0 HP1' HP2' HCI
      simp only [← hm]
      have HM := Lib.hid hm
      have hrw := HKL.out c.nd
      clear hm
      go_wp2_with (first | (at_make; refine wpList_makeM rfl (.tmp 40) (.tmp 40) rfl wB.heap.size m (fun _ _ => 0) (m : Int) (m : Int) (by simp [Act.eval]) (by simp [Act.eval]) rfl rfl (by omega) (Nat.le_refl _) ?_; intro w3 own3 hb3) | fail)
      have own4 := own3.congr (len' := fun j => if j < 0 then m else 0) (M' := fun _ _ => 0) (fun i _ => by simp) (fun i k _ hk => rfl)
      have HO3 := Lib.hid own4
      have HB3 := Lib.hid hb3
      clear own3 own4 hb3
      go_loopw [44] (fun i wr => ∃ k : Nat, k ≤ m ∧ i = .int .i64 (k : Int) ∧ MatG wr wB.heap.size wB.heap.size m m (fun j => if j < k then m else 0) (fun _ _ => 0) ∧ Below wB.heap.size wB wr) (fun i _ => m - (intOf i).toNat)
      case atStart => exact ⟨0, Nat.zero_le _, rfl, HO3.out, HB3.out⟩
      case round =>
        clear HO3 HB3
        obtain ⟨i, hi, rfl, own, hb⟩ := hrel
        have hbz2 := hb.size
        by_cases hlt : i < m
        · obtain ⟨A9, c9, hX⟩ := own.row i
          have hcell := hX.cell hlt
          have hfz := own.frozen
          have holt := own.lt
          simp only [Nat.lt_irrefl, if_false] at hcell
          have HX := Lib.hid hX
          have HB9 := Lib.hid hb
          have hi0 : (0 : Int) ≤ (i : Int) := by omega
          have hi1 : (i : Int) < (m : Int) := by omega
          clear hX own hb
          go_wp2_with (first | (at_make; refine wpList_makeR rfl (.tmp 50) (.tmp 50) rfl wB.heap.size m (m : Int) (m : Int) (by simp [Act.eval]) (by simp [Act.eval]) rfl rfl (by omega) (by omega) ?_; intro w5 own5 hb5; (have hcell5 := (hb5.cell (p := ⟨wB.heap.size, i, none⟩) holt).trans hcell); (have hfz5 := fun o => (below_fr hb5 (wB.heap.size) o holt))) | fail)
          have hp := HX.out.put' hlt (grown_of_below hb5 (Value.slice A9 0 c9).ownBlock) own5 (.inr (Nat.le_refl _)) hbz2
          have hp1 := hp.1.congr (len' := fun j => if j < i + 1 then m else 0) (M' := fun _ _ => 0) (fun j hj => by
            unfold upd
            by_cases e : j = i
            · subst e; simp
            · by_cases e2 : j < i
              · simp [e, e2, show j < i + 1 by omega]
              · simp [e, e2, show ¬ j < i + 1 by omega]) (fun j k hj hk => by unfold upd; by_cases e : j = i <;> simp [e])
          have HP9 := Lib.hid hp1
          have HPB9 := Lib.hid (HB9.out.trans hp.2.2)
          clear hp hp1 own5 hb5
          go_roundw
          case rel => exact ⟨i + 1, by omega, by go_num, HP9.out, HPB9.out⟩
          case measure => simp [intOf]; omega
        · have hkm : i = m := by omega
          subst hkm
          have own4 := own.congr (len' := fun _ => i) (M' := P 0) (fun j hj => by simp [hj]) (fun j k _ _ => by rw [HP0'.out])
          have HO4 := Lib.hid own4
          have HB4 := Lib.hid hb
          obtain ⟨-, -, y2, -⟩ := HPC.out _ (HB.out.trans (hb.mono (by omega)))
          clear own own4 hb
          go_wp2
          go_loopw [57] (fun j wr => ∃ k : Nat, k ≤ c.nm ∧ j = .int .i64 (k : Int) ∧ MatG wr wB.heap.size wB.heap.size i i (fun _ => i) (P k) ∧ Below wB.heap.size wB wr) (fun i _ => c.nm - (intOf i).toNat)
          case atStart => exact ⟨0, Nat.zero_le _, rfl, HO4.out, HB4.out⟩
          case round =>
            clear HO4 HB4 y2
            obtain ⟨k, hk, rfl, own, hb⟩ := hrel
            have hz := hb.size
            by_cases hlt : k < c.nm
            · have hbW := HPB.out _ (HB.out.trans (hb.mono (by omega)))
              obtain ⟨bm, om, s1, A1, n1, c1, B1, m1, d1, rfl, hbm, g0, g1, g2, g3, g4, r1, hfn, htn, hft⟩ := HMV.out wr hbW k hlt
              have mf := HL.out wr hbW _ hfn
              have mt := HL.out wr hbW _ htn
              have pf := (HKp.out.below hb).at_ hfn
              have pt := (HKp.out.below hb).at_ htn
              have hPN := HPN'.out k
              have hP1 := HP1'.out k
              have hP2 := HP2'.out k
              have hCf := HCI.out _ hfn
              have hCt := HCI.out _ htn
              have hCN := HCN.out _ _ hfn htn
              have hAf := HPA.out c.nd (c.f k)
              have hAt := HPA.out c.nd (c.t k)
              obtain ⟨q1, q2⟩ := HSQ.out k hlt
              have r1B := r1.base (b1 := wB.heap.size) (by omega)
              have hqq : ∀ W, RdS W wB.heap.size (rv s1 A1 n1 c1 B1 m1 d1) (c.R k) → RdQ W 400 (rv s1 A1 n1 c1 B1 m1 d1) (c.q k) := fun W hr => hr.rdq (L := 400) q1 q2
              have hsk := HSP'.out k hk
              obtain ⟨f, hf⟩ : ∃ f, f = c.f k := ⟨_, rfl⟩
              obtain ⟨tt, ht⟩ : ∃ tt, tt = c.t k := ⟨_, rfl⟩
              obtain ⟨q, hq⟩ : ∃ q, q = c.q k := ⟨_, rfl⟩
              rw [← hf] at mf pf g0 hfn hPN hP1 hP2 hCf hCN hft hAf
              rw [← ht] at mt pt g1 htn hP1 hP2 hCt hCN hft hAt
              rw [← hq] at hP1 hP2
              have HQQ : Hid (∀ W, RdS W wB.heap.size (rv s1 A1 n1 c1 B1 m1 d1) (c.R k) → RdQ W 400 (rv s1 A1 n1 c1 B1 m1 d1) q) := by rw [hq]; exact hqq
              clear hf ht hq q1 q2 hqq
              have hki : (k : Int) < (c.nm : Int) := by omega
              have hk0 : (0 : Int) ≤ (k : Int) := by omega
              have hfi : (f : Int) < (c.nd : Int) := by omega
              have hf0 : (0 : Int) ≤ (f : Int) := by omega
              have hti : (tt : Int) < (c.nd : Int) := by omega
              have ht0 : (0 : Int) ≤ (tt : Int) := by omega
              have hbl2 : bl < wr.heap.size := by omega
              have hgw : w.heap.size + 1 < wr.heap.size := by omega
              have HB5 := Lib.hid hb
              have HO := Lib.hid own
              clear own hb
              (have obc := fun o i => below_at ((Below.refl wr.heap.size wr).alloc (Nat.le_refl _) o) (w.heap.size + 1) i (by omega)); (have obf := fun o i => below_fr ((Below.refl wr.heap.size wr).alloc (Nat.le_refl _) o) (w.heap.size + 1) i (by omega))
              (have occ := fun o i => below_at ((Below.refl wr.heap.size wr).alloc (Nat.le_refl _) o) (bl) i (by omega)); (have ocf := fun o i => below_fr ((Below.refl wr.heap.size wr).alloc (Nat.le_refl _) o) (bl) i (by omega))
              have hal : Below wr.heap.size wr (wr.alloc (.cells #[.int .i64 (f : Int), .int .i64 (tt : Int), .bool s1, .slice A1 n1 c1, .slice B1 m1 d1] 65)) := (Below.refl _ _).alloc (Nat.le_refl _) _
              have HAL := Lib.hid hal
              clear hal
              cases hA : l f
              · rw [hA] at mf
                have HE := Lib.hid (hPN hA)
                clear hA hPN hP1 hP2 hCf hCt hCN hAf hAt r1B r1
                go_wp2
                go_roundw
                case rel => exact ⟨k + 1, by omega, by go_num, by rw [HE.out]; exact HO.out.below HAL.out, HB5.out.trans (HAL.out.mono (by omega))⟩
                case measure => simp [intOf]; omega
              · rw [hA] at mf
                have hpf := hCf hA
                rw [hAf hA (by omega)] at pf
                have hP1' := hP1 hA
                have hP2' := hP2 hA
                have hCN' := hCN hA
                clear hPN hP1 hP2 hCf hCN hAf
                obtain ⟨p, hp⟩ : ∃ p, p = cntB l f := ⟨_, rfl⟩
                rw [← hp] at pf hpf hP1' hCN'
                have HPp := Lib.hid hp
                clear hp
                have hp0 : (0 : Int) ≤ (p : Int) := by omega
                have hp1 : (p : Int) < (i : Int) := by omega
                go_wp2
                generalize hwq : wr.alloc (.cells #[.int .i64 (f : Int), .int .i64 (tt : Int), .bool s1, .slice A1 n1 c1, .slice B1 m1 d1] 65) = wq at *
                have hAL := HAL.out
                have z0 : wq.cell? ⟨wr.heap.size, 0, none⟩ = some (.int .i64 (f : Int)) := by rw [← hwq]; simp
                have z1 : wq.cell? ⟨wr.heap.size, 1, none⟩ = some (.int .i64 (tt : Int)) := by rw [← hwq]; simp
                have z2 : wq.cell? ⟨wr.heap.size, 2, none⟩ = some (.bool s1) := by rw [← hwq]; simp
                have z3 : wq.cell? ⟨wr.heap.size, 3, none⟩ = some (.slice A1 n1 c1) := by rw [← hwq]; simp
                have z4 : wq.cell? ⟨wr.heap.size, 4, none⟩ = some (.slice B1 m1 d1) := by rw [← hwq]; simp
                have hTq : TyB 65 wq wr.heap.size := by rw [← hwq]; exact TyB.new _ _
                have hwz : wq.heap.size = wr.heap.size + 1 := by rw [← hwq]; simp
                have mtq := (hAL.cell (p := ⟨bl, ol + tt, none⟩) hbl2).trans mt
                have ptq := (hAL.cell (p := ⟨w.heap.size + 1, tt, none⟩) hgw).trans pt
                have r1q := r1B.kp (Kp.of_below hAL)
                have qr := HQQ.out _ r1q
                obtain ⟨A9, c9, hX'⟩ := HO.out.row p
                obtain ⟨g, rfl⟩ := hX'.head hpf (by omega)
                have hgl := (hX'.own hpf).lt
                have hgb := (hX'.own hpf).block.1
                have hol := HO.out.lt
                have hne : g ≠ wB.heap.size := hX'.ne hpf rfl
                have hX := hX'.below hAL
                have hcell : wq.cell? ⟨wB.heap.size, p, none⟩ = some (.slice (some ⟨g, 0, none⟩) i c9) := hX.cell hpf
                have hown : OwR wq wB.heap.size (some ⟨g, 0, none⟩) c9 i (can (P k p)) := hX.own hpf
                obtain ⟨s0, A3, n3', c3', B3, m3, d3, o0, o1, o2, r0⟩ := hown.at_ hpf
                have qd := (show RdS wq _ _ (canR (P k p p)) from r0).canQ (hsk p p)
                have KA := Lib.hid (fun W (hb : Below wq.heap.size wq W) => addQ (qd.below hb) (qr.below hb) (by omega) (by omega))
                have hfz := hown.frozen
                have HX := Lib.hid hX
                have HOn := Lib.hid hown
                have HAL2 := Lib.hid hAL
                have HR1 := Lib.hid r1q
                clear hX hX' hown r0 qd hAL HAL hwq mt pt g0 g1 g2 g3 g4 mf obc obf occ ocf pf r1q r1B r1
                have ne1 : ¬ (wB.heap.size = g) := fun e => hne e.symm
                have ne2 : ¬ (wr.heap.size = g) := by omega
                have ne3 : ¬ (g = wr.heap.size) := by omega
                have ne4 : ¬ (bl = g) := by omega
                have ne5 : ¬ (w.heap.size + 1 = g) := by omega
                rw [ld_later 50 (.tmp 82)]
                go_region_held3 (fun W => W.cell? ⟨wB.heap.size, p, none⟩ = some (.slice (some ⟨g, 0, none⟩) i c9) ∧ W.cell? ⟨wr.heap.size, 2, none⟩ = some (.bool s1) ∧ W.cell? ⟨wr.heap.size, 3, none⟩ = some (.slice A1 n1 c1) ∧ W.cell? ⟨wr.heap.size, 4, none⟩ = some (.slice B1 m1 d1)) (go_keep)
                  (first | ((go_at_call 27; (with_reducible refine (KA.out _ (by (skip); repeat' (first | (with_reducible exact Below.refl _ _) | (with_reducible assumption) | (with_reducible refine Below.alloc ?_ ?_ _) | (with_reducible refine Below.drew ?_) | (with_reducible refine below_drewN ?_ _) | (with_reducible refine Below.setCell ?_ ?_ _) | (with_reducible refine Below.trans ?_ (Below.mono (by with_reducible assumption) ?_)) | omega | (simp only [ZA, ZS, ZD, ZN]; omega) | go_size))).mono ?_); rintro e w4 ⟨⟨v4, rfl, own4⟩, hb6⟩; have hb6z := Below.size hb6; (try simp only [ZA, ZS, ZD] at hb6z); have hb6c0 := fun o => below_at hb6 (wB.heap.size) o (by first | omega | (simp only [ZA, ZS, ZD]; omega)); have hb6f0 := fun o => below_fr hb6 (wB.heap.size) o (by first | omega | (simp only [ZA, ZS, ZD]; omega)); have hb6l0 : wB.heap.size < (w4).heap.size := (by omega); have hb6c1 := fun o => below_at hb6 (g) o (by first | omega | (simp only [ZA, ZS, ZD]; omega)); have hb6f1 := fun o => below_fr hb6 (g) o (by first | omega | (simp only [ZA, ZS, ZD]; omega)); have hb6l1 : g < (w4).heap.size := (by omega); have hb6c2 := fun o => below_at hb6 (wr.heap.size) o (by first | omega | (simp only [ZA, ZS, ZD]; omega)); have hb6f2 := fun o => below_fr hb6 (wr.heap.size) o (by first | omega | (simp only [ZA, ZS, ZD]; omega)); have hb6l2 : wr.heap.size < (w4).heap.size := (by omega); have hb6c3 := fun o => below_at hb6 (bl) o (by first | omega | (simp only [ZA, ZS, ZD]; omega)); have hb6f3 := fun o => below_fr hb6 (bl) o (by first | omega | (simp only [ZA, ZS, ZD]; omega)); have hb6l3 : bl < (w4).heap.size := (by omega); have hb6c4 := fun o => below_at hb6 (w.heap.size + 1) o (by first | omega | (simp only [ZA, ZS, ZD]; omega)); have hb6f4 := fun o => below_fr hb6 (w.heap.size + 1) o (by first | omega | (simp only [ZA, ZS, ZD]; omega)); have hb6l4 : w.heap.size + 1 < (w4).heap.size := (by omega)); obtain ⟨s4, A5, n5, c5, B5, m5, d5, rfl⟩ := own4.form) | fail)
                all_goals
                  have hb9 : Below wq.heap.size wq w4 := (by have z0 := Below.size hb6; (try simp only [ZA, ZS, ZD, ZN] at z0 ⊢; skip); repeat' (first | (with_reducible exact Below.refl _ _) | (with_reducible assumption) | (with_reducible refine Below.alloc ?_ ?_ _) | (with_reducible refine Below.drew ?_) | (with_reducible refine below_drewN ?_ _) | (with_reducible refine Below.setCell ?_ ?_ _) | (with_reducible refine Below.trans ?_ (Below.mono (by with_reducible assumption) ?_)) | omega | (simp only [ZA, ZS, ZD, ZN]; omega) | go_size))
                  have hst := (HOn.out.below hb9).set hpf (own4.rs (b0 := wB.heap.size))
                  have hs := (HX.out.below hb9).same hpf hst.2 (f' := fun b => if b = p then P k p p + q else P k p b) (hst.1.congr fun b _ => by
                    rw [upd_can]
                    unfold can upd
                    by_cases e : b = p
                    · simp [e]
                    · simp [e]) (by have := hb9.size; omega)
                  have hcz : ∀ b o, b < wq.heap.size → b ≠ g → (((w4.setCell ⟨g, p * 3, none⟩ (.bool s4)).setCell ⟨g, p * 3 + 1, none⟩ (.slice A5 n5 c5)).setCell ⟨g, p * 3 + 2, none⟩ (.slice B5 m5 d5)).cell? ⟨b, o, none⟩ = wq.cell? ⟨b, o, none⟩ := fun b o h1 h2 => by
                    rw [World.cell?_setCell_far _ _ _ _ (fun e => h2 e.symm), World.cell?_setCell_far _ _ _ _ (fun e => h2 e.symm), World.cell?_setCell_far _ _ _ _ (fun e => h2 e.symm)]
                    exact hb9.cell (p := ⟨b, o, none⟩) h1
                  have hbz9 := (HB5.out.trans (HAL2.out.mono (by omega))).trans ((hb9.mono (by omega)).trans hs.2.2)
                  have hkz := hs.2.1
                  have hsz9 := hs.2.2.size
                  have hmz := hs.1.mg
                  have hrz := (HR1.out.kp (Kp.of_below hb9)).kp hs.2.1
                  have hTz := (((hTq.below hb9 (by omega)).set g (p * 3) (.bool s4)).set g (p * 3 + 1) (.slice A5 n5 c5)).set g (p * 3 + 2) (.slice B5 m5 d5)
                  obtain ⟨wz, hwz2⟩ : ∃ wz, wz = (((w4.setCell ⟨g, p * 3, none⟩ (.bool s4)).setCell ⟨g, p * 3 + 1, none⟩ (.slice A5 n5 c5)).setCell ⟨g, p * 3 + 2, none⟩ (.slice B5 m5 d5)) := ⟨_, rfl⟩
                  rw [← hwz2] at hcz hbz9 hkz hmz hsz9 hrz hTz
                  rw [← hwz2]
                  have y0 := (hcz wr.heap.size 0 (by omega) (by omega)).trans z0
                  have y1 := (hcz wr.heap.size 1 (by omega) (by omega)).trans z1
                  have y2 := (hcz wr.heap.size 2 (by omega) (by omega)).trans z2
                  have y3 := (hcz wr.heap.size 3 (by omega) (by omega)).trans z3
                  have y4 := (hcz wr.heap.size 4 (by omega) (by omega)).trans z4
                  have mtz := (hcz bl (ol + tt) (by omega) (by omega)).trans mtq
                  have ptz := (hcz (w.heap.size + 1) tt (by omega) (by omega)).trans ptq
                  have QZ := Lib.hid (HQQ.out _ hrz)
                  have HMZ := Lib.hid hmz
                  have HBZ := Lib.hid hbz9
                  have HNR : Hid (∀ cur fz, wz.heap[wr.heap.size]? = some (.cells cur 50 fz) → False) := fun cur fz e => by
                    obtain ⟨_, _, e2⟩ := hTz
                    rw [e2] at e
                    injection e with e
                    injection e with _ e _
                    exact absurd e (by decide)
                  clear hTz hTq hwz2 hcz hbz9 hkz hmz hrz z0 z1 z2 z3 z4 mtq ptq hs hst hb9 hb6 own4 hcell o0 o1 o2 hfz HX HOn
                  cases hT : l tt
                  · rw [hT] at mtz
                    have HP1z := Lib.hid (hP1' hT (by omega))
                    have HF := Lib.hid (HMZ.out.congr (len' := fun _ => i) (M' := P (k + 1)) (fun _ _ => rfl) (fun a b ha hb => by
                      rw [HP1z.out a b ha hb]
                      exact one_upd a b))
                    clear hT hP1' hP2'
                    go_wp2
                    go_roundw
                    case rel => exact ⟨k + 1, by omega, by go_num, HF.out, HBZ.out⟩
                    case measure => simp [intOf]; omega
                  · rw [hT] at mtz
                    have hpt := hCt hT
                    rw [hAt hT (by omega)] at ptz
                    have hnp := hCN' hT hft
                    have hP2z := hP2' hT (by omega) (by omega) hft
                    obtain ⟨p2, hp2⟩ : ∃ p2, p2 = cntB l tt := ⟨_, rfl⟩
                    rw [← hp2] at ptz hpt hnp
                    have hnp : p ≠ p2 := hnp
                    have HP2z : Hid (∀ a b, a < i → b < i → P (k + 1) a b = if a = (if back then p2 else p) ∧ b = (if back then p else p2) then P k a b - q else if a = p ∧ b = p then P k a b + q else P k a b) := fun a b ha hb => by
                      have := hP2z a b ha hb
                      rw [this]
                      cases back <;> simp only [if_true, if_false, Bool.false_eq_true, HPp.out, hp2]
                    clear hT hP1' hP2' hp2 hP2z hCt hAt hCN'
                    have hp20 : (0 : Int) ≤ (p2 : Int) := by omega
                    have hp21 : (p2 : Int) < (i : Int) := by omega
                    cases back
                    ·
                      have hri : p < i := by omega
                      have hci : p2 < i := by omega
                      obtain ⟨A9, c9, hX⟩ := HMZ.out.row p
                      obtain ⟨g2, rfl⟩ := hX.head hri (by omega)
                      have hgl2 := (hX.own hri).lt
                      have hgb2 := (hX.own hri).block.1
                      have hol2 := HMZ.out.lt
                      have hne2 : g2 ≠ wB.heap.size := hX.ne hri rfl
                      have hcell2 : wz.cell? ⟨wB.heap.size, p, none⟩ = some (.slice (some ⟨g2, 0, none⟩) i c9) := hX.cell hri
                      have hown2 : OwR wz wB.heap.size (some ⟨g2, 0, none⟩) c9 i (can (upd (P k) p (fun b => if b = p then P k p p + q else P k p b) p)) := hX.own hri
                      obtain ⟨s0', A3', n3'', c3'', B3', m3', d3', o0', o1', o2', r0'⟩ := hown2.at_ hci
                      have hent : upd (P k) p (fun b => if b = p then P k p p + q else P k p b) p p2 = P k p p2 := by
                        unfold upd
                        by_cases e : p = p
                        · have : ¬ p2 = p := by omega
                          rw [if_pos e, if_neg this, e]
                        · rw [if_neg e]
                      have r0c : RdS wz wB.heap.size (rv s0' A3' n3'' c3'' B3' m3' d3') (canR (upd (P k) p (fun b => if b = p then P k p p + q else P k p b) p p2)) := r0'
                      rw [hent] at r0c
                      have qd2 := r0c.canQ (hsk p p2)
                      have KB := Lib.hid (fun W (hb : Below wz.heap.size wz W) => subQ (qd2.below hb) (QZ.out.below hb) (by omega) (by omega))
                      have hfz2 := hown2.frozen
                      have HX2 := Lib.hid hX
                      have HOn2 := Lib.hid hown2
                      have hgq : g2 ≠ wr.heap.size := by
                        intro e
                        have h1 := (hX.own hri).block.2
                        obtain ⟨cur, h1⟩ := h1
                        rw [e] at h1
                        exact HNR.out _ _ h1
                      clear hX hown2 r0' r0c qd2
                      have nf1 : ¬ (wB.heap.size = g2) := fun e => hne2 e.symm
                      have nf2 : ¬ (wr.heap.size = g2) := fun e => hgq e.symm
                      have hri0 : (0 : Int) ≤ (p : Int) := by omega
                      have hri1 : (p : Int) < (i : Int) := by omega
                      have hci0 : (0 : Int) ≤ (p2 : Int) := by omega
                      have hci1 : (p2 : Int) < (i : Int) := by omega
                      go_wp2
                      rw [ld_later 50 (.tmp 112)]
                      go_region_held3 (fun W => W.cell? ⟨wB.heap.size, p, none⟩ = some (.slice (some ⟨g2, 0, none⟩) i c9) ∧ W.cell? ⟨wr.heap.size, 2, none⟩ = some (.bool s1) ∧ W.cell? ⟨wr.heap.size, 3, none⟩ = some (.slice A1 n1 c1) ∧ W.cell? ⟨wr.heap.size, 4, none⟩ = some (.slice B1 m1 d1)) (go_keep)
                        (first | ((go_at_call 34; (with_reducible refine (KB.out _ (by (skip); repeat' (first | (with_reducible exact Below.refl _ _) | (with_reducible assumption) | (with_reducible refine Below.alloc ?_ ?_ _) | (with_reducible refine Below.drew ?_) | (with_reducible refine below_drewN ?_ _) | (with_reducible refine Below.setCell ?_ ?_ _) | (with_reducible refine Below.trans ?_ (Below.mono (by with_reducible assumption) ?_)) | omega | (simp only [ZA, ZS, ZD, ZN]; omega) | go_size))).mono ?_); rintro e w6 ⟨⟨v6, rfl, own6⟩, hb7⟩; have hb7z := Below.size hb7; (try simp only [ZA, ZS, ZD] at hb7z); have hb7c0 := fun o => below_at hb7 (wB.heap.size) o (by first | omega | (simp only [ZA, ZS, ZD]; omega)); have hb7f0 := fun o => below_fr hb7 (wB.heap.size) o (by first | omega | (simp only [ZA, ZS, ZD]; omega)); have hb7l0 : wB.heap.size < (w6).heap.size := (by omega); have hb7c1 := fun o => below_at hb7 (g2) o (by first | omega | (simp only [ZA, ZS, ZD]; omega)); have hb7f1 := fun o => below_fr hb7 (g2) o (by first | omega | (simp only [ZA, ZS, ZD]; omega)); have hb7l1 : g2 < (w6).heap.size := (by omega); have hb7c2 := fun o => below_at hb7 (wr.heap.size) o (by first | omega | (simp only [ZA, ZS, ZD]; omega)); have hb7f2 := fun o => below_fr hb7 (wr.heap.size) o (by first | omega | (simp only [ZA, ZS, ZD]; omega)); have hb7l2 : wr.heap.size < (w6).heap.size := (by omega)); obtain ⟨s6, A7, n7, c7, B7, m7, d7, rfl⟩ := own6.form) | fail)
                      all_goals
                        have hb8 : Below wz.heap.size wz w6 := (by have z0 := Below.size hb7; (try simp only [ZA, ZS, ZD, ZN] at z0 ⊢; skip); repeat' (first | (with_reducible exact Below.refl _ _) | (with_reducible assumption) | (with_reducible refine Below.alloc ?_ ?_ _) | (with_reducible refine Below.drew ?_) | (with_reducible refine below_drewN ?_ _) | (with_reducible refine Below.setCell ?_ ?_ _) | (with_reducible refine Below.trans ?_ (Below.mono (by with_reducible assumption) ?_)) | omega | (simp only [ZA, ZS, ZD, ZN]; omega) | go_size))
                        have hst := (HOn2.out.below hb8).set hci (own6.rs (b0 := wB.heap.size))
                        have hs := (HX2.out.below hb8).same hri hst.2 (f' := fun b => if b = p2 then P k p p2 - q else upd (P k) p (fun b => if b = p then P k p p + q else P k p b) p b) (hst.1.congr fun b _ => by
                          rw [upd_can]
                          unfold can
                          rw [show upd (fun b => upd (P k) p (fun b => if b = p then P k p p + q else P k p b) p b) p2 (P k p p2 - q) b = if b = p2 then P k p p2 - q else upd (P k) p (fun b => if b = p then P k p p + q else P k p b) p b from rfl]) (by have := hb8.size; omega)
                        have HF := Lib.hid (hs.1.mg.congr (len' := fun _ => i) (M' := P (k + 1)) (fun _ _ => rfl) (fun a b ha hb => by
                          rw [HP2z.out a b ha hb, two_upd (by omega)]
                          simp only [if_true, if_false, Bool.false_eq_true]))
                        have HBF := Lib.hid (HBZ.out.trans ((hb8.mono (by omega)).trans hs.2.2))
                        clear hs hst
                        go_wp2
                        go_roundw
                        case rel => exact ⟨k + 1, by omega, by go_num, HF.out, HBF.out⟩
                        case measure => simp [intOf]; omega
                    ·
                      have hri : p2 < i := by omega
                      have hci : p < i := by omega
                      obtain ⟨A9, c9, hX⟩ := HMZ.out.row p2
                      obtain ⟨g2, rfl⟩ := hX.head hri (by omega)
                      have hgl2 := (hX.own hri).lt
                      have hgb2 := (hX.own hri).block.1
                      have hol2 := HMZ.out.lt
                      have hne2 : g2 ≠ wB.heap.size := hX.ne hri rfl
                      have hcell2 : wz.cell? ⟨wB.heap.size, p2, none⟩ = some (.slice (some ⟨g2, 0, none⟩) i c9) := hX.cell hri
                      have hown2 : OwR wz wB.heap.size (some ⟨g2, 0, none⟩) c9 i (can (upd (P k) p (fun b => if b = p then P k p p + q else P k p b) p2)) := hX.own hri
                      obtain ⟨s0', A3', n3'', c3'', B3', m3', d3', o0', o1', o2', r0'⟩ := hown2.at_ hci
                      have hent : upd (P k) p (fun b => if b = p then P k p p + q else P k p b) p2 p = P k p2 p := by
                        unfold upd
                        by_cases e : p2 = p
                        · have : ¬ p = p := by omega
                          rw [if_pos e, if_neg this, e]
                        · rw [if_neg e]
                      have r0c : RdS wz wB.heap.size (rv s0' A3' n3'' c3'' B3' m3' d3') (canR (upd (P k) p (fun b => if b = p then P k p p + q else P k p b) p2 p)) := r0'
                      rw [hent] at r0c
                      have qd2 := r0c.canQ (hsk p2 p)
                      have KB := Lib.hid (fun W (hb : Below wz.heap.size wz W) => subQ (qd2.below hb) (QZ.out.below hb) (by omega) (by omega))
                      have hfz2 := hown2.frozen
                      have HX2 := Lib.hid hX
                      have HOn2 := Lib.hid hown2
                      have hgq : g2 ≠ wr.heap.size := by
                        intro e
                        have h1 := (hX.own hri).block.2
                        obtain ⟨cur, h1⟩ := h1
                        rw [e] at h1
                        exact HNR.out _ _ h1
                      clear hX hown2 r0' r0c qd2
                      have nf1 : ¬ (wB.heap.size = g2) := fun e => hne2 e.symm
                      have nf2 : ¬ (wr.heap.size = g2) := fun e => hgq e.symm
                      have hri0 : (0 : Int) ≤ (p2 : Int) := by omega
                      have hri1 : (p2 : Int) < (i : Int) := by omega
                      have hci0 : (0 : Int) ≤ (p : Int) := by omega
                      have hci1 : (p : Int) < (i : Int) := by omega
                      go_wp2
                      rw [ld_later 50 (.tmp 112)]
                      go_region_held3 (fun W => W.cell? ⟨wB.heap.size, p2, none⟩ = some (.slice (some ⟨g2, 0, none⟩) i c9) ∧ W.cell? ⟨wr.heap.size, 2, none⟩ = some (.bool s1) ∧ W.cell? ⟨wr.heap.size, 3, none⟩ = some (.slice A1 n1 c1) ∧ W.cell? ⟨wr.heap.size, 4, none⟩ = some (.slice B1 m1 d1)) (go_keep)
                        (first | ((go_at_call 34; (with_reducible refine (KB.out _ (by (skip); repeat' (first | (with_reducible exact Below.refl _ _) | (with_reducible assumption) | (with_reducible refine Below.alloc ?_ ?_ _) | (with_reducible refine Below.drew ?_) | (with_reducible refine below_drewN ?_ _) | (with_reducible refine Below.setCell ?_ ?_ _) | (with_reducible refine Below.trans ?_ (Below.mono (by with_reducible assumption) ?_)) | omega | (simp only [ZA, ZS, ZD, ZN]; omega) | go_size))).mono ?_); rintro e w6 ⟨⟨v6, rfl, own6⟩, hb7⟩; have hb7z := Below.size hb7; (try simp only [ZA, ZS, ZD] at hb7z); have hb7c0 := fun o => below_at hb7 (wB.heap.size) o (by first | omega | (simp only [ZA, ZS, ZD]; omega)); have hb7f0 := fun o => below_fr hb7 (wB.heap.size) o (by first | omega | (simp only [ZA, ZS, ZD]; omega)); have hb7l0 : wB.heap.size < (w6).heap.size := (by omega); have hb7c1 := fun o => below_at hb7 (g2) o (by first | omega | (simp only [ZA, ZS, ZD]; omega)); have hb7f1 := fun o => below_fr hb7 (g2) o (by first | omega | (simp only [ZA, ZS, ZD]; omega)); have hb7l1 : g2 < (w6).heap.size := (by omega); have hb7c2 := fun o => below_at hb7 (wr.heap.size) o (by first | omega | (simp only [ZA, ZS, ZD]; omega)); have hb7f2 := fun o => below_fr hb7 (wr.heap.size) o (by first | omega | (simp only [ZA, ZS, ZD]; omega)); have hb7l2 : wr.heap.size < (w6).heap.size := (by omega)); obtain ⟨s6, A7, n7, c7, B7, m7, d7, rfl⟩ := own6.form) | fail)
                      all_goals
                        have hb8 : Below wz.heap.size wz w6 := (by have z0 := Below.size hb7; (try simp only [ZA, ZS, ZD, ZN] at z0 ⊢; skip); repeat' (first | (with_reducible exact Below.refl _ _) | (with_reducible assumption) | (with_reducible refine Below.alloc ?_ ?_ _) | (with_reducible refine Below.drew ?_) | (with_reducible refine below_drewN ?_ _) | (with_reducible refine Below.setCell ?_ ?_ _) | (with_reducible refine Below.trans ?_ (Below.mono (by with_reducible assumption) ?_)) | omega | (simp only [ZA, ZS, ZD, ZN]; omega) | go_size))
                        have hst := (HOn2.out.below hb8).set hci (own6.rs (b0 := wB.heap.size))
                        have hs := (HX2.out.below hb8).same hri hst.2 (f' := fun b => if b = p then P k p2 p - q else upd (P k) p (fun b => if b = p then P k p p + q else P k p b) p2 b) (hst.1.congr fun b _ => by
                          rw [upd_can]
                          unfold can
                          rw [show upd (fun b => upd (P k) p (fun b => if b = p then P k p p + q else P k p b) p2 b) p (P k p2 p - q) b = if b = p then P k p2 p - q else upd (P k) p (fun b => if b = p then P k p p + q else P k p b) p2 b from rfl]) (by have := hb8.size; omega)
                        have HF := Lib.hid (hs.1.mg.congr (len' := fun _ => i) (M' := P (k + 1)) (fun _ _ => rfl) (fun a b ha hb => by
                          rw [HP2z.out a b ha hb, two_upd (by omega)]
                          simp only [if_true, if_false, Bool.false_eq_true]))
                        have HBF := Lib.hid (HBZ.out.trans ((hb8.mono (by omega)).trans hs.2.2))
                        clear hs hst
                        go_wp2
                        go_roundw
                        case rel => exact ⟨k + 1, by omega, by go_num, HF.out, HBF.out⟩
                        case measure => simp [intOf]; omega
            · have hkm : k = c.nm := by omega
              subst hkm
              have HO := Lib.hid own
              have HB5 := Lib.hid hb
              clear own hb
              have hbB := HPB.out _ (HB.out.trans (HB5.out.mono (by omega)))
              have HbB := Lib.hid hbB
              clear hbB
              go_wp2
              go_ret2
              refine ⟨⟨A, cp, some ⟨wB.heap.size, 0, none⟩, i, by rw [← HM.out]; rfl, own_base (HI.out.below HB5.out) (by omega), ?_⟩, HbB.out⟩
              rw [← HM.out]
              exact (MatG.mo HO.out).mi (by omega)
end Go.Proofs.YtomkdgcpmpbfhaaGreatDoor
