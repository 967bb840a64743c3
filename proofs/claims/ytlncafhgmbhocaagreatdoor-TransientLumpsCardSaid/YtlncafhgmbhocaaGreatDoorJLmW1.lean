/- Contracts of functions and lemmas, used by the proofs of the given statements. No condition beyond those that each lemma names. -/
import Derived.Test.YtlncafhgmbhocaaGreatDoorZRow
import Derived.Test.YtlncafhgmbhocaaGreatDoorJLawTr2
import Derived.Test.YtlncafhgmbhocaaGreatDoorJChW1
import Derived.Test.YtlncafhgmbhocaaGreatDoorJTrZ
import Derived.Test.YtlncafhgmbhocaaGreatDoorTrW1
namespace Go.Proofs.YtlncafhgmbhocaaGreatDoor
open Go.RowKit
set_option linter.unusedSimpArgs false
set_option linter.unusedVariables false
set_option maxRecDepth 20000
attribute [local irreducible] cntB ixB kept nrm isF firS
/-! ## slices.Index; package lump: norm -/
set_option maxHeartbeats 2000000 in
theorem lmIndex_any {w : World} {A : Option Addr} {n c : Nat} {P : Nat → Int} (h : PaI w A n P) (hn : n ≤ 1000000) (v : Int) :
    Calls Tryz.prog 40 #[.slice A n c, .int .i64 v] w fun e w' => (∃ r : Int, e = .returned (.int .i64 r) ∧ IsIdx (fun j => decide (v = P j)) n r) ∧ Below w.heap.size w w' := by
  have HA := Lib.hid h
  clear h
  go_enter Tryz.func40, Tryz.ntmps40
  go_wp2
  go_loopw [8] (fun i wr => ∃ k : Nat, k ≤ n ∧ i = .int .i64 (k : Int) ∧ (∀ j, j < k → decide (v = P j) = false) ∧ Below w.heap.size w wr) (fun i _ => n - (intOf i).toNat)
  case atStart => exact ⟨0, Nat.zero_le _, rfl, fun j hj => by omega, Below.refl _ _⟩
  case round =>
    obtain ⟨k, hk, rfl, hv, hb⟩ := hrel
    have HV := Lib.hid hv
    clear hv
    by_cases hlt : k < n
    · obtain ⟨b, off, rfl, hbb, x0⟩ := HA.out.later hb hlt
      have hk0 : (0 : Int) ≤ (k : Int) := by omega
      have hki : (k : Int) < (n : Int) := by omega
      by_cases he : v = P k
      · have HR := Lib.hid (show IsIdx (fun j => decide (v = P j)) n (k : Int) from .inr ⟨k, rfl, hlt, decide_eq_true he, HV.out⟩)
        rw [← he] at x0
        clear he
        go_wp2
        go_ret
        exact ⟨⟨k, rfl, HR.out⟩, hb⟩
      · have HN := Lib.hid (decide_eq_false he)
        obtain ⟨x, hx⟩ : ∃ x, x = P k := ⟨_, rfl⟩
        rw [← hx] at x0 he
        have e1 : (v == x) = false := beq_eq_false_iff_ne.2 he
        clear he hx
        go_wp2
        go_roundw
        case rel =>
          refine ⟨k + 1, by omega, by go_num, fun j hj => ?_, hb⟩
          by_cases e : j = k
          · rw [e]; exact HN.out
          · exact HV.out j (by omega)
        case measure => simp [intOf]; omega
    · have hkn : k = n := by omega
      subst hkn
      go_wp2
      go_ret
      exact ⟨⟨-1, rfl, .inl ⟨rfl, HV.out⟩⟩, hb⟩
theorem apt_grow {w : World} {v u : Value} {g n c : Nat} (h : Apt v u) (hu : ∀ k, u.ownBlock = some k → k < w.heap.size) (hg : v.ownBlock = some g ∨ w.heap.size ≤ g) : Apt (.slice (some ⟨g, 0, none⟩) n c) u := fun k hk e => by
  have hgk : g = k := by simpa [Value.ownBlock] using hk
  subst hgk
  rcases hg with hg | hg
  · exact h g hg e
  · have := hu g e; omega
set_option maxHeartbeats 8000000 in
theorem lmNorm_any {w : World} {A : Option Addr} {n c : Nat} {P : Nat → Int} {p : Nat → Nat} (h : PaI w A n P) (hp : ∀ i, i < n → P i = (p i : Int)) (hn : n ≤ 1000) :
    Calls Tryz.prog 38 #[.slice A n c] w fun e w' => (∃ A' c', e = .returned (.slice A' n c') ∧ OwZ w' w.heap.size A' c' n (fun i => ((nrm (relP p) i : Nat) : Int))) ∧ Below w.heap.size w w' := by
  have HA := Lib.hid h
  obtain ⟨R, hR⟩ : ∃ R, R = relP p := ⟨_, rfl⟩
  have hE : Eqv R := by rw [hR]; exact relP_eqv p
  obtain ⟨G, hG⟩ : ∃ G : Nat → Int, G = fun j => ((p (ixB (isF R) n j) : Nat) : Int) := ⟨_, rfl⟩
  obtain ⟨N, hN⟩ : ∃ N : Nat → Int, N = fun i => ((nrm R i : Nat) : Int) := ⟨_, rfl⟩
  obtain ⟨cs, hcs⟩ : ∃ cs : Nat → Nat, cs = cntB (isF R) := ⟨_, rfl⟩
  have HST : Hid (∀ k r, k < n → IsIdx (fun j => decide (P k = G j)) (cs k) r → (r = -1 ∧ N k = (cs k : Int) ∧ cs (k + 1) = cs k + 1 ∧ G (cs k) = P k) ∨ (∃ m : Nat, r = (m : Int) ∧ N k = (m : Int) ∧ cs (k + 1) = cs k)) := fun k r hk hr => by
    have := idx_step (n := n) (k := k) hE hk (r := r) (by
      rw [hcs] at hr
      refine hr.congr fun j hj => ?_
      rw [hR, hG, hp k hk]
      show decide (((p k : Nat) : Int) = ((p (ixB (isF R) n j) : Nat) : Int)) = (p (ixB (isF (relP p)) n j) == p k)
      rw [← hR]
      rw [Bool.eq_iff_iff, decide_eq_true_iff, beq_iff_eq]
      omega)
    rcases this with ⟨-, h1, h2, h3, h4⟩ | ⟨-, h1, h2⟩
    · refine .inl ⟨h1, by rw [hN, hcs]; show ((nrm R k : Nat) : Int) = _; rw [h2], by rw [hcs]; exact h3, ?_⟩
      rw [hG, hcs]
      show ((p (ixB (isF R) n (cntB (isF R) k)) : Nat) : Int) = _
      rw [h4, hp k hk]
    · exact .inr ⟨nrm R k, h1, by rw [hN], by rw [hcs]; exact h2⟩
  have HC0 : Hid (cs 0 = 0) := by show cs 0 = 0; rw [hcs]; exact cntB_zero
  have HCL : Hid (∀ k, cs k ≤ k) := fun k => by rw [hcs]; exact cntB_le
  have HNE := Lib.hid hN
  rw [← hR, ← hN]
  clear h hp hR hE hG hN hcs
  go_enter Tryz.func38, Tryz.ntmps38
  go_wp2
  go_loopw [10, 3, 4] (fun i ss os wr => ∃ (k : Nat) (A1 : Option Addr) (c1 m : Nat) (A2 : Option Addr) (c2 : Nat), k ≤ n ∧ i = .int .i64 (k : Int) ∧ ss = .slice A1 m c1 ∧ m = cs k ∧ os = .slice A2 k c2 ∧ OwZ wr w.heap.size A1 c1 m G ∧ OwZ wr w.heap.size A2 c2 k N ∧ Apt (.slice A1 m c1) (.slice A2 k c2) ∧ Below w.heap.size w wr) (fun i _ _ _ => n - (intOf i).toNat)
  case atStart => exact ⟨0, none, 0, 0, none, 0, Nat.zero_le _, rfl, rfl, HC0.out.symm, rfl, OwZ.nil_ _ _ _, OwZ.nil_ _ _ _, Apt.none_, Below.refl _ _⟩
  case round =>
    obtain ⟨k, A1, c1, m, A2, c2, hk, rfl, rfl, hm, rfl, own1, own2, ap, hb⟩ := hrel
    have hbz := hb.size
    by_cases hlt : k < n
    · obtain ⟨b, off, rfl, hbb, x0⟩ := HA.out.later hb hlt
      have hk0 : (0 : Int) ≤ (k : Int) := by omega
      have hki : (k : Int) < (n : Int) := by omega
      have hmk := HCL.out k
      have KI := Lib.hid (fun W (hb' : Below wr.heap.size wr W) => lmIndex_any (c := c1) (own1.below hb').pa (by omega) (P k))
      have HSK := Lib.hid (HST.out k)
      have HM := Lib.hid hm
      obtain ⟨v, hv⟩ : ∃ v, v = P k := ⟨_, rfl⟩
      rw [← hv] at x0 KI HSK
      have HO1 := Lib.hid own1
      have HO2 := Lib.hid own2
      have HAP := Lib.hid ap
      have HB := Lib.hid hb
      have hmz : m ≤ 1000 := by omega
      clear own1 own2 ap hb hv hm hmk
      (go_wp2_with fail; (with_reducible refine (KI.out _ (by (skip); repeat' (first | (with_reducible exact Below.refl _ _) | (with_reducible assumption) | (with_reducible refine Below.alloc ?_ ?_ _) | (with_reducible refine Below.drew ?_) | (with_reducible refine below_drewN ?_ _) | (with_reducible refine Below.setCell ?_ ?_ _) | (with_reducible refine Below.trans ?_ (Below.mono (by with_reducible assumption) ?_)) | omega | (simp only [ZA, ZS, ZD, ZN]; omega) | go_size))).mono ?_); rintro e w5 ⟨⟨r, rfl, hr⟩, hb5⟩; have hb5z := Below.size hb5; (try simp only [ZA, ZS, ZD, ZN] at hb5z))
      have hst := HSK.out r hlt (by rw [← HM.out]; exact hr)
      have h1 := HO1.out.below hb5
      have h2 := HO2.out.below hb5
      have hbw5 : Below w.heap.size w w5 := HB.out.trans (hb5.mono hbz)
      have HBW := Lib.hid hbw5
      have H1 := Lib.hid h1
      have H2 := Lib.hid h2
      have hz5 := hbw5.size
      clear HO1 HO2 HB hr hb5 h1 h2 hbw5 HSK KI
      rcases hst with ⟨rfl, hNk, hCk, hGk⟩ | ⟨q, rfl, hNk, hCk⟩
      · rw [← HM.out] at hNk hCk hGk
        have HNk := Lib.hid hNk
        have HCk := Lib.hid hCk
        have HGk := Lib.hid hGk
        clear hNk hCk hGk
        go_wp2_with (first | (at_builtin; refine wpList_appZ rfl (.tmp 21) (.tmp 23) rfl w.heap.size A1 c1 m G (by first | rfl | simp [Act.eval]) (H1.out.below ((Below.refl _ _).alloc (Nat.le_refl _) _)) w5.heap.size (by first | rfl | simp [Act.eval]) (by rw [HGk.out, World.cell?_alloc_at _ _ _ _ (by simp)]; rfl) (by omega) (by first | omega | (simp; omega)) ?_; intro g6 cap6 w6 own6 hgr6 hor6 hlt6; (have hz6 := hgr6.size)) | (at_builtin; refine wpList_appZ rfl (.tmp 25) (.tmp 27) rfl w.heap.size A2 c2 k N (by first | rfl | simp [Act.eval]) (((H2.out.below ((Below.refl _ _).alloc (Nat.le_refl _) _)).kept_ hgr6 (HAP.out.symm)).below ((Below.refl _ _).alloc (Nat.le_refl _) _)) w6.heap.size (by first | rfl | simp [Act.eval]) (by rw [HNk.out, World.cell?_alloc_at _ _ _ _ (by simp)]; rfl) (by omega) (by first | omega | (simp at hz6 ⊢; omega)) ?_; intro g7 cap7 w7 own7 hgr7 hor7 hlt7) | fail)
        have hW1 : Below w.heap.size w5 (w5.alloc (.cells #[.int .i64 v] 3)) := (Below.refl _ _).alloc hz5 _
        have hB6 : Below w.heap.size (w5.alloc (.cells #[.int .i64 v] 3)) w6 := below_of_row hgr6 (fun q hq => (H1.out.blk q hq).1) (by simp; omega)
        have hW2 : Below w.heap.size w6 (w6.alloc (.cells #[.int .i64 (m : Int)] 3)) := (Below.refl _ _).alloc (by have := hB6.size; simp at this; omega) _
        have hB7 : Below w.heap.size (w6.alloc (.cells #[.int .i64 (m : Int)] 3)) w7 := below_of_row hgr7 (fun q hq => (H2.out.blk q hq).1) (by have := hB6.size; simp at this ⊢; omega)
        have ap6 : Apt (.slice (some ⟨g6, 0, none⟩) (m + 1) cap6) (.slice A2 k c2) := apt_grow HAP.out (fun q hq => by have := (H2.out.blk q hq).2; simp; omega) hor6
        have hu6 : ∀ q, (Value.slice (some ⟨g6, 0, none⟩) (m + 1) cap6).ownBlock = some q → q < (w6.alloc (.cells #[.int .i64 (m : Int)] 3)).heap.size := fun q hq => by
          have e6 : g6 = q := by simpa [Value.ownBlock] using hq
          subst e6
          simp
          omega
        have ap7 : Apt (.slice (some ⟨g6, 0, none⟩) (m + 1) cap6) (.slice (some ⟨g7, 0, none⟩) (k + 1) cap7) := (apt_grow ap6.symm hu6 hor7).symm
        have own6' := (own6.below ((Below.refl _ _).alloc (Nat.le_refl _) (.cells #[.int .i64 (m : Int)] 3))).kept_ hgr7 ap6
        have HR := Lib.hid (And.intro own6' (And.intro own7 (And.intro ap7 ((((HBW.out.trans hW1).trans hB6).trans hW2).trans hB7))))
        clear hu6 hW1 hB6 hW2 hB7 ap6 ap7 own6' own6 own7 hgr6 hgr7 hor6 hor7 hlt6 hlt7
        go_roundw
        case rel => exact ⟨k + 1, _, _, m + 1, _, _, by omega, by go_num, rfl, HCk.out.symm, rfl, HR.out.1, HR.out.2.1, HR.out.2.2.1, HR.out.2.2.2⟩
        case measure => simp [intOf]; omega
      · have HNk := Lib.hid hNk
        have HCk := Lib.hid hCk
        have e3 : decide ((q : Int) < 0) = false := by simp
        clear hNk hCk
        go_wp2_with (first | (at_builtin; refine wpList_appZ rfl (.tmp 25) (.tmp 27) rfl w.heap.size A2 c2 k N (by first | rfl | simp [Act.eval]) (H2.out.below ((Below.refl _ _).alloc (Nat.le_refl _) _)) w5.heap.size (by first | rfl | simp [Act.eval]) (by rw [HNk.out, World.cell?_alloc_at _ _ _ _ (by simp)]; rfl) (by omega) (by first | omega | (simp; omega)) ?_; intro g7 cap7 w7 own7 hgr7 hor7 hlt7) | fail)
        have hW1 : Below w.heap.size w5 (w5.alloc (.cells #[.int .i64 (q : Int)] 3)) := (Below.refl _ _).alloc hz5 _
        have hB7 : Below w.heap.size (w5.alloc (.cells #[.int .i64 (q : Int)] 3)) w7 := below_of_row hgr7 (fun q hq => (H2.out.blk q hq).1) (by simp; omega)
        have ap7 : Apt (.slice A1 m c1) (.slice (some ⟨g7, 0, none⟩) (k + 1) cap7) := (apt_grow HAP.out.symm (fun q hq => by have := (H1.out.blk q hq).2; simp; omega) hor7).symm
        have own6' := (H1.out.below ((Below.refl _ _).alloc (Nat.le_refl _) (.cells #[.int .i64 (q : Int)] 3))).kept_ hgr7 HAP.out
        have HR := Lib.hid (And.intro own6' (And.intro own7 (And.intro ap7 ((HBW.out.trans hW1).trans hB7))))
        clear hW1 hB7 ap7 own6' own7 hgr7 hor7 hlt7
        go_roundw
        case rel => exact ⟨k + 1, _, _, m, _, _, by omega, by go_num, rfl, by rw [HM.out]; exact HCk.out.symm, rfl, HR.out.1, HR.out.2.1, HR.out.2.2.1, HR.out.2.2.2⟩
        case measure => simp [intOf]; omega
    · have hkn : k = n := by omega
      subst hkn
      go_wp2
      go_ret
      exact ⟨⟨_, _, rfl, own2⟩, hb⟩
end Go.Proofs.YtlncafhgmbhocaaGreatDoor
namespace Go.Proofs.YtlncafhgmbhocaaGreatDoor
open Go.RowKit
set_option linter.unusedSimpArgs false
set_option linter.unusedVariables false
set_option maxRecDepth 20000
attribute [local irreducible] nv wp win plainB validR valR canR mvE chkM codeC cntB ixB kept nrm isF firS
/-! ## package lump: check -/
/-- all of the first n lie below m -/
def inP (m n : Nat) (P : Nat → Int) : Bool := (List.range n).all fun j => decide (0 ≤ P j ∧ P j < (m : Int))
theorem inP_iff {m n : Nat} {P : Nat → Int} : inP m n P = true ↔ ∀ j, j < n → 0 ≤ P j ∧ P j < (m : Int) := by
  unfold inP
  rw [List.all_eq_true]
  exact ⟨fun h b hb => of_decide_eq_true (h b (List.mem_range.2 hb)), fun h b hb => decide_eq_true (h b (List.mem_range.1 hb))⟩
theorem inP_no {m n k : Nat} {P : Nat → Int} (hk : k < n) (h : ¬ (0 ≤ P k ∧ P k < (m : Int))) : inP m n P = false := by
  cases e : inP m n P
  · rfl
  · exact absurd (inP_iff.1 e k hk) h
def Chn.codeL (c : Chn) (n : Nat) (P : Nat → Int) : Int := if c.code ≠ 0 then c.code else if n ≠ c.nd then 11 else if inP c.nd n P then 0 else 3
section
variable {c : Chn} {n : Nat} {P : Nat → Int}
theorem Chn.codeL_a (h : c.code ≠ 0) : c.codeL n P = c.code := by unfold Chn.codeL; rw [if_pos h]
theorem Chn.codeL_n (h : c.code = 0) (hn : n ≠ c.nd) : c.codeL n P = 11 := by unfold Chn.codeL; rw [if_neg (by omega), if_pos hn]
theorem Chn.codeL_v (h : c.code = 0) (hn : n = c.nd) (hv : inP c.nd n P = false) : c.codeL n P = 3 := by unfold Chn.codeL; rw [if_neg (by omega), if_neg (by omega), if_neg (by rw [hv]; simp)]
theorem Chn.codeL_z (h : c.code = 0) (hn : n = c.nd) (hv : inP c.nd n P = true) : c.codeL n P = 0 := by unfold Chn.codeL; rw [if_neg (by omega), if_neg (by omega), if_pos hv]
theorem Chn.codeL_0 (h : c.codeL n P = 0) : c.code = 0 ∧ n = c.nd ∧ inP c.nd n P = true := by
  by_cases h0 : c.code = 0
  · by_cases hn : n = c.nd
    · refine ⟨h0, hn, ?_⟩
      cases e : inP c.nd n P
      · rw [Chn.codeL_v h0 hn e] at h; omega
      · rfl
    · rw [Chn.codeL_n h0 hn] at h; omega
  · rw [Chn.codeL_a h0] at h; omega
end
theorem lchk1_any {w : World} {B : Nat} {x m : Int} (hB : w.cell? ⟨B, 0, none⟩ = some (.int .i64 m)) :
    Calls Tryz.prog 84 #[.int .i64 x, .pointer (some ⟨B, 0, none⟩)] w fun e w' => e = .returned (.bool (!decide (0 ≤ x ∧ x < m))) ∧ Below w.heap.size w w' := by
  by_cases h1 : x < 0
  · have e1 : decide (x < 0) = true := decide_eq_true h1
    have HR : Hid ((!decide (0 ≤ x ∧ x < m)) = true) := by show (!_) = true; rw [decide_eq_false (by omega)]; rfl
    go_enter Tryz.func84, Tryz.ntmps84
    go_wp2
    go_ret
    exact ⟨by rw [HR.out]; rfl, Below.refl _ _⟩
  · have e1 : decide (x < 0) = false := decide_eq_false h1
    by_cases h2 : m ≤ x
    · have e2 : decide (m ≤ x) = true := decide_eq_true h2
      have HR : Hid ((!decide (0 ≤ x ∧ x < m)) = true) := by show (!_) = true; rw [decide_eq_false (by omega)]; rfl
      clear h1 h2
      go_enter Tryz.func84, Tryz.ntmps84
      go_wp2
      go_ret
      exact ⟨by rw [HR.out]; rfl, Below.refl _ _⟩
    · have e2 : decide (m ≤ x) = false := decide_eq_false h2
      have HR : Hid ((!decide (0 ≤ x ∧ x < m)) = false) := by show (!_) = false; rw [decide_eq_true (by omega)]; rfl
      clear h1 h2
      go_enter Tryz.func84, Tryz.ntmps84
      go_wp2
      go_ret
      exact ⟨by rw [HR.out]; rfl, Below.refl _ _⟩
set_option maxHeartbeats 4000000 in
theorem lindex_any {w : World} {A : Option Addr} {n c B m : Nat} {P : Nat → Int} (h : PaI w A n P) (hB : w.cell? ⟨B, 0, none⟩ = some (.int .i64 (m : Int))) (hn : n ≤ 1000000) :
    Calls Tryz.prog 62 #[.slice A n c, .func (.func 84) #[] #[.pointer (some ⟨B, 0, none⟩)]] w fun e w' => (∃ z : Int, e = .returned (.int .i64 z) ∧ decide (0 ≤ z) = !inP m n P) ∧ Below w.heap.size w w' := by
  have HA := Lib.hid h
  have hBz := lt_of_cell hB
  have HB := Lib.hid hB
  clear h hB
  go_enter Tryz.func62, Tryz.ntmps62
  go_wp2
  go_loopw [8] (fun i wr => ∃ k : Nat, k ≤ n ∧ i = .int .i64 (k : Int) ∧ (∀ j, j < k → 0 ≤ P j ∧ P j < (m : Int)) ∧ Below w.heap.size w wr) (fun i _ => n - (intOf i).toNat)
  case atStart => exact ⟨0, Nat.zero_le _, rfl, fun j hj => by omega, Below.refl _ _⟩
  case round =>
    obtain ⟨k, hk, rfl, hv, hb⟩ := hrel
    have HV := Lib.hid hv
    clear hv
    have hbz := hb.size
    by_cases hlt : k < n
    · obtain ⟨b, off, rfl, hbb, x0⟩ := HA.out.later hb hlt
      have K := Lib.hid (fun W (hb' : Below wr.heap.size wr W) => lchk1_any (x := P k) ((hb'.cell (p := ⟨B, 0, none⟩) (by show B < _; omega)).trans ((hb.cell (p := ⟨B, 0, none⟩) hBz).trans HB.out)))
      have hk0 : (0 : Int) ≤ (k : Int) := by omega
      have hki : (k : Int) < (n : Int) := by omega
      by_cases hv : 0 ≤ P k ∧ P k < (m : Int)
      · have HN := Lib.hid hv
        rw [decide_eq_true hv] at K
        clear hv
        (go_wp2_with fail; (with_reducible refine (K.out _ (by (skip); repeat' (first | (with_reducible exact Below.refl _ _) | (with_reducible assumption) | (with_reducible refine Below.alloc ?_ ?_ _) | (with_reducible refine Below.drew ?_) | (with_reducible refine below_drewN ?_ _) | (with_reducible refine Below.setCell ?_ ?_ _) | (with_reducible refine Below.trans ?_ (Below.mono (by with_reducible assumption) ?_)) | omega | (simp only [ZA, ZS, ZD, ZN]; omega) | go_size))).mono ?_); rintro e w2 ⟨rfl, hb2⟩; have hb2z := Below.size hb2; (try simp only [ZA, ZS, ZD, ZN] at hb2z))
        go_wp2
        go_roundw
        case rel =>
          refine ⟨k + 1, by omega, by go_num, fun j hj => ?_, hb.trans (by have z0 := Below.size hb2; (try simp only [ZA, ZS, ZD, ZN] at z0 ⊢; skip); repeat' (first | (with_reducible exact Below.refl _ _) | (with_reducible assumption) | (with_reducible refine Below.alloc ?_ ?_ _) | (with_reducible refine Below.drew ?_) | (with_reducible refine below_drewN ?_ _) | (with_reducible refine Below.setCell ?_ ?_ _) | (with_reducible refine Below.trans ?_ (Below.mono (by with_reducible assumption) ?_)) | omega | (simp only [ZA, ZS, ZD, ZN]; omega) | go_size))⟩
          by_cases e : j = k
          · rw [e]; exact HN.out
          · exact HV.out j (by omega)
        case measure => simp [intOf]; omega
      · have HN := Lib.hid (inP_no hlt hv)
        rw [decide_eq_false hv] at K
        clear hv
        (go_wp2_with fail; (with_reducible refine (K.out _ (by (skip); repeat' (first | (with_reducible exact Below.refl _ _) | (with_reducible assumption) | (with_reducible refine Below.alloc ?_ ?_ _) | (with_reducible refine Below.drew ?_) | (with_reducible refine below_drewN ?_ _) | (with_reducible refine Below.setCell ?_ ?_ _) | (with_reducible refine Below.trans ?_ (Below.mono (by with_reducible assumption) ?_)) | omega | (simp only [ZA, ZS, ZD, ZN]; omega) | go_size))).mono ?_); rintro e w2 ⟨rfl, hb2⟩; have hb2z := Below.size hb2; (try simp only [ZA, ZS, ZD, ZN] at hb2z))
        go_wp2
        go_ret
        exact ⟨⟨k, rfl, by rw [HN.out]; simp⟩, hb.trans (by have z0 := Below.size hb2; (try simp only [ZA, ZS, ZD, ZN] at z0 ⊢; skip); repeat' (first | (with_reducible exact Below.refl _ _) | (with_reducible assumption) | (with_reducible refine Below.alloc ?_ ?_ _) | (with_reducible refine Below.drew ?_) | (with_reducible refine below_drewN ?_ _) | (with_reducible refine Below.setCell ?_ ?_ _) | (with_reducible refine Below.trans ?_ (Below.mono (by with_reducible assumption) ?_)) | omega | (simp only [ZA, ZS, ZD, ZN]; omega) | go_size))⟩
    · have : k = n := by omega
      subst this
      have HN := Lib.hid (inP_iff.2 HV.out)
      go_wp2
      go_ret
      exact ⟨⟨-1, rfl, by rw [HN.out]; rfl⟩, hb⟩
theorem lcontains_any {w : World} {A : Option Addr} {n c B m : Nat} {P : Nat → Int} (h : PaI w A n P) (hB : w.cell? ⟨B, 0, none⟩ = some (.int .i64 (m : Int))) (hn : n ≤ 1000000) :
    Calls Tryz.prog 83 #[.slice A n c, .func (.func 84) #[] #[.pointer (some ⟨B, 0, none⟩)]] w fun e w' => e = .returned (.bool (!inP m n P)) ∧ Below w.heap.size w w' := by
  have K := Lib.hid (lindex_any (c := c) h hB hn)
  clear h hB
  go_enter Tryz.func83, Tryz.ntmps83
  (go_wp2_with fail; (with_reducible refine (K.out).mono ?_); rintro e w2 ⟨⟨z, rfl, hz⟩, hb2⟩; have hb2z := Below.size hb2; (try simp only [ZA, ZS, ZD, ZN] at hb2z))
  have HZ := Lib.hid hz
  clear hz
  go_wp2
  go_ret
  exact ⟨by rw [← HZ.out]; rfl, hb2⟩
set_option maxHeartbeats 4000000 in
theorem lcheck_any {w : World} {AM AD AV : Option Addr} {cm cd n ca : Nat} {c : Chn} {P : Nat → Int} (h : ChI w w.heap.size AM cm AD cd c) (hs : ChS c 400) (hv : PaI w AV n P) (hn : n ≤ 1000000) :
    Calls Tryz.prog 52 #[cv c.st c.sr AM c.nm cm AD c.nd cd, .slice AV n ca] w fun e w' => e = .returned (errM (c.codeL n P)) ∧ Below w.heap.size w w' := by
  have K1 := Lib.hid (fun W (hb : Below w.heap.size w W) => chCheck (h.below hb) hs.nm hs.short)
  have hmf : ∀ (fn : Fn) (first cap : Array Value) (w : World), (Instr.makeFunc fn first cap).run Tryz.prog w = .ok (.func fn first cap) w := fun _ _ _ _ => rfl
  have HPB := Lib.hid (fun W hb => par_below (W := W) (w := w) (o := .cells #[.int .i64 c.st, .int .i64 c.sr, .slice AM c.nm cm, .slice AD c.nd cd] 25) hb)
  have HPC := Lib.hid (fun W hb => par_cells (W := W) (w := w) (a := .int .i64 c.st) (b := .int .i64 c.sr) (d := .slice AM c.nm cm) (e := .slice AD c.nd cd) (t := 25) hb)
  have hW0z : (w.alloc (.cells #[.int .i64 c.st, .int .i64 c.sr, .slice AM c.nm cm, .slice AD c.nd cd] 25)).heap.size = w.heap.size + 1 := by simp
  by_cases h0 : c.code = 0
  · have ok := Chn.ok_iff.1 h0
    have hst := ok.st
    have KC : Hid (∀ W, Below (w.heap.size + 1) (w.alloc (.cells #[.int .i64 c.st, .int .i64 c.sr, .slice AM c.nm cm, .slice AD c.nd cd] 25)) W → Calls Tryz.prog 83 #[.slice AV n ca, .func (.func 84) #[] #[.pointer (some ⟨w.heap.size, 0, none⟩)]] W fun e w' => e = .returned (.bool (!inP c.nd n P)) ∧ Below W.heap.size W w') := fun W hb => lcontains_any (hv.below (HPB.out W hb)) (by rw [← hst]; exact (HPC.out W hb).1) hn
    rw [h0, errM_0] at K1
    by_cases hnn : n = c.nd
    · have e1 : ((n : Int) != c.st) = false := by rw [hst]; simp [hnn]
      cases hv0 : inP c.nd n P
      · have HX := Lib.hid (Chn.codeL_v h0 hnn hv0)
        rw [hv0] at KC
        clear h hs hv ok hst hnn hv0
        go_enter Tryz.func52, Tryz.ntmps52
        (go_wp2_with fail; (with_reducible refine (K1.out _ (by (skip); repeat' (first | (with_reducible exact Below.refl _ _) | (with_reducible assumption) | (with_reducible refine Below.alloc ?_ ?_ _) | (with_reducible refine Below.drew ?_) | (with_reducible refine below_drewN ?_ _) | (with_reducible refine Below.setCell ?_ ?_ _) | (with_reducible refine Below.trans ?_ (Below.mono (by with_reducible assumption) ?_)) | omega | (simp only [ZA, ZS, ZD, ZN]; omega) | go_size))).mono ?_); rintro e w1 ⟨rfl, hb1⟩; have hb1z := Below.size hb1; (try simp only [ZA, ZS, ZD, ZN] at hb1z); have hb1c0 := fun o => below_at hb1 (w.heap.size) o (by first | omega | (simp only [ZA, ZS, ZD, ZN]; omega)); have hb1f0 := fun o => below_fr hb1 (w.heap.size) o (by first | omega | (simp only [ZA, ZS, ZD, ZN]; omega)))
        have hB1 : Below (w.heap.size + 1) (w.alloc (.cells #[.int .i64 c.st, .int .i64 c.sr, .slice AM c.nm cm, .slice AD c.nd cd] 25)) w1 := by rw [← hW0z]; exact hb1
        (go_wp2_with fail; (with_reducible refine (KC.out _ hB1).mono ?_); rintro e w2 ⟨rfl, hb2⟩; have hb2z := Below.size hb2; (try simp only [ZA, ZS, ZD, ZN] at hb2z))
        go_wp2
        go_ret
        exact ⟨by rw [HX.out, errM_n (by omega)]; rfl, (HPB.out _ hB1).trans (hb2.mono (by have := hB1.size; simp at this; omega))⟩
      · have HX := Lib.hid (Chn.codeL_z h0 hnn hv0)
        rw [hv0] at KC
        clear h hs hv ok hst hnn hv0
        go_enter Tryz.func52, Tryz.ntmps52
        (go_wp2_with fail; (with_reducible refine (K1.out _ (by (skip); repeat' (first | (with_reducible exact Below.refl _ _) | (with_reducible assumption) | (with_reducible refine Below.alloc ?_ ?_ _) | (with_reducible refine Below.drew ?_) | (with_reducible refine below_drewN ?_ _) | (with_reducible refine Below.setCell ?_ ?_ _) | (with_reducible refine Below.trans ?_ (Below.mono (by with_reducible assumption) ?_)) | omega | (simp only [ZA, ZS, ZD, ZN]; omega) | go_size))).mono ?_); rintro e w1 ⟨rfl, hb1⟩; have hb1z := Below.size hb1; (try simp only [ZA, ZS, ZD, ZN] at hb1z); have hb1c0 := fun o => below_at hb1 (w.heap.size) o (by first | omega | (simp only [ZA, ZS, ZD, ZN]; omega)); have hb1f0 := fun o => below_fr hb1 (w.heap.size) o (by first | omega | (simp only [ZA, ZS, ZD, ZN]; omega)))
        have hB1 : Below (w.heap.size + 1) (w.alloc (.cells #[.int .i64 c.st, .int .i64 c.sr, .slice AM c.nm cm, .slice AD c.nd cd] 25)) w1 := by rw [← hW0z]; exact hb1
        (go_wp2_with fail; (with_reducible refine (KC.out _ hB1).mono ?_); rintro e w2 ⟨rfl, hb2⟩; have hb2z := Below.size hb2; (try simp only [ZA, ZS, ZD, ZN] at hb2z))
        go_wp2
        go_ret
        exact ⟨by rw [HX.out, errM_0]; rfl, (HPB.out _ hB1).trans (hb2.mono (by have := hB1.size; simp at this; omega))⟩
    · have e1 : ((n : Int) != c.st) = true := by rw [hst]; simp; omega
      have HX := Lib.hid (Chn.codeL_n (P := P) h0 hnn)
      clear h hs hv ok hst hnn KC
      go_enter Tryz.func52, Tryz.ntmps52
      (go_wp2_with fail; (with_reducible refine (K1.out _ (by (skip); repeat' (first | (with_reducible exact Below.refl _ _) | (with_reducible assumption) | (with_reducible refine Below.alloc ?_ ?_ _) | (with_reducible refine Below.drew ?_) | (with_reducible refine below_drewN ?_ _) | (with_reducible refine Below.setCell ?_ ?_ _) | (with_reducible refine Below.trans ?_ (Below.mono (by with_reducible assumption) ?_)) | omega | (simp only [ZA, ZS, ZD, ZN]; omega) | go_size))).mono ?_); rintro e w1 ⟨rfl, hb1⟩; have hb1z := Below.size hb1; (try simp only [ZA, ZS, ZD, ZN] at hb1z); have hb1c0 := fun o => below_at hb1 (w.heap.size) o (by first | omega | (simp only [ZA, ZS, ZD, ZN]; omega)); have hb1f0 := fun o => below_fr hb1 (w.heap.size) o (by first | omega | (simp only [ZA, ZS, ZD, ZN]; omega)))
      have hB1 := HPB.out w1 (by rw [← hW0z]; exact hb1)
      go_wp2
      go_ret
      exact ⟨by rw [HX.out, errM_n (by omega)]; rfl, hB1⟩
  · have HX := Lib.hid (Chn.codeL_a (n := n) (P := P) h0)
    rw [errM_n h0] at K1
    have HE := Lib.hid (errM_n h0)
    clear h hs hv h0
    go_enter Tryz.func52, Tryz.ntmps52
    (go_wp2_with fail; (with_reducible refine (K1.out _ (by (skip); repeat' (first | (with_reducible exact Below.refl _ _) | (with_reducible assumption) | (with_reducible refine Below.alloc ?_ ?_ _) | (with_reducible refine Below.drew ?_) | (with_reducible refine below_drewN ?_ _) | (with_reducible refine Below.setCell ?_ ?_ _) | (with_reducible refine Below.trans ?_ (Below.mono (by with_reducible assumption) ?_)) | omega | (simp only [ZA, ZS, ZD, ZN]; omega) | go_size))).mono ?_); rintro e w1 ⟨rfl, hb1⟩; have hb1z := Below.size hb1; (try simp only [ZA, ZS, ZD, ZN] at hb1z); have hb1c0 := fun o => below_at hb1 (w.heap.size) o (by first | omega | (simp only [ZA, ZS, ZD, ZN]; omega)); have hb1f0 := fun o => below_fr hb1 (w.heap.size) o (by first | omega | (simp only [ZA, ZS, ZD, ZN]; omega)))
    have hB1 := HPB.out w1 (by rw [← hW0z]; exact hb1)
    go_wp2
    go_ret
    exact ⟨by rw [HX.out, HE.out]; rfl, hB1⟩
end Go.Proofs.YtlncafhgmbhocaaGreatDoor
