/- Contracts of functions and lemmas, used by the proofs of the given statements. No condition beyond those that each lemma names. -/
import Derived.Test.YtomkdgcpmpbfhaaGreatDoorAbU
import Derived.Test.YtomkdgcpmpbfhaaGreatDoorJLawTr
namespace Go.Proofs.YtomkdgcpmpbfhaaGreatDoor
open Go.RowKit
set_option linter.unusedSimpArgs false
set_option linter.unusedVariables false
set_option maxRecDepth 20000
attribute [local irreducible] nv wp win plainB validR valR canR mvE chkM codeC spr sprN chg cnt cntB ixB kept sysK plB parM outK gj
/-! ## package absorb: Live, Times, Visits -/
theorem MkI.nil_ (w : World) (f : Nat → Bool) : MkI w none 0 f := Rds.nil_ _ _ _ _
theorem retSo_pass {n : Nat} {f : Nat → Bool} {x : Nat → Rat} {code : Int} {b : Nat} {e : Ending} {w' : World} (h : RetSo n f x code b e w') : ∃ A1 m1 c1 A2 m2 c2, e = .returned (.tuple #[.slice A1 m1 c1, .slice A2 m2 c2, errM code]) ∧ m1 = outN' code n ∧ m2 = outN' code n ∧ MkI w' A1 m1 f ∧ RowA w' w'.heap.size A2 m2 (can x) := by
  unfold RetSo at h
  unfold outN'
  by_cases h0 : code = 0
  · rw [if_pos h0] at h ⊢
    obtain ⟨A1, c1, A2, c2, rfl, h1, h2⟩ := h
    exact ⟨A1, n, c1, A2, n, c2, by rw [h0, errM_0], rfl, rfl, h1.mk, h2⟩
  · rw [if_neg h0] at h ⊢
    exact ⟨_, _, _, _, _, _, h, rfl, rfl, MkI.nil_ _ _, RowA.nil_ _ _ _ _⟩
section
variable {w : World} {AM AD : Option Addr} {cm cd : Nat} {c : Chn}
/-- what the numbers of a chain's system want -/
structure SysS (c : Chn) : Prop where
  ch : ChS c 400
  nd : c.Ok → c.nd ≤ 9
  sz : c.Ok → ∀ back k, k ≤ c.nm → ∀ i j, Sz 400 (sysK c.lv c.f c.t c.q back k i j)
set_option maxHeartbeats 2000000 in
theorem Times_any (h : ChI w w.heap.size AM cm AD cd c) (hs : SysS c) :
    Calls Tryz.prog 10 #[cv c.st c.sr AM c.nm cm AD c.nd cd] w fun e w' => AnsV errM (outN' c.codeA c.nd) c.times c.codeA e w' ∧ Below w.heap.size w w' := by
  have K1 := Lib.hid (fun W (hb : Below w.heap.size w W) => solveA_any false (h.below hb) hs.ch hs.nd (fun ok => hs.sz ok false))
  have hx : c.sol false = c.times := rfl
  rw [hx] at K1
  obtain ⟨ca, hca⟩ : ∃ ca, ca = c.codeA := ⟨_, rfl⟩
  rw [← hca] at K1 ⊢
  clear hca h hs hx
  go_enter Tryz.func10, Tryz.ntmps10
  (go_wp2_with fail; (with_reducible refine (K1.out _ (by (skip); repeat' (first | (with_reducible exact Below.refl _ _) | (with_reducible assumption) | (with_reducible refine Below.alloc ?_ ?_ _) | (with_reducible refine Below.drew ?_) | (with_reducible refine below_drewN ?_ _) | (with_reducible refine Below.setCell ?_ ?_ _) | (with_reducible refine Below.trans ?_ (Below.mono (by with_reducible assumption) ?_)) | omega | (simp only [ZA, ZS, ZD, ZN]; omega) | go_size))).mono ?_); rintro e w1 ⟨hR, hb1⟩; have hb1z := Below.size hb1; (try simp only [ZA, ZS, ZD, ZN] at hb1z))
  obtain ⟨A1, m1, c1, A2, m2, c2, rfl, hm1, hm2, -, hr⟩ := retSo_pass hR
  have HM := Lib.hid hm2
  have HR := Lib.hid hr
  clear hm1 hm2 hr hR
  go_wp2
  go_ret2
  exact ⟨⟨_, _, by rw [← HM.out]; rfl, by rw [← HM.out]; exact HR.out⟩, (by have z0 := Below.size hb1; (try simp only [ZA, ZS, ZD, ZN] at z0 ⊢; skip); repeat' (first | (with_reducible exact Below.refl _ _) | (with_reducible assumption) | (with_reducible refine Below.alloc ?_ ?_ _) | (with_reducible refine Below.drew ?_) | (with_reducible refine below_drewN ?_ _) | (with_reducible refine Below.setCell ?_ ?_ _) | (with_reducible refine Below.trans ?_ (Below.mono (by with_reducible assumption) ?_)) | omega | (simp only [ZA, ZS, ZD, ZN]; omega) | go_size))⟩
set_option maxHeartbeats 2000000 in
theorem Visits_any (h : ChI w w.heap.size AM cm AD cd c) (hs : SysS c) :
    Calls Tryz.prog 11 #[cv c.st c.sr AM c.nm cm AD c.nd cd] w fun e w' => AnsV errM (outN' c.codeA c.nd) c.visits c.codeA e w' ∧ Below w.heap.size w w' := by
  have K1 := Lib.hid (fun W (hb : Below w.heap.size w W) => solveA_any true (h.below hb) hs.ch hs.nd (fun ok => hs.sz ok true))
  have hx : c.sol true = c.visits := rfl
  rw [hx] at K1
  obtain ⟨ca, hca⟩ : ∃ ca, ca = c.codeA := ⟨_, rfl⟩
  rw [← hca] at K1 ⊢
  clear hca h hs hx
  go_enter Tryz.func11, Tryz.ntmps11
  (go_wp2_with fail; (with_reducible refine (K1.out _ (by (skip); repeat' (first | (with_reducible exact Below.refl _ _) | (with_reducible assumption) | (with_reducible refine Below.alloc ?_ ?_ _) | (with_reducible refine Below.drew ?_) | (with_reducible refine below_drewN ?_ _) | (with_reducible refine Below.setCell ?_ ?_ _) | (with_reducible refine Below.trans ?_ (Below.mono (by with_reducible assumption) ?_)) | omega | (simp only [ZA, ZS, ZD, ZN]; omega) | go_size))).mono ?_); rintro e w1 ⟨hR, hb1⟩; have hb1z := Below.size hb1; (try simp only [ZA, ZS, ZD, ZN] at hb1z))
  obtain ⟨A1, m1, c1, A2, m2, c2, rfl, hm1, hm2, -, hr⟩ := retSo_pass hR
  have HM := Lib.hid hm2
  have HR := Lib.hid hr
  clear hm1 hm2 hr hR
  go_wp2
  go_ret2
  exact ⟨⟨_, _, by rw [← HM.out]; rfl, by rw [← HM.out]; exact HR.out⟩, (by have z0 := Below.size hb1; (try simp only [ZA, ZS, ZD, ZN] at z0 ⊢; skip); repeat' (first | (with_reducible exact Below.refl _ _) | (with_reducible assumption) | (with_reducible refine Below.alloc ?_ ?_ _) | (with_reducible refine Below.drew ?_) | (with_reducible refine below_drewN ?_ _) | (with_reducible refine Below.setCell ?_ ?_ _) | (with_reducible refine Below.trans ?_ (Below.mono (by with_reducible assumption) ?_)) | omega | (simp only [ZA, ZS, ZD, ZN]; omega) | go_size))⟩
end
end Go.Proofs.YtomkdgcpmpbfhaaGreatDoor
