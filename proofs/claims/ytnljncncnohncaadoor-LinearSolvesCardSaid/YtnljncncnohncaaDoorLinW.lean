/- Contracts of functions and lemmas, used by the proofs of the given statements. No condition beyond those that each lemma names. -/
import Derived.Test.YtnljncncnohncaaDoorLinJ
import Derived.Test.YtnljncncnohncaaDoorJLinP
namespace Go.Proofs.YtnljncncnohncaaDoor
open Go.RowKit
set_option linter.unusedSimpArgs false
set_option linter.unusedVariables false
set_option maxRecDepth 20000
attribute [local irreducible] nv wp win plainB validR valR canR gj findR elim swp gl
/-! ## package linear: Reduce, Rank -/
def RetR3 (b0 n c : Nat) (M : Mf) (e : Ending) (w' : World) : Prop := ∃ bo co P cp, e = .returned (.tuple #[.slice (some ⟨bo, 0, none⟩) (gj n M c).2.length co, .slice P (gj n M c).2.length cp, .nilIface]) ∧ MatG w' b0 bo co n (fun _ => c) (gj n M c).1 ∧ OwI w' b0 P cp (gj n M c).2
set_option maxHeartbeats 4000000 in
theorem reduceP_any {w : World} {n c ca L : Nat} {A : Option Addr} {len : Nat → Nat} {R : Nat → Nat → Rw} (h : MatI w w.heap.size A n len R) (hcode : codeM n len = 0) (hc : len 0 = c)
    (hz : ∀ i k, i < n → k < c → (R i k).2.1.length ≤ L ∧ (R i k).2.2.length ≤ L) (hok : ∀ i k, i < n → k < c → okR (R i k)) (hL : 1 ≤ L) (hg : gl L c ≤ 1000000000) :
    Calls Tryd.prog 25 #[.slice A n ca] w fun e w' => RetR3 w.heap.size n c (fun i k => valR (R i k)) e w' ∧ Below w.heap.size w w' := by
  obtain ⟨hn0, hl0, hn, hl, hall⟩ := codeM_zero hcode
  rw [hc] at hl0 hl
  have hL2 : L ≤ 1000000000 := by
    have h1 := gl_mono (L := L) (Nat.zero_le c)
    rw [gl_0] at h1
    omega
  obtain ⟨M, hM⟩ : ∃ M : Mf, M = fun i k => valR (R i k) := ⟨_, rfl⟩
  have HSZ := Lib.hid (fun a b (ha : a < n) (hb : b < c) => (by rw [hM]; exact Sz_valR (hok a b ha hb) hL (hz a b ha hb).1 (hz a b ha hb).2 : Sz L (M a b)))
  have K1 := Lib.hid (check_any (ca := ca) h (by omega) (fun i hi => by have := hall i hi; omega))
  rw [hcode, errM_0] at K1
  have K2 := Lib.hid (copied_any (L := L) (ca := ca) (w := w) h (by omega) (fun i hi => by have := hall i hi; omega) (fun i k hi hk => hz i k hi (by have := hall i hi; omega)) hL (by omega))
  rw [← hM] at K2 ⊢
  have HALL := Lib.hid (fun i hi => (hall i hi).trans hc)
  have HG := Lib.hid hg
  clear hM hz hok hg hcode hall hc h
  go_enter Tryd.func25, Tryd.ntmps25
  go_wp2_with fail
  (with_reducible refine (K1.out).mono ?_)
  rintro e _ ⟨rfl, rfl⟩
  go_wp2_with fail
  (with_reducible refine (K2.out).mono ?_)
  rintro e w1 ⟨⟨bo, co, rfl, own0⟩, hb1⟩
  have own1 := own0.congr (len' := fun _ => c) (fun i hi => HALL.out i hi) (fun _ _ _ _ => rfl)
  have hb1z := hb1.size
  have KR := Lib.hid (reduce_any own1 hn0 hl0 (by omega) (by omega) hb1z HSZ.out hL HG.out)
  clear own0 own1
  go_wp2_with fail
  (with_reducible refine (KR.out).mono ?_)
  rintro e w6 ⟨⟨P, cp, rfl, own6, opv⟩, hb6, hkp6⟩
  have R1 := Lib.hid own6
  have R2 := Lib.hid (opv.base_ hb1z)
  have R3 := Lib.hid (hb1.trans hb6)
  clear own6 opv hb6 hkp6 hb1
  generalize hr : (gj n M c).2.length = r at *
  have HR := Lib.hid hr
  clear hr
  go_wp2
  go_ret3
  exact ⟨⟨bo, co, P, cp, by rw [HR.out]; rfl, R1.out, R2.out⟩, R3.out⟩
theorem rankP_any {w : World} {n c ca L : Nat} {A : Option Addr} {len : Nat → Nat} {R : Nat → Nat → Rw} (h : MatI w w.heap.size A n len R) (hcode : codeM n len = 0) (hc : len 0 = c)
    (hz : ∀ i k, i < n → k < c → (R i k).2.1.length ≤ L ∧ (R i k).2.2.length ≤ L) (hok : ∀ i k, i < n → k < c → okR (R i k)) (hL : 1 ≤ L) (hg : gl L c ≤ 1000000000) :
    Calls Tryd.prog 30 #[.slice A n ca] w fun e w' => e = .returned (.tuple #[.int .i64 (((gj n (fun i k => valR (R i k)) c).2.length : Nat) : Int), .nilIface]) ∧ Below w.heap.size w w' := by
  have K := Lib.hid (reduceP_any (ca := ca) h hcode hc hz hok hL hg)
  clear h hz hok hg hcode hc
  generalize (fun i k => valR (R i k)) = M at *
  go_enter Tryd.func30, Tryd.ntmps30
  go_wp2_with fail
  (with_reducible refine (K.out).mono ?_)
  rintro e w1 ⟨⟨bo, co, P, cp, rfl, _, _⟩, hb1⟩
  generalize hr : (gj n M c).2.length = r at *
  have HR := Lib.hid hr
  clear hr
  go_wp2
  go_ret2
  exact ⟨by first | rfl | (rw [HR.out]; rfl), hb1⟩
end Go.Proofs.YtnljncncnohncaaDoor
