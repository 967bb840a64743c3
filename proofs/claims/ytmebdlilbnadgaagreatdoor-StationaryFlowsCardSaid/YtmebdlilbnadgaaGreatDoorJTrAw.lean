/- Contracts of functions and lemmas, used by the proofs of the given statements. No condition beyond those that each lemma names. -/
import Derived.Test.YtmebdlilbnadgaaGreatDoorTrL2
import Derived.Test.YtmebdlilbnadgaaGreatDoorJTextC
namespace Go.Proofs.YtmebdlilbnadgaaGreatDoor
open Go.RowKit
set_option linter.unusedSimpArgs false
set_option linter.unusedVariables false
set_option maxRecDepth 20000
/-! ## law53: awake -/
/-- the document's example -/
def exC : Chn := ⟨2, 0, 2, fun k => if k = 0 then 0 else 1, fun k => if k = 0 then 1 else 0, fun k => canR (if k = 0 then 1 else 3), 2, fun k => k == 1⟩
theorem exC_q : exC.q = fun k => if k = 0 then 1 else 3 := by
  funext k
  show valR (canR (if k = 0 then 1 else 3)) = _
  rw [valR_canR]
theorem exC_f : exC.f = fun k => if k = 0 then 0 else 1 := by
  funext k
  show (if k = 0 then (0 : Int) else 1).toNat = _
  split <;> rfl
theorem exC_t : exC.t = fun k => if k = 0 then 1 else 0 := by
  funext k
  show (if k = 0 then (1 : Int) else 0).toNat = _
  split <;> rfl
theorem two {P : Nat → Prop} (h0 : P 0) (h1 : P 1) : ∀ k, k < 2 → P k := fun k hk => by
  rcases (show k = 0 ∨ k = 1 by omega) with rfl | rfl
  · exact h0
  · exact h1
theorem exC_ok : exC.Ok := by
  refine ⟨by decide, by decide, rfl, by decide, by decide, two ?_ ?_⟩
  · rw [exC_q]; refine ⟨by decide, by decide, by decide, by decide, by decide, by decide, fun h => absurd h (by decide)⟩
  · rw [exC_q]; refine ⟨by decide, by decide, by decide, by decide, by decide, by decide, fun _ => by decide⟩
theorem sz1_1 : Sz 1 (1 : Rat) := by refine ⟨?_, ?_⟩ <;> rw [wp_one] <;> decide
theorem sz1_3 : Sz 1 (3 : Rat) := by refine ⟨?_, ?_⟩ <;> rw [wp_one] <;> decide
theorem exC_small : Small exC :=
  ⟨by decide, two (Sz_canR sz1_1) (Sz_canR sz1_3), fun k _ => canR_ok _, fun h => absurd h (by decide), fun _ => by decide⟩
attribute [local irreducible] nv wp
theorem ex_text34 {w : World} {v : Value} (h : RdR w v (canR (3/4))) : Calls Tryz.prog 43 #[v] w fun e w' => e = .returned (.string ⟨#[51, 47, 52]⟩) ∧ Below w.heap.size w w' :=
  (text_can h (by decide +kernel) (by decide +kernel) (by decide +kernel) [51] [52] (by decide +kernel) (by decide +kernel) (by simp) (by simp) (by simp) (by simp)).mono fun e w' h => ⟨h.1.trans (congrArg (fun x => Ending.returned (.string x)) (by decide +kernel)), h.2⟩
end Go.Proofs.YtmebdlilbnadgaaGreatDoor
namespace Go.Proofs.YtmebdlilbnadgaaGreatDoor
open Go.RowKit
set_option linter.unusedSimpArgs false
set_option linter.unusedVariables false
set_option maxRecDepth 20000
attribute [local irreducible] nv wp win plainB validR valR canR mvE chkM codeC exK dsum
/-! ## law53: awake -/
theorem rofN (n : Nat) (hn : n < 1000) (z : Int) (hz : z = (n : Int)) (W : World) : Calls Tryz.prog 42 #[.int .i64 z] W fun e w' => RetQ W.heap.size (n : Rat) e w' ∧ Below W.heap.size W w' := by subst hz; exact rofQ n W (by omega)
/-- the example, as it lies there -/
theorem exC_in {W : World} {gM gB : Nat} {s1 s2 : Bool} {A1 A2 B1 B2 : Option Addr} {n1 c1 m1 d1 n2 c2 m2 d2 : Nat} (hM : gM < W.heap.size) (hB : gB < W.heap.size)
    (h1 : RdS W W.heap.size (rv s1 A1 n1 c1 B1 m1 d1) (canR 1)) (h2 : RdS W W.heap.size (rv s2 A2 n2 c2 B2 m2 d2) (canR 3))
    (hc : ∀ j u, [Value.int .i64 0, .int .i64 1, .bool s1, .slice A1 n1 c1, .slice B1 m1 d1, .int .i64 1, .int .i64 0, .bool s2, .slice A2 n2 c2, .slice B2 m2 d2][j]? = some u → W.cell? ⟨gM, j, none⟩ = some u)
    (hd : ∀ j u, [Value.bool false, .bool true][j]? = some u → W.cell? ⟨gB, j, none⟩ = some u) : ChI W W.heap.size (some ⟨gM, 0, none⟩) 2 (some ⟨gB, 0, none⟩) 2 exC := by
  refine ⟨⟨⟨fun k => if k = 0 then rv s1 A1 n1 c1 B1 m1 d1 else rv s2 A2 n2 c2 B2 m2 d2, two h1 h2, rfl, fun _ => ⟨gM, 0, rfl, hM, fun j u hu => ?_⟩⟩, ?_⟩, ⟨rfl, fun _ => ⟨gB, 0, rfl, hB, fun j u hu => ?_⟩⟩, ?_, by decide, by decide⟩
  · rw [Nat.zero_add]; exact hc j u hu
  · intro _ a ha; injection ha with ha; subst ha; exact hM
  · rw [Nat.zero_add]; exact hd j u hu
  · intro _ a ha; injection ha with ha; subst ha; exact hB
end Go.Proofs.YtmebdlilbnadgaaGreatDoor
