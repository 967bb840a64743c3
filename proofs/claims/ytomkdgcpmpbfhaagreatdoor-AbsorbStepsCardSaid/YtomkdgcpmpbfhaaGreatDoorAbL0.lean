/- Contracts of functions and lemmas, used by the proofs of the given statements. No condition beyond those that each lemma names. -/
import Derived.Test.YtomkdgcpmpbfhaaGreatDoorAbK
import Derived.Test.YtomkdgcpmpbfhaaGreatDoorAbH
import Derived.Test.YtomkdgcpmpbfhaaGreatDoorAbE
import Derived.Test.YtomkdgcpmpbfhaaGreatDoorJTextC
namespace Go.Proofs.YtomkdgcpmpbfhaaGreatDoor
set_option linter.unusedSimpArgs false
set_option linter.unusedVariables false
set_option maxRecDepth 20000
/-! ## law54: the document's machines (plain) -/
theorem mcC_q : mcC.q = fun k => ((mcN k : Nat) : Rat) := by
  funext k
  show valR (canR ((mcN k : Nat) : Rat)) = _
  rw [valR_canR]
theorem eight {P : Nat → Prop} (h : ∀ k ∈ List.range 8, P k) : ∀ k, k < 8 → P k := fun k hk => h k (List.mem_range.2 hk)
theorem mcN_le (k : Nat) (hk : k < 8) : 1 ≤ mcN k ∧ mcN k ≤ 5 := by
  have : ∀ k ∈ List.range 8, 1 ≤ mcN k ∧ mcN k ≤ 5 := by decide
  exact eight this k hk
theorem mc_sz (k : Nat) (hk : k < 8) : Sz 1 ((mcN k : Nat) : Rat) := by
  have := mcN_le k hk
  rcases (show mcN k = 1 ∨ mcN k = 2 ∨ mcN k = 3 ∨ mcN k = 4 ∨ mcN k = 5 by omega) with e | e | e | e | e <;> rw [e] <;> refine ⟨?_, ?_⟩ <;> rw [wp_one] <;> decide
theorem mcC_ok : mcC.Ok := by
  refine ⟨by decide, by decide, rfl, by decide, by decide, fun k hk => ?_⟩
  have hk : k < 8 := hk
  rw [mcC_q]
  rcases (show k = 0 ∨ k = 1 ∨ k = 2 ∨ k = 3 ∨ k = 4 ∨ k = 5 ∨ k = 6 ∨ k = 7 by omega) with rfl | rfl | rfl | rfl | rfl | rfl | rfl | rfl <;> refine ⟨by decide, by decide, by decide, by decide, by decide, by decide +kernel, by first | exact fun h => absurd h (by decide) | exact fun _ => by decide +kernel⟩
theorem mcC_small : Small mcC :=
  ⟨by decide, fun k hk => Sz_canR (mc_sz k hk), fun k _ => canR_ok _, fun _ k hk h => by
    have hk : k < 8 := hk
    show nv (canR ((mcN k : Nat) : Rat)).2.2 < 16
    rcases (show k = 0 ∨ k = 1 ∨ k = 2 ∨ k = 3 ∨ k = 4 ∨ k = 5 ∨ k = 6 ∨ k = 7 by omega) with rfl | rfl | rfl | rfl | rfl | rfl | rfl | rfl <;> decide +kernel, fun _ => by decide⟩
theorem mcC_code : mcC.codeA = 0 := by
  refine Chn.codeA_z (Chn.ok_iff.2 mcC_ok) fun s hs _ => ?_
  have hs : s < 4 := hs
  rcases (show s = 0 ∨ s = 1 ∨ s = 2 ∨ s = 3 by omega) with rfl | rfl | rfl | rfl <;> decide +kernel
theorem mcC_lv (s : Nat) (h : mcC.lv s = true) : s = 0 ∨ s = 1 ∨ s = 2 := by
  have h1 : s < 4 := Chn.lv_ln mcC_ok s h
  have h2 : mcC.D s = false := Chn.lv_ld s h
  rcases (show s = 0 ∨ s = 1 ∨ s = 2 ∨ s = 3 by omega) with e | e | e | e
  · exact .inl e
  · exact .inr (.inl e)
  · exact .inr (.inr e)
  · subst e; cases h2
def mcTi (s : Nat) : Rat := if s = 0 then 4 else if s = 3 then 0 else 7/2
def mcVi (s : Nat) : Rat := if s = 0 then 3 else if s = 3 then 0 else 1/2
theorem mc_time (s : Nat) (hs : s < 4) : mcC.times s = mcTi s := by
  have hA := Chn.abS mcC_code
  have := hA.sol_eq (back := false) (b := fun _ => 1) (z := mcTi) (fun s hs hl => ?_) (fun i hi => ?_) s hs
  · rw [this]
    exact hA.solC_eq _ hs
  · have hs : s < 4 := hs
    rcases (show s = 0 ∨ s = 1 ∨ s = 2 ∨ s = 3 by omega) with rfl | rfl | rfl | rfl
    · exact absurd hl (by decide +kernel)
    · exact absurd hl (by decide +kernel)
    · exact absurd hl (by decide +kernel)
    · decide
  · rw [mcC_q]
    show eqS mcC.lv mcC.f mcC.t (fun k => ((mcN k : Nat) : Rat)) false 8 mcTi i = 1
    rcases mcC_lv i hi with rfl | rfl | rfl <;> decide +kernel
theorem mc_visit (s : Nat) (hs : s < 4) : mcC.visits s = mcVi s := by
  have hA := Chn.abS mcC_code
  have := hA.sol_eq (back := true) (b := fun s => if s = mcC.sr.toNat then 1 else 0) (z := mcVi) (fun s hs hl => ?_) (fun i hi => ?_) s hs
  · rw [this]
    exact hA.solC_eq _ hs
  · have hs : s < 4 := hs
    rcases (show s = 0 ∨ s = 1 ∨ s = 2 ∨ s = 3 by omega) with rfl | rfl | rfl | rfl
    · exact absurd hl (by decide +kernel)
    · exact absurd hl (by decide +kernel)
    · exact absurd hl (by decide +kernel)
    · decide
  · rw [mcC_q]
    show eqS mcC.lv mcC.f mcC.t (fun k => ((mcN k : Nat) : Rat)) true 8 mcVi i = if i = 0 then 1 else 0
    rcases mcC_lv i hi with rfl | rfl | rfl <;> decide +kernel
theorem mc_end : mcC.ends 3 = 1 := by
  unfold Chn.ends
  rw [endK_form]
  have e : sumN (fun k => if (mcC.lv (mcC.f k) && mcC.D (mcC.t k)) = true ∧ mcC.t k = 3 then mcC.q k * mcC.visits (mcC.f k) else 0) 8 = sumN (fun k => if (mcC.lv (mcC.f k) && mcC.D (mcC.t k)) = true ∧ mcC.t k = 3 then ((mcN k : Nat) : Rat) * mcVi (mcC.f k) else 0) 8 := by
    refine sumN_congr fun k hk => ?_
    rw [mc_visit _ (Chn.lt_f mcC_ok k hk), mcC_q]
  show mcC.end0 3 + sumN _ 8 = 1
  rw [e]
  decide +kernel
attribute [local irreducible] nv wp
open Go.RowKit in
theorem ex_text4 {w : World} {v : Value} (h : RdR w v (canR 4)) : Calls Tryz.prog 38 #[v] w fun e w' => e = .returned (.string ⟨#[52]⟩) ∧ Below w.heap.size w w' :=
  (text_can h (by decide +kernel) (by decide +kernel) (by decide +kernel) [52] [49] (by decide +kernel) (by decide +kernel) (by simp) (by simp) (by simp) (by simp)).mono fun e w' h => ⟨h.1.trans (congrArg (fun x => Ending.returned (.string x)) (by decide +kernel)), h.2⟩
open Go.RowKit in
theorem ex_text72 {w : World} {v : Value} (h : RdR w v (canR (7/2))) : Calls Tryz.prog 38 #[v] w fun e w' => e = .returned (.string ⟨#[55, 47, 50]⟩) ∧ Below w.heap.size w w' :=
  (text_can h (by decide +kernel) (by decide +kernel) (by decide +kernel) [55] [50] (by decide +kernel) (by decide +kernel) (by simp) (by simp) (by simp) (by simp)).mono fun e w' h => ⟨h.1.trans (congrArg (fun x => Ending.returned (.string x)) (by decide +kernel)), h.2⟩
open Go.RowKit in
theorem ex_text1 {w : World} {v : Value} (h : RdR w v (canR 1)) : Calls Tryz.prog 38 #[v] w fun e w' => e = .returned (.string ⟨#[49]⟩) ∧ Below w.heap.size w w' :=
  (text_can h (by decide +kernel) (by decide +kernel) (by decide +kernel) [49] [49] (by decide +kernel) (by decide +kernel) (by simp) (by simp) (by simp) (by simp)).mono fun e w' h => ⟨h.1.trans (congrArg (fun x => Ending.returned (.string x)) (by decide +kernel)), h.2⟩
end Go.Proofs.YtomkdgcpmpbfhaaGreatDoor
