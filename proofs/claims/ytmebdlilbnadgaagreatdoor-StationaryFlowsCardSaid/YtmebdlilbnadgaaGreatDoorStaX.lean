/- Contracts of functions and lemmas, used by the proofs of the given statements. No condition beyond those that each lemma names. -/
import Derived.Test.YtmebdlilbnadgaaGreatDoorStaY
import Derived.Test.YtmebdlilbnadgaaGreatDoorStaW3
import Derived.Test.YtmebdlilbnadgaaGreatDoorJLinY
import Derived.Test.YtmebdlilbnadgaaGreatDoorJTrAw
namespace Go.Proofs.YtmebdlilbnadgaaGreatDoor
open Go.RowKit
set_option linter.unusedSimpArgs false
set_option linter.unusedVariables false
set_option maxRecDepth 20000
attribute [local irreducible] nv wp win plainB validR valR canR mvE chkM codeC netS sumN dsum floG
/-! ## law52: valid; Solve, Down and Frequency of a chain with one closed class -/
theorem Small.pi_big {c : Chn} (hS : Small c) (ok : c.Ok) (n : Nat) : BigS n (can c.pi) := fun k _ => by
  obtain ⟨M, hM⟩ : ∃ M, M = 21400000 := ⟨_, rfl⟩
  have h : Sz M (c.pi k) := by rw [hM]; exact hS.pi_sz ok k
  have := Sz_canR h
  show (canR (c.pi k)).2.1.length ≤ _ ∧ (canR (c.pi k)).2.2.length ≤ _
  omega
theorem outS_0 {n : Nat} : outN' 0 n = n := by unfold outN'; rw [if_pos rfl]
section
variable {w : World} {AM AD A : Option Addr} {cm cd ca : Nat} {c : Chn}
theorem pi_dist (h : ChI w w.heap.size AM cm AD cd c) (hS : Small c) (ok : c.Ok) (hr : RowA w w.heap.size A c.nd (can c.pi)) : DistS w AM cm AD cd c A c.nd (can c.pi) :=
  ⟨h, hS.sizP, hr, hS.pi_big ok _, by have := hS.nd ok; omega, fun _ => by rw [Chn.pi_vec]; exact hS.pi_fz ok⟩
theorem Chn.pi_codeCe (h0 : c.code = 0) (h1 : c.ncl = 1) : c.codeCe c.nd (can c.pi) = 0 := Chn.codeCe_z (Chn.pi_codeB h0) (Chn.pi_bal h0 h1)
theorem Chn.pi_frqV (h0 : c.code = 0) (h1 : c.ncl = 1) : c.frqV c.nd (can c.pi) = c.frq c.pi c.nm := by
  unfold Chn.frqV
  rw [if_pos (Chn.pi_codeCe h0 h1), Chn.pi_vec]
theorem Chn.pi_dwnV (h0 : c.code = 0) (h1 : c.ncl = 1) : c.dwnV c.nd (can c.pi) = dsum c.D c.pi c.nd := by
  unfold Chn.dwnV
  rw [if_pos (Chn.pi_codeCe h0 h1), Chn.pi_vec]
/-- Solve, where it succeeds -/
theorem solve_ok (h : ChI w w.heap.size AM cm AD cd c) (hS : SizP c) (h0 : c.code = 0) (h1 : c.ncl = 1) :
    Calls Tryz.prog 13 #[cv c.st c.sr AM c.nm cm AD c.nd cd] w fun e w' => (∃ A d, e = .returned (.tuple #[.slice A c.nd d, .nilIface]) ∧ RowA w' w'.heap.size A c.nd (can c.pi)) ∧ Below w.heap.size w w' :=
  (SolveP_any h hS).mono fun e w' hh => ⟨by
    have := hh.1
    rw [Chn.codeP_z h0 h1, outS_0] at this
    obtain ⟨A, d, e1, r⟩ := this
    rw [errM_0] at e1
    exact ⟨A, d, e1, r⟩, hh.2⟩
end
set_option maxHeartbeats 2000000 in
theorem valid52_any {w : World} {AM AD : Option Addr} {cm cd : Nat} {c : Chn} (h : ChI w w.heap.size AM cm AD cd c) :
    Calls Tryz.prog 9 #[cv c.st c.sr AM c.nm cm AD c.nd cd] w fun e w' => RetB (FewP c ∧ c.code = 0) e ∧ Below w.heap.size w w' := by
  have KF := Lib.hid (fun W (hb : Below w.heap.size w W) => few_any (h.below hb))
  have KE := Lib.hid (fun W (hb : Below w.heap.size w W) (hf : FewP c) => rchCheck (h.below hb) (hf.small h).chS.nm (hf.small h).chS.short)
  have hbA : Below w.heap.size w (w.alloc (.cells #[.int .i64 c.st, .int .i64 c.sr, .slice AM c.nm cm, .slice AD c.nd cd] 25)) := (Below.refl _ _).alloc (Nat.le_refl _) _
  have HBA := Lib.hid hbA
  clear h hbA
  go_enter Tryz.func9, Tryz.ntmps9
  (go_wp2_with fail; (with_reducible refine (KF.out _ HBA.out).mono ?_); rintro e w1 ⟨⟨bb, rfl, hbb⟩, hb1⟩; have hb1z := Below.size hb1; (try simp only [ZA, ZS, ZD, ZN] at hb1z); have hb1c0 := fun o => below_at hb1 (w.heap.size) o (by first | omega | (simp only [ZA, ZS, ZD, ZN]; omega)); have hb1f0 := fun o => below_fr hb1 (w.heap.size) o (by first | omega | (simp only [ZA, ZS, ZD, ZN]; omega)))
  have hB1 : Below w.heap.size w w1 := HBA.out.trans (hb1.mono (by simp))
  cases bb with
  | false =>
    clear hbb
    go_wp2
    go_ret
    exact ⟨retB_f, hB1⟩
  | true =>
    have HF := Lib.hid (hbb rfl)
    clear hbb
    have KE2 := Lib.hid (fun W hb => KE.out W hb HF.out)
    obtain ⟨ca, hca⟩ : ∃ ca, ca = c.code := ⟨_, rfl⟩
    rw [← hca] at KE2
    have HCA := Lib.hid hca
    clear hca KE
    by_cases h0 : ca = 0
    · subst h0
      (go_wp2_with fail; (with_reducible refine (KE2.out _ hB1).mono ?_); rintro e w2 ⟨rfl, hb2⟩; have hb2z := Below.size hb2; (try simp only [ZA, ZS, ZD, ZN] at hb2z))
      go_wp2
      go_ret
      exact ⟨retB_t ⟨HF.out, HCA.out.symm⟩, hB1.trans (hb2.mono hB1.size)⟩
    · have e1 : (ca == 0) = false := by simpa using h0
      (go_wp2_with fail; (with_reducible refine (KE2.out _ hB1).mono ?_); rintro e w2 ⟨rfl, hb2⟩; have hb2z := Below.size hb2; (try simp only [ZA, ZS, ZD, ZN] at hb2z))
      go_wp2
      go_ret
      exact ⟨retB_f, hB1.trans (hb2.mono hB1.size)⟩
end Go.Proofs.YtmebdlilbnadgaaGreatDoor
