/- Contracts of functions and lemmas, used by the proofs of the given statements. No condition beyond those that each lemma names. -/
import Derived.Test.YtmebdlilbnadgaaGreatDoorJLawTr2
import Derived.Test.YtmebdlilbnadgaaGreatDoorTrWB
import Derived.Test.YtmebdlilbnadgaaGreatDoorJLawTr
import Derived.Test.YtmebdlilbnadgaaGreatDoorBaseBig
import Derived.Test.YtmebdlilbnadgaaGreatDoorBis
namespace Go.Proofs.YtmebdlilbnadgaaGreatDoor
open Go.RowKit
set_option linter.unusedSimpArgs false
set_option linter.unusedVariables false
set_option maxRecDepth 20000
attribute [local irreducible] nv wp win plainB validR valR canR mvE chkM codeC exK maxF dsum netS sumN staX
/-! ## TransientFixed -/
theorem Small.stSB {c : Chn} (h : Small c) (ok : c.Ok) {r : Rat} (hr : 0 < r) (hrs : Sz 4 r) {v : Nat → Rat} {L M : Nat} (hv : FzL L v) (hL : 1 ≤ L) (hM : L + 400 ≤ M) (hM2 : M ≤ 1000000000) : StS c r v M := by
  have hp := fun ab => hv.parts (act := c.act ab) (F := c.f) (T := c.t) (h.rts ok) hr hrs
  exact ⟨by omega, hM2, fun k hk => by have := h.raw k hk; omega, by have := h.nm; omega, fun s _ => (hv.sz hL s).more (by omega), hrs.more (by omega), fun k hk => ((hp true).2.2 k hk).more (by omega), fun k hk => ((hp true).1 k hk).more (by omega), fun ab k s hk => (((hp ab).2.1 k hk).sz (by omega) s).more (by omega)⟩
/-- a step of the stationary distribution -/
theorem Chn.pi_step {c : Chn} (ok : c.Ok) (h1 : c.ncl = 1) (r : Rat) : ∀ s, s < c.nd → c.stepQ false r c.pi s = c.pi s :=
  step_fixed (fun k hk => Chn.mvA ok k hk) (Chn.pi_ok ok h1).2.2
theorem fixed_step {c : Chn} {AM AD A : Option Addr} {cm cd ca : Nat} {v : Value} {r : Rw} (hP : ValP c r) (hS : Small c) (hok : okR r) (h1 : c.ncl = 1) {W : World} (hi : ChI W W.heap.size AM cm AD cd c) (hr : RdS W W.heap.size v r) (hv : RowA W W.heap.size A c.nd (can c.pi)) :
    Calls Tryz.prog 40 #[cv c.st c.sr AM c.nm cm AD c.nd cd, v, .slice A c.nd ca] W fun e w' => (∃ A' c', e = .returned (.tuple #[.slice A' c.nd c', .nilIface]) ∧ RowA w' w'.heap.size A' c.nd (can c.pi)) ∧ Below W.heap.size W w' := by
  have okc := hP.okc
  have hct : c.codeT r c.nd (can c.pi) = 0 := codeT_0 hP.code rfl (allV_can _ _)
  have hrs : Sz 4 (valR r) := Sz_valR hok (by omega) hP.l1 hP.l2
  have hf := hS.pi_fz okc.1
  have hst : StS c (valR r) (vecQ c.nd (can c.pi)) 220001000 := by
    rw [Chn.pi_vec]
    exact hS.stSB okc.1 okc.2.1 hrs hf (by omega) (by omega) (by omega)
  have := Step_anyB (ca := ca) hi hS.chS hr hP.l1 hP.l2 hv (hS.pi_big okc.1 _) (by have := okc.1.hi; omega) (fun _ => hst)
  refine this.mono fun e w' h => ⟨?_, h.2⟩
  have h2 := h.1.out h.2.size
  rw [hct] at h2
  obtain ⟨A', c', e1, h3⟩ := h2
  refine ⟨A', c', e1, h3.congr fun s hs => ?_⟩
  show canR _ = canR _
  rw [Chn.pi_vec]
  exact congrArg canR (Chn.pi_step okc.1 h1 _ s hs)
set_option maxHeartbeats 8000000 in
theorem transientFixed_law {w : World} {AM AD : Option Addr} {cm cd : Nat} {c : Chn} {v : Value} {r : Rw} (h : ChI w w.heap.size AM cm AD cd c) (hr : RdS w w.heap.size v r) :
    Calls Tryz.prog 8 #[cv c.st c.sr AM c.nm cm AD c.nd cd, v] w fun e w' => e = .returned (.bool true) ∧ Below w.heap.size w w' := by
  have KV := Lib.hid (fun W (hb : Below w.heap.size w W) => valid_law (h.below hb) ((hr.kp (Kp.of_below hb)).base hb.size))
  have HI := Lib.hid (fun W (hb : Below w.heap.size w W) => h.below hb)
  have HRR := Lib.hid (fun W (hb : Below w.heap.size w W) => (hr.kp (Kp.of_below hb)).base hb.size)
  have HOK := Lib.hid hr.ok
  have HSm := Lib.hid (fun (hf : FewP c) => hf.small h)
  obtain ⟨s0, A0, n0, c0, B0, m0, d0, rfl⟩ := hr.form
  have hbA : Below w.heap.size w ((w.alloc (.cells #[.int .i64 c.st, .int .i64 c.sr, .slice AM c.nm cm, .slice AD c.nd cd] 25)).alloc (.cells #[.bool s0, .slice A0 n0 c0, .slice B0 m0 d0] 30)) := ((Below.refl _ _).alloc (Nat.le_refl _) _).alloc (by simp) _
  have HBA := Lib.hid hbA
  clear h hr hbA
  go_enter Tryz.func8, Tryz.ntmps8
  (go_wp2_with fail; (with_reducible refine (KV.out _ HBA.out).mono ?_); rintro e w1 ⟨⟨bb, rfl, hbb⟩, hb1⟩; have hb1z := Below.size hb1; (try simp only [World.size_alloc, World.size_setCell, World.size_drew, size_drewN'] at hb1z); have hb1c0 := fun o => below_at hb1 (w.heap.size) o (by first | omega | (simp only [World.size_alloc, World.size_setCell, World.size_drew, size_drewN']; omega)); have hb1f0 := fun o => below_fr hb1 (w.heap.size) o (by first | omega | (simp only [World.size_alloc, World.size_setCell, World.size_drew, size_drewN']; omega)); have hb1c1 := fun o => below_at hb1 (w.heap.size + 1) o (by first | omega | (simp only [World.size_alloc, World.size_setCell, World.size_drew, size_drewN']; omega)); have hb1f1 := fun o => below_fr hb1 (w.heap.size + 1) o (by first | omega | (simp only [World.size_alloc, World.size_setCell, World.size_drew, size_drewN']; omega)))
  have hB1 : Below w.heap.size w w1 := HBA.out.trans (hb1.mono (by simp; omega))
  cases bb with
  | false =>
    clear hbb
    (go_wp2_with fail; (with_reducible refine (awake_any _).mono ?_); rintro e w2 ⟨rfl, hb2⟩; have hb2z := Below.size hb2; (try simp only [World.size_alloc, World.size_setCell, World.size_drew, size_drewN'] at hb2z))
    go_wp2
    go_ret
    exact ⟨rfl, hB1.trans (hb2.mono hB1.size)⟩
  | true =>
    have HP := Lib.hid (hbb rfl)
    have HS := Lib.hid (HSm.out (hbb rfl).few)
    clear hbb
    (go_wp2_with fail; (with_reducible refine (awake_any _).mono ?_); rintro e w2 ⟨rfl, hb2⟩; have hb2z := Below.size hb2; (try simp only [World.size_alloc, World.size_setCell, World.size_drew, size_drewN'] at hb2z); have hb2c0 := fun o => below_at hb2 (w.heap.size) o (by first | omega | (simp only [World.size_alloc, World.size_setCell, World.size_drew, size_drewN']; omega)); have hb2f0 := fun o => below_fr hb2 (w.heap.size) o (by first | omega | (simp only [World.size_alloc, World.size_setCell, World.size_drew, size_drewN']; omega)); have hb2c1 := fun o => below_at hb2 (w.heap.size + 1) o (by first | omega | (simp only [World.size_alloc, World.size_setCell, World.size_drew, size_drewN']; omega)); have hb2f1 := fun o => below_fr hb2 (w.heap.size + 1) o (by first | omega | (simp only [World.size_alloc, World.size_setCell, World.size_drew, size_drewN']; omega)))
    have hB2 : Below w.heap.size w w2 := hB1.trans (hb2.mono hB1.size)
    by_cases h1 : c.ncl = 1
    · have K3 : Hid (∀ W, Below w.heap.size w W → Calls Tryz.prog 13 #[cv c.st c.sr AM c.nm cm AD c.nd cd] W fun e w' => (∃ A d, e = .returned (.tuple #[.slice A c.nd d, .nilIface]) ∧ RowA w' w'.heap.size A c.nd (can c.pi)) ∧ Below W.heap.size W w') := fun W hb => solve_ok (HI.out W hb) HS.out.sizP (Chn.ok_iff.2 HP.out.okc.1) h1
      have K4 : Hid (∀ W A ca, Below w.heap.size w W → RowA W W.heap.size A c.nd (can c.pi) → Calls Tryz.prog 40 #[cv c.st c.sr AM c.nm cm AD c.nd cd, rv s0 A0 n0 c0 B0 m0 d0, .slice A c.nd ca] W fun e w' => (∃ A' c', e = .returned (.tuple #[.slice A' c.nd c', .nilIface]) ∧ RowA w' w'.heap.size A' c.nd (can c.pi)) ∧ Below W.heap.size W w') := fun W A ca hb hv => fixed_step HP.out HS.out HOK.out h1 (HI.out W hb) (HRR.out W hb) hv
      have HBE := Lib.hid (HS.out.pi_big HP.out.okc.1 c.nd)
      have hnd : c.nd ≤ 1000000000 := by have := HP.out.okc.1.hi; omega
      obtain ⟨XP, hXP⟩ : ∃ XP, XP = c.pi := ⟨_, rfl⟩
      rw [← hXP] at K3 K4 HBE
      clear hXP h1 HP HS HSm HI HRR HOK KV
      (go_wp2_with fail; (with_reducible refine (K3.out _ hB2).mono ?_); rintro e w3 ⟨⟨A3, c3, rfl, r3⟩, hb3⟩; have hb3z := Below.size hb3; (try simp only [World.size_alloc, World.size_setCell, World.size_drew, size_drewN'] at hb3z); have hb3c0 := fun o => below_at hb3 (w.heap.size) o (by first | omega | (simp only [World.size_alloc, World.size_setCell, World.size_drew, size_drewN']; omega)); have hb3f0 := fun o => below_fr hb3 (w.heap.size) o (by first | omega | (simp only [World.size_alloc, World.size_setCell, World.size_drew, size_drewN']; omega)); have hb3c1 := fun o => below_at hb3 (w.heap.size + 1) o (by first | omega | (simp only [World.size_alloc, World.size_setCell, World.size_drew, size_drewN']; omega)); have hb3f1 := fun o => below_fr hb3 (w.heap.size + 1) o (by first | omega | (simp only [World.size_alloc, World.size_setCell, World.size_drew, size_drewN']; omega)))
      have hB3 : Below w.heap.size w w3 := hB2.trans (hb3.mono hB2.size)
      have R3 := Lib.hid r3
      clear r3
      (go_wp2_with fail; (with_reducible refine (K4.out _ _ _ hB3 R3.out).mono ?_); rintro e w4 ⟨⟨A4, c4, rfl, r4⟩, hb4⟩; have hb4z := Below.size hb4; (try simp only [World.size_alloc, World.size_setCell, World.size_drew, size_drewN'] at hb4z))
      have hB4 : Below w.heap.size w w4 := hB3.trans (hb4.mono hB3.size)
      have K5 := Lib.hid (fun W (hb : Below w4.heap.size w4 W) => rats_sameB (c := c3) (d := c4) ((R3.out.below hb4).below hb) (r4.below hb) hnd HBE.out)
      clear r4
      (go_wp2_with fail; (with_reducible refine (K5.out _ (Below.refl _ _)).mono ?_); rintro e w5 ⟨rfl, hb5⟩; have hb5z := Below.size hb5; (try simp only [World.size_alloc, World.size_setCell, World.size_drew, size_drewN'] at hb5z))
      go_wp2
      go_ret
      exact ⟨rfl, hB4.trans (hb5.mono hB4.size)⟩
    · have K3 : Hid (∀ W, Below w.heap.size w W → Calls Tryz.prog 13 #[cv c.st c.sr AM c.nm cm AD c.nd cd] W fun e w' => (∃ A d, e = .returned (.tuple #[.slice A 0 d, .iface 41 (.int .i64 16)])) ∧ Below W.heap.size W w') := fun W hb => solve_no (HI.out W hb) HS.out.sizP (Chn.ok_iff.2 HP.out.okc.1) h1
      clear h1 HP HS HSm HI HRR HOK KV
      (go_wp2_with fail; (with_reducible refine (K3.out _ hB2).mono ?_); rintro e w3 ⟨⟨A3, c3, rfl⟩, hb3⟩; have hb3z := Below.size hb3; (try simp only [World.size_alloc, World.size_setCell, World.size_drew, size_drewN'] at hb3z))
      have hB3 : Below w.heap.size w w3 := hB2.trans (hb3.mono hB2.size)
      go_wp2_with fail
      (with_reducible refine (bis_eq _ _).mono ?_)
      rintro e _ ⟨rfl, rfl⟩
      go_wp2
      go_ret
      exact ⟨rfl, hB3⟩
end Go.Proofs.YtmebdlilbnadgaaGreatDoor
