/- Contracts of functions and lemmas, used by the proofs of the given statements. No condition beyond those that each lemma names. -/
import Derived.Test.YtomkdgcpmpbfhaaGreatDoorAcR
import Derived.Test.YtomkdgcpmpbfhaaGreatDoorAcE
import Derived.Test.YtomkdgcpmpbfhaaGreatDoorAcB
import Derived.Test.YtomkdgcpmpbfhaaGreatDoorAbL
namespace Go.Proofs.YtomkdgcpmpbfhaaGreatDoor
open Go.RowKit
set_option linter.unusedSimpArgs false
set_option linter.unusedVariables false
set_option maxRecDepth 20000
attribute [local irreducible] nv wp win plainB validR valR canR mvE chkM codeC spr sprN chg cnt cntB ixB kept sysK plB parM outK gj accL totL floL
/-! ## AbsorbTells -/
theorem Brief6.big {n : Nat} {R : Nat → Rw} (h : Brief6 n R) : BigS n R := fun k hk => by have := h.2 k hk; omega
theorem brief_fz {w : World} {b0 n : Nat} {A : Option Addr} {R : Nat → Rw} (h : RowA w b0 A n R) (hb : Brief6 n R) : FzL (n * 6 + 6 + 1) (vecQ n R) :=
  FzL.of_sz (fun s hs => by unfold vecQ; rw [if_pos hs]; have := hb.2 s hs; exact Sz_valR (h.okR' hs) (by omega) this.1 this.2) (fun s hs => by unfold vecQ; rw [if_neg (by omega)]) (by omega)
set_option maxHeartbeats 8000000 in
theorem absorbTells_law {w : World} {AM AD AV : Option Addr} {cm cd n ca : Nat} {c : Chn} {R : Nat → Rw} (h : ChI w w.heap.size AM cm AD cd c) (hv : RowA w w.heap.size AV n R) :
    Calls Tryz.prog 4 #[cv c.st c.sr AM c.nm cm AD c.nd cd, .slice AV n ca] w fun e w' => e = .returned (.bool true) ∧ Below w.heap.size w w' := by
  have KF := Lib.hid (fun W (hb : Below w.heap.size w W) => few_any (h.below hb))
  have KB := Lib.hid (fun W (hb : Below w.heap.size w W) => brief6_any (c := ca) (hv.below hb))
  have HP : Hid (∀ (hf : FewP c) (h6 : Brief6 n R) W, Below w.heap.size w W → Calls Tryz.prog 21 #[cv c.st c.sr AM c.nm cm AD c.nd cd, .slice AV n ca] W fun e w' => e = .returned (.tuple #[.bool (c.accB n R), errM (c.codeX n R)]) ∧ Below W.heap.size W w') := fun hf h6 W hb => Accepts_any (L := n * 6 + 6 + 1) (h.below hb) (hf.small h) ((hv.below hb).base hb.size) h6.big (by have := h6.1; omega) (by have := h6.1; omega) (fun _ => brief_fz hv h6)
  have HR : Hid (∀ (hf : FewP c) (h6 : Brief6 n R) W, Below w.heap.size w W → Calls Tryz.prog 22 #[cv c.st c.sr AM c.nm cm AD c.nd cd, .slice AV n ca] W fun e w' => e = .returned (.tuple #[.bool (c.accB n R), .int .i64 (c.codeX n R)]) ∧ Below W.heap.size W w') := fun hf h6 W hb => rAccepts_any (L := n * 6 + 6 + 1) (h.below hb) (hf.small h) ((hv.below hb).base hb.size) h6.big (by have := h6.1; omega) (by have := h6.1; omega) (fun _ => brief_fz hv h6)
  have hbA : Below w.heap.size w (w.alloc (.cells #[.int .i64 c.st, .int .i64 c.sr, .slice AM c.nm cm, .slice AD c.nd cd] 25)) := (Below.refl _ _).alloc (Nat.le_refl _) _
  have HBA := Lib.hid hbA
  obtain ⟨cx, hcx⟩ : ∃ cx, cx = c.codeX n R := ⟨_, rfl⟩
  obtain ⟨bx, hbx⟩ : ∃ bx, bx = c.accB n R := ⟨_, rfl⟩
  rw [← hcx, ← hbx] at HP HR
  have e1 : (cx == cx) = true := by simp
  have e2 : (bx == bx) = true := by simp
  clear h hv hbA hcx hbx
  go_enter Tryz.func4, Tryz.ntmps4
  (go_wp2_with fail; (with_reducible refine (KF.out _ HBA.out).mono ?_); rintro e w1 ⟨⟨bb, rfl, hbb⟩, hb1⟩; have hb1z := Below.size hb1; (try simp only [World.size_alloc, World.size_setCell, World.size_drew, size_drewN'] at hb1z); have hb1c0 := fun o => below_at hb1 (w.heap.size) o (by first | omega | (simp only [World.size_alloc, World.size_setCell, World.size_drew, size_drewN']; omega)); have hb1f0 := fun o => below_fr hb1 (w.heap.size) o (by first | omega | (simp only [World.size_alloc, World.size_setCell, World.size_drew, size_drewN']; omega)))
  have hB1 : Below w.heap.size w w1 := HBA.out.trans (hb1.mono (by simp))
  cases bb with
  | false =>
    clear hbb
    (go_wp2_with fail; (with_reducible refine (awake4_any _).mono ?_); rintro e w2 ⟨rfl, hb2⟩; have hb2z := Below.size hb2; (try simp only [World.size_alloc, World.size_setCell, World.size_drew, size_drewN'] at hb2z))
    go_wp2
    go_ret
    exact ⟨rfl, hB1.trans (hb2.mono hB1.size)⟩
  | true =>
    have HF := Lib.hid (hbb rfl)
    clear hbb
    have hw1 : w.heap.size < w1.heap.size := by have := hb1.size; simp at this; omega
    (go_wp2_with fail; (with_reducible refine (KB.out _ hB1).mono ?_); rintro e w2 ⟨⟨b2, rfl, hb2'⟩, hb2⟩; have hb2z := Below.size hb2; (try simp only [World.size_alloc, World.size_setCell, World.size_drew, size_drewN'] at hb2z); have hb2c0 := fun o => below_at hb2 (w.heap.size) o (by first | omega | (simp only [World.size_alloc, World.size_setCell, World.size_drew, size_drewN']; omega)); have hb2f0 := fun o => below_fr hb2 (w.heap.size) o (by first | omega | (simp only [World.size_alloc, World.size_setCell, World.size_drew, size_drewN']; omega)))
    have hB2 : Below w.heap.size w w2 := hB1.trans (hb2.mono hB1.size)
    cases b2 with
    | false =>
      clear hb2'
      (go_wp2_with fail; (with_reducible refine (awake4_any _).mono ?_); rintro e w3 ⟨rfl, hb3⟩; have hb3z := Below.size hb3; (try simp only [World.size_alloc, World.size_setCell, World.size_drew, size_drewN'] at hb3z))
      go_wp2
      go_ret
      exact ⟨rfl, hB2.trans (hb3.mono hB2.size)⟩
    | true =>
      have HB6 := Lib.hid (hb2' rfl)
      clear hb2'
      have K3 := Lib.hid (HP.out HF.out HB6.out)
      have K4 := Lib.hid (HR.out HF.out HB6.out)
      clear HP HR
      (go_wp2_with fail; (with_reducible refine (awake4_any _).mono ?_); rintro e w3 ⟨rfl, hb3⟩; have hb3z := Below.size hb3; (try simp only [World.size_alloc, World.size_setCell, World.size_drew, size_drewN'] at hb3z); have hb3c0 := fun o => below_at hb3 (w.heap.size) o (by first | omega | (simp only [World.size_alloc, World.size_setCell, World.size_drew, size_drewN']; omega)); have hb3f0 := fun o => below_fr hb3 (w.heap.size) o (by first | omega | (simp only [World.size_alloc, World.size_setCell, World.size_drew, size_drewN']; omega)))
      have hB3 : Below w.heap.size w w3 := hB2.trans (hb3.mono hB2.size)
      (go_wp2_with fail; (with_reducible refine (K3.out _ hB3).mono ?_); rintro e w4 ⟨rfl, hb4⟩; have hb4z := Below.size hb4; (try simp only [World.size_alloc, World.size_setCell, World.size_drew, size_drewN'] at hb4z); have hb4c0 := fun o => below_at hb4 (w.heap.size) o (by first | omega | (simp only [World.size_alloc, World.size_setCell, World.size_drew, size_drewN']; omega)); have hb4f0 := fun o => below_fr hb4 (w.heap.size) o (by first | omega | (simp only [World.size_alloc, World.size_setCell, World.size_drew, size_drewN']; omega)))
      have hB4 : Below w.heap.size w w4 := hB3.trans (hb4.mono hB3.size)
      (go_wp2_with fail; (with_reducible refine (K4.out _ hB4).mono ?_); rintro e w5 ⟨rfl, hb5⟩; have hb5z := Below.size hb5; (try simp only [World.size_alloc, World.size_setCell, World.size_drew, size_drewN'] at hb5z))
      have hB5 : Below w.heap.size w w5 := hB4.trans (hb5.mono hB4.size)
      go_wp2_with fail
      (with_reducible refine (bnum_e _ _).mono ?_)
      rintro e _ ⟨rfl, rfl⟩
      go_wp2
      go_ret
      exact ⟨rfl, hB5⟩
end Go.Proofs.YtomkdgcpmpbfhaaGreatDoor
