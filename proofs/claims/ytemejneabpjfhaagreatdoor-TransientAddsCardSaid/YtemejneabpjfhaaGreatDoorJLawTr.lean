/- Contracts of functions and lemmas, used by the proofs of the given statements. No condition beyond those that each lemma names. -/
import Derived.Test.YtemejneabpjfhaaGreatDoorJTrAw
import Derived.Test.YtemejneabpjfhaaGreatDoorBaseEq
import Derived.Test.YtemejneabpjfhaaGreatDoorTrR8
namespace Go.Proofs.YtemejneabpjfhaaGreatDoor
open Go.RowKit
set_option linter.unusedSimpArgs false
set_option linter.unusedVariables false
set_option maxRecDepth 20000
attribute [local irreducible] nv wp win plainB validR valR canR mvE chkM codeC exK maxF dsum
/-! ## what the functions give, whatever the number of the error -/
def outQ (code : Int) (q : Rat) : Rat := if code = 0 then q else 0
def outN' (code : Int) (n : Nat) : Nat := if code = 0 then n else 0
theorem canR0 : canR 0 = (false, [], []) := canR_zero
theorem RdS.zr (w : World) (b0 : Nat) : RdS w b0 zr (canR 0) := RdS.zero w b0
section
variable {w' : World} {b0 base n : Nat} {x : Nat → Rat} {q : Rat} {code : Int} {e : Ending}
theorem RetQe.out (h : RetQe q code e w') : ∃ v, e = .returned (.tuple #[v, errM code]) ∧ RdS w' 0 v (canR (outQ code q)) := by
  unfold RetQe at h
  unfold outQ
  by_cases h0 : code = 0
  · rw [if_pos h0] at h ⊢
    obtain ⟨v, rfl, h⟩ := h
    exact ⟨v, by rw [h0, errM_0], h⟩
  · rw [if_neg h0] at h ⊢
    exact ⟨_, h, RdS.zr _ _⟩
theorem RetQc.out (h : RetQc q code e w') : ∃ v, e = .returned (.tuple #[v, .int .i64 code]) ∧ RdS w' 0 v (canR (outQ code q)) := by
  unfold RetQc at h
  unfold outQ
  by_cases h0 : code = 0
  · rw [if_pos h0] at h ⊢
    obtain ⟨v, rfl, h⟩ := h
    exact ⟨v, by rw [h0], h⟩
  · rw [if_neg h0] at h ⊢
    exact ⟨_, h, RdS.zr _ _⟩
theorem RetVe.out (h : RetVe base n x code e w') : ∃ A c, e = .returned (.tuple #[.slice A (outN' code n) c, errM code]) ∧ RowA w' w'.heap.size A (outN' code n) (can x) := by
  unfold RetVe at h
  unfold outN'
  by_cases h0 : code = 0
  · rw [if_pos h0] at h ⊢
    obtain ⟨A, c, rfl, h⟩ := h
    obtain ⟨V, h1, h2⟩ := OwV.ra h
    exact ⟨A, c, by rw [h0, errM_0], V, fun k hk => (h1 k hk).base (Nat.zero_le _), h2⟩
  · rw [if_neg h0] at h ⊢
    exact ⟨_, _, h, RowA.nil_ _ _ _ _⟩
theorem RetVc.out (h : RetVc base n x code e w') : ∃ A c, e = .returned (.tuple #[.slice A (outN' code n) c, .int .i64 code]) ∧ RowA w' w'.heap.size A (outN' code n) (can x) := by
  unfold RetVc at h
  unfold outN'
  by_cases h0 : code = 0
  · rw [if_pos h0] at h ⊢
    obtain ⟨A, c, rfl, h⟩ := h
    obtain ⟨V, h1, h2⟩ := OwV.ra h
    exact ⟨A, c, by rw [h0], V, fun k hk => (h1 k hk).base (Nat.zero_le _), h2⟩
  · rw [if_neg h0] at h ⊢
    exact ⟨_, _, h, RowA.nil_ _ _ _ _⟩
theorem RowA.raise {A : Option Addr} (h : RowA w' b0 A n (can x)) (hb : b0 ≤ w'.heap.size) : RowA w' w'.heap.size A n (can x) := by
  obtain ⟨V, h1, h2⟩ := h
  exact ⟨V, fun k hk => (h1 k hk).base hb, h2⟩
theorem RetFe.out (h : RetFe b0 base n x code e w') (hb : b0 ≤ w'.heap.size) : ∃ A c, e = .returned (.tuple #[.slice A (outN' code n) c, errM code]) ∧ RowA w' w'.heap.size A (outN' code n) (can x) := by
  unfold RetFe at h
  unfold outN'
  by_cases h0 : code = 0
  · rw [if_pos h0] at h ⊢
    obtain ⟨A, c, rfl, h⟩ := h
    exact ⟨A, c, by rw [h0, errM_0], (OwF.ra h).raise hb⟩
  · rw [if_neg h0] at h ⊢
    exact ⟨_, _, h, RowA.nil_ _ _ _ _⟩
theorem RetFc.out (h : RetFc b0 base n x code e w') (hb : b0 ≤ w'.heap.size) : ∃ A c, e = .returned (.tuple #[.slice A (outN' code n) c, .int .i64 code]) ∧ RowA w' w'.heap.size A (outN' code n) (can x) := by
  unfold RetFc at h
  unfold outN'
  by_cases h0 : code = 0
  · rw [if_pos h0] at h ⊢
    obtain ⟨A, c, rfl, h⟩ := h
    exact ⟨A, c, by rw [h0], (OwF.ra h).raise hb⟩
  · rw [if_neg h0] at h ⊢
    exact ⟨_, _, h, RowA.nil_ _ _ _ _⟩
theorem RetVx.out (h : RetVx n x code e w') : ∃ A c, e = .returned (.tuple #[.slice A (outN' code n) c, errM code]) ∧ RowA w' w'.heap.size A (outN' code n) (can x) := by
  unfold RetVx at h
  unfold outN'
  by_cases h0 : code = 0
  · rw [if_pos h0] at h ⊢
    obtain ⟨A, c, b, rfl, hb, h⟩ := h
    exact ⟨A, c, by rw [h0, errM_0], h.ra.raise hb⟩
  · rw [if_neg h0] at h ⊢
    exact ⟨_, _, h, RowA.nil_ _ _ _ _⟩
theorem RetVxc.out (h : RetVxc n x code e w') : ∃ A c, e = .returned (.tuple #[.slice A (outN' code n) c, .int .i64 code]) ∧ RowA w' w'.heap.size A (outN' code n) (can x) := by
  unfold RetVxc at h
  unfold outN'
  by_cases h0 : code = 0
  · rw [if_pos h0] at h ⊢
    obtain ⟨A, c, b, rfl, hb, h⟩ := h
    exact ⟨A, c, by rw [h0], h.ra.raise hb⟩
  · rw [if_neg h0] at h ⊢
    exact ⟨_, _, h, RowA.nil_ _ _ _ _⟩
end
/-- one fraction as a list -/
theorem RowA.one {W : World} {b0 g : Nat} {s : Bool} {A B : Option Addr} {n c m d : Nat} {r : Rw} (hr : RdS W b0 (rv s A n c B m d) r) (hg : g < W.heap.size) (h0 : W.cell? ⟨g, 0, none⟩ = some (.bool s)) (h1 : W.cell? ⟨g, 1, none⟩ = some (.slice A n c)) (h2 : W.cell? ⟨g, 2, none⟩ = some (.slice B m d)) : RowA W b0 (some ⟨g, 0, none⟩) 1 (fun _ => r) := by
  refine ⟨fun _ => rv s A n c B m d, fun _ _ => hr, rfl, fun _ => ⟨g, 0, rfl, hg, fun j u hu => ?_⟩⟩
  rw [Nat.zero_add]
  match j, hu with
  | 0, hu => simp [cellsV, c3] at hu; subst hu; exact h0
  | 1, hu => simp [cellsV, c3] at hu; subst hu; exact h1
  | 2, hu => simp [cellsV, c3] at hu; subst hu; exact h2
  | j + 3, hu => simp [cellsV, c3] at hu
theorem short_can {n : Nat} {x : Nat → Rat} (h : ∀ k, k < n → Sz 400 (x k)) : ∀ k, k < n → (can x k).2.1.length ≤ 1000000 ∧ (can x k).2.2.length ≤ 1000000 := fun k hk => by
  have := Sz_canR (h k hk)
  show (canR (x k)).2.1.length ≤ _ ∧ (canR (x k)).2.2.length ≤ _
  omega
theorem short_q {q : Rat} (h : Sz 400 q) : (canR q).2.1.length ≤ 1000000 ∧ (canR q).2.2.length ≤ 1000000 := by
  have := Sz_canR h
  omega
end Go.Proofs.YtemejneabpjfhaaGreatDoor
namespace Go.Proofs.YtemejneabpjfhaaGreatDoor
open Go.RowKit
set_option linter.unusedSimpArgs false
set_option linter.unusedVariables false
set_option maxRecDepth 20000
attribute [local irreducible] nv wp win plainB validR valR canR mvE chkM codeC exK maxF dsum
/-! ## TransientSteps -/
theorem outQ_sz {code : Int} {q : Rat} (h : code = 0 → Sz 400 q) : Sz 400 (outQ code q) := by
  unfold outQ
  split
  · exact h (by assumption)
  · exact Sz.zero (by omega)
theorem outN_lt {code : Int} {n k : Nat} (h : k < outN' code n) : code = 0 ∧ k < n := by
  unfold outN' at h
  split at h
  · exact ⟨by assumption, h⟩
  · omega
theorem outN_le' {code : Int} {n : Nat} : outN' code n ≤ n := by unfold outN'; split <;> omega
theorem Small.fastS {c : Chn} (h : Small c) (ok : c.Ok) : Sz 400 c.fast := maxF_sz fun j _ => (h.siz ok).ex j c.nm (Nat.le_refl _)
theorem RowA.up {w : World} {b0 b1 n : Nat} {A : Option Addr} {R : Nat → Rw} (h : RowA w b0 A n R) (hb : b0 ≤ b1) : RowA w b1 A n R := by
  obtain ⟨V, h1, h2⟩ := h
  exact ⟨V, fun k hk => (h1 k hk).base hb, h2⟩
theorem Brief.short {n : Nat} {R : Nat → Rw} (h : Brief n R) : Short n R := fun k hk => by have := h.2 k hk; omega
theorem Small.v0S {c : Chn} (s : Nat) : Sz 400 (c.v0 s) := ((FzL.v0 c).sz (by omega) s).more (by omega)
/-- an answer: a list of fractions and the number of an error -/
def AnsV (z : Int → Value) (m : Nat) (x : Nat → Rat) (code : Int) (e : Ending) (w' : World) : Prop := ∃ A c, e = .returned (.tuple #[.slice A m c, z code]) ∧ RowA w' w'.heap.size A m (can x)
def AnsQ (z : Int → Value) (q : Rat) (code : Int) (e : Ending) (w' : World) : Prop := ∃ v, e = .returned (.tuple #[v, z code]) ∧ RdS w' 0 v (canR q)
abbrev intV (c : Int) : Value := .int .i64 c
set_option maxHeartbeats 16000000 in
theorem transientSteps_law {w : World} {AM AD AV : Option Addr} {cm cd n ca : Nat} {c : Chn} {v : Value} {r : Rw} {R : Nat → Rw} (h : ChI w w.heap.size AM cm AD cd c) (hr : RdS w w.heap.size v r) (hV : RowA w w.heap.size AV n R) :
    Calls Tryz.prog 5 #[cv c.st c.sr AM c.nm cm AD c.nd cd, v, .slice AV n ca] w fun e w' => e = .returned (.bool true) ∧ Below w.heap.size w w' := by
  have KF := Lib.hid (fun W (hb : Below w.heap.size w W) => few_any (h.below hb))
  have KB := Lib.hid (fun W (hb : Below w.heap.size w W) => brief_any (c := ca) (hV.below hb))
  have HI := Lib.hid (fun W (hb : Below w.heap.size w W) => h.below hb)
  have HRR := Lib.hid (fun W (hb : Below w.heap.size w W) => (hr.kp (Kp.of_below hb)).base hb.size)
  have HVV := Lib.hid hV
  have hok := hr.ok
  have hSm : FewP c → Small c := fun hf => hf.small h
  have HSm := Lib.hid hSm
  have HOK := Lib.hid hok
  obtain ⟨s0, A0, n0, c0, B0, m0, d0, rfl⟩ := hr.form
  have hbA : Below w.heap.size w ((w.alloc (.cells #[.int .i64 c.st, .int .i64 c.sr, .slice AM c.nm cm, .slice AD c.nd cd] 25)).alloc (.cells #[.bool s0, .slice A0 n0 c0, .slice B0 m0 d0] 28)) := ((Below.refl _ _).alloc (Nat.le_refl _) _).alloc (by simp) _
  have HBA := Lib.hid hbA
  clear h hr hV hSm hok hbA
  go_enter Tryz.func5, Tryz.ntmps5
  (go_wp2_with fail; (with_reducible refine (KF.out _ HBA.out).mono ?_); rintro e w1 ⟨⟨bb, rfl, hbb⟩, hb1⟩; have hb1z := Below.size hb1; (try simp only [World.size_alloc, World.size_setCell, World.size_drew, size_drewN'] at hb1z); have hb1c0 := fun o => below_at hb1 (w.heap.size) o (by first | omega | (simp only [World.size_alloc, World.size_setCell, World.size_drew, size_drewN']; omega)); have hb1f0 := fun o => below_fr hb1 (w.heap.size) o (by first | omega | (simp only [World.size_alloc, World.size_setCell, World.size_drew, size_drewN']; omega)); have hb1c1 := fun o => below_at hb1 (w.heap.size + 1) o (by first | omega | (simp only [World.size_alloc, World.size_setCell, World.size_drew, size_drewN']; omega)); have hb1f1 := fun o => below_fr hb1 (w.heap.size + 1) o (by first | omega | (simp only [World.size_alloc, World.size_setCell, World.size_drew, size_drewN']; omega)))
  have hB1 : Below w.heap.size w w1 := HBA.out.trans (hb1.mono (by simp; omega))
  cases bb with
  | false =>
    clear hbb
    (go_wp2_with fail; (with_reducible refine (awake_any _).mono ?_); rintro e w2 ⟨rfl, hb2⟩; have hb2z := Below.size hb2; (try simp only [World.size_alloc, World.size_setCell, World.size_drew, size_drewN'] at hb2z))
    go_wp2
    go_ret
    exact ⟨rfl, hB1.trans (hb2.mono hB1.size)⟩
  | true =>
    have HS := Lib.hid (HSm.out (hbb rfl))
    have HF := Lib.hid (hbb rfl)
    clear hbb
    have hz1 := hB1.size
    have hw1 : w.heap.size + 1 < w1.heap.size := by have := hb1.size; simp at this; omega
    (have o1c := fun o i => below_at ((Below.refl w1.heap.size w1).alloc (Nat.le_refl _) o) (w.heap.size) i (by omega)); (have o1f := fun o i => below_fr ((Below.refl w1.heap.size w1).alloc (Nat.le_refl _) o) (w.heap.size) i (by omega))
    (have p1c := fun o i => below_at ((Below.refl w1.heap.size w1).alloc (Nat.le_refl _) o) (w.heap.size + 1) i (by omega)); (have p1f := fun o i => below_fr ((Below.refl w1.heap.size w1).alloc (Nat.le_refl _) o) (w.heap.size + 1) i (by omega))
    have hbR : Below w.heap.size w (w1.alloc (.cells #[.bool s0, .slice A0 n0 c0, .slice B0 m0 d0] 28)) := hB1.alloc hz1 _
    have KR := Lib.hid (brief_any (c := 1) (RowA.one (W := w1.alloc (.cells #[.bool s0, .slice A0 n0 c0, .slice B0 m0 d0] 28)) (g := w1.heap.size) (HRR.out _ hbR) (by simp) (by simp) (by simp) (by simp)))
    (go_wp2_with fail; (with_reducible refine (KR.out).mono ?_); rintro e w2 ⟨⟨b2, rfl, hb2'⟩, hb2⟩; have hb2z := Below.size hb2; (try simp only [World.size_alloc, World.size_setCell, World.size_drew, size_drewN'] at hb2z); have hb2c0 := fun o => below_at hb2 (w.heap.size) o (by first | omega | (simp only [World.size_alloc, World.size_setCell, World.size_drew, size_drewN']; omega)); have hb2f0 := fun o => below_fr hb2 (w.heap.size) o (by first | omega | (simp only [World.size_alloc, World.size_setCell, World.size_drew, size_drewN']; omega)); have hb2c1 := fun o => below_at hb2 (w.heap.size + 1) o (by first | omega | (simp only [World.size_alloc, World.size_setCell, World.size_drew, size_drewN']; omega)); have hb2f1 := fun o => below_fr hb2 (w.heap.size + 1) o (by first | omega | (simp only [World.size_alloc, World.size_setCell, World.size_drew, size_drewN']; omega)))
    have hB2 : Below w.heap.size w w2 := hbR.trans (hb2.mono (by simp; omega))
    cases b2 with
    | false =>
      clear hb2'
      (go_wp2_with fail; (with_reducible refine (awake_any _).mono ?_); rintro e w3 ⟨rfl, hb3⟩; have hb3z := Below.size hb3; (try simp only [World.size_alloc, World.size_setCell, World.size_drew, size_drewN'] at hb3z))
      go_wp2
      go_ret
      exact ⟨rfl, hB2.trans (hb3.mono hB2.size)⟩
    | true =>
      have HR1 := Lib.hid ((hb2' rfl).2 0 (by omega))
      clear hb2'
      (go_wp2_with fail; (with_reducible refine (KB.out _ hB2).mono ?_); rintro e w3 ⟨⟨b3, rfl, hb3'⟩, hb3⟩; have hb3z := Below.size hb3; (try simp only [World.size_alloc, World.size_setCell, World.size_drew, size_drewN'] at hb3z); have hb3c0 := fun o => below_at hb3 (w.heap.size) o (by first | omega | (simp only [World.size_alloc, World.size_setCell, World.size_drew, size_drewN']; omega)); have hb3f0 := fun o => below_fr hb3 (w.heap.size) o (by first | omega | (simp only [World.size_alloc, World.size_setCell, World.size_drew, size_drewN']; omega)); have hb3c1 := fun o => below_at hb3 (w.heap.size + 1) o (by first | omega | (simp only [World.size_alloc, World.size_setCell, World.size_drew, size_drewN']; omega)); have hb3f1 := fun o => below_fr hb3 (w.heap.size + 1) o (by first | omega | (simp only [World.size_alloc, World.size_setCell, World.size_drew, size_drewN']; omega)))
      have hB3 : Below w.heap.size w w3 := hB2.trans (hb3.mono hB2.size)
      cases b3 with
      | false =>
        clear hb3'
        (go_wp2_with fail; (with_reducible refine (awake_any _).mono ?_); rintro e w4 ⟨rfl, hb4⟩; have hb4z := Below.size hb4; (try simp only [World.size_alloc, World.size_setCell, World.size_drew, size_drewN'] at hb4z))
        go_wp2
        go_ret
        exact ⟨rfl, hB3.trans (hb4.mono hB3.size)⟩
      | true =>
        have HVB := Lib.hid (hb3' rfl)
        clear hb3'
        (go_wp2_with fail; (with_reducible refine (awake_any _).mono ?_); rintro e w4 ⟨rfl, hb4⟩; have hb4z := Below.size hb4; (try simp only [World.size_alloc, World.size_setCell, World.size_drew, size_drewN'] at hb4z); have hb4c0 := fun o => below_at hb4 (w.heap.size) o (by first | omega | (simp only [World.size_alloc, World.size_setCell, World.size_drew, size_drewN']; omega)); have hb4f0 := fun o => below_fr hb4 (w.heap.size) o (by first | omega | (simp only [World.size_alloc, World.size_setCell, World.size_drew, size_drewN']; omega)); have hb4c1 := fun o => below_at hb4 (w.heap.size + 1) o (by first | omega | (simp only [World.size_alloc, World.size_setCell, World.size_drew, size_drewN']; omega)); have hb4f1 := fun o => below_fr hb4 (w.heap.size + 1) o (by first | omega | (simp only [World.size_alloc, World.size_setCell, World.size_drew, size_drewN']; omega)))
        have hB4 : Below w.heap.size w w4 := hB3.trans (hb4.mono hB3.size)
        have hz4 := hB4.size
        obtain ⟨cc, hcc⟩ : ∃ cc, cc = c.code := ⟨_, rfl⟩
        obtain ⟨ct, hct⟩ : ∃ ct, ct = c.codeT r n R := ⟨_, rfl⟩
        obtain ⟨fq, hfq⟩ : ∃ fq, fq = outQ c.code c.fast := ⟨_, rfl⟩
        obtain ⟨m1, hm1⟩ : ∃ m1, m1 = outN' c.code c.nd := ⟨_, rfl⟩
        obtain ⟨x1, hx1⟩ : ∃ x1, x1 = c.v0 := ⟨_, rfl⟩
        obtain ⟨m2, hm2⟩ : ∃ m2, m2 = outN' (c.codeT r n R) n := ⟨_, rfl⟩
        obtain ⟨x2, hx2⟩ : ∃ x2, x2 = c.stepQ false (valR r) (vecQ n R) := ⟨_, rfl⟩
        have hst := HS.out.stepS (n := n) (R := R) HOK.out HR1.out.1 HR1.out.2 (fun k hk => ⟨HVV.out.okR' hk, HVB.out.2 k hk⟩)
        have K5 : Hid (∀ W, Below w.heap.size w W → Calls Tryz.prog 23 #[cv c.st c.sr AM c.nm cm AD c.nd cd] W fun e w' => AnsQ errM fq cc e w' ∧ Below W.heap.size W w') := fun W hb => (fastest_any (HI.out W hb) HS.out.chS).mono fun e w' h => ⟨by rw [hfq, hcc]; exact h.1.out, h.2⟩
        have K6 : Hid (∀ W, Below w.heap.size w W → Calls Tryz.prog 24 #[cv c.st c.sr AM c.nm cm AD c.nd cd] W fun e w' => AnsV errM m1 x1 cc e w' ∧ Below W.heap.size W w') := fun W hb => (start_any (HI.out W hb) HS.out.chS).mono fun e w' h => ⟨by rw [hm1, hx1, hcc]; exact h.1.out, h.2⟩
        have K7 : Hid (∀ W, Below w.heap.size w W → Calls Tryz.prog 25 #[cv c.st c.sr AM c.nm cm AD c.nd cd, rv s0 A0 n0 c0 B0 m0 d0, .slice AV n ca] W fun e w' => AnsV errM m2 x2 ct e w' ∧ Below W.heap.size W w') := fun W hb => (Step_any (HI.out W hb) HS.out.chS (HRR.out W hb) HR1.out.1 HR1.out.2 ((HVV.out.below hb).up hb.size) HVB.out.short (by have := HVB.out.1; omega) hst).mono fun e w' h => ⟨by rw [hm2, hx2, hct]; exact h.1.out h.2.size, h.2⟩
        have K8 : Hid (∀ W, Below w.heap.size w W → Calls Tryz.prog 26 #[cv c.st c.sr AM c.nm cm AD c.nd cd] W fun e w' => AnsQ intV fq cc e w' ∧ Below W.heap.size W w') := fun W hb => (rfastest_any (HI.out W hb) HS.out.chS).mono fun e w' h => ⟨by rw [hfq, hcc]; exact h.1.out, h.2⟩
        have K9 : Hid (∀ W, Below w.heap.size w W → Calls Tryz.prog 27 #[cv c.st c.sr AM c.nm cm AD c.nd cd] W fun e w' => AnsV intV m1 x1 cc e w' ∧ Below W.heap.size W w') := fun W hb => (rstart_any (HI.out W hb) HS.out.chS).mono fun e w' h => ⟨by rw [hm1, hx1, hcc]; exact h.1.out, h.2⟩
        have K10 : Hid (∀ W, Below w.heap.size w W → Calls Tryz.prog 28 #[cv c.st c.sr AM c.nm cm AD c.nd cd, rv s0 A0 n0 c0 B0 m0 d0, .slice AV n ca] W fun e w' => AnsV intV m2 x2 ct e w' ∧ Below W.heap.size W w') := fun W hb => (rStep_any (HI.out W hb) HS.out.chS (HRR.out W hb) HR1.out.1 HR1.out.2 ((HVV.out.below hb).up hb.size) HVB.out.short (by have := HVB.out.1; omega) hst).mono fun e w' h => ⟨by rw [hm2, hx2, hct]; exact h.1.out h.2.size, h.2⟩
        have HFQ : Hid (Sz 400 fq) := by
          show Sz 400 fq
          rw [hfq]; exact outQ_sz fun h0 => HS.out.fastS (Chn.ok_iff.1 h0)
        have HX1 : Hid (∀ k, k < m1 → Sz 400 (x1 k)) := fun k _ => by rw [hx1]; exact Small.v0S k
        have HX2 : Hid (∀ k, k < m2 → Sz 400 (x2 k)) := fun k hk => by
          rw [hm2] at hk
          obtain ⟨h0, h1⟩ := outN_lt hk
          rw [hx2]
          exact (hst h0).st false c.nm k (Nat.le_refl _)
        have hm1' : m1 ≤ 300 := by rw [hm1]; exact Nat.le_trans outN_le' HF.out.nd
        have hm2' : m2 ≤ 300 := by rw [hm2]; exact Nat.le_trans outN_le' HVB.out.1
        clear hst hfq hm1 hx1 hm2 hx2 hct hcc HF HVB HR1 HS HSm HOK HVV HRR HI KB KF KR
        (go_wp2_with fail; (with_reducible refine (K5.out _ hB4).mono ?_); rintro e w5 ⟨⟨v5, rfl, r5⟩, hb5⟩; have hb5z := Below.size hb5; (try simp only [World.size_alloc, World.size_setCell, World.size_drew, size_drewN'] at hb5z); have hb5c0 := fun o => below_at hb5 (w.heap.size) o (by first | omega | (simp only [World.size_alloc, World.size_setCell, World.size_drew, size_drewN']; omega)); have hb5f0 := fun o => below_fr hb5 (w.heap.size) o (by first | omega | (simp only [World.size_alloc, World.size_setCell, World.size_drew, size_drewN']; omega)); have hb5c1 := fun o => below_at hb5 (w.heap.size + 1) o (by first | omega | (simp only [World.size_alloc, World.size_setCell, World.size_drew, size_drewN']; omega)); have hb5f1 := fun o => below_fr hb5 (w.heap.size + 1) o (by first | omega | (simp only [World.size_alloc, World.size_setCell, World.size_drew, size_drewN']; omega)))
        obtain ⟨s5, A5, n5, c5, B5, m5, d5, rfl⟩ := r5.form
        have hB5 : Below w.heap.size w (w5.alloc (.cells #[.bool s5, .slice A5 n5 c5, .slice B5 m5 d5] 28)) := (hB4.trans (hb5.mono hz4)).alloc (by have := hb5.size; omega) _
        have hw5 : w.heap.size + 1 < w5.heap.size := by have := hb1.size; have := hb2.size; have := hb3.size; have := hb4.size; have := hb5.size; simp at *; omega
        (have o5c := fun o i => below_at ((Below.refl w5.heap.size w5).alloc (Nat.le_refl _) o) (w.heap.size) i (by omega)); (have o5f := fun o i => below_fr ((Below.refl w5.heap.size w5).alloc (Nat.le_refl _) o) (w.heap.size) i (by omega))
        (have p5c := fun o i => below_at ((Below.refl w5.heap.size w5).alloc (Nat.le_refl _) o) (w.heap.size + 1) i (by omega)); (have p5f := fun o i => below_fr ((Below.refl w5.heap.size w5).alloc (Nat.le_refl _) o) (w.heap.size + 1) i (by omega))
        (go_wp2_with fail; (with_reducible refine (K6.out _ hB5).mono ?_); rintro e w6 ⟨⟨A6, c6, rfl, r6⟩, hb6⟩; have hb6z := Below.size hb6; (try simp only [World.size_alloc, World.size_setCell, World.size_drew, size_drewN'] at hb6z); have hb6c0 := fun o => below_at hb6 (w.heap.size) o (by first | omega | (simp only [World.size_alloc, World.size_setCell, World.size_drew, size_drewN']; omega)); have hb6f0 := fun o => below_fr hb6 (w.heap.size) o (by first | omega | (simp only [World.size_alloc, World.size_setCell, World.size_drew, size_drewN']; omega)); have hb6c1 := fun o => below_at hb6 (w.heap.size + 1) o (by first | omega | (simp only [World.size_alloc, World.size_setCell, World.size_drew, size_drewN']; omega)); have hb6f1 := fun o => below_fr hb6 (w.heap.size + 1) o (by first | omega | (simp only [World.size_alloc, World.size_setCell, World.size_drew, size_drewN']; omega)); have hb6c2 := fun o => below_at hb6 (w5.heap.size) o (by first | omega | (simp only [World.size_alloc, World.size_setCell, World.size_drew, size_drewN']; omega)); have hb6f2 := fun o => below_fr hb6 (w5.heap.size) o (by first | omega | (simp only [World.size_alloc, World.size_setCell, World.size_drew, size_drewN']; omega)))
        have hB6 : Below w.heap.size w w6 := hB5.trans (hb6.mono (by simp; omega))
        (go_wp2_with fail; (with_reducible refine (K7.out _ hB6).mono ?_); rintro e w7 ⟨⟨A7, c7, rfl, r7⟩, hb7⟩; have hb7z := Below.size hb7; (try simp only [World.size_alloc, World.size_setCell, World.size_drew, size_drewN'] at hb7z); have hb7c0 := fun o => below_at hb7 (w.heap.size) o (by first | omega | (simp only [World.size_alloc, World.size_setCell, World.size_drew, size_drewN']; omega)); have hb7f0 := fun o => below_fr hb7 (w.heap.size) o (by first | omega | (simp only [World.size_alloc, World.size_setCell, World.size_drew, size_drewN']; omega)); have hb7c1 := fun o => below_at hb7 (w.heap.size + 1) o (by first | omega | (simp only [World.size_alloc, World.size_setCell, World.size_drew, size_drewN']; omega)); have hb7f1 := fun o => below_fr hb7 (w.heap.size + 1) o (by first | omega | (simp only [World.size_alloc, World.size_setCell, World.size_drew, size_drewN']; omega)); have hb7c2 := fun o => below_at hb7 (w5.heap.size) o (by first | omega | (simp only [World.size_alloc, World.size_setCell, World.size_drew, size_drewN']; omega)); have hb7f2 := fun o => below_fr hb7 (w5.heap.size) o (by first | omega | (simp only [World.size_alloc, World.size_setCell, World.size_drew, size_drewN']; omega)))
        have hB7 : Below w.heap.size w w7 := hB6.trans (hb7.mono hB6.size)
        (go_wp2_with fail; (with_reducible refine (K8.out _ hB7).mono ?_); rintro e w8 ⟨⟨v8, rfl, r8⟩, hb8⟩; have hb8z := Below.size hb8; (try simp only [World.size_alloc, World.size_setCell, World.size_drew, size_drewN'] at hb8z); have hb8c0 := fun o => below_at hb8 (w.heap.size) o (by first | omega | (simp only [World.size_alloc, World.size_setCell, World.size_drew, size_drewN']; omega)); have hb8f0 := fun o => below_fr hb8 (w.heap.size) o (by first | omega | (simp only [World.size_alloc, World.size_setCell, World.size_drew, size_drewN']; omega)); have hb8c1 := fun o => below_at hb8 (w.heap.size + 1) o (by first | omega | (simp only [World.size_alloc, World.size_setCell, World.size_drew, size_drewN']; omega)); have hb8f1 := fun o => below_fr hb8 (w.heap.size + 1) o (by first | omega | (simp only [World.size_alloc, World.size_setCell, World.size_drew, size_drewN']; omega)); have hb8c2 := fun o => below_at hb8 (w5.heap.size) o (by first | omega | (simp only [World.size_alloc, World.size_setCell, World.size_drew, size_drewN']; omega)); have hb8f2 := fun o => below_fr hb8 (w5.heap.size) o (by first | omega | (simp only [World.size_alloc, World.size_setCell, World.size_drew, size_drewN']; omega)))
        obtain ⟨s8, A8, n8, c8, B8, m8, d8, rfl⟩ := r8.form
        have hB8 : Below w.heap.size w (w8.alloc (.cells #[.bool s8, .slice A8 n8 c8, .slice B8 m8 d8] 28)) := (hB7.trans (hb8.mono hB7.size)).alloc (by have := hB7.size; have := hb8.size; omega) _
        have hw8 : w5.heap.size < w8.heap.size := by have := hb6.size; have := hb7.size; have := hb8.size; simp at *; omega
        (have o8c := fun o i => below_at ((Below.refl w8.heap.size w8).alloc (Nat.le_refl _) o) (w.heap.size) i (by omega)); (have o8f := fun o i => below_fr ((Below.refl w8.heap.size w8).alloc (Nat.le_refl _) o) (w.heap.size) i (by omega))
        (have p8c := fun o i => below_at ((Below.refl w8.heap.size w8).alloc (Nat.le_refl _) o) (w.heap.size + 1) i (by omega)); (have p8f := fun o i => below_fr ((Below.refl w8.heap.size w8).alloc (Nat.le_refl _) o) (w.heap.size + 1) i (by omega))
        (have q8c := fun o i => below_at ((Below.refl w8.heap.size w8).alloc (Nat.le_refl _) o) (w5.heap.size) i (by omega)); (have q8f := fun o i => below_fr ((Below.refl w8.heap.size w8).alloc (Nat.le_refl _) o) (w5.heap.size) i (by omega))
        (go_wp2_with fail; (with_reducible refine (K9.out _ hB8).mono ?_); rintro e w9 ⟨⟨A9, c9, rfl, r9⟩, hb9⟩; have hb9z := Below.size hb9; (try simp only [World.size_alloc, World.size_setCell, World.size_drew, size_drewN'] at hb9z); have hb9c0 := fun o => below_at hb9 (w.heap.size) o (by first | omega | (simp only [World.size_alloc, World.size_setCell, World.size_drew, size_drewN']; omega)); have hb9f0 := fun o => below_fr hb9 (w.heap.size) o (by first | omega | (simp only [World.size_alloc, World.size_setCell, World.size_drew, size_drewN']; omega)); have hb9c1 := fun o => below_at hb9 (w.heap.size + 1) o (by first | omega | (simp only [World.size_alloc, World.size_setCell, World.size_drew, size_drewN']; omega)); have hb9f1 := fun o => below_fr hb9 (w.heap.size + 1) o (by first | omega | (simp only [World.size_alloc, World.size_setCell, World.size_drew, size_drewN']; omega)); have hb9c2 := fun o => below_at hb9 (w5.heap.size) o (by first | omega | (simp only [World.size_alloc, World.size_setCell, World.size_drew, size_drewN']; omega)); have hb9f2 := fun o => below_fr hb9 (w5.heap.size) o (by first | omega | (simp only [World.size_alloc, World.size_setCell, World.size_drew, size_drewN']; omega)); have hb9c3 := fun o => below_at hb9 (w8.heap.size) o (by first | omega | (simp only [World.size_alloc, World.size_setCell, World.size_drew, size_drewN']; omega)); have hb9f3 := fun o => below_fr hb9 (w8.heap.size) o (by first | omega | (simp only [World.size_alloc, World.size_setCell, World.size_drew, size_drewN']; omega)))
        have hB9 : Below w.heap.size w w9 := hB8.trans (hb9.mono (by simp; omega))
        (go_wp2_with fail; (with_reducible refine (K10.out _ hB9).mono ?_); rintro e w10 ⟨⟨A10, c10, rfl, r10⟩, hb10⟩; have hb10z := Below.size hb10; (try simp only [World.size_alloc, World.size_setCell, World.size_drew, size_drewN'] at hb10z); have hb10c0 := fun o => below_at hb10 (w.heap.size) o (by first | omega | (simp only [World.size_alloc, World.size_setCell, World.size_drew, size_drewN']; omega)); have hb10f0 := fun o => below_fr hb10 (w.heap.size) o (by first | omega | (simp only [World.size_alloc, World.size_setCell, World.size_drew, size_drewN']; omega)); have hb10c1 := fun o => below_at hb10 (w.heap.size + 1) o (by first | omega | (simp only [World.size_alloc, World.size_setCell, World.size_drew, size_drewN']; omega)); have hb10f1 := fun o => below_fr hb10 (w.heap.size + 1) o (by first | omega | (simp only [World.size_alloc, World.size_setCell, World.size_drew, size_drewN']; omega)); have hb10c2 := fun o => below_at hb10 (w5.heap.size) o (by first | omega | (simp only [World.size_alloc, World.size_setCell, World.size_drew, size_drewN']; omega)); have hb10f2 := fun o => below_fr hb10 (w5.heap.size) o (by first | omega | (simp only [World.size_alloc, World.size_setCell, World.size_drew, size_drewN']; omega)); have hb10c3 := fun o => below_at hb10 (w8.heap.size) o (by first | omega | (simp only [World.size_alloc, World.size_setCell, World.size_drew, size_drewN']; omega)); have hb10f3 := fun o => below_fr hb10 (w8.heap.size) o (by first | omega | (simp only [World.size_alloc, World.size_setCell, World.size_drew, size_drewN']; omega)))
        have hB10 : Below w.heap.size w w10 := hB9.trans (hb10.mono hB9.size)
        have h910 : Below w9.heap.size w9 w10 := hb10
        have h89 : Below w8.heap.size w8 w9 := ((Below.refl _ _).alloc (Nat.le_refl _) _).trans (hb9.mono (by simp))
        have h810 : Below w8.heap.size w8 w10 := h89.trans (hb10.mono h89.size)
        have h710 : Below w7.heap.size w7 w10 := hb8.trans (h810.mono hb8.size)
        have h610 : Below w6.heap.size w6 w10 := hb7.trans (h710.mono hb7.size)
        have h56 : Below w5.heap.size w5 w6 := ((Below.refl _ _).alloc (Nat.le_refl _) _).trans (hb6.mono (by simp))
        have h510 : Below w5.heap.size w5 w10 := h56.trans (h610.mono h56.size)
        have K11 := Lib.hid (fun W (hb : Below w10.heap.size w10 W) => rat_same (r5.kp (Kp.of_below (h510.trans (hb.mono h510.size)))) (r8.kp (Kp.of_below (h810.trans (hb.mono h810.size)))) (short_q HFQ.out).1 (short_q HFQ.out).2)
        have K12 := Lib.hid (fun W (hb : Below w10.heap.size w10 W) => rats_same (c := c6) (d := c9) (r6.below (h610.trans (hb.mono h610.size))) (r9.below (h910.trans (hb.mono h910.size))) (by omega) (short_can HX1.out))
        have K13 := Lib.hid (fun W (hb : Below w10.heap.size w10 W) => rats_same (c := c7) (d := c10) (r7.below (h710.trans (hb.mono h710.size))) (r10.below hb) (by omega) (short_can HX2.out))
        have ecc : (cc == cc) = true := by simp
        have ect : (ct == ct) = true := by simp
        clear r5 r6 r7 r8 r9 r10 h510 h610 h710 h810 h910 K5 K6 K7 K8 K9 K10 HFQ HX1 HX2
        go_wp2_with fail
        (with_reducible refine (bnum_e _ _).mono ?_)
        rintro e _ ⟨rfl, rfl⟩
        (go_wp2_with fail; (with_reducible refine (K11.out _ (Below.refl _ _)).mono ?_); rintro e w11 ⟨rfl, hb11⟩; have hb11z := Below.size hb11; (try simp only [World.size_alloc, World.size_setCell, World.size_drew, size_drewN'] at hb11z))
        go_wp2_with fail
        (with_reducible refine (bnum_e _ _).mono ?_)
        rintro e _ ⟨rfl, rfl⟩
        (go_wp2_with fail; (with_reducible refine (K12.out _ hb11).mono ?_); rintro e w12 ⟨rfl, hb12⟩; have hb12z := Below.size hb12; (try simp only [World.size_alloc, World.size_setCell, World.size_drew, size_drewN'] at hb12z))
        go_wp2_with fail
        (with_reducible refine (bnum_e _ _).mono ?_)
        rintro e _ ⟨rfl, rfl⟩
        (go_wp2_with fail; (with_reducible refine (K13.out _ (hb11.trans (hb12.mono hb11.size))).mono ?_); rintro e w13 ⟨rfl, hb13⟩; have hb13z := Below.size hb13; (try simp only [World.size_alloc, World.size_setCell, World.size_drew, size_drewN'] at hb13z))
        go_wp2
        go_ret
        exact ⟨rfl, hB10.trans (((hb11.trans (hb12.mono hb11.size)).trans (hb13.mono (by have := hb11.size; have := hb12.size; omega))).mono hB10.size)⟩
end Go.Proofs.YtemejneabpjfhaaGreatDoor
