/- Contracts of functions and lemmas, used by the proofs of the given statements. No condition beyond those that each lemma names. -/
import Derived.Test.YtmebdlilbnadgaaGreatDoorJTrAw
import Derived.Test.YtmebdlilbnadgaaGreatDoorJRetW
import Derived.Test.YtmebdlilbnadgaaGreatDoorJTrR1
import Derived.Test.YtmebdlilbnadgaaGreatDoorJTrZ
import Derived.Test.YtmebdlilbnadgaaGreatDoorJTrW4
import Derived.Maps.OwnSet
namespace Go.Proofs.YtmebdlilbnadgaaGreatDoor
open Go.RowKit
set_option linter.unusedSimpArgs false
set_option linter.unusedVariables false
set_option maxRecDepth 20000
attribute [local irreducible] nv wp win plainB validR valR canR mvE chkM codeC exK maxF dsum
/-! ## what the functions give, whatever the number of the error -/
def outN' (code : Int) (n : Nat) : Nat := if code = 0 then n else 0
section
variable {w' : World} {b0 base n : Nat} {x : Nat → Rat} {q : Rat} {code : Int} {e : Ending}
theorem RowA.raise {A : Option Addr} (h : RowA w' b0 A n (can x)) (hb : b0 ≤ w'.heap.size) : RowA w' w'.heap.size A n (can x) := by
  obtain ⟨V, h1, h2⟩ := h
  exact ⟨V, fun k hk => (h1 k hk).base hb, h2⟩
theorem RetFe.out (h : RetFe b0 base n x code e w') (hb : b0 ≤ w'.heap.size) : ∃ A c, e = .returned (.tuple #[.slice A (outN' code n) c, errM code]) ∧ RowA w' w'.heap.size A (outN' code n) (can x) := by
  unfold RetFe at h
  unfold outN'
  by_cases h0 : code = 0
  · rw [if_pos h0] at h ⊢
    obtain ⟨A, c, rfl, h⟩ := h
    exact ⟨A, c, by rw [h0, errM_0], (OwF.ra h).raise hb⟩
  · rw [if_neg h0] at h ⊢
    exact ⟨_, _, h, RowA.nil_ _ _ _ _⟩
end
/-- one fraction as a list -/
theorem RowA.one {W : World} {b0 g : Nat} {s : Bool} {A B : Option Addr} {n c m d : Nat} {r : Rw} (hr : RdS W b0 (rv s A n c B m d) r) (hg : g < W.heap.size) (h0 : W.cell? ⟨g, 0, none⟩ = some (.bool s)) (h1 : W.cell? ⟨g, 1, none⟩ = some (.slice A n c)) (h2 : W.cell? ⟨g, 2, none⟩ = some (.slice B m d)) : RowA W b0 (some ⟨g, 0, none⟩) 1 (fun _ => r) := by
  refine ⟨fun _ => rv s A n c B m d, fun _ _ => hr, rfl, fun _ => ⟨g, 0, rfl, hg, fun j u hu => ?_⟩⟩
  rw [Nat.zero_add]
  match j, hu with
  | 0, hu => simp [cellsV, c3] at hu; subst hu; exact h0
  | 1, hu => simp [cellsV, c3] at hu; subst hu; exact h1
  | 2, hu => simp [cellsV, c3] at hu; subst hu; exact h2
  | j + 3, hu => simp [cellsV, c3] at hu
end Go.Proofs.YtmebdlilbnadgaaGreatDoor
namespace Go.Proofs.YtmebdlilbnadgaaGreatDoor
open Go.RowKit
set_option linter.unusedSimpArgs false
set_option linter.unusedVariables false
set_option maxRecDepth 20000
attribute [local irreducible] nv wp win plainB validR valR canR mvE chkM codeC exK maxF dsum
/-! ## TransientSteps -/
theorem Small.fastS {c : Chn} (h : Small c) (ok : c.Ok) : Sz 400 c.fast := maxF_sz fun j _ => (h.siz ok).ex j c.nm (Nat.le_refl _)
/-- an answer: a list of fractions and the number of an error -/
def AnsV (z : Int → Value) (m : Nat) (x : Nat → Rat) (code : Int) (e : Ending) (w' : World) : Prop := ∃ A c, e = .returned (.tuple #[.slice A m c, z code]) ∧ RowA w' w'.heap.size A m (can x)
end Go.Proofs.YtmebdlilbnadgaaGreatDoor
namespace Go.Proofs.YtmebdlilbnadgaaGreatDoor
set_option linter.unusedSimpArgs false
set_option linter.unusedVariables false
/-! ## how great the numbers are (plain) -/
section
variable {nm n P L : Nat} {q : Nat → Rat} {F T : Nat → Nat} {l : Nat → Bool} {back : Bool} {v : Nat → Rat}
theorem wp2b : 240 * 4294967296 < wp 2 := by decide +kernel
end
section
variable {c : Chn}
end
end Go.Proofs.YtmebdlilbnadgaaGreatDoor
namespace Go.Proofs.YtmebdlilbnadgaaGreatDoor
set_option linter.unusedSimpArgs false
set_option linter.unusedVariables false
/-! ## the stationary distribution of a chain; how great its numbers are (plain) -/
section
variable {nm n P : Nat} {q : Nat → Rat} {F T : Nat → Nat}
theorem staK_s (F T : Nat → Nat) (q : Nat → Rat) (k i j : Nat) : staK F T q (k + 1) i j = staK F T q k i j + (if i = T k ∧ j = F k then q k else 0) - (if i = F k ∧ j = F k then q k else 0) := rfl
theorem staK_fz (h : Rts nm q P) (i j : Nat) : ∀ k, k ≤ nm → Fz P (2 * k * (4294967296 * P)) (staK F T q k i j)
  | 0, _ => (Fz.zero P).le (by omega)
  | k + 1, hk => by
    have ih := staK_fz h i j k (by omega)
    have hq := h.fz k (by omega)
    have h0 : ∀ (p : Prop) [Decidable p], Fz P (4294967296 * P) (if p then q k else 0) := fun p _ => by
      split
      · exact hq
      · exact (Fz.zero P).le (by omega)
    have e : 2 * (k + 1) * (4294967296 * P) = 2 * k * (4294967296 * P) + 4294967296 * P + 4294967296 * P := by
      rw [Nat.mul_add, Nat.add_mul]; omega
    rw [e, staK_s]
    exact (ih.add (h0 _)).sub (h0 _)
theorem staK_sz (h : Rts nm q P) (i j : Nat) {k : Nat} (hk : k ≤ nm) : Sz 20 (staK F T q k i j) := by
  refine (staK_fz h i j k hk).sz h.ne (by omega) (lt_wp_more h.lt (by omega)) ?_
  have h1 : 2 * k * 4294967296 < wp 2 := Nat.lt_of_le_of_lt (Nat.mul_le_mul_right _ (by have := h.few; omega)) wp2b
  have := wp_mul_lt h1 h.lt
  rw [Nat.mul_assoc] at this
  exact lt_wp_more this (by omega)
theorem staX_sz (h : Rts nm q P) (hn : n ≤ 9) (s : Nat) : Sz 21400000 (staX F T q nm n s) := by
  unfold staX
  split
  · rename_i hs
    have hg := gj_sz (n := n) (c := n + 1) (L := 20) (M := wide (staM F T q nm n) (fun i => if i = n - 1 then 1 else 0) n) (by omega) (fun a b ha hb => by
      unfold wide
      split
      · unfold staM
        split
        · exact Sz.one (by omega)
        · exact staK_sz h a b (Nat.le_refl _)
      · show Sz 20 (if a = n - 1 then (1 : Rat) else 0)
        split
        · exact Sz.one (by omega)
        · exact Sz.zero (by omega)) (n + 1) (Nat.le_refl _) s n hs (by omega)
    have h1 := gl_mono (L := 20) (show n + 1 ≤ 10 by omega)
    have h2 : gl 20 10 ≤ 21400000 := by decide +kernel
    exact hg.more (by omega)
  · exact Sz.zero (by omega)
theorem staX_fz (h : Rts nm q P) (hn : n ≤ 9) : FzL 220000000 (staX F T q nm n) := by
  obtain ⟨L, hL⟩ : ∃ L, L = 21400000 := ⟨_, rfl⟩
  have hsz : ∀ s, s < n → Sz L (staX F T q nm n s) := fun s _ => by rw [hL]; exact staX_sz h hn s
  have h1 := FzL.of_sz (v := staX F T q nm n) (n := n) (L := L) hsz (fun s hs => by unfold staX; rw [if_neg (by omega)]) (by omega)
  have h2 : n * L ≤ 9 * L := Nat.mul_le_mul_right _ hn
  obtain ⟨M, hM⟩ : ∃ M, M = 220000000 := ⟨_, rfl⟩
  have h3 : n * L + L + 1 ≤ M := by omega
  rw [← hM]
  exact h1.more h3
end
section
variable {c : Chn}
/-- the number of closed classes -/
def Chn.ncl (c : Chn) : Nat := cntB (clB c.f c.t c.nm c.nd) c.nd
/-- the first state of the first one -/
def Chn.cl0 (c : Chn) : Nat := ixB (clB c.f c.t c.nm c.nd) c.nd 0
/-- its states -/
def Chn.clS (c : Chn) : Nat → Bool := rsF c.f c.t c.nm c.nd c.cl0
/-- the stationary distribution -/
def Chn.pi (c : Chn) : Nat → Rat := staX c.f c.t c.q c.nm c.nd
theorem Chn.mvA (ok : c.Ok) : ∀ k, k < c.nm → c.f k < c.nd ∧ c.t k < c.nd ∧ c.f k ≠ c.t k ∧ 0 < c.q k := fun k hk => by
  have h1 := Chn.ftA ok k hk
  exact ⟨h1.1, h1.2.1, h1.2.2, (ok.mv k hk).2.2.2.2.2.1⟩
theorem Chn.uns (ok : c.Ok) (h : c.ncl = 1) : UnS c.nm c.nd c.f c.t c.q c.cl0 := class_un (Chn.mvA ok) h
theorem Chn.clS_shut (ok : c.Ok) : ∀ k, k < c.nm → c.clS (c.f k) = true → c.clS (c.t k) = true := fun k hk h => rs_shut (Chn.lt_t ok) hk h
theorem Chn.clS_0 : c.clS c.cl0 = true := rs_self _
/-- what the class' system gives -/
theorem Chn.pi_par (ok : c.Ok) (h : c.ncl = 1) : codeS (cntB c.clS c.nd) (cntB c.clS c.nd) (wide (parQ c.clS c.f c.t c.q c.nm c.nd) (fun i => if i = cntB c.clS c.nd - 1 then 1 else 0) (cntB c.clS c.nd)) = 0 ∧
    ∀ s, s < c.nd → extB c.clS (fun t => (gj (cntB c.clS c.nd) (wide (parQ c.clS c.f c.t c.q c.nm c.nd) (fun i => if i = cntB c.clS c.nd - 1 then 1 else 0) (cntB c.clS c.nd)) (cntB c.clS c.nd + 1)).1 t (cntB c.clS c.nd)) s = c.pi s := (Chn.uns ok h).par_eq (Chn.clS_shut ok) Chn.clS_0
theorem Chn.pi_pos (ok : c.Ok) (h : c.ncl = 1) (s : Nat) (hs : s < c.nd) : 0 ≤ c.pi s ∧ (0 < c.pi s ↔ c.clS s = true) :=
  (Chn.uns ok h).staX_pos (fun P hP hp s hb => rs_min hP hp hb) (Chn.clS_shut ok) Chn.clS_0 s hs
end
end Go.Proofs.YtmebdlilbnadgaaGreatDoor
namespace Go.Proofs.YtmebdlilbnadgaaGreatDoor
set_option linter.unusedSimpArgs false
set_option linter.unusedVariables false
/-! ## balance, down states, frequency (plain) -/
/-- the balance of all states after k moves -/
def netK (F T : Nat → Nat) (q x : Nat → Rat) (k : Nat) : Nat → Rat := fun i => netS F T q x k i
/-- the flow along the first k moves that satisfy G -/
def floG (G : Nat → Bool) (F : Nat → Nat) (q x : Nat → Rat) : Nat → Rat
  | 0 => 0
  | k + 1 => if G k then floG G F q x k + x (F k) * q k else floG G F q x k
section
variable {F T : Nat → Nat} {q x : Nat → Rat} {nm n P L : Nat} {G : Nat → Bool} {D : Nat → Bool}
/-- sizes -/
theorem FzL.bals (hv : FzL L x) (h : Rts nm q P) : (∀ k, k ≤ 300 → Sz (L + 24) (sumN x k)) ∧ (∀ k, k < nm → ∀ s, Sz (L + 24) (x s * q k)) ∧ (∀ k, k ≤ nm → ∀ s, Sz (L + 24) (netK F T q x k s)) ∧ (∀ k, k ≤ nm → ∀ (G : Nat → Bool), Sz (L + 24) (floG G F q x k)) ∧ ∀ k, k ≤ 300 → ∀ (D : Nat → Bool), Sz (L + 24) (Go.Proofs.YtmebdlilbnadgaaGreatDoor.dsum D x k) := by
  obtain ⟨D, Z, h0, h1, h2, h3⟩ := hv
  have hP := h.lt
  have hfew := h.few
  have hD0 : P * D ≠ 0 := Nat.mul_ne_zero h.ne h0
  have hD1 : P * D < wp (16 + L) := wp_mul_lt hP h1
  have b1 : 4294967296 * P < wp 17 := by rw [← wp_lt_succ]; omega
  have b2 : 4294967296 * P * Z < wp (17 + L) := wp_mul_lt b1 h2
  have hX : ∀ k, k < nm → ∀ s, Fz (P * D) (4294967296 * P * Z) (x s * q k) := fun k hk s => by rw [Rat.mul_comm]; exact (h.fz k hk).mul (h3 s)
  have fin0 : ∀ {a : Rat} {k : Nat}, k ≤ 300 → Fz D (k * Z) a → Sz (L + 24) a := fun {a k} hk ha => by
    refine ha.sz h0 (by omega) (lt_wp_more h1 (by omega)) ?_
    have b4 : k * Z < wp (1 + L) := wp_mul_lt (by rw [wp_one]; omega) h2
    exact lt_wp_more b4 (by omega)
  have hS : ∀ k, Fz D (k * Z) (sumN x k) := fun k => by
    induction k with
    | zero => exact (Fz.zero _).le (by omega)
    | succ k ih =>
      rw [sumN, Nat.succ_mul]
      exact ih.add (h3 k)
  have hDs : ∀ (B : Nat → Bool) k, Fz D (k * Z) (Go.Proofs.YtmebdlilbnadgaaGreatDoor.dsum B x k) := fun B k => by
    induction k with
    | zero => exact (Fz.zero _).le (by omega)
    | succ k ih =>
      rw [Go.Proofs.YtmebdlilbnadgaaGreatDoor.dsum, Nat.succ_mul]
      split
      · exact ih.add (h3 k)
      · exact ih.le (by omega)
  generalize 4294967296 * P * Z = X at *
  generalize P * D = E at *
  have fin : ∀ {a : Rat} {k : Nat}, k ≤ 240 → Fz E (k * X) a → Sz (L + 24) a := fun {a k} hk ha => by
    refine ha.sz hD0 (by omega) (lt_wp_more hD1 (by omega)) ?_
    have b4 : k * X < wp (1 + (17 + L)) := wp_mul_lt (by rw [wp_one]; omega) b2
    exact lt_wp_more b4 (by omega)
  have hN : ∀ k, k ≤ nm → ∀ s, Fz E (2 * k * X) (netK F T q x k s) := fun k hk s => by
    induction k with
    | zero => exact (Fz.zero _).le (by omega)
    | succ k ih =>
      have ih := ih (by omega)
      have e : 2 * (k + 1) * X = 2 * k * X + (X + X) := by rw [Nat.mul_add, Nat.add_mul]; omega
      rw [e]
      show Fz E _ (netS F T q x (k + 1) s)
      rw [netS, sumN, ← netS]
      refine ih.add ?_
      unfold netT
      refine Fz.sub ?_ ?_
      · split
        · exact hX k (by omega) _
        · exact (Fz.zero _).le (by omega)
      · split
        · exact hX k (by omega) _
        · exact (Fz.zero _).le (by omega)
  have hG : ∀ (G : Nat → Bool), ∀ k, k ≤ nm → Fz E (k * X) (floG G F q x k) := fun G k hk => by
    induction k with
    | zero => exact (Fz.zero _).le (by omega)
    | succ k ih =>
      have ih := ih (by omega)
      rw [floG, Nat.succ_mul]
      split
      · exact ih.add (hX k (by omega) _)
      · exact ih.le (by omega)
  exact ⟨fun k hk => fin0 hk (hS k), fun k hk s => fin (k := 1) (by omega) ((hX k hk s).le (by omega)), fun k hk s => fin (k := 2 * k) (by omega) (hN k hk s), fun k hk G => fin (k := k) (by omega) (hG G k hk), fun k hk B => fin0 hk (hDs B k)⟩
end
/-- the distribution is balanced -/
def Chn.okB (c : Chn) (x : Nat → Rat) : Prop := (∀ s, s < c.nd → 0 ≤ x s) ∧ sumN x c.nd = 1 ∧ ∀ i, i < c.nd → netS c.f c.t c.q x c.nm i = 0
/-- the stationary distribution is balanced -/
theorem Chn.pi_ok {c : Chn} (ok : c.Ok) (h : c.ncl = 1) : c.okB c.pi := by
  obtain ⟨-, h2, h3⟩ := (c.uns ok h).staX_eq
  exact ⟨fun s hs => (Chn.pi_pos ok h s hs).1, h3, h2⟩
end Go.Proofs.YtmebdlilbnadgaaGreatDoor
namespace Go.Proofs.YtmebdlilbnadgaaGreatDoor
set_option linter.unusedSimpArgs false
set_option linter.unusedVariables false
/-! ## how great the numbers of package stationary are; multiplied rates (plain) -/
structure SizP (c : Chn) : Prop where
  ch : ChS c 400
  nm : c.nm ≤ 120
  nd : c.Ok → c.nd ≤ 9
  K : c.Ok → ∀ k, k ≤ c.nm → ∀ i j, Sz 400 (staK c.f c.t c.q k i j)
  bal : c.Ok → ∀ L x, FzL L x → (∀ k, k ≤ 300 → Sz (L + 40) (sumN x k)) ∧ (∀ k, k < c.nm → ∀ s, Sz (L + 40) (x s * c.q k)) ∧ (∀ k, k ≤ c.nm → ∀ s, Sz (L + 40) (netK c.f c.t c.q x k s)) ∧ (∀ k, k ≤ c.nm → ∀ (G : Nat → Bool), Sz (L + 40) (floG G c.f c.q x k)) ∧ ∀ k, k ≤ 300 → ∀ (D : Nat → Bool), Sz (L + 40) (Go.Proofs.YtmebdlilbnadgaaGreatDoor.dsum D x k)
section
variable {c : Chn} {f : Rat}
theorem Small.sizP (hS : Small c) : SizP c := ⟨hS.chS, hS.nm, hS.nd, fun ok k hk i j => (staK_sz (hS.rts ok) i j hk).more (by omega), fun ok L x hx => by
  obtain ⟨b1, b2, b3, b4, b5⟩ := hx.bals (F := c.f) (T := c.t) (hS.rts ok)
  exact ⟨fun k hk => (b1 k hk).more (by omega), fun k hk s => (b2 k hk s).more (by omega), fun k hk s => (b3 k hk s).more (by omega), fun k hk G => (b4 k hk G).more (by omega), fun k hk D => (b5 k hk D).more (by omega)⟩⟩
/-! ### the stationary distribution as a list of fractions -/
theorem Chn.pi_vec (c : Chn) : vecQ c.nd (can c.pi) = c.pi := by
  funext s
  unfold vecQ
  by_cases hs : s < c.nd
  · rw [if_pos hs]; exact valR_canR _
  · rw [if_neg hs]
    unfold Chn.pi staX
    rw [if_neg hs]
theorem Small.pi_sz (hS : Small c) (ok : c.Ok) (s : Nat) : Sz 21400000 (c.pi s) := staX_sz (hS.rts ok) (hS.nd ok) s
theorem Small.pi_fz (hS : Small c) (ok : c.Ok) : FzL 220000000 c.pi := staX_fz (hS.rts ok) (hS.nd ok)
/-! ### multiplied rates -/
end
end Go.Proofs.YtmebdlilbnadgaaGreatDoor
namespace Go.Proofs.YtmebdlilbnadgaaGreatDoor
open Go.Maps
set_option linter.unusedSimpArgs false
set_option linter.unusedVariables false
/-! ## closed classes and the system of a class, step by step (plain) -/
section
variable {F T : Nat → Nat} {nm n a k : Nat}
/-- what closed knows of a after the first k states -/
def clK (F T : Nat → Nat) (nm n a k : Nat) : Bool := (List.range k).all fun b => !rsF F T nm n a b || (decide (a ≤ b) && rsF F T nm n b a)
theorem clK_0 : clK F T nm n a 0 = true := rfl
theorem clK_n : clK F T nm n a n = clB F T nm n a := rfl
theorem clK_s : clK F T nm n a (k + 1) = (clK F T nm n a k && (!rsF F T nm n a k || (decide (a ≤ k) && rsF F T nm n k a))) := by
  unfold clK
  rw [List.range_succ, List.all_append]
  simp
theorem clK_no (h : rsF F T nm n a k = false) : clK F T nm n a (k + 1) = clK F T nm n a k := by rw [clK_s, h]; simp
theorem clK_yes (h : rsF F T nm n a k = true) : clK F T nm n a (k + 1) = (clK F T nm n a k && (rsF F T nm n k a && decide (a ≤ k))) := by rw [clK_s, h, Bool.and_comm (rsF F T nm n k a)]; simp
end
/-! ### the class' numbers as a map -/
def mpD (B : Nat → Bool) (n : Nat) : Nat → DataW Unit
  | 0 => .map []
  | j + 1 => (mpD B n j).put (.int .i64 ((ixB B n j : Nat) : Int)) (.lit (.int .i64 (j : Int)))
theorem mpD_map (B : Nat → Bool) (n : Nat) : ∀ j, IsMap (mpD B n j)
  | 0 => ⟨[], rfl⟩
  | j + 1 => (mpD_map B n j).put _ _
theorem mpD_has {B : Nat → Bool} {n s : Nat} (hs : s < n) : ∀ {j : Nat}, j ≤ cntB B n → Maps.has (mpD B n j) (.int .i64 (s : Int)) = (B s && decide (cntB B s < j))
  | 0, _ => by show Maps.has (.map []) _ = _; simp [Maps.has]
  | j + 1, hj => by
    have ih := mpD_has (B := B) hs (j := j) (by omega)
    obtain ⟨h1, h2⟩ := ixB_lt (B := B) (n := n) (i := j) (by omega)
    have h3 := cntB_ix (B := B) (n := n) (t := j) (by omega)
    by_cases e : s = ixB B n j
    · subst e
      show Maps.has ((mpD B n j).put _ _) _ = _
      rw [has_put_same (k := .int .i64 ((ixB B n j : Nat) : Int)) (mpD_map B n j) (by trivial), h2, h3]
      simp
    · show Maps.has ((mpD B n j).put _ _) _ = _
      rw [has_put_other (by
        intro h
        injection h with _ h
        exact e (by omega)), ih]
      cases hb : B s
      · simp
      · have : cntB B s ≠ j := fun h => e (by
          have := (ixB_cnt hs hb).2
          rw [h] at this
          exact this.symm)
        simp only [Bool.true_and]
        exact decide_eq_decide.2 (by omega)
theorem mpD_at {B : Nat → Bool} {n s : Nat} (hs : s < n) (hb : B s = true) : ∀ {j : Nat}, j ≤ cntB B n → cntB B s < j → (mpD B n j).atKey (.int .i64 (s : Int)) (.lit (.int .i64 0)) = .lit (.int .i64 ((cntB B s : Nat) : Int))
  | 0, _, h => by omega
  | j + 1, hj, h => by
    obtain ⟨h1, h2⟩ := ixB_lt (B := B) (n := n) (i := j) (by omega)
    have h3 := cntB_ix (B := B) (n := n) (t := j) (by omega)
    by_cases e : s = ixB B n j
    · subst e
      show ((mpD B n j).put _ _).atKey _ _ = _
      rw [atKey_put_same (k := .int .i64 ((ixB B n j : Nat) : Int)) (mpD_map B n j) (by trivial), h3]
    · show ((mpD B n j).put _ _).atKey _ _ = _
      rw [atKey_put_other (by
        intro h
        injection h with _ h
        exact e (by omega))]
      refine mpD_at hs hb (by omega) ?_
      have : cntB B s ≠ j := fun h => e (by
        have := (ixB_cnt hs hb).2
        rw [h] at this
        exact this.symm)
      omega
/-! ### the system of a class after k moves -/
def parK (B : Nat → Bool) (F T : Nat → Nat) (q : Nat → Rat) (n k : Nat) : Mf := fun i j => staK F T q k (ixB B n i) (ixB B n j)
section
variable {B : Nat → Bool} {F T : Nat → Nat} {q : Nat → Rat} {n k : Nat}
theorem parK_0 : parK B F T q n 0 = fun _ _ => 0 := rfl
theorem parK_no (h : B (F k) = false) {i j : Nat} (hj : j < cntB B n) : parK B F T q n (k + 1) i j = parK B F T q n k i j := by
  have h1 := (ixB_lt hj).2
  have h2 : ¬ (ixB B n j = F k) := fun e => by rw [e, h] at h1; cases h1
  unfold parK
  rw [staK_s, if_neg (fun h => h2 h.2), if_neg (fun h => h2 h.2)]
  grind
theorem parK_two (h : B (F k) = true) (ht : B (T k) = true) (hF : F k < n) (hT : T k < n) (hne : F k ≠ T k) {a b : Nat} (ha : a < cntB B n) (hb : b < cntB B n) : parK B F T q n (k + 1) a b
    = if a = cntB B (T k) ∧ b = cntB B (F k) then parK B F T q n k a b + q k else if a = cntB B (F k) ∧ b = cntB B (F k) then parK B F T q n k a b - q k else parK B F T q n k a b := by
  unfold parK
  rw [staK_s]
  by_cases e1 : a = cntB B (T k) ∧ b = cntB B (F k)
  · have i1 := (ix_iff ha hT ht).2 e1.1
    have i2 := (ix_iff hb hF h).2 e1.2
    rw [if_pos e1, if_pos ⟨i1, i2⟩, if_neg (fun h' => hne (by rw [← i1, h'.1]))]
    grind
  · rw [if_neg e1, if_neg (c := ixB B n a = T k ∧ _) (fun h' => e1 ⟨(ix_iff ha hT ht).1 h'.1, (ix_iff hb hF h).1 h'.2⟩)]
    by_cases e : a = cntB B (F k) ∧ b = cntB B (F k)
    · rw [if_pos e, if_pos ⟨(ix_iff ha hF h).2 e.1, (ix_iff hb hF h).2 e.2⟩]; grind
    · rw [if_neg e, if_neg (fun h' => e ⟨(ix_iff ha hF h).1 h'.1, (ix_iff hb hF h).1 h'.2⟩)]; grind
/-- .. when k places of the last row are ones -/
def oneK (P : Mf) (m k : Nat) : Mf := fun i j => if i = m - 1 ∧ j < k then 1 else P i j
theorem oneK_0 (P : Mf) (m : Nat) : oneK P m 0 = P := by
  funext i j
  unfold oneK
  rw [if_neg (fun h => by omega)]
theorem oneK_s (P : Mf) (m k : Nat) : upd (oneK P m k) (m - 1) (upd (oneK P m k (m - 1)) k 1) = oneK P m (k + 1) := by
  funext i j
  unfold upd oneK
  by_cases h1 : i = m - 1
  · subst h1
    rw [if_pos rfl]
    by_cases h2 : j = k
    · rw [if_pos h2, if_pos ⟨rfl, by omega⟩]
    · rw [if_neg h2]
      by_cases h3 : j < k
      · rw [if_pos ⟨rfl, h3⟩, if_pos ⟨rfl, by omega⟩]
      · rw [if_neg (fun h => h3 h.2), if_neg (fun h => h3 (by omega))]
  · rw [if_neg h1, if_neg (fun h => h1 h.1), if_neg (fun h => h1 h.1)]
theorem oneK_par {nm i j : Nat} (hj : j < cntB B n) : oneK (parK B F T q n nm) (cntB B n) (cntB B n) i j = parQ B F T q nm n i j := by
  unfold oneK parQ parK
  by_cases h : i = cntB B n - 1
  · rw [if_pos ⟨h, hj⟩, if_pos h]
  · rw [if_neg (fun h' => h h'.1), if_neg h]
theorem one_sub {P : Nat → Nat → Rat} {p : Nat} {q : Rat} (a b : Nat) : upd P p (fun b => if b = p then P p p - q else P p b) a b = if a = p ∧ b = p then P a b - q else P a b := by
  unfold upd
  by_cases h3 : a = p
  · subst h3
    by_cases h4 : b = a
    · subst h4; simp
    · simp [h4]
  · simp [h3]
theorem two_sub {P : Nat → Nat → Rat} {p ri ci : Nat} {q : Rat} (hne : ¬ (ri = p ∧ ci = p)) (a b : Nat) :
    upd (upd P p (fun b => if b = p then P p p - q else P p b)) ri (fun b => if b = ci then P ri ci + q else upd P p (fun b => if b = p then P p p - q else P p b) ri b) a b = if a = ri ∧ b = ci then P a b + q else if a = p ∧ b = p then P a b - q else P a b := by
  have hQ := one_sub (P := P) (p := p) (q := q)
  generalize upd P p (fun b => if b = p then P p p - q else P p b) = Q at hQ ⊢
  unfold upd
  by_cases h1 : a = ri
  · by_cases h2 : b = ci
    · rw [if_pos h1, if_pos h2, if_pos ⟨h1, h2⟩, h1, h2]
    · rw [if_pos h1, if_neg h2, if_neg (show ¬ (a = ri ∧ b = ci) from fun h => h2 h.2), ← h1]
      exact hQ a b
  · rw [if_neg h1, if_neg (show ¬ (a = ri ∧ b = ci) from fun h => h1 h.1)]
    exact hQ a b
end
end Go.Proofs.YtmebdlilbnadgaaGreatDoor
namespace Go.Proofs.YtmebdlilbnadgaaGreatDoor
set_option linter.unusedSimpArgs false
set_option linter.unusedVariables false
/-! ## the stationary distribution stays (plain) -/
section
variable {F T : Nat → Nat} {q x : Nat → Rat} {nm n a : Nat} {r : Rat}
theorem stp_net {s : Nat} : ∀ {k : Nat}, (∀ j, j < k → F j ≠ T j) → stp (fun _ => true) F T x (shr F q r x) k s = x s + netS F T q x k s / r
  | 0, _ => by
    show x s = x s + (0 : Rat) / r
    grind
  | k + 1, h => by
    have ih := fun s => stp_net (s := s) (k := k) fun j hj => h j (by omega)
    have hne := h k (by omega)
    have e : netS F T q x (k + 1) s = netS F T q x k s + netT F T q x s k := rfl
    have hsh : shr F q r x k = x (F k) * q k / r := rfl
    rw [stp_yes rfl hne, e, hsh]
    generalize stp (fun _ => true) F T x (shr F q r x) k = u at *
    unfold upd netT
    by_cases h1 : s = T k
    · have h2 : ¬ F k = s := fun e => hne (e.trans h1)
      simp only [if_pos h1, if_pos h1.symm, if_neg h2]
      rw [← h1, ih]
      grind
    · have h1' : ¬ T k = s := fun e => h1 e.symm
      by_cases h2 : s = F k
      · simp only [if_neg h1, if_neg h1', if_pos h2, if_pos h2.symm]
        rw [← h2, ih]
        grind
      · have h2' : ¬ F k = s := fun e => h2 e.symm
        simp only [if_neg h1, if_neg h1', if_neg h2, if_neg h2']
        rw [ih]
        grind
theorem step_fixed (hm : ∀ k, k < nm → F k < n ∧ T k < n ∧ F k ≠ T k ∧ 0 < q k) (hn : ∀ i, i < n → netS F T q x nm i = 0) : ∀ s, s < n → stepV (fun _ => true) F T q r nm x s = x s := by
  intro s hs
  unfold stepV
  rw [stp_net fun j hj => (hm j hj).2.2.1, hn s hs]
  grind
end
end Go.Proofs.YtmebdlilbnadgaaGreatDoor
