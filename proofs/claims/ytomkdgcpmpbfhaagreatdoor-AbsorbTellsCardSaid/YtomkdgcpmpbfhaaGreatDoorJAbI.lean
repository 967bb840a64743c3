/- Contracts of functions and lemmas, used by the proofs of the given statements. No condition beyond those that each lemma names. -/
import Derived.Test.YtomkdgcpmpbfhaaGreatDoorAbRb
import Derived.Test.YtomkdgcpmpbfhaaGreatDoorLinH
import Derived.Test.YtomkdgcpmpbfhaaGreatDoorJBase
namespace Go.Proofs.YtomkdgcpmpbfhaaGreatDoor
open Go.RowKit
set_option linter.unusedSimpArgs false
set_option linter.unusedVariables false
set_option maxRecDepth 20000
attribute [local irreducible] nv wp win plainB validR valR canR
/-! ## a row of ints of the call's own, by a function -/
def kls (n : Nat) (f : Nat → Nat) : List Value := (List.range n).map fun j => .int .i64 ((f j : Nat) : Int)
theorem kls_set {n : Nat} {f : Nat → Nat} {k b : Nat} : (kls n f).set k (.int .i64 (b : Int)) = kls n (upd f k b) := by
  apply List.ext_getElem?
  intro j
  by_cases h : j = k
  · subst h
    by_cases hn : j < n
    · rw [List.getElem?_set_self (by simp [kls]; exact hn)]; simp [kls, hn, upd]
    · rw [List.getElem?_eq_none (by simp [kls]; omega), List.getElem?_eq_none (by simp [kls]; omega)]
  · rw [List.getElem?_set_ne (Ne.symm h)]
    by_cases hn : j < n
    · simp [kls, hn, upd, h]
    · rw [List.getElem?_eq_none (by simp [kls]; omega), List.getElem?_eq_none (by simp [kls]; omega)]
def OwK (w : World) (base : Nat) (A : Option Addr) (c n : Nat) (f : Nat → Nat) : Prop := w.ownsRow base 3 1 (.slice A n c) n (kls n f)
section
variable {w w' w1 : World} {base g c n k : Nat} {A : Option Addr} {f : Nat → Nat}
theorem OwK.below (h : OwK w base A c n f) (hb : Below w.heap.size w w1) : OwK w1 base A c n f := own_below h hb
theorem OwK.at_ (h : OwK w base (some ⟨g, 0, none⟩) c n f) (hk : k < n) : w.cell? ⟨g, k, none⟩ = some (.int .i64 ((f k : Nat) : Int)) := by
  rw [World.ownsRow.cellAt h k (by omega)]
  simp [kls, hk]
theorem OwK.frozen (h : OwK w base (some ⟨g, 0, none⟩) c n f) (k : Nat) : w.frozen? ⟨g, k, none⟩ = false := World.ownsRow.frozenAt h k
theorem OwK.set (h : OwK w base (some ⟨g, 0, none⟩) c n f) (k b : Nat) : OwK (w.setCell ⟨g, k, none⟩ (.int .i64 (b : Int))) base (some ⟨g, 0, none⟩) c n (upd f k b) ∧ w.grownBy (w.setCell ⟨g, k, none⟩ (.int .i64 (b : Int))) (some g) := by
  obtain ⟨s1, g1⟩ := World.ownsRow.stored h k (.int .i64 (b : Int))
  rw [kls_set] at s1
  exact ⟨s1, g1⟩
theorem OwK.kept (h : OwK w base (some ⟨g, 0, none⟩) c n f) {row : Option Nat} (hg : w.grownBy w' row) (hr : some g ≠ row) : OwK w' base (some ⟨g, 0, none⟩) c n f :=
  World.ownsRow.kept h hg (.inr hr)
/-- make([]int, n) -/
theorem wpList_makeK {ops : Array Oper} {rest : List Oper} {o : Oper} {a : Act} {Q : Exit → Act → World → Prop}
    (hg : o.guard = none) (l c : Operand) (hop : o.op = Op.makeSlice 97 l c)
    (b0 n : Nat) (L C : Int) (hl : a.eval l = .int .i64 L) (hc : a.eval c = .int .i64 C) (hL : L = (n : Int)) (hC : C = (n : Int)) (hn : n ≤ 1000000) (hb : b0 ≤ w.heap.size)
    (h : ∀ w', OwK w' b0 (some ⟨w.heap.size, 0, none⟩) n n (fun _ => 0) → Below w.heap.size w w' → wpList Tryz.prog ops Q rest (a.put o.dst (.slice (some ⟨w.heap.size, 0, none⟩) n n)) w') : wpList Tryz.prog ops Q (o :: rest) a w := by
  obtain ⟨i, hi, hz, hs, hby⟩ := info_parts intInfo
  refine wpList_make_full w hg l c 97 hop b0 3 i (.int .i64 0) 1 Tryz.underlying97 hi hz hs .i64 .i64 L C n hl hc hL hC (by rw [hby]; omega) (by unfold maxLen; omega) hb ?_
  intro w' h1 h2
  have e : (madeCells (Value.cells (.int .i64 0)) (n * 1)).toList = kls n (fun _ => 0) := by
    rw [Nat.mul_one]
    show (madeCells #[Value.int .i64 0] n).toList = _
    rw [toList_madeCells_one]
    apply List.ext_getElem (by simp [kls])
    intro j h1 h2
    simp [kls]
  rw [e] at h1
  exact h w' h1 ((Below.refl _ _).grown h2 (Nat.le_refl _) (by intro k hk; cases hk))
end
theorem OwI.kept_ {w w' : World} {base c : Nat} {A : Option Addr} {l : List Nat} (h : OwI w base A c l) {row : Option Nat} (hg : w.grownBy w' row) (hr : (Value.slice A l.length c).ownBlock = none ∨ (Value.slice A l.length c).ownBlock ≠ row) : OwI w' base A c l :=
  World.ownsRow.kept h hg hr
end Go.Proofs.YtomkdgcpmpbfhaaGreatDoor
namespace Go.Proofs.YtomkdgcpmpbfhaaGreatDoor
open Go.RowKit
set_option linter.unusedSimpArgs false
set_option linter.unusedVariables false
set_option maxRecDepth 20000
attribute [local irreducible] nv wp win plainB validR valR canR mvE chkM codeC spr sprN chg cnt cntB ixB kept sysK
/-! ## package absorb: system -/
theorem MatG.mo {w : World} {b0 o co n : Nat} {len : Nat → Nat} {M : Nat → Nat → Rat} (h : MatG w b0 o co n len M) : MatO w b0 (some ⟨o, 0, none⟩) co n len M := by
  obtain ⟨A, c, Ar, cp, e1, e2, hd, h1, h2⟩ := h
  exact ⟨Ar, cp, h1, h2⟩
/-- the marks that a call was handed -/
def MkI (w : World) (A : Option Addr) (n : Nat) (l : Nat → Bool) : Prop := Rds w w.heap.size 1 A n (bools n l)
theorem MkI.later {w W : World} {A : Option Addr} {n i : Nat} {l : Nat → Bool} (h : MkI w A n l) (hb : Below w.heap.size w W) (hi : i < n) : ∃ b off, A = some ⟨b, off, none⟩ ∧ b < w.heap.size ∧ W.cell? ⟨b, off + i, none⟩ = some (.bool (l i)) := by
  obtain ⟨b, off, e, hlt, hc⟩ := h.2 (by omega)
  exact ⟨b, off, e, hlt, (hb.cell (p := ⟨b, off + i, none⟩) hlt).trans (hc _ _ (bools_get hi))⟩
theorem OwB.mk {w : World} {base c n : Nat} {A : Option Addr} {l : Nat → Bool} (h : OwB w base A c n l) : MkI w A n l := Rds.of_own h
theorem kept_yes {B : Nat → Bool} {k : Nat} (h : B k = true) : kept B (k + 1) = kept B k ++ [k] := by rw [kept, if_pos h]
theorem kept_no {B : Nat → Bool} {k : Nat} (h : B k = false) : kept B (k + 1) = kept B k := by rw [kept, if_neg (by rw [h]; simp)]
theorem kept_len {B : Nat → Bool} {k : Nat} : (kept B k).length = cntB B k := by unfold cntB; rfl
/-- the place of a live state, as far as they have been numbered -/
def plB (l : Nat → Bool) (k : Nat) : Nat → Nat := fun i => if l i = true ∧ i < k then cntB l i else 0
theorem plB_yes {l : Nat → Bool} {k : Nat} (h : l k = true) : upd (plB l k) k (cntB l k) = plB l (k + 1) := by
  funext i
  unfold upd plB
  by_cases e : i = k
  · subst e; rw [if_pos rfl, if_pos ⟨h, by omega⟩]
  · rw [if_neg e]
    by_cases e2 : l i = true ∧ i < k
    · rw [if_pos e2, if_pos ⟨e2.1, by omega⟩]
    · rw [if_neg e2, if_neg (fun h => e2 ⟨h.1, by omega⟩)]
theorem plB_no {l : Nat → Bool} {k : Nat} (h : l k = false) : plB l k = plB l (k + 1) := by
  funext i
  unfold plB
  by_cases e2 : l i = true ∧ i < k
  · rw [if_pos e2, if_pos ⟨e2.1, by omega⟩]
  · rw [if_neg e2, if_neg (fun h' => by
      by_cases e : i = k
      · rw [e, h] at h'; cases h'.1
      · exact e2 ⟨h'.1, by omega⟩)]
theorem plB_at {l : Nat → Bool} {k i : Nat} (h : l i = true) (hi : i < k) : plB l k i = cntB l i := by unfold plB; rw [if_pos ⟨h, hi⟩]
/-- the matrix of the live states after k moves -/
def parM (l : Nat → Bool) (F T : Nat → Nat) (q : Nat → Rat) (back : Bool) (n k : Nat) : Mf := fun a b => sysK l F T q back k (ixB l n a) (ixB l n b)
section
variable {l : Nat → Bool} {F T : Nat → Nat} {q : Nat → Rat} {back : Bool} {n k : Nat}
theorem sysK_s {i j : Nat} : sysK l F T q back (k + 1) i j = sysK l F T q back k i j + (if l (F k) = true ∧ i = F k ∧ j = F k then q k else 0) - (if (l (F k) = true ∧ l (T k) = true) ∧ i = (if back then T k else F k) ∧ j = (if back then F k else T k) then q k else 0) := by
  conv => lhs; unfold sysK
theorem ix_iff {a s : Nat} (ha : a < cntB l n) (hs : s < n) (hl : l s = true) : ixB l n a = s ↔ a = cntB l s := by
  constructor
  · intro h
    rw [← h, cntB_ix ha]
  · intro h
    rw [h, (ixB_cnt hs hl).2]
theorem parM_no (h : l (F k) = false) : parM l F T q back n (k + 1) = parM l F T q back n k := by
  funext a b
  unfold parM
  rw [sysK_s, if_neg (c := l (F k) = true ∧ _) (fun h' => by rw [h] at h'; cases h'.1), if_neg (c := (l (F k) = true ∧ l (T k) = true) ∧ _) (fun h' => by rw [h] at h'; cases h'.1.1)]
  grind
theorem parM_one (h : l (F k) = true) (ht : l (T k) = false) (hF : F k < n) {a b : Nat} (ha : a < cntB l n) (hb : b < cntB l n) : parM l F T q back n (k + 1) a b = if a = cntB l (F k) ∧ b = cntB l (F k) then parM l F T q back n k a b + q k else parM l F T q back n k a b := by
  unfold parM
  rw [sysK_s, if_neg (c := (l (F k) = true ∧ l (T k) = true) ∧ _) (fun h' => by rw [ht] at h'; cases h'.1.2)]
  by_cases e : a = cntB l (F k) ∧ b = cntB l (F k)
  · rw [if_pos e, if_pos ⟨h, (ix_iff ha hF h).2 e.1, (ix_iff hb hF h).2 e.2⟩]; grind
  · rw [if_neg e, if_neg (fun h' => e ⟨(ix_iff ha hF h).1 h'.2.1, (ix_iff hb hF h).1 h'.2.2⟩)]; grind
theorem parM_two (h : l (F k) = true) (ht : l (T k) = true) (hF : F k < n) (hT : T k < n) (hne : F k ≠ T k) {a b : Nat} (ha : a < cntB l n) (hb : b < cntB l n) : parM l F T q back n (k + 1) a b
    = if a = cntB l (if back then T k else F k) ∧ b = cntB l (if back then F k else T k) then parM l F T q back n k a b - q k else if a = cntB l (F k) ∧ b = cntB l (F k) then parM l F T q back n k a b + q k else parM l F T q back n k a b := by
  unfold parM
  rw [sysK_s]
  have hfb : (if back then T k else F k) < n ∧ l (if back then T k else F k) = true := by cases back <;> simp <;> (constructor <;> assumption)
  have htb : (if back then F k else T k) < n ∧ l (if back then F k else T k) = true := by cases back <;> simp <;> (constructor <;> assumption)
  have hneb : (if back then T k else F k) ≠ (if back then F k else T k) := by cases back <;> simp <;> first | exact hne | exact fun e => hne e.symm
  by_cases e1 : a = cntB l (if back then T k else F k) ∧ b = cntB l (if back then F k else T k)
  · have i1 := (ix_iff ha hfb.1 hfb.2).2 e1.1
    have i2 := (ix_iff hb htb.1 htb.2).2 e1.2
    rw [if_pos e1, if_neg (c := l (F k) = true ∧ _) (fun h' => hneb (by rw [← i1, ← i2, h'.2.1, h'.2.2])), if_pos ⟨⟨h, ht⟩, i1, i2⟩]; grind
  · rw [if_neg e1, if_neg (c := (l (F k) = true ∧ l (T k) = true) ∧ _) (fun h' => e1 ⟨(ix_iff ha hfb.1 hfb.2).1 h'.2.1, (ix_iff hb htb.1 htb.2).1 h'.2.2⟩)]
    by_cases e : a = cntB l (F k) ∧ b = cntB l (F k)
    · rw [if_pos e, if_pos ⟨h, (ix_iff ha hF h).2 e.1, (ix_iff hb hF h).2 e.2⟩]; grind
    · rw [if_neg e, if_neg (fun h' => e ⟨(ix_iff ha hF h).1 h'.2.1, (ix_iff hb hF h).1 h'.2.2⟩)]; grind
end
theorem one_upd {P : Nat → Nat → Rat} {p : Nat} {q : Rat} (a b : Nat) : upd P p (fun b => if b = p then P p p + q else P p b) a b = if a = p ∧ b = p then P a b + q else P a b := by
  unfold upd
  by_cases h3 : a = p
  · subst h3
    by_cases h4 : b = a
    · subst h4; simp
    · simp [h4]
  · simp [h3]
theorem two_upd {P : Nat → Nat → Rat} {p ri ci : Nat} {q : Rat} (hne : ¬ (ri = p ∧ ci = p)) (a b : Nat) :
    upd (upd P p (fun b => if b = p then P p p + q else P p b)) ri (fun b => if b = ci then P ri ci - q else upd P p (fun b => if b = p then P p p + q else P p b) ri b) a b = if a = ri ∧ b = ci then P a b - q else if a = p ∧ b = p then P a b + q else P a b := by
  have hQ := one_upd (P := P) (p := p) (q := q)
  generalize upd P p (fun b => if b = p then P p p + q else P p b) = Q at hQ ⊢
  unfold upd
  by_cases h1 : a = ri
  · by_cases h2 : b = ci
    · rw [if_pos h1, if_pos h2, if_pos ⟨h1, h2⟩, h1, h2]
    · rw [if_pos h1, if_neg h2, if_neg (show ¬ (a = ri ∧ b = ci) from fun h => h2 h.2), ← h1]
      exact hQ a b
  · rw [if_neg h1, if_neg (show ¬ (a = ri ∧ b = ci) from fun h => h1 h.1)]
    exact hQ a b
end Go.Proofs.YtomkdgcpmpbfhaaGreatDoor
