/- Contracts of functions and lemmas, used by the proofs of the given statements. No condition beyond those that each lemma names. -/
import Derived.Test.YtomkdgcpmpbfhaaGreatDoorAbE
import Derived.Test.YtomkdgcpmpbfhaaGreatDoorRlG
namespace Go.Proofs.YtomkdgcpmpbfhaaGreatDoor
open Go.RowKit
set_option linter.unusedSimpArgs false
set_option linter.unusedVariables false
set_option maxRecDepth 20000
attribute [local irreducible] nv wp win plainB validR valR canR mvE chkM codeC
/-! ## reference: solve, what it needs -/
/-- the whole matrix after k moves -/
def fulK (l : Nat → Bool) (F T : Nat → Nat) (q : Nat → Rat) (back : Bool) (k : Nat) : Mf := fullA l (sysK l F T q back k)
/-- .. when k rows have been laid -/
def ful0 (l : Nat → Bool) (k : Nat) : Mf := fun i j => if l i = false ∧ i < k ∧ j = i then 1 else 0
section
variable {l : Nat → Bool} {F T : Nat → Nat} {q : Nat → Rat} {back : Bool} {k : Nat}
theorem fulK_no (h : l (F k) = false) : fulK l F T q back (k + 1) = fulK l F T q back k := by
  funext a b
  unfold fulK fullA
  rw [sysK_s, if_neg (c := l (F k) = true ∧ _) (fun h' => by rw [h] at h'; cases h'.1), if_neg (c := (l (F k) = true ∧ l (T k) = true) ∧ _) (fun h' => by rw [h] at h'; cases h'.1.1)]
  split
  · grind
  · rfl
theorem fulK_one (h : l (F k) = true) (ht : l (T k) = false) (a b : Nat) : fulK l F T q back (k + 1) a b = if a = F k ∧ b = F k then fulK l F T q back k a b + q k else fulK l F T q back k a b := by
  unfold fulK fullA
  rw [sysK_s, if_neg (c := (l (F k) = true ∧ l (T k) = true) ∧ _) (fun h' => by rw [ht] at h'; cases h'.1.2)]
  by_cases e : a = F k ∧ b = F k
  · rw [if_pos e, if_pos (show l (F k) = true ∧ a = F k ∧ b = F k from ⟨h, e.1, e.2⟩), if_pos (show l a = true by rw [e.1]; exact h), if_pos (show l a = true by rw [e.1]; exact h)]; grind
  · rw [if_neg e, if_neg (show ¬ (l (F k) = true ∧ a = F k ∧ b = F k) from fun h' => e h'.2)]
    split
    · grind
    · rfl
theorem fulK_two (h : l (F k) = true) (ht : l (T k) = true) (hne : F k ≠ T k) (a b : Nat) : fulK l F T q back (k + 1) a b
    = if a = (if back then T k else F k) ∧ b = (if back then F k else T k) then fulK l F T q back k a b - q k else if a = F k ∧ b = F k then fulK l F T q back k a b + q k else fulK l F T q back k a b := by
  unfold fulK fullA
  rw [sysK_s]
  have hfb : l (if back then T k else F k) = true := by cases back <;> simp <;> assumption
  have hneb : (if back then T k else F k) ≠ (if back then F k else T k) := by cases back <;> simp <;> first | exact hne | exact fun e => hne e.symm
  by_cases e1 : a = (if back then T k else F k) ∧ b = (if back then F k else T k)
  · have hla : l a = true := by rw [e1.1]; exact hfb
    rw [if_pos e1, if_pos hla, if_pos hla, if_neg (show ¬ (l (F k) = true ∧ a = F k ∧ b = F k) from fun h' => hneb (by rw [← e1.1, ← e1.2, h'.2.1, h'.2.2])), if_pos (show (l (F k) = true ∧ l (T k) = true) ∧ a = (if back then T k else F k) ∧ b = (if back then F k else T k) from ⟨⟨h, ht⟩, e1⟩)]; grind
  · rw [if_neg e1, if_neg (show ¬ ((l (F k) = true ∧ l (T k) = true) ∧ a = (if back then T k else F k) ∧ b = (if back then F k else T k)) from fun h' => e1 h'.2)]
    by_cases e : a = F k ∧ b = F k
    · have hla : l a = true := by rw [e.1]; exact h
      rw [if_pos e, if_pos (show l (F k) = true ∧ a = F k ∧ b = F k from ⟨h, e⟩), if_pos hla, if_pos hla]; grind
    · rw [if_neg e, if_neg (show ¬ (l (F k) = true ∧ a = F k ∧ b = F k) from fun h' => e h'.2)]
      split
      · grind
      · rfl
theorem ful0_all {n i j : Nat} (hi : i < n) : ful0 l n i j = fulK l F T q back 0 i j := by
  unfold ful0 fulK fullA
  cases hl : l i
  · by_cases e : j = i
    · rw [if_pos ⟨rfl, hi, e⟩, if_neg (by simp), if_pos e]
    · rw [if_neg (fun h => e h.2.2), if_neg (by simp), if_neg e]
  · rw [if_neg (fun h => by cases h.1), if_pos rfl]
    unfold sysK
    rfl
theorem ful0_yes (h : l k = true) (i j : Nat) : ful0 l (k + 1) i j = ful0 l k i j := by
  unfold ful0
  by_cases e : l i = false ∧ i < k ∧ j = i
  · rw [if_pos e, if_pos ⟨e.1, by omega, e.2.2⟩]
  · rw [if_neg e, if_neg (fun h' => by
      by_cases e2 : i = k
      · rw [e2, h] at h'; cases h'.1
      · exact e ⟨h'.1, by omega, h'.2.2⟩)]
theorem ful0_no (h : l k = false) : upd (ful0 l k) k (fun j => if j = k then 1 else 0) = ful0 l (k + 1) := by
  funext i j
  unfold upd ful0
  by_cases e : i = k
  · subst e
    rw [if_pos rfl]
    by_cases e2 : j = i
    · rw [if_pos e2, if_pos ⟨h, by omega, e2⟩]
    · rw [if_neg e2, if_neg (fun h' => e2 h'.2.2)]
  · rw [if_neg e]
    by_cases e2 : l i = false ∧ i < k ∧ j = i
    · rw [if_pos e2, if_pos ⟨e2.1, by omega, e2.2.2⟩]
    · rw [if_neg e2, if_neg (fun h' => e2 ⟨h'.1, by omega, h'.2.2⟩)]
theorem ful0_row (h : k ≤ k) (j : Nat) : ful0 l k k j = 0 := by
  unfold ful0
  rw [if_neg (fun h => by omega)]
/-- the right side when k rows have been laid -/
def onK (l : Nat → Bool) (y : Nat → Rat) (k : Nat) : Nat → Rat := fun i => if l i = false ∧ i < k then 0 else y i
theorem onK_0 (y : Nat → Rat) : onK l y 0 = y := by
  funext i; unfold onK; rw [if_neg (fun h => by omega)]
theorem onK_yes {y : Nat → Rat} (h : l k = true) : onK l y k = onK l y (k + 1) := by
  funext i
  unfold onK
  by_cases e : l i = false ∧ i < k
  · rw [if_pos e, if_pos ⟨e.1, by omega⟩]
  · rw [if_neg e, if_neg (fun h' => by
      by_cases e2 : i = k
      · rw [e2, h] at h'; cases h'.1
      · exact e ⟨h'.1, by omega⟩)]
theorem onK_no {y : Nat → Rat} (h : l k = false) : upd (onK l y k) k 0 = onK l y (k + 1) := by
  funext i
  unfold upd onK
  by_cases e : i = k
  · subst e; rw [if_pos rfl, if_pos ⟨h, by omega⟩]
  · rw [if_neg e]
    by_cases e2 : l i = false ∧ i < k
    · rw [if_pos e2, if_pos ⟨e2.1, by omega⟩]
    · rw [if_neg e2, if_neg (fun h' => e2 ⟨h'.1, by omega⟩)]
theorem onK_all {y : Nat → Rat} {n i : Nat} (hi : i < n) : onK l y n i = onL l y i := by
  unfold onK onL
  cases h : l i
  · rw [if_pos ⟨rfl, hi⟩]; simp
  · rw [if_neg (fun h => by cases h.1)]; simp
end
theorem fulK_sz {c : Chn} (hs : SysS c) (ok : c.Ok) (back : Bool) {k : Nat} (hk : k ≤ c.nm) (a b : Nat) : Sz 400 (fulK c.lv c.f c.t c.q back k a b) := by
  unfold fulK fullA
  split
  · exact hs.sz ok back k hk a b
  · split
    · exact Sz.one (by omega)
    · exact Sz.zero (by omega)
section
variable {w W : World} {b0 b1 cm cd : Nat} {AM AD : Option Addr} {c : Chn}
theorem ChI.base (h : ChI w b0 AM cm AD cd c) (hb : b0 ≤ b1) : ChI w b1 AM cm AD cd c :=
  ⟨⟨h.mv.1.base hb, fun hn a ha => Nat.lt_of_lt_of_le (h.mv.2 hn a ha) hb⟩, h.dn, fun hn a ha => Nat.lt_of_lt_of_le (h.db hn a ha) hb, h.cm, h.cd⟩
/-- the moves, when only what lies ahead of a bound has stayed -/
theorem ChI.mv_kp (h : ChI w b0 AM cm AD cd c) (ok : c.Ok) (hk2 : Kp b0 w W) {k : Nat} (hk : k < c.nm) : ∃ bm om s1 A1 n1 c1 B1 m1 d1, AM = some ⟨bm, om, none⟩ ∧ bm < b0
    ∧ W.cell? ⟨bm, om + k * 5, none⟩ = some (.int .i64 ((c.f k : Nat) : Int)) ∧ W.cell? ⟨bm, om + k * 5 + 1, none⟩ = some (.int .i64 ((c.t k : Nat) : Int)) ∧ W.cell? ⟨bm, om + k * 5 + 2, none⟩ = some (.bool s1) ∧ W.cell? ⟨bm, om + k * 5 + 3, none⟩ = some (.slice A1 n1 c1) ∧ W.cell? ⟨bm, om + k * 5 + 4, none⟩ = some (.slice B1 m1 d1)
    ∧ RdS W b0 (rv s1 A1 n1 c1 B1 m1 d1) (c.R k) ∧ c.f k < c.nd ∧ c.t k < c.nd ∧ c.f k ≠ c.t k := by
  obtain ⟨bm, om, s1, A1, n1, c1, B1, m1, d1, e, hbm, f0, f1, f2, f3, f4, r1, h1, h2, h3⟩ := h.mv_at ok hk
  have hlt : bm < b0 := h.mv.2 (by omega) _ e
  have tc : ∀ {o : Nat} {v : Value}, w.cell? ⟨bm, o, none⟩ = some v → W.cell? ⟨bm, o, none⟩ = some v := fun hh => (hk2.cell hbm (.inl hlt)).trans hh
  exact ⟨bm, om, s1, A1, n1, c1, B1, m1, d1, e, hlt, tc f0, tc f1, tc f2, tc f3, tc f4, r1.kp hk2, h1, h2, h3⟩
end
end Go.Proofs.YtomkdgcpmpbfhaaGreatDoor
namespace Go.Proofs.YtomkdgcpmpbfhaaGreatDoor
open Go.RowKit
set_option linter.unusedSimpArgs false
set_option linter.unusedVariables false
set_option maxRecDepth 20000
attribute [local irreducible] nv wp win plainB validR valR canR
/-! ## a row from outside that is written beside a matrix of one's own -/
section
variable {w w' w1 a b : World} {b0 b1 B c n g o co : Nat} {A : Option Addr} {R : Nat → Rw} {len : Nat → Nat} {M : Nat → Nat → Rat}
theorem grown_belowR (h : w1.grownBy a (some g)) (hb : Below w1.heap.size a b) : w1.grownBy b (some g) :=
  ⟨hb.os.trans h.os, hb.tape.trans h.tape, hb.output.trans h.output, Nat.le_trans h.size hb.size, fun k hk hne => (hb.block k hk).trans (h.block k hk hne)⟩
theorem Kp.low (h : Kp b1 w w') (hb : b0 ≤ b1) : Kp b0 w w' :=
  ⟨h.os, h.tape, h.output, h.size, fun k hk hw => h.block k hk (hw.imp (fun h => Nat.lt_of_lt_of_le h hb) id)⟩
theorem OwR.stay (h : OwR w b0 (some ⟨g, 0, none⟩) c n R) (hb : Below B w w') (hg : g < B) (hk : Kp b0 w w') : OwR w' b0 (some ⟨g, 0, none⟩) c n R := by
  obtain ⟨V, h1, h2⟩ := h
  refine ⟨V, fun k hkn => (h1 k hkn).kp hk, h2.1, ?_⟩
  rcases h2.2 with h | ⟨g', cap, cur, e, hb', hg', rest⟩
  · exact .inl h
  · have e1 : g = g' := by injection e with e; injection e with e; injection e
    subst e1
    exact .inr ⟨g, cap, cur, e, hb', (hb.block g hg).trans hg', rest⟩
theorem OwR.keepN (h : OwR w b0 A c n R) (hg : w.grownBy w' (some g)) (hn : NWB w g) (hb : g < b0) : OwR w' b0 A c n R := by
  obtain ⟨V, h1, h2⟩ := h
  refine ⟨V, fun k hk => (h1 k hk).keepN hg hn, World.ownsRow.kept h2 hg ?_⟩
  cases e : (Value.slice A n c).ownBlock with
  | none => exact .inl rfl
  | some q =>
    refine .inr fun e2 => ?_
    injection e2 with e2
    have := (World.ownsRow.lt h2 q e).1
    omega
theorem MatG.keepN (h : MatG w b0 o co n len M) (hg : w.grownBy w' (some g)) (hn : NWB w g) (hb : g < b0) : MatG w' b0 o co n len M := by
  obtain ⟨A, c, Ar, cp, e1, e2, hd, h1, h2⟩ := h
  have ho := (World.ownsRow.lt h1 o rfl).1
  exact ⟨A, c, Ar, cp, e1, e2, hd, World.ownsRow.kept h1 hg (.inr fun e => by have e : some o = some g := e; injection e with e; omega), fun j hj => (h2 j hj).keepN hg hn hb⟩
theorem OwR.nwb_ (h : OwR w b0 (some ⟨g, 0, none⟩) n n R) : NWB w g := (OwS.of_own h (Nat.le_refl _)).nwb
end
end Go.Proofs.YtomkdgcpmpbfhaaGreatDoor
