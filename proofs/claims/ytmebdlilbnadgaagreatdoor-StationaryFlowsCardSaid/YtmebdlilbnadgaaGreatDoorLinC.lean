/- Contracts of functions and lemmas, used by the proofs of the given statements. No condition beyond those that each lemma names. -/
import Derived.Test.YtmebdlilbnadgaaGreatDoorLinB
import Derived.Test.YtmebdlilbnadgaaGreatDoorJBase
namespace Go.Proofs.YtmebdlilbnadgaaGreatDoor
open Go.RowKit
set_option linter.unusedSimpArgs false
set_option linter.unusedVariables false
/-! ## what is neither a row of fractions nor of rows stays -/
def KT (w w' : World) : Prop := ∀ (k : Nat) (cur : Array Value) (e : TypeId) (fz : Nat × Nat), w.heap[k]? = some (.cells cur e fz) → e ≠ 30 → e ≠ 35 → w'.heap[k]? = w.heap[k]?
theorem KT.trans {w w1 w' : World} (h : KT w w1) (k : KT w1 w') : KT w w' := fun i cur e fz hi h1 h2 =>
  have e1 := h i cur e fz hi h1 h2
  (k i cur e fz (e1.trans hi) h1 h2).trans e1
theorem KT.of_below {w w' : World} (h : Below w.heap.size w w') : KT w w' := fun k cur e fz hk _ _ => h.block k (Array.getElem?_eq_some_iff.1 hk).1
theorem KT.grown {w w' : World} {row : Option Nat} (h : w.grownBy w' row) (hr : ∀ k, row = some k → ∃ cur e fz, w.heap[k]? = some (.cells cur e fz) ∧ (e = 30 ∨ e = 35)) : KT w w' := by
  intro k cur e fz hk h1 h2
  refine h.block k (Array.getElem?_eq_some_iff.1 hk).1 ?_
  intro e1
  obtain ⟨cur', e', fz', h3, h4⟩ := hr k e1.symm
  rw [hk] at h3
  injection h3 with h3
  injection h3 with _ h3 _
  subst h3
  exact h4.elim h1 h2
/-! ## lists of ints of a call's own -/
def ints (l : List Nat) : List Value := l.map fun x : Nat => .int .i64 (x : Int)
theorem ints_append (l m : List Nat) : ints (l ++ m) = ints l ++ ints m := List.map_append
def OwI (w : World) (base : Nat) (A : Option Addr) (c : Nat) (l : List Nat) : Prop := w.ownsRow base 3 1 (.slice A l.length c) l.length (ints l)
theorem intInfo : (Tryz.prog.info? 3).map (fun i => (i.zero, i.size, i.bytes)) = some (some (.int .i64 0), 1, 8) := by kernel_rfl
section
variable {w w1 w' : World} {base base' c b0 o co n i j g : Nat} {A : Option Addr} {l : List Nat} {len : Nat → Nat} {M : Nat → Nat → Rat}
theorem OwI.below (h : OwI w base A c l) (hb : Below w.heap.size w w1) : OwI w1 base A c l := own_below h hb
theorem OwI.base_ (h : OwI w base A c l) (hb : base' ≤ base) : OwI w base' A c l := own_base h hb
theorem OwI.nil_ (w : World) (base : Nat) : OwI w base none 0 [] := own_nil w base _ 1
theorem OwI.block (h : OwI w base A c l) : ∀ k, (Value.slice A l.length c).ownBlock = some k → base ≤ k ∧ ∃ cur, w.heap[k]? = some (.cells cur 3 (0, 0)) := by
  intro k hk
  rcases h.2 with ⟨h, _⟩ | ⟨g', cap, cur, e, hb, hg, _⟩
  · rw [h] at hk; cases hk
  · rw [e] at hk
    injection hk with hk
    subst hk
    exact ⟨hb, cur, hg⟩
theorem OwI.kt (h : OwI w base A c l) (k : KT w w') : OwI w' base A c l := by
  refine ⟨h.1, ?_⟩
  rcases h.2 with h | ⟨g', cap, cur, e, hb, hg, rest⟩
  · exact .inl h
  · exact .inr ⟨g', cap, cur, e, hb, (k g' cur _ _ hg (by decide) (by decide)).trans hg, rest⟩
theorem OwR.kt {R : Nat → Rw} (h : OwR w b0 (some ⟨g, 0, none⟩) c n R) (hg : w.grownBy w' (some g)) : KT w w' := by
  obtain ⟨h1, cur, h2⟩ := h.block
  exact KT.grown hg fun k hk => by injection hk with hk; subst hk; exact ⟨cur, _, _, h2, .inl rfl⟩
/-- out = append(out, x), of ints -/
theorem wpList_appI1 {w : World} {ops : Array Oper} {rest : List Oper} {o : Oper} {a : Act} {Q : Exit → Act → World → Prop} (hgd : o.guard = none) (s x : Operand)
    (ho : o.op = .call { callee := .builtin .append, args := #[s, x], argTypes := #[79, 79] })
    (base : Nat) (A0 : Option Addr) (c0 n0 : Nat) (l : List Nat) (hn0 : l.length = n0) (hs : a.eval s = .slice A0 n0 c0) (hown : OwI w base A0 c0 l)
    (y : Nat) (g : Nat) (hx : a.eval x = .slice (some ⟨g, 0, none⟩) 1 1) (hc0 : w.cell? ⟨g, 0, none⟩ = some (.int .i64 (y : Int)))
    (hlen : n0 ≤ 1099511627776) (hbase : base ≤ w.heap.size)
    (h : ∀ A' c' w', OwI w' base A' c' (l ++ [y]) → Below base w w' → w.grownBy w' (Value.slice A0 l.length c0).ownBlock → wpList Tryz.prog ops Q rest (a.put o.dst (.slice A' (n0 + 1) c')) w') : wpList Tryz.prog ops Q (o :: rest) a w := by
  subst hn0
  have hr : Rds w w.heap.size 1 (some ⟨g, 0, none⟩) 1 (ints [y]) := ⟨rfl, fun _ => ⟨g, 0, rfl, lt_of_cell hc0, fun j u hu => by
    rw [Nat.zero_add]
    match j, hu with
    | 0, hu => simp [ints] at hu; subst hu; exact hc0
    | j + 1, hu => simp [ints] at hu⟩⟩
  refine wpList_app hgd s x 79 ho base 3 _ 1 8 Tryz.underlying79 intInfo rfl (by decide) A0 c0 l.length (ints l) hs hown w.heap.size _ 1 1 (ints [y]) hx hr (by intro u hu; simp [ints] at hu; subst hu; rfl) (by unfold maxLen; omega) (by omega) hbase ?_
  intro A' c' w' h1 h2 h3 h4
  refine h A' c' w' ?_ h2 h3
  unfold OwI
  rw [ints_append, List.length_append]
  exact h1
/-- a row of ints has grown -/
theorem MatG.int (h : MatG w b0 o co n len M) {row : Option Nat} (hg : w.grownBy w' row) (hr : ∀ k, row = some k → b0 ≤ k ∧ ∃ cur, w.heap[k]? = some (.cells cur 3 (0, 0))) : MatG w' b0 o co n len M ∧ Kp b0 w w' := by
  have hk : Kp b0 w w' := by
    cases row with
    | none => exact ⟨hg.os, hg.tape, hg.output, hg.size, fun k hk _ => hg.block k hk (by simp)⟩
    | some g =>
      obtain ⟨h1, cur, h2⟩ := hr g rfl
      exact Kp.grown hg h1 h2 (by decide)
  refine ⟨?_, hk⟩
  obtain ⟨_, cur, hb⟩ := h.block
  obtain ⟨A, c, Ar, cp, e1, e2, hd, h1, h2⟩ := h
  refine ⟨A, c, Ar, cp, e1, e2, hd, World.ownsRow.kept h1 hg (.inr fun e => ?_), fun j hj => (h2 j hj).keepA hg hk ?_⟩
  · obtain ⟨_, cur', h3⟩ := hr o e.symm
    rw [hb] at h3
    injection h3 with h3
    injection h3 with _ h3 _
    exact absurd h3 (by decide)
  · intro a ha e
    obtain ⟨_, cur', h3⟩ := hr _ e
    obtain ⟨_, cur2, h4⟩ := (h2 j hj).blockA ha
    rw [h4] at h3
    injection h3 with h3
    injection h3 with _ h3 _
    exact absurd h3 (by decide)
/-! ## two rows change places -/
def sig (i j a : Nat) : Nat := if a = j then i else if a = i then j else a
theorem upd2_sig {α : Type} (f : Nat → α) (i j : Nat) : upd (upd f i (f j)) j (f i) = fun a => f (sig i j a) := by
  funext a
  unfold upd sig
  by_cases h : a = j
  · simp [h]
  · by_cases h2 : a = i
    · simp only [h, h2, if_true, if_false]
      by_cases h3 : i = j
      · simp [h3]
      · simp [h3]
    · simp [h, h2]
theorem swp_sig (M : Mf) (i j : Nat) : swp M i j = fun a => M (sig i j a) := by
  funext a
  unfold swp sig
  by_cases h : a = i
  · by_cases h2 : a = j
    · subst h; subst h2; simp
    · simp [h, show i ≠ j from h ▸ h2]
  · by_cases h2 : a = j
    · subst h2
      simp [h]
    · simp [h, h2]
theorem sig_lt {n i j a : Nat} (hi : i < n) (hj : j < n) (ha : a < n) : sig i j a < n := by
  unfold sig; split
  · exact hi
  · split
    · exact hj
    · exact ha
theorem sig_inj {i j a b : Nat} (h : sig i j a = sig i j b) : a = b := by
  unfold sig at h
  split at h <;> split at h <;> (try split at h) <;> (try split at h) <;> omega
theorem MatG.swap (h : MatG w b0 o co n (fun _ => c) M) (hi : i < n) (hj : j < n) (hs : b0 ≤ w.heap.size) : ∃ A d B e, w.cell? ⟨o, i, none⟩ = some (.slice A c d) ∧ w.cell? ⟨o, j, none⟩ = some (.slice B c e) ∧
    MatG ((w.setCell ⟨o, i, none⟩ (.slice B c e)).setCell ⟨o, j, none⟩ (.slice A c d)) b0 o co n (fun _ => c) (swp M i j) ∧ Kp b0 w ((w.setCell ⟨o, i, none⟩ (.slice B c e)).setCell ⟨o, j, none⟩ (.slice A c d)) ∧
    KT w ((w.setCell ⟨o, i, none⟩ (.slice B c e)).setCell ⟨o, j, none⟩ (.slice A c d)) ∧ Below b0 w ((w.setCell ⟨o, i, none⟩ (.slice B c e)).setCell ⟨o, j, none⟩ (.slice A c d)) := by
  have hG := h
  obtain ⟨hbo, curo, hho⟩ := h.block
  obtain ⟨A9, c9, Ar, cp, _, _, hd, h1, h2⟩ := h
  obtain ⟨s1, g1⟩ := World.ownsRow.stored h1 i (.slice (Ar j) c (cp j))
  rw [rowsC_set] at s1
  obtain ⟨s2, g2⟩ := World.ownsRow.stored s1 j (.slice (Ar i) c (cp i))
  have hcc : ∀ k, upd (fun _ : Nat => c) k c = fun _ => c := fun k => by funext a; unfold upd; split <;> rfl
  rw [rowsC_set, upd2_sig, upd2_sig cp, hcc, hcc] at s2
  have hg := grown_trans g1 g2
  have hk : Kp b0 w ((w.setCell ⟨o, i, none⟩ (.slice (Ar j) c (cp j))).setCell ⟨o, j, none⟩ (.slice (Ar i) c (cp i))) := Kp.grown hg hbo hho (by decide)
  refine ⟨Ar i, cp i, Ar j, cp j, by rw [World.ownsRow.cellAt h1 i (by omega), rowsC_get hi], by rw [World.ownsRow.cellAt h1 j (by omega), rowsC_get hj], ?_, hk, KT.grown hg fun k hk => ?_, below_of_row hg (fun k hk => ?_) hs⟩
  · rw [swp_sig]
    refine ⟨_, _, fun a => Ar (sig i j a), fun a => cp (sig i j a), rfl, rfl, ?_, s2, fun a ha => ?_⟩
    · intro a b ha hb hab x y hx hy
      exact hd _ _ (sig_lt hi hj ha) (sig_lt hi hj hb) (fun e => hab (sig_inj e)) x y hx hy
    · refine (h2 _ (sig_lt hi hj ha)).keepA hg hk ?_
      intro x hx e
      injection e with e
      have : MatX w b0 o co n (sig i j a) (Ar (sig i j a)) (cp (sig i j a)) (fun _ => c) M := ⟨Ar, cp, rfl, rfl, hd, h1, h2⟩
      exact this.ne (sig_lt hi hj ha) hx e.symm
  · injection hk with hk; subst hk; exact ⟨curo, _, _, hho, .inr rfl⟩
  · injection hk with hk; omega
theorem MatX.head (h : MatX w b0 o co n i A c len M) (hi : i < n) (hl : 0 < len i) : ∃ g, A = some ⟨g, 0, none⟩ := (h.own hi).form hl
end
end Go.Proofs.YtmebdlilbnadgaaGreatDoor
