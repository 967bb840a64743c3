/- Contracts of functions and lemmas, used by the proofs of the given statements. No condition beyond those that each lemma names. -/
import Derived.Test.YtmebdlilbnadgaaGreatDoorJLinY
namespace Go.Proofs.YtmebdlilbnadgaaGreatDoor
open Go.RowKit
set_option linter.unusedSimpArgs false
set_option linter.unusedVariables false
set_option maxRecDepth 20000
/-! ## rows of rows of the call's own: of ints, of bools -/
theorem sliceInfoI : (Tryz.prog.info? 79).map (fun i => (i.zero, i.size, i.bytes)) = some (some (.slice none 0 0), 1, 24) := by kernel_rfl
theorem sliceInfoB : (Tryz.prog.info? 23).map (fun i => (i.zero, i.size, i.bytes)) = some (some (.slice none 0 0), 1, 24) := by kernel_rfl
section
variable {tO tI : TypeId} {w w' w1 : World} {b0 b1 c n i g g' c' : Nat} {A : Option Addr} {xs : Nat → List Value} {Ar : Nat → Option Addr} {cp : Nat → Nat}
def RwX (tO tI : TypeId) (w : World) (b0 : Nat) (A : Option Addr) (c n : Nat) (Ar : Nat → Option Addr) (cp : Nat → Nat) (xs : Nat → List Value) : Prop :=
  w.ownsRow b0 tO 1 (.slice A n c) n (rowsC n Ar (fun i => (xs i).length) cp) ∧ ∀ i, i < n → w.ownsRow b0 tI 1 (.slice (Ar i) (xs i).length (cp i)) (xs i).length (xs i)
/-- rows that have been appended, none is written any more -/
def RwO (tO tI : TypeId) (w : World) (b0 : Nat) (A : Option Addr) (c n : Nat) (xs : Nat → List Value) : Prop := ∃ Ar cp, RwX tO tI w b0 A c n Ar cp xs
/-- rows that grow, each in its own block -/
def RwG (tO tI : TypeId) (w : World) (b0 : Nat) (o c n : Nat) (xs : Nat → List Value) : Prop := ∃ Ar cp, Dist n Ar ∧ RwX tO tI w b0 (some ⟨o, 0, none⟩) c n Ar cp xs
theorem RwG.rwo (h : RwG tO tI w b0 g c n xs) : RwO tO tI w b0 (some ⟨g, 0, none⟩) c n xs := by
  obtain ⟨Ar, cp, _, h⟩ := h
  exact ⟨Ar, cp, h⟩
theorem RwO.nil_ (w : World) (b0 : Nat) (xs : Nat → List Value) : RwO tO tI w b0 none 0 0 xs := ⟨fun _ => none, fun _ => 0, own_nil w b0 _ 1, fun _ h => by omega⟩
theorem RwX.below (h : RwX tO tI w b0 A c n Ar cp xs) (hb : Below w.heap.size w w') : RwX tO tI w' b0 A c n Ar cp xs := ⟨own_below h.1 hb, fun i hi => own_below (h.2 i hi) hb⟩
theorem RwO.below (h : RwO tO tI w b0 A c n xs) (hb : Below w.heap.size w w') : RwO tO tI w' b0 A c n xs := by
  obtain ⟨Ar, cp, h⟩ := h
  exact ⟨Ar, cp, h.below hb⟩
theorem RwG.below (h : RwG tO tI w b0 g c n xs) (hb : Below w.heap.size w w') : RwG tO tI w' b0 g c n xs := by
  obtain ⟨Ar, cp, hd, h⟩ := h
  exact ⟨Ar, cp, hd, h.below hb⟩
theorem RwO.base (h : RwO tO tI w b1 A c n xs) (hb : b0 ≤ b1) : RwO tO tI w b0 A c n xs := by
  obtain ⟨Ar, cp, h⟩ := h
  exact ⟨Ar, cp, own_base h.1 hb, fun i hi => own_base (h.2 i hi) hb⟩
theorem RwG.congr {ys : Nat → List Value} (h : RwG tO tI w b0 g c n xs) (e : ∀ i, i < n → xs i = ys i) : RwG tO tI w b0 g c n ys := by
  obtain ⟨Ar, cp, hd, h1, h2⟩ := h
  refine ⟨Ar, cp, hd, ?_, fun i hi => (e i hi) ▸ h2 i hi⟩
  have : rowsC n Ar (fun i => (xs i).length) cp = rowsC n Ar (fun i => (ys i).length) cp := by
    unfold rowsC
    exact List.map_congr_left fun i hi => by simp only [e i (List.mem_range.1 hi)]
  rw [← this]; exact h1
/-- the head of row i -/
theorem RwO.head (h : RwO tO tI w b0 A c n xs) (hi : i < n) : ∃ g Ai ci, A = some ⟨g, 0, none⟩ ∧ g < w.heap.size ∧ b0 ≤ g ∧ w.cell? ⟨g, i, none⟩ = some (.slice Ai (xs i).length ci) ∧ w.ownsRow b0 tI 1 (.slice Ai (xs i).length ci) (xs i).length (xs i) := by
  obtain ⟨Ar, cp, h1, h2⟩ := h
  have hl := World.ownsRow.lt h1
  rcases h1.2 with ⟨h, h0⟩ | ⟨g', cap, cur, e, hb, hg, _⟩
  · omega
  · injection e with e _ e3
    subst e
    exact ⟨g', Ar i, cp i, rfl, (hl g' rfl).2, hb, by rw [World.ownsRow.cellAt h1 i (by omega), rowsC_get hi], h2 i hi⟩
theorem own_blockT {v : Value} {ty : TypeId} {l : List Value} {m s : Nat} (h : w.ownsRow b0 ty s v m l) : ∀ k, v.ownBlock = some k → b0 ≤ k ∧ ∃ cur, w.heap[k]? = some (.cells cur ty (0, 0)) := by
  intro k hk
  rcases h.2 with ⟨h, _⟩ | ⟨g', cap, cur, e, hb, hg, _⟩
  · rw [h] at hk; cases hk
  · rw [e] at hk
    injection hk with hk
    subst hk
    exact ⟨hb, cur, hg⟩
/-- rows of another kind -/
theorem own_kept_ty {v u : Value} {ty tz : TypeId} {l : List Value} {m s : Nat} (h : w.ownsRow b0 ty s v m l) (hg : w.grownBy w' u.ownBlock) (hu : ∀ k, u.ownBlock = some k → ∃ cur fz, w.heap[k]? = some (.cells cur tz fz)) (hne : ty ≠ tz) : w'.ownsRow b0 ty s v m l := by
  refine World.ownsRow.kept h hg ?_
  cases e : v.ownBlock with
  | none => exact .inl rfl
  | some k =>
    refine .inr fun e2 => ?_
    obtain ⟨_, cur, h1⟩ := own_blockT h k e
    obtain ⟨cur', fz, h2⟩ := hu k e2.symm
    rw [h1] at h2
    injection h2 with h2
    injection h2 with _ h2 _
    exact hne h2
/-- the block of row i is written or grown; its head is stored -/
theorem RwG.put (hne : tI ≠ tO) (h : RwG tO tI w b0 g c n xs) (hi : i < n) {Ai : Option Addr} {li ci : Nat} (hc : w.cell? ⟨g, i, none⟩ = some (.slice Ai li ci)) {ys : List Value} (hg : w.grownBy w1 (Value.slice Ai li ci).ownBlock) (hnew : w1.ownsRow b0 tI 1 (.slice (some ⟨g', 0, none⟩) ys.length c') ys.length ys) (hfr : (Value.slice Ai li ci).ownBlock = some g' ∨ w.heap.size ≤ g') (hs : b0 ≤ w.heap.size) :
    RwG tO tI (w1.setCell ⟨g, i, none⟩ (.slice (some ⟨g', 0, none⟩) ys.length c')) b0 g c n (upd xs i ys) ∧ Below b0 w (w1.setCell ⟨g, i, none⟩ (.slice (some ⟨g', 0, none⟩) ys.length c')) ∧ w1.frozen? ⟨g, i, none⟩ = false := by
  obtain ⟨Ar, cp, hd, h1, h2⟩ := h
  have e0 : w.cell? ⟨g, i, none⟩ = some (.slice (Ar i) (xs i).length (cp i)) := by rw [World.ownsRow.cellAt h1 i (by omega), rowsC_get hi]
  rw [hc] at e0
  injection e0 with e0
  injection e0 with e1 e2 e3
  subst e1 e2 e3
  obtain ⟨hgb, curg, hgh⟩ := own_blockT h1 g rfl
  have hgl := (World.ownsRow.lt h1 g rfl).2
  have hno : ∀ j, j < n → ∀ k, (Value.slice (Ar j) (xs j).length (cp j)).ownBlock = some k → k ≠ g := by
    intro j hj k hk e
    obtain ⟨_, cur, h3⟩ := own_blockT (h2 j hj) k hk
    rw [e, hgh] at h3
    injection h3 with h3
    injection h3 with _ h3 _
    exact hne h3.symm
  have hout := World.ownsRow.kept h1 hg (.inr fun e => hno i hi g e.symm rfl)
  have hfz := World.ownsRow.frozenAt hout i
  obtain ⟨hst, hgs⟩ := World.ownsRow.stored hout i (.slice (some ⟨g', 0, none⟩) ys.length c')
  rw [rowsC_set] at hst
  have hgo : g' ≠ g := by
    rcases hfr with hfr | hfr
    · exact hno i hi g' hfr
    · omega
  have hrow : ∀ k, (Value.slice (Ar i) (xs i).length (cp i)).ownBlock = some k → b0 ≤ k := fun k hk => (World.ownsRow.lt (h2 i hi) k hk).1
  have hb1 : Below b0 w w1 := below_of_row hg hrow hs
  refine ⟨⟨upd Ar i (some ⟨g', 0, none⟩), upd cp i c', ?_, ?_, ?_⟩, hb1.trans (below_of_row hgs (fun k hk => by injection hk with hk; omega) (Nat.le_trans hs hb1.size)), hfz⟩
  · intro j j' hj hj' hjj a a' ha ha'
    have key : ∀ j', j' < n → j' ≠ i → ∀ a', Ar j' = some a' → a'.block ≠ g' := by
      intro j' hj' hne' a' ha' e
      rcases hfr with hfr | hfr
      · cases e2 : Ar i with
        | none => rw [e2] at hfr; cases hfr
        | some b =>
          rw [e2] at hfr
          injection hfr with hfr
          exact hd j' i hj' hi hne' a' b ha' e2 (by rw [e, ← hfr])
      · have := (World.ownsRow.lt (h2 j' hj') a'.block (by rw [ha']; rfl)).2
        omega
    by_cases e : j = i
    · subst e
      rw [upd_same] at ha
      rw [upd_ne _ _ (Ne.symm hjj)] at ha'
      injection ha with ha
      subst ha
      exact fun e => key j' hj' (Ne.symm hjj) a' ha' e.symm
    · rw [upd_ne _ _ e] at ha
      by_cases e' : j' = i
      · subst e'
        rw [upd_same] at ha'
        injection ha' with ha'
        subst ha'
        exact key j hj e a ha
      · rw [upd_ne _ _ e'] at ha'
        exact hd j j' hj hj' hjj a a' ha ha'
  · have : (fun j => (upd xs i ys j).length) = upd (fun j => (xs j).length) i ys.length := by
      funext j
      unfold upd
      split <;> rfl
    rw [this]
    exact hst
  · intro j hj
    by_cases e : j = i
    · subst e
      rw [upd_same, upd_same, upd_same]
      exact World.ownsRow.kept hnew hgs (.inr fun e => by injection e with e; exact hgo e)
    · rw [upd_ne _ _ e, upd_ne _ _ e, upd_ne _ _ e]
      have h3 := World.ownsRow.kept (h2 j hj) hg (by
        cases e2 : Ar j with
        | none => exact .inl rfl
        | some a =>
          refine .inr fun e3 => ?_
          cases e4 : Ar i with
          | none => rw [e4] at e3; cases e3
          | some b =>
            rw [e4] at e3
            injection e3 with e3
            exact hd j i hj hi e a b e2 e4 e3)
      refine World.ownsRow.kept h3 hgs ?_
      cases e2 : (Value.slice (Ar j) (xs j).length (cp j)).ownBlock with
      | none => exact .inl rfl
      | some k => exact .inr fun e3 => hno j hj k e2 (by injection e3)
/-- out = append(out, row) -/
theorem wpList_appRw (tS : TypeId) (hne : tI ≠ tO) (hund : Tryz.prog.underlying tS = some (.slice tO)) (hinf : (Tryz.prog.info? tO).map (fun i => (i.zero, i.size, i.bytes)) = some (some (.slice none 0 0), 1, 24)) {ops : Array Oper} {rest : List Oper} {o : Oper} {a : Act} {Q : Exit → Act → World → Prop} (hgd : o.guard = none) (s x : Operand)
    (ho : o.op = .call { callee := .builtin .append, args := #[s, x], argTypes := #[tS, tS] })
    (hs : a.eval s = .slice A n c) (hown : RwO tO tI w b0 A c n xs)
    (B : Nat) (hx : a.eval x = .slice (some ⟨B, 0, none⟩) 1 1) (A1 : Option Addr) (m1 c1 : Nat) (hc0 : w.cell? ⟨B, 0, none⟩ = some (.slice A1 m1 c1)) (hm : m1 = (xs n).length) (hr : w.ownsRow b0 tI 1 (.slice A1 m1 c1) m1 (xs n))
    (hn : n ≤ 1000000) (hbase : b0 ≤ w.heap.size)
    (h : ∀ A' c' w', RwO tO tI w' b0 A' c' (n + 1) xs → Below b0 w w' → (∀ (v : Value) (ty : TypeId) (m s : Nat) (l : List Value), ty ≠ tO → w.ownsRow b0 ty s v m l → w'.ownsRow b0 ty s v m l) → w.heap.size ≤ w'.heap.size → wpList Tryz.prog ops Q rest (a.put o.dst (.slice A' (n + 1) c')) w') : wpList Tryz.prog ops Q (o :: rest) a w := by
  subst hm
  obtain ⟨Ar, cp, h1, h2⟩ := hown
  have hrd : Rds w w.heap.size 1 (some ⟨B, 0, none⟩) 1 [.slice A1 (xs n).length c1] := ⟨rfl, fun _ => ⟨B, 0, rfl, lt_of_cell hc0, fun j u hu => by
    rw [Nat.zero_add]
    match j, hu with
    | 0, hu => simp at hu; subst hu; exact hc0
    | j + 1, hu => simp at hu⟩⟩
  refine wpList_app hgd s x tS ho b0 tO _ 1 24 hund hinf rfl (by decide) A c n _ hs h1 w.heap.size _ 1 1 _ hx hrd (by intro u hu; simp at hu; subst hu; rfl) (by unfold maxLen; omega) (by omega) hbase ?_
  intro A' c' w' g1 g2 g3 g4
  have hkeep : ∀ (v : Value) (ty : TypeId) (m s : Nat) (l : List Value), ty ≠ tO → w.ownsRow b0 ty s v m l → w'.ownsRow b0 ty s v m l := fun v ty m s l ht h0 =>
    own_kept_ty h0 g3 (fun k hk => by
      obtain ⟨_, cur, e⟩ := own_blockT h1 k hk
      exact ⟨cur, _, e⟩) ht
  refine h A' c' w' ⟨upd Ar n A1, upd cp n c1, ?_, fun j hj => ?_⟩ g2 hkeep g2.size
  · have e : rowsC (n + 1) (upd Ar n A1) (fun i => (xs i).length) (upd cp n c1) = rowsC n Ar (fun i => (xs i).length) cp ++ [.slice A1 (xs n).length c1] := by
      unfold rowsC
      rw [List.range_succ, List.map_append]
      congr 1
      · exact List.map_congr_left fun i hi => by rw [upd_ne _ _ (by have := List.mem_range.1 hi; omega), upd_ne _ _ (by have := List.mem_range.1 hi; omega)]
      · simp [upd_same]
    rw [e]
    exact g1
  · by_cases e : j = n
    · subst e; rw [upd_same, upd_same]; exact hkeep _ _ _ _ _ hne hr
    · rw [upd_ne _ _ e, upd_ne _ _ e]; exact hkeep _ _ _ _ _ hne (h2 j (by omega))
/-- a shorter slice of a row -/
theorem own_take {ty : TypeId} {l : List Value} {m k : Nat} (h : w.ownsRow b0 ty 1 (.slice (some ⟨g, 0, none⟩) m c) m l) (hk : k ≤ m) : w.ownsRow b0 ty 1 (.slice (some ⟨g, 0, none⟩) k c) k (l.take k) := by
  have hl := h.1
  refine ⟨by rw [List.length_take]; omega, ?_⟩
  rcases h.2 with ⟨h, _⟩ | ⟨g', cap, cur, e, hb, hg, h1, h2, h3, h4⟩
  · cases h
  · injection e with e _ e3
    injection e with e
    injection e with e
    subst e e3
    refine .inr ⟨g, c, cur, rfl, hb, hg, by omega, h2, h3, ?_⟩
    rw [← h4, List.take_take, Nat.min_eq_left (by omega), Nat.mul_one]
end
theorem bls_length (n : Nat) (f : Nat → Bool) : (bls n f).length = n := by simp [bls]
theorem ints_length (l : List Nat) : (ints l).length = l.length := by simp [ints]
section
variable {w w' : World} {b0 c n i g : Nat} {A : Option Addr} {f : Nat → Nat → Bool} {L : Nat → List Nat}
/-- rows of bools, rows of ints -/
def RwB (w : World) (b0 : Nat) (A : Option Addr) (c n m : Nat) (f : Nat → Nat → Bool) : Prop := RwO 23 4 w b0 A c n (fun i => bls m (f i))
def RwL (w : World) (b0 : Nat) (A : Option Addr) (c n : Nat) (L : Nat → List Nat) : Prop := RwO 79 3 w b0 A c n (fun i => ints (L i))
def RwN (w : World) (b0 g c n : Nat) (L : Nat → List Nat) : Prop := RwG 79 3 w b0 g c n (fun i => ints (L i))
theorem RwB.at_ {m : Nat} (h : RwB w b0 A c n m f) (hi : i < n) : ∃ g Ai ci, A = some ⟨g, 0, none⟩ ∧ g < w.heap.size ∧ b0 ≤ g ∧ w.cell? ⟨g, i, none⟩ = some (.slice Ai m ci) ∧ OwB w b0 Ai ci m (f i) := by
  obtain ⟨g, Ai, ci, h1, h2, h3, h4, h5⟩ := RwO.head h hi
  rw [bls_length] at h4 h5
  exact ⟨g, Ai, ci, h1, h2, h3, h4, h5⟩
theorem RwL.at_ (h : RwL w b0 A c n L) (hi : i < n) : ∃ g Ai ci, A = some ⟨g, 0, none⟩ ∧ g < w.heap.size ∧ b0 ≤ g ∧ w.cell? ⟨g, i, none⟩ = some (.slice Ai (L i).length ci) ∧ OwI w b0 Ai ci (L i) := by
  obtain ⟨g, Ai, ci, h1, h2, h3, h4, h5⟩ := RwO.head h hi
  rw [ints_length] at h4 h5
  exact ⟨g, Ai, ci, h1, h2, h3, h4, h5⟩
theorem RwN.rwl (h : RwN w b0 g c n L) : RwL w b0 (some ⟨g, 0, none⟩) c n L := RwG.rwo h
theorem RwN.below (h : RwN w b0 g c n L) (hb : Below w.heap.size w w') : RwN w' b0 g c n L := RwG.below h hb
theorem RwL.below (h : RwL w b0 A c n L) (hb : Below w.heap.size w w') : RwL w' b0 A c n L := RwO.below h hb
theorem RwB.below {m : Nat} (h : RwB w b0 A c n m f) (hb : Below w.heap.size w w') : RwB w' b0 A c n m f := RwO.below h hb
theorem RwN.frozen (h : RwN w b0 g c n L) (k : Nat) : w.frozen? ⟨g, k, none⟩ = false := by
  obtain ⟨Ar, cp, _, h, _⟩ := h
  exact World.ownsRow.frozenAt h k
theorem RwN.lt (h : RwN w b0 g c n L) : b0 ≤ g ∧ g < w.heap.size := by
  obtain ⟨Ar, cp, _, h, _⟩ := h
  exact World.ownsRow.lt h g rfl
theorem RwN.ne (h : RwN w b0 g c n L) {Ai : Option Addr} {li ci q : Nat} (ho : w.ownsRow b0 3 1 (.slice Ai li ci) li (ints (L i))) (hq : (Value.slice Ai li ci).ownBlock = some q) : q ≠ g := by
  obtain ⟨Ar, cp, _, h, _⟩ := h
  obtain ⟨_, cur, h1⟩ := own_blockT h g rfl
  obtain ⟨_, cur2, h2⟩ := own_blockT ho q hq
  intro e
  rw [e, h1] at h2
  injection h2 with h2
  injection h2 with _ h2 _
  exact absurd h2 (by decide)
/-- row i has grown by y, its head is stored -/
theorem RwN.put {w1 : World} {y g' c' ci li : Nat} {Ai : Option Addr} (h : RwN w b0 g c n L) (hi : i < n) (hc : w.cell? ⟨g, i, none⟩ = some (.slice Ai li ci)) (hg : w.grownBy w1 (Value.slice Ai li ci).ownBlock) (hl : li = (L i).length) (hnew : w1.ownsRow b0 3 1 (.slice (some ⟨g', 0, none⟩) (li + 1) c') (li + 1) (ints (L i ++ [y]))) (hfr : (Value.slice Ai li ci).ownBlock = some g' ∨ w.heap.size ≤ g') (hs : b0 ≤ w.heap.size) :
    RwN (w1.setCell ⟨g, i, none⟩ (.slice (some ⟨g', 0, none⟩) (li + 1) c')) b0 g c n (upd L i (L i ++ [y])) ∧ Below b0 w (w1.setCell ⟨g, i, none⟩ (.slice (some ⟨g', 0, none⟩) (li + 1) c')) := by
  have e : li + 1 = (ints (L i ++ [y])).length := by rw [ints_length, List.length_append, hl]; rfl
  rw [e] at hnew ⊢
  obtain ⟨h1, h2, _⟩ := RwG.put (by decide) h hi hc hg hnew hfr hs
  refine ⟨RwG.congr h1 fun j hj => ?_, h2⟩
  unfold upd
  split <;> rfl
/-- next := make([][]int, n) -/
theorem wpList_makeN {ops : Array Oper} {rest : List Oper} {o : Oper} {a : Act} {Q : Exit → Act → World → Prop}
    (hg : o.guard = none) (l c : Operand) (hop : o.op = Op.makeSlice 47 l c)
    (b0 n : Nat) (x : Int) (hl : a.eval l = .int .i64 x) (hc : a.eval c = .int .i64 x) (hL : x = (n : Int)) (hn : n ≤ 1000000) (hb : b0 ≤ w.heap.size)
    (h : ∀ w', RwN w' b0 w.heap.size n n (fun _ => []) → Below w.heap.size w w' → wpList Tryz.prog ops Q rest (a.put o.dst (.slice (some ⟨w.heap.size, 0, none⟩) n n)) w') : wpList Tryz.prog ops Q (o :: rest) a w := by
  obtain ⟨i, hi, hz, hs, hby⟩ := info_parts sliceInfoI
  refine wpList_make_full w hg l c 47 hop b0 79 i (.slice none 0 0) 1 Tryz.underlying47 hi hz hs .i64 .i64 x x n hl hc hL hL (by rw [hby]; omega) (by unfold maxLen; omega) hb ?_
  intro w' h1 h2
  have e : (madeCells (Value.cells (.slice none 0 0)) (n * 1)).toList = rowsC n (fun _ => none) (fun _ => 0) (fun _ => 0) := by
    rw [Nat.mul_one]
    show (madeCells #[Value.slice none 0 0] n).toList = _
    rw [toList_madeCells_one]
    apply List.ext_getElem (by simp [rowsC])
    intro j h1 h2
    simp [rowsC]
  rw [e] at h1
  exact h w' ⟨fun _ => none, fun _ => 0, fun j j' _ _ _ a a' ha => by simp at ha, h1, fun i _ => own_nil w' b0 _ 1⟩ ((Below.refl _ _).grown h2 (Nat.le_refl _) (by intro k hk; cases hk))
/-- row = append(row, x), at a step of a region that draws -/
theorem step_appI {ops : Array Oper} {o : Oper} {a : Act} {K : Act → World → Prop} {Q : Exit → Act → World → Prop} {E : Prop} (hgd : o.guard = none) (s x : Operand)
    (ho : o.op = .call { callee := .builtin .append, args := #[s, x], argTypes := #[79, 79] })
    (b0 : Nat) (A : Option Addr) (c n : Nat) (l : List Nat) (hs : a.eval s = .slice A n c) (hown : w.ownsRow b0 3 1 (.slice A n c) n (ints l))
    (B y : Nat) (hx : a.eval x = .slice (some ⟨B, 0, none⟩) 1 1) (hc0 : w.cell? ⟨B, 0, none⟩ = some (.int .i64 (y : Int)))
    (hn : n ≤ 1000000) (hbase : b0 ≤ w.heap.size)
    (h : ∀ g cap w', w'.ownsRow b0 3 1 (.slice (some ⟨g, 0, none⟩) (n + 1) cap) (n + 1) (ints (l ++ [y])) → w.grownBy w' (Value.slice A n c).ownBlock → ((Value.slice A n c).ownBlock = some g ∨ w.heap.size ≤ g) → g < w'.heap.size → K (a.put o.dst (.slice (some ⟨g, 0, none⟩) (n + 1) cap)) w') :
    if Region.wanted o (yielded ops a.tmps) = true then Oper.wp Tryz.prog o a w K Q else E := by
  obtain ⟨i0, hi0, hz0, hz1, hz2⟩ := info_parts intInfo
  refine step_append_lies _ hgd s x 79 ho b0 3 i0 _ 1 8 Tryz.underlying79 hi0 hz0 hz1 hz2 rfl (by omega) _ n _ hs hown ⟨B, 0, none⟩ 1 1 (ints [y]) hx rfl ?_ ?_ (by omega) (by unfold maxLen; omega) (by omega) hbase w.heap.size rfl ?_
  · intro j u hu
    rw [addr_add, Nat.zero_add]
    match j, hu with
    | 0, hu => simp [ints] at hu; subst hu; exact hc0
    | j + 1, hu => simp [ints] at hu
  · intro u hu
    simp [ints] at hu
    subst hu; rfl
  · intro g cap w' h1 h2 h3 h4
    refine h g cap w' ?_ h2 (h3.imp id fun e => by omega) h4
    rw [ints_append]
    exact h1
theorem OwI.take {base k : Nat} {l : List Nat} (h : OwI w base (some ⟨g, 0, none⟩) c l) (hk : k ≤ l.length) : OwI w base (some ⟨g, 0, none⟩) c (l.take k) := by
  have := own_take h hk
  unfold OwI
  rw [List.length_take, Nat.min_eq_left hk]
  unfold ints at this ⊢
  rw [← List.map_take] at this
  exact this
end
section
variable {w : World} {b0 c n : Nat} {A : Option Addr}
/-- out = append(out, row): rows of ints, rows of bools -/
theorem wpList_appL {ops : Array Oper} {rest : List Oper} {o : Oper} {a : Act} {Q : Exit → Act → World → Prop} (hgd : o.guard = none) (s x : Operand)
    (ho : o.op = .call { callee := .builtin .append, args := #[s, x], argTypes := #[47, 47] })
    (L : Nat → List Nat) (hs : a.eval s = .slice A n c) (hown : RwL w b0 A c n L)
    (B : Nat) (hx : a.eval x = .slice (some ⟨B, 0, none⟩) 1 1) (A1 : Option Addr) (m1 c1 : Nat) (hc0 : w.cell? ⟨B, 0, none⟩ = some (.slice A1 m1 c1)) (hm : m1 = (L n).length) (hr : OwI w b0 A1 c1 (L n))
    (hn : n ≤ 1000000) (hbase : b0 ≤ w.heap.size)
    (h : ∀ A' c' w', RwL w' b0 A' c' (n + 1) L → Below b0 w w' → w.heap.size ≤ w'.heap.size → wpList Tryz.prog ops Q rest (a.put o.dst (.slice A' (n + 1) c')) w') : wpList Tryz.prog ops Q (o :: rest) a w := by
  subst hm
  exact wpList_appRw (xs := fun i => ints (L i)) 47 (by decide) Tryz.underlying47 sliceInfoI hgd s x ho hs hown B hx A1 _ c1 hc0 (by rw [ints_length]) (by unfold OwI at hr; exact hr) hn hbase fun A' c' w' h1 h2 _ h3 => h A' c' w' h1 h2 h3
theorem wpList_appB {ops : Array Oper} {rest : List Oper} {o : Oper} {a : Act} {Q : Exit → Act → World → Prop} (hgd : o.guard = none) (s x : Operand)
    (ho : o.op = .call { callee := .builtin .append, args := #[s, x], argTypes := #[113, 113] })
    (m : Nat) (f : Nat → Nat → Bool) (hs : a.eval s = .slice A n c) (hown : RwB w b0 A c n m f)
    (B : Nat) (hx : a.eval x = .slice (some ⟨B, 0, none⟩) 1 1) (A1 : Option Addr) (c1 : Nat) (hc0 : w.cell? ⟨B, 0, none⟩ = some (.slice A1 m c1)) (hr : OwB w b0 A1 c1 m (f n))
    (hn : n ≤ 1000000) (hbase : b0 ≤ w.heap.size)
    (h : ∀ A' c' w', RwB w' b0 A' c' (n + 1) m f → Below b0 w w' → w.heap.size ≤ w'.heap.size → wpList Tryz.prog ops Q rest (a.put o.dst (.slice A' (n + 1) c')) w') : wpList Tryz.prog ops Q (o :: rest) a w :=
  wpList_appRw (xs := fun i => bls m (f i)) 113 (by decide) Tryz.underlying113 sliceInfoB hgd s x ho hs hown B hx A1 m c1 hc0 (by rw [bls_length]) (by unfold OwB at hr; exact hr) hn hbase fun A' c' w' h1 h2 _ h3 => h A' c' w' h1 h2 h3
end
def lenV : Value → Nat
  | .slice _ n _ => n
  | _ => 0
end Go.Proofs.YtmebdlilbnadgaaGreatDoor
