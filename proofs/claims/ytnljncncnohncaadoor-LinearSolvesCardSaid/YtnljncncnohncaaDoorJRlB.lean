/- Contracts of functions and lemmas, used by the proofs of the given statements. No condition beyond those that each lemma names. -/
import Derived.Test.YtnljncncnohncaaDoorRlA
import Derived.Test.YtnljncncnohncaaDoorJLinP
namespace Go.Proofs.YtnljncncnohncaaDoor
open Go.RowKit
set_option linter.unusedSimpArgs false
set_option linter.unusedVariables false
set_option maxRecDepth 20000
/-! ## a matrix that grows by rows of its own, no two of them in one block -/
def MatP (w : World) (b : Nat) (A : Option Addr) (c n : Nat) (len : Nat → Nat) (M : Nat → Nat → Rat) : Prop :=
  ∃ Ar cp, Dist n Ar ∧ w.ownsRow b 23 1 (.slice A n c) n (rowsC n Ar len cp) ∧ ∀ j, j < n → OwR w b (Ar j) (cp j) (len j) (can (M j))
theorem MatP.nil_ (w : World) (b : Nat) (len : Nat → Nat) (M : Nat → Nat → Rat) : MatP w b none 0 0 len M := ⟨fun _ => none, fun _ => 0, (show Dist 0 (fun _ => none) from fun _ _ _ _ _ _ _ ha _ => nomatch ha), own_nil w b _ 1, fun j h => by omega⟩
theorem MatP.below {w w' : World} {b c n : Nat} {A : Option Addr} {len : Nat → Nat} {M : Nat → Nat → Rat} (h : MatP w b A c n len M) (hb : Below w.heap.size w w') : MatP w' b A c n len M := by
  obtain ⟨Ar, cp, h0, h1, h2⟩ := h
  exact ⟨Ar, cp, h0, own_below h1 hb, fun j hj => (h2 j hj).below hb⟩
theorem MatP.mg {w : World} {b c n : Nat} {A : Option Addr} {len : Nat → Nat} {M : Nat → Nat → Rat} (h : MatP w b A c n len M) (hn : 0 < n) : ∃ o, A = some ⟨o, 0, none⟩ ∧ MatG w b o c n len M := by
  obtain ⟨Ar, cp, h0, h1, h2⟩ := h
  rcases h1.2 with ⟨_, h⟩ | ⟨g', cap, cur, e, hb, hg, _⟩
  · omega
  · injection e with e1 e2 e3
    subst e1
    exact ⟨g', rfl, _, _, Ar, cp, rfl, rfl, h0, h1, h2⟩
theorem wpList_appP {w : World} {ops : Array Oper} {rest : List Oper} {o : Oper} {a : Act} {Q : Exit → Act → World → Prop} (hgd : o.guard = none) (s x : Operand)
    (ho : o.op = .call { callee := .builtin .append, args := #[s, x], argTypes := #[22, 22] })
    (w0 : World) (b : Nat) (A : Option Addr) (c n : Nat) (len : Nat → Nat) (M : Nat → Nat → Rat) (hs : a.eval s = .slice A n c) (hown : MatP w0 b A c n len M) (hb0 : Below w0.heap.size w0 w)
    (B : Nat) (hx : a.eval x = .slice (some ⟨B, 0, none⟩) 1 1) (A1 : Option Addr) (c1 : Nat) (hc0 : w.cell? ⟨B, 0, none⟩ = some (.slice A1 (len n) c1)) (hr : OwR w 0 A1 c1 (len n) (can (M n))) (hfar : ∀ q, (Value.slice A1 (len n) c1).ownBlock = some q → w0.heap.size ≤ q)
    (hn : n ≤ 1000000) (hbase : b ≤ w0.heap.size)
    (h : ∀ A' c' w', MatP w' b A' c' (n + 1) len M → Below b w w' → wpList Tryd.prog ops Q rest (a.put o.dst (.slice A' (n + 1) c')) w') : wpList Tryd.prog ops Q (o :: rest) a w := by
  have hz0 := hb0.size
  have hr := hr.raise (b := b) (fun q hq => Nat.le_trans hbase (hfar q hq))
  obtain ⟨Ar, cp, hd, h1, h2⟩ := hown
  have hlt : ∀ j, j < n → ∀ a, Ar j = some a → a.block < w0.heap.size := fun j hj a ha => by
    obtain ⟨_, cur, h3⟩ := (h2 j hj).blockA ha
    exact (Array.getElem?_eq_some_iff.1 h3).1
  have h1 := own_below h1 hb0
  have h2 := fun j hj => (h2 j hj).below hb0
  have hrd : Rds w w.heap.size 1 (some ⟨B, 0, none⟩) 1 [.slice A1 (len n) c1] := ⟨rfl, fun _ => ⟨B, 0, rfl, lt_of_cell hc0, fun j u hu => by
    rw [Nat.zero_add]
    match j, hu with
    | 0, hu => simp at hu; subst hu; exact hc0
    | j + 1, hu => simp at hu⟩⟩
  have hblk : ∀ k, (Value.slice A n c).ownBlock = some k → ∃ cur, w.heap[k]? = some (.cells cur 23 (0, 0)) := by
    intro k hk
    rcases h1.2 with ⟨h, _⟩ | ⟨g', cap, cur, e, hb, hg, _⟩
    · rw [h] at hk; cases hk
    · rw [e] at hk; injection hk with hk; subst hk; exact ⟨cur, hg⟩
  refine wpList_app hgd s x 22 ho b 23 _ 1 24 Tryd.underlying22 sliceInfo rfl (by decide) A c n _ hs h1 w.heap.size _ 1 1 _ hx hrd (by intro u hu; simp at hu; subst hu; rfl) (by unfold maxLen; omega) (by omega) (Nat.le_trans hbase hz0) ?_
  intro A' c' w' g1 g2 g3 g4
  have hkp : Kp b w w' := by
    cases hrow : (Value.slice A n c).ownBlock with
    | none => rw [hrow] at g3; exact Kp.of_below ⟨g3.os, g3.tape, g3.output, g3.size, fun k hk => g3.block k hk (by simp)⟩
    | some g =>
      rw [hrow] at g3
      obtain ⟨cur, hc⟩ := hblk g hrow
      refine Kp.grown g3 ?_ hc (by decide)
      exact (World.ownsRow.lt h1 g hrow).1
  have hkeep : ∀ {A0 : Option Addr} {c0 k : Nat} {R : Nat → Rw}, OwR w b A0 c0 k R → OwR w' b A0 c0 k R := fun {A0 c0 k R} h0 => h0.keepA g3 hkp fun a0 ha0 e => by
    obtain ⟨_, cur1, e1⟩ := h0.blockA ha0
    obtain ⟨cur2, e2⟩ := hblk _ e
    rw [e1] at e2
    injection e2 with e2
    injection e2 with _ e2
    exact absurd e2 (by decide)
  refine h A' c' w' ⟨upd Ar n A1, upd cp n c1, ?_, ?_, fun j hj => ?_⟩ g2
  · intro j j' hj hj' hjj a a' ha ha'
    by_cases e : j = n
    · subst e
      rw [upd_same] at ha
      rw [upd_ne _ _ (Ne.symm hjj)] at ha'
      have h5 := hlt j' (by omega) a' ha'
      have h6 := hfar a.block (by rw [ha]; rfl)
      omega
    · rw [upd_ne _ _ e] at ha
      by_cases e' : j' = n
      · subst e'
        rw [upd_same] at ha'
        have h5 := hlt j (by omega) a ha
        have h6 := hfar a'.block (by rw [ha']; rfl)
        omega
      · rw [upd_ne _ _ e'] at ha'
        exact hd j j' (by omega) (by omega) hjj a a' ha ha'
  · have e : rowsC (n + 1) (upd Ar n A1) len (upd cp n c1) = rowsC n Ar len cp ++ [.slice A1 (len n) c1] := by
      unfold rowsC
      rw [List.range_succ, List.map_append]
      congr 1
      · exact List.map_congr_left fun i hi => by rw [upd_ne _ _ (by have := List.mem_range.1 hi; omega), upd_ne _ _ (by have := List.mem_range.1 hi; omega)]
      · simp [upd_same]
    rw [e]
    exact g1
  · by_cases e : j = n
    · subst e; rw [upd_same, upd_same]; exact hkeep hr
    · rw [upd_ne _ _ e, upd_ne _ _ e]; exact hkeep (h2 j (by omega))
end Go.Proofs.YtnljncncnohncaaDoor
namespace Go.Proofs.YtnljncncnohncaaDoor
open Go.RowKit
set_option linter.unusedSimpArgs false
set_option linter.unusedVariables false
set_option maxRecDepth 20000
attribute [local irreducible] nv wp win plainB validR valR canR
/-! ## no words lie in some blocks: so the bound below which a fraction's words may lie is lowered -/
def NWB (w : World) (k : Nat) : Prop := ∃ cs t fz, w.heap[k]? = some (.cells cs t fz) ∧ ∀ (j : Nat) u, cs[j]? = some u → ∀ x : Int, u ≠ .int .u32 x
section
variable {w w' : World} {b0 b1 bo co n c g bd : Nat} {A : Option Addr} {v : Value} {r : Rw} {R : Nat → Rw} {len : Nat → Nat} {M : Nat → Nat → Rat}
theorem NWB.below {k : Nat} (h : NWB w k) (hb : Below b0 w w') (hk : k < b0) : NWB w' k := by
  obtain ⟨cs, t, fz, h1, h2⟩ := h
  exact ⟨cs, t, fz, (hb.block k hk).trans h1, h2⟩
theorem NWB.bool {k : Nat} {s : Bool} {A1 B1 : Option Addr} {n1 c1 m1 d1 : Nat} {t : TypeId} {fz : Nat × Nat} (h : w.heap[k]? = some (.cells #[.bool s, .slice A1 n1 c1, .slice B1 m1 d1] t fz)) : NWB w k :=
  ⟨_, _, _, h, fun j u hu x e => by
    subst e
    rcases j with _ | _ | _ | j <;> simp at hu⟩
theorem OwR.nwb (h : OwR w b0 (some ⟨g, 0, none⟩) n n R) : NWB w g := by
  obtain ⟨V, h1, h2⟩ := h
  rcases h2.2 with ⟨h, _⟩ | ⟨g', cap, cur, e, hb, hg, hle, hmax, hsz, htake⟩
  · cases h
  · injection e with e1 e2 e3
    injection e1 with e1
    injection e1 with e1
    subst e1 e3
    refine ⟨cur, _, _, hg, fun j u hu x e => ?_⟩
    subst e
    have h3 : cur.toList = cellsV n V := by rw [← htake, List.take_of_length_le (by rw [Array.length_toList, hsz]; exact Nat.le_refl _)]
    have h4 : (cellsV n V)[j]? = some (.int .u32 x) := by rw [← h3, Array.getElem?_toList]; exact hu
    have h5 := List.mem_of_getElem? h4
    simp only [cellsV, List.mem_flatMap, List.mem_range] at h5
    obtain ⟨k, hk, h5⟩ := h5
    obtain ⟨s, A1, a1, c1, B1, b1, d1, e⟩ := (h1 k hk).isR
    rw [e] at h5
    simp [c3] at h5
theorem RdS.lower (h : RdS w b1 v r) (hb : ∀ k, b0 ≤ k → k < b1 → NWB w k) : RdS w b0 v r := by
  obtain ⟨A, c, B, d, h1, h2, h3, h4, h5, h6, h7, h8⟩ := h
  have key : ∀ (X : Option Addr) (l : List Nat), RdW w w.heap.size X l → BlkIn (WB w b1) X l.length → BlkIn (WB w b0) X l.length := by
    intro X l hr hs hn a ha
    rcases hs hn a ha with h9 | h9
    · rcases Nat.lt_or_ge a.block b0 with h10 | h10
      · exact .inl h10
      · exfalso
        obtain ⟨b', off, e, _, hcell⟩ := hr.addr hn
        rw [e] at ha
        injection ha with ha
        subst ha
        obtain ⟨cs, t, fz, g1, g2⟩ := hb b' h10 h9
        have := hcell 0 hn
        rw [cell_of_row w b' _ _ _ _ g1] at this
        exact g2 _ _ this _ rfl
    · exact .inr h9
  exact ⟨A, c, B, d, h1, h2, h3, h4, h5, h6, key A _ h5 h7, key B _ h6 h8⟩
theorem OwR.lower (h : OwR w b1 A c n R) (h01 : b0 ≤ b1) (hb : ∀ k, b0 ≤ k → k < b1 → NWB w k) : OwR w b0 A c n R := by
  obtain ⟨V, h1, h2⟩ := h
  exact ⟨V, fun k hk => (h1 k hk).lower hb, own_base h2 h01⟩
theorem MatG.lower (h : MatG w b1 bo co n len M) (h01 : b0 ≤ b1) (hb : ∀ k, b0 ≤ k → k < b1 → NWB w k) : MatG w b0 bo co n len M := by
  obtain ⟨A, d, Ar, cp, e1, e2, hd, h1, h2⟩ := h
  exact ⟨A, d, Ar, cp, e1, e2, hd, own_base h1 h01, fun j hj => (h2 j hj).lower h01 hb⟩
/-- rows lie above the bound -/
theorem MatG.nbLow (h : MatG w b0 bo co n len M) (hbd : bd < b0) : NB w bo n bd := by
  intro i hi v hv e
  obtain ⟨A, d, hX⟩ := h.row i
  rw [hX.cell hi] at hv
  injection hv with hv
  subst hv
  have := (own_lt (hX.own hi) _ e).1
  omega
/-- a row is replaced by a new one -/
theorem NB.put {i k' c' g' : Nat} (h : NB w bo n bd) (hi : i < n) {u : Value} (hu : w.cell? ⟨bo, i, none⟩ = some u) (hg : bd ≠ g') : NB (w.setCell ⟨bo, i, none⟩ (.slice (some ⟨g', 0, none⟩) k' c')) bo n bd := by
  intro x hx y hy
  by_cases e : x = i
  · subst e
    rw [World.cell?_setCell_same _ _ _ hu] at hy
    injection hy with hy
    subst hy
    intro e
    injection e with e
    exact hg e.symm
  · rw [World.cell?_setCell_other _ _ _ _ (by intro e2; injection e2 with _ e2 _; exact e e2.symm)] at hy
    exact h x hx _ hy
theorem grown_set1 (w : World) (b j : Nat) (u : Value) : w.grownBy (w.setCell ⟨b, j, none⟩ u) (some b) := ⟨rfl, rfl, rfl, by simp, fun k _ hk => Below.heap_setCell w ⟨b, j, none⟩ u k (fun e => hk (by rw [e]))⟩
end
/-- a row of ints has grown -/
theorem Kp.int {w w' : World} {b0 : Nat} {row : Option Nat} (hg : w.grownBy w' row) (hr : ∀ k, row = some k → b0 ≤ k ∧ ∃ cur, w.heap[k]? = some (.cells cur 3 (0, 0))) : Kp b0 w w' := by
  cases row with
  | none => exact ⟨hg.os, hg.tape, hg.output, hg.size, fun k hk _ => hg.block k hk (by simp)⟩
  | some g =>
    obtain ⟨h1, cur, h2⟩ := hr g rfl
    exact Kp.grown hg h1 h2 (by decide)
theorem OwR.int {w w' : World} {b0 c n : Nat} {A : Option Addr} {R : Nat → Rw} (h : OwR w b0 A c n R) {row : Option Nat} (hg : w.grownBy w' row) (hr : ∀ k, row = some k → b0 ≤ k ∧ ∃ cur, w.heap[k]? = some (.cells cur 3 (0, 0))) : OwR w' b0 A c n R := by
  refine h.keepA hg (Kp.int hg hr) ?_
  intro a ha e
  obtain ⟨_, cur', h3⟩ := hr _ e
  obtain ⟨_, cur2, h4⟩ := h.blockA ha
  rw [h4] at h3
  injection h3 with h3
  injection h3 with _ h3 _
  exact absurd h3 (by decide)
/-- make of a row of fractions: one new block -/
theorem wpList_makeR1 {w : World} {ops : Array Oper} {rest : List Oper} {o : Oper} {a : Act} {Q : Exit → Act → World → Prop}
    (hg : o.guard = none) (l c : Operand) (hop : o.op = Op.makeSlice 23 l c)
    (b0 n : Nat) (L C : Int) (hl : a.eval l = .int .i64 L) (hc : a.eval c = .int .i64 C) (hL : L = (n : Int)) (hC : C = (n : Int)) (hn : n ≤ 1000000) (hb : b0 ≤ w.heap.size)
    (h : ∀ w', OwR w' b0 (some ⟨w.heap.size, 0, none⟩) n n (can fun _ => 0) → Below w.heap.size w w' → w'.heap.size = w.heap.size + 1 → wpList Tryd.prog ops Q rest (a.put o.dst (.slice (some ⟨w.heap.size, 0, none⟩) n n)) w') : wpList Tryd.prog ops Q (o :: rest) a w := by
  obtain ⟨i, hi, hz, hs, hby⟩ := info_parts ratInfo
  refine wpList_plain hg fun K hK' => ?_
  have hr := run_make (P := Tryd.prog) w 23 37 i zr Tryd.underlying23 hi hz .i64 .i64 n n (by omega) (Int.le_refl _) (by rw [hby]; omega) (by omega)
  subst hL hC
  simp only [Int.toNat_natCast] at hr
  unfold Oper.wp
  simp [execOp, hop, hl, hc, hr, Result.andThen]
  refine hK' _ _ (h _ ⟨fun _ => zr, fun k _ => RdS.zero _ _, ?_⟩ ((Below.refl _ _).alloc (Nat.le_refl _) _) (by simp))
  rw [hs, ← cellsV_zero3]
  exact World.ownsRow_lit w _ n hb (by unfold maxLen; omega) (size_madeCells _ _)
theorem RowA.ok' {w : World} {b0 n : Nat} {A : Option Addr} {R : Nat → Rw} (h : RowA w b0 A n R) {k : Nat} (hk : k < n) : okR (R k) := by
  obtain ⟨V, h1, _⟩ := h
  obtain ⟨A, c, B, d, _, _, _, h4, _⟩ := h1 k hk
  exact h4
theorem MatI.ok' {w : World} {b0 n : Nat} {A : Option Addr} {len : Nat → Nat} {R : Nat → Nat → Rw} (h : MatI w b0 A n len R) {i k : Nat} (hi : i < n) (hk : k < len i) : okR (R i k) := by
  obtain ⟨Ar, cp, _, _, h3⟩ := h
  exact (h3 i hi).2.ra.ok' hk
/-! ## reference: Reduce -/
theorem rdF_sz {n c L : Nat} {M : Mf} (hL : 1 ≤ L) (h : ∀ a b, a < n → b < c → Sz L (M a b)) : ∀ k, k ≤ c → Sz (gl L k) (rdF n M k)
  | 0, _ => Sz.one (gl_pos hL 0)
  | k + 1, hk => by
    have ih := rdF_sz hL h k (by omega)
    unfold rdF
    split
    · rename_i hr
      have hl := (gj_len_le (n := n) (M := M) k).2
      have ha : (gj n M k).2.length < n := by
        have := (findR_spec (n := n) (M := (gj n M k).1) (k := k) hl).1
        omega
      have h1 := swp_sz (gj_sz hL h k (by omega)) ha hr _ _ ha (show k < c by omega)
      have h2 : Sz (gl L k) (if findR n (gj n M k).1 k (gj n M k).2.length = (gj n M k).2.length then rdF n M k else - rdF n M k) := by
        split
        · exact ih
        · exact ih.neg
      exact (h2.mul h1 (gl_pos hL k)).more (by show _ ≤ 4 * gl L k + 1; omega)
    · exact Sz.zero (gl_pos hL _)
theorem rdF_no {n k : Nat} {M : Mf} (h : findR n (gj n M k).1 k (gj n M k).2.length = n) : rdF n M (k + 1) = 0 := by
  show (if _ then _ else _) = _
  rw [if_neg (by omega)]
theorem rdF_yes {n k r : Nat} {M : Mf} (h : findR n (gj n M k).1 k (gj n M k).2.length = r) (hr : r < n) : rdF n M (k + 1) = (if r = (gj n M k).2.length then rdF n M k else - rdF n M k) * swp (gj n M k).1 (gj n M k).2.length r (gj n M k).2.length k := by
  show (if _ then _ else _) = _
  rw [if_pos (by omega), h]
end Go.Proofs.YtnljncncnohncaaDoor
