/- Contracts of functions and lemmas, used by the proofs of the given statements. No condition beyond those that each lemma names. -/
import Derived.Test.YtnljncncnohncaaDoorLinX
import Derived.Test.YtnljncncnohncaaDoorJLinP
namespace Go.Proofs.YtnljncncnohncaaDoor
set_option linter.unusedSimpArgs false
set_option linter.unusedVariables false
/-! ## the reduced form of a matrix and one more column (plain) -/
theorem findF_congr {M N : Mf} {k : Nat} : ∀ {f a : Nat}, (∀ i, M i k = N i k) → findF M k f a = findF N k f a
  | 0, a, _ => rfl
  | f + 1, a, h => by unfold findF; rw [h a, findF_congr h]
theorem findR_congr {M N : Mf} {n k a : Nat} (h : ∀ i, M i k = N i k) : findR n M k a = findR n N k a := findF_congr h
theorem gj_cols {n c : Nat} {M N : Mf} (h : ∀ i j, j < c → M i j = N i j) : ∀ k, k ≤ c → (gj n M k).2 = (gj n N k).2 ∧ ∀ i j, j < c → (gj n M k).1 i j = (gj n N k).1 i j
  | 0, _ => ⟨rfl, h⟩
  | k + 1, hk => by
    obtain ⟨h1, h2⟩ := gj_cols h k (by omega)
    have hf : findR n (gj n M k).1 k (gj n M k).2.length = findR n (gj n N k).1 k (gj n N k).2.length := by rw [h1]; exact findR_congr fun i => h2 i k (by omega)
    rw [gj_succ, gj_succ]
    unfold gjS
    rw [hf, h1]
    split
    · refine ⟨rfl, fun i j hj => ?_⟩
      have hs : ∀ i j, j < c → swp (gj n M k).1 (gj n N k).2.length (findR n (gj n N k).1 k (gj n N k).2.length) i j = swp (gj n N k).1 (gj n N k).2.length (findR n (gj n N k).1 k (gj n N k).2.length) i j := by
        intro i j hj
        unfold swp
        split
        · exact h2 _ j hj
        · split
          · exact h2 _ j hj
          · exact h2 _ j hj
      show elim _ _ _ i j = elim _ _ _ i j
      unfold elim
      rw [hs _ j hj, hs _ k (by omega), hs i j hj, hs i k (by omega)]
    · exact ⟨h1, h2⟩
theorem gj_wide {n c : Nat} {M : Mf} {y : Nat → Rat} : (gj n (wide M y c) c).2 = (gj n M c).2 :=
  (gj_cols (c := c) (fun i j hj => by unfold wide; rw [if_pos hj]) c (Nat.le_refl _)).1
theorem gj_pre {n : Nat} {M : Mf} {k : Nat} : ∀ {c}, k ≤ c → ∃ t, (gj n M c).2 = (gj n M k).2 ++ t ∧ ∀ x ∈ t, k ≤ x
  | 0, h => ⟨[], by obtain rfl : k = 0 := by omega
                    simp, by simp⟩
  | c + 1, h => by
    by_cases e : k = c + 1
    · subst e; exact ⟨[], by simp, by simp⟩
    · obtain ⟨t, ht, hx⟩ := gj_pre (n := n) (M := M) (k := k) (c := c) (by omega)
      rcases gj_step n M c with ⟨h1, _⟩ | ⟨r, _, _, _, _, h5, _, _⟩
      · exact ⟨t, by rw [h1, ht], hx⟩
      · refine ⟨t ++ [c], by rw [h5]; show _ ++ _ = _; rw [ht, List.append_assoc], fun x hm => ?_⟩
        rcases List.mem_append.1 hm with h6 | h6
        · exact hx x h6
        · have := List.mem_singleton.1 h6; omega
theorem fre_count {n c : Nat} {M : Mf} : ∀ k, k ≤ c → (fre (gj n M c).2 k).length + (gj n M k).2.length = k
  | 0, _ => by show (fre (gj n M c).2 0).length + ([] : List Nat).length = 0; rfl
  | k + 1, h => by
    have ih := fre_count (n := n) (c := c) (M := M) k (by omega)
    obtain ⟨t, ht, hx⟩ := gj_pre (n := n) (M := M) (k := k + 1) (c := c) h
    rcases gj_step n M k with ⟨h1, _⟩ | ⟨r, _, _, _, _, h5, _, _⟩
    · have hk : k ∉ (gj n M c).2 := by
        rw [ht, h1, List.mem_append]
        rintro (h2 | h2)
        · have := gj_lt k _ h2; omega
        · have := hx _ h2; omega
      rw [fre_out hk, h1, List.length_append, List.length_singleton]
      omega
    · have hk : k ∈ (gj n M c).2 := by
        rw [ht, h5]
        simp
      rw [fre_in hk, h5]
      show _ + ((gj n M k).2 ++ [k]).length = _
      rw [List.length_append, List.length_singleton]
      omega
theorem kernel_count (n c : Nat) (M : Mf) : (fre (gj n M c).2 c).length + (gj n M c).2.length = c := fre_count c (Nat.le_refl _)
/-- the rank grows by one or stays -/
theorem wide_rank (n c : Nat) (M : Mf) (y : Nat → Rat) : ((gj n (wide M y c) (c + 1)).2 = (gj n M c).2 ++ [c] ∧ (gj n (wide M y c) (c + 1)).2.getLast? = some c) ∨ ((gj n (wide M y c) (c + 1)).2 = (gj n M c).2 ∧ (gj n (wide M y c) (c + 1)).2.getLast? ≠ some c) := by
  have hw := gj_wide (n := n) (M := M) (y := y) (c := c)
  rcases gj_step n (wide M y c) c with ⟨h1, _⟩ | ⟨r, _, _, _, _, h5, _, _⟩
  · refine .inr ⟨by rw [h1, hw], fun e => ?_⟩
    rw [h1, hw] at e
    have := gj_lt c _ (List.mem_of_getLast? e)
    omega
  · refine .inl ⟨by rw [h5]; show _ ++ _ = _; rw [hw], ?_⟩
    rw [h5]
    simp
theorem codeS_kinds (n c : Nat) (M : Mf) (y : Nat → Rat) :
    (codeS n c (wide M y c) = 17 ∧ (gj n (wide M y c) (c + 1)).2.length = (gj n M c).2.length + 1) ∨
    (codeS n c (wide M y c) = 16 ∧ (gj n (wide M y c) (c + 1)).2.length = (gj n M c).2.length ∧ 0 < (fre (gj n M c).2 c).length) ∨
    (codeS n c (wide M y c) = 0 ∧ (gj n (wide M y c) (c + 1)).2.length = (gj n M c).2.length ∧ (fre (gj n M c).2 c).length = 0 ∧ (gj n M c).2.length = c) := by
  have hk := kernel_count n c M
  rcases wide_rank n c M y with ⟨h1, h2⟩ | ⟨h1, h2⟩
  · exact .inl ⟨by unfold codeS; rw [if_pos h2], by rw [h1]; simp⟩
  · by_cases h3 : (gj n M c).2.length < c
    · exact .inr (.inl ⟨by unfold codeS; rw [if_neg h2, if_pos (by rw [h1]; exact h3)], by rw [h1], by omega⟩)
    · exact .inr (.inr ⟨by unfold codeS; rw [if_neg h2, if_neg (by rw [h1]; exact h3)], by rw [h1], by omega, by omega⟩)
/-- the solution solves -/
theorem solve_eq {n c : Nat} {M : Mf} {y : Nat → Rat} (h : (gj n (wide M y c) (c + 1)).2.length = (gj n M c).2.length) (hc : (gj n M c).2.length = c) : ∀ i, i < n → dotS (M i) (fun t => (gj n (wide M y c) (c + 1)).1 t c) c = y i := by
  intro i hi
  have h1 := gj_rows (n := n) (c := c + 1) (M := wide M y c) i hi c (by omega)
  have e : wide M y c i c = y i := by unfold wide; rw [if_neg (by omega)]
  have hp : (gj n (wide M y c) (c + 1)).2 = (gj n M c).2 := by
    rcases wide_rank n c M y with ⟨h2, _⟩ | ⟨h2, _⟩
    · rw [h2] at h; simp at h
    · exact h2
  rw [e, h, hc, hp] at h1
  rw [h1]
  refine dotS_congr (fun t ht => ?_) (fun _ _ => rfl)
  rw [gj_full_pv hc t ht]
  unfold wide
  rw [if_pos ht]
end Go.Proofs.YtnljncncnohncaaDoor
namespace Go.Proofs.YtnljncncnohncaaDoor
open Go.RowKit
set_option linter.unusedSimpArgs false
set_option linter.unusedVariables false
set_option maxRecDepth 20000
/-! ## a matrix and one more column, as the laws and the reference write it: rows of a call's own, of fractions of whatever form -/
def MatW (w : World) (b : Nat) (A : Option Addr) (c n : Nat) (len : Nat → Nat) (R : Nat → Nat → Rw) : Prop :=
  ∃ Ar cp, w.ownsRow b 23 1 (.slice A n c) n (rowsC n Ar len cp) ∧ ∀ j, j < n → OwR w b (Ar j) (cp j) (len j) (R j)
section
variable {w w' : World} {b c n : Nat} {A : Option Addr} {len : Nat → Nat} {R : Nat → Nat → Rw}
theorem MatW.nil_ (w : World) (b : Nat) (len : Nat → Nat) (R : Nat → Nat → Rw) : MatW w b none 0 0 len R := ⟨fun _ => none, fun _ => 0, own_nil w b _ 1, fun j h => by omega⟩
theorem MatW.below (h : MatW w b A c n len R) (hb : Below w.heap.size w w') : MatW w' b A c n len R := by
  obtain ⟨Ar, cp, h1, h2⟩ := h
  exact ⟨Ar, cp, own_below h1 hb, fun j hj => (h2 j hj).below hb⟩
theorem MatW.mi (h : MatW w b A c n len R) (hb : b ≤ w.heap.size) : MatI w w.heap.size A n len R := by
  obtain ⟨Ar, cp, h1, h2⟩ := h
  have h3 := Rds.of_own h1
  exact ⟨Ar, cp, h3, fun hn => Rds.blk h3 hn hn, fun i hi => ⟨(h2 i hi).cap, (h2 i hi).ri hb⟩⟩
end
theorem OwR.empty {w : World} {b0 : Nat} {R : Nat → Rw} (hb : b0 ≤ w.heap.size) : OwR (w.alloc (.cells #[] 37)) b0 (some ⟨w.heap.size, 0, none⟩) 0 0 R :=
  ⟨fun _ => .nilIface, fun k h => by omega, World.ownsRow_lit w #[] 0 hb (by unfold maxLen; omega) (by simp)⟩
theorem OwR.empty' {w : World} {b0 g : Nat} {R : Nat → Rw} (hb : b0 ≤ w.heap.size) (hg : g = w.heap.size) : OwR (w.alloc (.cells #[] 37)) b0 (some ⟨g, 0, none⟩) 0 0 R := hg ▸ OwR.empty hb
/-- append(e, row...), e empty, at a step of a region that draws -/
theorem step_appRow0 {w : World} {ops : Array Oper} {o : Oper} {a : Act} {K : Act → World → Prop} {Q : Exit → Act → World → Prop} {E : Prop} (hgd : o.guard = none) (s x : Operand)
    (ho : o.op = .call { callee := .builtin .append, args := #[s, x], argTypes := #[23, 23] })
    (b0 : Nat) (A : Option Addr) (c : Nat) (R : Nat → Rw) (hs : a.eval s = .slice A 0 c) (hown : OwR w b0 A c 0 R)
    (B : Addr) (m cB : Nat) (U : Nat → Rw) (hx : a.eval x = .slice (some B) m cB) (hr : RowA w b0 (some B) m U) (hm : 0 < m) (hm2 : m ≤ 1000000) (hbase : b0 ≤ w.heap.size)
    (h : ∀ g cap w', OwR w' b0 (some ⟨g, 0, none⟩) cap m U → w.grownBy w' (Value.slice A 0 c).ownBlock → ((Value.slice A 0 c).ownBlock = some g ∨ w.heap.size ≤ g) → K (a.put o.dst (.slice (some ⟨g, 0, none⟩) m cap)) w') :
    if Region.wanted o (yielded ops a.tmps) = true then Oper.wp Tryd.prog o a w K Q else E := by
  obtain ⟨i0, hi0, hz0, hz1, hz2⟩ := info_parts ratInfo
  have hown0 := hown
  obtain ⟨V0, hV0, hown⟩ := hown
  obtain ⟨V, hV, hrd⟩ := hr
  obtain ⟨b, off, hB, hb, hc⟩ := hrd.2 hm
  injection hB with hB
  subst hB
  have hR : ∀ k, k < m → isR (V k) := fun k hk => (hV k hk).isR
  refine step_append_lies _ hgd s x 23 ho b0 37 i0 _ 3 56 Tryd.underlying23 hi0 hz0 hz1 hz2 rfl (by omega) _ 0 _ hs hown ⟨b, off, none⟩ m cB (cellsV m V) hx (cellsV_length hR) ?_ (cellsV_one hR) hm (by unfold maxLen; omega) (by omega) hbase w.heap.size rfl ?_
  · intro j u hu
    rw [addr_add]
    exact hc j u hu
  · intro g cap w' h1 h2 h3 h4
    rw [Nat.zero_add] at h1 ⊢
    have hkp : Kp b0 w w' := Kp.of_grown h2 fun k hk => by
      cases e : A with
      | none => rw [e] at hk; cases hk
      | some a =>
        rw [e] at hk
        injection hk with hk
        subst hk
        exact hown0.blockA e
    refine h g cap w' ⟨V, fun k hk => (hV k hk).kp hkp, ?_⟩ h2 (h3.imp id fun e => by omega)
    rw [cellsV_zero, List.nil_append] at h1
    exact h1
/-- wide = append(wide, row), at a step of a region that draws -/
theorem step_appW {w : World} {ops : Array Oper} {o : Oper} {a : Act} {K : Act → World → Prop} {Q : Exit → Act → World → Prop} {E : Prop} (hgd : o.guard = none) (s x : Operand)
    (ho : o.op = .call { callee := .builtin .append, args := #[s, x], argTypes := #[22, 22] })
    (b : Nat) (A : Option Addr) (c n : Nat) (len : Nat → Nat) (R : Nat → Nat → Rw) (hs : a.eval s = .slice A n c) (hown : MatW w b A c n len R)
    (B : Nat) (hx : a.eval x = .slice (some ⟨B, 0, none⟩) 1 1) (A1 : Option Addr) (c1 : Nat) (hc0 : w.cell? ⟨B, 0, none⟩ = some (.slice A1 (len n) c1)) (hr : OwR w b A1 c1 (len n) (R n))
    (hn : n ≤ 1000000) (hbase : b ≤ w.heap.size)
    (h : ∀ A' c' w', MatW w' b A' c' (n + 1) len R → Below b w w' → K (a.put o.dst (.slice A' (n + 1) c')) w') :
    if Region.wanted o (yielded ops a.tmps) = true then Oper.wp Tryd.prog o a w K Q else E := by
  obtain ⟨i0, hi0, hz0, hz1, hz2⟩ := info_parts sliceInfo
  obtain ⟨Ar, cp, h1, h2⟩ := hown
  have hblk : ∀ k, (Value.slice A n c).ownBlock = some k → b ≤ k ∧ ∃ cur, w.heap[k]? = some (.cells cur 23 (0, 0)) := by
    intro k hk
    rcases h1.2 with ⟨h, _⟩ | ⟨g', cap, cur, e, hb, hg, _⟩
    · rw [h] at hk; cases hk
    · rw [e] at hk; injection hk with hk; subst hk; exact ⟨hb, cur, hg⟩
  refine step_append_lies _ hgd s x 22 ho b 23 i0 _ 1 24 Tryd.underlying22 hi0 hz0 hz1 hz2 rfl (by omega) _ n _ hs h1 ⟨B, 0, none⟩ 1 1 [.slice A1 (len n) c1] hx rfl ?_ (by intro u hu; simp at hu; subst hu; rfl) (by omega) (by unfold maxLen; omega) (by omega) hbase w.heap.size rfl ?_
  · intro j u hu
    rw [addr_add, Nat.zero_add]
    match j, hu with
    | 0, hu => simp at hu; subst hu; exact hc0
    | j + 1, hu => simp at hu
  · intro g cap w' g1 g3 g4 g5
    have hkp : Kp b w w' := by
      cases hrow : (Value.slice A n c).ownBlock with
      | none => rw [hrow] at g3; exact ⟨g3.os, g3.tape, g3.output, g3.size, fun k hk _ => g3.block k hk (by simp)⟩
      | some q =>
        rw [hrow] at g3
        obtain ⟨hb0, cur, hc⟩ := hblk q hrow
        exact Kp.grown g3 hb0 hc (by decide)
    have hkeep : ∀ {A0 : Option Addr} {c0 k : Nat} {R : Nat → Rw}, OwR w b A0 c0 k R → OwR w' b A0 c0 k R := fun {A0 c0 k R} h0 => h0.keepA g3 hkp fun a0 ha0 e => by
      obtain ⟨_, cur1, e1⟩ := h0.blockA ha0
      obtain ⟨_, cur2, e2⟩ := hblk _ e
      rw [e1] at e2
      injection e2 with e2
      injection e2 with _ e2
      exact absurd e2 (by decide)
    refine h _ cap w' ⟨upd Ar n A1, upd cp n c1, ?_, fun j hj => ?_⟩ (below_of_row g3 (fun k hk => (hblk k hk).1) hbase)
    · have e : rowsC (n + 1) (upd Ar n A1) len (upd cp n c1) = rowsC n Ar len cp ++ [.slice A1 (len n) c1] := by
        unfold rowsC
        rw [List.range_succ, List.map_append]
        congr 1
        · exact List.map_congr_left fun i hi => by rw [upd_ne _ _ (by have := List.mem_range.1 hi; omega), upd_ne _ _ (by have := List.mem_range.1 hi; omega)]
        · simp [upd_same]
      rw [e]
      exact g1
    · by_cases e : j = n
      · subst e; rw [upd_same, upd_same]; exact hkeep hr
      · rw [upd_ne _ _ e, upd_ne _ _ e]; exact hkeep (h2 j (by omega))
/-- the rows of a matrix and one more column -/
def wideR (R : Nat → Nat → Rw) (Rb : Nat → Rw) (c : Nat) : Nat → Nat → Rw := fun i k => if k < c then R i k else Rb i
theorem wideR_val (R : Nat → Nat → Rw) (Rb : Nat → Rw) (c : Nat) : (fun i k => valR (wideR R Rb c i k)) = wide (fun i k => valR (R i k)) (fun i => valR (Rb i)) c := by
  funext i k
  unfold wideR wide
  split <;> rfl
theorem RowA.base {w : World} {b0 b1 n : Nat} {A : Option Addr} {R : Nat → Rw} (h : RowA w b0 A n R) (hb : b0 ≤ b1) : RowA w b1 A n R := by
  obtain ⟨V, h1, h2⟩ := h
  exact ⟨V, fun k hk => (h1 k hk).base hb, h2⟩
end Go.Proofs.YtnljncncnohncaaDoor
