/- Contracts of functions and lemmas, used by the proofs of the given statements. No condition beyond those that each lemma names. -/
import Derived.Test.YtmebdlilbnadgaaGreatDoorLinX
import Derived.Test.YtmebdlilbnadgaaGreatDoorJBase
import Derived.Test.YtmebdlilbnadgaaGreatDoorJChX
import Derived.Test.YtmebdlilbnadgaaGreatDoorLinH
import Derived.Test.YtmebdlilbnadgaaGreatDoorLinMk
import Derived.Test.YtmebdlilbnadgaaGreatDoorJTrAw
import Derived.Maps.OwnSet
import Derived.Test.YtmebdlilbnadgaaGreatDoorTrL2
namespace Go.Proofs.YtmebdlilbnadgaaGreatDoor
set_option linter.unusedSimpArgs false
set_option linter.unusedVariables false
/-! ## the reduced form of a matrix and one more column (plain) -/
theorem findF_congr {M N : Mf} {k : Nat} : ∀ {f a : Nat}, (∀ i, M i k = N i k) → findF M k f a = findF N k f a
  | 0, a, _ => rfl
  | f + 1, a, h => by unfold findF; rw [h a, findF_congr h]
theorem findR_congr {M N : Mf} {n k a : Nat} (h : ∀ i, M i k = N i k) : findR n M k a = findR n N k a := findF_congr h
theorem gj_cols {n c : Nat} {M N : Mf} (h : ∀ i j, j < c → M i j = N i j) : ∀ k, k ≤ c → (gj n M k).2 = (gj n N k).2 ∧ ∀ i j, j < c → (gj n M k).1 i j = (gj n N k).1 i j
  | 0, _ => ⟨rfl, h⟩
  | k + 1, hk => by
    obtain ⟨h1, h2⟩ := gj_cols h k (by omega)
    have hf : findR n (gj n M k).1 k (gj n M k).2.length = findR n (gj n N k).1 k (gj n N k).2.length := by rw [h1]; exact findR_congr fun i => h2 i k (by omega)
    rw [gj_succ, gj_succ]
    unfold gjS
    rw [hf, h1]
    split
    · refine ⟨rfl, fun i j hj => ?_⟩
      have hs : ∀ i j, j < c → swp (gj n M k).1 (gj n N k).2.length (findR n (gj n N k).1 k (gj n N k).2.length) i j = swp (gj n N k).1 (gj n N k).2.length (findR n (gj n N k).1 k (gj n N k).2.length) i j := by
        intro i j hj
        unfold swp
        split
        · exact h2 _ j hj
        · split
          · exact h2 _ j hj
          · exact h2 _ j hj
      show elim _ _ _ i j = elim _ _ _ i j
      unfold elim
      rw [hs _ j hj, hs _ k (by omega), hs i j hj, hs i k (by omega)]
    · exact ⟨h1, h2⟩
theorem gj_wide {n c : Nat} {M : Mf} {y : Nat → Rat} : (gj n (wide M y c) c).2 = (gj n M c).2 :=
  (gj_cols (c := c) (fun i j hj => by unfold wide; rw [if_pos hj]) c (Nat.le_refl _)).1
theorem gj_pre {n : Nat} {M : Mf} {k : Nat} : ∀ {c}, k ≤ c → ∃ t, (gj n M c).2 = (gj n M k).2 ++ t ∧ ∀ x ∈ t, k ≤ x
  | 0, h => ⟨[], by obtain rfl : k = 0 := by omega
                    simp, by simp⟩
  | c + 1, h => by
    by_cases e : k = c + 1
    · subst e; exact ⟨[], by simp, by simp⟩
    · obtain ⟨t, ht, hx⟩ := gj_pre (n := n) (M := M) (k := k) (c := c) (by omega)
      rcases gj_step n M c with ⟨h1, _⟩ | ⟨r, _, _, _, _, h5, _, _⟩
      · exact ⟨t, by rw [h1, ht], hx⟩
      · refine ⟨t ++ [c], by rw [h5]; show _ ++ _ = _; rw [ht, List.append_assoc], fun x hm => ?_⟩
        rcases List.mem_append.1 hm with h6 | h6
        · exact hx x h6
        · have := List.mem_singleton.1 h6; omega
theorem fre_count {n c : Nat} {M : Mf} : ∀ k, k ≤ c → (fre (gj n M c).2 k).length + (gj n M k).2.length = k
  | 0, _ => by show (fre (gj n M c).2 0).length + ([] : List Nat).length = 0; rfl
  | k + 1, h => by
    have ih := fre_count (n := n) (c := c) (M := M) k (by omega)
    obtain ⟨t, ht, hx⟩ := gj_pre (n := n) (M := M) (k := k + 1) (c := c) h
    rcases gj_step n M k with ⟨h1, _⟩ | ⟨r, _, _, _, _, h5, _, _⟩
    · have hk : k ∉ (gj n M c).2 := by
        rw [ht, h1, List.mem_append]
        rintro (h2 | h2)
        · have := gj_lt k _ h2; omega
        · have := hx _ h2; omega
      rw [fre_out hk, h1, List.length_append, List.length_singleton]
      omega
    · have hk : k ∈ (gj n M c).2 := by
        rw [ht, h5]
        simp
      rw [fre_in hk, h5]
      show _ + ((gj n M k).2 ++ [k]).length = _
      rw [List.length_append, List.length_singleton]
      omega
theorem kernel_count (n c : Nat) (M : Mf) : (fre (gj n M c).2 c).length + (gj n M c).2.length = c := fre_count c (Nat.le_refl _)
/-- the rank grows by one or stays -/
theorem wide_rank (n c : Nat) (M : Mf) (y : Nat → Rat) : ((gj n (wide M y c) (c + 1)).2 = (gj n M c).2 ++ [c] ∧ (gj n (wide M y c) (c + 1)).2.getLast? = some c) ∨ ((gj n (wide M y c) (c + 1)).2 = (gj n M c).2 ∧ (gj n (wide M y c) (c + 1)).2.getLast? ≠ some c) := by
  have hw := gj_wide (n := n) (M := M) (y := y) (c := c)
  rcases gj_step n (wide M y c) c with ⟨h1, _⟩ | ⟨r, _, _, _, _, h5, _, _⟩
  · refine .inr ⟨by rw [h1, hw], fun e => ?_⟩
    rw [h1, hw] at e
    have := gj_lt c _ (List.mem_of_getLast? e)
    omega
  · refine .inl ⟨by rw [h5]; show _ ++ _ = _; rw [hw], ?_⟩
    rw [h5]
    simp
/-- the solution solves -/
theorem solve_eq {n c : Nat} {M : Mf} {y : Nat → Rat} (h : (gj n (wide M y c) (c + 1)).2.length = (gj n M c).2.length) (hc : (gj n M c).2.length = c) : ∀ i, i < n → dotS (M i) (fun t => (gj n (wide M y c) (c + 1)).1 t c) c = y i := by
  intro i hi
  have h1 := gj_rows (n := n) (c := c + 1) (M := wide M y c) i hi c (by omega)
  have e : wide M y c i c = y i := by unfold wide; rw [if_neg (by omega)]
  have hp : (gj n (wide M y c) (c + 1)).2 = (gj n M c).2 := by
    rcases wide_rank n c M y with ⟨h2, _⟩ | ⟨h2, _⟩
    · rw [h2] at h; simp at h
    · exact h2
  rw [e, h, hc, hp] at h1
  rw [h1]
  refine dotS_congr (fun t ht => ?_) (fun _ _ => rfl)
  rw [gj_full_pv hc t ht]
  unfold wide
  rw [if_pos ht]
end Go.Proofs.YtmebdlilbnadgaaGreatDoor
namespace Go.Proofs.YtmebdlilbnadgaaGreatDoor
set_option linter.unusedSimpArgs false
set_option linter.unusedVariables false
/-! ## sums over moves (plain) -/
theorem sumN_add (f g : Nat → Rat) : ∀ n, sumN (fun k => f k + g k) n = sumN f n + sumN g n
  | 0 => by unfold sumN; grind
  | n + 1 => by rw [sumN, sumN, sumN, sumN_add f g n]; grind
theorem sumN_sub (f g : Nat → Rat) : ∀ n, sumN (fun k => f k - g k) n = sumN f n - sumN g n
  | 0 => by unfold sumN; grind
  | n + 1 => by rw [sumN, sumN, sumN, sumN_sub f g n]; grind
theorem sumN_smul (a : Rat) (f : Nat → Rat) : ∀ n, sumN (fun k => a * f k) n = a * sumN f n
  | 0 => by unfold sumN; grind
  | n + 1 => by rw [sumN, sumN, sumN_smul a f n]; grind
theorem sumN_nil {f : Nat → Rat} : ∀ {n}, (∀ k, k < n → f k = 0) → sumN f n = 0
  | 0, _ => rfl
  | n + 1, h => by rw [sumN, sumN_nil fun k hk => h k (by omega), h n (by omega)]; grind
theorem sumN_swap (a : Nat → Nat → Rat) (n : Nat) : ∀ m, sumN (fun j => sumN (fun k => a j k) m) n = sumN (fun k => sumN (fun j => a j k) n) m
  | 0 => by show sumN (fun _ => 0) n = 0; exact sumN_nil fun _ _ => rfl
  | m + 1 => by
    show sumN (fun j => sumN (fun k => a j k) m + a j m) n = _
    rw [sumN_add, sumN_swap a n m, sumN]
theorem sumN_pick {f : Nat → Rat} {a : Nat} : ∀ {n}, sumN (fun j => if j = a then f j else 0) n = if a < n then f a else 0
  | 0 => by simp [sumN]
  | n + 1 => by
    rw [sumN, sumN_pick]
    by_cases e : n = a
    · subst e
      rw [if_neg (by omega), if_pos rfl, if_pos (by omega)]; grind
    · rw [if_neg e]
      by_cases h : a < n
      · rw [if_pos h, if_pos (by omega)]; grind
      · rw [if_neg h, if_neg (by omega)]; grind
theorem sumN_le0 {f : Nat → Rat} : ∀ {n}, (∀ k, k < n → f k ≤ 0) → sumN f n ≤ 0
  | 0, _ => Rat.le_refl
  | n + 1, h => by
    have ih := sumN_le0 (f := f) (n := n) fun k hk => h k (by omega)
    have h1 := h n (by omega)
    rw [sumN]
    clear h
    grind
theorem sumN_eq0 {f : Nat → Rat} : ∀ {n}, (∀ k, k < n → f k ≤ 0) → 0 ≤ sumN f n → ∀ k, k < n → f k = 0
  | n + 1, h, h0, k, hk => by
    have ih := sumN_le0 (f := f) (n := n) fun k hk => h k (by omega)
    have := h n (by omega)
    rw [sumN] at h0
    by_cases e : k = n
    · subst e; grind
    · have h2 : 0 ≤ sumN f n := by grind
      exact sumN_eq0 (n := n) (fun k hk => h k (by omega)) h2 k (by omega)
/-! ## the system of the live states -/
section
variable (l : Nat → Bool) (F T : Nat → Nat) (q : Nat → Rat) (back : Bool)
end
section
variable {l D : Nat → Bool} {F T : Nat → Nat} {q : Nat → Rat} {back : Bool} {nm n i : Nat} {z y : Nat → Rat}
end
/-! ## full rank -/
theorem rank_full {n c : Nat} {M : Mf} (h : ∀ x : Nat → Rat, (∀ i, i < n → dotS (M i) x c = 0) → ∀ j, j < c → x j = 0) : (gj n M c).2.length = c := by
  apply Classical.byContradiction
  intro hne
  have h1 := kernel_count n c M
  have h2 : 0 < (fre (gj n M c).2 c).length := by
    have := (gj_len_le (n := n) (M := M) c).1
    omega
  obtain ⟨k, hk⟩ : ∃ k, k ∈ fre (gj n M c).2 c := ⟨_, List.getElem_mem h2⟩
  obtain ⟨hk1, hk2⟩ := fre_mem.1 hk
  have h3 := h _ (fun i hi => kx_zero hk1 hk2 i hi) k hk1
  rw [kx_own hk2 _ (Nat.le_refl _)] at h3
  exact absurd h3 (by decide)
/-- a square matrix of full rank: there is a solution, and it is one -/
theorem solve_full {n : Nat} {M : Mf} {y : Nat → Rat} (h : (gj n M n).2.length = n) : codeS n n (wide M y n) = 0 ∧ ∀ i, i < n → dotS (M i) (fun t => (gj n (wide M y n) (n + 1)).1 t n) n = y i := by
  have hw : (gj n (wide M y n) (n + 1)).2 = (gj n M n).2 ∧ (gj n (wide M y n) (n + 1)).2.getLast? ≠ some n := by
    rcases wide_rank n n M y with ⟨h1, h2⟩ | h1
    · have := (gj_len_le (n := n) (M := wide M y n) (n + 1)).2
      rw [h1, List.length_append] at this
      simp at this
      omega
    · exact h1
  exact ⟨codeS_0 hw.2 (by rw [hw.1]; omega), solve_eq (by rw [hw.1]) h⟩
end Go.Proofs.YtmebdlilbnadgaaGreatDoor
namespace Go.Proofs.YtmebdlilbnadgaaGreatDoor
set_option linter.unusedSimpArgs false
set_option linter.unusedVariables false
/-! ## the solution, by the whole matrix and by the live states alone (plain) -/
theorem cntB_ix {B : Nat → Bool} {t : Nat} : ∀ {n : Nat}, t < cntB B n → cntB B (ixB B n t) = t
  | 0, h => by unfold cntB kept at h; simp at h
  | n + 1, h => by
    cases hb : B n
    · rw [cntB_no hb] at h
      rw [ixB_stay (B := B) (i := t) (n := n + 1) (k := n) (by omega) h]
      exact cntB_ix h
    · rw [cntB_yes hb] at h
      by_cases e : t = cntB B n
      · subst e
        rw [ixB_new (by omega) hb]
      · rw [ixB_stay (B := B) (i := t) (n := n + 1) (k := n) (by omega) (by omega)]
        exact cntB_ix (by omega)
theorem ixB_cnt {B : Nat → Bool} {s n : Nat} (hs : s < n) (h : B s = true) : cntB B s < cntB B n ∧ ixB B n (cntB B s) = s := by
  refine ⟨?_, ixB_new hs h⟩
  have := cntB_mono (B := B) (k := s + 1) (n := n) (by omega)
  rw [cntB_yes h] at this
  omega
/-- a list over the live states as one over all -/
def extB (l : Nat → Bool) (x : Nat → Rat) : Nat → Rat := fun s => if l s then x (cntB l s) else 0
theorem dotS_kept {l : Nat → Bool} {f x : Nat → Rat} {n : Nat} : ∀ {k}, k ≤ n → dotS (fun t => f (ixB l n t)) x (cntB l k) = dotS f (extB l x) k
  | 0, _ => rfl
  | k + 1, hk => by
    have ih := dotS_kept (l := l) (f := f) (x := x) (n := n) (k := k) (by omega)
    cases hb : l k
    · rw [cntB_no hb, dotS, ih]
      unfold extB
      simp [hb]
      grind
    · rw [cntB_yes hb, dotS, dotS, ih, ixB_new (by omega) hb]
      unfold extB
      simp [hb]
section
variable {l D : Nat → Bool} {F T : Nat → Nat} {q : Nat → Rat} {nm n i : Nat} {z y : Nat → Rat} (back : Bool)
end
end Go.Proofs.YtmebdlilbnadgaaGreatDoor
namespace Go.Proofs.YtmebdlilbnadgaaGreatDoor
set_option linter.unusedSimpArgs false
set_option linter.unusedVariables false
/-! ## live states, times, visits, ends of a chain (plain) -/
section
variable {c : Chn}
theorem Chn.ftA {c : Chn} (ok : c.Ok) : ∀ j, j < c.nm → c.f j < c.nd ∧ c.t j < c.nd ∧ c.f j ≠ c.t j := fun j hj => by
  have := ok.mv j hj
  unfold Chn.f Chn.t
  omega
theorem Chn.lt_t (ok : c.Ok) : ∀ j, j < c.nm → c.t j < c.nd := fun j hj => (Chn.ftA ok j hj).2.1
end
end Go.Proofs.YtmebdlilbnadgaaGreatDoor
namespace Go.Proofs.YtmebdlilbnadgaaGreatDoor
open Go.RowKit
set_option linter.unusedSimpArgs false
set_option linter.unusedVariables false
set_option maxRecDepth 20000
attribute [local irreducible] nv wp win plainB validR valR canR mvE chkM codeC
/-! ## what a walk along the moves of a chain reads -/
theorem ChI.mv_at {w : World} {b0 cm cd : Nat} {AM AD : Option Addr} {c : Chn} (h : ChI w b0 AM cm AD cd c) (ok : c.Ok) {k : Nat} (hk : k < c.nm) : ∃ bm om s1 A1 n1 c1 B1 m1 d1, AM = some ⟨bm, om, none⟩ ∧ bm < w.heap.size
    ∧ w.cell? ⟨bm, om + k * 5, none⟩ = some (.int .i64 ((c.f k : Nat) : Int)) ∧ w.cell? ⟨bm, om + k * 5 + 1, none⟩ = some (.int .i64 ((c.t k : Nat) : Int)) ∧ w.cell? ⟨bm, om + k * 5 + 2, none⟩ = some (.bool s1) ∧ w.cell? ⟨bm, om + k * 5 + 3, none⟩ = some (.slice A1 n1 c1) ∧ w.cell? ⟨bm, om + k * 5 + 4, none⟩ = some (.slice B1 m1 d1)
    ∧ RdS w b0 (rv s1 A1 n1 c1 B1 m1 d1) (c.R k) ∧ c.f k < c.nd ∧ c.t k < c.nd ∧ c.f k ≠ c.t k := by
  obtain ⟨bm, om, s1, A1, n1, c1, B1, m1, d1, e, hbm, f0, f1, f2, f3, f4, r1⟩ := h.mv.1.at_ hk
  obtain ⟨e0, e1, e2, e3, e4, e5, -⟩ := ok.mv k hk
  have hf : c.F k = ((c.f k : Nat) : Int) := by unfold Chn.f; omega
  have ht : c.T k = ((c.t k : Nat) : Int) := by unfold Chn.t; omega
  rw [hf] at f0
  rw [ht] at f1
  exact ⟨bm, om, s1, A1, n1, c1, B1, m1, d1, e, hbm, f0, f1, f2, f3, f4, r1, by omega, by omega, fun h => e4 (by omega)⟩
/-- .. in a later world -/
theorem ChI.mv_later {w W : World} {cm cd : Nat} {AM AD : Option Addr} {c : Chn} (h : ChI w w.heap.size AM cm AD cd c) (ok : c.Ok) (hb : Below w.heap.size w W) {k : Nat} (hk : k < c.nm) : ∃ bm om s1 A1 n1 c1 B1 m1 d1, AM = some ⟨bm, om, none⟩ ∧ bm < w.heap.size
    ∧ W.cell? ⟨bm, om + k * 5, none⟩ = some (.int .i64 ((c.f k : Nat) : Int)) ∧ W.cell? ⟨bm, om + k * 5 + 1, none⟩ = some (.int .i64 ((c.t k : Nat) : Int)) ∧ W.cell? ⟨bm, om + k * 5 + 2, none⟩ = some (.bool s1) ∧ W.cell? ⟨bm, om + k * 5 + 3, none⟩ = some (.slice A1 n1 c1) ∧ W.cell? ⟨bm, om + k * 5 + 4, none⟩ = some (.slice B1 m1 d1)
    ∧ RdS W w.heap.size (rv s1 A1 n1 c1 B1 m1 d1) (c.R k) ∧ c.f k < c.nd ∧ c.t k < c.nd ∧ c.f k ≠ c.t k := by
  obtain ⟨bm, om, s1, A1, n1, c1, B1, m1, d1, e, hbm, f0, f1, f2, f3, f4, r1, h1, h2, h3⟩ := h.mv_at ok hk
  exact ⟨bm, om, s1, A1, n1, c1, B1, m1, d1, e, hbm, (hb.cell (p := ⟨bm, om + k * 5, none⟩) hbm).trans f0, (hb.cell (p := ⟨bm, om + k * 5 + 1, none⟩) hbm).trans f1, (hb.cell (p := ⟨bm, om + k * 5 + 2, none⟩) hbm).trans f2, (hb.cell (p := ⟨bm, om + k * 5 + 3, none⟩) hbm).trans f3, (hb.cell (p := ⟨bm, om + k * 5 + 4, none⟩) hbm).trans f4, r1.kp (Kp.of_below hb), h1, h2, h3⟩
theorem ChI.dn_later {w W : World} {cm cd : Nat} {AM AD : Option Addr} {c : Chn} (h : ChI w w.heap.size AM cm AD cd c) (hb : Below w.heap.size w W) {s : Nat} (hs : s < c.nd) : ∃ bd od, AD = some ⟨bd, od, none⟩ ∧ bd < w.heap.size ∧ W.cell? ⟨bd, od + s, none⟩ = some (.bool (c.D s)) := by
  obtain ⟨bd, od, e, hbd, -, p0⟩ := h.down hs
  exact ⟨bd, od, e, hbd, (hb.cell (p := ⟨bd, od + s, none⟩) hbd).trans p0⟩
/-- the block of the chain that a call was handed -/
theorem par_cell {w W : World} {cs : Array Value} {t : TypeId} (hb : Below (w.heap.size + 1) (w.alloc (.cells cs t)) W) (j : Nat) : W.cell? ⟨w.heap.size, j, none⟩ = cs[j]? := by
  rw [hb.cell (p := ⟨w.heap.size, j, none⟩) (by show w.heap.size < _; omega), World.cell?_alloc_at _ _ _ _ rfl]
theorem par_cells {w W : World} {a b d e : Value} {t : TypeId} (hb : Below (w.heap.size + 1) (w.alloc (.cells #[a, b, d, e] t)) W) : W.cell? ⟨w.heap.size, 0, none⟩ = some a ∧ W.cell? ⟨w.heap.size, 1, none⟩ = some b ∧ W.cell? ⟨w.heap.size, 2, none⟩ = some d ∧ W.cell? ⟨w.heap.size, 3, none⟩ = some e := ⟨par_cell hb 0, par_cell hb 1, par_cell hb 2, par_cell hb 3⟩
theorem par_below {w W : World} {o : Obj} (hb : Below (w.heap.size + 1) (w.alloc o) W) : Below w.heap.size w W := ((Below.refl _ _).alloc (Nat.le_refl _) o).trans (hb.mono (by omega))
end Go.Proofs.YtmebdlilbnadgaaGreatDoor
namespace Go.Proofs.YtmebdlilbnadgaaGreatDoor
open Go.RowKit
set_option linter.unusedSimpArgs false
set_option linter.unusedVariables false
set_option maxRecDepth 20000
attribute [local irreducible] nv wp win plainB validR valR canR mvE chkM codeC spr sprN
/-! ## slices.Clone of bools -/
/-! ## the marks as memory has them -/
def memB (w : World) (g j : Nat) : Bool := match w.cell? ⟨g, j, none⟩ with | some (.bool b) => b | _ => false
def memC (w : World) (A : Value) (n : Nat) : Nat := match A with | .slice (some a) _ _ => cnt (memB w a.block) n | _ => 0
theorem OwB.memC {w : World} {base c n : Nat} {A : Option Addr} {f : Nat → Bool} (h : OwB w base A c n f) (hn : 0 < n) : memC w (.slice A n c) n = cnt f n := by
  obtain ⟨g, rfl⟩ : ∃ g, A = some ⟨g, 0, none⟩ := by
    obtain ⟨g, cap, hv, _, _⟩ := World.ownsRow.form h hn
    exact ⟨g, by injection hv⟩
  show cnt (memB w g) n = cnt f n
  have : ∀ k, k ≤ n → cnt (memB w g) k = cnt f k := by
    intro k
    induction k with
    | zero => intro _; rfl
    | succ k ih =>
      intro hk
      have e : memB w g k = f k := by unfold memB; rw [h.at_ (by omega)]
      unfold cnt
      rw [ih (by omega), e]
  exact this n (Nat.le_refl _)
theorem OwB.head {w : World} {base c n : Nat} {A : Option Addr} {f : Nat → Bool} (h : OwB w base A c n f) (hn : 0 < n) : ∃ g, A = some ⟨g, 0, none⟩ ∧ base ≤ g ∧ g < w.heap.size := by
  obtain ⟨g, cap, hv, _, _⟩ := World.ownsRow.form h hn
  have hA : A = some ⟨g, 0, none⟩ := by injection hv
  subst hA
  have := World.ownsRow.lt h g rfl
  exact ⟨g, rfl, this.1, this.2⟩
end Go.Proofs.YtmebdlilbnadgaaGreatDoor
namespace Go.Proofs.YtmebdlilbnadgaaGreatDoor
open Go.RowKit
set_option linter.unusedSimpArgs false
set_option linter.unusedVariables false
set_option maxRecDepth 20000
attribute [local irreducible] nv wp win plainB validR valR canR
/-! ## a row of ints of the call's own, by a function -/
section
variable {w w' w1 : World} {base g c n k : Nat} {A : Option Addr} {f : Nat → Nat}
end
theorem OwI.kept_ {w w' : World} {base c : Nat} {A : Option Addr} {l : List Nat} (h : OwI w base A c l) {row : Option Nat} (hg : w.grownBy w' row) (hr : (Value.slice A l.length c).ownBlock = none ∨ (Value.slice A l.length c).ownBlock ≠ row) : OwI w' base A c l :=
  World.ownsRow.kept h hg hr
theorem OwB.kept_ {w w' : World} {base g c n : Nat} {f : Nat → Bool} (h : OwB w base (some ⟨g, 0, none⟩) c n f) {row : Option Nat} (hg : w.grownBy w' row) (hr : some g ≠ row) : OwB w' base (some ⟨g, 0, none⟩) c n f :=
  World.ownsRow.kept h hg (.inr hr)
end Go.Proofs.YtmebdlilbnadgaaGreatDoor
namespace Go.Proofs.YtmebdlilbnadgaaGreatDoor
open Go.RowKit
set_option linter.unusedSimpArgs false
set_option linter.unusedVariables false
set_option maxRecDepth 20000
attribute [local irreducible] nv wp win plainB validR valR canR mvE chkM codeC spr sprN chg cnt cntB ixB kept
/-! ## package absorb: system -/
theorem MatG.mo {w : World} {b0 o co n : Nat} {len : Nat → Nat} {M : Nat → Nat → Rat} (h : MatG w b0 o co n len M) : MatO w b0 (some ⟨o, 0, none⟩) co n len M := by
  obtain ⟨A, c, Ar, cp, e1, e2, hd, h1, h2⟩ := h
  exact ⟨Ar, cp, h1, h2⟩
theorem kept_yes {B : Nat → Bool} {k : Nat} (h : B k = true) : kept B (k + 1) = kept B k ++ [k] := by rw [kept, if_pos h]
theorem kept_no {B : Nat → Bool} {k : Nat} (h : B k = false) : kept B (k + 1) = kept B k := by rw [kept, if_neg (by rw [h]; simp)]
theorem kept_len {B : Nat → Bool} {k : Nat} : (kept B k).length = cntB B k := by unfold cntB; rfl
section
variable {l : Nat → Bool} {F T : Nat → Nat} {q : Nat → Rat} {back : Bool} {n k : Nat}
theorem ix_iff {a s : Nat} (ha : a < cntB l n) (hs : s < n) (hl : l s = true) : ixB l n a = s ↔ a = cntB l s := by
  constructor
  · intro h
    rw [← h, cntB_ix ha]
  · intro h
    rw [h, (ixB_cnt hs hl).2]
end
end Go.Proofs.YtmebdlilbnadgaaGreatDoor
namespace Go.Proofs.YtmebdlilbnadgaaGreatDoor
open Go.RowKit
set_option linter.unusedSimpArgs false
set_option linter.unusedVariables false
set_option maxRecDepth 20000
attribute [local irreducible] nv wp win plainB validR valR canR
/-! ## no words lie in some blocks: so the bound below which a fraction's words may lie is lowered -/
def NWB (w : World) (k : Nat) : Prop := ∃ cs t fz, w.heap[k]? = some (.cells cs t fz) ∧ ∀ (j : Nat) u, cs[j]? = some u → ∀ x : Int, u ≠ .int .u32 x
section
variable {w w' : World} {b0 b1 bo co n c g bd : Nat} {A : Option Addr} {v : Value} {r : Rw} {R : Nat → Rw} {len : Nat → Nat} {M : Nat → Nat → Rat}
end
/-! ## reference: Reduce -/
end Go.Proofs.YtmebdlilbnadgaaGreatDoor
namespace Go.Proofs.YtmebdlilbnadgaaGreatDoor
open Go.RowKit
set_option linter.unusedSimpArgs false
set_option linter.unusedVariables false
set_option maxRecDepth 20000
attribute [local irreducible] nv wp win plainB validR valR canR
/-! ## a row of the call's own, its words anywhere ahead of another bound -/
def OwS (w : World) (b0 base : Nat) (A : Option Addr) (c n : Nat) (R : Nat → Rw) : Prop := ∃ V, (∀ k, k < n → RdS w b0 (V k) (R k)) ∧ w.ownsRow base 30 3 (.slice A n c) n (cellsV n V)
section
variable {w w' : World} {b0 b1 base c n g : Nat} {A : Option Addr} {R U : Nat → Rw}
theorem RdW.keepN {l : List Nat} (h : RdW w w.heap.size A l) (hg : w.grownBy w' (some g)) (hn : NWB w g) : RdW w' w'.heap.size A l ∧ ∀ a, A = some a → 0 < l.length → a.block ≠ g := by
  have key : ∀ a, A = some a → 0 < l.length → a.block ≠ g := by
    intro a ha hl e
    obtain ⟨b', off, e1, _, hcell⟩ := h.addr hl
    rw [e1] at ha
    injection ha with ha
    subst ha
    obtain ⟨cs, t, fz, g1, g2⟩ := hn
    have := hcell 0 hl
    subst e
    rw [cell_of_row w b' _ _ _ _ g1] at this
    exact g2 _ _ this _ rfl
  refine ⟨⟨h.1, fun hl => ?_⟩, key⟩
  obtain ⟨b, off, e, hb, hc⟩ := h.2 hl
  refine ⟨b, off, e, Nat.lt_of_lt_of_le hb hg.size, fun j u hu => ?_⟩
  rw [grown_at hg _ hb (key _ e hl)]
  exact hc j u hu
theorem RdS.keepN {v : Value} {r : Rw} (h : RdS w b0 v r) (hg : w.grownBy w' (some g)) (hn : NWB w g) : RdS w' b0 v r := by
  obtain ⟨A, c, B, d, h1, h2, h3, h4, h5, h6, h7, h8⟩ := h
  have key : ∀ (X : Option Addr) (l : List Nat), RdW w w.heap.size X l → BlkIn (WB w b0) X l.length → BlkIn (WB w' b0) X l.length := by
    intro X l hr hs hl a ha
    have hne := (hr.keepN hg hn).2 a ha hl
    rcases hs hl a ha with h9 | ⟨cur, fz, h9⟩
    · exact .inl h9
    · exact .inr ⟨cur, fz, by rw [hg.block a.block (Array.getElem?_eq_some_iff.1 h9).1 (fun e => by injection e with e; exact hne e)]; exact h9⟩
  exact ⟨A, c, B, d, h1, h2, h3, h4, (h5.keepN hg hn).1, (h6.keepN hg hn).1, key A _ h5 h7, key B _ h6 h8⟩
theorem OwS.of_own (h : OwR w base A c n R) (hb : base ≤ b0) : OwS w b0 base A c n R := by
  obtain ⟨V, h1, h2⟩ := h
  exact ⟨V, fun k hk => (h1 k hk).base hb, h2⟩
theorem OwS.ra (h : OwS w b0 base A c n R) : RowA w b0 A n R := by
  obtain ⟨V, h1, h2⟩ := h
  exact ⟨V, h1, Rds.of_own h2⟩
theorem OwS.up (h : OwS w b0 base A c n R) (hb : b0 ≤ b1) : OwS w b1 base A c n R := by
  obtain ⟨V, h1, h2⟩ := h
  exact ⟨V, fun k hk => (h1 k hk).base hb, h2⟩
theorem OwS.congr (h : OwS w b0 base A c n R) (e : ∀ k, k < n → R k = U k) : OwS w b0 base A c n U := by
  obtain ⟨V, h1, h2⟩ := h
  exact ⟨V, fun k hk => e k hk ▸ h1 k hk, h2⟩
theorem OwS.frozen (h : OwS w b0 base (some ⟨g, 0, none⟩) c n R) (k : Nat) : w.frozen? ⟨g, k, none⟩ = false := by
  obtain ⟨V, h1, h2⟩ := h
  exact World.ownsRow.frozenAt h2 k
theorem OwS.lt (h : OwS w b0 base (some ⟨g, 0, none⟩) c n R) : base ≤ g ∧ g < w.heap.size := by
  obtain ⟨V, h1, h2⟩ := h
  exact World.ownsRow.lt h2 g rfl
theorem OwS.at_ (h : OwS w b0 base (some ⟨g, 0, none⟩) c n R) {k : Nat} (hk : k < n) : ∃ s A1 n1 c1 B1 m1 d1, w.cell? ⟨g, k * 3, none⟩ = some (.bool s) ∧ w.cell? ⟨g, k * 3 + 1, none⟩ = some (.slice A1 n1 c1) ∧ w.cell? ⟨g, k * 3 + 2, none⟩ = some (.slice B1 m1 d1) ∧ RdS w b0 (rv s A1 n1 c1 B1 m1 d1) (R k) := by
  obtain ⟨b, off, s, A1, n1, c1, B1, m1, d1, e, hb, h0, h1, h2, h3⟩ := h.ra.at_ hk
  injection e with e
  injection e with e1 e2 _
  subst e1 e2
  rw [Nat.zero_add] at h0 h1 h2
  exact ⟨s, A1, n1, c1, B1, m1, d1, h0, h1, h2, h3⟩
theorem OwS.nwb (h : OwS w b0 base (some ⟨g, 0, none⟩) n n R) : NWB w g := by
  obtain ⟨V, h1, h2⟩ := h
  rcases h2.2 with ⟨h, _⟩ | ⟨g', cap, cur, e, hb, hg, hle, hmax, hsz, htake⟩
  · cases h
  · injection e with e1 e2 e3
    injection e1 with e1
    injection e1 with e1
    subst e1 e3
    refine ⟨cur, _, _, hg, fun j u hu x e => ?_⟩
    subst e
    have h3 : cur.toList = cellsV n V := by rw [← htake, List.take_of_length_le (by rw [Array.length_toList, hsz]; exact Nat.le_refl _)]
    have h4 : (cellsV n V)[j]? = some (.int .u32 x) := by rw [← h3, Array.getElem?_toList]; exact hu
    have h5 := List.mem_of_getElem? h4
    simp only [cellsV, List.mem_flatMap, List.mem_range] at h5
    obtain ⟨k, hk, h5⟩ := h5
    obtain ⟨s, A1, a1, c1, B1, b1, d1, e⟩ := (h1 k hk).isR
    rw [e] at h5
    simp [c3] at h5
/-- element k is stored -/
theorem OwS.set (h : OwS w b0 base (some ⟨g, 0, none⟩) n n R) {k : Nat} (hk : k < n) {s : Bool} {A1 : Option Addr} {n1 c1 : Nat} {B1 : Option Addr} {m1 d1 : Nat} {r : Rw} (hr : RdS w b0 (rv s A1 n1 c1 B1 m1 d1) r) :
    OwS (((w.setCell ⟨g, k * 3, none⟩ (.bool s)).setCell ⟨g, k * 3 + 1, none⟩ (.slice A1 n1 c1)).setCell ⟨g, k * 3 + 2, none⟩ (.slice B1 m1 d1)) b0 base (some ⟨g, 0, none⟩) n n (upd R k r) ∧
    w.grownBy (((w.setCell ⟨g, k * 3, none⟩ (.bool s)).setCell ⟨g, k * 3 + 1, none⟩ (.slice A1 n1 c1)).setCell ⟨g, k * 3 + 2, none⟩ (.slice B1 m1 d1)) (some g) := by
  have hn := h.nwb
  obtain ⟨V, h1, h2⟩ := h
  obtain ⟨s0, t0⟩ := World.ownsRow.stored h2 (k * 3) (.bool s)
  obtain ⟨s1, t1⟩ := World.ownsRow.stored s0 (k * 3 + 1) (.slice A1 n1 c1)
  obtain ⟨s2, t2⟩ := World.ownsRow.stored s1 (k * 3 + 2) (.slice B1 m1 d1)
  have hgr := grown_trans (grown_trans t0 t1) t2
  rw [cellsV_set (fun k hk => (h1 k hk).isR) hk] at s2
  refine ⟨⟨upd V k (rv s A1 n1 c1 B1 m1 d1), fun j hj => ?_, s2⟩, hgr⟩
  by_cases e : j = k
  · subst e; rw [upd_same, upd_same]; exact hr.keepN hgr hn
  · rw [upd_ne _ _ e, upd_ne _ _ e]; exact (h1 j hj).keepN hgr hn
end
end Go.Proofs.YtmebdlilbnadgaaGreatDoor
namespace Go.Proofs.YtmebdlilbnadgaaGreatDoor
open Go.RowKit
set_option linter.unusedSimpArgs false
set_option linter.unusedVariables false
set_option maxRecDepth 20000
/-! ## package absorb: solve, what it needs (plain) -/
theorem codeM_sq {m : Nat} (h0 : 0 < m) (h : m ≤ 256) : codeM m (fun _ => m) = 0 := by
  unfold codeM
  dsimp only
  rw [if_neg (by omega), if_neg (by omega), if_neg (by omega), if_neg (by omega), if_pos]
  exact List.all_eq_true.2 fun i _ => by simp
/-- the list over all states, when k live ones have been laid -/
def outK (l : Nat → Bool) (x : Nat → Rat) (k : Nat) : Nat → Rat := fun s => if l s = true ∧ cntB l s < k then x (cntB l s) else 0
theorem outK_0 (l : Nat → Bool) (x : Nat → Rat) : outK l x 0 = fun _ => 0 := by
  funext s
  unfold outK
  rw [if_neg (fun h => by omega)]
theorem outK_s {l : Nat → Bool} {x : Nat → Rat} {n k : Nat} (hk : k < cntB l n) {s : Nat} (hs : s < n) : upd (outK l x k) (ixB l n k) (x k) s = outK l x (k + 1) s := by
  obtain ⟨h1, h2⟩ := ixB_lt hk
  have h3 := cntB_ix hk
  unfold upd outK
  by_cases e : s = ixB l n k
  · rw [if_pos e, if_pos ⟨by rw [e]; exact h2, by rw [e, h3]; omega⟩, e, h3]
  · rw [if_neg e]
    by_cases e2 : l s = true ∧ cntB l s < k
    · rw [if_pos e2, if_pos ⟨e2.1, by omega⟩]
    · rw [if_neg e2, if_neg]
      rintro ⟨h4, h5⟩
      have h6 : cntB l s = k := by
        rcases Nat.lt_or_ge (cntB l s) k with h7 | h7
        · exact absurd ⟨h4, h7⟩ e2
        · omega
      have := (ixB_cnt hs h4).2
      rw [h6] at this
      exact e this.symm
theorem outK_e {l : Nat → Bool} {x : Nat → Rat} {n s : Nat} (hs : s < n) : outK l x (cntB l n) s = extB l x s := by
  unfold outK extB
  cases h : l s
  · rw [if_neg (fun h => by cases h.1), if_neg (by simp)]
  · rw [if_pos ⟨rfl, (ixB_cnt hs h).1⟩, if_pos rfl]
theorem kept_get {B : Nat → Bool} {n k : Nat} (hk : k < (kept B n).length) : (kept B n)[k] = ixB B n k := by
  unfold ixB
  rw [List.getD_eq_getElem?_getD, List.getElem?_eq_getElem hk]
  rfl
theorem gl_10 {m : Nat} (h : m ≤ 9) : gl 400 (m + 1) ≤ 1000000000 := by
  have h1 := gl_mono (L := 400) (show m + 1 ≤ 10 by omega)
  have h2 : gl 400 10 ≤ 1000000000 := by decide +kernel
  omega
end Go.Proofs.YtmebdlilbnadgaaGreatDoor
namespace Go.Proofs.YtmebdlilbnadgaaGreatDoor
open Go.RowKit
set_option linter.unusedSimpArgs false
set_option linter.unusedVariables false
set_option maxRecDepth 20000
attribute [local irreducible] nv wp win plainB validR valR canR mvE chkM codeC exK dsum
/-! ## what the functions give, whatever the number of the error -/
def outN' (code : Int) (n : Nat) : Nat := if code = 0 then n else 0
theorem RdS.zr (w : World) (b0 : Nat) : RdS w b0 zr (canR 0) := RdS.zero w b0
section
variable {w' : World} {b0 base n : Nat} {x : Nat → Rat} {q : Rat} {code : Int} {e : Ending}
end
end Go.Proofs.YtmebdlilbnadgaaGreatDoor
namespace Go.Proofs.YtmebdlilbnadgaaGreatDoor
open Go.RowKit
set_option linter.unusedSimpArgs false
set_option linter.unusedVariables false
set_option maxRecDepth 20000
attribute [local irreducible] nv wp win plainB validR valR canR mvE chkM codeC exK dsum
/-! ## TransientSteps -/
theorem RowA.up {w : World} {b0 b1 n : Nat} {A : Option Addr} {R : Nat → Rw} (h : RowA w b0 A n R) (hb : b0 ≤ b1) : RowA w b1 A n R := by
  obtain ⟨V, h1, h2⟩ := h
  exact ⟨V, fun k hk => (h1 k hk).base hb, h2⟩
/-- an answer: a list of fractions and the number of an error -/
def AnsV (z : Int → Value) (m : Nat) (x : Nat → Rat) (code : Int) (e : Ending) (w' : World) : Prop := ∃ A c, e = .returned (.tuple #[.slice A m c, z code]) ∧ RowA w' w'.heap.size A m (can x)
def AnsQ (z : Int → Value) (q : Rat) (code : Int) (e : Ending) (w' : World) : Prop := ∃ v, e = .returned (.tuple #[v, z code]) ∧ RdS w' 0 v (canR q)
end Go.Proofs.YtmebdlilbnadgaaGreatDoor
namespace Go.Proofs.YtmebdlilbnadgaaGreatDoor
set_option linter.unusedSimpArgs false
set_option linter.unusedVariables false
/-! ## how great the numbers are (plain) -/
section
variable {nm n P L : Nat} {q : Nat → Rat} {F T : Nat → Nat} {l : Nat → Bool} {back : Bool} {v : Nat → Rat}
theorem wp2b : 240 * 4294967296 < wp 2 := by decide +kernel
end
section
variable {c : Chn}
end
end Go.Proofs.YtmebdlilbnadgaaGreatDoor
namespace Go.Proofs.YtmebdlilbnadgaaGreatDoor
set_option linter.unusedSimpArgs false
set_option linter.unusedVariables false
/-! ## stationary distributions (plain) -/
/-- moves between n states; every closed set of states has the state a -/
structure UnS (nm n : Nat) (F T : Nat → Nat) (q : Nat → Rat) (a : Nat) : Prop where
  mv : ∀ k, k < nm → F k < n ∧ T k < n ∧ F k ≠ T k ∧ 0 < q k
  lt : a < n
  un : ∀ P : Nat → Prop, (∀ k, k < nm → P (F k) → P (T k)) → ∀ s, s < n → P s → P a
section
variable {F T : Nat → Nat} {q x y : Nat → Rat} {nm n a : Nat}
/-- what comes into a state less what goes out, by one move -/
def netT (F T : Nat → Nat) (q x : Nat → Rat) (i k : Nat) : Rat := (if T k = i then x (F k) * q k else 0) - (if F k = i then x (F k) * q k else 0)
def netS (F T : Nat → Nat) (q x : Nat → Rat) (nm i : Nat) : Rat := sumN (netT F T q x i) nm
theorem net_sum (hF : ∀ k, k < nm → F k < n ∧ T k < n) (w : Nat → Rat) : sumN (fun i => w i * netS F T q x nm i) n = sumN (fun k => x (F k) * q k * (w (T k) - w (F k))) nm := by
  have e1 : sumN (fun i => w i * netS F T q x nm i) n = sumN (fun i => sumN (fun k => w i * netT F T q x i k) nm) n := by
    refine sumN_congr fun i _ => ?_
    unfold netS
    rw [sumN_smul]
  rw [e1, sumN_swap]
  refine sumN_congr fun k hk => ?_
  obtain ⟨m1, m2⟩ := hF k hk
  have e2 : ∀ i, w i * netT F T q x i k = (if i = T k then x (F k) * q k * w i else 0) - (if i = F k then x (F k) * q k * w i else 0) := fun i => by
    unfold netT
    by_cases h1 : T k = i
    · by_cases h2 : F k = i
      · rw [if_pos h1, if_pos h2, if_pos h1.symm, if_pos h2.symm]; grind
      · rw [if_pos h1, if_neg h2, if_pos h1.symm, if_neg (fun e => h2 e.symm)]; grind
    · by_cases h2 : F k = i
      · rw [if_neg h1, if_pos h2, if_neg (fun e => h1 e.symm), if_pos h2.symm]; grind
      · rw [if_neg h1, if_neg h2, if_neg (fun e => h1 e.symm), if_neg (fun e => h2 e.symm)]; grind
  rw [sumN_congr fun i _ => e2 i, sumN_sub, sumN_pick, sumN_pick, if_pos m2, if_pos m1]
  grind
theorem netS_neg (i : Nat) : netS F T q (fun s => -x s) nm i = -netS F T q x nm i := by
  have e : netS F T q (fun s => -x s) nm i = sumN (fun k => (-1) * netT F T q x i k) nm := sumN_congr fun k _ => by
    unfold netT
    split <;> split <;> grind
  rw [e, sumN_smul]
  unfold netS
  grind
theorem netS_lin (b : Rat) (i : Nat) : netS F T q (fun s => x s + b * y s) nm i = netS F T q x nm i + b * netS F T q y nm i := by
  unfold netS
  rw [← sumN_smul, ← sumN_add]
  refine sumN_congr fun k _ => ?_
  unfold netT
  split <;> split <;> grind
/-- where something is, it stays -/
theorem pos_shut (hm : ∀ k, k < nm → F k < n ∧ T k < n ∧ F k ≠ T k ∧ 0 < q k) (hn : ∀ i, i < n → netS F T q x nm i = 0) : ∀ k, k < nm → 0 < x (F k) → 0 < x (T k) := by
  have h1 := net_sum (x := x) (q := q) (fun k hk => ⟨(hm k hk).1, (hm k hk).2.1⟩) (fun s => if 0 < x s then 1 else 0)
  rw [sumN_nil fun i hi => by rw [hn i hi]; grind] at h1
  have h2 : ∀ k, k < nm → x (F k) * q k * ((if 0 < x (T k) then 1 else 0) - (if 0 < x (F k) then 1 else 0)) ≤ 0 := fun k hk => by
    have hq := (hm k hk).2.2.2
    by_cases hf : 0 < x (F k)
    · rw [if_pos hf]
      have := Rat.mul_pos hf hq
      split <;> grind
    · rw [if_neg hf]
      have : x (F k) * q k ≤ 0 := by
        have h3 : 0 ≤ (-x (F k)) * q k := Rat.mul_nonneg (by grind) (Rat.le_of_lt hq)
        grind
      split <;> grind
  have h3 := sumN_eq0 h2 (by rw [← h1]; exact Rat.le_refl)
  intro k hk hf
  have h4 := h3 k hk
  rw [if_pos hf] at h4
  have := Rat.mul_pos hf (hm k hk).2.2.2
  by_cases ht : 0 < x (T k)
  · exact ht
  · rw [if_neg ht] at h4
    exfalso
    grind
theorem UnS.sign (h : UnS nm n F T q a) (hn : ∀ i, i < n → netS F T q x nm i = 0) : (∀ s, s < n → 0 ≤ x s) ∨ (∀ s, s < n → x s ≤ 0) := by
  by_cases h1 : ∀ s, s < n → x s ≤ 0
  · exact .inr h1
  · refine .inl fun s hs => ?_
    have ⟨t, ht⟩ := Classical.not_forall.1 h1
    have ⟨ht1, ht2⟩ := Classical.not_imp.1 ht
    have ha : 0 < x a := h.un (fun s => 0 < x s) (pos_shut h.mv hn) t ht1 (by grind)
    apply Classical.byContradiction
    intro hneg
    have hb : 0 < -x a := h.un (fun s => 0 < -x s) (pos_shut (x := fun s => -x s) h.mv fun i hi => by rw [netS_neg, hn i hi]; grind) s hs (by grind)
    grind
theorem UnS.zero (h : UnS nm n F T q a) (hn : ∀ i, i < n → netS F T q x nm i = 0) (hs : sumN x n = 0) : ∀ s, s < n → x s = 0 := by
  rcases h.sign hn with h1 | h1
  · have h2 := sumN_eq0 (f := fun s => -x s) (n := n) (fun s hs => by have := h1 s hs; grind) (by
      have : sumN (fun s => -x s) n = -sumN x n := by
        have e : sumN (fun s => -x s) n = sumN (fun s => (-1) * x s) n := sumN_congr fun s _ => by grind
        rw [e, sumN_smul]; grind
      rw [this, hs]; decide)
    intro s hs; have := h2 s hs; grind
  · exact sumN_eq0 h1 (by rw [hs]; exact Rat.le_refl)
theorem UnS.unique (h : UnS nm n F T q a) (hx : ∀ i, i < n → netS F T q x nm i = 0) (hy : ∀ i, i < n → netS F T q y nm i = 0) (hs : sumN x n = sumN y n) : ∀ s, s < n → x s = y s := by
  have h1 := h.zero (x := fun s => x s + (-1) * y s) (fun i hi => by rw [netS_lin, hx i hi, hy i hi]; grind) (by rw [sumN_add, sumN_smul, hs]; grind)
  intro s hs
  have := h1 s hs
  grind
/-- a balanced distribution: above 0 at a, and nowhere below 0 -/
theorem UnS.dist (h : UnS nm n F T q a) (hn : ∀ i, i < n → netS F T q x nm i = 0) (hs : sumN x n = 1) : (∀ s, s < n → 0 ≤ x s) ∧ 0 < x a := by
  have h0 : ∀ s, s < n → 0 ≤ x s := by
    rcases h.sign hn with h1 | h1
    · exact h1
    · have := sumN_le0 h1
      rw [hs] at this
      exact absurd this (by decide)
  refine ⟨h0, ?_⟩
  by_cases h1 : ∃ t, t < n ∧ 0 < x t
  · obtain ⟨t, ht, hp⟩ := h1
    exact h.un (fun s => 0 < x s) (pos_shut h.mv hn) t ht hp
  · have : sumN x n = 0 := sumN_nil fun t ht => by
      have h2 := h0 t ht
      have h3 : ¬ 0 < x t := fun h => h1 ⟨t, ht, h⟩
      grind
    rw [this] at hs
    exact absurd hs (by decide)
end
/-- the balance's matrix after k moves -/
def staK (F T : Nat → Nat) (q : Nat → Rat) : Nat → Mf
  | 0 => fun _ _ => 0
  | k + 1 => fun i j => staK F T q k i j + (if i = T k ∧ j = F k then q k else 0) - (if i = F k ∧ j = F k then q k else 0)
/-- the last row says that the sum is 1 -/
def staM (F T : Nat → Nat) (q : Nat → Rat) (nm n : Nat) : Mf := fun i j => if i = n - 1 then 1 else staK F T q nm i j
section
variable {F T : Nat → Nat} {q x : Nat → Rat} {nm n a : Nat}
theorem dotS_pick {b : Nat} {v : Rat} : ∀ {m : Nat}, dotS (fun j => if j = b then v else 0) x m = if b < m then v * x b else 0
  | 0 => by rw [if_neg (by omega)]; rfl
  | m + 1 => by
    rw [dotS, dotS_pick (m := m)]
    by_cases e : m = b
    · subst e; rw [if_neg (by omega), if_pos rfl, if_pos (by omega)]; grind
    · rw [if_neg e]
      by_cases h : b < m
      · rw [if_pos h, if_pos (by omega)]; grind
      · rw [if_neg h, if_neg (by omega)]; grind
theorem dotS_addl (f g : Nat → Rat) : ∀ m, dotS (fun j => f j + g j) x m = dotS f x m + dotS g x m
  | 0 => by show (0 : Rat) = 0 + 0; grind
  | m + 1 => by rw [dotS, dotS, dotS, dotS_addl f g m]; grind
theorem dotS_ones : ∀ m, dotS (fun _ => 1) x m = sumN x m
  | 0 => rfl
  | m + 1 => by rw [dotS, sumN, dotS_ones m]; grind
theorem dot_sta (hF : ∀ k, k < nm → F k < n ∧ T k < n) (i : Nat) : ∀ {k : Nat}, k ≤ nm → dotS (staK F T q k i) x n = netS F T q x k i
  | 0, _ => by
    show dotS (fun _ => 0) x n = 0
    have := dotS_pick (x := x) (b := 0) (v := 0) (m := n)
    have e : (fun j : Nat => if j = 0 then (0 : Rat) else 0) = fun _ => 0 := by funext j; split <;> rfl
    rw [e] at this
    rw [this]
    split <;> grind
  | k + 1, hk => by
    have ih := dot_sta hF i (k := k) (by omega)
    obtain ⟨m1, m2⟩ := hF k (by omega)
    have e : staK F T q (k + 1) i = fun j => (staK F T q k i j + (if j = F k then (if i = T k then q k else 0) else 0)) + (if j = F k then (if i = F k then -q k else 0) else 0) := by
      funext j
      show staK F T q k i j + (if i = T k ∧ j = F k then q k else 0) - (if i = F k ∧ j = F k then q k else 0) = _
      by_cases h1 : j = F k
      · by_cases h2 : i = T k
        · by_cases h3 : i = F k
          · rw [if_pos ⟨h2, h1⟩, if_pos ⟨h3, h1⟩, if_pos h1, if_pos h1, if_pos h2, if_pos h3]; grind
          · rw [if_pos ⟨h2, h1⟩, if_neg (fun h => h3 h.1), if_pos h1, if_pos h1, if_pos h2, if_neg h3]; grind
        · by_cases h3 : i = F k
          · rw [if_neg (fun h => h2 h.1), if_pos ⟨h3, h1⟩, if_pos h1, if_pos h1, if_neg h2, if_pos h3]; grind
          · rw [if_neg (fun h => h2 h.1), if_neg (fun h => h3 h.1), if_pos h1, if_pos h1, if_neg h2, if_neg h3]; grind
      · rw [if_neg (fun h => h1 h.2), if_neg (fun h => h1 h.2), if_neg h1, if_neg h1]; grind
    rw [e, dotS_addl, dotS_addl, dotS_pick, dotS_pick, if_pos m1, if_pos m1, ih]
    unfold netS
    rw [sumN]
    unfold netT
    by_cases h2 : i = T k
    · by_cases h3 : i = F k
      · rw [if_pos h2, if_pos h3, if_pos h2.symm, if_pos h3.symm]; grind
      · rw [if_pos h2, if_neg h3, if_pos h2.symm, if_neg (fun e => h3 e.symm)]; grind
    · by_cases h3 : i = F k
      · rw [if_neg h2, if_pos h3, if_neg (fun e => h2 e.symm), if_pos h3.symm]; grind
      · rw [if_neg h2, if_neg h3, if_neg (fun e => h2 e.symm), if_neg (fun e => h3 e.symm)]; grind
/-- the balances sum to 0 -/
theorem net_all (hF : ∀ k, k < nm → F k < n ∧ T k < n) : sumN (netS F T q x nm) n = 0 := by
  have h := net_sum (x := x) (q := q) hF (fun _ => 1)
  rw [sumN_nil (f := fun k => x (F k) * q k * ((1 : Rat) - 1)) (fun k _ => by grind)] at h
  rw [← h]
  exact sumN_congr fun i _ => by grind
theorem net_last (hF : ∀ k, k < nm → F k < n ∧ T k < n) (hn : 0 < n) (h : ∀ i, i < n → i ≠ n - 1 → netS F T q x nm i = 0) : ∀ i, i < n → netS F T q x nm i = 0 := by
  obtain ⟨m, rfl⟩ : ∃ m, n = m + 1 := ⟨n - 1, by omega⟩
  have h1 := net_all (x := x) (q := q) hF
  rw [sumN, sumN_nil fun i hi => h i (by omega) (by omega)] at h1
  intro i hi
  by_cases e : i = m
  · rw [e]; grind
  · exact h i hi (by omega)
theorem staM_dot (hF : ∀ k, k < nm → F k < n ∧ T k < n) {i : Nat} : dotS (staM F T q nm n i) x n = if i = n - 1 then sumN x n else netS F T q x nm i := by
  by_cases e : i = n - 1
  · have h1 : staM F T q nm n i = fun _ => 1 := by funext j; unfold staM; rw [if_pos e]
    rw [h1, dotS_ones, if_pos e]
  · have h1 : staM F T q nm n i = staK F T q nm i := by funext j; unfold staM; rw [if_neg e]
    rw [h1, dot_sta hF i (Nat.le_refl _), if_neg e]
theorem UnS.rank (h : UnS nm n F T q a) : (gj n (staM F T q nm n) n).2.length = n := by
  have hn := h.lt
  have hF : ∀ k, k < nm → F k < n ∧ T k < n := fun k hk => ⟨(h.mv k hk).1, (h.mv k hk).2.1⟩
  refine rank_full fun x hx => ?_
  have h1 : sumN x n = 0 := by
    have := hx (n - 1) (by omega)
    rw [staM_dot hF, if_pos rfl] at this
    exact this
  exact h.zero (net_last hF (by omega) fun i hi hne => by
    have := hx i hi
    rw [staM_dot hF, if_neg hne] at this
    exact this) h1
/-- the stationary distribution -/
def staX (F T : Nat → Nat) (q : Nat → Rat) (nm n : Nat) : Nat → Rat := fun t => if t < n then (gj n (wide (staM F T q nm n) (fun i => if i = n - 1 then 1 else 0) n) (n + 1)).1 t n else 0
theorem UnS.staX_eq (h : UnS nm n F T q a) : codeS n n (wide (staM F T q nm n) (fun i => if i = n - 1 then 1 else 0) n) = 0 ∧ (∀ i, i < n → netS F T q (staX F T q nm n) nm i = 0) ∧ sumN (staX F T q nm n) n = 1 := by
  have hn := h.lt
  have hF : ∀ k, k < nm → F k < n ∧ T k < n := fun k hk => ⟨(h.mv k hk).1, (h.mv k hk).2.1⟩
  obtain ⟨h1, h2⟩ := solve_full (y := fun i => if i = n - 1 then 1 else 0) h.rank
  have h3 : ∀ i, i < n → dotS (staM F T q nm n i) (staX F T q nm n) n = if i = n - 1 then 1 else 0 := fun i hi => by
    rw [← h2 i hi]
    refine dotS_congr (fun _ _ => rfl) fun t ht => ?_
    unfold staX
    rw [if_pos ht]
  refine ⟨h1, net_last hF (by omega) fun i hi hne => ?_, ?_⟩
  · have := h3 i hi
    rw [staM_dot hF, if_neg hne, if_neg hne] at this
    exact this
  · have := h3 (n - 1) (by omega)
    rw [staM_dot hF, if_pos rfl, if_pos rfl] at this
    exact this
end
end Go.Proofs.YtmebdlilbnadgaaGreatDoor
namespace Go.Proofs.YtmebdlilbnadgaaGreatDoor
set_option linter.unusedSimpArgs false
set_option linter.unusedVariables false
/-! ## closed classes (plain) -/
section
variable {F T : Nat → Nat} {nm n : Nat}
/-- the states that a state reaches -/
def rsF (F T : Nat → Nat) (nm n a : Nat) : Nat → Bool := sprN (fun _ => true) F T nm (upd (fun _ => false) a true) n
theorem rs_self (a : Nat) : rsF F T nm n a a = true := sprN_grow (by unfold upd; rw [if_pos rfl]) _
theorem rs_shut (hT : ∀ k, k < nm → T k < n) {a k : Nat} (hk : k < nm) (h : rsF F T nm n a (F k) = true) : rsF F T nm n a (T k) = true := sprN_shut (G := fun _ => true) hT k hk h rfl
theorem rs_min {P : Nat → Prop} (hP : ∀ k, k < nm → P (F k) → P (T k)) {a b : Nat} (ha : P a) (h : rsF F T nm n a b = true) : P b :=
  sprN_ind (P := P) (fun k hk hp _ => hP k hk hp) (fun s hs => by
    unfold upd at hs
    split at hs
    · rename_i e; rw [e]; exact ha
    · cases hs) n b h
theorem rs_trans (hT : ∀ k, k < nm → T k < n) {a b d : Nat} (h1 : rsF F T nm n a b = true) (h2 : rsF F T nm n b d = true) : rsF F T nm n a d = true :=
  rs_min (P := fun s => rsF F T nm n a s = true) (fun k hk h => rs_shut hT hk h) h1 h2
theorem rs_lt (hT : ∀ k, k < nm → T k < n) {a b : Nat} (ha : a < n) (h : rsF F T nm n a b = true) : b < n :=
  rs_min (P := fun s => s < n) (fun k hk _ => hT k hk) ha h
/-- a is the first state of a closed class -/
def clB (F T : Nat → Nat) (nm n a : Nat) : Bool := (List.range n).all fun b => !rsF F T nm n a b || (decide (a ≤ b) && rsF F T nm n b a)
theorem clB_iff {a : Nat} : clB F T nm n a = true ↔ ∀ b, b < n → rsF F T nm n a b = true → a ≤ b ∧ rsF F T nm n b a = true := by
  unfold clB
  rw [List.all_eq_true]
  constructor
  · intro h b hb hr
    have := h b (List.mem_range.2 hb)
    rw [hr] at this
    simpa using this
  · intro h b hb
    cases hr : rsF F T nm n a b
    · rfl
    · have := h b (List.mem_range.1 hb) hr
      simp [this.1, this.2]
theorem least {P : Nat → Prop} : ∀ {m s : Nat}, s ≤ m → P s → ∃ a, P a ∧ a ≤ s ∧ ∀ b, P b → a ≤ b
  | 0, s, hs, hp => ⟨s, hp, Nat.le_refl _, fun b _ => by omega⟩
  | m + 1, s, hs, hp => by
    by_cases h : ∃ b, b < s ∧ P b
    · obtain ⟨b, hb, hpb⟩ := h
      obtain ⟨a, h1, h2, h3⟩ := least (m := m) (s := b) (by omega) hpb
      exact ⟨a, h1, by omega, h3⟩
    · exact ⟨s, hp, Nat.le_refl _, fun b hb => by
        apply Classical.byContradiction
        intro hlt
        exact h ⟨b, by omega, hb⟩⟩
/-- every state reaches a closed class -/
theorem class_of (hT : ∀ k, k < nm → T k < n) : ∀ (m s : Nat), s < n → cnt (rsF F T nm n s) n ≤ m → ∃ a, a < n ∧ clB F T nm n a = true ∧ rsF F T nm n s a = true
  | m, s, hs, hc => by
    by_cases h : ∀ b, rsF F T nm n s b = true → rsF F T nm n b s = true
    · obtain ⟨a, h1, h2, h3⟩ := least (P := fun b => rsF F T nm n s b = true) (m := s) (Nat.le_refl s) (rs_self s)
      refine ⟨a, by omega, clB_iff.2 fun b hb hr => ?_, h1⟩
      have h4 := rs_trans hT h1 hr
      exact ⟨h3 b h4, rs_trans hT (h b h4) h1⟩
    · obtain ⟨b, hb⟩ := Classical.not_forall.1 h
      obtain ⟨hb1, hb2⟩ := Classical.not_imp.1 hb
      have hbn := rs_lt hT hs hb1
      have hlt : cnt (rsF F T nm n b) n < cnt (rsF F T nm n s) n := cnt_lt (l := rsF F T nm n b) (m := rsF F T nm n s) (t := s) (fun d hd => rs_trans hT hb1 hd) (by simpa using hb2) (rs_self s) hs
      match m, hc with
      | 0, hc => omega
      | m + 1, hc =>
        obtain ⟨a, h1, h2, h3⟩ := class_of hT m b hbn (by omega)
        exact ⟨a, h1, h2, rs_trans hT hb1 h3⟩
/-- the only closed class -/
theorem class_un {q : Nat → Rat} (hm : ∀ k, k < nm → F k < n ∧ T k < n ∧ F k ≠ T k ∧ 0 < q k) (h1 : cntB (clB F T nm n) n = 1) : UnS nm n F T q (ixB (clB F T nm n) n 0) := by
  have hT : ∀ k, k < nm → T k < n := fun k hk => (hm k hk).2.1
  have ha := ixB_lt (B := clB F T nm n) (n := n) (i := 0) (by omega)
  refine ⟨hm, ha.1, fun P hP s hs hp => ?_⟩
  obtain ⟨a, h2, h3, h4⟩ := class_of (F := F) hT _ s hs (Nat.le_refl _)
  have h5 := ixB_cnt h2 h3
  have h6 : cntB (clB F T nm n) a = 0 := by omega
  rw [h6] at h5
  rw [h5.2]
  exact rs_min hP hp h4
end
end Go.Proofs.YtmebdlilbnadgaaGreatDoor
namespace Go.Proofs.YtmebdlilbnadgaaGreatDoor
set_option linter.unusedSimpArgs false
set_option linter.unusedVariables false
/-! ## the system of the only closed class has the same solution as the whole system (plain) -/
section
variable {F T : Nat → Nat} {q x y : Nat → Rat} {nm n a : Nat} {B : Nat → Bool}
theorem net_but (hF : ∀ k, k < nm → F k < n ∧ T k < n) {e : Nat} (he : e < n) (h : ∀ i, i < n → i ≠ e → netS F T q x nm i = 0) : ∀ i, i < n → netS F T q x nm i = 0 := by
  have h1 := net_all (x := x) (q := q) hF
  have h2 : sumN (netS F T q x nm) n = netS F T q x nm e := by
    have : sumN (netS F T q x nm) n = sumN (fun i => if i = e then netS F T q x nm i else 0) n := sumN_congr fun i hi => by
      by_cases h3 : i = e
      · rw [if_pos h3]
      · rw [if_neg h3, h i hi h3]
    rw [this, sumN_pick, if_pos he]
  intro i hi
  by_cases h3 : i = e
  · rw [h3, ← h2, h1]
  · exact h i hi h3
theorem extB_sum {m : Nat} : sumN (extB B y) m = sumN y (cntB B m) := by
  induction m with
  | zero => rfl
  | succ m ih =>
    rw [sumN, ih]
    cases hb : B m
    · rw [cntB_no hb]
      unfold extB
      simp [hb]
      grind
    · rw [cntB_yes hb, sumN]
      unfold extB
      simp [hb]
theorem extB_off {s : Nat} (h : B s = false) : extB B y s = 0 := by unfold extB; rw [h]; simp
/-- outside of a closed set nothing comes in -/
theorem extB_net (hB : ∀ k, k < nm → B (F k) = true → B (T k) = true) {i : Nat} (hi : B i = false) : netS F T q (extB B y) nm i = 0 := sumN_nil fun k hk => by
  unfold netT
  have h1 : T k = i → extB B y (F k) = 0 := fun e => by
    cases hf : B (F k)
    · exact extB_off hf
    · have := hB k hk hf
      rw [e, hi] at this
      cases this
  have h2 : F k = i → extB B y (F k) = 0 := fun e => by rw [e]; exact extB_off hi
  split
  · rename_i e
    rw [h1 e]
    split <;> grind
  · split
    · rename_i e; rw [h2 e]; grind
    · grind
/-- the matrix of a class, the last row for the sum -/
def parQ (B : Nat → Bool) (F T : Nat → Nat) (q : Nat → Rat) (nm n : Nat) : Mf := fun i j => if i = cntB B n - 1 then 1 else staK F T q nm (ixB B n i) (ixB B n j)
theorem parQ_dot (hF : ∀ k, k < nm → F k < n ∧ T k < n) {i : Nat} : dotS (parQ B F T q nm n i) y (cntB B n) = if i = cntB B n - 1 then sumN y (cntB B n) else netS F T q (extB B y) nm (ixB B n i) := by
  by_cases e : i = cntB B n - 1
  · have h1 : parQ B F T q nm n i = fun _ => 1 := by funext j; unfold parQ; rw [if_pos e]
    rw [h1, dotS_ones, if_pos e]
  · have h1 : parQ B F T q nm n i = fun j => staK F T q nm (ixB B n i) (ixB B n j) := by funext j; unfold parQ; rw [if_neg e]
    rw [h1, if_neg e, dotS_kept (f := staK F T q nm (ixB B n i)) (Nat.le_refl n), dot_sta hF _ (Nat.le_refl _)]
theorem par_net (hF : ∀ k, k < nm → F k < n ∧ T k < n) (hB : ∀ k, k < nm → B (F k) = true → B (T k) = true) (hm : 0 < cntB B n) (h : ∀ i, i < cntB B n → i ≠ cntB B n - 1 → netS F T q (extB B y) nm (ixB B n i) = 0) : ∀ i, i < n → netS F T q (extB B y) nm i = 0 := by
  refine net_but hF (ixB_lt (B := B) (n := n) (i := cntB B n - 1) (by omega)).1 fun i hi hne => ?_
  cases hb : B i
  · exact extB_net hB hb
  · obtain ⟨h1, h2⟩ := ixB_cnt hi hb
    have := h (cntB B i) h1 (fun e => hne (by rw [← e, h2]))
    rw [h2] at this
    exact this
theorem UnS.par_rank (h : UnS nm n F T q a) (hB : ∀ k, k < nm → B (F k) = true → B (T k) = true) (ha : B a = true) : (gj (cntB B n) (parQ B F T q nm n) (cntB B n)).2.length = cntB B n := by
  have hF : ∀ k, k < nm → F k < n ∧ T k < n := fun k hk => ⟨(h.mv k hk).1, (h.mv k hk).2.1⟩
  have hm : 0 < cntB B n := by have := (ixB_cnt h.lt ha).1; omega
  refine rank_full fun y hy => ?_
  have h1 : sumN (extB B y) n = 0 := by
    have := hy (cntB B n - 1) (by omega)
    rw [parQ_dot hF, if_pos rfl] at this
    rw [extB_sum]
    exact this
  have h2 := h.zero (par_net hF hB hm fun i hi hne => by
    have := hy i hi
    rw [parQ_dot hF, if_neg hne] at this
    exact this) h1
  intro j hj
  have h3 := ixB_lt (B := B) (n := n) hj
  have h4 := h2 _ h3.1
  unfold extB at h4
  rw [if_pos h3.2, cntB_ix hj] at h4
  exact h4
/-- the class' system has the same solution -/
theorem UnS.par_eq (h : UnS nm n F T q a) (hB : ∀ k, k < nm → B (F k) = true → B (T k) = true) (ha : B a = true) :
    codeS (cntB B n) (cntB B n) (wide (parQ B F T q nm n) (fun i => if i = cntB B n - 1 then 1 else 0) (cntB B n)) = 0 ∧
    ∀ s, s < n → extB B (fun t => (gj (cntB B n) (wide (parQ B F T q nm n) (fun i => if i = cntB B n - 1 then 1 else 0) (cntB B n)) (cntB B n + 1)).1 t (cntB B n)) s = staX F T q nm n s := by
  have hF : ∀ k, k < nm → F k < n ∧ T k < n := fun k hk => ⟨(h.mv k hk).1, (h.mv k hk).2.1⟩
  have hm : 0 < cntB B n := by have := (ixB_cnt h.lt ha).1; omega
  obtain ⟨h1, h2⟩ := solve_full (y := fun i => if i = cntB B n - 1 then 1 else 0) (h.par_rank hB ha)
  refine ⟨h1, ?_⟩
  generalize (fun t => (gj (cntB B n) (wide (parQ B F T q nm n) (fun i => if i = cntB B n - 1 then 1 else 0) (cntB B n)) (cntB B n + 1)).1 t (cntB B n)) = y at *
  obtain ⟨-, h3, h4⟩ := h.staX_eq
  refine h.unique (par_net hF hB hm fun i hi hne => ?_) h3 ?_
  · have := h2 i hi
    rw [parQ_dot hF, if_neg hne, if_neg hne] at this
    exact this
  · have := h2 (cntB B n - 1) (by omega)
    rw [parQ_dot hF, if_pos rfl, if_pos rfl] at this
    rw [extB_sum, h4]
    exact this
/-- above 0 exactly in the class -/
theorem UnS.staX_pos (h : UnS nm n F T q a) (hmin : ∀ P : Nat → Prop, (∀ k, k < nm → P (F k) → P (T k)) → P a → ∀ s, B s = true → P s) (hB : ∀ k, k < nm → B (F k) = true → B (T k) = true) (ha : B a = true) (s : Nat) (hs : s < n) :
    0 ≤ staX F T q nm n s ∧ (0 < staX F T q nm n s ↔ B s = true) := by
  obtain ⟨-, h3, h4⟩ := h.staX_eq
  obtain ⟨h5, h6⟩ := h.dist h3 h4
  refine ⟨h5 s hs, fun hp => ?_, fun hb => ?_⟩
  · cases hb : B s
    · have := (h.par_eq hB ha).2 s hs
      rw [extB_off hb] at this
      rw [← this] at hp
      exact absurd hp (by decide)
    · rfl
  · exact hmin (fun s => 0 < staX F T q nm n s) (pos_shut h.mv h3) h6 s hb
end
end Go.Proofs.YtmebdlilbnadgaaGreatDoor
namespace Go.Proofs.YtmebdlilbnadgaaGreatDoor
set_option linter.unusedSimpArgs false
set_option linter.unusedVariables false
/-! ## the stationary distribution of a chain; how great its numbers are (plain) -/
section
variable {nm n P : Nat} {q : Nat → Rat} {F T : Nat → Nat}
theorem staK_s (F T : Nat → Nat) (q : Nat → Rat) (k i j : Nat) : staK F T q (k + 1) i j = staK F T q k i j + (if i = T k ∧ j = F k then q k else 0) - (if i = F k ∧ j = F k then q k else 0) := rfl
theorem staK_fz (h : Rts nm q P) (i j : Nat) : ∀ k, k ≤ nm → Fz P (2 * k * (4294967296 * P)) (staK F T q k i j)
  | 0, _ => (Fz.zero P).le (by omega)
  | k + 1, hk => by
    have ih := staK_fz h i j k (by omega)
    have hq := h.fz k (by omega)
    have h0 : ∀ (p : Prop) [Decidable p], Fz P (4294967296 * P) (if p then q k else 0) := fun p _ => by
      split
      · exact hq
      · exact (Fz.zero P).le (by omega)
    have e : 2 * (k + 1) * (4294967296 * P) = 2 * k * (4294967296 * P) + 4294967296 * P + 4294967296 * P := by
      rw [Nat.mul_add, Nat.add_mul]; omega
    rw [e, staK_s]
    exact (ih.add (h0 _)).sub (h0 _)
theorem staK_sz (h : Rts nm q P) (i j : Nat) {k : Nat} (hk : k ≤ nm) : Sz 20 (staK F T q k i j) := by
  refine (staK_fz h i j k hk).sz h.ne (by omega) (lt_wp_more h.lt (by omega)) ?_
  have h1 : 2 * k * 4294967296 < wp 2 := Nat.lt_of_le_of_lt (Nat.mul_le_mul_right _ (by have := h.few; omega)) wp2b
  have := wp_mul_lt h1 h.lt
  rw [Nat.mul_assoc] at this
  exact lt_wp_more this (by omega)
theorem staX_sz (h : Rts nm q P) (hn : n ≤ 9) (s : Nat) : Sz 21400000 (staX F T q nm n s) := by
  unfold staX
  split
  · rename_i hs
    have hg := gj_sz (n := n) (c := n + 1) (L := 20) (M := wide (staM F T q nm n) (fun i => if i = n - 1 then 1 else 0) n) (by omega) (fun a b ha hb => by
      unfold wide
      split
      · unfold staM
        split
        · exact Sz.one (by omega)
        · exact staK_sz h a b (Nat.le_refl _)
      · show Sz 20 (if a = n - 1 then (1 : Rat) else 0)
        split
        · exact Sz.one (by omega)
        · exact Sz.zero (by omega)) (n + 1) (Nat.le_refl _) s n hs (by omega)
    have h1 := gl_mono (L := 20) (show n + 1 ≤ 10 by omega)
    have h2 : gl 20 10 ≤ 21400000 := by decide +kernel
    exact hg.more (by omega)
  · exact Sz.zero (by omega)
theorem staX_fz (h : Rts nm q P) (hn : n ≤ 9) : FzL 220000000 (staX F T q nm n) := by
  obtain ⟨L, hL⟩ : ∃ L, L = 21400000 := ⟨_, rfl⟩
  have hsz : ∀ s, s < n → Sz L (staX F T q nm n s) := fun s _ => by rw [hL]; exact staX_sz h hn s
  have h1 := FzL.of_sz (v := staX F T q nm n) (n := n) (L := L) hsz (fun s hs => by unfold staX; rw [if_neg (by omega)]) (by omega)
  have h2 : n * L ≤ 9 * L := Nat.mul_le_mul_right _ hn
  obtain ⟨M, hM⟩ : ∃ M, M = 220000000 := ⟨_, rfl⟩
  have h3 : n * L + L + 1 ≤ M := by omega
  rw [← hM]
  exact h1.more h3
end
section
variable {c : Chn}
/-- the number of closed classes -/
def Chn.ncl (c : Chn) : Nat := cntB (clB c.f c.t c.nm c.nd) c.nd
/-- the first state of the first one -/
def Chn.cl0 (c : Chn) : Nat := ixB (clB c.f c.t c.nm c.nd) c.nd 0
/-- its states -/
def Chn.clS (c : Chn) : Nat → Bool := rsF c.f c.t c.nm c.nd c.cl0
/-- the stationary distribution -/
def Chn.pi (c : Chn) : Nat → Rat := staX c.f c.t c.q c.nm c.nd
theorem Chn.mvA (ok : c.Ok) : ∀ k, k < c.nm → c.f k < c.nd ∧ c.t k < c.nd ∧ c.f k ≠ c.t k ∧ 0 < c.q k := fun k hk => by
  have h1 := Chn.ftA ok k hk
  exact ⟨h1.1, h1.2.1, h1.2.2, (ok.mv k hk).2.2.2.2.2.1⟩
theorem Chn.uns (ok : c.Ok) (h : c.ncl = 1) : UnS c.nm c.nd c.f c.t c.q c.cl0 := class_un (Chn.mvA ok) h
theorem Chn.clS_shut (ok : c.Ok) : ∀ k, k < c.nm → c.clS (c.f k) = true → c.clS (c.t k) = true := fun k hk h => rs_shut (Chn.lt_t ok) hk h
theorem Chn.clS_0 : c.clS c.cl0 = true := rs_self _
/-- what the class' system gives -/
theorem Chn.pi_par (ok : c.Ok) (h : c.ncl = 1) : codeS (cntB c.clS c.nd) (cntB c.clS c.nd) (wide (parQ c.clS c.f c.t c.q c.nm c.nd) (fun i => if i = cntB c.clS c.nd - 1 then 1 else 0) (cntB c.clS c.nd)) = 0 ∧
    ∀ s, s < c.nd → extB c.clS (fun t => (gj (cntB c.clS c.nd) (wide (parQ c.clS c.f c.t c.q c.nm c.nd) (fun i => if i = cntB c.clS c.nd - 1 then 1 else 0) (cntB c.clS c.nd)) (cntB c.clS c.nd + 1)).1 t (cntB c.clS c.nd)) s = c.pi s := (Chn.uns ok h).par_eq (Chn.clS_shut ok) Chn.clS_0
theorem Chn.pi_pos (ok : c.Ok) (h : c.ncl = 1) (s : Nat) (hs : s < c.nd) : 0 ≤ c.pi s ∧ (0 < c.pi s ↔ c.clS s = true) :=
  (Chn.uns ok h).staX_pos (fun P hP hp s hb => rs_min hP hp hb) (Chn.clS_shut ok) Chn.clS_0 s hs
end
/-- what flows from a set into its complement flows back -/
theorem flow_back {F T : Nat → Nat} {q x : Nat → Rat} {nm n : Nat} {D : Nat → Bool} (hF : ∀ k, k < nm → F k < n ∧ T k < n) (h : ∀ i, i < n → netS F T q x nm i = 0) :
    sumN (fun k => if (!D (F k) && D (T k)) = true then x (F k) * q k else 0) nm = sumN (fun k => if (D (F k) && !D (T k)) = true then x (F k) * q k else 0) nm := by
  have h1 := net_sum (x := x) (q := q) hF (fun s => if D s = true then 1 else 0)
  rw [sumN_nil fun i hi => by rw [h i hi]; grind] at h1
  have h2 : sumN (fun k => x (F k) * q k * ((if D (T k) = true then 1 else 0) - (if D (F k) = true then 1 else 0))) nm = sumN (fun k => (if (!D (F k) && D (T k)) = true then x (F k) * q k else 0) - (if (D (F k) && !D (T k)) = true then x (F k) * q k else 0)) nm := sumN_congr fun k _ => by
    cases D (F k) <;> cases D (T k) <;> simp <;> grind
  rw [h2, sumN_sub] at h1
  grind
end Go.Proofs.YtmebdlilbnadgaaGreatDoor
namespace Go.Proofs.YtmebdlilbnadgaaGreatDoor
set_option linter.unusedSimpArgs false
set_option linter.unusedVariables false
/-! ## balance, down states, frequency (plain) -/
/-- the balance of all states after k moves -/
def netK (F T : Nat → Nat) (q x : Nat → Rat) (k : Nat) : Nat → Rat := fun i => netS F T q x k i
/-- the flow along the first k moves that satisfy G -/
def floG (G : Nat → Bool) (F : Nat → Nat) (q x : Nat → Rat) : Nat → Rat
  | 0 => 0
  | k + 1 => if G k then floG G F q x k + x (F k) * q k else floG G F q x k
section
variable {F T : Nat → Nat} {q x : Nat → Rat} {nm n P L : Nat} {G : Nat → Bool} {D : Nat → Bool}
theorem netK_0 : netK F T q x 0 = fun _ => 0 := rfl
theorem netK_s {k : Nat} (h : F k ≠ T k) : netK F T q x (k + 1) = upd (upd (netK F T q x k) (F k) (netK F T q x k (F k) - x (F k) * q k)) (T k) (netK F T q x k (T k) + x (F k) * q k) := by
  funext i
  unfold upd netK
  rw [netS, sumN, ← netS]
  unfold netT
  by_cases e1 : i = T k
  · subst e1
    rw [if_pos rfl, if_pos rfl, if_neg h]
    grind
  · rw [if_neg (fun e => e1 e.symm), if_neg e1]
    by_cases e2 : i = F k
    · subst e2
      rw [if_pos rfl, if_pos rfl]
      grind
    · rw [if_neg (fun e => e2 e.symm), if_neg e2]
      grind
theorem floG_yes {k : Nat} (h : G k = true) : floG G F q x (k + 1) = floG G F q x k + x (F k) * q k := by rw [floG, if_pos h]
theorem floG_no {k : Nat} (h : G k = false) : floG G F q x (k + 1) = floG G F q x k := by rw [floG, if_neg (by rw [h]; simp)]
theorem floG_sum : ∀ {k : Nat}, floG G F q x k = sumN (fun j => if G j then x (F j) * q j else 0) k
  | 0 => rfl
  | k + 1 => by
    rw [floG, sumN, ← floG_sum (k := k)]
    split
    · rfl
    · grind
/-- sizes -/
theorem FzL.bals (hv : FzL L x) (h : Rts nm q P) : (∀ k, k ≤ 300 → Sz (L + 24) (sumN x k)) ∧ (∀ k, k < nm → ∀ s, Sz (L + 24) (x s * q k)) ∧ (∀ k, k ≤ nm → ∀ s, Sz (L + 24) (netK F T q x k s)) ∧ (∀ k, k ≤ nm → ∀ (G : Nat → Bool), Sz (L + 24) (floG G F q x k)) ∧ ∀ k, k ≤ 300 → ∀ (D : Nat → Bool), Sz (L + 24) (Go.Proofs.YtmebdlilbnadgaaGreatDoor.dsum D x k) := by
  obtain ⟨D, Z, h0, h1, h2, h3⟩ := hv
  have hP := h.lt
  have hfew := h.few
  have hD0 : P * D ≠ 0 := Nat.mul_ne_zero h.ne h0
  have hD1 : P * D < wp (16 + L) := wp_mul_lt hP h1
  have b1 : 4294967296 * P < wp 17 := by rw [← wp_lt_succ]; omega
  have b2 : 4294967296 * P * Z < wp (17 + L) := wp_mul_lt b1 h2
  have hX : ∀ k, k < nm → ∀ s, Fz (P * D) (4294967296 * P * Z) (x s * q k) := fun k hk s => by rw [Rat.mul_comm]; exact (h.fz k hk).mul (h3 s)
  have fin0 : ∀ {a : Rat} {k : Nat}, k ≤ 300 → Fz D (k * Z) a → Sz (L + 24) a := fun {a k} hk ha => by
    refine ha.sz h0 (by omega) (lt_wp_more h1 (by omega)) ?_
    have b4 : k * Z < wp (1 + L) := wp_mul_lt (by rw [wp_one]; omega) h2
    exact lt_wp_more b4 (by omega)
  have hS : ∀ k, Fz D (k * Z) (sumN x k) := fun k => by
    induction k with
    | zero => exact (Fz.zero _).le (by omega)
    | succ k ih =>
      rw [sumN, Nat.succ_mul]
      exact ih.add (h3 k)
  have hDs : ∀ (B : Nat → Bool) k, Fz D (k * Z) (Go.Proofs.YtmebdlilbnadgaaGreatDoor.dsum B x k) := fun B k => by
    induction k with
    | zero => exact (Fz.zero _).le (by omega)
    | succ k ih =>
      rw [Go.Proofs.YtmebdlilbnadgaaGreatDoor.dsum, Nat.succ_mul]
      split
      · exact ih.add (h3 k)
      · exact ih.le (by omega)
  generalize 4294967296 * P * Z = X at *
  generalize P * D = E at *
  have fin : ∀ {a : Rat} {k : Nat}, k ≤ 240 → Fz E (k * X) a → Sz (L + 24) a := fun {a k} hk ha => by
    refine ha.sz hD0 (by omega) (lt_wp_more hD1 (by omega)) ?_
    have b4 : k * X < wp (1 + (17 + L)) := wp_mul_lt (by rw [wp_one]; omega) b2
    exact lt_wp_more b4 (by omega)
  have hN : ∀ k, k ≤ nm → ∀ s, Fz E (2 * k * X) (netK F T q x k s) := fun k hk s => by
    induction k with
    | zero => exact (Fz.zero _).le (by omega)
    | succ k ih =>
      have ih := ih (by omega)
      have e : 2 * (k + 1) * X = 2 * k * X + (X + X) := by rw [Nat.mul_add, Nat.add_mul]; omega
      rw [e]
      show Fz E _ (netS F T q x (k + 1) s)
      rw [netS, sumN, ← netS]
      refine ih.add ?_
      unfold netT
      refine Fz.sub ?_ ?_
      · split
        · exact hX k (by omega) _
        · exact (Fz.zero _).le (by omega)
      · split
        · exact hX k (by omega) _
        · exact (Fz.zero _).le (by omega)
  have hG : ∀ (G : Nat → Bool), ∀ k, k ≤ nm → Fz E (k * X) (floG G F q x k) := fun G k hk => by
    induction k with
    | zero => exact (Fz.zero _).le (by omega)
    | succ k ih =>
      have ih := ih (by omega)
      rw [floG, Nat.succ_mul]
      split
      · exact ih.add (hX k (by omega) _)
      · exact ih.le (by omega)
  exact ⟨fun k hk => fin0 hk (hS k), fun k hk s => fin (k := 1) (by omega) ((hX k hk s).le (by omega)), fun k hk s => fin (k := 2 * k) (by omega) (hN k hk s), fun k hk G => fin (k := k) (by omega) (hG G k hk), fun k hk B => fin0 hk (hDs B k)⟩
end
/-- the number of the error of a chain and a distribution -/
def Chn.codeB (c : Chn) (n : Nat) (R : Nat → Rw) : Int := if c.code ≠ 0 then c.code else if n ≠ c.nd then 11 else if allV n R then 0 else 2
/-- the distribution is balanced -/
def Chn.okB (c : Chn) (x : Nat → Rat) : Prop := (∀ s, s < c.nd → 0 ≤ x s) ∧ sumN x c.nd = 1 ∧ ∀ i, i < c.nd → netS c.f c.t c.q x c.nm i = 0
def Chn.balB (c : Chn) (x : Nat → Rat) : Bool := (List.range c.nd).all (fun s => decide (0 ≤ x s)) && (decide (sumN x c.nd = 1) && (List.range c.nd).all fun i => decide (netS c.f c.t c.q x c.nm i = 0))
theorem Chn.bal_iff {c : Chn} {x : Nat → Rat} : c.balB x = true ↔ c.okB x := by
  unfold Chn.balB Chn.okB
  rw [Bool.and_eq_true, Bool.and_eq_true, List.all_eq_true, List.all_eq_true]
  refine ⟨fun h => ⟨fun s hs => of_decide_eq_true (h.1 s (List.mem_range.2 hs)), of_decide_eq_true h.2.1, fun i hi => of_decide_eq_true (h.2.2 i (List.mem_range.2 hi))⟩, fun h => ⟨fun s hs => decide_eq_true (h.1 s (List.mem_range.1 hs)), decide_eq_true h.2.1, fun i hi => decide_eq_true (h.2.2 i (List.mem_range.1 hi))⟩⟩
theorem Chn.codeB_0 {c : Chn} {n : Nat} {R : Nat → Rw} (h : c.codeB n R = 0) : c.code = 0 ∧ n = c.nd ∧ allV n R = true := by
  unfold Chn.codeB at h
  split at h
  · contradiction
  · rename_i h1
    split at h
    · omega
    · rename_i h2
      split at h
      · rename_i h3; exact ⟨by omega, by omega, h3⟩
      · omega
theorem Chn.codeB_a {c : Chn} {n : Nat} {R : Nat → Rw} (h : c.code ≠ 0) : c.codeB n R = c.code := by unfold Chn.codeB; rw [if_pos h]
theorem Chn.codeB_n {c : Chn} {n : Nat} {R : Nat → Rw} (h : c.code = 0) (hn : n ≠ c.nd) : c.codeB n R = 11 := by unfold Chn.codeB; rw [if_neg (by omega), if_pos hn]
theorem Chn.codeB_v {c : Chn} {n : Nat} {R : Nat → Rw} (h : c.code = 0) (hn : n = c.nd) (hv : allV n R = false) : c.codeB n R = 2 := by unfold Chn.codeB; rw [if_neg (by omega), if_neg (by omega), if_neg (by rw [hv]; simp)]
theorem Chn.codeB_z {c : Chn} {n : Nat} {R : Nat → Rw} (h : c.code = 0) (hn : n = c.nd) (hv : allV n R = true) : c.codeB n R = 0 := by unfold Chn.codeB; rw [if_neg (by omega), if_neg (by omega), if_pos hv]
theorem Chn.bal_yes {c : Chn} {x : Nat → Rat} (h : c.okB x) : c.balB x = true := Chn.bal_iff.2 h
theorem Chn.bal_no {c : Chn} {x : Nat → Rat} (h : ¬ c.okB x) : c.balB x = false := by
  cases e : c.balB x
  · rfl
  · exact absurd (Chn.bal_iff.1 e) h
theorem Chn.bal_ok {c : Chn} {x : Nat → Rat} (h : c.balB x = true) : c.okB x := Chn.bal_iff.1 h
/-- .. and the distribution is balanced -/
def Chn.codeCe (c : Chn) (n : Nat) (R : Nat → Rw) : Int := if c.codeB n R ≠ 0 then c.codeB n R else if c.balB (vecQ n R) then 0 else 15
/-- what Balanced answers -/
def Chn.balV (c : Chn) (n : Nat) (R : Nat → Rw) : Bool := if c.codeB n R = 0 then c.balB (vecQ n R) else false
/-- the frequency of failures -/
def Chn.frq (c : Chn) (x : Nat → Rat) : Nat → Rat := floG (fun k => !c.D (c.f k) && c.D (c.t k)) c.f c.q x
/-- the stationary distribution is balanced -/
theorem Chn.pi_ok {c : Chn} (ok : c.Ok) (h : c.ncl = 1) : c.okB c.pi := by
  obtain ⟨-, h2, h3⟩ := (c.uns ok h).staX_eq
  exact ⟨fun s hs => (Chn.pi_pos ok h s hs).1, h3, h2⟩
end Go.Proofs.YtmebdlilbnadgaaGreatDoor
namespace Go.Proofs.YtmebdlilbnadgaaGreatDoor
set_option linter.unusedSimpArgs false
set_option linter.unusedVariables false
/-! ## multiplied rates; detailed distributions (plain) -/
section
variable {F T : Nat → Nat} {q x : Nat → Rat} {nm n a : Nat} {f : Rat}
/-- the rate from a state to another one -/
def rateF (F T : Nat → Nat) (q : Nat → Rat) (nm a b : Nat) : Rat := sumN (fun k => if F k = a ∧ T k = b then q k else 0) nm
theorem detailed_net (hF : ∀ k, k < nm → F k < n ∧ T k < n) (hd : ∀ a b, a < n → b < n → x a * rateF F T q nm a b = x b * rateF F T q nm b a) : ∀ i, i < n → netS F T q x nm i = 0 := by
  intro i hi
  have e1 : sumN (fun k => if T k = i then x (F k) * q k else 0) nm = sumN (fun j => x j * rateF F T q nm j i) n := by
    have e : sumN (fun j => x j * rateF F T q nm j i) n = sumN (fun j => sumN (fun k => x j * (if F k = j ∧ T k = i then q k else 0)) nm) n := sumN_congr fun j _ => by
      unfold rateF
      rw [sumN_smul]
    rw [e, sumN_swap]
    refine sumN_congr fun k hk => ?_
    have e2 : sumN (fun j => x j * (if F k = j ∧ T k = i then q k else 0)) n = sumN (fun j => if j = F k then (if T k = i then x j * q k else 0) else 0) n := sumN_congr fun j _ => by
      by_cases h1 : j = F k
      · by_cases h2 : T k = i
        · rw [if_pos h1, if_pos h2, if_pos ⟨h1.symm, h2⟩]
        · rw [if_pos h1, if_neg h2, if_neg (fun h => h2 h.2)]; grind
      · rw [if_neg h1, if_neg (fun h => h1 h.1.symm)]; grind
    rw [e2, sumN_pick, if_pos (hF k hk).1]
  have e3 : sumN (fun k => if F k = i then x (F k) * q k else 0) nm = sumN (fun j => x i * rateF F T q nm i j) n := by
    have e : sumN (fun j => x i * rateF F T q nm i j) n = sumN (fun j => sumN (fun k => x i * (if F k = i ∧ T k = j then q k else 0)) nm) n := sumN_congr fun j _ => by
      unfold rateF
      rw [sumN_smul]
    rw [e, sumN_swap]
    refine sumN_congr fun k hk => ?_
    have e2 : sumN (fun j => x i * (if F k = i ∧ T k = j then q k else 0)) n = sumN (fun j => if j = T k then (if F k = i then x (F k) * q k else 0) else 0) n := sumN_congr fun j _ => by
      by_cases h1 : j = T k
      · by_cases h2 : F k = i
        · rw [if_pos h1, if_pos h2, if_pos ⟨h2, h1.symm⟩, h2]
        · rw [if_pos h1, if_neg h2, if_neg (fun h => h2 h.1)]; grind
      · rw [if_neg h1, if_neg (fun h => h1 h.2.symm)]; grind
    rw [e2, sumN_pick, if_pos (hF k hk).2]
  have e4 : netS F T q x nm i = sumN (fun k => if T k = i then x (F k) * q k else 0) nm - sumN (fun k => if F k = i then x (F k) * q k else 0) nm := by
    rw [← sumN_sub]
    rfl
  rw [e4, e1, e3, sumN_congr (g := fun j => x i * rateF F T q nm i j) fun j hj => hd j i hj hi]
  exact Rat.sub_self
end
end Go.Proofs.YtmebdlilbnadgaaGreatDoor
namespace Go.Proofs.YtmebdlilbnadgaaGreatDoor
set_option linter.unusedSimpArgs false
set_option linter.unusedVariables false
/-! ## how great the numbers of package stationary are; multiplied rates (plain) -/
structure SizP (c : Chn) : Prop where
  ch : ChS c 400
  nm : c.nm ≤ 120
  nd : c.Ok → c.nd ≤ 9
  K : c.Ok → ∀ k, k ≤ c.nm → ∀ i j, Sz 400 (staK c.f c.t c.q k i j)
  bal : c.Ok → ∀ L x, FzL L x → (∀ k, k ≤ 300 → Sz (L + 40) (sumN x k)) ∧ (∀ k, k < c.nm → ∀ s, Sz (L + 40) (x s * c.q k)) ∧ (∀ k, k ≤ c.nm → ∀ s, Sz (L + 40) (netK c.f c.t c.q x k s)) ∧ (∀ k, k ≤ c.nm → ∀ (G : Nat → Bool), Sz (L + 40) (floG G c.f c.q x k)) ∧ ∀ k, k ≤ 300 → ∀ (D : Nat → Bool), Sz (L + 40) (Go.Proofs.YtmebdlilbnadgaaGreatDoor.dsum D x k)
section
variable {c : Chn} {f : Rat}
theorem Small.sizP (hS : Small c) : SizP c := ⟨hS.chS, hS.nm, hS.nd, fun ok k hk i j => (staK_sz (hS.rts ok) i j hk).more (by omega), fun ok L x hx => by
  obtain ⟨b1, b2, b3, b4, b5⟩ := hx.bals (F := c.f) (T := c.t) (hS.rts ok)
  exact ⟨fun k hk => (b1 k hk).more (by omega), fun k hk s => (b2 k hk s).more (by omega), fun k hk s => (b3 k hk s).more (by omega), fun k hk G => (b4 k hk G).more (by omega), fun k hk D => (b5 k hk D).more (by omega)⟩⟩
/-! ### the stationary distribution as a list of fractions -/
theorem Chn.pi_vec (c : Chn) : vecQ c.nd (can c.pi) = c.pi := by
  funext s
  unfold vecQ
  by_cases hs : s < c.nd
  · rw [if_pos hs]; exact valR_canR _
  · rw [if_neg hs]
    unfold Chn.pi staX
    rw [if_neg hs]
theorem Chn.pi_codeB (h0 : c.code = 0) : c.codeB c.nd (can c.pi) = 0 := Chn.codeB_z h0 rfl (allV_yes fun k _ => canR_valid _)
theorem Chn.pi_bal (h0 : c.code = 0) (h1 : c.ncl = 1) : c.balB (vecQ c.nd (can c.pi)) = true := by
  rw [Chn.pi_vec]
  exact Chn.bal_yes (Chn.pi_ok (Chn.ok_iff.1 h0) h1)
theorem Small.pi_sz (hS : Small c) (ok : c.Ok) (s : Nat) : Sz 21400000 (c.pi s) := staX_sz (hS.rts ok) (hS.nd ok) s
theorem Small.pi_fz (hS : Small c) (ok : c.Ok) : FzL 220000000 c.pi := staX_fz (hS.rts ok) (hS.nd ok)
/-! ### multiplied rates -/
end
end Go.Proofs.YtmebdlilbnadgaaGreatDoor
namespace Go.Proofs.YtmebdlilbnadgaaGreatDoor
set_option linter.unusedSimpArgs false
set_option linter.unusedVariables false
/-! ## what is reached, by a stack (plain) -/
def fB (F : Nat → Nat) (i : Nat) : Nat → Bool := fun j => decide (F j = i)
/-- where the first k moves lead out of i -/
def adj (F T : Nat → Nat) (k i : Nat) : List Nat := (kept (fB F i) k).map T
section
variable {F T : Nat → Nat} {nm n i a j k t : Nat} {seen : Nat → Bool} {st : List Nat}
theorem adj_zero : adj F T 0 = fun _ => [] := rfl
theorem adj_yes : adj F T (k + 1) (F k) = adj F T k (F k) ++ [T k] := by
  unfold adj
  rw [kept, if_pos (by simp [fB])]
  simp
theorem adj_no (h : F k ≠ i) : adj F T (k + 1) i = adj F T k i := by
  unfold adj
  rw [kept, if_neg (by simp [fB, h])]
theorem adj_upd : adj F T (k + 1) = upd (adj F T k) (F k) (adj F T k (F k) ++ [T k]) := by
  funext i
  by_cases h : i = F k
  · subst h
    rw [adj_yes, upd_same]
  · rw [adj_no (fun e => h e.symm), upd_ne _ _ h]
theorem adj_len : (adj F T k i).length = cntB (fB F i) k := by simp [adj, cntB]
theorem adj_le : (adj F T k i).length ≤ k := by rw [adj_len]; exact cntB_le
theorem adj_get (h : j < (adj F T nm i).length) : ∃ k, k < nm ∧ F k = i ∧ (adj F T nm i)[j] = T k ∧ cntB (fB F i) k = j := by
  have h1 : j < cntB (fB F i) nm := by rw [← adj_len (T := T)]; exact h
  obtain ⟨h2, h3⟩ := ixB_lt h1
  refine ⟨ixB (fB F i) nm j, h2, of_decide_eq_true h3, ?_, ?_⟩
  · have e : (adj F T nm i)[j]? = some (T (ixB (fB F i) nm j)) := by
      unfold adj ixB
      rw [List.getElem?_map, List.getD_eq_getElem?_getD, List.getElem?_eq_getElem (l := kept (fB F i) nm) (i := j) (by unfold cntB at h1; exact h1)]
      rfl
    rw [List.getElem?_eq_getElem h] at e
    exact Option.some.inj e
  · have h4 := ixB_cnt h2 h3
    rcases Nat.lt_trichotomy (cntB (fB F i) (ixB (fB F i) nm j)) j with h5 | h5 | h5
    · have := ixB_mono h5 h1
      rw [h4.2] at this
      omega
    · exact h5
    · have := ixB_mono h5 h4.1
      rw [h4.2] at this
      omega
def DfsI (F T : Nat → Nat) (nm n i : Nat) (seen : Nat → Bool) (st : List Nat) : Prop :=
  seen i = true ∧ (∀ s, seen s = true → rsF F T nm n i s = true) ∧ (∀ s ∈ st, seen s = true) ∧ ∀ k, k < nm → seen (F k) = true → F k ∉ st → seen (T k) = true
def DfsJ (F T : Nat → Nat) (nm n i : Nat) (seen : Nat → Bool) (st : List Nat) (a j : Nat) : Prop :=
  seen i = true ∧ (∀ s, seen s = true → rsF F T nm n i s = true) ∧ (∀ s ∈ st, seen s = true) ∧ seen a = true ∧ ∀ k, k < nm → seen (F k) = true → F k ∉ st → (F k = a → cntB (fB F a) k < j) → seen (T k) = true
theorem dfs_start : DfsI F T nm n i (upd (fun _ => false) i true) [i] := by
  have h : ∀ s, upd (fun _ => false) i true s = true → s = i := by
    intro s hs
    unfold upd at hs
    split at hs
    · assumption
    · cases hs
  refine ⟨by unfold upd; simp, fun s hs => by rw [h s hs]; exact rs_self i, fun s hs => ?_, fun k hk hs hn => ?_⟩
  · rw [List.mem_singleton] at hs
    rw [hs]; unfold upd; simp
  · exact absurd (by rw [h _ hs]; exact List.mem_singleton.2 rfl) hn
theorem dfs_pop (h : DfsI F T nm n i seen (st ++ [a])) : DfsJ F T nm n i seen st a 0 := by
  obtain ⟨h1, h2, h3, h4⟩ := h
  refine ⟨h1, h2, fun s hs => h3 s (List.mem_append_left _ hs), h3 a (by simp), fun k hk hs hn hj => h4 k hk hs ?_⟩
  rw [List.mem_append, List.mem_singleton]
  rintro (e | e)
  · exact hn e
  · exact absurd (hj e) (by omega)
theorem dfs_old (h : DfsJ F T nm n i seen st a j) (hk : k < nm) (hF : F k = a) (hj : cntB (fB F a) k = j) (ht : seen (T k) = true) : DfsJ F T nm n i seen st a (j + 1) := by
  obtain ⟨h1, h2, h3, h4, h5⟩ := h
  refine ⟨h1, h2, h3, h4, fun k' hk' hs hn hjj => ?_⟩
  by_cases e : k' = k
  · rw [e]; exact ht
  · refine h5 k' hk' hs hn fun ha => ?_
    have := hjj ha
    rcases Nat.lt_or_ge (cntB (fB F a) k') j with h | h
    · exact h
    · exfalso
      have h6 : cntB (fB F a) k' = cntB (fB F a) k := by omega
      have h7 := (ixB_cnt (B := fB F a) hk' (by simp [fB, ha])).2
      have h8 := (ixB_cnt (B := fB F a) hk (by simp [fB, hF])).2
      rw [h6, h8] at h7
      exact e h7.symm
theorem dfs_new (hT : ∀ k, k < nm → T k < n) (h : DfsJ F T nm n i seen st a j) (hk : k < nm) (hF : F k = a) (hj : cntB (fB F a) k = j) : DfsJ F T nm n i (upd seen (T k) true) (st ++ [T k]) a (j + 1) := by
  have h0 := h
  obtain ⟨h1, h2, h3, h4, h5⟩ := h
  have hu : ∀ s, seen s = true → upd seen (T k) true s = true := fun s hs => upd_true hs
  have hr : rsF F T nm n i (T k) = true := rs_shut hT hk (by rw [hF]; exact h2 a h4)
  have hv : ∀ s, upd seen (T k) true s = true → s = T k ∨ seen s = true := by
    intro s hs
    unfold upd at hs
    split at hs
    · exact .inl (by assumption)
    · exact .inr hs
  refine ⟨hu _ h1, fun s hs => ?_, fun s hs => ?_, hu _ h4, fun k' hk' hs hn hjj => ?_⟩
  · rcases hv s hs with e | e
    · rw [e]; exact hr
    · exact h2 s e
  · rw [List.mem_append, List.mem_singleton] at hs
    rcases hs with e | e
    · exact hu s (h3 s e)
    · rw [e]; unfold upd; simp
  · rw [List.mem_append, List.mem_singleton, not_or] at hn
    rcases hv _ hs with e | e
    · exact absurd e hn.2
    · by_cases e2 : k' = k
      · rw [e2]; unfold upd; simp
      · refine hu _ (h5 k' hk' e hn.1 fun ha => ?_)
        have := hjj ha
        rcases Nat.lt_or_ge (cntB (fB F a) k') j with h | h
        · exact h
        · exfalso
          have h6 : cntB (fB F a) k' = cntB (fB F a) k := by omega
          have h7 := (ixB_cnt (B := fB F a) hk' (by simp [fB, ha])).2
          have h8 := (ixB_cnt (B := fB F a) hk (by simp [fB, hF])).2
          rw [h6, h8] at h7
          exact e2 h7.symm
theorem dfs_done (h : DfsJ F T nm n i seen st a (adj F T nm a).length) : DfsI F T nm n i seen st := by
  obtain ⟨h1, h2, h3, h4, h5⟩ := h
  refine ⟨h1, h2, h3, fun k hk hs hn => h5 k hk hs hn fun ha => ?_⟩
  rw [adj_len]
  exact (ixB_cnt hk (by simp [fB, ha])).1
theorem dfs_end (h : DfsI F T nm n i seen []) : seen = rsF F T nm n i := by
  obtain ⟨h1, h2, h3, h4⟩ := h
  funext s
  cases hr : rsF F T nm n i s
  · cases hs : seen s
    · rfl
    · rw [h2 s hs] at hr; cases hr
  · exact rs_min (P := fun s => seen s = true) (fun k hk hs => h4 k hk hs (by simp)) h1 hr
theorem dfsJ_lt (hT : ∀ k, k < nm → T k < n) (hi : i < n) (h : DfsJ F T nm n i seen st a j) : a < n := rs_lt hT hi (h.2.1 a h.2.2.2.1)
end
end Go.Proofs.YtmebdlilbnadgaaGreatDoor
namespace Go.Proofs.YtmebdlilbnadgaaGreatDoor
open Go.Maps
set_option linter.unusedSimpArgs false
set_option linter.unusedVariables false
/-! ## closed classes and the system of a class, step by step (plain) -/
section
variable {F T : Nat → Nat} {nm n a k : Nat}
/-- what closed knows of a after the first k states -/
def clK (F T : Nat → Nat) (nm n a k : Nat) : Bool := (List.range k).all fun b => !rsF F T nm n a b || (decide (a ≤ b) && rsF F T nm n b a)
theorem clK_0 : clK F T nm n a 0 = true := rfl
theorem clK_n : clK F T nm n a n = clB F T nm n a := rfl
theorem clK_s : clK F T nm n a (k + 1) = (clK F T nm n a k && (!rsF F T nm n a k || (decide (a ≤ k) && rsF F T nm n k a))) := by
  unfold clK
  rw [List.range_succ, List.all_append]
  simp
theorem clK_no (h : rsF F T nm n a k = false) : clK F T nm n a (k + 1) = clK F T nm n a k := by rw [clK_s, h]; simp
theorem clK_yes (h : rsF F T nm n a k = true) : clK F T nm n a (k + 1) = (clK F T nm n a k && (rsF F T nm n k a && decide (a ≤ k))) := by rw [clK_s, h, Bool.and_comm (rsF F T nm n k a)]; simp
end
/-! ### the class' numbers as a map -/
def mpD (B : Nat → Bool) (n : Nat) : Nat → DataW Unit
  | 0 => .map []
  | j + 1 => (mpD B n j).put (.int .i64 ((ixB B n j : Nat) : Int)) (.lit (.int .i64 (j : Int)))
theorem mpD_map (B : Nat → Bool) (n : Nat) : ∀ j, IsMap (mpD B n j)
  | 0 => ⟨[], rfl⟩
  | j + 1 => (mpD_map B n j).put _ _
theorem mpD_has {B : Nat → Bool} {n s : Nat} (hs : s < n) : ∀ {j : Nat}, j ≤ cntB B n → Maps.has (mpD B n j) (.int .i64 (s : Int)) = (B s && decide (cntB B s < j))
  | 0, _ => by show Maps.has (.map []) _ = _; simp [Maps.has]
  | j + 1, hj => by
    have ih := mpD_has (B := B) hs (j := j) (by omega)
    obtain ⟨h1, h2⟩ := ixB_lt (B := B) (n := n) (i := j) (by omega)
    have h3 := cntB_ix (B := B) (n := n) (t := j) (by omega)
    by_cases e : s = ixB B n j
    · subst e
      show Maps.has ((mpD B n j).put _ _) _ = _
      rw [has_put_same (k := .int .i64 ((ixB B n j : Nat) : Int)) (mpD_map B n j) (by trivial), h2, h3]
      simp
    · show Maps.has ((mpD B n j).put _ _) _ = _
      rw [has_put_other (by
        intro h
        injection h with _ h
        exact e (by omega)), ih]
      cases hb : B s
      · simp
      · have : cntB B s ≠ j := fun h => e (by
          have := (ixB_cnt hs hb).2
          rw [h] at this
          exact this.symm)
        simp only [Bool.true_and]
        exact decide_eq_decide.2 (by omega)
theorem mpD_at {B : Nat → Bool} {n s : Nat} (hs : s < n) (hb : B s = true) : ∀ {j : Nat}, j ≤ cntB B n → cntB B s < j → (mpD B n j).atKey (.int .i64 (s : Int)) (.lit (.int .i64 0)) = .lit (.int .i64 ((cntB B s : Nat) : Int))
  | 0, _, h => by omega
  | j + 1, hj, h => by
    obtain ⟨h1, h2⟩ := ixB_lt (B := B) (n := n) (i := j) (by omega)
    have h3 := cntB_ix (B := B) (n := n) (t := j) (by omega)
    by_cases e : s = ixB B n j
    · subst e
      show ((mpD B n j).put _ _).atKey _ _ = _
      rw [atKey_put_same (k := .int .i64 ((ixB B n j : Nat) : Int)) (mpD_map B n j) (by trivial), h3]
    · show ((mpD B n j).put _ _).atKey _ _ = _
      rw [atKey_put_other (by
        intro h
        injection h with _ h
        exact e (by omega))]
      refine mpD_at hs hb (by omega) ?_
      have : cntB B s ≠ j := fun h => e (by
        have := (ixB_cnt hs hb).2
        rw [h] at this
        exact this.symm)
      omega
/-! ### the system of a class after k moves -/
def parK (B : Nat → Bool) (F T : Nat → Nat) (q : Nat → Rat) (n k : Nat) : Mf := fun i j => staK F T q k (ixB B n i) (ixB B n j)
section
variable {B : Nat → Bool} {F T : Nat → Nat} {q : Nat → Rat} {n k : Nat}
theorem parK_0 : parK B F T q n 0 = fun _ _ => 0 := rfl
theorem parK_no (h : B (F k) = false) {i j : Nat} (hj : j < cntB B n) : parK B F T q n (k + 1) i j = parK B F T q n k i j := by
  have h1 := (ixB_lt hj).2
  have h2 : ¬ (ixB B n j = F k) := fun e => by rw [e, h] at h1; cases h1
  unfold parK
  rw [staK_s, if_neg (fun h => h2 h.2), if_neg (fun h => h2 h.2)]
  grind
theorem parK_two (h : B (F k) = true) (ht : B (T k) = true) (hF : F k < n) (hT : T k < n) (hne : F k ≠ T k) {a b : Nat} (ha : a < cntB B n) (hb : b < cntB B n) : parK B F T q n (k + 1) a b
    = if a = cntB B (T k) ∧ b = cntB B (F k) then parK B F T q n k a b + q k else if a = cntB B (F k) ∧ b = cntB B (F k) then parK B F T q n k a b - q k else parK B F T q n k a b := by
  unfold parK
  rw [staK_s]
  by_cases e1 : a = cntB B (T k) ∧ b = cntB B (F k)
  · have i1 := (ix_iff ha hT ht).2 e1.1
    have i2 := (ix_iff hb hF h).2 e1.2
    rw [if_pos e1, if_pos ⟨i1, i2⟩, if_neg (fun h' => hne (by rw [← i1, h'.1]))]
    grind
  · rw [if_neg e1, if_neg (c := ixB B n a = T k ∧ _) (fun h' => e1 ⟨(ix_iff ha hT ht).1 h'.1, (ix_iff hb hF h).1 h'.2⟩)]
    by_cases e : a = cntB B (F k) ∧ b = cntB B (F k)
    · rw [if_pos e, if_pos ⟨(ix_iff ha hF h).2 e.1, (ix_iff hb hF h).2 e.2⟩]; grind
    · rw [if_neg e, if_neg (fun h' => e ⟨(ix_iff ha hF h).1 h'.1, (ix_iff hb hF h).1 h'.2⟩)]; grind
/-- .. when k places of the last row are ones -/
def oneK (P : Mf) (m k : Nat) : Mf := fun i j => if i = m - 1 ∧ j < k then 1 else P i j
theorem oneK_0 (P : Mf) (m : Nat) : oneK P m 0 = P := by
  funext i j
  unfold oneK
  rw [if_neg (fun h => by omega)]
theorem oneK_s (P : Mf) (m k : Nat) : upd (oneK P m k) (m - 1) (upd (oneK P m k (m - 1)) k 1) = oneK P m (k + 1) := by
  funext i j
  unfold upd oneK
  by_cases h1 : i = m - 1
  · subst h1
    rw [if_pos rfl]
    by_cases h2 : j = k
    · rw [if_pos h2, if_pos ⟨rfl, by omega⟩]
    · rw [if_neg h2]
      by_cases h3 : j < k
      · rw [if_pos ⟨rfl, h3⟩, if_pos ⟨rfl, by omega⟩]
      · rw [if_neg (fun h => h3 h.2), if_neg (fun h => h3 (by omega))]
  · rw [if_neg h1, if_neg (fun h => h1 h.1), if_neg (fun h => h1 h.1)]
theorem oneK_par {nm i j : Nat} (hj : j < cntB B n) : oneK (parK B F T q n nm) (cntB B n) (cntB B n) i j = parQ B F T q nm n i j := by
  unfold oneK parQ parK
  by_cases h : i = cntB B n - 1
  · rw [if_pos ⟨h, hj⟩, if_pos h]
  · rw [if_neg (fun h' => h h'.1), if_neg h]
theorem one_sub {P : Nat → Nat → Rat} {p : Nat} {q : Rat} (a b : Nat) : upd P p (fun b => if b = p then P p p - q else P p b) a b = if a = p ∧ b = p then P a b - q else P a b := by
  unfold upd
  by_cases h3 : a = p
  · subst h3
    by_cases h4 : b = a
    · subst h4; simp
    · simp [h4]
  · simp [h3]
theorem two_sub {P : Nat → Nat → Rat} {p ri ci : Nat} {q : Rat} (hne : ¬ (ri = p ∧ ci = p)) (a b : Nat) :
    upd (upd P p (fun b => if b = p then P p p - q else P p b)) ri (fun b => if b = ci then P ri ci + q else upd P p (fun b => if b = p then P p p - q else P p b) ri b) a b = if a = ri ∧ b = ci then P a b + q else if a = p ∧ b = p then P a b - q else P a b := by
  have hQ := one_sub (P := P) (p := p) (q := q)
  generalize upd P p (fun b => if b = p then P p p - q else P p b) = Q at hQ ⊢
  unfold upd
  by_cases h1 : a = ri
  · by_cases h2 : b = ci
    · rw [if_pos h1, if_pos h2, if_pos ⟨h1, h2⟩, h1, h2]
    · rw [if_pos h1, if_neg h2, if_neg (show ¬ (a = ri ∧ b = ci) from fun h => h2 h.2), ← h1]
      exact hQ a b
  · rw [if_neg h1, if_neg (show ¬ (a = ri ∧ b = ci) from fun h => h1 h.1)]
    exact hQ a b
end
end Go.Proofs.YtmebdlilbnadgaaGreatDoor
namespace Go.Proofs.YtmebdlilbnadgaaGreatDoor
open Go.RowKit
set_option linter.unusedSimpArgs false
set_option linter.unusedVariables false
set_option maxRecDepth 20000
attribute [local irreducible] nv wp win plainB validR valR canR mvE chkM codeC exK dsum spr sprN chg cnt cntB ixB kept
/-! ## law54: brief, valid -/
/-- few, short numbers -/
def Brief6 (n : Nat) (R : Nat → Rw) : Prop := n ≤ 300 ∧ ∀ k, k < n → (R k).2.1.length ≤ 6 ∧ (R k).2.2.length ≤ 6
end Go.Proofs.YtmebdlilbnadgaaGreatDoor
namespace Go.Proofs.YtmebdlilbnadgaaGreatDoor
open Go.RowKit
set_option linter.unusedSimpArgs false
set_option linter.unusedVariables false
set_option maxRecDepth 20000
attribute [local irreducible] nv wp win plainB validR valR canR gj findR elim swp gl
/-! ## reference: Reduce -/
/-- where the search for a pivot stands: rows na + t .. n have been looked at -/
def FR (S : Mf) (k na n t : Nat) (F : Int) : Prop := (F = -1 ∧ ∀ x, na + t ≤ x → x < n → S x k = 0) ∨ ∃ r : Nat, F = (r : Int) ∧ na + t ≤ r ∧ r < n ∧ S r k ≠ 0 ∧ ∀ x, na + t ≤ x → x < r → S x k = 0
end Go.Proofs.YtmebdlilbnadgaaGreatDoor
namespace Go.Proofs.YtmebdlilbnadgaaGreatDoor
set_option linter.unusedSimpArgs false
set_option linter.unusedVariables false
/-! ## rates between two states, detailed distributions (plain) -/
theorem lexD {F T : Nat → Int} {n : Nat} (h : ∀ k, k < n → 0 < k → F (k - 1) < F k ∨ F (k - 1) = F k ∧ T (k - 1) < T k) {a : Nat} : ∀ {b : Nat}, a < b → b < n → F a < F b ∨ F a = F b ∧ T a < T b
  | b + 1, h1, h2 => by
    have hb := h (b + 1) h2 (by omega)
    rw [Nat.add_sub_cancel] at hb
    by_cases e : a = b
    · rw [e]; exact hb
    · have := lexD h (a := a) (b := b) (by omega) (by omega)
      omega
/-- the rate of the last move from a to b among the first k -/
def rtN (F T : Nat → Nat) (q : Nat → Rat) (a b : Nat) : Nat → Rat
  | 0 => 0
  | k + 1 => if F k = a ∧ T k = b then q k else rtN F T q a b k
section
variable {c : Chn} {x : Nat → Rat}
def Chn.rt (c : Chn) (a b : Nat) : Rat := rateF c.f c.t c.q c.nm a b
theorem Chn.apart (ok : c.Ok) {j k : Nat} (hj : j < c.nm) (hk : k < c.nm) (h1 : c.f j = c.f k) (h2 : c.t j = c.t k) : j = k := by
  have ha := ok.mv j hj
  have hb := ok.mv k hk
  unfold Chn.f at h1
  unfold Chn.t at h2
  rcases Nat.lt_trichotomy j k with h | h | h
  · have := lexD (fun k hk h0 => (ok.mv k hk).2.2.2.2.2.2 h0) h hk
    omega
  · exact h
  · have := lexD (fun k hk h0 => (ok.mv k hk).2.2.2.2.2.2 h0) h hj
    omega
theorem Chn.rt_at (ok : c.Ok) {k : Nat} (hk : k < c.nm) : c.rt (c.f k) (c.t k) = c.q k := by
  have e : c.rt (c.f k) (c.t k) = sumN (fun j => if j = k then c.q j else 0) c.nm := sumN_congr fun j hj => by
    by_cases h : j = k
    · rw [h, if_pos ⟨rfl, rfl⟩, if_pos rfl]
    · rw [if_neg h, if_neg fun h' => h (Chn.apart ok hj hk h'.1 h'.2)]
  rw [e, sumN_pick, if_pos hk]
theorem Chn.rt_none {a b : Nat} (h : ∀ k, k < c.nm → ¬ (c.f k = a ∧ c.t k = b)) : c.rt a b = 0 := sumN_nil fun k hk => by rw [if_neg (h k hk)]
theorem Chn.rt_cases (ok : c.Ok) (a b : Nat) : c.rt a b = 0 ∨ ∃ k, k < c.nm ∧ c.f k = a ∧ c.t k = b ∧ c.rt a b = c.q k := by
  by_cases h : ∃ k, k < c.nm ∧ c.f k = a ∧ c.t k = b
  · obtain ⟨k, hk, h1, h2⟩ := h
    exact .inr ⟨k, hk, h1, h2, by rw [← h1, ← h2]; exact Chn.rt_at ok hk⟩
  · exact .inl (Chn.rt_none fun k hk e => h ⟨k, hk, e⟩)
theorem Chn.rtN_eq (ok : c.Ok) (a b : Nat) : ∀ k, k ≤ c.nm → rtN c.f c.t c.q a b k = if ∃ j, j < k ∧ c.f j = a ∧ c.t j = b then c.rt a b else 0
  | 0, _ => by rw [if_neg (fun h => by obtain ⟨j, hj, _⟩ := h; omega)]; rfl
  | k + 1, hk => by
    have ih := Chn.rtN_eq ok a b k (by omega)
    unfold rtN
    by_cases h : c.f k = a ∧ c.t k = b
    · rw [if_pos h, if_pos ⟨k, by omega, h⟩, ← h.1, ← h.2]
      exact (Chn.rt_at ok (by omega)).symm
    · rw [if_neg h, ih]
      by_cases h2 : ∃ j, j < k ∧ c.f j = a ∧ c.t j = b
      · obtain ⟨j, hj, e⟩ := h2
        rw [if_pos ⟨j, hj, e⟩, if_pos ⟨j, by omega, e⟩]
      · rw [if_neg h2, if_neg fun h3 => by
          obtain ⟨j, hj, e⟩ := h3
          by_cases e2 : j = k
          · rw [e2] at e; exact h e
          · exact h2 ⟨j, by omega, e⟩]
theorem Chn.rtN_all (ok : c.Ok) (a b : Nat) : rtN c.f c.t c.q a b c.nm = c.rt a b := by
  rw [Chn.rtN_eq ok a b c.nm (Nat.le_refl _)]
  by_cases h : ∃ j, j < c.nm ∧ c.f j = a ∧ c.t j = b
  · rw [if_pos h]
  · rw [if_neg h]
    exact (Chn.rt_none fun k hk e => h ⟨k, hk, e⟩).symm
/-- the flows between each two states are equal -/
def Chn.detB (c : Chn) (x : Nat → Rat) : Bool := (List.range c.nm).all fun k => decide (x (c.f k) * c.q k = x (c.t k) * c.rt (c.t k) (c.f k))
theorem Chn.detB_yes (h : ∀ k, k < c.nm → x (c.f k) * c.q k = x (c.t k) * c.rt (c.t k) (c.f k)) : c.detB x = true := List.all_eq_true.2 fun k hk => decide_eq_true (h k (List.mem_range.1 hk))
theorem Chn.detB_at (h : c.detB x = true) {k : Nat} (hk : k < c.nm) : x (c.f k) * c.q k = x (c.t k) * c.rt (c.t k) (c.f k) := of_decide_eq_true (List.all_eq_true.1 h k (List.mem_range.2 hk))
theorem Chn.detB_no {k : Nat} (hk : k < c.nm) (h : ¬ x (c.f k) * c.q k = x (c.t k) * c.rt (c.t k) (c.f k)) : c.detB x = false := by
  cases e : c.detB x
  · rfl
  · exact absurd (Chn.detB_at e hk) h
theorem Chn.det_all (ok : c.Ok) (h : c.detB x = true) (a b : Nat) : x a * c.rt a b = x b * c.rt b a := by
  rcases Chn.rt_cases ok a b with h1 | ⟨k, hk, e1, e2, e3⟩
  · rcases Chn.rt_cases ok b a with h2 | ⟨k, hk, e1, e2, e3⟩
    · rw [h1, h2]; grind
    · have := Chn.detB_at h hk
      rw [e1, e2] at this
      rw [e3, this]
  · have := Chn.detB_at h hk
    rw [e1, e2] at this
    rw [e3, this]
theorem Chn.det_net (ok : c.Ok) (h : c.detB x = true) : ∀ i, i < c.nd → netS c.f c.t c.q x c.nm i = 0 :=
  detailed_net (fun k hk => ⟨(Chn.mvA ok k hk).1, (Chn.mvA ok k hk).2.1⟩) fun a b _ _ => Chn.det_all ok h a b
/-- what Detailed answers -/
def Chn.detV (c : Chn) (n : Nat) (R : Nat → Rw) : Bool := if c.codeB n R = 0 then c.detB (vecQ n R) else false
theorem SizP.rtS (hS : SizP c) (ok : c.Ok) {L : Nat} (hx : FzL L x) (s a b : Nat) : Sz (L + 40) (x s * c.rt a b) := by
  rcases Chn.rt_cases ok a b with h1 | ⟨k, hk, -, -, e3⟩
  · rw [h1, Rat.mul_zero]; exact Sz.zero (by omega)
  · rw [e3]; exact (hS.bal ok L x hx).2.1 k hk s
end
end Go.Proofs.YtmebdlilbnadgaaGreatDoor
