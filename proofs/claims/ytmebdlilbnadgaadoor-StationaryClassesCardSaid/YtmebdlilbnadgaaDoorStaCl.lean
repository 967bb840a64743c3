/- Contracts of functions and lemmas, used by the proofs of the given statements. No condition beyond those that each lemma names. -/
import Derived.Test.YtmebdlilbnadgaaDoorJLinY
import Derived.Test.YtmebdlilbnadgaaDoorJStaW1
namespace Go.Proofs.YtmebdlilbnadgaaDoor
open Go.RowKit
set_option linter.unusedSimpArgs false
set_option linter.unusedVariables false
set_option maxRecDepth 20000
/-! ## the closed classes as marks (plain), and a row of ints of the call's own -/
section
variable {c : Chn}
/-- the states of class j -/
def Chn.clM (c : Chn) (j : Nat) : Nat → Bool := rsF c.f c.t c.nm c.nd (ixB (clB c.f c.t c.nm c.nd) c.nd j)
theorem Chn.clM_0 : c.clM 0 = c.clS := rfl
theorem Chn.cl_at {j : Nat} (hj : j < c.ncl) : ixB (clB c.f c.t c.nm c.nd) c.nd j < c.nd ∧ clB c.f c.t c.nm c.nd (ixB (clB c.f c.t c.nm c.nd) c.nd j) = true := ixB_lt hj
theorem Chn.cl_dis (ok : c.Ok) {i j s : Nat} (hi : i < c.ncl) (hj : j < c.ncl) (hs : s < c.nd) (h1 : c.clM i s = true) (h2 : c.clM j s = true) : i = j := by
  obtain ⟨li, bi⟩ := Chn.cl_at hi
  obtain ⟨lj, bj⟩ := Chn.cl_at hj
  have hT := Chn.lt_t ok
  have ci := clB_iff.1 bi
  have cj := clB_iff.1 bj
  have e1 := (cj _ li (rs_trans hT h2 (ci s hs h1).2)).1
  have e2 := (ci _ lj (rs_trans hT h1 (cj s hs h2).2)).1
  rcases Nat.lt_trichotomy i j with h | h | h
  · have := ixB_mono (B := clB c.f c.t c.nm c.nd) (n := c.nd) h hj
    omega
  · exact h
  · have := ixB_mono (B := clB c.f c.t c.nm c.nd) (n := c.nd) h hi
    omega
/-- the marks after k classes -/
def Chn.mrk (c : Chn) : Nat → Nat → Nat
  | 0 => fun _ => 0
  | k + 1 => fun s => if c.clM k s then k + 1 else c.mrk k s
/-- and t states of the next one -/
def Chn.mrt (c : Chn) (k t : Nat) : Nat → Nat := fun s => if c.clM k s && decide (cntB (c.clM k) s < t) then k + 1 else c.mrk k s
theorem Chn.mrk_0 {s : Nat} : ∀ {k : Nat}, (∀ j, j < k → c.clM j s = false) → c.mrk k s = 0
  | 0, _ => rfl
  | k + 1, h => by
    unfold Chn.mrk
    rw [h k (by omega)]
    exact Chn.mrk_0 fun j hj => h j (by omega)
theorem Chn.mrk_is (ok : c.Ok) {s j : Nat} (hs : s < c.nd) : ∀ {k : Nat}, k ≤ c.ncl → j < k → c.clM j s = true → c.mrk k s = j + 1
  | k + 1, hk, hj, h => by
    unfold Chn.mrk
    by_cases e : c.clM k s = true
    · have := Chn.cl_dis ok (show k < c.ncl by omega) (show j < c.ncl by omega) hs e h
      subst this
      rw [if_pos e]
    · simp only [if_neg e]
      have : j ≠ k := fun e2 => e (by rw [← e2]; exact h)
      exact Chn.mrk_is ok hs (by omega) (by omega) h
theorem Chn.mrt_0 (k : Nat) : c.mrt k 0 = c.mrk k := by
  funext s
  unfold Chn.mrt
  simp
theorem Chn.mrt_n (k s : Nat) (hs : s < c.nd) : c.mrt k (c.clL k).length s = c.mrk (k + 1) s := by
  have hl : (c.clL k).length = cntB (c.clM k) c.nd := kept_len
  rw [hl]
  unfold Chn.mrt
  show _ = if c.clM k s then k + 1 else c.mrk k s
  cases h : c.clM k s
  · simp
  · have := (ixB_cnt hs h).1
    simp [this]
/-- what the loop over class k meets at its state t -/
theorem Chn.mrt_s (ok : c.Ok) {k t : Nat} (hk : k < c.ncl) (ht : t < (c.clL k).length) : (c.clL k)[t] < c.nd ∧ c.mrt k t ((c.clL k)[t]) = 0 ∧ (∀ h : 0 < t, (c.clL k)[t - 1]'(by omega) < (c.clL k)[t]) ∧ ∀ j, j < c.nd → upd (c.mrt k t) ((c.clL k)[t]) (k + 1) j = c.mrt k (t + 1) j := by
  have hl : (c.clL k).length = cntB (c.clM k) c.nd := kept_len
  have hg : ∀ (t : Nat) (h : t < (c.clL k).length), (c.clL k)[t] = ixB (c.clM k) c.nd t := fun t h => kept_get h
  have ht' : t < cntB (c.clM k) c.nd := by omega
  rw [hg t ht]
  obtain ⟨h1, h2⟩ := ixB_lt ht'
  have h3 : cntB (c.clM k) (ixB (c.clM k) c.nd t) = t := cntB_ix ht'
  refine ⟨h1, ?_, fun h => ?_, fun j hj => ?_⟩
  · unfold Chn.mrt
    rw [h3]
    simp only [Nat.lt_irrefl, decide_false, Bool.and_false]
    exact Chn.mrk_0 fun i hi => by
      cases e : c.clM i (ixB (c.clM k) c.nd t)
      · rfl
      · have := Chn.cl_dis ok (show i < c.ncl by omega) hk h1 e h2
        omega
  · rw [hg (t - 1) (by omega)]
    exact ixB_mono (by omega) ht'
  · unfold upd
    by_cases e : j = ixB (c.clM k) c.nd t
    · rw [if_pos e, e]
      unfold Chn.mrt
      rw [h3, h2]
      simp
    · rw [if_neg e]
      unfold Chn.mrt
      cases hb : c.clM k j
      · simp
      · have hx := (ixB_cnt hj hb).2
        have : cntB (c.clM k) j ≠ t := fun e2 => e (by rw [← e2]; exact hx.symm)
        have h5 : decide (cntB (c.clM k) j < t) = decide (cntB (c.clM k) j < t + 1) := by
          by_cases h6 : cntB (c.clM k) j < t
          · rw [decide_eq_true h6, decide_eq_true (by omega)]
          · rw [decide_eq_false h6, decide_eq_false (by omega)]
        rw [h5]
theorem Chn.clL_pos {k : Nat} (hk : k < c.ncl) : 0 < (c.clL k).length := by
  have hl : (c.clL k).length = cntB (c.clM k) c.nd := kept_len
  rw [hl]
  have := (ixB_cnt (B := c.clM k) (Chn.cl_at hk).1 (rs_self _)).1
  omega
/-- no move leads out of a class -/
theorem Chn.mrk_shut (ok : c.Ok) {k : Nat} (hk : k < c.nm) (h : c.mrk c.ncl (c.f k) ≠ 0) : c.mrk c.ncl (c.t k) = c.mrk c.ncl (c.f k) := by
  have hm := Chn.mvA ok k hk
  have : ∃ j, j < c.ncl ∧ c.clM j (c.f k) = true := by
    apply Classical.byContradiction
    intro hn
    refine h (Chn.mrk_0 fun j hj => ?_)
    cases e : c.clM j (c.f k)
    · rfl
    · exact absurd ⟨j, hj, e⟩ hn
  obtain ⟨j, hj, e⟩ := this
  rw [Chn.mrk_is ok hm.1 (Nat.le_refl _) hj e, Chn.mrk_is ok hm.2.1 (Nat.le_refl _) hj (rs_shut (Chn.lt_t ok) hk e)]
/-- with one class: marked where the distribution is above 0 -/
theorem Chn.mrk_pi (ok : c.Ok) (h1 : c.ncl = 1) {s : Nat} (hs : s < c.nd) : 0 ≤ c.pi s ∧ (0 < c.pi s ↔ c.mrk c.ncl s ≠ 0) := by
  obtain ⟨h2, h3⟩ := Chn.pi_pos ok h1 s hs
  refine ⟨h2, h3.trans ?_⟩
  rw [h1]
  show _ ↔ (if c.clM 0 s then 0 + 1 else 0) ≠ 0
  rw [Chn.clM_0]
  cases c.clS s <;> simp
end
/-! ## a row of ints -/
def zls (n : Nat) (f : Nat → Nat) : List Value := (List.range n).map fun j => .int .i64 ((f j : Nat) : Int)
theorem zls_set {n : Nat} {f : Nat → Nat} {k b : Nat} : (zls n f).set k (.int .i64 ((b : Nat) : Int)) = zls n (upd f k b) := by
  apply List.ext_getElem?
  intro j
  by_cases h : j = k
  · subst h
    by_cases hn : j < n
    · rw [List.getElem?_set_self (by simp [zls]; exact hn)]; simp [zls, hn, upd]
    · rw [List.getElem?_eq_none (by simp [zls]; omega), List.getElem?_eq_none (by simp [zls]; omega)]
  · rw [List.getElem?_set_ne (Ne.symm h)]
    by_cases hn : j < n
    · simp [zls, hn, upd, h]
    · rw [List.getElem?_eq_none (by simp [zls]; omega), List.getElem?_eq_none (by simp [zls]; omega)]
theorem zls_congr {n : Nat} {f f' : Nat → Nat} (e : ∀ j, j < n → f j = f' j) : zls n f = zls n f' := by
  unfold zls
  refine List.map_congr_left fun j hj => ?_
  rw [e j (List.mem_range.1 hj)]
def OwZ (w : World) (base : Nat) (A : Option Addr) (c n : Nat) (f : Nat → Nat) : Prop := w.ownsRow base 3 1 (.slice A n c) n (zls n f)
section
variable {w w' w1 : World} {base g c n k : Nat} {A : Option Addr} {f f' : Nat → Nat}
theorem OwZ.below (h : OwZ w base A c n f) (hb : Below w.heap.size w w1) : OwZ w1 base A c n f := own_below h hb
theorem OwZ.congr (h : OwZ w base A c n f) (e : ∀ j, j < n → f j = f' j) : OwZ w base A c n f' := by
  unfold OwZ at h ⊢
  rw [← zls_congr e]
  exact h
theorem OwZ.at_ (h : OwZ w base (some ⟨g, 0, none⟩) c n f) (hk : k < n) : w.cell? ⟨g, k, none⟩ = some (.int .i64 ((f k : Nat) : Int)) := by
  rw [World.ownsRow.cellAt h k (by omega)]
  simp [zls, hk]
theorem OwZ.frozen (h : OwZ w base (some ⟨g, 0, none⟩) c n f) (k : Nat) : w.frozen? ⟨g, k, none⟩ = false := World.ownsRow.frozenAt h k
theorem OwZ.set (h : OwZ w base (some ⟨g, 0, none⟩) c n f) (k : Nat) (b : Nat) : OwZ (w.setCell ⟨g, k, none⟩ (.int .i64 ((b : Nat) : Int))) base (some ⟨g, 0, none⟩) c n (upd f k b) ∧ w.grownBy (w.setCell ⟨g, k, none⟩ (.int .i64 ((b : Nat) : Int))) (some g) := by
  obtain ⟨s1, g1⟩ := World.ownsRow.stored h k (.int .i64 ((b : Nat) : Int))
  rw [zls_set] at s1
  exact ⟨s1, g1⟩
theorem intInfoZ : (Tryd.prog.info? 3).map (fun i => (i.zero, i.size, i.bytes)) = some (some (.int .i64 0), 1, 8) := by kernel_rfl
/-- is := make([]int, n) -/
theorem wpList_makeZ {ops : Array Oper} {rest : List Oper} {o : Oper} {a : Act} {Q : Exit → Act → World → Prop}
    (hg : o.guard = none) (l c : Operand) (hop : o.op = Op.makeSlice 33 l c)
    (b0 n : Nat) (L C : Int) (hl : a.eval l = .int .i64 L) (hc : a.eval c = .int .i64 C) (hL : L = (n : Int)) (hC : C = (n : Int)) (hn : n ≤ 1000000) (hb : b0 ≤ w.heap.size)
    (h : ∀ w', OwZ w' b0 (some ⟨w.heap.size, 0, none⟩) n n (fun _ => 0) → Below w.heap.size w w' → wpList Tryd.prog ops Q rest (a.put o.dst (.slice (some ⟨w.heap.size, 0, none⟩) n n)) w') : wpList Tryd.prog ops Q (o :: rest) a w := by
  obtain ⟨i, hi, hz, hs, hby⟩ := info_parts intInfoZ
  refine wpList_make_full w hg l c 33 hop b0 3 i (.int .i64 0) 1 Tryd.underlying33 hi hz hs .i64 .i64 L C n hl hc hL hC (by rw [hby]; omega) (by unfold maxLen; omega) hb ?_
  intro w' h1 h2
  have e : (madeCells (Value.cells (.int .i64 0)) (n * 1)).toList = zls n (fun _ => 0) := by
    rw [Nat.mul_one]
    show (madeCells #[Value.int .i64 0] n).toList = _
    rw [toList_madeCells_one]
    apply List.ext_getElem (by simp [zls])
    intro j h1 h2
    simp [zls]
  rw [e] at h1
  exact h w' h1 ((Below.refl _ _).grown h2 (Nat.le_refl _) (by intro k hk; cases hk))
end
end Go.Proofs.YtmebdlilbnadgaaDoor
