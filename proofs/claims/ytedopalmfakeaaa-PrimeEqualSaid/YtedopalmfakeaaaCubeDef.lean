/- Contracts of functions and lemmas, used by the proofs of the given statements. No condition beyond those that each lemma names. -/
import Derived.Test.YtedopalmfakeaaaJBase
namespace Go.Proofs.Ytedopalmfakeaaa
set_option linter.unusedVariables false
set_option linter.unusedSimpArgs false
open Go.RowKit

/-! ## cubes as data -/
abbrev Cb := Int × Int
abbrev Cn := Nat × Nat
abbrev zc (c : Cn) : Cb := ((c.1 : Int), (c.2 : Int))
abbrev cbv (c : Cb) : Value := .agg #[.int .i64 c.1, .int .i64 c.2]
def cbc (c : Cb) : List Value := [.int .i64 c.1, .int .i64 c.2]
def cbs (l : List Cb) : List Value := l.flatMap cbc
theorem cbs_length (l : List Cb) : (cbs l).length = l.length * 2 := by
  induction l with
  | nil => rfl
  | cons a l ih => rw [cbs, List.flatMap_cons, List.length_append]; show 2 + (cbs l).length = _; rw [ih, List.length_cons]; omega
theorem cbs_append (l m : List Cb) : cbs (l ++ m) = cbs l ++ cbs m := by simp [cbs]
theorem cbs_one (c : Cb) : cbs [c] = [.int .i64 c.1, .int .i64 c.2] := rfl
theorem cbs_get (l : List Cb) (k : Nat) (c : Cb) (h : l[k]? = some c) : (cbs l)[k * 2]? = some (.int .i64 c.1) ∧ (cbs l)[k * 2 + 1]? = some (.int .i64 c.2) := by
  induction l generalizing k with
  | nil => simp at h
  | cons a l ih =>
    cases k with
    | zero => simp at h; subst h; simp [cbs, cbc]
    | succ k =>
      have h' : l[k]? = some c := by simpa using h
      have := ih k h'
      simp only [cbs, List.flatMap_cons] at *
      rw [show (k + 1) * 2 = k * 2 + 2 from by omega]
      simpa [cbc] using this
theorem cbs_take (l : List Cb) (k : Nat) : (cbs l).take (k * 2) = cbs (l.take k) := by
  induction l generalizing k with
  | nil => simp [cbs]
  | cons a l ih =>
    cases k with
    | zero => simp [cbs]
    | succ k =>
      have := ih k
      simp only [cbs, List.flatMap_cons, List.take_succ_cons] at *
      rw [show (k + 1) * 2 = k * 2 + 2 from by omega, ← this]
      simp [cbc]
theorem cbs_drop (l : List Cb) (k : Nat) : (cbs l).drop (k * 2) = cbs (l.drop k) := by
  induction l generalizing k with
  | nil => simp [cbs]
  | cons a l ih =>
    cases k with
    | zero => simp
    | succ k =>
      have := ih k
      simp only [cbs, List.flatMap_cons, List.drop_succ_cons] at *
      rw [show (k + 1) * 2 = k * 2 + 2 from by omega, ← this]
      simp [cbc]
theorem cbs_oneCell (l : List Cb) : ∀ u ∈ cbs l, u.oneCell' = true := by
  intro u hu
  simp only [cbs, List.mem_flatMap, cbc] at hu
  obtain ⟨c, _, h⟩ := hu
  simp at h
  rcases h with rfl | rfl <;> rfl
/-- a slice of cubes -/
def RdC (w : World) (B : Nat) (A : Option Addr) (l : List Cb) : Prop := Rds w B 2 A l.length (cbs l)
section
variable {w w' : World} {B B' : Nat} {A : Option Addr} {l : List Cb}
theorem RdC.at_ (h : RdC w B A l) {k : Nat} {c : Cb} (hk : l[k]? = some c) :
    ∃ b off, A = some ⟨b, off, none⟩ ∧ b < B ∧ w.cell? ⟨b, off + k * 2, none⟩ = some (.int .i64 c.1) ∧ w.cell? ⟨b, off + k * 2 + 1, none⟩ = some (.int .i64 c.2) := by
  have hl : k < l.length := by
    rcases Nat.lt_or_ge k l.length with h1 | h1
    · exact h1
    · rw [List.getElem?_eq_none h1] at hk; cases hk
  obtain ⟨b, off, e, hb, hc⟩ := h.2 (by omega)
  have g := cbs_get l k c hk
  exact ⟨b, off, e, hb, hc _ _ g.1, by rw [Nat.add_assoc]; exact hc _ _ g.2⟩
theorem RdC.below (h : RdC w B A l) (hb : Below B w w') : RdC w' B A l := Rds.below h hb
theorem RdC.more (h : RdC w B A l) (hB : B ≤ B') : RdC w B' A l := Rds.more h hB
/-- whatever the world at hand, that keeps what was there -/
theorem RdC.on (h : RdC w B A l) (hb : Below B w w') (hB : B ≤ B') : RdC w' B' A l := (h.below hb).more hB
end

theorem cubeInfo : (Try.prog.info? 23).map (fun i => (i.zero, i.size, i.bytes)) = some (some (.agg #[.int .i64 0, .int .i64 0]), 2, 16) := by kernel_rfl
/-- the cubes that a call has made itself -/
def OwC (w : World) (base : Nat) (A : Option Addr) (c : Nat) (l : List Cb) : Prop := w.ownsRow base 23 2 (.slice A l.length c) l.length (cbs l)
theorem OwC.rd {w : World} {base : Nat} {A : Option Addr} {c : Nat} {l : List Cb} (h : OwC w base A c l) : RdC w w.heap.size A l := Rds.of_own h
theorem OwC.below {w w1 : World} {base : Nat} {A : Option Addr} {c : Nat} {l : List Cb} (h : OwC w base A c l) (hb : Below w.heap.size w w1) : OwC w1 base A c l := own_below h hb
theorem OwC.base_ {w : World} {base base' : Nat} {A : Option Addr} {c : Nat} {l : List Cb} (h : OwC w base A c l) (hb : base' ≤ base) : OwC w base' A c l := own_base h hb
theorem OwC.alloc {w : World} {base : Nat} {A : Option Addr} {c : Nat} {l : List Cb} (h : OwC w base A c l) (o : Obj) : OwC (w.alloc o) base A c l := World.ownsRow.alloc h o
theorem OwC.nil_ (w : World) (base : Nat) : OwC w base none 0 [] := own_nil w base _ 2
/-- out = append(out, c) -/
theorem wpList_appC1 {w : World} {ops : Array Oper} {rest : List Oper} {o : Oper} {a : Act} {Q : Exit → Act → World → Prop} (hgd : o.guard = none) (s x : Operand)
    (ho : o.op = .call { callee := .builtin .append, args := #[s, x], argTypes := #[35, 35] })
    (base : Nat) (A0 : Option Addr) (c0 : Nat) (l : List Cb) (hs : a.eval s = .slice A0 l.length c0) (hown : OwC w base A0 c0 l)
    (c : Cb) (g : Nat) (hx : a.eval x = .slice (some ⟨g, 0, none⟩) 1 1) (hc0 : w.cell? ⟨g, 0, none⟩ = some (.int .i64 c.1)) (hc1 : w.cell? ⟨g, 1, none⟩ = some (.int .i64 c.2))
    (hlen : l.length ≤ 1099511627776) (hbase : base ≤ w.heap.size)
    (h : ∀ A' c' w', OwC w' base A' c' (l ++ [c]) → Below base w w' → w.grownBy w' (Value.slice A0 l.length c0).ownBlock → wpList Try.prog ops Q rest (a.put o.dst (.slice A' (l.length + 1) c')) w') : wpList Try.prog ops Q (o :: rest) a w := by
  have hr : Rds w w.heap.size 2 (some ⟨g, 0, none⟩) 1 (cbs [c]) := ⟨rfl, fun _ => ⟨g, 0, rfl, lt_of_cell hc0, fun j u hu => by
    rw [Nat.zero_add]
    match j, hu with
    | 0, hu => simp [cbs, cbc] at hu; subst hu; exact hc0
    | 1, hu => simp [cbs, cbc] at hu; subst hu; exact hc1
    | j + 2, hu => simp [cbs, cbc] at hu⟩⟩
  refine wpList_app hgd s x 35 ho base 23 _ 2 16 Try.underlying35 cubeInfo rfl (by decide) A0 c0 l.length (cbs l) hs hown w.heap.size _ 1 1 (cbs [c]) hx hr (cbs_oneCell _) (by unfold maxLen; omega) (by omega) hbase ?_
  intro A' c' w' h1 h2 h3 h4
  refine h A' c' w' ?_ h2 h3
  unfold OwC
  rw [cbs_append, List.length_append]
  exact h1
/-! ## errors of package api -/
def err (n : Int) : Value := if n = 0 then .nilIface else .iface 58 (.int .i64 n)
theorem err_0 {n : Int} (h : n = 0) : err n = .nilIface := by simp [err, h]
theorem err_n {n : Int} (h : n ≠ 0) : err n = .iface 58 (.int .i64 n) := by simp [err, h]

/-! ## Check -/
def maskB (n : Int) : Bool := decide (0 ≤ n ∧ n < 16777216)
theorem maskB_t {n : Int} (h0 : 0 ≤ n) (h1 : n < 16777216) : maskB n = true := by simp [maskB, h0, h1]
theorem maskB_f {n : Int} (h : ¬ (0 ≤ n ∧ n < 16777216)) : maskB n = false := by simpa [maskB] using h
theorem maskB_nat {n : Int} (h : maskB n = true) : ∃ m : Nat, n = m ∧ m < 16777216 := by
  simp [maskB] at h
  exact ⟨n.toNat, by omega, by omega⟩
/-- the number of a cube's error -/
def chk (c : Cb) : Int := if maskB c.1 = true ∧ maskB c.2 = true then (if bits .and .i64 c.1 c.2 = 0 then 0 else 6) else 3
def chkL : List Cb → Int
  | [] => 0
  | c :: l => if chk c = 0 then chkL l else chk c
/-- .. of a list's, too long ones first -/
def chkLL (l : List Cb) : Int := if 1024 < l.length then 4 else chkL l
theorem chkL_drop (l : List Cb) (k : Nat) (hk : k < l.length) : chkL (l.drop k) = if chk l[k] = 0 then chkL (l.drop (k+1)) else chk l[k] := by
  rw [List.drop_eq_getElem_cons hk, chkL]
theorem chkL_nil (l : List Cb) (k : Nat) (hk : l.length ≤ k) : chkL (l.drop k) = 0 := by
  rw [List.drop_eq_nil_of_le hk]; rfl
/-- a cube as the document has it -/
def okN (c : Cn) : Prop := c.1 < 16777216 ∧ c.2 < 16777216 ∧ c.1 &&& c.2 = 0
theorem chk_ok {c : Cb} (h : chk c = 0) : ∃ a : Cn, okN a ∧ c = zc a := by
  unfold chk at h
  split at h
  · rename_i hm
    obtain ⟨y, hy, hy1⟩ := maskB_nat hm.1
    obtain ⟨n, hn, hn1⟩ := maskB_nat hm.2
    rw [hy, hn, i64_and y n (by omega) (by omega)] at h
    refine ⟨(y, n), ⟨hy1, hn1, ?_⟩, Prod.ext hy hn⟩
    split at h
    · rename_i h0; exact_mod_cast h0
    · exact absurd h (by omega)
  · exact absurd h (by omega)
theorem chk_of_ok {a : Cn} (h : okN a) : chk (zc a) = 0 := by
  unfold chk
  rw [if_pos ⟨maskB_t (by simp) (by have := h.1; simp; omega), maskB_t (by simp) (by have := h.2.1; simp; omega)⟩]
  show (if bits .and .i64 (a.1 : Int) (a.2 : Int) = 0 then (0 : Int) else 6) = 0
  rw [i64_and _ _ (by have := h.1; omega) (by have := h.2.1; omega), h.2.2]
  rfl
theorem chkL_of_ok {m : List Cn} (h : ∀ a ∈ m, okN a) : chkL (m.map zc) = 0 := by
  induction m with
  | nil => rfl
  | cons a m ih =>
    simp only [List.map_cons, chkL]
    rw [if_pos (chk_of_ok (h a (by simp)))]
    exact ih fun x hx => h x (by simp [hx])

/-! ## what the functions compute, on cubes that are accepted -/
def apN (a b : Cn) : Bool := (a.1 &&& b.2 ||| a.2 &&& b.1) != 0
def wiN (a b : Cn) : Bool := (ndiff b.1 a.1 ||| ndiff b.2 a.2) == 0
def hoN (c : Cn) (s : Nat) : Bool := (ndiff c.1 s ||| c.2 &&& s) == 0
def unl (a b : Cn) : Nat := a.1 &&& b.2 ||| a.2 &&& b.1
def coN (a b : Cn) : Cn := (ndiff (a.1 ||| b.1) (unl a b), ndiff (a.2 ||| b.2) (unl a b))
theorem or_lt24 {x y : Nat} (hx : x < 16777216) (hy : y < 16777216) : x ||| y < 16777216 := Nat.or_lt_two_pow (n := 24) hx hy
theorem pow_lt24 {k : Nat} (hk : k < 24) : 2 ^ k < 16777216 := Nat.pow_lt_pow_right (a := 2) (by omega) hk
end Go.Proofs.Ytedopalmfakeaaa
