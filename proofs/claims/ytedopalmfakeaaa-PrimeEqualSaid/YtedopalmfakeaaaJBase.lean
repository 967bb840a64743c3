/- Contracts of functions and lemmas, used by the proofs of the given statements. No condition beyond those that each lemma names. -/
import Derived.Test.YtedopalmfakeaaaProg
import Derived.WalkKit
import Derived.Outline
import Derived.Handy
import Derived.Deep.QuietTactic
import Derived.BigQuiet
import Derived.WalkSpells
import Derived.WalkLawsBesides
import Derived.Lib.Hide
import Derived.Maps.AppendAt
import Derived.Deep.AppendLies
import Derived.LaidEql
namespace Go.Proofs.Ytedopalmfakeaaa
set_option linter.unusedVariables false
set_option linter.unusedSimpArgs false
open Go.RowKit

/-! ## memory -/
theorem bcell {W w1 : World} (hb : Below W.heap.size W w1) : (∀ b o, b < W.heap.size → w1.cell? ⟨b, o, none⟩ = W.cell? ⟨b, o, none⟩) ∧ (∀ b o, b < W.heap.size → w1.frozen? ⟨b, o, none⟩ = W.frozen? ⟨b, o, none⟩) :=
  ⟨fun b o h => hb.cell (p := ⟨b, o, none⟩) h, fun b o h => hb.frozen (p := ⟨b, o, none⟩) h⟩

/-- the same, from a number of blocks that is written out (what was there before the call before, and what the text itself has made) -/
theorem bcellB {W w1 : World} {B : Nat} (hb : Below W.heap.size W w1) (hB : B ≤ W.heap.size) : (∀ b o, b < B → w1.cell? ⟨b, o, none⟩ = W.cell? ⟨b, o, none⟩) ∧ (∀ b o, b < B → w1.frozen? ⟨b, o, none⟩ = W.frozen? ⟨b, o, none⟩) :=
  ⟨fun b o h => hb.cell (p := ⟨b, o, none⟩) (by show b < _; omega), fun b o h => hb.frozen (p := ⟨b, o, none⟩) (by show b < _; omega)⟩
theorem below_at {W w1 : World} {B : Nat} (hb : Below B W w1) (b o : Nat) (h : b < B) : w1.cell? ⟨b, o, none⟩ = W.cell? ⟨b, o, none⟩ := hb.cell (p := ⟨b, o, none⟩) h
theorem below_fr {W w1 : World} {B : Nat} (hb : Below B W w1) (b o : Nat) (h : b < B) : w1.frozen? ⟨b, o, none⟩ = W.frozen? ⟨b, o, none⟩ := hb.frozen (p := ⟨b, o, none⟩) h
theorem lt_size {B : Nat} {W w1 : World} (hb : Below B W w1) : W.heap.size ≤ w1.heap.size := hb.size
theorem below_drewN {B : Nat} {a w : World} (h : Below B a w) (n : Nat) : Below B a (w.drewN n) := ⟨h.os, h.tape, h.output, h.size, h.block⟩
theorem size_drewN' (w : World) (n : Nat) : (w.drewN n).heap.size = w.heap.size := rfl
theorem addr_add (b off j : Nat) : (⟨b, off, none⟩ : Addr).add j = ⟨b, off + j, none⟩ := by
  unfold Addr.add; split
  · rename_i h; subst h; rfl
  · rfl
/-- a slice (its address A, n elements) reads as the cells xs, below block B -/
def Rds (w : World) (B size : Nat) (A : Option Addr) (n : Nat) (xs : List Value) : Prop :=
  xs.length = n * size ∧ (0 < n → ∃ b off, A = some ⟨b, off, none⟩ ∧ b < B ∧ ∀ j u, xs[j]? = some u → w.cell? ⟨b, off + j, none⟩ = some u)

section
variable {w w' : World} {B B' size n : Nat} {A : Option Addr} {xs : List Value}
theorem Rds.nil_ (w : World) (B size : Nat) (A : Option Addr) : Rds w B size A 0 [] := ⟨by simp, fun h => absurd h (by omega)⟩
theorem Rds.keep (h : Rds w B size A n xs) (hk : ∀ b o, b < B → w'.cell? ⟨b, o, none⟩ = w.cell? ⟨b, o, none⟩) : Rds w' B size A n xs :=
  ⟨h.1, fun hn => by
    obtain ⟨b, off, e, hb, hc⟩ := h.2 hn
    exact ⟨b, off, e, hb, fun j u hu => (hk _ _ hb).trans (hc j u hu)⟩⟩
theorem Rds.more (h : Rds w B size A n xs) (hB : B ≤ B') : Rds w B' size A n xs :=
  ⟨h.1, fun hn => by
    obtain ⟨b, off, e, hb, hc⟩ := h.2 hn
    exact ⟨b, off, e, by omega, hc⟩⟩
theorem Rds.below (h : Rds w B size A n xs) (hb : Below B w w') : Rds w' B size A n xs := h.keep fun _ _ hp => hb.cell (p := ⟨_, _, none⟩) hp
theorem Rds.of_own {base : Nat} {e : TypeId} {c : Nat} (h : w.ownsRow base e size (.slice A n c) n xs) : Rds w w.heap.size size A n xs := by
  refine ⟨h.1, fun hn => ?_⟩
  obtain ⟨g, cap, hv, _, hlt⟩ := h.form hn
  have hA : A = some ⟨g, 0, none⟩ := by injection hv
  subst hA
  refine ⟨g, 0, rfl, hlt, fun j u hu => ?_⟩
  have := h.cells (g := g) rfl j u hu
  rwa [addr_add] at this
end

/-! ## regions that draw their order: the class 'w, and what was made besides' -/
structure Sub (w : World) where
  x : World
  bel : Below w.heap.size w x
instance instSubNonempty (w : World) : Nonempty (Sub w) := ⟨⟨w, Below.refl _ _⟩⟩
theorem wp_region_quiet_bel {P : Program} {id : Nat} {Q : Exit → Act → World → Prop} {a : Act} {w : World} {l : List Oper} (hm : P.follows .mixedOrders = true) (hB : Region.lexB .any l.toArray = true)
    (h : wpQuiet P l.toArray (fun w' => ∃ y : Sub w, w' = y.x) (fun a' => ∀ w', (∃ y : Sub w, w' = y.x) → Q .normal a' w') l a) : (Code.region id l.toArray true).wp P Q a w :=
  wp_region_quiet (C := fun w' => ∃ y : Sub w, w' = y.x) hm hB ⟨⟨w.drew, (Below.refl _ _).drew⟩, rfl⟩ (by simpa using h)
theorem Calls.quiet_bel {P : Program} {f : FuncId} {args : Array Value} {w : World} {y : Sub w} {v : Value}
    (h : Calls P f args y.x fun e w' => e = .returned v ∧ Below y.x.heap.size y.x w') : Calls P f args y.x fun e w'' => e = .returned v ∧ ∃ z : Sub w, w'' = z.x :=
  h.mono fun _ _ ⟨he, hb⟩ => ⟨he, ⟨_, y.bel.trans (hb.mono y.bel.size)⟩, rfl⟩
theorem Calls.quiet_same {P : Program} {f : FuncId} {args : Array Value} {w : World} {y : Sub w} {v : Value}
    (h : Calls P f args y.x fun e w' => e = .returned v ∧ y.x = w') : Calls P f args y.x fun e w'' => e = .returned v ∧ ∃ z : Sub w, w'' = z.x :=
  h.mono fun _ _ ⟨he, hb⟩ => ⟨he, y, hb.symm⟩
theorem Sub.cell {w : World} (y : Sub w) {b o : Nat} {u : Value} (h : w.cell? ⟨b, o, none⟩ = some u) : y.x.cell? ⟨b, o, none⟩ = some u := by
  have hb : b < w.heap.size := by
    rcases Nat.lt_or_ge b w.heap.size with h1 | h1
    · exact h1
    · simp [World.cell?, Array.getElem?_eq_none h1] at h
  exact (y.bel.cell (p := ⟨b, o, none⟩) hb).trans h
theorem lt_of_cell {w : World} {b o : Nat} {u : Value} (h : w.cell? ⟨b, o, none⟩ = some u) : b < w.heap.size := by
  rcases Nat.lt_or_ge b w.heap.size with h1 | h1
  · exact h1
  · simp [World.cell?, Array.getElem?_eq_none h1] at h
theorem ret_bool {a b : Bool} (h : a = b) : Ending.returned (.bool a) = .returned (.bool b) := by rw [h]
theorem ret_int {k : IntKind} {a b : Int} (h : a = b) : Ending.returned (.int k a) = .returned (.int k b) := by rw [h]

/-! ## append onto a row of the call's own, from whatever slice -/
theorem own_form {w : World} {base : Nat} {e : TypeId} {size n : Nat} {v : Value} {xs : List Value} (h : w.ownsRow base e size v n xs) : ∃ A c, v = .slice A n c ∧ n ≤ c := by
  rcases h.2 with ⟨rfl, rfl⟩ | ⟨g, cap, cur, rfl, _, _, hc, _⟩
  · exact ⟨none, 0, rfl, Nat.le_refl _⟩
  · exact ⟨_, cap, rfl, hc⟩
theorem own_below {w w1 : World} {base : Nat} {e : TypeId} {size n : Nat} {v : Value} {xs : List Value} (h : w.ownsRow base e size v n xs) (hb : Below w.heap.size w w1) : w1.ownsRow base e size v n xs := by
  refine h.kept (row := none) ⟨hb.os, hb.tape, hb.output, hb.size, fun k hk _ => hb.block k hk⟩ ?_
  cases v.ownBlock <;> simp
theorem own_base {w : World} {base base' : Nat} {e : TypeId} {size n : Nat} {v : Value} {xs : List Value} (h : w.ownsRow base e size v n xs) (hb : base' ≤ base) : w.ownsRow base' e size v n xs := by
  refine ⟨h.1, ?_⟩
  rcases h.2 with h1 | ⟨g, cap, cur, h1, h2, h3⟩
  · exact .inl h1
  · exact .inr ⟨g, cap, cur, h1, by omega, h3⟩
theorem own_nil (w : World) (base : Nat) (e : TypeId) (size : Nat) : w.ownsRow base e size (.slice none 0 0) 0 [] := World.ownsRow_nil w base e size
theorem run_append_nil {P : Program} (w : World) (base : Nat) (t ty e : TypeId) (i : TypeInfo) (size : Nat) (ht : P.underlying t = some (.slice e)) (hi : P.info? e = some i)
    (v : Value) (n : Nat) (xs : List Value) (hown : w.ownsRow base e size v n xs) (c : Nat) : (Builtin.append_ #[t, t] ty #[v, .slice none 0 c]).run P w = .ok v w := by
  rcases hown.2 with ⟨rfl, rfl⟩ | ⟨g, cap, cur, rfl, _, _, hnc, _⟩
  · simp [Builtin.append_, run_underlying ht, sizeOf, typeInfo, hi, Builtin.lenOf, Builtin.firstCells]
  · simp [Builtin.append_, run_underlying ht, sizeOf, typeInfo, hi, Builtin.lenOf, Builtin.firstCells, hnc, storeCells]
theorem run_app {P : Program} (w : World) (base : Nat) (t ty e : TypeId) (z : Value) (size bytes : Nat) (ht : P.underlying t = some (.slice e)) (hinf : (P.info? e).map (fun i => (i.zero, i.size, i.bytes)) = some (some z, size, bytes))
    (hzs : z.cells.size = size) (hsz : 0 < size)
    (A0 : Option Addr) (c0 n : Nat) (xs : List Value) (hown : w.ownsRow base e size (.slice A0 n c0) n xs)
    (B : Nat) (A : Option Addr) (m c : Nat) (news : List Value) (hr : Rds w B size A m news) (h1 : ∀ u ∈ news, u.oneCell' = true)
    (h63 : n + m ≤ maxLen) (hbytes : (n + m) * bytes ≤ 140737488355328) (hbase : base ≤ w.heap.size) :
    ∃ A' c' w', (Builtin.append_ #[t, t] ty #[.slice A0 n c0, .slice A m c]).run P w = .ok (.slice A' (n + m) c') w' ∧ w'.ownsRow base e size (.slice A' (n + m) c') (n + m) (xs ++ news) ∧ w.grownBy w' (Value.slice A0 n c0).ownBlock ∧
      ((Value.slice A' (n + m) c').ownBlock = (Value.slice A0 n c0).ownBlock ∨ (Value.slice A' (n + m) c').ownBlock = some w.heap.size) := by
  obtain ⟨i, hi, hz, hs, hby⟩ := info_parts hinf
  have hnil : m = 0 → news = [] := fun h0 => List.eq_nil_of_length_eq_zero (by rw [hr.1, h0, Nat.zero_mul])
  rcases A with _ | ad
  · have hm : m = 0 := by
      rcases Nat.eq_zero_or_pos m with h0 | h0
      · exact h0
      · obtain ⟨b, off, h, _⟩ := hr.2 h0
        cases h
    subst hm
    rw [hnil rfl]
    exact ⟨A0, c0, w, run_append_nil w base t ty e i size ht hi _ n xs hown c, by simpa using hown, World.grownBy.refl w _, .inl rfl⟩
  · have hcells : ∀ j u, news[j]? = some u → w.cell? (ad.add j) = some u := by
      intro j u hu
      rcases Nat.eq_zero_or_pos m with h0 | h0
      · rw [hnil h0] at hu
        simp at hu
      · obtain ⟨b, off, h, _, hc⟩ := hr.2 h0
        injection h with h
        subst h
        rw [addr_add]
        exact hc j u hu
    obtain ⟨v', w', hrun, h2, h3, _, h5⟩ := run_append_own_at (P := P) w base t ty e i z size bytes ht hi hz hs hby hzs hsz _ n xs hown ad m c news hr.1 hcells h1 h63 hbytes hbase
    obtain ⟨A', c', rfl, _⟩ := own_form h2
    exact ⟨A', c', w', hrun, h2, h3, h5⟩
theorem wp_app {P : Program} {w : World} {o : Oper} {a : Act} {K : Act → World → Prop} {Q : Exit → Act → World → Prop} (s x : Operand) (t : TypeId)
    (ho : o.op = .call { callee := .builtin .append, args := #[s, x], argTypes := #[t, t] })
    (base : Nat) (e : TypeId) (z : Value) (size bytes : Nat) (ht : P.underlying t = some (.slice e)) (hinf : (P.info? e).map (fun i => (i.zero, i.size, i.bytes)) = some (some z, size, bytes))
    (hzs : z.cells.size = size) (hsz : 0 < size)
    (A0 : Option Addr) (c0 n : Nat) (xs : List Value) (hs : a.eval s = .slice A0 n c0) (hown : w.ownsRow base e size (.slice A0 n c0) n xs)
    (B : Nat) (A : Option Addr) (m c : Nat) (news : List Value) (hx : a.eval x = .slice A m c) (hr : Rds w B size A m news) (h1 : ∀ u ∈ news, u.oneCell' = true)
    (h63 : n + m ≤ maxLen) (hbytes : (n + m) * bytes ≤ 140737488355328) (hbase : base ≤ w.heap.size)
    (h : ∀ A' c' w', w'.ownsRow base e size (.slice A' (n + m) c') (n + m) (xs ++ news) → Below base w w' → w.grownBy w' (Value.slice A0 n c0).ownBlock →
      ((Value.slice A' (n + m) c').ownBlock = (Value.slice A0 n c0).ownBlock ∨ (Value.slice A' (n + m) c').ownBlock = some w.heap.size) → K (a.put o.dst (.slice A' (n + m) c')) w') : o.wp P a w K Q := by
  obtain ⟨A', c', w', hrun, h2, h3, h4⟩ := run_app (P := P) w base t o.type e z size bytes ht hinf hzs hsz A0 c0 n xs hown B A m c news hr h1 h63 hbytes hbase
  unfold Oper.wp execOp
  simp only [ho, resolve, invoke, builtin, Sem.run_bind, Sem.run_pure, Result.andThen_ok, List.map_toArray, List.map_cons, List.map_nil, hs, hx, hrun]
  exact h A' c' w' h2 ((Below.refl _ _).grown h3 hbase fun k hk => (hown.lt k hk).1) h3 h4
theorem wpList_app {P : Program} {w : World} {ops : Array Oper} {rest : List Oper} {o : Oper} {a : Act} {Q : Exit → Act → World → Prop} (hgd : o.guard = none) (s x : Operand) (t : TypeId)
    (ho : o.op = .call { callee := .builtin .append, args := #[s, x], argTypes := #[t, t] })
    (base : Nat) (e : TypeId) (z : Value) (size bytes : Nat) (ht : P.underlying t = some (.slice e)) (hinf : (P.info? e).map (fun i => (i.zero, i.size, i.bytes)) = some (some z, size, bytes))
    (hzs : z.cells.size = size) (hsz : 0 < size)
    (A0 : Option Addr) (c0 n : Nat) (xs : List Value) (hs : a.eval s = .slice A0 n c0) (hown : w.ownsRow base e size (.slice A0 n c0) n xs)
    (B : Nat) (A : Option Addr) (m c : Nat) (news : List Value) (hx : a.eval x = .slice A m c) (hr : Rds w B size A m news) (h1 : ∀ u ∈ news, u.oneCell' = true)
    (h63 : n + m ≤ maxLen) (hbytes : (n + m) * bytes ≤ 140737488355328) (hbase : base ≤ w.heap.size)
    (h : ∀ A' c' w', w'.ownsRow base e size (.slice A' (n + m) c') (n + m) (xs ++ news) → Below base w w' → w.grownBy w' (Value.slice A0 n c0).ownBlock →
      ((Value.slice A' (n + m) c').ownBlock = (Value.slice A0 n c0).ownBlock ∨ (Value.slice A' (n + m) c').ownBlock = some w.heap.size) → wpList P ops Q rest (a.put o.dst (.slice A' (n + m) c')) w') : wpList P ops Q (o :: rest) a w :=
  wpList_plain hgd fun _ hK => wp_app s x t ho base e z size bytes ht hinf hzs hsz A0 c0 n xs hs hown B A m c news hx hr h1 h63 hbytes hbase fun A' c' w' h2 h3 h4 h5 => hK _ _ (h A' c' w' h2 h3 h4 h5)

/-! ## bits of int, both sides not below 0 -/
theorem ofInt_i64 (a : Nat) (ha : a < 9223372036854775808) : (BitVec.ofInt 64 (a : Int)).toNat = a := by
  rw [BitVec.ofInt_natCast, BitVec.toNat_ofNat]; exact Nat.mod_eq_of_lt (by omega)
theorem i64_and (a b : Nat) (ha : a < 9223372036854775808) (hb : b < 9223372036854775808) : bits .and .i64 (a : Int) (b : Int) = ((a &&& b : Nat) : Int) := by
  have hx : a &&& b < 2 ^ 63 := Nat.and_lt_two_pow _ (by omega)
  show IntKind.i64.wrap ((BitVec.ofInt 64 (a : Int) &&& BitVec.ofInt 64 (b : Int)).toNat : Int) = _
  rw [BitVec.toNat_and, ofInt_i64 a ha, ofInt_i64 b hb, IntKind.wrap_i64]
  omega
theorem i64_or (a b : Nat) (ha : a < 9223372036854775808) (hb : b < 9223372036854775808) : bits .or .i64 (a : Int) (b : Int) = ((a ||| b : Nat) : Int) := by
  have hx : a ||| b < 2 ^ 63 := Nat.or_lt_two_pow (by omega) (by omega)
  show IntKind.i64.wrap ((BitVec.ofInt 64 (a : Int) ||| BitVec.ofInt 64 (b : Int)).toNat : Int) = _
  rw [BitVec.toNat_or, ofInt_i64 a ha, ofInt_i64 b hb, IntKind.wrap_i64]
  omega
/-- a without the bits of b -/
def ndiff (a b : Nat) : Nat := a ^^^ (a &&& b)
theorem testBit_ndiff (a b i : Nat) : (ndiff a b).testBit i = (a.testBit i && !b.testBit i) := by
  simp only [ndiff, Nat.testBit_xor, Nat.testBit_and]
  cases a.testBit i <;> cases b.testBit i <;> rfl
theorem and_pow (d k : Nat) : d &&& 2 ^ k = if d.testBit k then 2 ^ k else 0 := by
  apply Nat.eq_of_testBit_eq
  intro i
  rw [Nat.testBit_and, Nat.testBit_two_pow]
  by_cases h : k = i
  · subst h
    cases hd : d.testBit k <;> simp
  · cases hd : d.testBit k <;> simp [h]
theorem ndiff_lt {a b n : Nat} (h : a < 2 ^ n) : ndiff a b < 2 ^ n :=
  Nat.xor_lt_two_pow h (by rw [Nat.and_comm]; exact Nat.and_lt_two_pow _ h)
theorem i64_andNot (a b : Nat) (ha : a < 9223372036854775808) (hb : b < 9223372036854775808) : bits .andNot .i64 (a : Int) (b : Int) = ((ndiff a b : Nat) : Int) := by
  have h2 : (63 : Nat) ≤ 64 := by omega
  have hx : ndiff a b < 2 ^ 63 := ndiff_lt (by omega)
  have he : (BitVec.ofInt 64 (a : Int) &&& ~~~ BitVec.ofInt 64 (b : Int)).toNat = ndiff a b := by
    apply Nat.eq_of_testBit_eq
    intro i
    rw [testBit_ndiff, BitVec.toNat_and, Nat.testBit_and, ofInt_i64 a ha]
    by_cases hi : i < 64
    · congr 1
      rw [BitVec.testBit_toNat, BitVec.getLsbD_not, BitVec.getLsbD, ofInt_i64 b hb]
      simp [hi]
    · have : a.testBit i = false := Nat.testBit_lt_two_pow (Nat.lt_of_lt_of_le (show a < 2 ^ 63 by omega) (Nat.pow_le_pow_right (by omega) (by omega)))
      simp [this]
  show IntKind.i64.wrap ((BitVec.ofInt 64 (a : Int) &&& ~~~ BitVec.ofInt 64 (b : Int)).toNat : Int) = _
  rw [he, IntKind.wrap_i64]
  omega
end Go.Proofs.Ytedopalmfakeaaa
namespace Go.Proofs.Ytedopalmfakeaaa
set_option linter.unusedVariables false
set_option linter.unusedSimpArgs false
open Go.RowKit

/-! ## the number of bits of a number below 2^24, as math/bits counts them -/
/-- the number of bits among the lowest f -/
def pop : Nat → Nat → Nat
  | 0, _ => 0
  | f + 1, n => n % 2 + pop f (n / 2)
def popc (n : Nat) : Nat := pop 24 n
def p1 (x : Nat) : Nat := ((x / 2) &&& 6148914691236517205) + (x &&& 6148914691236517205)
def p2 (x : Nat) : Nat := ((x / 4) &&& 3689348814741910323) + (x &&& 3689348814741910323)
def p3 (x : Nat) : Nat := (x / 16 + x) &&& 1085102592571150095
def p4 (x : Nat) : Nat := x + x / 256
def p5 (x : Nat) : Nat := x + x / 65536
def p6 (x : Nat) : Nat := x + x / 4294967296

theorem and_lane (q r a b : Nat) (hr : r < 256) (hb : b < 256) : (256 * q + r) &&& (256 * a + b) = 256 * (q &&& a) + (r &&& b) := by
  apply Nat.eq_of_testBit_eq
  intro i
  have hrb : r &&& b < 2 ^ 8 := Nat.and_lt_two_pow _ hb
  rw [Nat.testBit_and, show 256 = 2 ^ 8 from rfl, Nat.testBit_two_pow_mul_add _ hr, Nat.testBit_two_pow_mul_add _ hb, Nat.testBit_two_pow_mul_add _ hrb]
  split
  · rw [Nat.testBit_and]
  · rw [Nat.testBit_and]
def g1 (M x : Nat) : Nat := ((x / 2) &&& M) + (x &&& M)
def g2 (M x : Nat) : Nat := ((x / 4) &&& M) + (x &&& M)
def g3 (M x : Nat) : Nat := (x / 16 + x) &&& M
theorem g1_lane (M q r : Nat) (hr : r < 256) : g1 (256 * M + 85) (256 * q + r) = 256 * g1 M q + g1 85 r := by
  have e : (256 * q + r) / 2 = 256 * (q / 2) + (q % 2 * 128 + r / 2) := by omega
  have hm : q % 2 * 128 + r / 2 < 256 := by omega
  have f : (q % 2 * 128 + r / 2) &&& 85 = (r / 2) &&& 85 := by
    have key : ∀ t, t < 2 → ∀ r, r < 256 → (t * 128 + r / 2) &&& 85 = (r / 2) &&& 85 := by decide +kernel
    exact key _ (by omega) _ hr
  unfold g1
  rw [e, and_lane _ _ _ _ hm (by omega), and_lane _ _ _ _ hr (by omega), f]
  omega
theorem g2_lane (M q r : Nat) (hr : r < 256) : g2 (256 * M + 51) (256 * q + r) = 256 * g2 M q + g2 51 r := by
  have e : (256 * q + r) / 4 = 256 * (q / 4) + (q % 4 * 64 + r / 4) := by omega
  have hm : q % 4 * 64 + r / 4 < 256 := by omega
  have f : (q % 4 * 64 + r / 4) &&& 51 = (r / 4) &&& 51 := by
    have key : ∀ t, t < 4 → ∀ r, r < 256 → (t * 64 + r / 4) &&& 51 = (r / 4) &&& 51 := by decide +kernel
    exact key _ (by omega) _ hr
  unfold g2
  rw [e, and_lane _ _ _ _ hm (by omega), and_lane _ _ _ _ hr (by omega), f]
  omega
theorem g3_lane (M q r : Nat) (hr : r ≤ 68) (hq : q % 16 ≤ 4) : g3 (256 * M + 15) (256 * q + r) = 256 * g3 M q + g3 15 r := by
  have e : (256 * q + r) / 16 + (256 * q + r) = 256 * (q / 16 + q) + (q % 16 * 16 + (r / 16 + r)) := by omega
  have hm : q % 16 * 16 + (r / 16 + r) < 256 := by omega
  have f : (q % 16 * 16 + (r / 16 + r)) &&& 15 = (r / 16 + r) &&& 15 := by
    have key : ∀ t, t < 5 → ∀ r, r < 69 → (t * 16 + (r / 16 + r)) &&& 15 = (r / 16 + r) &&& 15 := by decide +kernel
    exact key _ (by omega) _ (by omega)
  unfold g3
  rw [e, and_lane _ _ _ _ hm (by omega), f]
def b8 (r : Nat) : Nat := g3 15 (g2 51 (g1 85 r))
theorem b8_pop : ∀ r, r < 256 → b8 r = pop 8 r ∧ g1 85 r < 256 ∧ g2 51 (g1 85 r) ≤ 68 ∧ g2 51 (g1 85 r) % 16 ≤ 4 ∧ b8 r ≤ 8 := by decide +kernel
theorem pop_add (f g n : Nat) : pop (f + g) n = pop f n + pop g (n / 2 ^ f) := by
  induction f generalizing n with
  | zero => simp [pop]
  | succ f ih =>
    rw [show f + 1 + g = (f + g) + 1 from by omega]
    simp only [pop]
    rw [ih, Nat.div_div_eq_div_mul, show (2 : Nat) ^ (f + 1) = 2 * 2 ^ f from by rw [Nat.pow_succ]; omega]
    omega
theorem pop_mod (f n : Nat) : pop f n = pop f (n % 2 ^ f) := by
  induction f generalizing n with
  | zero => rfl
  | succ f ih =>
    simp only [pop]
    have h1 : n % 2 ^ (f + 1) % 2 = n % 2 := Nat.mod_mod_of_dvd _ (by rw [Nat.pow_succ]; exact Nat.dvd_mul_left 2 _)
    have h2 : n % 2 ^ (f + 1) / 2 = n / 2 % 2 ^ f := by
      rw [Nat.pow_succ, Nat.mul_comm, Nat.mod_mul_right_div_self]
    rw [h1, h2, ← ih]
/-- a number's bytes -/
theorem lanes (x : Nat) : ∃ a b c, x % 16777216 = 256 * (256 * c + b) + a ∧ a < 256 ∧ b < 256 ∧ c < 256 :=
  ⟨x % 256, x / 256 % 256, x / 65536 % 256, by omega, by omega, by omega, by omega⟩
theorem fin3 (u v w : Nat) (hu : u ≤ 8) (hv : v ≤ 8) (hw : w ≤ 8) : p6 (p5 (p4 (256 * (256 * (256 * 0 + w) + v) + u))) % 128 = u + v + w := by
  have e4 : p4 (256 * (256 * (256 * 0 + w) + v) + u) = (u + v) + 256 * (v + w) + 65536 * w := by unfold p4; omega
  have e5 : p5 ((u + v) + 256 * (v + w) + 65536 * w) = (u + v) + 256 * (v + w) + 65536 * w + w := by unfold p5; omega
  have e6 : p6 ((u + v) + 256 * (v + w) + 65536 * w + w) = (u + v) + 256 * (v + w) + 65536 * w + w := by unfold p6; omega
  rw [e4, e5, e6]
  omega
theorem swar (x : Nat) (hx : x < 16777216) : p6 (p5 (p4 (p3 (p2 (p1 x))))) % 128 = popc x ∧ p3 (p2 (p1 x)) < 16777216 ∧ p2 (p1 x) < 16777216 ∧ p1 x < 16777216 := by
  obtain ⟨a, b, c, hx', ha, hb, hc⟩ := lanes x
  have e0 : x = 256 * (256 * (256 * 0 + c) + b) + a := by omega
  have e1 : p1 x = 256 * (256 * (256 * 0 + g1 85 c) + g1 85 b) + g1 85 a := by
    show g1 (256 * (256 * (256 * 366503875925 + 85) + 85) + 85) x = _
    rw [e0, g1_lane _ _ _ ha, g1_lane _ _ _ hb, g1_lane _ _ _ hc]
    simp [g1]
  obtain ⟨A1, A2, A3, A4, A5⟩ := b8_pop a ha
  obtain ⟨B1, B2, B3, B4, B5⟩ := b8_pop b hb
  obtain ⟨C1, C2, C3, C4, C5⟩ := b8_pop c hc
  have e2 : p2 (p1 x) = 256 * (256 * (256 * 0 + g2 51 (g1 85 c)) + g2 51 (g1 85 b)) + g2 51 (g1 85 a) := by
    show g2 (256 * (256 * (256 * 219902325555 + 51) + 51) + 51) _ = _
    rw [e1, g2_lane _ _ _ A2, g2_lane _ _ _ B2, g2_lane _ _ _ C2]
    simp [g2]
  have e3 : p3 (p2 (p1 x)) = 256 * (256 * (256 * 0 + b8 c) + b8 b) + b8 a := by
    show g3 (256 * (256 * (256 * 64677154575 + 15) + 15) + 15) _ = _
    rw [e2, g3_lane _ _ _ A3 (by omega), g3_lane _ _ _ B3 (by omega), g3_lane _ _ _ C3 (by omega)]
    simp [g3, b8]
  refine ⟨?_, by omega, by omega, by omega⟩
  have hp : popc x = b8 a + b8 b + b8 c := by
    unfold popc
    rw [show (24 : Nat) = 8 + (8 + 8) from rfl, pop_add, pop_add, A1, B1, C1]
    have f1 : pop 8 x = pop 8 a := by rw [pop_mod]; congr 1; omega
    have f2 : pop 8 (x / 2 ^ 8) = pop 8 b := by rw [pop_mod]; congr 1; omega
    have f3 : pop 8 (x / 2 ^ 8 / 2 ^ 8) = pop 8 c := by rw [pop_mod]; congr 1; omega
    rw [f1, f2, f3]
    omega
  rw [e3, hp]
  exact fin3 _ _ _ A5 B5 C5
theorem pop_le (f n : Nat) : pop f n ≤ f := by
  induction f generalizing n with
  | zero => exact Nat.le_refl _
  | succ f ih => simp only [pop]; have := ih (n / 2); omega
theorem popc_le (n : Nat) : popc n ≤ 24 := pop_le 24 n

theorem pop_zero (f : Nat) : pop f 0 = 0 := by
  induction f with
  | zero => rfl
  | succ f ih => simp only [pop]; rw [ih]
theorem popc_half (m : Nat) (hm : m < 16777216) : popc m = m % 2 + popc (m / 2) := by
  have h1 : pop 24 m = m % 2 + pop 23 (m / 2) := rfl
  have h2 : pop 24 (m / 2) = pop 23 (m / 2) + pop 1 (m / 2 / 2 ^ 23) := pop_add 23 1 (m / 2)
  have h3 : m / 2 / 2 ^ 23 = 0 := by omega
  rw [h3, pop_zero] at h2
  unfold popc
  omega
theorem i64_and1 (m : Nat) (hm : m < 16777216) : bits .and .i64 (m : Int) 1 = ((m % 2 : Nat) : Int) := by
  rw [show (1 : Int) = ((1 : Nat) : Int) from rfl, i64_and _ _ (by omega) (by omega), Nat.and_one_is_mod]
theorem oc1 (x : Nat) (hx : x < 16777216) : IntKind.u64.wrap (bits .and .u64 ((x : Int) / 2) 6148914691236517205 + bits .and .u64 (x : Int) 6148914691236517205) = (p1 x : Nat) := by
  have h := (swar x hx).2.2.2
  rw [show ((x : Int) / 2) = ((x / 2 : Nat) : Int) from by omega]
  rw [show (6148914691236517205 : Int) = ((6148914691236517205 : Nat) : Int) from rfl, u64_and_nat _ _ (by omega) (by omega), u64_and_nat _ _ (by omega) (by omega), IntKind.wrap_u64]
  unfold p1 at *
  omega
theorem oc2 (x : Nat) (hx : x < 16777216) (h : p2 x < 16777216) : IntKind.u64.wrap (bits .and .u64 ((x : Int) / 4) 3689348814741910323 + bits .and .u64 (x : Int) 3689348814741910323) = (p2 x : Nat) := by
  rw [show ((x : Int) / 4) = ((x / 4 : Nat) : Int) from by omega]
  rw [show (3689348814741910323 : Int) = ((3689348814741910323 : Nat) : Int) from rfl, u64_and_nat _ _ (by omega) (by omega), u64_and_nat _ _ (by omega) (by omega), IntKind.wrap_u64]
  unfold p2 at *
  omega
theorem oc3 (x : Nat) (hx : x < 16777216) : bits .and .u64 ((x : Int) / 16 + (x : Int)) 1085102592571150095 = (p3 x : Nat) := by
  rw [show ((x : Int) / 16 + (x : Int)) = ((x / 16 + x : Nat) : Int) from by omega]
  rw [show (1085102592571150095 : Int) = ((1085102592571150095 : Nat) : Int) from rfl, u64_and_nat _ _ (by omega) (by omega)]
  rfl
theorem oc7 (x : Nat) (hx : x < 16777216 * 512) : bits .and .i64 (x : Int) 127 = ((x % 128 : Nat) : Int) := by
  rw [show (127 : Int) = ((127 : Nat) : Int) from rfl, i64_and _ _ (by omega) (by omega)]
  congr 1
  exact Nat.and_two_pow_sub_one_eq_mod x 7
end Go.Proofs.Ytedopalmfakeaaa
namespace Go.Proofs.Ytedopalmfakeaaa
set_option linter.unusedVariables false
set_option linter.unusedSimpArgs false

/-! ## numbers by words of 32 bits, the lowest first (plain) -/
def nv : List Nat → Nat
  | [] => 0
  | x :: l => x + 4294967296 * nv l
/-- 2^32 to the k (the numeral stands ahead of the factor that is looked into: 'x * 4294967296' and '4294967296 ^ k' are unfolded by the kernel without an end) -/
def wp : Nat → Nat
  | 0 => 1
  | k + 1 => 4294967296 * wp k
/-- the number of bits -/
def bl (n : Nat) : Nat := if n = 0 then 0 else Nat.log2 n + 1
end Go.Proofs.Ytedopalmfakeaaa
namespace Go.Proofs.Ytedopalmfakeaaa
set_option linter.unusedSimpArgs false
set_option linter.unusedVariables false
/-! ## the reduced form, on matrices as functions (plain) -/
abbrev Mf := Nat → Nat → Rat
/-- the pivot's row is divided, and subtracted from the others -/
def elim (S : Mf) (a k : Nat) : Mf := fun i j => if i = a then S a j / S a k else S i j - S i k * (S a j / S a k)
/-! ## how great the words become -/
def gl (L : Nat) : Nat → Nat
  | 0 => L
  | k + 1 => 4 * gl L k + 1
end Go.Proofs.Ytedopalmfakeaaa
namespace Go.Proofs.Ytedopalmfakeaaa
set_option linter.unusedSimpArgs false
set_option linter.unusedVariables false
/-! ## formulas (plain): values, what lies below Top -/
/-- a formula: nodes as functions of their numbers; an argument below vars is an event, vars + i is node i -/
structure Frm where
  vars : Nat
  nn : Nat
  kd : Nat → Nat
  kk : Nat → Int
  ar : Nat → List Nat
  top : Nat
/-- arguments come earlier -/
structure Frm.Ok (f : Frm) : Prop where
  ar : ∀ i, i < f.nn → ∀ a, a ∈ f.ar i → a < f.vars + i
  top : f.top < f.vars + f.nn
/-- the value of a node, of the number of its true arguments -/
def ndV (kd : Nat) (kk : Int) (len n : Nat) : Bool :=
  if kd = 0 then kk == 1 else if kd = 1 then n == 0 else if kd = 2 then n == len else if kd = 3 then decide (0 < n) else if kd = 4 then decide (kk ≤ (n : Int)) else n % 2 == 1
/-- the number of true ones among the first k arguments -/
def cntT (v : Nat → Bool) : List Nat → Nat
  | [] => 0
  | a :: l => (if v a then 1 else 0) + cntT v l
theorem cntT_congr {v u : Nat → Bool} : ∀ {l : List Nat}, (∀ a, a ∈ l → v a = u a) → cntT v l = cntT u l
  | [], _ => rfl
  | a :: l, h => by
    rw [cntT, cntT, h a (by simp), cntT_congr fun x hx => h x (by simp [hx])]
theorem cntT_append (v : Nat → Bool) (l m : List Nat) : cntT v (l ++ m) = cntT v l + cntT v m := by
  induction l with
  | nil => simp [cntT]
  | cons a l ih => rw [List.cons_append, cntT, cntT, ih]; omega
/-- the values of the events and of the first i nodes -/
def vlF (f : Frm) (t : Nat) : Nat → Nat → Bool
  | 0 => fun a => t.testBit a
  | i + 1 => fun a => if a = f.vars + i then ndV (f.kd i) (f.kk i) (f.ar i).length (cntT (vlF f t i) (f.ar i)) else vlF f t i a
def Frm.val (f : Frm) (t : Nat) : Bool := vlF f t f.nn f.top
/-- the marks below Top, when the nodes from i on have been looked at -/
def mkF (f : Frm) : Nat → Nat → Bool
  | 0 => fun a => a == f.top
  | k + 1 => fun a => mkF f k a || (mkF f k (f.vars + (f.nn - 1 - k)) && (f.ar (f.nn - 1 - k)).contains a)
def Frm.mark (f : Frm) : Nat → Bool := mkF f f.nn
section
variable {f : Frm} {t u : Nat}
theorem vlF_old {i j a : Nat} (hij : i ≤ j) (ha : a < f.vars + i) : vlF f t j a = vlF f t i a := by
  induction j with
  | zero => rw [show i = 0 by omega]
  | succ j ih =>
    by_cases e : i = j + 1
    · rw [e]
    · rw [vlF]
      dsimp only
      rw [if_neg (by omega), ih (by omega)]
theorem vlF_ev {i a : Nat} (ha : a < f.vars) : vlF f t i a = t.testBit a := vlF_old (i := 0) (Nat.zero_le i) (by omega)
theorem vlF_nd {i j : Nat} (hij : i < j) : vlF f t j (f.vars + i) = ndV (f.kd i) (f.kk i) (f.ar i).length (cntT (vlF f t i) (f.ar i)) := by
  rw [vlF_old (i := i + 1) hij (by omega), vlF]
  dsimp only
  rw [if_pos rfl]
theorem mkF_more {k k' a : Nat} (h : k ≤ k') (hm : mkF f k a = true) : mkF f k' a = true := by
  induction k' with
  | zero => rw [show k = 0 by omega] at hm; exact hm
  | succ k' ih =>
    by_cases e : k = k' + 1
    · rw [← e]; exact hm
    · rw [mkF]
      dsimp only
      rw [ih (by omega)]; rfl
/-- a node's mark is settled once the later nodes have been looked at -/
theorem mkF_set (ok : f.Ok) {k k' a : Nat} (h : k ≤ k') (hk : k' ≤ f.nn) (ha : f.vars + f.nn ≤ a + k + 1) (hm : mkF f k' a = true) : mkF f k a = true := by
  induction k' with
  | zero => rw [show k = 0 by omega]; exact hm
  | succ k' ih =>
    by_cases e : k = k' + 1
    · rw [e]; exact hm
    · rw [mkF] at hm
      dsimp only at hm
      rw [Bool.or_eq_true, Bool.and_eq_true, List.contains_iff_mem] at hm
      rcases hm with hm | ⟨-, hm⟩
      · exact ih (by omega) (by omega) hm
      · have := ok.ar (f.nn - 1 - k') (by omega) a hm
        omega
theorem mark_top : f.mark f.top = true := mkF_more (k := 0) (Nat.zero_le _) (by show (f.top == f.top) = true; simp)
/-- below a marked node all is marked -/
theorem mark_ar (ok : f.Ok) {i a : Nat} (hi : i < f.nn) (hm : f.mark (f.vars + i) = true) (ha : a ∈ f.ar i) : f.mark a = true := by
  have h1 : mkF f (f.nn - 1 - i) (f.vars + i) = true := mkF_set ok (by omega) (Nat.le_refl _) (by omega) hm
  have h2 : mkF f (f.nn - 1 - i + 1) a = true := by
    rw [mkF]
    dsimp only
    rw [show f.nn - 1 - (f.nn - 1 - i) = i by omega, h1, List.contains_iff_mem.2 ha]
    simp
  exact mkF_more (by omega) h2
/-- the value hangs on the marked events alone -/
theorem vlF_sup (ok : f.Ok) (h : ∀ a, a < f.vars → f.mark a = true → t.testBit a = u.testBit a) : ∀ i, i ≤ f.nn → ∀ a, a < f.vars + i → f.mark a = true → vlF f t i a = vlF f u i a
  | 0, _, a, ha, hm => by
    rw [vlF_ev (by omega), vlF_ev (by omega)]
    exact h a (by omega) hm
  | i + 1, hi, a, ha, hm => by
    by_cases e : a = f.vars + i
    · subst e
      rw [vlF_nd (by omega), vlF_nd (by omega)]
      rw [cntT_congr fun b hb => vlF_sup ok h i (by omega) b (ok.ar i (by omega) b hb) (mark_ar ok (by omega) hm hb)]
    · rw [vlF_old (t := t) (i := i) (j := i + 1) (by omega) (by omega), vlF_old (t := u) (i := i) (j := i + 1) (by omega) (by omega)]
      exact vlF_sup ok h i (by omega) a (by omega) hm
theorem Frm.val_sup (ok : f.Ok) (h : ∀ a, a < f.vars → f.mark a = true → t.testBit a = u.testBit a) : f.val t = f.val u :=
  vlF_sup ok h f.nn (Nat.le_refl _) f.top ok.top mark_top
end
end Go.Proofs.Ytedopalmfakeaaa
namespace Go.Proofs.Ytedopalmfakeaaa
set_option linter.unusedSimpArgs false
set_option linter.unusedVariables false
/-! ## sorted lists without doubles; what is left of them by absorption (plain) -/
/-- a strict order in which each two elements compare -/
structure LtO {α : Type} (lt : α → α → Bool) : Prop where
  irr : ∀ a, lt a a = false
  tr : ∀ a b c, lt a b = true → lt b c = true → lt a c = true
  tot : ∀ a b, a ≠ b → lt a b = true ∨ lt b a = true
theorem LtO.as {α : Type} {lt : α → α → Bool} (h : LtO lt) {a b : α} (h1 : lt a b = true) : lt b a = false := by
  cases h2 : lt b a
  · rfl
  · have := h.tr a b a h1 h2; rw [h.irr] at this; cases this
theorem LtO.ne {α : Type} {lt : α → α → Bool} (h : LtO lt) {a b : α} (h1 : lt a b = true) : a ≠ b := by
  rintro rfl; rw [h.irr] at h1; cases h1
theorem LtO.uniq {α : Type} {lt : α → α → Bool} (h : LtO lt) : ∀ (l m : List α), l.Pairwise (fun a b => lt a b = true) → m.Pairwise (fun a b => lt a b = true) → (∀ x, x ∈ l ↔ x ∈ m) → l = m
  | [], [], _, _, _ => rfl
  | [], b :: m, _, _, e => by have := (e b).2 (by simp); simp at this
  | a :: l, [], _, _, e => by have := (e a).1 (by simp); simp at this
  | a :: l, b :: m, hl, hm, e => by
    rw [List.pairwise_cons] at hl hm
    have hab : a = b := by
      refine Classical.byContradiction fun hne => ?_
      have h1 : a ∈ m := by
        have := (e a).1 (by simp)
        rcases List.mem_cons.1 this with h1 | h1
        · exact absurd h1 hne
        · exact h1
      have h2 : b ∈ l := by
        have := (e b).2 (by simp)
        rcases List.mem_cons.1 this with h1 | h1
        · exact absurd h1.symm hne
        · exact h1
      have h3 := h.as (hl.1 b h2)
      rw [hm.1 a h1] at h3; cases h3
    subst hab
    congr 1
    refine LtO.uniq h l m hl.2 hm.2 fun x => ?_
    have ex := e x
    simp only [List.mem_cons] at ex
    constructor
    · intro hx
      rcases ex.1 (.inr hx) with h1 | h1
      · subst h1; have := hl.1 x hx; rw [h.irr] at this; cases this
      · exact h1
    · intro hx
      rcases ex.2 (.inr hx) with h1 | h1
      · subst h1; have := hm.1 x hx; rw [h.irr] at this; cases this
      · exact h1
/-! ### insertion -/
section
variable {α : Type} [DecidableEq α] (lt : α → α → Bool)
def insD (c : α) : List α → List α
  | [] => [c]
  | x :: l => if lt x c then x :: insD c l else if x = c then x :: l else c :: x :: l
def srtD (l : List α) : List α := l.foldl (fun s c => insD lt c s) []
variable {lt}
theorem insD_mem (c : α) : ∀ (l : List α) (x : α), x ∈ insD lt c l ↔ x = c ∨ x ∈ l
  | [], x => by simp [insD]
  | y :: l, x => by
    unfold insD
    split
    · rw [List.mem_cons, insD_mem c l x, List.mem_cons]; exact ⟨fun h => by rcases h with h | h | h <;> simp [h], fun h => by rcases h with h | h | h <;> simp [h]⟩
    · split
      · rename_i e; subst e; simp
      · simp
theorem insD_sorted (h : LtO lt) (c : α) : ∀ (l : List α), l.Pairwise (fun a b => lt a b = true) → (insD lt c l).Pairwise (fun a b => lt a b = true)
  | [], _ => by simp [insD]
  | y :: l, hl => by
    rw [List.pairwise_cons] at hl
    unfold insD
    split
    · rename_i hy
      rw [List.pairwise_cons]
      refine ⟨fun b hb => ?_, insD_sorted h c l hl.2⟩
      rcases (insD_mem c l b).1 hb with rfl | hb
      · exact hy
      · exact hl.1 b hb
    · rename_i hy
      split
      · rw [List.pairwise_cons]; exact hl
      · rename_i hne
        have hcy : lt c y = true := by
          rcases h.tot y c hne with h1 | h1
          · exact absurd h1 hy
          · exact h1
        rw [List.pairwise_cons]
        refine ⟨fun b hb => ?_, List.pairwise_cons.2 hl⟩
        rcases List.mem_cons.1 hb with rfl | hb
        · exact hcy
        · exact h.tr c y b hcy (hl.1 b hb)
theorem srtD_fold (h : LtO lt) : ∀ (l s : List α), s.Pairwise (fun a b => lt a b = true) → (l.foldl (fun s c => insD lt c s) s).Pairwise (fun a b => lt a b = true) ∧ ∀ x, x ∈ l.foldl (fun s c => insD lt c s) s ↔ x ∈ s ∨ x ∈ l
  | [], s, hs => ⟨hs, by simp⟩
  | c :: l, s, hs => by
    have := srtD_fold h l (insD lt c s) (insD_sorted h c s hs)
    refine ⟨this.1, fun x => ?_⟩
    have h2 := this.2 x
    simp only [List.foldl_cons, List.mem_cons]
    rw [h2, insD_mem]
    exact ⟨fun h => by rcases h with (h | h) | h <;> simp [h], fun h => by rcases h with h | h | h <;> simp [h]⟩
theorem srtD_sorted (h : LtO lt) (l : List α) : (srtD lt l).Pairwise (fun a b => lt a b = true) := (srtD_fold h l [] List.Pairwise.nil).1
theorem srtD_mem (h : LtO lt) (l : List α) (x : α) : x ∈ srtD lt l ↔ x ∈ l := by
  have := (srtD_fold h l [] List.Pairwise.nil).2 x
  unfold srtD
  simpa using this
end
/-! ### absorption -/
section
variable {α : Type} (lt wi : α → α → Bool)
/-- what implies comes behind -/
structure WiO : Prop where
  refl : ∀ a, wi a a = true
  tr : ∀ a b c, wi a b = true → wi b c = true → wi a c = true
  lt : ∀ c x, wi c x = true → c ≠ x → lt x c = true
variable {lt wi}
end
end Go.Proofs.Ytedopalmfakeaaa
