/- Contracts of functions and lemmas, used by the proofs of the given statements. No condition beyond those that each lemma names. -/
import Derived.Test.YtglpknhcneggeaaGreatDoorProg
import Derived.WalkKit
import Derived.Outline
import Derived.Handy
import Derived.Deep.QuietTactic
import Derived.BigQuiet
import Derived.WalkSpells
import Derived.WalkLawsBesides
import Derived.Lib.Hide
import Derived.Maps.AppendAt
import Derived.Deep.AppendLies
import Derived.LaidEql
namespace Go.Proofs.YtglpknhcneggeaaGreatDoor
set_option linter.unusedVariables false
set_option linter.unusedSimpArgs false
open Go.RowKit

/-! ## memory -/
theorem bcell {W w1 : World} (hb : Below W.heap.size W w1) : (∀ b o, b < W.heap.size → w1.cell? ⟨b, o, none⟩ = W.cell? ⟨b, o, none⟩) ∧ (∀ b o, b < W.heap.size → w1.frozen? ⟨b, o, none⟩ = W.frozen? ⟨b, o, none⟩) :=
  ⟨fun b o h => hb.cell (p := ⟨b, o, none⟩) h, fun b o h => hb.frozen (p := ⟨b, o, none⟩) h⟩

/-- the same, from a number of blocks that is written out (what was there before the call before, and what the text itself has made) -/
theorem bcellB {W w1 : World} {B : Nat} (hb : Below W.heap.size W w1) (hB : B ≤ W.heap.size) : (∀ b o, b < B → w1.cell? ⟨b, o, none⟩ = W.cell? ⟨b, o, none⟩) ∧ (∀ b o, b < B → w1.frozen? ⟨b, o, none⟩ = W.frozen? ⟨b, o, none⟩) :=
  ⟨fun b o h => hb.cell (p := ⟨b, o, none⟩) (by show b < _; omega), fun b o h => hb.frozen (p := ⟨b, o, none⟩) (by show b < _; omega)⟩
theorem bcellX {W w1 : World} {B : Nat} (hb : Below B W w1) : (∀ b o, b < B → w1.cell? ⟨b, o, none⟩ = W.cell? ⟨b, o, none⟩) ∧ (∀ b o, b < B → w1.frozen? ⟨b, o, none⟩ = W.frozen? ⟨b, o, none⟩) :=
  ⟨fun b o h => hb.cell (p := ⟨b, o, none⟩) h, fun b o h => hb.frozen (p := ⟨b, o, none⟩) h⟩
theorem below_at {W w1 : World} {B : Nat} (hb : Below B W w1) (b o : Nat) (h : b < B) : w1.cell? ⟨b, o, none⟩ = W.cell? ⟨b, o, none⟩ := hb.cell (p := ⟨b, o, none⟩) h
theorem below_fr {W w1 : World} {B : Nat} (hb : Below B W w1) (b o : Nat) (h : b < B) : w1.frozen? ⟨b, o, none⟩ = W.frozen? ⟨b, o, none⟩ := hb.frozen (p := ⟨b, o, none⟩) h
theorem lt_size {B : Nat} {W w1 : World} (hb : Below B W w1) : W.heap.size ≤ w1.heap.size := hb.size
theorem below_drewN {B : Nat} {a w : World} (h : Below B a w) (n : Nat) : Below B a (w.drewN n) := ⟨h.os, h.tape, h.output, h.size, h.block⟩
theorem size_drewN' (w : World) (n : Nat) : (w.drewN n).heap.size = w.heap.size := rfl
theorem addr_add (b off j : Nat) : (⟨b, off, none⟩ : Addr).add j = ⟨b, off + j, none⟩ := by
  unfold Addr.add; split
  · rename_i h; subst h; rfl
  · rfl
/-- a slice (its address A, n elements) reads as the cells xs, below block B -/
def Rds (w : World) (B size : Nat) (A : Option Addr) (n : Nat) (xs : List Value) : Prop :=
  xs.length = n * size ∧ (0 < n → ∃ b off, A = some ⟨b, off, none⟩ ∧ b < B ∧ ∀ j u, xs[j]? = some u → w.cell? ⟨b, off + j, none⟩ = some u)

section
variable {w w' : World} {B B' size n : Nat} {A : Option Addr} {xs : List Value}
theorem Rds.nil_ (w : World) (B size : Nat) (A : Option Addr) : Rds w B size A 0 [] := ⟨by simp, fun h => absurd h (by omega)⟩
theorem Rds.keep (h : Rds w B size A n xs) (hk : ∀ b o, b < B → w'.cell? ⟨b, o, none⟩ = w.cell? ⟨b, o, none⟩) : Rds w' B size A n xs :=
  ⟨h.1, fun hn => by
    obtain ⟨b, off, e, hb, hc⟩ := h.2 hn
    exact ⟨b, off, e, hb, fun j u hu => (hk _ _ hb).trans (hc j u hu)⟩⟩
theorem Rds.more (h : Rds w B size A n xs) (hB : B ≤ B') : Rds w B' size A n xs :=
  ⟨h.1, fun hn => by
    obtain ⟨b, off, e, hb, hc⟩ := h.2 hn
    exact ⟨b, off, e, by omega, hc⟩⟩
theorem Rds.below (h : Rds w B size A n xs) (hb : Below B w w') : Rds w' B size A n xs := h.keep fun _ _ hp => hb.cell (p := ⟨_, _, none⟩) hp
theorem Rds.alloc (h : Rds w B size A n xs) (hB : B ≤ w.heap.size) (o : Obj) : Rds (w.alloc o) B size A n xs := h.below ((Below.refl _ _).alloc hB o)
theorem Rds.of_own {base : Nat} {e : TypeId} {c : Nat} (h : w.ownsRow base e size (.slice A n c) n xs) : Rds w w.heap.size size A n xs := by
  refine ⟨h.1, fun hn => ?_⟩
  obtain ⟨g, cap, hv, _, hlt⟩ := h.form hn
  have hA : A = some ⟨g, 0, none⟩ := by injection hv
  subst hA
  refine ⟨g, 0, rfl, hlt, fun j u hu => ?_⟩
  have := h.cells (g := g) rfl j u hu
  rwa [addr_add] at this
theorem Rds.cut (h : Rds w B size A n xs) {k cap : Nat} (hk : k ≤ n) (hc : n ≤ cap) :
    Rds w B size (if cap = k then A else A.map (·.add (k * size))) (n - k) (xs.drop (k * size)) := by
  refine ⟨by rw [List.length_drop, h.1, Nat.sub_mul], fun hn => ?_⟩
  obtain ⟨b, off, rfl, hb, hcell⟩ := h.2 (by omega)
  rw [if_neg (by omega)]
  refine ⟨b, off + k * size, by simp [addr_add], hb, fun j u hu => ?_⟩
  rw [Nat.add_assoc]
  exact hcell _ u (by rw [← hu, List.getElem?_drop])
theorem Rds.take (h : Rds w B size A n xs) {k : Nat} (hk : k ≤ n) : Rds w B size A k (xs.take (k * size)) := by
  refine ⟨by rw [List.length_take, h.1]; exact Nat.min_eq_left (Nat.mul_le_mul_right _ hk), fun hn => ?_⟩
  obtain ⟨b, off, rfl, hb, hcell⟩ := h.2 (by omega)
  exact ⟨b, off, rfl, hb, fun j u hu => hcell j u (by
    rw [List.getElem?_take] at hu
    split at hu
    · exact hu
    · cases hu)⟩
end

/-! ## regions that draw their order: the class 'w, and what was made besides' -/
structure Sub (w : World) where
  x : World
  bel : Below w.heap.size w x
instance instSubNonempty (w : World) : Nonempty (Sub w) := ⟨⟨w, Below.refl _ _⟩⟩
theorem wp_region_quiet_bel {P : Program} {id : Nat} {Q : Exit → Act → World → Prop} {a : Act} {w : World} {l : List Oper} (hm : P.follows .mixedOrders = true) (hB : Region.lexB .any l.toArray = true)
    (h : wpQuiet P l.toArray (fun w' => ∃ y : Sub w, w' = y.x) (fun a' => ∀ w', (∃ y : Sub w, w' = y.x) → Q .normal a' w') l a) : (Code.region id l.toArray true).wp P Q a w :=
  wp_region_quiet (C := fun w' => ∃ y : Sub w, w' = y.x) hm hB ⟨⟨w.drew, (Below.refl _ _).drew⟩, rfl⟩ (by simpa using h)
theorem Calls.quiet_bel {P : Program} {f : FuncId} {args : Array Value} {w : World} {y : Sub w} {v : Value}
    (h : Calls P f args y.x fun e w' => e = .returned v ∧ Below y.x.heap.size y.x w') : Calls P f args y.x fun e w'' => e = .returned v ∧ ∃ z : Sub w, w'' = z.x :=
  h.mono fun _ _ ⟨he, hb⟩ => ⟨he, ⟨_, y.bel.trans (hb.mono y.bel.size)⟩, rfl⟩
theorem Calls.quiet_same {P : Program} {f : FuncId} {args : Array Value} {w : World} {y : Sub w} {v : Value}
    (h : Calls P f args y.x fun e w' => e = .returned v ∧ y.x = w') : Calls P f args y.x fun e w'' => e = .returned v ∧ ∃ z : Sub w, w'' = z.x :=
  h.mono fun _ _ ⟨he, hb⟩ => ⟨he, y, hb.symm⟩
theorem Sub.cell {w : World} (y : Sub w) {b o : Nat} {u : Value} (h : w.cell? ⟨b, o, none⟩ = some u) : y.x.cell? ⟨b, o, none⟩ = some u := by
  have hb : b < w.heap.size := by
    rcases Nat.lt_or_ge b w.heap.size with h1 | h1
    · exact h1
    · simp [World.cell?, Array.getElem?_eq_none h1] at h
  exact (y.bel.cell (p := ⟨b, o, none⟩) hb).trans h
theorem lt_of_cell {w : World} {b o : Nat} {u : Value} (h : w.cell? ⟨b, o, none⟩ = some u) : b < w.heap.size := by
  rcases Nat.lt_or_ge b w.heap.size with h1 | h1
  · exact h1
  · simp [World.cell?, Array.getElem?_eq_none h1] at h
theorem ret_eq {a b : Value} (h : a = b) : Ending.returned a = .returned b := by rw [h]
theorem ret_bool {a b : Bool} (h : a = b) : Ending.returned (.bool a) = .returned (.bool b) := by rw [h]
theorem ret_int {k : IntKind} {a b : Int} (h : a = b) : Ending.returned (.int k a) = .returned (.int k b) := by rw [h]

/-! ## append onto a row of the call's own, from whatever slice -/
theorem own_form {w : World} {base : Nat} {e : TypeId} {size n : Nat} {v : Value} {xs : List Value} (h : w.ownsRow base e size v n xs) : ∃ A c, v = .slice A n c ∧ n ≤ c := by
  rcases h.2 with ⟨rfl, rfl⟩ | ⟨g, cap, cur, rfl, _, _, hc, _⟩
  · exact ⟨none, 0, rfl, Nat.le_refl _⟩
  · exact ⟨_, cap, rfl, hc⟩
theorem own_below {w w1 : World} {base : Nat} {e : TypeId} {size n : Nat} {v : Value} {xs : List Value} (h : w.ownsRow base e size v n xs) (hb : Below w.heap.size w w1) : w1.ownsRow base e size v n xs := by
  refine h.kept (row := none) ⟨hb.os, hb.tape, hb.output, hb.size, fun k hk _ => hb.block k hk⟩ ?_
  cases v.ownBlock <;> simp
theorem own_base {w : World} {base base' : Nat} {e : TypeId} {size n : Nat} {v : Value} {xs : List Value} (h : w.ownsRow base e size v n xs) (hb : base' ≤ base) : w.ownsRow base' e size v n xs := by
  refine ⟨h.1, ?_⟩
  rcases h.2 with h1 | ⟨g, cap, cur, h1, h2, h3⟩
  · exact .inl h1
  · exact .inr ⟨g, cap, cur, h1, by omega, h3⟩
theorem own_nil (w : World) (base : Nat) (e : TypeId) (size : Nat) : w.ownsRow base e size (.slice none 0 0) 0 [] := World.ownsRow_nil w base e size
theorem run_append_nil {P : Program} (w : World) (base : Nat) (t ty e : TypeId) (i : TypeInfo) (size : Nat) (ht : P.underlying t = some (.slice e)) (hi : P.info? e = some i)
    (v : Value) (n : Nat) (xs : List Value) (hown : w.ownsRow base e size v n xs) (c : Nat) : (Builtin.append_ #[t, t] ty #[v, .slice none 0 c]).run P w = .ok v w := by
  rcases hown.2 with ⟨rfl, rfl⟩ | ⟨g, cap, cur, rfl, _, _, hnc, _⟩
  · simp [Builtin.append_, run_underlying ht, sizeOf, typeInfo, hi, Builtin.lenOf, Builtin.firstCells]
  · simp [Builtin.append_, run_underlying ht, sizeOf, typeInfo, hi, Builtin.lenOf, Builtin.firstCells, hnc, storeCells]
theorem run_app {P : Program} (w : World) (base : Nat) (t ty e : TypeId) (z : Value) (size bytes : Nat) (ht : P.underlying t = some (.slice e)) (hinf : (P.info? e).map (fun i => (i.zero, i.size, i.bytes)) = some (some z, size, bytes))
    (hzs : z.cells.size = size) (hsz : 0 < size)
    (A0 : Option Addr) (c0 n : Nat) (xs : List Value) (hown : w.ownsRow base e size (.slice A0 n c0) n xs)
    (B : Nat) (A : Option Addr) (m c : Nat) (news : List Value) (hr : Rds w B size A m news) (h1 : ∀ u ∈ news, u.oneCell' = true)
    (h63 : n + m ≤ maxLen) (hbytes : (n + m) * bytes ≤ 140737488355328) (hbase : base ≤ w.heap.size) :
    ∃ A' c' w', (Builtin.append_ #[t, t] ty #[.slice A0 n c0, .slice A m c]).run P w = .ok (.slice A' (n + m) c') w' ∧ w'.ownsRow base e size (.slice A' (n + m) c') (n + m) (xs ++ news) ∧ w.grownBy w' (Value.slice A0 n c0).ownBlock ∧
      ((Value.slice A' (n + m) c').ownBlock = (Value.slice A0 n c0).ownBlock ∨ (Value.slice A' (n + m) c').ownBlock = some w.heap.size) := by
  obtain ⟨i, hi, hz, hs, hby⟩ := info_parts hinf
  have hnil : m = 0 → news = [] := fun h0 => List.eq_nil_of_length_eq_zero (by rw [hr.1, h0, Nat.zero_mul])
  rcases A with _ | ad
  · have hm : m = 0 := by
      rcases Nat.eq_zero_or_pos m with h0 | h0
      · exact h0
      · obtain ⟨b, off, h, _⟩ := hr.2 h0
        cases h
    subst hm
    rw [hnil rfl]
    exact ⟨A0, c0, w, run_append_nil w base t ty e i size ht hi _ n xs hown c, by simpa using hown, World.grownBy.refl w _, .inl rfl⟩
  · have hcells : ∀ j u, news[j]? = some u → w.cell? (ad.add j) = some u := by
      intro j u hu
      rcases Nat.eq_zero_or_pos m with h0 | h0
      · rw [hnil h0] at hu
        simp at hu
      · obtain ⟨b, off, h, _, hc⟩ := hr.2 h0
        injection h with h
        subst h
        rw [addr_add]
        exact hc j u hu
    obtain ⟨v', w', hrun, h2, h3, _, h5⟩ := run_append_own_at (P := P) w base t ty e i z size bytes ht hi hz hs hby hzs hsz _ n xs hown ad m c news hr.1 hcells h1 h63 hbytes hbase
    obtain ⟨A', c', rfl, _⟩ := own_form h2
    exact ⟨A', c', w', hrun, h2, h3, h5⟩
theorem wp_app {P : Program} {w : World} {o : Oper} {a : Act} {K : Act → World → Prop} {Q : Exit → Act → World → Prop} (s x : Operand) (t : TypeId)
    (ho : o.op = .call { callee := .builtin .append, args := #[s, x], argTypes := #[t, t] })
    (base : Nat) (e : TypeId) (z : Value) (size bytes : Nat) (ht : P.underlying t = some (.slice e)) (hinf : (P.info? e).map (fun i => (i.zero, i.size, i.bytes)) = some (some z, size, bytes))
    (hzs : z.cells.size = size) (hsz : 0 < size)
    (A0 : Option Addr) (c0 n : Nat) (xs : List Value) (hs : a.eval s = .slice A0 n c0) (hown : w.ownsRow base e size (.slice A0 n c0) n xs)
    (B : Nat) (A : Option Addr) (m c : Nat) (news : List Value) (hx : a.eval x = .slice A m c) (hr : Rds w B size A m news) (h1 : ∀ u ∈ news, u.oneCell' = true)
    (h63 : n + m ≤ maxLen) (hbytes : (n + m) * bytes ≤ 140737488355328) (hbase : base ≤ w.heap.size)
    (h : ∀ A' c' w', w'.ownsRow base e size (.slice A' (n + m) c') (n + m) (xs ++ news) → Below base w w' → w.grownBy w' (Value.slice A0 n c0).ownBlock →
      ((Value.slice A' (n + m) c').ownBlock = (Value.slice A0 n c0).ownBlock ∨ (Value.slice A' (n + m) c').ownBlock = some w.heap.size) → K (a.put o.dst (.slice A' (n + m) c')) w') : o.wp P a w K Q := by
  obtain ⟨A', c', w', hrun, h2, h3, h4⟩ := run_app (P := P) w base t o.type e z size bytes ht hinf hzs hsz A0 c0 n xs hown B A m c news hr h1 h63 hbytes hbase
  unfold Oper.wp execOp
  simp only [ho, resolve, invoke, builtin, Sem.run_bind, Sem.run_pure, Result.andThen_ok, List.map_toArray, List.map_cons, List.map_nil, hs, hx, hrun]
  exact h A' c' w' h2 ((Below.refl _ _).grown h3 hbase fun k hk => (hown.lt k hk).1) h3 h4
theorem wpList_app {P : Program} {w : World} {ops : Array Oper} {rest : List Oper} {o : Oper} {a : Act} {Q : Exit → Act → World → Prop} (hgd : o.guard = none) (s x : Operand) (t : TypeId)
    (ho : o.op = .call { callee := .builtin .append, args := #[s, x], argTypes := #[t, t] })
    (base : Nat) (e : TypeId) (z : Value) (size bytes : Nat) (ht : P.underlying t = some (.slice e)) (hinf : (P.info? e).map (fun i => (i.zero, i.size, i.bytes)) = some (some z, size, bytes))
    (hzs : z.cells.size = size) (hsz : 0 < size)
    (A0 : Option Addr) (c0 n : Nat) (xs : List Value) (hs : a.eval s = .slice A0 n c0) (hown : w.ownsRow base e size (.slice A0 n c0) n xs)
    (B : Nat) (A : Option Addr) (m c : Nat) (news : List Value) (hx : a.eval x = .slice A m c) (hr : Rds w B size A m news) (h1 : ∀ u ∈ news, u.oneCell' = true)
    (h63 : n + m ≤ maxLen) (hbytes : (n + m) * bytes ≤ 140737488355328) (hbase : base ≤ w.heap.size)
    (h : ∀ A' c' w', w'.ownsRow base e size (.slice A' (n + m) c') (n + m) (xs ++ news) → Below base w w' → w.grownBy w' (Value.slice A0 n c0).ownBlock →
      ((Value.slice A' (n + m) c').ownBlock = (Value.slice A0 n c0).ownBlock ∨ (Value.slice A' (n + m) c').ownBlock = some w.heap.size) → wpList P ops Q rest (a.put o.dst (.slice A' (n + m) c')) w') : wpList P ops Q (o :: rest) a w :=
  wpList_plain hgd fun _ hK => wp_app s x t ho base e z size bytes ht hinf hzs hsz A0 c0 n xs hs hown B A m c news hx hr h1 h63 hbytes hbase fun A' c' w' h2 h3 h4 h5 => hK _ _ (h A' c' w' h2 h3 h4 h5)

/-! ## bits of int, both sides not below 0 -/
theorem ofInt_i64 (a : Nat) (ha : a < 9223372036854775808) : (BitVec.ofInt 64 (a : Int)).toNat = a := by
  rw [BitVec.ofInt_natCast, BitVec.toNat_ofNat]; exact Nat.mod_eq_of_lt (by omega)
theorem i64_and (a b : Nat) (ha : a < 9223372036854775808) (hb : b < 9223372036854775808) : bits .and .i64 (a : Int) (b : Int) = ((a &&& b : Nat) : Int) := by
  have hx : a &&& b < 2 ^ 63 := Nat.and_lt_two_pow _ (by omega)
  show IntKind.i64.wrap ((BitVec.ofInt 64 (a : Int) &&& BitVec.ofInt 64 (b : Int)).toNat : Int) = _
  rw [BitVec.toNat_and, ofInt_i64 a ha, ofInt_i64 b hb, IntKind.wrap_i64]
  omega
theorem i64_or (a b : Nat) (ha : a < 9223372036854775808) (hb : b < 9223372036854775808) : bits .or .i64 (a : Int) (b : Int) = ((a ||| b : Nat) : Int) := by
  have hx : a ||| b < 2 ^ 63 := Nat.or_lt_two_pow (by omega) (by omega)
  show IntKind.i64.wrap ((BitVec.ofInt 64 (a : Int) ||| BitVec.ofInt 64 (b : Int)).toNat : Int) = _
  rw [BitVec.toNat_or, ofInt_i64 a ha, ofInt_i64 b hb, IntKind.wrap_i64]
  omega
/-- a without the bits of b -/
def ndiff (a b : Nat) : Nat := a ^^^ (a &&& b)
theorem testBit_ndiff (a b i : Nat) : (ndiff a b).testBit i = (a.testBit i && !b.testBit i) := by
  simp only [ndiff, Nat.testBit_xor, Nat.testBit_and]
  cases a.testBit i <;> cases b.testBit i <;> rfl
theorem and_pow (d k : Nat) : d &&& 2 ^ k = if d.testBit k then 2 ^ k else 0 := by
  apply Nat.eq_of_testBit_eq
  intro i
  rw [Nat.testBit_and, Nat.testBit_two_pow]
  by_cases h : k = i
  · subst h
    cases hd : d.testBit k <;> simp
  · cases hd : d.testBit k <;> simp [h]
theorem ndiff_lt {a b n : Nat} (h : a < 2 ^ n) : ndiff a b < 2 ^ n :=
  Nat.xor_lt_two_pow h (by rw [Nat.and_comm]; exact Nat.and_lt_two_pow _ h)
theorem i64_andNot (a b : Nat) (ha : a < 9223372036854775808) (hb : b < 9223372036854775808) : bits .andNot .i64 (a : Int) (b : Int) = ((ndiff a b : Nat) : Int) := by
  have h2 : (63 : Nat) ≤ 64 := by omega
  have hx : ndiff a b < 2 ^ 63 := ndiff_lt (by omega)
  have he : (BitVec.ofInt 64 (a : Int) &&& ~~~ BitVec.ofInt 64 (b : Int)).toNat = ndiff a b := by
    apply Nat.eq_of_testBit_eq
    intro i
    rw [testBit_ndiff, BitVec.toNat_and, Nat.testBit_and, ofInt_i64 a ha]
    by_cases hi : i < 64
    · congr 1
      rw [BitVec.testBit_toNat, BitVec.getLsbD_not, BitVec.getLsbD, ofInt_i64 b hb]
      simp [hi]
    · have : a.testBit i = false := Nat.testBit_lt_two_pow (Nat.lt_of_lt_of_le (show a < 2 ^ 63 by omega) (Nat.pow_le_pow_right (by omega) (by omega)))
      simp [this]
  show IntKind.i64.wrap ((BitVec.ofInt 64 (a : Int) &&& ~~~ BitVec.ofInt 64 (b : Int)).toNat : Int) = _
  rw [he, IntKind.wrap_i64]
  omega
end Go.Proofs.YtglpknhcneggeaaGreatDoor
namespace Go.Proofs.YtglpknhcneggeaaGreatDoor
set_option linter.unusedVariables false
set_option linter.unusedSimpArgs false

/-! ## numbers by words of 32 bits, the lowest first (plain) -/
def nv : List Nat → Nat
  | [] => 0
  | x :: l => x + 4294967296 * nv l
def W32 (l : List Nat) : Prop := ∀ x ∈ l, x < 4294967296
/-- 2^32 to the k (the numeral stands ahead of the factor that is looked into: 'x * 4294967296' and '4294967296 ^ k' are unfolded by the kernel without an end) -/
def wp : Nat → Nat
  | 0 => 1
  | k + 1 => 4294967296 * wp k
theorem wp_zero : wp 0 = 1 := rfl
theorem wp_succ (k : Nat) : wp (k + 1) = 4294967296 * wp k := rfl
theorem wp_add (j k : Nat) : wp (j + k) = wp j * wp k := by
  induction j with
  | zero => rw [Nat.zero_add, wp_zero, Nat.one_mul]
  | succ j ih => rw [show j + 1 + k = (j + k) + 1 by omega, wp_succ, wp_succ, ih, Nat.mul_assoc]
theorem wp_pos (k : Nat) : 0 < wp k := by
  induction k with
  | zero => exact Nat.zero_lt_one
  | succ k ih => rw [wp_succ]; omega
theorem wp_le {j k : Nat} (h : j ≤ k) : wp j ≤ wp k := by
  induction k with
  | zero => have : j = 0 := by omega
            rw [this]; exact Nat.le_refl _
  | succ k ih =>
    rcases Nat.lt_or_ge k j with h1 | h1
    · have : j = k + 1 := by omega
      rw [this]; exact Nat.le_refl _
    · have := ih h1
      rw [wp_succ]; omega
theorem wp_one : wp 1 = 4294967296 := rfl
theorem wp_lt_of {j k : Nat} (h : wp j < wp k) : j < k := by
  rcases Nat.lt_or_ge j k with h1 | h1
  · exact h1
  · have := wp_le h1; omega
/-- the canonical words of a number -/
def dig (n : Nat) : List Nat := if h : n = 0 then [] else (n % 4294967296) :: dig (n / 4294967296)
termination_by n
decreasing_by exact Nat.div_lt_self (by omega) (by omega)
theorem dig_zero : dig 0 = [] := by unfold dig; simp
theorem dig_pos {n : Nat} (h : n ≠ 0) : dig n = (n % 4294967296) :: dig (n / 4294967296) := by
  rw [dig]; simp [h]
theorem nv_nil : nv [] = 0 := rfl
theorem nv_cons (x : Nat) (l : List Nat) : nv (x :: l) = x + 4294967296 * nv l := rfl
theorem nv_dig (n : Nat) : nv (dig n) = n := by
  induction n using Nat.strongRecOn with
  | _ n ih =>
    by_cases h : n = 0
    · subst h; rw [dig_zero]; rfl
    · rw [dig_pos h, nv_cons, ih _ (Nat.div_lt_self (by omega) (by omega))]
      omega
theorem dig_W32 (n : Nat) : W32 (dig n) := by
  induction n using Nat.strongRecOn with
  | _ n ih =>
    by_cases h : n = 0
    · subst h; rw [dig_zero]; intro x hx; cases hx
    · rw [dig_pos h]
      intro x hx
      rcases List.mem_cons.1 hx with h1 | h1
      · omega
      · exact ih _ (Nat.div_lt_self (by omega) (by omega)) x h1
theorem W32.nil : W32 [] := fun _ h => by cases h
theorem W32.cons {x : Nat} {l : List Nat} (hx : x < 4294967296) (h : W32 l) : W32 (x :: l) := by
  intro y hy
  rcases List.mem_cons.1 hy with h1 | h1
  · omega
  · exact h y h1
theorem W32.head {x : Nat} {l : List Nat} (h : W32 (x :: l)) : x < 4294967296 := h x (by simp)
theorem W32.tail {x : Nat} {l : List Nat} (h : W32 (x :: l)) : W32 l := fun y hy => h y (by simp [hy])
theorem W32.take {l : List Nat} (h : W32 l) (k : Nat) : W32 (l.take k) := fun x hx => h x (List.mem_of_mem_take hx)
theorem W32.drop {l : List Nat} (h : W32 l) (k : Nat) : W32 (l.drop k) := fun x hx => h x (List.mem_of_mem_drop hx)
theorem W32.append {a b : List Nat} (h : W32 a) (k : W32 b) : W32 (a ++ b) := by
  intro x hx
  rcases List.mem_append.1 hx with h1 | h1
  · exact h x h1
  · exact k x h1
theorem W32.one {x : Nat} (h : x < 4294967296) : W32 [x] := W32.cons h W32.nil
theorem W32.set {l : List Nat} (h : W32 l) (k x : Nat) (hx : x < 4294967296) : W32 (l.set k x) := by
  intro y hy
  rcases List.mem_or_eq_of_mem_set hy with h1 | h1
  · exact h y h1
  · omega
theorem W32.replicate (n : Nat) : W32 (List.replicate n 0) := by
  intro x hx
  have := (List.mem_replicate.1 hx).2
  omega
theorem W32.getD {l : List Nat} (h : W32 l) (i : Nat) : l.getD i 0 < 4294967296 := by
  rw [List.getD_eq_getElem?_getD]
  cases e : l[i]? with
  | none => simp
  | some x => simp; exact h x (List.mem_of_getElem? e)
theorem W32.at_ {l : List Nat} (h : W32 l) {i : Nat} (hi : i < l.length) : l[i] < 4294967296 := h _ (List.getElem_mem hi)
theorem nv_append (a b : List Nat) : nv (a ++ b) = nv a + wp a.length * nv b := by
  induction a with
  | nil => simp [nv, wp_zero]
  | cons x a ih => rw [List.cons_append, nv_cons, nv_cons, ih, List.length_cons, wp_succ, Nat.mul_add, Nat.mul_assoc]; omega
theorem nv_lt {l : List Nat} (h : W32 l) : nv l < wp l.length := by
  induction l with
  | nil => exact wp_pos 0
  | cons x l ih =>
    have h1 := ih h.tail
    have h2 := h.head
    rw [nv_cons, List.length_cons, wp_succ]
    omega
theorem nv_one (x : Nat) : nv [x] = x := by simp [nv]
theorem nv_snoc (l : List Nat) (x : Nat) : nv (l ++ [x]) = nv l + wp l.length * x := by rw [nv_append, nv_one]
theorem nv_take_succ {l : List Nat} {k : Nat} (h : k < l.length) : nv (l.take (k + 1)) = nv (l.take k) + wp k * l[k] := by
  rw [List.take_succ_eq_append_getElem h, nv_snoc, List.length_take, Nat.min_eq_left (by omega)]
theorem nv_take_le (l : List Nat) (k : Nat) : nv (l.take k) ≤ nv l := by
  have := nv_append (l.take k) (l.drop k)
  rw [List.take_append_drop] at this
  omega
theorem nv_split (l : List Nat) (k : Nat) (h : k ≤ l.length) : nv l = nv (l.take k) + wp k * nv (l.drop k) := by
  have := nv_append (l.take k) (l.drop k)
  rwa [List.take_append_drop, List.length_take, Nat.min_eq_left h] at this
theorem nv_replicate (n : Nat) : nv (List.replicate n 0) = 0 := by
  induction n with
  | zero => rfl
  | succ n ih => rw [List.replicate_succ, nv_cons, ih]
theorem nv_zeros {l : List Nat} (h : ∀ x ∈ l, x = 0) : nv l = 0 := by
  induction l with
  | nil => rfl
  | cons x l ih => rw [nv_cons, ih fun y hy => h y (by simp [hy]), h x (by simp)]
/-- words that are canonical -/
def Can (l : List Nat) : Prop := W32 l ∧ ∀ x, l.getLast? = some x → x ≠ 0
theorem dig_can (n : Nat) : Can (dig n) := by
  refine ⟨dig_W32 n, ?_⟩
  induction n using Nat.strongRecOn with
  | _ n ih =>
    intro x hx
    by_cases h : n = 0
    · subst h; rw [dig_zero] at hx; cases hx
    · rw [dig_pos h] at hx
      by_cases h1 : n / 4294967296 = 0
      · rw [h1, dig_zero] at hx
        simp at hx
        omega
      · have ih' := ih _ (Nat.div_lt_self (n := n) (k := 4294967296) (by omega) (by omega))
        rw [List.getLast?_cons] at hx
        cases e : (dig (n / 4294967296)).getLast? with
        | none =>
          have := List.getLast?_eq_none_iff.1 e
          rw [dig_pos h1] at this
          cases this
        | some y => rw [e] at hx; simp at hx; subst hx; exact ih' y e
theorem nv_pos_of_last {l : List Nat} (hl : l ≠ []) (h : ∀ x, l.getLast? = some x → x ≠ 0) : wp (l.length - 1) ≤ nv l := by
  have e := List.dropLast_concat_getLast hl
  have h1 := h (l.getLast hl) (List.getLast?_eq_some_getLast hl)
  rw [← e, nv_snoc, List.length_append, List.length_dropLast]
  simp
  have : wp (l.length - 1) * 1 ≤ wp (l.length - 1) * l.getLast hl := Nat.mul_le_mul_left _ (by omega)
  omega
theorem dig_nv {l : List Nat} (h : Can l) : dig (nv l) = l := by
  obtain ⟨h1, h2⟩ := h
  induction l with
  | nil => rw [nv_nil, dig_zero]
  | cons x l ih =>
    have hx := h1.head
    by_cases hl : l = []
    · subst hl
      have := h2 x (by simp)
      rw [nv_one, dig_pos this, show x / 4294967296 = 0 by omega, dig_zero, Nat.mod_eq_of_lt hx]
    · have h3 : ∀ y, l.getLast? = some y → y ≠ 0 := by
        intro y hy
        exact h2 y (by rw [List.getLast?_cons, hy]; rfl)
      have h4 := nv_pos_of_last hl h3
      have h5 := wp_pos (l.length - 1)
      rw [nv_cons, dig_pos (by omega), show (x + 4294967296 * nv l) % 4294967296 = x by omega, show (x + 4294967296 * nv l) / 4294967296 = nv l by omega, ih h1.tail h3]
theorem Can.nil : Can [] := ⟨W32.nil, fun _ h => by cases h⟩
theorem dig_inj {a b : Nat} (h : dig a = dig b) : a = b := by rw [← nv_dig a, ← nv_dig b, h]
theorem dig_length_le {n k : Nat} (h : n < wp k) : (dig n).length ≤ k := by
  rcases Nat.lt_or_ge k (dig n).length with h1 | h1
  · have hne : dig n ≠ [] := by intro e; rw [e] at h1; simp at h1
    have h2 := nv_pos_of_last hne (dig_can n).2
    rw [nv_dig] at h2
    have h3 := wp_le (show k ≤ (dig n).length - 1 by omega)
    omega
  · exact h1
theorem dig_lt (n : Nat) : n < wp (dig n).length := by
  have := nv_lt (dig_W32 n)
  rwa [nv_dig] at this
theorem dig_low {n : Nat} (h : n ≠ 0) : wp ((dig n).length - 1) ≤ n := by
  have hne : dig n ≠ [] := by rw [dig_pos h]; simp
  have h2 := nv_pos_of_last hne (dig_can n).2
  rwa [nv_dig] at h2
theorem dig_nil_iff {n : Nat} : dig n = [] ↔ n = 0 := by
  constructor
  · intro h
    rcases Nat.eq_zero_or_pos n with h1 | h1
    · exact h1
    · rw [dig_pos (by omega)] at h; cases h
  · rintro rfl; exact dig_zero
theorem dig_len_pos {n : Nat} : 0 < (dig n).length ↔ n ≠ 0 := by
  rw [← List.ne_nil_iff_length_pos, ne_eq, dig_nil_iff]
theorem dig_len_zero {n : Nat} : (dig n).length = 0 ↔ n = 0 := by
  rw [List.length_eq_zero_iff, dig_nil_iff]
theorem dig_len_mono {a b : Nat} (h : a ≤ b) : (dig a).length ≤ (dig b).length := dig_length_le (Nat.lt_of_le_of_lt h (dig_lt b))
theorem dig_len_lt {a b : Nat} (h : (dig a).length < (dig b).length) : a < b := by
  rcases Nat.lt_or_ge a b with h1 | h1
  · exact h1
  · have := dig_len_mono h1; omega
theorem dig_small {n : Nat} (h0 : n ≠ 0) (h : n < 4294967296) : dig n = [n] := by
  rw [dig_pos h0, Nat.mod_eq_of_lt h, show n / 4294967296 = 0 by omega, dig_zero]
theorem dig_one : dig 1 = [1] := dig_small (by omega) (by omega)
/-- trailing zeros struck -/
theorem dig_trim {l : List Nat} (h : W32 l) {k : Nat} (hk : k ≤ l.length) (hz : ∀ i, k ≤ i → l.getD i 0 = 0) (hn : k = 0 ∨ l.getD (k - 1) 0 ≠ 0) : dig (nv l) = l.take k := by
  have h1 : nv (l.drop k) = 0 := by
    refine nv_zeros fun x hx => ?_
    obtain ⟨i, hi, e⟩ := List.mem_iff_getElem.1 hx
    have h2 := hz (k + i) (by omega)
    rw [List.length_drop] at hi
    rw [List.getElem_drop] at e
    rw [List.getD_eq_getElem?_getD, List.getElem?_eq_getElem (by omega)] at h2
    simp at h2
    rw [← e]; exact h2
  rw [nv_split l k hk, h1, Nat.mul_zero, Nat.add_zero]
  refine dig_nv ⟨h.take k, fun x hx => ?_⟩
  rcases hn with h2 | h2
  · subst h2; simp at hx
  · rw [List.getLast?_take] at hx
    by_cases h3 : k = 0
    · simp [h3] at hx
    · rw [if_neg h3, List.getElem?_eq_getElem (by omega)] at hx
      simp at hx
      rw [List.getD_eq_getElem?_getD, List.getElem?_eq_getElem (by omega)] at h2
      simp at h2
      rw [← hx]; exact h2
theorem nv_eq_zero {l : List Nat} : nv l = 0 ↔ ∀ x ∈ l, x = 0 := by
  constructor
  · intro h
    induction l with
    | nil => intro x hx; cases hx
    | cons y l ih =>
      rw [nv_cons] at h
      intro x hx
      rcases List.mem_cons.1 hx with h1 | h1
      · omega
      · exact ih (by omega) x h1
  · exact nv_zeros
/-- comparing by the highest words -/
theorem nv_lt_of {a b : List Nat} (ha : W32 a) (hb : W32 b) (i : Nat) (hl : a.length = b.length) (hi : i < a.length) (hs : ∀ j, i < j → a.getD j 0 = b.getD j 0) (hlt : a.getD i 0 < b.getD i 0) : nv a < nv b := by
  have ea : nv a = nv (a.take (i + 1)) + wp (i + 1) * nv (a.drop (i + 1)) := nv_split a _ (by omega)
  have eb : nv b = nv (b.take (i + 1)) + wp (i + 1) * nv (b.drop (i + 1)) := nv_split b _ (by omega)
  have e : a.drop (i + 1) = b.drop (i + 1) := by
    apply List.ext_getElem?
    intro j
    rw [List.getElem?_drop, List.getElem?_drop]
    have h := hs (i + 1 + j) (by omega)
    simp only [List.getD_eq_getElem?_getD] at h
    by_cases h1 : i + 1 + j < a.length
    · rw [List.getElem?_eq_getElem h1, List.getElem?_eq_getElem (by omega)] at h ⊢
      simpa using h
    · rw [List.getElem?_eq_none (by omega), List.getElem?_eq_none (by omega)]
  have h1 : nv (a.take i) < wp i := by
    have := nv_lt (ha.take i)
    rwa [List.length_take, Nat.min_eq_left (by omega)] at this
  rw [nv_take_succ hi] at ea
  rw [nv_take_succ (show i < b.length by omega)] at eb
  have h2 : a[i] < b[i]'(by omega) := by
    simp only [List.getD_eq_getElem?_getD] at hlt
    rw [List.getElem?_eq_getElem hi, List.getElem?_eq_getElem (show i < b.length by omega)] at hlt
    simpa using hlt
  have h3 : wp i * (a[i] + 1) ≤ wp i * b[i]'(by omega) := Nat.mul_le_mul_left _ (by omega)
  rw [Nat.mul_add] at h3
  rw [ea, eb, e]
  omega
theorem nv_eq_of {a b : List Nat} (hl : a.length = b.length) (hs : ∀ j, a.getD j 0 = b.getD j 0) : a = b := by
  apply List.ext_getElem?
  intro j
  have h := hs j
  simp only [List.getD_eq_getElem?_getD] at h
  by_cases h1 : j < a.length
  · rw [List.getElem?_eq_getElem h1, List.getElem?_eq_getElem (by omega)] at h ⊢
    simpa using h
  · rw [List.getElem?_eq_none (by omega), List.getElem?_eq_none (by omega)]
/-- -1, 0, 1 -/
def cmpN (a b : Nat) : Int := if a < b then -1 else if a = b then 0 else 1
theorem cmpN_lt {a b : Nat} (h : a < b) : cmpN a b = -1 := by unfold cmpN; rw [if_pos h]
theorem cmpN_eq {a b : Nat} (h : a = b) : cmpN a b = 0 := by unfold cmpN; rw [if_neg (by omega), if_pos h]
theorem cmpN_gt {a b : Nat} (h : b < a) : cmpN a b = 1 := by unfold cmpN; rw [if_neg (by omega), if_neg (by omega)]
/-- the number of bits -/
def bl (n : Nat) : Nat := if n = 0 then 0 else Nat.log2 n + 1
theorem bl_zero : bl 0 = 0 := rfl
theorem bl_eq_zero {n : Nat} : bl n = 0 ↔ n = 0 := by unfold bl; split <;> omega
theorem bl_eq_one {n : Nat} : bl n = 1 ↔ n = 1 := by
  unfold bl
  split
  · omega
  · rename_i h
    constructor
    · intro h1
      have h2 : Nat.log2 n = 0 := by omega
      have := (Nat.log2_eq_iff h).1 h2
      omega
    · rintro rfl; rfl
/-- the zeros that are made, and what is stored into a row -/
theorem nv_set {l : List Nat} {k : Nat} (h : k < l.length) (x : Nat) : nv (l.set k x) + wp k * l[k] = nv l + wp k * x := by
  induction l generalizing k with
  | nil => simp at h
  | cons y l ih =>
    cases k with
    | zero => simp [nv_cons, wp_zero]; omega
    | succ k =>
      have h' : k < l.length := by simpa using h
      have := ih h'
      simp only [List.set_cons_succ, nv_cons, List.getElem_cons_succ, wp_succ]
      rw [Nat.mul_assoc, Nat.mul_assoc]
      omega
end Go.Proofs.YtglpknhcneggeaaGreatDoor
namespace Go.Proofs.YtglpknhcneggeaaGreatDoor
set_option linter.unusedVariables false
set_option linter.unusedSimpArgs false

/-! ## plain laws of the loops of addition, subtraction, multiplication, shifts -/
theorem getD_of_lt {l : List Nat} {i : Nat} (h : i < l.length) : l.getD i 0 = l[i] := by
  rw [List.getD_eq_getElem?_getD, List.getElem?_eq_getElem h]; rfl
theorem getD_of_ge {l : List Nat} {i : Nat} (h : l.length ≤ i) : l.getD i 0 = 0 := by
  rw [List.getD_eq_getElem?_getD, List.getElem?_eq_none h]; rfl
theorem nv_take_getD (l : List Nat) (k : Nat) : nv (l.take (k + 1)) = nv (l.take k) + wp k * l.getD k 0 := by
  by_cases h : k < l.length
  · rw [nv_take_succ h, getD_of_lt h]
  · rw [getD_of_ge (by omega), List.take_of_length_le (by omega), List.take_of_length_le (by omega)]; omega
theorem nv_take_all {l : List Nat} {k : Nat} (h : l.length ≤ k) : nv (l.take k) = nv l := by rw [List.take_of_length_le h]
theorem nv_take_lt {l : List Nat} (h : W32 l) (k : Nat) : nv (l.take k) < wp k := by
  have h1 := nv_lt (h.take k)
  exact Nat.lt_of_lt_of_le h1 (wp_le (by rw [List.length_take]; exact Nat.min_le_left _ _))
theorem take_set_self {l : List Nat} {k : Nat} (h : k < l.length) (x : Nat) : (l.set k x).take (k + 1) = l.take k ++ [x] := by
  rw [List.take_succ_eq_append_getElem (by simpa using h), List.take_set_of_le (Nat.le_refl k)]
  simp
theorem nv_take_set {l : List Nat} {k : Nat} (h : k < l.length) (x : Nat) : nv ((l.set k x).take (k + 1)) = nv (l.take k) + wp k * x := by
  rw [take_set_self h, nv_snoc, List.length_take, Nat.min_eq_left (by omega)]
theorem getD_set_self {l : List Nat} {k : Nat} (h : k < l.length) (x : Nat) : (l.set k x).getD k 0 = x := by
  rw [getD_of_lt (by simpa using h)]; simp
theorem getD_set_ne {l : List Nat} {k j : Nat} (h : k ≠ j) (x : Nat) : (l.set k x).getD j 0 = l.getD j 0 := by
  simp [List.getD_eq_getElem?_getD, List.getElem?_set_ne h]
/-- addition: the carry behind the words -/
theorem add_step {A B C c a b s : Nat} (k : Nat) (h : C + wp k * c = A + B) (hs : s = c + (a + b)) :
    (C + wp k * (s % 4294967296)) + wp (k + 1) * (s / 4294967296) = (A + wp k * a) + (B + wp k * b) := by
  have e : s % 4294967296 + 4294967296 * (s / 4294967296) = s := Nat.mod_add_div s _
  have e1 : wp (k + 1) * (s / 4294967296) = wp k * (4294967296 * (s / 4294967296)) := by rw [wp_succ, ← Nat.mul_assoc, Nat.mul_comm 4294967296]
  have e2 : wp k * (s % 4294967296) + wp k * (4294967296 * (s / 4294967296)) = wp k * s := by rw [← Nat.mul_add, e]
  have e3 : wp k * s = wp k * c + (wp k * a + wp k * b) := by rw [hs, Nat.mul_add, Nat.mul_add]
  omega
theorem add_carry {c a b : Nat} (hc : c ≤ 1) (ha : a < 4294967296) (hb : b < 4294967296) : (c + (a + b)) / 4294967296 ≤ 1 := by omega
theorem add_end {O A B c n : Nat} (h : O + wp (n + 1) * c = A + B) (hA : A < wp n) (hB : B < wp n) : O = A + B := by
  rcases Nat.eq_zero_or_pos c with h7 | h7
  · subst h7; omega
  · have h8 : wp (n + 1) * 1 ≤ wp (n + 1) * c := Nat.mul_le_mul_left _ h7
    have h6 := wp_succ n
    omega
/-- subtraction: the borrow behind the words; d is the difference modulo 2^64 -/
theorem sub_step {A B C r a b d : Nat} (k : Nat) (h : C + B = A + wp k * r) (hd : d + b + r = a ∨ d + b + r = a + 18446744073709551616) (hd64 : d < 18446744073709551616) (ha : a < 4294967296) (hb : b < 4294967296) (hr : r ≤ 1) :
    (C + wp k * (d % 4294967296)) + (B + wp k * b) = (A + wp k * a) + wp (k + 1) * (d / 9223372036854775808) ∧ d / 9223372036854775808 ≤ 1 := by
  have e1 : wp (k + 1) * (d / 9223372036854775808) = wp k * (4294967296 * (d / 9223372036854775808)) := by rw [wp_succ, ← Nat.mul_assoc, Nat.mul_comm 4294967296]
  rcases hd with hd | hd
  · have h1 : d / 9223372036854775808 = 0 := by omega
    have h2 : d % 4294967296 = d := by omega
    rw [h1, h2]
    have e3 : wp k * a = wp k * d + wp k * b + wp k * r := by rw [← hd, Nat.mul_add, Nat.mul_add]
    refine ⟨by omega, by omega⟩
  · have h1 : d / 9223372036854775808 = 1 := by omega
    have h2 : d % 4294967296 + b + r = a + 4294967296 := by omega
    rw [e1, h1]
    have e3 : wp k * (d % 4294967296) + wp k * b + wp k * r = wp k * a + wp k * 4294967296 := by rw [← Nat.mul_add, ← Nat.mul_add, h2, Nat.mul_add]
    refine ⟨by omega, by omega⟩
/-- the end of a subtraction without a borrow -/
theorem sub_end {A B C r n : Nat} (h : C + B = A + wp n * r) (hBA : B ≤ A) (hC : C < wp n) : C = A - B ∧ r = 0 := by
  have hr : r = 0 := by
    rcases Nat.eq_zero_or_pos r with h1 | h1
    · exact h1
    · have : wp n * 1 ≤ wp n * r := Nat.mul_le_mul_left _ h1
      omega
  subst hr
  omega
theorem sub_fin {l m o : List Nat} {r : Nat} (hl : W32 l) (ho : W32 o) (hol : o.length = l.length) (h : nv (o.take l.length) + nv (m.take l.length) = nv (l.take l.length) + wp l.length * r) (hle : nv m ≤ nv l) : nv o = nv l - nv m := by
  rw [nv_take_all (by omega), nv_take_all (Nat.le_refl _)] at h
  have h1 := nv_lt hl
  have h2 := nv_lt ho
  rw [hol] at h2
  have h3 : nv (m.take l.length) = nv m := by
    by_cases h4 : m.length ≤ l.length
    · exact nv_take_all h4
    · have h5 := nv_split m l.length (by omega)
      rcases Nat.eq_zero_or_pos (nv (m.drop l.length)) with h6 | h6
      · rw [h6, Nat.mul_zero] at h5; exact h5.symm
      · have : wp l.length * 1 ≤ wp l.length * nv (m.drop l.length) := Nat.mul_le_mul_left _ h6
        omega
  rw [h3] at h
  exact (sub_end h hle h2).1
/-- one product added in: O the row's number, i + k the place -/
theorem mul_step {O O' S X c x y o s : Nat} (i k : Nat) (h : O + wp (i + k) * c = S + wp i * (x * X)) (hs : s = c + (x * y + o)) (hset : O' + wp (i + k) * o = O + wp (i + k) * (s % 4294967296)) :
    O' + wp (i + (k + 1)) * (s / 4294967296) = S + wp i * (x * (X + wp k * y)) := by
  have e : s % 4294967296 + 4294967296 * (s / 4294967296) = s := Nat.mod_add_div s _
  have e1 : wp (i + (k + 1)) * (s / 4294967296) = wp (i + k) * (4294967296 * (s / 4294967296)) := by rw [← Nat.add_assoc, wp_succ, ← Nat.mul_assoc, Nat.mul_comm 4294967296]
  have e2 : wp (i + k) * (s % 4294967296) + wp (i + k) * (4294967296 * (s / 4294967296)) = wp (i + k) * s := by rw [← Nat.mul_add, e]
  have e3 : wp (i + k) * s = wp (i + k) * c + (wp (i + k) * (x * y) + wp (i + k) * o) := by rw [hs, Nat.mul_add, Nat.mul_add]
  have e4 : wp i * (x * (X + wp k * y)) = wp i * (x * X) + wp (i + k) * (x * y) := by
    rw [Nat.mul_add, Nat.mul_add, wp_add]
    congr 1
    simp only [Nat.mul_assoc, Nat.mul_left_comm, Nat.mul_comm]
  omega
theorem mul_bound {c x y o : Nat} (hc : c < 4294967296) (hx : x < 4294967296) (hy : y < 4294967296) (ho : o < 4294967296) : c + (x * y + o) < 18446744073709551616 ∧ (c + (x * y + o)) / 4294967296 < 4294967296 := by
  have : x * y ≤ 4294967295 * 4294967295 := Nat.mul_le_mul (by omega) (by omega)
  omega
/-- division by a word, from the top -/
theorem small_step {R Q b r x s : Nat} (h : R = b * Q + r) (hs : s = 4294967296 * r + x) :
    x + 4294967296 * R = b * (s / b + 4294967296 * Q) + s % b := by
  have e : b * (s / b) + s % b = s := Nat.div_add_mod s b
  rw [Nat.mul_add, h, Nat.mul_add]
  have e2 : b * (4294967296 * Q) = 4294967296 * (b * Q) := Nat.mul_left_comm _ _ _
  omega
theorem small_word {b r x : Nat} (hr : r < b) (_hb : b < 4294967296) (hx : x < 4294967296) : (4294967296 * r + x) / b < 4294967296 := by
  rw [Nat.div_lt_iff_lt_mul (by omega)]
  omega
theorem small_end {R Q b r : Nat} (h : R = b * Q + r) (hr : r < b) : Q = R / b ∧ r = R % b := by
  rw [h]
  constructor
  · rw [Nat.mul_add_div (by omega), Nat.div_eq_of_lt hr]; omega
  · rw [Nat.mul_add_mod, Nat.mod_eq_of_lt hr]
/-- the digits of a number -/
theorem digit_of {l : List Nat} (h : W32 l) (i : Nat) : l.getD i 0 = nv l / wp i % 4294967296 := by
  induction l generalizing i with
  | nil => simp [nv]
  | cons x l ih =>
    have hx := h.head
    cases i with
    | zero => simp [nv_cons, wp_zero]; omega
    | succ i =>
      have h1 := ih h.tail i
      simp only [List.getD_cons_succ]
      rw [h1, nv_cons, wp_succ, ← Nat.div_div_eq_div_mul, show (x + 4294967296 * nv l) / 4294967296 = nv l by omega]
theorem nv_of_digits {n : Nat} {l : List Nat} (h : ∀ i, i < l.length → l.getD i 0 = n / wp i % 4294967296) : nv l = n % wp l.length := by
  induction l generalizing n with
  | nil => simp [nv, wp_zero, Nat.mod_one]
  | cons x l ih =>
    have h0 := h 0 (by simp)
    simp [wp_zero] at h0
    have h1 := ih (n := n / 4294967296) fun i hi => by
      have := h (i + 1) (by simpa using hi)
      simp only [List.getD_cons_succ] at this
      rw [this, wp_succ, Nat.div_div_eq_div_mul]
    rw [nv_cons, h1, List.length_cons, wp_succ, h0, Nat.mod_mul]
theorem nv_digits {n : Nat} {l : List Nat} (h : ∀ i, i < l.length → l.getD i 0 = n / wp i % 4294967296) (hn : n < wp l.length) : nv l = n := by
  rw [nv_of_digits h, Nat.mod_eq_of_lt hn]
theorem div_wp_take {l : List Nat} (h : W32 l) (k : Nat) (hk : k ≤ l.length) : nv l / wp k = nv (l.drop k) := by
  have e := nv_split l k hk
  have h1 := nv_take_lt h k
  rw [e, Nat.add_comm, Nat.mul_add_div (wp_pos k), Nat.div_eq_of_lt h1]; omega
theorem mod_wp_take {l : List Nat} (h : W32 l) (k : Nat) (hk : k ≤ l.length) : nv l % wp k = nv (l.take k) := by
  have e := nv_split l k hk
  have h1 := nv_take_lt h k
  rw [e, Nat.add_mul_mod_self_left, Nat.mod_eq_of_lt h1]
/-- a digit of a number that is shifted down -/
theorem down_digit (N n i : Nat) (hn : n ≤ 32) : (N / wp i % 4294967296 + 4294967296 * (N / wp (i + 1) % 4294967296)) / 2 ^ n % 4294967296 = N / 2 ^ n / wp i % 4294967296 := by
  have e1 : N / 2 ^ n / wp i = N / wp i / 2 ^ n := by rw [Nat.div_div_eq_div_mul, Nat.mul_comm, ← Nat.div_div_eq_div_mul]
  have e2 : N / wp (i + 1) = N / wp i / 4294967296 := by rw [wp_succ, Nat.mul_comm, ← Nat.div_div_eq_div_mul]
  rw [e1, e2]
  generalize N / wp i = M
  have hp : (4294967296 : Nat) = 2 ^ n * 2 ^ (32 - n) := by rw [← Nat.pow_add, show n + (32 - n) = 32 by omega]
  have e4 : M % 4294967296 + 4294967296 * (M / 4294967296 % 4294967296) = M % (4294967296 * 4294967296) := (Nat.mod_mul).symm
  rw [e4]
  have e5 : (4294967296 * 4294967296 : Nat) = 2 ^ n * (2 ^ (32 - n) * 4294967296) := by rw [← Nat.mul_assoc, ← hp]
  have e6 : M % (2 ^ n * (2 ^ (32 - n) * 4294967296)) / 2 ^ n = M / 2 ^ n % (2 ^ (32 - n) * 4294967296) := Nat.mod_mul_right_div_self _ _ _
  rw [e5, e6, Nat.mul_comm, Nat.mod_mul_right_mod]
/-- shifting up, word by word -/
theorem up_step {O A x o n : Nat} (k : Nat) (h : O + wp k * o = A * 2 ^ n) :
    (O + wp k * ((x * 2 ^ n) % 4294967296 + o)) + wp (k + 1) * (x * 2 ^ n / 4294967296) = (A + wp k * x) * 2 ^ n := by
  have e : (x * 2 ^ n) % 4294967296 + 4294967296 * (x * 2 ^ n / 4294967296) = x * 2 ^ n := Nat.mod_add_div _ _
  have e1 : wp (k + 1) * (x * 2 ^ n / 4294967296) = wp k * (4294967296 * (x * 2 ^ n / 4294967296)) := by rw [wp_succ, ← Nat.mul_assoc, Nat.mul_comm 4294967296]
  have e2 : wp k * ((x * 2 ^ n) % 4294967296) + wp k * (4294967296 * (x * 2 ^ n / 4294967296)) = wp k * (x * 2 ^ n) := by rw [← Nat.mul_add, e]
  have e3 : (A + wp k * x) * 2 ^ n = A * 2 ^ n + wp k * (x * 2 ^ n) := by rw [Nat.add_mul, Nat.mul_assoc]
  rw [Nat.mul_add]
  omega
theorem up_bound {x n : Nat} (hx : x < 4294967296) (hn : n < 32) : x * 2 ^ n < 9223372036854775808 ∧ x * 2 ^ n / 4294967296 < 2 ^ n ∧ (x * 2 ^ n) % 2 ^ n = 0 := by
  have hp : 2 ^ n ≤ 2 ^ 31 := Nat.pow_le_pow_right (by omega) (by omega)
  have h0 : 0 < 2 ^ n := Nat.two_pow_pos n
  refine ⟨?_, ?_, Nat.mul_mod_left _ _⟩
  · have : x * 2 ^ n ≤ 4294967295 * 2 ^ 31 := Nat.mul_le_mul (by omega) hp
    omega
  · rw [Nat.div_lt_iff_lt_mul (by omega), Nat.mul_comm]
    exact Nat.mul_lt_mul_of_pos_left hx h0
/-- low bits beside high ones -/
theorem or_add {a b n : Nat} (ha : a % 2 ^ n = 0) (hb : b < 2 ^ n) : a ||| b = a + b := by
  have e : a = 2 ^ n * (a / 2 ^ n) := by
    have := Nat.div_add_mod a (2 ^ n); omega
  rw [e]
  exact (Nat.two_pow_add_eq_or_of_lt hb _).symm
theorem or_words {a b : Nat} (ha : a < 4294967296) : a ||| b * 4294967296 = a + 4294967296 * b := by
  rw [Nat.or_comm, or_add (n := 32) (by omega) (by omega)]; omega
theorem mod_pow_mod {x n : Nat} (hn : n ≤ 32) (h : x % 2 ^ n = 0) : x % 4294967296 % 2 ^ n = 0 := by
  have hp : (4294967296 : Nat) = 2 ^ n * 2 ^ (32 - n) := by rw [← Nat.pow_add, show n + (32 - n) = 32 by omega]
  rw [hp, Nat.mod_mul_right_mod, h]

/-- a word shifted up into a row: the low part beside what the word before left, the high part ahead -/
theorem left_words {o : List Nat} {k x z n A : Nat} (hk : k + 1 < o.length) (hO : nv o = A * 2 ^ n) (hz : o.getD k 0 = z) (hz1 : o.getD (k + 1) 0 = 0) :
    nv ((o.set k ((x * 2 ^ n) % 4294967296 + z)).set (k + 1) (x * 2 ^ n / 4294967296)) = (A + wp k * x) * 2 ^ n := by
  have k0 : k < o.length := by omega
  have h1 := nv_set k0 ((x * 2 ^ n) % 4294967296 + z)
  have h2 := nv_set (l := o.set k ((x * 2 ^ n) % 4294967296 + z)) (k := k + 1) (by simpa using hk) (x * 2 ^ n / 4294967296)
  have h3 := nv_set k0 0
  have e1 : (o.set k ((x * 2 ^ n) % 4294967296 + z))[k + 1]'(by simpa using hk) = 0 := by
    rw [← getD_of_lt (by simpa using hk), getD_set_ne (by omega), hz1]
  rw [e1] at h2
  rw [← getD_of_lt k0, hz] at h1 h3
  have h4 := up_step (O := nv (o.set k 0)) (A := A) (x := x) (o := z) (n := n) k (by omega)
  rw [Nat.mul_zero, Nat.add_zero] at h2
  rw [h2, ← h4]
  omega

/-! ## a window of a row -/
/-- m words from place j on -/
def win (u : List Nat) (j m : Nat) : List Nat := (u.drop j).take m
theorem win_length {u : List Nat} {j m : Nat} (h : j + m ≤ u.length) : (win u j m).length = m := by
  unfold win; rw [List.length_take, List.length_drop]; omega
theorem win_W32 {u : List Nat} (h : W32 u) (j m : Nat) : W32 (win u j m) := (h.drop j).take m
theorem win_zero (u : List Nat) (j : Nat) : nv (win u j 0) = 0 := by simp [win, nv]
theorem win_succ (u : List Nat) (j k : Nat) : nv (win u j (k + 1)) = nv (win u j k) + wp k * u.getD (j + k) 0 := by
  unfold win
  rw [nv_take_getD]
  congr 2
  simp [List.getD_eq_getElem?_getD]
theorem win_congr {u u' : List Nat} {j k : Nat} (h : ∀ i, j ≤ i → i < j + k → u'.getD i 0 = u.getD i 0) : nv (win u' j k) = nv (win u j k) := by
  induction k with
  | zero => rw [win_zero, win_zero]
  | succ k ih => rw [win_succ, win_succ, ih fun i h1 h2 => h i h1 (by omega), h (j + k) (by omega) (by omega)]
theorem win_lt {u : List Nat} (h : W32 u) (j k : Nat) : nv (win u j k) < wp k := nv_take_lt (h.drop j) k
theorem drop_win (u : List Nat) (j k : Nat) : nv (u.drop j) = nv (win u j k) + wp k * nv (u.drop (j + k)) := by
  have h := nv_append (win u j k) (u.drop (j + k))
  have e : win u j k ++ u.drop (j + k) = u.drop j := by
    unfold win
    have := List.take_append_drop k (u.drop j)
    rwa [List.drop_drop] at this
  rw [e] at h
  by_cases h1 : j + k ≤ u.length
  · rwa [win_length h1] at h
  · have h2 : u.drop (j + k) = [] := List.drop_eq_nil_of_le (by omega)
    rw [h2] at h ⊢
    rw [h]; simp [nv]
/-- n times a number, word by word -/
theorem prod_step {P X n y c s : Nat} (k : Nat) (h : P + wp k * c = n * X) (hs : s = c + n * y) : (P + wp k * (s % 4294967296)) + wp (k + 1) * (s / 4294967296) = n * (X + wp k * y) := by
  have e : s % 4294967296 + 4294967296 * (s / 4294967296) = s := Nat.mod_add_div s _
  have e1 : wp (k + 1) * (s / 4294967296) = wp k * (4294967296 * (s / 4294967296)) := by rw [wp_succ, ← Nat.mul_assoc, Nat.mul_comm 4294967296]
  have e2 : wp k * (s % 4294967296) + wp k * (4294967296 * (s / 4294967296)) = wp k * s := by rw [← Nat.mul_add, e]
  have e3 : wp k * s = wp k * c + wp k * (n * y) := by rw [hs, Nat.mul_add]
  have e4 : n * (X + wp k * y) = n * X + wp k * (n * y) := by rw [Nat.mul_add, Nat.mul_left_comm]
  omega
theorem prod_bound {c n y : Nat} (hc : c < 4294967296) (hn : n < 4294967296) (hy : y < 4294967296) : c + n * y < 18446744073709551616 ∧ (c + n * y) / 4294967296 < 4294967296 := by
  have : n * y ≤ 4294967295 * 4294967295 := Nat.mul_le_mul (by omega) (by omega)
  omega
theorem prod_end {P X n c m : Nat} (h : P + wp (m + 1) * c = n * X) (hn : n < 4294967296) (hX : X < wp m) : P = n * X := by
  have h1 : n * X < wp (m + 1) := by
    rw [wp_succ]
    rcases Nat.eq_zero_or_pos X with h0 | h0
    · subst h0; have := wp_pos m; omega
    · exact Nat.lt_of_lt_of_le (Nat.mul_lt_mul_of_pos_right hn h0) (Nat.mul_le_mul_left _ (by omega))
  rcases Nat.eq_zero_or_pos c with h2 | h2
  · subst h2; omega
  · have : wp (m + 1) * 1 ≤ wp (m + 1) * c := Nat.mul_le_mul_left _ h2
    omega

/-! ## long division: the estimate of a word of the quotient -/
/-- the true word is at most an estimate that is taken from the leading words -/
theorem est_ge {cur V P : Nat} (hP : 0 < P) (hV : 0 < V / P) : cur / V ≤ cur / P / (V / P) := by
  have hV0 : 0 < V := by
    rcases Nat.eq_zero_or_pos V with h | h
    · subst h; simp at hV
    · exact h
  rw [Nat.le_div_iff_mul_le hV, Nat.le_div_iff_mul_le hP]
  calc cur / V * (V / P) * P = cur / V * (V / P * P) := Nat.mul_assoc _ _ _
    _ ≤ cur / V * V := Nat.mul_le_mul_left _ (Nat.div_mul_le_self _ _)
    _ ≤ cur := Nat.div_mul_le_self _ _
/-- an estimate g with more than the leading words allow is above the true word -/
theorem est_gt {cur V P g : Nat} (hP : 0 < P) (h : cur / P < g * (V / P)) : cur / V < g := by
  rcases Nat.lt_or_ge (cur / V) g with h1 | h1
  · exact h1
  · exfalso
    have h2 : g * V ≤ cur := Nat.le_trans (Nat.mul_le_mul_right _ h1) (Nat.div_mul_le_self _ _)
    have h3 : g * (V / P) ≤ cur / P := by
      rw [Nat.le_div_iff_mul_le hP, Nat.mul_assoc]
      exact Nat.le_trans (Nat.mul_le_mul_left _ (Nat.div_mul_le_self _ _)) h2
    omega
/-- an estimate that the two leading words allow is at most one too great -/
theorem est_le {cur V P g : Nat} (hP : 0 < P) (hV : 0 < V) (hg : g ≤ 4294967296) (ht : 4294967296 ≤ V / P) (h : g * (V / P) ≤ cur / P) : g ≤ cur / V + 1 := by
  rcases Nat.lt_or_ge (cur / V + 1) g with h1 | h1
  · exfalso
    have h2 : cur < (cur / V + 1) * V := by
      have := Nat.lt_div_mul_add (a := cur) hV
      rw [Nat.succ_mul]; omega
    have h3 : (cur / V + 1) * V ≤ (g - 1) * V := Nat.mul_le_mul_right _ (by omega)
    have h4 : V < (V / P + 1) * P := by
      have := Nat.lt_div_mul_add (a := V) hP
      rw [Nat.succ_mul]; omega
    have h5 : (g - 1) * V ≤ (g - 1) * ((V / P + 1) * P) := Nat.mul_le_mul_left _ (by omega)
    have h6 : g * (V / P) * P ≤ cur := Nat.le_trans (Nat.mul_le_mul_right _ h) (Nat.div_mul_le_self _ _)
    have h7 : g * (V / P) * P < (g - 1) * (V / P + 1) * P := by rw [Nat.mul_assoc (g - 1)]; exact Nat.lt_of_le_of_lt h6 (Nat.lt_of_lt_of_le h2 (Nat.le_trans h3 h5))
    have h8 : g * (V / P) < (g - 1) * (V / P + 1) := Nat.lt_of_mul_lt_mul_right h7
    obtain ⟨m, rfl⟩ : ∃ m, g = m + 1 := ⟨g - 1, by have := Nat.lt_of_le_of_lt (Nat.zero_le _) h1; omega⟩
    rw [Nat.add_sub_cancel, Nat.succ_mul, Nat.mul_add, Nat.mul_one] at h8
    omega
  · exact h1
end Go.Proofs.YtglpknhcneggeaaGreatDoor
namespace Go.Proofs.YtglpknhcneggeaaGreatDoor
set_option linter.unusedSimpArgs false
open Go.RowKit
set_option linter.unusedVariables false

theorem vint {k : IntKind} {x y : Int} (h : x = y) : Value.int k x = .int k y := by rw [h]
/-! ## slices of words in memory -/
def wds (l : List Nat) : List Value := l.map fun x : Nat => .int .u32 (x : Int)
theorem wds_length (l : List Nat) : (wds l).length = l.length := List.length_map _
theorem wds_append (l m : List Nat) : wds (l ++ m) = wds l ++ wds m := List.map_append
theorem wds_take (l : List Nat) (k : Nat) : wds (l.take k) = (wds l).take k := List.map_take
theorem wds_drop (l : List Nat) (k : Nat) : wds (l.drop k) = (wds l).drop k := List.map_drop
theorem wds_set (l : List Nat) (k x : Nat) : wds (l.set k x) = (wds l).set k (.int .u32 (x : Int)) := List.map_set
theorem wds_get {l : List Nat} {k : Nat} (h : k < l.length) : (wds l)[k]? = some (.int .u32 ((l[k] : Nat) : Int)) := by
  simp [wds, h]
theorem wds_oneCell (l : List Nat) : ∀ u ∈ wds l, u.oneCell' = true := by
  intro u hu
  obtain ⟨x, _, rfl⟩ := List.mem_map.1 hu
  rfl
/-- a slice of words, wherever it lies, below block B -/
def RdW (w : World) (B : Nat) (A : Option Addr) (l : List Nat) : Prop := Rds w B 1 A l.length (wds l)
section
variable {w w' : World} {B B' : Nat} {A : Option Addr} {l : List Nat}
theorem RdW.at_ (h : RdW w B A l) {k : Nat} (hk : k < l.length) :
    ∃ b off, A = some ⟨b, off, none⟩ ∧ b < B ∧ w.cell? ⟨b, off + k, none⟩ = some (.int .u32 ((l[k] : Nat) : Int)) := by
  obtain ⟨b, off, e, hb, hc⟩ := h.2 (by omega)
  exact ⟨b, off, e, hb, hc _ _ (wds_get hk)⟩
theorem RdW.addr (h : RdW w B A l) (hl : 0 < l.length) : ∃ b off, A = some ⟨b, off, none⟩ ∧ b < B ∧ ∀ k (hk : k < l.length), w.cell? ⟨b, off + k, none⟩ = some (.int .u32 ((l[k] : Nat) : Int)) := by
  obtain ⟨b, off, e, hb, hc⟩ := h.2 hl
  exact ⟨b, off, e, hb, fun k hk => hc _ _ (wds_get hk)⟩
theorem RdW.below (h : RdW w B A l) (hb : Below B w w') : RdW w' B A l := Rds.below h hb
theorem RdW.more (h : RdW w B A l) (hB : B ≤ B') : RdW w B' A l := Rds.more h hB
/-- whatever the world at hand, that keeps what was there -/
theorem RdW.on (h : RdW w B A l) (hb : Below B w w') (hB : B ≤ B') : RdW w' B' A l := (h.below hb).more hB
theorem RdW.take (h : RdW w B A l) {k : Nat} (hk : k ≤ l.length) : RdW w B A (l.take k) := by
  have := Rds.take h hk
  unfold RdW
  rw [List.length_take, Nat.min_eq_left hk, wds_take]
  simpa using this
theorem RdW.nil_ (w : World) (B : Nat) (A : Option Addr) : RdW w B A [] := Rds.nil_ w B 1 A
theorem RdW.drop (h : RdW w B A l) {k c : Nat} (hk : k ≤ l.length) (hc : l.length ≤ c) : RdW w B (if c = k then A else A.map (·.add k)) (l.drop k) := by
  have := Rds.cut h hk hc
  unfold RdW
  rw [List.length_drop, wds_drop]
  simpa using this
theorem RdW.new1 {g : Nat} (hg : g < B) {x : Nat} (h0 : w.cell? ⟨g, 0, none⟩ = some (.int .u32 (x : Int))) : RdW w B (some ⟨g, 0, none⟩) [x] :=
  ⟨rfl, fun _ => ⟨g, 0, rfl, hg, fun j u hu => by
    rw [Nat.zero_add]
    match j, hu with
    | 0, hu => simp [wds] at hu; subst hu; exact h0
    | j + 1, hu => simp [wds] at hu⟩⟩
theorem RdW.new2 {g : Nat} (hg : g < B) {x y : Nat} (h0 : w.cell? ⟨g, 0, none⟩ = some (.int .u32 (x : Int))) (h1 : w.cell? ⟨g, 1, none⟩ = some (.int .u32 (y : Int))) : RdW w B (some ⟨g, 0, none⟩) [x, y] :=
  ⟨rfl, fun _ => ⟨g, 0, rfl, hg, fun j u hu => by
    rw [Nat.zero_add]
    match j, hu with
    | 0, hu => simp [wds] at hu; subst hu; exact h0
    | 1, hu => simp [wds] at hu; subst hu; exact h1
    | j + 2, hu => simp [wds] at hu⟩⟩
end
theorem RdW.lower {w : World} {B B' g : Nat} {l : List Nat} (h : RdW w B (some ⟨g, 0, none⟩) l) (hg : g < B') : RdW w B' (some ⟨g, 0, none⟩) l :=
  ⟨h.1, fun hn => by
    obtain ⟨b, off, e, _, hc⟩ := h.2 hn
    injection e with e
    injection e with e1 e2
    subst e1 e2
    exact ⟨g, 0, rfl, hg, hc⟩⟩
theorem wordInfo : (Tryz.prog.info? 74).map (fun i => (i.zero, i.size, i.bytes)) = some (some (.int .u32 0), 1, 4) := by kernel_rfl
/-- the words that a call has made itself -/
def OwW (w : World) (base : Nat) (A : Option Addr) (c : Nat) (l : List Nat) : Prop := w.ownsRow base 74 1 (.slice A l.length c) l.length (wds l)
/-- .. in a row whose block is known -/
def OwG (w : World) (base g c : Nat) (l : List Nat) : Prop := w.ownsRow base 74 1 (.slice (some ⟨g, 0, none⟩) l.length c) l.length (wds l)
section
variable {w w1 : World} {base base' g c : Nat} {A : Option Addr} {l : List Nat}
theorem OwW.rd (h : OwW w base A c l) : RdW w w.heap.size A l := Rds.of_own h
theorem OwW.below (h : OwW w base A c l) (hb : Below w.heap.size w w1) : OwW w1 base A c l := own_below h hb
theorem OwW.base_ (h : OwW w base A c l) (hb : base' ≤ base) : OwW w base' A c l := own_base h hb
theorem OwW.alloc (h : OwW w base A c l) (o : Obj) : OwW (w.alloc o) base A c l := World.ownsRow.alloc h o
theorem OwW.nil_ (w : World) (base : Nat) : OwW w base none 0 [] := own_nil w base _ 1
theorem OwW.cap (h : OwW w base A c l) : l.length ≤ c := by
  obtain ⟨A', c', e, h2⟩ := own_form h
  injection e with _ _ e3
  omega
theorem OwG.ow (h : OwG w base g c l) : OwW w base (some ⟨g, 0, none⟩) c l := h
theorem OwG.rd (h : OwG w base g c l) : RdW w w.heap.size (some ⟨g, 0, none⟩) l := Rds.of_own h
theorem OwG.below (h : OwG w base g c l) (hb : Below w.heap.size w w1) : OwG w1 base g c l := own_below h hb
theorem OwG.alloc (h : OwG w base g c l) (o : Obj) : OwG (w.alloc o) base g c l := World.ownsRow.alloc h o
theorem OwG.lt (h : OwG w base g c l) : base ≤ g ∧ g < w.heap.size := World.ownsRow.lt h g rfl
theorem OwG.cap (h : OwG w base g c l) : l.length ≤ c := OwW.cap h.ow
theorem OwG.cell (h : OwG w base g c l) {k : Nat} (hk : k < l.length) : w.cell? ⟨g, k, none⟩ = some (.int .u32 ((l[k] : Nat) : Int)) := by
  rw [World.ownsRow.cellAt h k (by omega), wds_get hk]
theorem OwG.frozen (h : OwG w base g c l) (k : Nat) : w.frozen? ⟨g, k, none⟩ = false := World.ownsRow.frozenAt h k
theorem OwG.set (h : OwG w base g c l) (k x : Nat) : OwG (w.setCell ⟨g, k, none⟩ (.int .u32 (x : Int))) base g c (l.set k x) := by
  have := (World.ownsRow.stored h k (.int .u32 (x : Int))).1
  unfold OwG
  rw [List.length_set, wds_set]
  exact this
/-- .. and another row stays -/
theorem OwG.other (h : OwG w base g c l) {p : Addr} (hp : p.block ≠ g) (u : Value) : OwG (w.setCell p u) base g c l := by
  refine World.ownsRow.kept h (row := some p.block) ⟨rfl, rfl, rfl, by simp, fun k _ hk => Below.heap_setCell w p u k (fun e => hk (by rw [e]))⟩ (.inr ?_)
  intro e
  injection e with e
  exact hp e.symm
theorem OwG.keep (h : OwG w base g c l) {row : Option Nat} (hg : w.grownBy w1 row) (hne : some g ≠ row) : OwG w1 base g c l := World.ownsRow.kept h hg (.inr hne)
end
theorem OwG.of_made {w : World} {base g n : Nat} (h : w.ownsRow base 74 1 (.slice (some ⟨g, 0, none⟩) n n) n (madeCells (Value.int .u32 0).cells (n * 1)).toList) : OwG w base g n (List.replicate n 0) := by
  have e : (madeCells (Value.int .u32 0).cells (n * 1)).toList = wds (List.replicate n 0) := by
    rw [Nat.mul_one]
    show (madeCells #[Value.int .u32 0] n).toList = _
    rw [toList_madeCells_one]
    simp [wds]
  rw [e] at h
  unfold OwG
  simpa using h
/-- out := make([]uint32, n) -/
theorem wpList_makeW {w : World} {ops : Array Oper} {rest : List Oper} {o : Oper} {a : Act} {Q : Exit → Act → World → Prop}
    (hg : o.guard = none) (l c : Operand) (hop : o.op = Op.makeSlice 26 l c)
    (base n : Nat) (L C : Int) (hl : a.eval l = .int .i64 L) (hc : a.eval c = .int .i64 C) (hL : L = (n : Int)) (hC : C = (n : Int)) (hn : n ≤ 1099511627776) (hb : base ≤ w.heap.size)
    (h : ∀ w', OwG w' base w.heap.size n (List.replicate n 0) → Below w.heap.size w w' → wpList Tryz.prog ops Q rest (a.put o.dst (.slice (some ⟨w.heap.size, 0, none⟩) n n)) w') : wpList Tryz.prog ops Q (o :: rest) a w := by
  obtain ⟨i, hi, hz, hs, hby⟩ := info_parts wordInfo
  refine wpList_make_full w hg l c 26 hop base 74 i (.int .u32 0) 1 Tryz.underlying26 hi hz hs .i64 .i64 L C n hl hc hL hC (by rw [hby]; omega) (by unfold maxLen; omega) hb ?_
  intro w' h1 h2
  exact h w' (OwG.of_made h1) ((Below.refl _ _).grown h2 (Nat.le_refl _) (by intro k hk; cases hk))
/-- out = append(out, src...) -/
theorem wpList_appW {w : World} {ops : Array Oper} {rest : List Oper} {o : Oper} {a : Act} {Q : Exit → Act → World → Prop} (hgd : o.guard = none) (s x : Operand)
    (ho : o.op = .call { callee := .builtin .append, args := #[s, x], argTypes := #[26, 26] })
    (base : Nat) (A0 : Option Addr) (c0 n0 : Nat) (l : List Nat) (hn0 : l.length = n0) (hs : a.eval s = .slice A0 n0 c0) (hown : OwW w base A0 c0 l)
    (B : Nat) (A : Option Addr) (c n : Nat) (m : List Nat) (hn : m.length = n) (hx : a.eval x = .slice A n c) (hr : RdW w B A m)
    (hlen : n0 + n ≤ 1099511627776) (hbase : base ≤ w.heap.size)
    (h : ∀ A' c' w', OwW w' base A' c' (l ++ m) → Below base w w' → w.grownBy w' (Value.slice A0 l.length c0).ownBlock → wpList Tryz.prog ops Q rest (a.put o.dst (.slice A' (n0 + n) c')) w') : wpList Tryz.prog ops Q (o :: rest) a w := by
  subst hn0 hn
  refine wpList_app hgd s x 26 ho base 74 _ 1 4 Tryz.underlying26 wordInfo rfl (by decide) A0 c0 l.length (wds l) hs hown B A m.length c (wds m) hx hr (wds_oneCell _) (by unfold maxLen; omega) (by omega) hbase ?_
  intro A' c' w' h1 h2 h3 h4
  refine h A' c' w' ?_ h2 h3
  unfold OwW
  rw [wds_append, List.length_append]
  exact h1
theorem OwW.lit0 {w : World} {base : Nat} (hb : base ≤ w.heap.size) : OwW (w.alloc (.cells #[] 74)) base (some ⟨w.heap.size, 0, none⟩) 0 [] :=
  World.ownsRow_lit w #[] 0 hb (by unfold maxLen; omega) (by simp)
theorem OwW.lit1 {w : World} {base x : Nat} (hb : base ≤ w.heap.size) : OwW (w.alloc (.cells #[.int .u32 (x : Int)] 74)) base (some ⟨w.heap.size, 0, none⟩) 1 [x] :=
  World.ownsRow_lit w #[.int .u32 (x : Int)] 1 hb (by unfold maxLen; omega) (by simp)
end Go.Proofs.YtglpknhcneggeaaGreatDoor
