/- Contracts and lemmas for the given statements. Conditions: those alone that each names. -/
import Derived.Test.YtoiopnmphbnjaaaGreatDoorProg
import Derived.WalkKit
import Derived.Outline
import Derived.Handy
import Derived.Deep.QuietTactic
import Derived.BigQuiet
import Derived.WalkSpells
import Derived.WalkLawsBesides
import Derived.Lib.Hide
import Derived.Maps.AppendAt
import Derived.Deep.AppendLies
import Derived.LaidEql
import Derived.Lib.ItoaNum
namespace Go.Proofs.YtoiopnmphbnjaaaGreatDoor
set_option linter.unusedVariables false
set_option linter.unusedSimpArgs false
open Go.RowKit

/-! ## memory -/
theorem bcell {W w1 : World} (hb : Below W.heap.size W w1) : (∀ b o, b < W.heap.size → w1.cell? ⟨b, o, none⟩ = W.cell? ⟨b, o, none⟩) ∧ (∀ b o, b < W.heap.size → w1.frozen? ⟨b, o, none⟩ = W.frozen? ⟨b, o, none⟩) :=
 ⟨fun b o h => hb.cell (p := ⟨b, o, none⟩) h, fun b o h => hb.frozen (p := ⟨b, o, none⟩) h⟩

/-- the same, from a number of blocks that is written out (what was there before the call before, and what the text itself has made) -/
theorem bcellB {W w1 : World} {B : Nat} (hb : Below W.heap.size W w1) (hB : B ≤ W.heap.size) : (∀ b o, b < B → w1.cell? ⟨b, o, none⟩ = W.cell? ⟨b, o, none⟩) ∧ (∀ b o, b < B → w1.frozen? ⟨b, o, none⟩ = W.frozen? ⟨b, o, none⟩) :=
 ⟨fun b o h => hb.cell (p := ⟨b, o, none⟩) (by show b < _; omega), fun b o h => hb.frozen (p := ⟨b, o, none⟩) (by show b < _; omega)⟩
theorem below_at {W w1 : World} {B : Nat} (hb : Below B W w1) (b o : Nat) (h : b < B) : w1.cell? ⟨b, o, none⟩ = W.cell? ⟨b, o, none⟩ := hb.cell (p := ⟨b, o, none⟩) h
theorem below_fr {W w1 : World} {B : Nat} (hb : Below B W w1) (b o : Nat) (h : b < B) : w1.frozen? ⟨b, o, none⟩ = W.frozen? ⟨b, o, none⟩ := hb.frozen (p := ⟨b, o, none⟩) h
theorem lt_size {B : Nat} {W w1 : World} (hb : Below B W w1) : W.heap.size ≤ w1.heap.size := hb.size
theorem below_drewN {B : Nat} {a w : World} (h : Below B a w) (n : Nat) : Below B a (w.drewN n) := ⟨h.os, h.tape, h.output, h.size, h.block⟩
theorem size_drewN' (w : World) (n : Nat) : (w.drewN n).heap.size = w.heap.size := rfl
theorem ZZ : (∀ (w : World) (o : Obj), (w.alloc o).heap.size = w.heap.size + 1) ∧ (∀ (w : World) (a : Addr) (v : Value), (w.setCell a v).heap.size = w.heap.size) ∧ (∀ w : World, w.drew.heap.size = w.heap.size) ∧ ∀ (w : World) (n : Nat), (w.drewN n).heap.size = w.heap.size := ⟨World.size_alloc, World.size_setCell, fun _ => rfl, fun _ _ => rfl⟩
theorem bbo {W w1 : World} {B : Nat} (hb : Below B W w1) (b : Nat) (h : b < B) : (∀ o, w1.cell? ⟨b, o, none⟩ = W.cell? ⟨b, o, none⟩) ∧ (∀ o, w1.frozen? ⟨b, o, none⟩ = W.frozen? ⟨b, o, none⟩) := ⟨fun o => below_at hb b o h, fun o => below_fr hb b o h⟩
theorem BlR (B : Nat) (w : World) : Below B w w := Below.refl B w
theorem BlA {B : Nat} {a w : World} (h : Below B a w) (hB : B ≤ w.heap.size) (o : Obj) : Below B a (w.alloc o) := h.alloc hB o
theorem BlD {B : Nat} {a w : World} (h : Below B a w) : Below B a w.drew := h.drew
theorem BlN {B : Nat} {a w : World} (h : Below B a w) (n : Nat) : Below B a (w.drewN n) := below_drewN h n
theorem BlS {B : Nat} {a w : World} (h : Below B a w) {p : Addr} (hp : B ≤ p.block) (u : Value) : Below B a (w.setCell p u) := h.setCell hp u
theorem BlT {B : Nat} {a b c : World} (h : Below B a b) (k : Below B b c) : Below B a c := h.trans k
theorem BlM {B B' : Nat} {w w' : World} (h : Below B w w') (hB : B' ≤ B) : Below B' w w' := h.mono hB
theorem addr_add (b off j : Nat) : (⟨b, off, none⟩ : Addr).add j = ⟨b, off + j, none⟩ := by
 unfold Addr.add; split
 · rename_i h; subst h; rfl
 · rfl
/-- a slice (its address A, n elements) reads as the cells xs, below block B -/
def Rds (w : World) (B size : Nat) (A : Option Addr) (n : Nat) (xs : List Value) : Prop :=
 xs.length = n * size ∧ (0 < n → ∃ b off, A = some ⟨b, off, none⟩ ∧ b < B ∧ ∀ j u, xs[j]? = some u → w.cell? ⟨b, off + j, none⟩ = some u)

section
variable {w w' : World} {B B' size n : Nat} {A : Option Addr} {xs : List Value}
theorem Rds.nil_ (w : World) (B size : Nat) (A : Option Addr) : Rds w B size A 0 [] := ⟨by simp, fun h => absurd h (by omega)⟩
theorem Rds.keep (h : Rds w B size A n xs) (hk : ∀ b o, b < B → w'.cell? ⟨b, o, none⟩ = w.cell? ⟨b, o, none⟩) : Rds w' B size A n xs :=
 ⟨h.1, fun hn => by
   obtain ⟨b, off, e, hb, hc⟩ := h.2 hn
   exact ⟨b, off, e, hb, fun j u hu => (hk _ _ hb).trans (hc j u hu)⟩⟩
theorem Rds.more (h : Rds w B size A n xs) (hB : B ≤ B') : Rds w B' size A n xs :=
 ⟨h.1, fun hn => by
   obtain ⟨b, off, e, hb, hc⟩ := h.2 hn
   exact ⟨b, off, e, by omega, hc⟩⟩
theorem Rds.below (h : Rds w B size A n xs) (hb : Below B w w') : Rds w' B size A n xs := h.keep fun _ _ hp => hb.cell (p := ⟨_, _, none⟩) hp
theorem Rds.alloc (h : Rds w B size A n xs) (hB : B ≤ w.heap.size) (o : Obj) : Rds (w.alloc o) B size A n xs := h.below ((Below.refl _ _).alloc hB o)
theorem Rds.of_own {base : Nat} {e : TypeId} {c : Nat} (h : w.ownsRow base e size (.slice A n c) n xs) : Rds w w.heap.size size A n xs := by
 refine ⟨h.1, fun hn => ?_⟩
 obtain ⟨g, cap, hv, _, hlt⟩ := h.form hn
 have hA : A = some ⟨g, 0, none⟩ := by injection hv
 subst hA
 refine ⟨g, 0, rfl, hlt, fun j u hu => ?_⟩
 have := h.cells (g := g) rfl j u hu
 rwa [addr_add] at this
theorem Rds.cut (h : Rds w B size A n xs) {k cap : Nat} (hk : k ≤ n) (hc : n ≤ cap) :
   Rds w B size (if cap = k then A else A.map (·.add (k * size))) (n - k) (xs.drop (k * size)) := by
 refine ⟨by rw [List.length_drop, h.1, Nat.sub_mul], fun hn => ?_⟩
 obtain ⟨b, off, rfl, hb, hcell⟩ := h.2 (by omega)
 rw [if_neg (by omega)]
 refine ⟨b, off + k * size, by simp [addr_add], hb, fun j u hu => ?_⟩
 rw [Nat.add_assoc]
 exact hcell _ u (by rw [← hu, List.getElem?_drop])
theorem Rds.take (h : Rds w B size A n xs) {k : Nat} (hk : k ≤ n) : Rds w B size A k (xs.take (k * size)) := by
 refine ⟨by rw [List.length_take, h.1]; exact Nat.min_eq_left (Nat.mul_le_mul_right _ hk), fun hn => ?_⟩
 obtain ⟨b, off, rfl, hb, hcell⟩ := h.2 (by omega)
 exact ⟨b, off, rfl, hb, fun j u hu => hcell j u (by
   rw [List.getElem?_take] at hu
   split at hu
   · exact hu
   · cases hu)⟩
end

/-! ## regions that draw their order: the class 'w, and what was made besides' -/
structure Sub (w : World) where
 x : World
 bel : Below w.heap.size w x
instance instSubNonempty (w : World) : Nonempty (Sub w) := ⟨⟨w, Below.refl _ _⟩⟩
theorem wp_region_quiet_bel {P : Program} {id : Nat} {Q : Exit → Act → World → Prop} {a : Act} {w : World} {l : List Oper} (hm : P.follows .mixedOrders = true) (hB : Region.lexB .any l.toArray = true)
   (h : wpQuiet P l.toArray (fun w' => ∃ y : Sub w, w' = y.x) (fun a' => ∀ w', (∃ y : Sub w, w' = y.x) → Q .normal a' w') l a) : (Code.region id l.toArray true).wp P Q a w :=
 wp_region_quiet (C := fun w' => ∃ y : Sub w, w' = y.x) hm hB ⟨⟨w.drew, (Below.refl _ _).drew⟩, rfl⟩ (by simpa using h)
theorem Calls.quiet_bel {P : Program} {f : FuncId} {args : Array Value} {w : World} {y : Sub w} {v : Value}
   (h : Calls P f args y.x fun e w' => e = .returned v ∧ Below y.x.heap.size y.x w') : Calls P f args y.x fun e w'' => e = .returned v ∧ ∃ z : Sub w, w'' = z.x :=
 h.mono fun _ _ ⟨he, hb⟩ => ⟨he, ⟨_, y.bel.trans (hb.mono y.bel.size)⟩, rfl⟩
theorem Calls.quiet_same {P : Program} {f : FuncId} {args : Array Value} {w : World} {y : Sub w} {v : Value}
   (h : Calls P f args y.x fun e w' => e = .returned v ∧ y.x = w') : Calls P f args y.x fun e w'' => e = .returned v ∧ ∃ z : Sub w, w'' = z.x :=
 h.mono fun _ _ ⟨he, hb⟩ => ⟨he, y, hb.symm⟩
theorem Sub.cell {w : World} (y : Sub w) {b o : Nat} {u : Value} (h : w.cell? ⟨b, o, none⟩ = some u) : y.x.cell? ⟨b, o, none⟩ = some u := by
 have hb : b < w.heap.size := by
   rcases Nat.lt_or_ge b w.heap.size with h1 | h1
   · exact h1
   · simp [World.cell?, Array.getElem?_eq_none h1] at h
 exact (y.bel.cell (p := ⟨b, o, none⟩) hb).trans h
theorem lt_of_cell {w : World} {b o : Nat} {u : Value} (h : w.cell? ⟨b, o, none⟩ = some u) : b < w.heap.size := by
 rcases Nat.lt_or_ge b w.heap.size with h1 | h1
 · exact h1
 · simp [World.cell?, Array.getElem?_eq_none h1] at h
theorem ret_bool {a b : Bool} (h : a = b) : Ending.returned (.bool a) = .returned (.bool b) := by rw [h]
theorem ret_int {k : IntKind} {a b : Int} (h : a = b) : Ending.returned (.int k a) = .returned (.int k b) := by rw [h]

/-! ## append onto a row of the call's own, from whatever slice -/
theorem own_form {w : World} {base : Nat} {e : TypeId} {size n : Nat} {v : Value} {xs : List Value} (h : w.ownsRow base e size v n xs) : ∃ A c, v = .slice A n c ∧ n ≤ c := by
 rcases h.2 with ⟨rfl, rfl⟩ | ⟨g, cap, cur, rfl, _, _, hc, _⟩
 · exact ⟨none, 0, rfl, Nat.le_refl _⟩
 · exact ⟨_, cap, rfl, hc⟩
theorem own_below {w w1 : World} {base : Nat} {e : TypeId} {size n : Nat} {v : Value} {xs : List Value} (h : w.ownsRow base e size v n xs) (hb : Below w.heap.size w w1) : w1.ownsRow base e size v n xs := by
 refine h.kept (row := none) ⟨hb.os, hb.tape, hb.output, hb.size, fun k hk _ => hb.block k hk⟩ ?_
 cases v.ownBlock <;> simp
theorem own_base {w : World} {base base' : Nat} {e : TypeId} {size n : Nat} {v : Value} {xs : List Value} (h : w.ownsRow base e size v n xs) (hb : base' ≤ base) : w.ownsRow base' e size v n xs := by
 refine ⟨h.1, ?_⟩
 rcases h.2 with h1 | ⟨g, cap, cur, h1, h2, h3⟩
 · exact .inl h1
 · exact .inr ⟨g, cap, cur, h1, by omega, h3⟩
theorem own_nil (w : World) (base : Nat) (e : TypeId) (size : Nat) : w.ownsRow base e size (.slice none 0 0) 0 [] := World.ownsRow_nil w base e size
theorem run_append_nil {P : Program} (w : World) (base : Nat) (t ty e : TypeId) (i : TypeInfo) (size : Nat) (ht : P.underlying t = some (.slice e)) (hi : P.info? e = some i)
   (v : Value) (n : Nat) (xs : List Value) (hown : w.ownsRow base e size v n xs) (c : Nat) : (Builtin.append_ #[t, t] ty #[v, .slice none 0 c]).run P w = .ok v w := by
 rcases hown.2 with ⟨rfl, rfl⟩ | ⟨g, cap, cur, rfl, _, _, hnc, _⟩
 · simp [Builtin.append_, run_underlying ht, sizeOf, typeInfo, hi, Builtin.lenOf, Builtin.firstCells]
 · simp [Builtin.append_, run_underlying ht, sizeOf, typeInfo, hi, Builtin.lenOf, Builtin.firstCells, hnc, storeCells]
theorem run_app {P : Program} (w : World) (base : Nat) (t ty e : TypeId) (z : Value) (size bytes : Nat) (ht : P.underlying t = some (.slice e)) (hinf : (P.info? e).map (fun i => (i.zero, i.size, i.bytes)) = some (some z, size, bytes))
   (hzs : z.cells.size = size) (hsz : 0 < size)
   (A0 : Option Addr) (c0 n : Nat) (xs : List Value) (hown : w.ownsRow base e size (.slice A0 n c0) n xs)
   (B : Nat) (A : Option Addr) (m c : Nat) (news : List Value) (hr : Rds w B size A m news) (h1 : ∀ u ∈ news, u.oneCell' = true)
   (h63 : n + m ≤ maxLen) (hbytes : (n + m) * bytes ≤ 140737488355328) (hbase : base ≤ w.heap.size) :
   ∃ A' c' w', (Builtin.append_ #[t, t] ty #[.slice A0 n c0, .slice A m c]).run P w = .ok (.slice A' (n + m) c') w' ∧ w'.ownsRow base e size (.slice A' (n + m) c') (n + m) (xs ++ news) ∧ w.grownBy w' (Value.slice A0 n c0).ownBlock ∧
     ((Value.slice A' (n + m) c').ownBlock = (Value.slice A0 n c0).ownBlock ∨ (Value.slice A' (n + m) c').ownBlock = some w.heap.size) := by
 obtain ⟨i, hi, hz, hs, hby⟩ := info_parts hinf
 have hnil : m = 0 → news = [] := fun h0 => List.eq_nil_of_length_eq_zero (by rw [hr.1, h0, Nat.zero_mul])
 rcases A with _ | ad
 · have hm : m = 0 := by
     rcases Nat.eq_zero_or_pos m with h0 | h0
     · exact h0
     · obtain ⟨b, off, h, _⟩ := hr.2 h0
       cases h
   subst hm
   rw [hnil rfl]
   exact ⟨A0, c0, w, run_append_nil w base t ty e i size ht hi _ n xs hown c, by simpa using hown, World.grownBy.refl w _, .inl rfl⟩
 · have hcells : ∀ j u, news[j]? = some u → w.cell? (ad.add j) = some u := by
     intro j u hu
     rcases Nat.eq_zero_or_pos m with h0 | h0
     · rw [hnil h0] at hu
       simp at hu
     · obtain ⟨b, off, h, _, hc⟩ := hr.2 h0
       injection h with h
       subst h
       rw [addr_add]
       exact hc j u hu
   obtain ⟨v', w', hrun, h2, h3, _, h5⟩ := run_append_own_at (P := P) w base t ty e i z size bytes ht hi hz hs hby hzs hsz _ n xs hown ad m c news hr.1 hcells h1 h63 hbytes hbase
   obtain ⟨A', c', rfl, _⟩ := own_form h2
   exact ⟨A', c', w', hrun, h2, h3, h5⟩
theorem wp_app {P : Program} {w : World} {o : Oper} {a : Act} {K : Act → World → Prop} {Q : Exit → Act → World → Prop} (s x : Operand) (t : TypeId)
   (ho : o.op = .call { callee := .builtin .append, args := #[s, x], argTypes := #[t, t] })
   (base : Nat) (e : TypeId) (z : Value) (size bytes : Nat) (ht : P.underlying t = some (.slice e)) (hinf : (P.info? e).map (fun i => (i.zero, i.size, i.bytes)) = some (some z, size, bytes))
   (hzs : z.cells.size = size) (hsz : 0 < size)
   (A0 : Option Addr) (c0 n : Nat) (xs : List Value) (hs : a.eval s = .slice A0 n c0) (hown : w.ownsRow base e size (.slice A0 n c0) n xs)
   (B : Nat) (A : Option Addr) (m c : Nat) (news : List Value) (hx : a.eval x = .slice A m c) (hr : Rds w B size A m news) (h1 : ∀ u ∈ news, u.oneCell' = true)
   (h63 : n + m ≤ maxLen) (hbytes : (n + m) * bytes ≤ 140737488355328) (hbase : base ≤ w.heap.size)
   (h : ∀ A' c' w', w'.ownsRow base e size (.slice A' (n + m) c') (n + m) (xs ++ news) → Below base w w' → w.grownBy w' (Value.slice A0 n c0).ownBlock →
     ((Value.slice A' (n + m) c').ownBlock = (Value.slice A0 n c0).ownBlock ∨ (Value.slice A' (n + m) c').ownBlock = some w.heap.size) → K (a.put o.dst (.slice A' (n + m) c')) w') : o.wp P a w K Q := by
 obtain ⟨A', c', w', hrun, h2, h3, h4⟩ := run_app (P := P) w base t o.type e z size bytes ht hinf hzs hsz A0 c0 n xs hown B A m c news hr h1 h63 hbytes hbase
 unfold Oper.wp execOp
 simp only [ho, resolve, invoke, builtin, Sem.run_bind, Sem.run_pure, Result.andThen_ok, List.map_toArray, List.map_cons, List.map_nil, hs, hx, hrun]
 exact h A' c' w' h2 ((Below.refl _ _).grown h3 hbase fun k hk => (hown.lt k hk).1) h3 h4
theorem wpList_app {P : Program} {w : World} {ops : Array Oper} {rest : List Oper} {o : Oper} {a : Act} {Q : Exit → Act → World → Prop} (hgd : o.guard = none) (s x : Operand) (t : TypeId)
   (ho : o.op = .call { callee := .builtin .append, args := #[s, x], argTypes := #[t, t] })
   (base : Nat) (e : TypeId) (z : Value) (size bytes : Nat) (ht : P.underlying t = some (.slice e)) (hinf : (P.info? e).map (fun i => (i.zero, i.size, i.bytes)) = some (some z, size, bytes))
   (hzs : z.cells.size = size) (hsz : 0 < size)
   (A0 : Option Addr) (c0 n : Nat) (xs : List Value) (hs : a.eval s = .slice A0 n c0) (hown : w.ownsRow base e size (.slice A0 n c0) n xs)
   (B : Nat) (A : Option Addr) (m c : Nat) (news : List Value) (hx : a.eval x = .slice A m c) (hr : Rds w B size A m news) (h1 : ∀ u ∈ news, u.oneCell' = true)
   (h63 : n + m ≤ maxLen) (hbytes : (n + m) * bytes ≤ 140737488355328) (hbase : base ≤ w.heap.size)
   (h : ∀ A' c' w', w'.ownsRow base e size (.slice A' (n + m) c') (n + m) (xs ++ news) → Below base w w' → w.grownBy w' (Value.slice A0 n c0).ownBlock →
     ((Value.slice A' (n + m) c').ownBlock = (Value.slice A0 n c0).ownBlock ∨ (Value.slice A' (n + m) c').ownBlock = some w.heap.size) → wpList P ops Q rest (a.put o.dst (.slice A' (n + m) c')) w') : wpList P ops Q (o :: rest) a w :=
 wpList_plain hgd fun _ hK => wp_app s x t ho base e z size bytes ht hinf hzs hsz A0 c0 n xs hs hown B A m c news hx hr h1 h63 hbytes hbase fun A' c' w' h2 h3 h4 h5 => hK _ _ (h A' c' w' h2 h3 h4 h5)

/-! ## bits of int, both sides not below 0 -/
theorem ofInt_i64 (a : Nat) (ha : a < 9223372036854775808) : (BitVec.ofInt 64 (a : Int)).toNat = a := by
 rw [BitVec.ofInt_natCast, BitVec.toNat_ofNat]; exact Nat.mod_eq_of_lt (by omega)
theorem i64_and (a b : Nat) (ha : a < 9223372036854775808) (hb : b < 9223372036854775808) : bits .and .i64 (a : Int) (b : Int) = ((a &&& b : Nat) : Int) := by
 have hx : a &&& b < 2 ^ 63 := Nat.and_lt_two_pow _ (by omega)
 show IntKind.i64.wrap ((BitVec.ofInt 64 (a : Int) &&& BitVec.ofInt 64 (b : Int)).toNat : Int) = _
 rw [BitVec.toNat_and, ofInt_i64 a ha, ofInt_i64 b hb, IntKind.wrap_i64]
 omega
theorem i64_or (a b : Nat) (ha : a < 9223372036854775808) (hb : b < 9223372036854775808) : bits .or .i64 (a : Int) (b : Int) = ((a ||| b : Nat) : Int) := by
 have hx : a ||| b < 2 ^ 63 := Nat.or_lt_two_pow (by omega) (by omega)
 show IntKind.i64.wrap ((BitVec.ofInt 64 (a : Int) ||| BitVec.ofInt 64 (b : Int)).toNat : Int) = _
 rw [BitVec.toNat_or, ofInt_i64 a ha, ofInt_i64 b hb, IntKind.wrap_i64]
 omega
/-- a without the bits of b -/
def ndiff (a b : Nat) : Nat := a ^^^ (a &&& b)
theorem testBit_ndiff (a b i : Nat) : (ndiff a b).testBit i = (a.testBit i && !b.testBit i) := by
 simp only [ndiff, Nat.testBit_xor, Nat.testBit_and]
 cases a.testBit i <;> cases b.testBit i <;> rfl
theorem and_pow (d k : Nat) : d &&& 2 ^ k = if d.testBit k then 2 ^ k else 0 := by
 apply Nat.eq_of_testBit_eq
 intro i
 rw [Nat.testBit_and, Nat.testBit_two_pow]
 by_cases h : k = i
 · subst h
   cases hd : d.testBit k <;> simp
 · cases hd : d.testBit k <;> simp [h]
theorem ndiff_lt {a b n : Nat} (h : a < 2 ^ n) : ndiff a b < 2 ^ n :=
 Nat.xor_lt_two_pow h (by rw [Nat.and_comm]; exact Nat.and_lt_two_pow _ h)
theorem i64_andNot (a b : Nat) (ha : a < 9223372036854775808) (hb : b < 9223372036854775808) : bits .andNot .i64 (a : Int) (b : Int) = ((ndiff a b : Nat) : Int) := by
 have h2 : (63 : Nat) ≤ 64 := by omega
 have hx : ndiff a b < 2 ^ 63 := ndiff_lt (by omega)
 have he : (BitVec.ofInt 64 (a : Int) &&& ~~~ BitVec.ofInt 64 (b : Int)).toNat = ndiff a b := by
   apply Nat.eq_of_testBit_eq
   intro i
   rw [testBit_ndiff, BitVec.toNat_and, Nat.testBit_and, ofInt_i64 a ha]
   by_cases hi : i < 64
   · congr 1
     rw [BitVec.testBit_toNat, BitVec.getLsbD_not, BitVec.getLsbD, ofInt_i64 b hb]
     simp [hi]
   · have : a.testBit i = false := Nat.testBit_lt_two_pow (Nat.lt_of_lt_of_le (show a < 2 ^ 63 by omega) (Nat.pow_le_pow_right (by omega) (by omega)))
     simp [this]
 show IntKind.i64.wrap ((BitVec.ofInt 64 (a : Int) &&& ~~~ BitVec.ofInt 64 (b : Int)).toNat : Int) = _
 rw [he, IntKind.wrap_i64]
 omega
end Go.Proofs.YtoiopnmphbnjaaaGreatDoor
namespace Go.Proofs.YtoiopnmphbnjaaaGreatDoor
set_option linter.unusedVariables false
set_option linter.unusedSimpArgs false

/-! ## numbers by words of 32 bits, the lowest first (plain) -/
def nv : List Nat → Nat
 | [] => 0
 | x :: l => x + 4294967296 * nv l
def W32 (l : List Nat) : Prop := ∀ x ∈ l, x < 4294967296
/-- 2^32 to the k (the numeral stands ahead of the factor that is looked into: 'x * 4294967296' and '4294967296 ^ k' are unfolded by the kernel without an end) -/
def wp : Nat → Nat
 | 0 => 1
 | k + 1 => 4294967296 * wp k
theorem wp_zero : wp 0 = 1 := rfl
theorem wp_succ (k : Nat) : wp (k + 1) = 4294967296 * wp k := rfl
theorem wp_add (j k : Nat) : wp (j + k) = wp j * wp k := by
 induction j with
 | zero => rw [Nat.zero_add, wp_zero, Nat.one_mul]
 | succ j ih => rw [show j + 1 + k = (j + k) + 1 by omega, wp_succ, wp_succ, ih, Nat.mul_assoc]
theorem wp_pos (k : Nat) : 0 < wp k := by
 induction k with
 | zero => exact Nat.zero_lt_one
 | succ k ih => rw [wp_succ]; omega
theorem wp_le {j k : Nat} (h : j ≤ k) : wp j ≤ wp k := by
 induction k with
 | zero => have : j = 0 := by omega
           rw [this]; exact Nat.le_refl _
 | succ k ih =>
   rcases Nat.lt_or_ge k j with h1 | h1
   · have : j = k + 1 := by omega
     rw [this]; exact Nat.le_refl _
   · have := ih h1
     rw [wp_succ]; omega
theorem wp_one : wp 1 = 4294967296 := rfl
theorem wp_lt_of {j k : Nat} (h : wp j < wp k) : j < k := by
 rcases Nat.lt_or_ge j k with h1 | h1
 · exact h1
 · have := wp_le h1; omega
/-- the canonical words of a number -/
def dig (n : Nat) : List Nat := if h : n = 0 then [] else (n % 4294967296) :: dig (n / 4294967296)
termination_by n
decreasing_by exact Nat.div_lt_self (by omega) (by omega)
theorem dig_zero : dig 0 = [] := by unfold dig; simp
theorem dig_pos {n : Nat} (h : n ≠ 0) : dig n = (n % 4294967296) :: dig (n / 4294967296) := by
 rw [dig]; simp [h]
theorem nv_nil : nv [] = 0 := rfl
theorem nv_cons (x : Nat) (l : List Nat) : nv (x :: l) = x + 4294967296 * nv l := rfl
theorem nv_dig (n : Nat) : nv (dig n) = n := by
 induction n using Nat.strongRecOn with
 | _ n ih =>
   by_cases h : n = 0
   · subst h; rw [dig_zero]; rfl
   · rw [dig_pos h, nv_cons, ih _ (Nat.div_lt_self (by omega) (by omega))]
     omega
theorem dig_W32 (n : Nat) : W32 (dig n) := by
 induction n using Nat.strongRecOn with
 | _ n ih =>
   by_cases h : n = 0
   · subst h; rw [dig_zero]; intro x hx; cases hx
   · rw [dig_pos h]
     intro x hx
     rcases List.mem_cons.1 hx with h1 | h1
     · omega
     · exact ih _ (Nat.div_lt_self (by omega) (by omega)) x h1
theorem W32.nil : W32 [] := fun _ h => by cases h
theorem W32.cons {x : Nat} {l : List Nat} (hx : x < 4294967296) (h : W32 l) : W32 (x :: l) := by
 intro y hy
 rcases List.mem_cons.1 hy with h1 | h1
 · omega
 · exact h y h1
theorem W32.head {x : Nat} {l : List Nat} (h : W32 (x :: l)) : x < 4294967296 := h x (by simp)
theorem W32.tail {x : Nat} {l : List Nat} (h : W32 (x :: l)) : W32 l := fun y hy => h y (by simp [hy])
theorem W32.take {l : List Nat} (h : W32 l) (k : Nat) : W32 (l.take k) := fun x hx => h x (List.mem_of_mem_take hx)
theorem W32.drop {l : List Nat} (h : W32 l) (k : Nat) : W32 (l.drop k) := fun x hx => h x (List.mem_of_mem_drop hx)
theorem W32.append {a b : List Nat} (h : W32 a) (k : W32 b) : W32 (a ++ b) := by
 intro x hx
 rcases List.mem_append.1 hx with h1 | h1
 · exact h x h1
 · exact k x h1
theorem W32.one {x : Nat} (h : x < 4294967296) : W32 [x] := W32.cons h W32.nil
theorem W32.set {l : List Nat} (h : W32 l) (k x : Nat) (hx : x < 4294967296) : W32 (l.set k x) := by
 intro y hy
 rcases List.mem_or_eq_of_mem_set hy with h1 | h1
 · exact h y h1
 · omega
theorem W32.replicate (n : Nat) : W32 (List.replicate n 0) := by
 intro x hx
 have := (List.mem_replicate.1 hx).2
 omega
theorem W32.getD {l : List Nat} (h : W32 l) (i : Nat) : l.getD i 0 < 4294967296 := by
 rw [List.getD_eq_getElem?_getD]
 cases e : l[i]? with
 | none => simp
 | some x => simp; exact h x (List.mem_of_getElem? e)
theorem W32.at_ {l : List Nat} (h : W32 l) {i : Nat} (hi : i < l.length) : l[i] < 4294967296 := h _ (List.getElem_mem hi)
theorem nv_append (a b : List Nat) : nv (a ++ b) = nv a + wp a.length * nv b := by
 induction a with
 | nil => simp [nv, wp_zero]
 | cons x a ih => rw [List.cons_append, nv_cons, nv_cons, ih, List.length_cons, wp_succ, Nat.mul_add, Nat.mul_assoc]; omega
theorem nv_lt {l : List Nat} (h : W32 l) : nv l < wp l.length := by
 induction l with
 | nil => exact wp_pos 0
 | cons x l ih =>
   have h1 := ih h.tail
   have h2 := h.head
   rw [nv_cons, List.length_cons, wp_succ]
   omega
theorem nv_one (x : Nat) : nv [x] = x := by simp [nv]
theorem nv_snoc (l : List Nat) (x : Nat) : nv (l ++ [x]) = nv l + wp l.length * x := by rw [nv_append, nv_one]
theorem nv_take_succ {l : List Nat} {k : Nat} (h : k < l.length) : nv (l.take (k + 1)) = nv (l.take k) + wp k * l[k] := by
 rw [List.take_succ_eq_append_getElem h, nv_snoc, List.length_take, Nat.min_eq_left (by omega)]
theorem nv_split (l : List Nat) (k : Nat) (h : k ≤ l.length) : nv l = nv (l.take k) + wp k * nv (l.drop k) := by
 have := nv_append (l.take k) (l.drop k)
 rwa [List.take_append_drop, List.length_take, Nat.min_eq_left h] at this
theorem nv_replicate (n : Nat) : nv (List.replicate n 0) = 0 := by
 induction n with
 | zero => rfl
 | succ n ih => rw [List.replicate_succ, nv_cons, ih]
theorem nv_zeros {l : List Nat} (h : ∀ x ∈ l, x = 0) : nv l = 0 := by
 induction l with
 | nil => rfl
 | cons x l ih => rw [nv_cons, ih fun y hy => h y (by simp [hy]), h x (by simp)]
/-- words that are canonical -/
def Can (l : List Nat) : Prop := W32 l ∧ ∀ x, l.getLast? = some x → x ≠ 0
theorem dig_can (n : Nat) : Can (dig n) := by
 refine ⟨dig_W32 n, ?_⟩
 induction n using Nat.strongRecOn with
 | _ n ih =>
   intro x hx
   by_cases h : n = 0
   · subst h; rw [dig_zero] at hx; cases hx
   · rw [dig_pos h] at hx
     by_cases h1 : n / 4294967296 = 0
     · rw [h1, dig_zero] at hx
       simp at hx
       omega
     · have ih' := ih _ (Nat.div_lt_self (n := n) (k := 4294967296) (by omega) (by omega))
       rw [List.getLast?_cons] at hx
       cases e : (dig (n / 4294967296)).getLast? with
       | none =>
         have := List.getLast?_eq_none_iff.1 e
         rw [dig_pos h1] at this
         cases this
       | some y => rw [e] at hx; simp at hx; subst hx; exact ih' y e
theorem nv_pos_of_last {l : List Nat} (hl : l ≠ []) (h : ∀ x, l.getLast? = some x → x ≠ 0) : wp (l.length - 1) ≤ nv l := by
 have e := List.dropLast_concat_getLast hl
 have h1 := h (l.getLast hl) (List.getLast?_eq_some_getLast hl)
 rw [← e, nv_snoc, List.length_append, List.length_dropLast]
 simp
 have : wp (l.length - 1) * 1 ≤ wp (l.length - 1) * l.getLast hl := Nat.mul_le_mul_left _ (by omega)
 omega
theorem dig_nv {l : List Nat} (h : Can l) : dig (nv l) = l := by
 obtain ⟨h1, h2⟩ := h
 induction l with
 | nil => rw [nv_nil, dig_zero]
 | cons x l ih =>
   have hx := h1.head
   by_cases hl : l = []
   · subst hl
     have := h2 x (by simp)
     rw [nv_one, dig_pos this, show x / 4294967296 = 0 by omega, dig_zero, Nat.mod_eq_of_lt hx]
   · have h3 : ∀ y, l.getLast? = some y → y ≠ 0 := by
       intro y hy
       exact h2 y (by rw [List.getLast?_cons, hy]; rfl)
     have h4 := nv_pos_of_last hl h3
     have h5 := wp_pos (l.length - 1)
     rw [nv_cons, dig_pos (by omega), show (x + 4294967296 * nv l) % 4294967296 = x by omega, show (x + 4294967296 * nv l) / 4294967296 = nv l by omega, ih h1.tail h3]
theorem Can.nil : Can [] := ⟨W32.nil, fun _ h => by cases h⟩
theorem dig_inj {a b : Nat} (h : dig a = dig b) : a = b := by rw [← nv_dig a, ← nv_dig b, h]
theorem dig_length_le {n k : Nat} (h : n < wp k) : (dig n).length ≤ k := by
 rcases Nat.lt_or_ge k (dig n).length with h1 | h1
 · have hne : dig n ≠ [] := by intro e; rw [e] at h1; simp at h1
   have h2 := nv_pos_of_last hne (dig_can n).2
   rw [nv_dig] at h2
   have h3 := wp_le (show k ≤ (dig n).length - 1 by omega)
   omega
 · exact h1
theorem dig_lt (n : Nat) : n < wp (dig n).length := by
 have := nv_lt (dig_W32 n)
 rwa [nv_dig] at this
theorem dig_nil_iff {n : Nat} : dig n = [] ↔ n = 0 := by
 constructor
 · intro h
   rcases Nat.eq_zero_or_pos n with h1 | h1
   · exact h1
   · rw [dig_pos (by omega)] at h; cases h
 · rintro rfl; exact dig_zero
theorem dig_len_pos {n : Nat} : 0 < (dig n).length ↔ n ≠ 0 := by
 rw [← List.ne_nil_iff_length_pos, ne_eq, dig_nil_iff]
theorem dig_len_zero {n : Nat} : (dig n).length = 0 ↔ n = 0 := by
 rw [List.length_eq_zero_iff, dig_nil_iff]
theorem dig_len_mono {a b : Nat} (h : a ≤ b) : (dig a).length ≤ (dig b).length := dig_length_le (Nat.lt_of_le_of_lt h (dig_lt b))
theorem dig_len_lt {a b : Nat} (h : (dig a).length < (dig b).length) : a < b := by
 rcases Nat.lt_or_ge a b with h1 | h1
 · exact h1
 · have := dig_len_mono h1; omega
theorem dig_small {n : Nat} (h0 : n ≠ 0) (h : n < 4294967296) : dig n = [n] := by
 rw [dig_pos h0, Nat.mod_eq_of_lt h, show n / 4294967296 = 0 by omega, dig_zero]
theorem dig_one : dig 1 = [1] := dig_small (by omega) (by omega)
/-- trailing zeros struck -/
theorem dig_trim {l : List Nat} (h : W32 l) {k : Nat} (hk : k ≤ l.length) (hz : ∀ i, k ≤ i → l.getD i 0 = 0) (hn : k = 0 ∨ l.getD (k - 1) 0 ≠ 0) : dig (nv l) = l.take k := by
 have h1 : nv (l.drop k) = 0 := by
   refine nv_zeros fun x hx => ?_
   obtain ⟨i, hi, e⟩ := List.mem_iff_getElem.1 hx
   have h2 := hz (k + i) (by omega)
   rw [List.length_drop] at hi
   rw [List.getElem_drop] at e
   rw [List.getD_eq_getElem?_getD, List.getElem?_eq_getElem (by omega)] at h2
   simp at h2
   rw [← e]; exact h2
 rw [nv_split l k hk, h1, Nat.mul_zero, Nat.add_zero]
 refine dig_nv ⟨h.take k, fun x hx => ?_⟩
 rcases hn with h2 | h2
 · subst h2; simp at hx
 · rw [List.getLast?_take] at hx
   by_cases h3 : k = 0
   · simp [h3] at hx
   · rw [if_neg h3, List.getElem?_eq_getElem (by omega)] at hx
     simp at hx
     rw [List.getD_eq_getElem?_getD, List.getElem?_eq_getElem (by omega)] at h2
     simp at h2
     rw [← hx]; exact h2
theorem nv_eq_zero {l : List Nat} : nv l = 0 ↔ ∀ x ∈ l, x = 0 := by
 constructor
 · intro h
   induction l with
   | nil => intro x hx; cases hx
   | cons y l ih =>
     rw [nv_cons] at h
     intro x hx
     rcases List.mem_cons.1 hx with h1 | h1
     · omega
     · exact ih (by omega) x h1
 · exact nv_zeros
/-- comparing by the highest words -/
theorem nv_lt_of {a b : List Nat} (ha : W32 a) (hb : W32 b) (i : Nat) (hl : a.length = b.length) (hi : i < a.length) (hs : ∀ j, i < j → a.getD j 0 = b.getD j 0) (hlt : a.getD i 0 < b.getD i 0) : nv a < nv b := by
 have ea : nv a = nv (a.take (i + 1)) + wp (i + 1) * nv (a.drop (i + 1)) := nv_split a _ (by omega)
 have eb : nv b = nv (b.take (i + 1)) + wp (i + 1) * nv (b.drop (i + 1)) := nv_split b _ (by omega)
 have e : a.drop (i + 1) = b.drop (i + 1) := by
   apply List.ext_getElem?
   intro j
   rw [List.getElem?_drop, List.getElem?_drop]
   have h := hs (i + 1 + j) (by omega)
   simp only [List.getD_eq_getElem?_getD] at h
   by_cases h1 : i + 1 + j < a.length
   · rw [List.getElem?_eq_getElem h1, List.getElem?_eq_getElem (by omega)] at h ⊢
     simpa using h
   · rw [List.getElem?_eq_none (by omega), List.getElem?_eq_none (by omega)]
 have h1 : nv (a.take i) < wp i := by
   have := nv_lt (ha.take i)
   rwa [List.length_take, Nat.min_eq_left (by omega)] at this
 rw [nv_take_succ hi] at ea
 rw [nv_take_succ (show i < b.length by omega)] at eb
 have h2 : a[i] < b[i]'(by omega) := by
   simp only [List.getD_eq_getElem?_getD] at hlt
   rw [List.getElem?_eq_getElem hi, List.getElem?_eq_getElem (show i < b.length by omega)] at hlt
   simpa using hlt
 have h3 : wp i * (a[i] + 1) ≤ wp i * b[i]'(by omega) := Nat.mul_le_mul_left _ (by omega)
 rw [Nat.mul_add] at h3
 rw [ea, eb, e]
 omega
theorem nv_eq_of {a b : List Nat} (hl : a.length = b.length) (hs : ∀ j, a.getD j 0 = b.getD j 0) : a = b := by
 apply List.ext_getElem?
 intro j
 have h := hs j
 simp only [List.getD_eq_getElem?_getD] at h
 by_cases h1 : j < a.length
 · rw [List.getElem?_eq_getElem h1, List.getElem?_eq_getElem (by omega)] at h ⊢
   simpa using h
 · rw [List.getElem?_eq_none (by omega), List.getElem?_eq_none (by omega)]
/-- -1, 0, 1 -/
def cmpN (a b : Nat) : Int := if a < b then -1 else if a = b then 0 else 1
theorem cmpN_lt {a b : Nat} (h : a < b) : cmpN a b = -1 := by unfold cmpN; rw [if_pos h]
theorem cmpN_eq {a b : Nat} (h : a = b) : cmpN a b = 0 := by unfold cmpN; rw [if_neg (by omega), if_pos h]
theorem cmpN_gt {a b : Nat} (h : b < a) : cmpN a b = 1 := by unfold cmpN; rw [if_neg (by omega), if_neg (by omega)]
/-- the number of bits -/
def bl (n : Nat) : Nat := if n = 0 then 0 else Nat.log2 n + 1
theorem bl_zero : bl 0 = 0 := rfl
theorem bl_eq_zero {n : Nat} : bl n = 0 ↔ n = 0 := by unfold bl; split <;> omega
theorem bl_eq_one {n : Nat} : bl n = 1 ↔ n = 1 := by
 unfold bl
 split
 · omega
 · rename_i h
   constructor
   · intro h1
     have h2 : Nat.log2 n = 0 := by omega
     have := (Nat.log2_eq_iff h).1 h2
     omega
   · rintro rfl; rfl
/-- the zeros that are made, and what is stored into a row -/
theorem nv_set {l : List Nat} {k : Nat} (h : k < l.length) (x : Nat) : nv (l.set k x) + wp k * l[k] = nv l + wp k * x := by
 induction l generalizing k with
 | nil => simp at h
 | cons y l ih =>
   cases k with
   | zero => simp [nv_cons, wp_zero]; omega
   | succ k =>
     have h' : k < l.length := by simpa using h
     have := ih h'
     simp only [List.set_cons_succ, nv_cons, List.getElem_cons_succ, wp_succ]
     rw [Nat.mul_assoc, Nat.mul_assoc]
     omega
end Go.Proofs.YtoiopnmphbnjaaaGreatDoor
namespace Go.Proofs.YtoiopnmphbnjaaaGreatDoor
set_option linter.unusedVariables false
set_option linter.unusedSimpArgs false

/-! ## plain laws of the loops of addition, subtraction, multiplication, shifts -/
theorem getD_of_lt {l : List Nat} {i : Nat} (h : i < l.length) : l.getD i 0 = l[i] := by
 rw [List.getD_eq_getElem?_getD, List.getElem?_eq_getElem h]; rfl
theorem getD_of_ge {l : List Nat} {i : Nat} (h : l.length ≤ i) : l.getD i 0 = 0 := by
 rw [List.getD_eq_getElem?_getD, List.getElem?_eq_none h]; rfl
theorem nv_take_getD (l : List Nat) (k : Nat) : nv (l.take (k + 1)) = nv (l.take k) + wp k * l.getD k 0 := by
 by_cases h : k < l.length
 · rw [nv_take_succ h, getD_of_lt h]
 · rw [getD_of_ge (by omega), List.take_of_length_le (by omega), List.take_of_length_le (by omega)]; omega
theorem nv_take_all {l : List Nat} {k : Nat} (h : l.length ≤ k) : nv (l.take k) = nv l := by rw [List.take_of_length_le h]
theorem nv_take_lt {l : List Nat} (h : W32 l) (k : Nat) : nv (l.take k) < wp k := by
 have h1 := nv_lt (h.take k)
 exact Nat.lt_of_lt_of_le h1 (wp_le (by rw [List.length_take]; exact Nat.min_le_left _ _))
theorem take_set_self {l : List Nat} {k : Nat} (h : k < l.length) (x : Nat) : (l.set k x).take (k + 1) = l.take k ++ [x] := by
 rw [List.take_succ_eq_append_getElem (by simpa using h), List.take_set_of_le (Nat.le_refl k)]
 simp
theorem nv_take_set {l : List Nat} {k : Nat} (h : k < l.length) (x : Nat) : nv ((l.set k x).take (k + 1)) = nv (l.take k) + wp k * x := by
 rw [take_set_self h, nv_snoc, List.length_take, Nat.min_eq_left (by omega)]
theorem getD_set_self {l : List Nat} {k : Nat} (h : k < l.length) (x : Nat) : (l.set k x).getD k 0 = x := by
 rw [getD_of_lt (by simpa using h)]; simp
theorem getD_set_ne {l : List Nat} {k j : Nat} (h : k ≠ j) (x : Nat) : (l.set k x).getD j 0 = l.getD j 0 := by
 simp [List.getD_eq_getElem?_getD, List.getElem?_set_ne h]
/-- addition: the carry behind the words -/
theorem add_step {A B C c a b s : Nat} (k : Nat) (h : C + wp k * c = A + B) (hs : s = c + (a + b)) :
   (C + wp k * (s % 4294967296)) + wp (k + 1) * (s / 4294967296) = (A + wp k * a) + (B + wp k * b) := by
 have e : s % 4294967296 + 4294967296 * (s / 4294967296) = s := Nat.mod_add_div s _
 have e1 : wp (k + 1) * (s / 4294967296) = wp k * (4294967296 * (s / 4294967296)) := by rw [wp_succ, ← Nat.mul_assoc, Nat.mul_comm 4294967296]
 have e2 : wp k * (s % 4294967296) + wp k * (4294967296 * (s / 4294967296)) = wp k * s := by rw [← Nat.mul_add, e]
 have e3 : wp k * s = wp k * c + (wp k * a + wp k * b) := by rw [hs, Nat.mul_add, Nat.mul_add]
 omega
theorem add_carry {c a b : Nat} (hc : c ≤ 1) (ha : a < 4294967296) (hb : b < 4294967296) : (c + (a + b)) / 4294967296 ≤ 1 := by omega
theorem add_end {O A B c n : Nat} (h : O + wp (n + 1) * c = A + B) (hA : A < wp n) (hB : B < wp n) : O = A + B := by
 rcases Nat.eq_zero_or_pos c with h7 | h7
 · subst h7; omega
 · have h8 : wp (n + 1) * 1 ≤ wp (n + 1) * c := Nat.mul_le_mul_left _ h7
   have h6 := wp_succ n
   omega
/-- subtraction: the borrow behind the words; d is the difference modulo 2^64 -/
theorem sub_step {A B C r a b d : Nat} (k : Nat) (h : C + B = A + wp k * r) (hd : d + b + r = a ∨ d + b + r = a + 18446744073709551616) (hd64 : d < 18446744073709551616) (ha : a < 4294967296) (hb : b < 4294967296) (hr : r ≤ 1) :
   (C + wp k * (d % 4294967296)) + (B + wp k * b) = (A + wp k * a) + wp (k + 1) * (d / 9223372036854775808) ∧ d / 9223372036854775808 ≤ 1 := by
 have e1 : wp (k + 1) * (d / 9223372036854775808) = wp k * (4294967296 * (d / 9223372036854775808)) := by rw [wp_succ, ← Nat.mul_assoc, Nat.mul_comm 4294967296]
 rcases hd with hd | hd
 · have h1 : d / 9223372036854775808 = 0 := by omega
   have h2 : d % 4294967296 = d := by omega
   rw [h1, h2]
   have e3 : wp k * a = wp k * d + wp k * b + wp k * r := by rw [← hd, Nat.mul_add, Nat.mul_add]
   refine ⟨by omega, by omega⟩
 · have h1 : d / 9223372036854775808 = 1 := by omega
   have h2 : d % 4294967296 + b + r = a + 4294967296 := by omega
   rw [e1, h1]
   have e3 : wp k * (d % 4294967296) + wp k * b + wp k * r = wp k * a + wp k * 4294967296 := by rw [← Nat.mul_add, ← Nat.mul_add, h2, Nat.mul_add]
   refine ⟨by omega, by omega⟩
/-- the end of a subtraction without a borrow -/
theorem sub_end {A B C r n : Nat} (h : C + B = A + wp n * r) (hBA : B ≤ A) (hC : C < wp n) : C = A - B ∧ r = 0 := by
 have hr : r = 0 := by
   rcases Nat.eq_zero_or_pos r with h1 | h1
   · exact h1
   · have : wp n * 1 ≤ wp n * r := Nat.mul_le_mul_left _ h1
     omega
 subst hr
 omega
theorem sub_fin {l m o : List Nat} {r : Nat} (hl : W32 l) (ho : W32 o) (hol : o.length = l.length) (h : nv (o.take l.length) + nv (m.take l.length) = nv (l.take l.length) + wp l.length * r) (hle : nv m ≤ nv l) : nv o = nv l - nv m := by
 rw [nv_take_all (by omega), nv_take_all (Nat.le_refl _)] at h
 have h1 := nv_lt hl
 have h2 := nv_lt ho
 rw [hol] at h2
 have h3 : nv (m.take l.length) = nv m := by
   by_cases h4 : m.length ≤ l.length
   · exact nv_take_all h4
   · have h5 := nv_split m l.length (by omega)
     rcases Nat.eq_zero_or_pos (nv (m.drop l.length)) with h6 | h6
     · rw [h6, Nat.mul_zero] at h5; exact h5.symm
     · have : wp l.length * 1 ≤ wp l.length * nv (m.drop l.length) := Nat.mul_le_mul_left _ h6
       omega
 rw [h3] at h
 exact (sub_end h hle h2).1
/-- one product added in: O the row's number, i + k the place -/
theorem mul_step {O O' S X c x y o s : Nat} (i k : Nat) (h : O + wp (i + k) * c = S + wp i * (x * X)) (hs : s = c + (x * y + o)) (hset : O' + wp (i + k) * o = O + wp (i + k) * (s % 4294967296)) :
   O' + wp (i + (k + 1)) * (s / 4294967296) = S + wp i * (x * (X + wp k * y)) := by
 have e : s % 4294967296 + 4294967296 * (s / 4294967296) = s := Nat.mod_add_div s _
 have e1 : wp (i + (k + 1)) * (s / 4294967296) = wp (i + k) * (4294967296 * (s / 4294967296)) := by rw [← Nat.add_assoc, wp_succ, ← Nat.mul_assoc, Nat.mul_comm 4294967296]
 have e2 : wp (i + k) * (s % 4294967296) + wp (i + k) * (4294967296 * (s / 4294967296)) = wp (i + k) * s := by rw [← Nat.mul_add, e]
 have e3 : wp (i + k) * s = wp (i + k) * c + (wp (i + k) * (x * y) + wp (i + k) * o) := by rw [hs, Nat.mul_add, Nat.mul_add]
 have e4 : wp i * (x * (X + wp k * y)) = wp i * (x * X) + wp (i + k) * (x * y) := by
   rw [Nat.mul_add, Nat.mul_add, wp_add]
   congr 1
   simp only [Nat.mul_assoc, Nat.mul_left_comm, Nat.mul_comm]
 omega
theorem mul_bound {c x y o : Nat} (hc : c < 4294967296) (hx : x < 4294967296) (hy : y < 4294967296) (ho : o < 4294967296) : c + (x * y + o) < 18446744073709551616 ∧ (c + (x * y + o)) / 4294967296 < 4294967296 := by
 have : x * y ≤ 4294967295 * 4294967295 := Nat.mul_le_mul (by omega) (by omega)
 omega
/-- division by a word, from the top -/
theorem small_step {R Q b r x s : Nat} (h : R = b * Q + r) (hs : s = 4294967296 * r + x) :
   x + 4294967296 * R = b * (s / b + 4294967296 * Q) + s % b := by
 have e : b * (s / b) + s % b = s := Nat.div_add_mod s b
 rw [Nat.mul_add, h, Nat.mul_add]
 have e2 : b * (4294967296 * Q) = 4294967296 * (b * Q) := Nat.mul_left_comm _ _ _
 omega
theorem small_word {b r x : Nat} (hr : r < b) (_hb : b < 4294967296) (hx : x < 4294967296) : (4294967296 * r + x) / b < 4294967296 := by
 rw [Nat.div_lt_iff_lt_mul (by omega)]
 omega
theorem small_end {R Q b r : Nat} (h : R = b * Q + r) (hr : r < b) : Q = R / b ∧ r = R % b := by
 rw [h]
 constructor
 · rw [Nat.mul_add_div (by omega), Nat.div_eq_of_lt hr]; omega
 · rw [Nat.mul_add_mod, Nat.mod_eq_of_lt hr]
/-- the digits of a number -/
theorem digit_of {l : List Nat} (h : W32 l) (i : Nat) : l.getD i 0 = nv l / wp i % 4294967296 := by
 induction l generalizing i with
 | nil => simp [nv]
 | cons x l ih =>
   have hx := h.head
   cases i with
   | zero => simp [nv_cons, wp_zero]; omega
   | succ i =>
     have h1 := ih h.tail i
     simp only [List.getD_cons_succ]
     rw [h1, nv_cons, wp_succ, ← Nat.div_div_eq_div_mul, show (x + 4294967296 * nv l) / 4294967296 = nv l by omega]
theorem nv_of_digits {n : Nat} {l : List Nat} (h : ∀ i, i < l.length → l.getD i 0 = n / wp i % 4294967296) : nv l = n % wp l.length := by
 induction l generalizing n with
 | nil => simp [nv, wp_zero, Nat.mod_one]
 | cons x l ih =>
   have h0 := h 0 (by simp)
   simp [wp_zero] at h0
   have h1 := ih (n := n / 4294967296) fun i hi => by
     have := h (i + 1) (by simpa using hi)
     simp only [List.getD_cons_succ] at this
     rw [this, wp_succ, Nat.div_div_eq_div_mul]
   rw [nv_cons, h1, List.length_cons, wp_succ, h0, Nat.mod_mul]
theorem nv_digits {n : Nat} {l : List Nat} (h : ∀ i, i < l.length → l.getD i 0 = n / wp i % 4294967296) (hn : n < wp l.length) : nv l = n := by
 rw [nv_of_digits h, Nat.mod_eq_of_lt hn]
theorem div_wp_take {l : List Nat} (h : W32 l) (k : Nat) (hk : k ≤ l.length) : nv l / wp k = nv (l.drop k) := by
 have e := nv_split l k hk
 have h1 := nv_take_lt h k
 rw [e, Nat.add_comm, Nat.mul_add_div (wp_pos k), Nat.div_eq_of_lt h1]; omega
/-- a digit of a number that is shifted down -/
theorem down_digit (N n i : Nat) (hn : n ≤ 32) : (N / wp i % 4294967296 + 4294967296 * (N / wp (i + 1) % 4294967296)) / 2 ^ n % 4294967296 = N / 2 ^ n / wp i % 4294967296 := by
 have e1 : N / 2 ^ n / wp i = N / wp i / 2 ^ n := by rw [Nat.div_div_eq_div_mul, Nat.mul_comm, ← Nat.div_div_eq_div_mul]
 have e2 : N / wp (i + 1) = N / wp i / 4294967296 := by rw [wp_succ, Nat.mul_comm, ← Nat.div_div_eq_div_mul]
 rw [e1, e2]
 generalize N / wp i = M
 have hp : (4294967296 : Nat) = 2 ^ n * 2 ^ (32 - n) := by rw [← Nat.pow_add, show n + (32 - n) = 32 by omega]
 have e4 : M % 4294967296 + 4294967296 * (M / 4294967296 % 4294967296) = M % (4294967296 * 4294967296) := (Nat.mod_mul).symm
 rw [e4]
 have e5 : (4294967296 * 4294967296 : Nat) = 2 ^ n * (2 ^ (32 - n) * 4294967296) := by rw [← Nat.mul_assoc, ← hp]
 have e6 : M % (2 ^ n * (2 ^ (32 - n) * 4294967296)) / 2 ^ n = M / 2 ^ n % (2 ^ (32 - n) * 4294967296) := Nat.mod_mul_right_div_self _ _ _
 rw [e5, e6, Nat.mul_comm, Nat.mod_mul_right_mod]
/-- shifting up, word by word -/
theorem up_step {O A x o n : Nat} (k : Nat) (h : O + wp k * o = A * 2 ^ n) :
   (O + wp k * ((x * 2 ^ n) % 4294967296 + o)) + wp (k + 1) * (x * 2 ^ n / 4294967296) = (A + wp k * x) * 2 ^ n := by
 have e : (x * 2 ^ n) % 4294967296 + 4294967296 * (x * 2 ^ n / 4294967296) = x * 2 ^ n := Nat.mod_add_div _ _
 have e1 : wp (k + 1) * (x * 2 ^ n / 4294967296) = wp k * (4294967296 * (x * 2 ^ n / 4294967296)) := by rw [wp_succ, ← Nat.mul_assoc, Nat.mul_comm 4294967296]
 have e2 : wp k * ((x * 2 ^ n) % 4294967296) + wp k * (4294967296 * (x * 2 ^ n / 4294967296)) = wp k * (x * 2 ^ n) := by rw [← Nat.mul_add, e]
 have e3 : (A + wp k * x) * 2 ^ n = A * 2 ^ n + wp k * (x * 2 ^ n) := by rw [Nat.add_mul, Nat.mul_assoc]
 rw [Nat.mul_add]
 omega
theorem up_bound {x n : Nat} (hx : x < 4294967296) (hn : n < 32) : x * 2 ^ n < 9223372036854775808 ∧ x * 2 ^ n / 4294967296 < 2 ^ n ∧ (x * 2 ^ n) % 2 ^ n = 0 := by
 have hp : 2 ^ n ≤ 2 ^ 31 := Nat.pow_le_pow_right (by omega) (by omega)
 have h0 : 0 < 2 ^ n := Nat.two_pow_pos n
 refine ⟨?_, ?_, Nat.mul_mod_left _ _⟩
 · have : x * 2 ^ n ≤ 4294967295 * 2 ^ 31 := Nat.mul_le_mul (by omega) hp
   omega
 · rw [Nat.div_lt_iff_lt_mul (by omega), Nat.mul_comm]
   exact Nat.mul_lt_mul_of_pos_left hx h0
/-- low bits beside high ones -/
theorem or_add {a b n : Nat} (ha : a % 2 ^ n = 0) (hb : b < 2 ^ n) : a ||| b = a + b := by
 have e : a = 2 ^ n * (a / 2 ^ n) := by
   have := Nat.div_add_mod a (2 ^ n); omega
 rw [e]
 exact (Nat.two_pow_add_eq_or_of_lt hb _).symm
theorem mod_pow_mod {x n : Nat} (hn : n ≤ 32) (h : x % 2 ^ n = 0) : x % 4294967296 % 2 ^ n = 0 := by
 have hp : (4294967296 : Nat) = 2 ^ n * 2 ^ (32 - n) := by rw [← Nat.pow_add, show n + (32 - n) = 32 by omega]
 rw [hp, Nat.mod_mul_right_mod, h]

/-- a word shifted up into a row: the low part beside what the word before left, the high part ahead -/
theorem left_words {o : List Nat} {k x z n A : Nat} (hk : k + 1 < o.length) (hO : nv o = A * 2 ^ n) (hz : o.getD k 0 = z) (hz1 : o.getD (k + 1) 0 = 0) :
   nv ((o.set k ((x * 2 ^ n) % 4294967296 + z)).set (k + 1) (x * 2 ^ n / 4294967296)) = (A + wp k * x) * 2 ^ n := by
 have k0 : k < o.length := by omega
 have h1 := nv_set k0 ((x * 2 ^ n) % 4294967296 + z)
 have h2 := nv_set (l := o.set k ((x * 2 ^ n) % 4294967296 + z)) (k := k + 1) (by simpa using hk) (x * 2 ^ n / 4294967296)
 have h3 := nv_set k0 0
 have e1 : (o.set k ((x * 2 ^ n) % 4294967296 + z))[k + 1]'(by simpa using hk) = 0 := by
   rw [← getD_of_lt (by simpa using hk), getD_set_ne (by omega), hz1]
 rw [e1] at h2
 rw [← getD_of_lt k0, hz] at h1 h3
 have h4 := up_step (O := nv (o.set k 0)) (A := A) (x := x) (o := z) (n := n) k (by omega)
 rw [Nat.mul_zero, Nat.add_zero] at h2
 rw [h2, ← h4]
 omega

/-! ## a window of a row -/
/-- m words from place j on -/
def win (u : List Nat) (j m : Nat) : List Nat := (u.drop j).take m
theorem win_length {u : List Nat} {j m : Nat} (h : j + m ≤ u.length) : (win u j m).length = m := by
 unfold win; rw [List.length_take, List.length_drop]; omega
theorem win_W32 {u : List Nat} (h : W32 u) (j m : Nat) : W32 (win u j m) := (h.drop j).take m
theorem win_zero (u : List Nat) (j : Nat) : nv (win u j 0) = 0 := by simp [win, nv]
theorem win_succ (u : List Nat) (j k : Nat) : nv (win u j (k + 1)) = nv (win u j k) + wp k * u.getD (j + k) 0 := by
 unfold win
 rw [nv_take_getD]
 congr 2
 simp [List.getD_eq_getElem?_getD]
theorem win_congr {u u' : List Nat} {j k : Nat} (h : ∀ i, j ≤ i → i < j + k → u'.getD i 0 = u.getD i 0) : nv (win u' j k) = nv (win u j k) := by
 induction k with
 | zero => rw [win_zero, win_zero]
 | succ k ih => rw [win_succ, win_succ, ih fun i h1 h2 => h i h1 (by omega), h (j + k) (by omega) (by omega)]
theorem win_lt {u : List Nat} (h : W32 u) (j k : Nat) : nv (win u j k) < wp k := nv_take_lt (h.drop j) k
theorem drop_win (u : List Nat) (j k : Nat) : nv (u.drop j) = nv (win u j k) + wp k * nv (u.drop (j + k)) := by
 have h := nv_append (win u j k) (u.drop (j + k))
 have e : win u j k ++ u.drop (j + k) = u.drop j := by
   unfold win
   have := List.take_append_drop k (u.drop j)
   rwa [List.drop_drop] at this
 rw [e] at h
 by_cases h1 : j + k ≤ u.length
 · rwa [win_length h1] at h
 · have h2 : u.drop (j + k) = [] := List.drop_eq_nil_of_le (by omega)
   rw [h2] at h ⊢
   rw [h]; simp [nv]
/-- n times a number, word by word -/
theorem prod_step {P X n y c s : Nat} (k : Nat) (h : P + wp k * c = n * X) (hs : s = c + n * y) : (P + wp k * (s % 4294967296)) + wp (k + 1) * (s / 4294967296) = n * (X + wp k * y) := by
 have e : s % 4294967296 + 4294967296 * (s / 4294967296) = s := Nat.mod_add_div s _
 have e1 : wp (k + 1) * (s / 4294967296) = wp k * (4294967296 * (s / 4294967296)) := by rw [wp_succ, ← Nat.mul_assoc, Nat.mul_comm 4294967296]
 have e2 : wp k * (s % 4294967296) + wp k * (4294967296 * (s / 4294967296)) = wp k * s := by rw [← Nat.mul_add, e]
 have e3 : wp k * s = wp k * c + wp k * (n * y) := by rw [hs, Nat.mul_add]
 have e4 : n * (X + wp k * y) = n * X + wp k * (n * y) := by rw [Nat.mul_add, Nat.mul_left_comm]
 omega
theorem prod_bound {c n y : Nat} (hc : c < 4294967296) (hn : n < 4294967296) (hy : y < 4294967296) : c + n * y < 18446744073709551616 ∧ (c + n * y) / 4294967296 < 4294967296 := by
 have : n * y ≤ 4294967295 * 4294967295 := Nat.mul_le_mul (by omega) (by omega)
 omega
theorem prod_end {P X n c m : Nat} (h : P + wp (m + 1) * c = n * X) (hn : n < 4294967296) (hX : X < wp m) : P = n * X := by
 have h1 : n * X < wp (m + 1) := by
   rw [wp_succ]
   rcases Nat.eq_zero_or_pos X with h0 | h0
   · subst h0; have := wp_pos m; omega
   · exact Nat.lt_of_lt_of_le (Nat.mul_lt_mul_of_pos_right hn h0) (Nat.mul_le_mul_left _ (by omega))
 rcases Nat.eq_zero_or_pos c with h2 | h2
 · subst h2; omega
 · have : wp (m + 1) * 1 ≤ wp (m + 1) * c := Nat.mul_le_mul_left _ h2
   omega

/-! ## long division: the estimate of a word of the quotient -/
/-- the true word is at most an estimate that is taken from the leading words -/
theorem est_ge {cur V P : Nat} (hP : 0 < P) (hV : 0 < V / P) : cur / V ≤ cur / P / (V / P) := by
 have hV0 : 0 < V := by
   rcases Nat.eq_zero_or_pos V with h | h
   · subst h; simp at hV
   · exact h
 rw [Nat.le_div_iff_mul_le hV, Nat.le_div_iff_mul_le hP]
 calc cur / V * (V / P) * P = cur / V * (V / P * P) := Nat.mul_assoc _ _ _
   _ ≤ cur / V * V := Nat.mul_le_mul_left _ (Nat.div_mul_le_self _ _)
   _ ≤ cur := Nat.div_mul_le_self _ _
/-- an estimate g with more than the leading words allow is above the true word -/
theorem est_gt {cur V P g : Nat} (hP : 0 < P) (h : cur / P < g * (V / P)) : cur / V < g := by
 rcases Nat.lt_or_ge (cur / V) g with h1 | h1
 · exact h1
 · exfalso
   have h2 : g * V ≤ cur := Nat.le_trans (Nat.mul_le_mul_right _ h1) (Nat.div_mul_le_self _ _)
   have h3 : g * (V / P) ≤ cur / P := by
     rw [Nat.le_div_iff_mul_le hP, Nat.mul_assoc]
     exact Nat.le_trans (Nat.mul_le_mul_left _ (Nat.div_mul_le_self _ _)) h2
   omega
/-- an estimate that the two leading words allow is at most one too great -/
theorem est_le {cur V P g : Nat} (hP : 0 < P) (hV : 0 < V) (hg : g ≤ 4294967296) (ht : 4294967296 ≤ V / P) (h : g * (V / P) ≤ cur / P) : g ≤ cur / V + 1 := by
 rcases Nat.lt_or_ge (cur / V + 1) g with h1 | h1
 · exfalso
   have h2 : cur < (cur / V + 1) * V := by
     have := Nat.lt_div_mul_add (a := cur) hV
     rw [Nat.succ_mul]; omega
   have h3 : (cur / V + 1) * V ≤ (g - 1) * V := Nat.mul_le_mul_right _ (by omega)
   have h4 : V < (V / P + 1) * P := by
     have := Nat.lt_div_mul_add (a := V) hP
     rw [Nat.succ_mul]; omega
   have h5 : (g - 1) * V ≤ (g - 1) * ((V / P + 1) * P) := Nat.mul_le_mul_left _ (by omega)
   have h6 : g * (V / P) * P ≤ cur := Nat.le_trans (Nat.mul_le_mul_right _ h) (Nat.div_mul_le_self _ _)
   have h7 : g * (V / P) * P < (g - 1) * (V / P + 1) * P := by rw [Nat.mul_assoc (g - 1)]; exact Nat.lt_of_le_of_lt h6 (Nat.lt_of_lt_of_le h2 (Nat.le_trans h3 h5))
   have h8 : g * (V / P) < (g - 1) * (V / P + 1) := Nat.lt_of_mul_lt_mul_right h7
   obtain ⟨m, rfl⟩ : ∃ m, g = m + 1 := ⟨g - 1, by have := Nat.lt_of_le_of_lt (Nat.zero_le _) h1; omega⟩
   rw [Nat.add_sub_cancel, Nat.succ_mul, Nat.mul_add, Nat.mul_one] at h8
   omega
 · exact h1
end Go.Proofs.YtoiopnmphbnjaaaGreatDoor
namespace Go.Proofs.YtoiopnmphbnjaaaGreatDoor
set_option linter.unusedVariables false
set_option linter.unusedSimpArgs false

/-! ## long division (plain) -/
/-- what the walk has of a divisor that is shifted so that its highest bit is 1 -/
structure Shf (a b n m L : Nat) : Prop where
 m2 : 2 ≤ m
 mL : m ≤ L
 n32 : n < 32
 lt : b * 2 ^ n < wp m
 ge : 2147483648 * wp (m - 1) ≤ b * 2 ^ n
 pos : 0 < b * 2 ^ n
 aL : a < wp L
 top : a * 2 ^ n < (b * 2 ^ n) * wp (L + 1 - m)
theorem pow_split {n k : Nat} (h : n + k = 32) : 2 ^ n * 2 ^ k = 4294967296 := by rw [← Nat.pow_add, h]
theorem shf_mk {a b t n : Nat} (hab : b ≤ a) (hm : 2 ≤ (dig b).length) (ht : (dig b).getD ((dig b).length - 1) 0 = t) (ht0 : t ≠ 0) (hn : n = 32 - bl t) (hb0 : 0 < bl t) (hb1 : 2 ^ (bl t - 1) ≤ t) (hb2 : t < 2 ^ bl t) (hb32 : bl t ≤ 32) :
   Shf a b n (dig b).length (dig a).length := by
 obtain ⟨m, hmE⟩ : ∃ m, m = (dig b).length := ⟨_, rfl⟩
 obtain ⟨L, hLE⟩ : ∃ L, L = (dig a).length := ⟨_, rfl⟩
 rw [← hmE] at hm ht ⊢
 rw [← hLE]
 have hmL : m ≤ L := by rw [hmE, hLE]; exact dig_len_mono hab
 have haL : a < wp L := by rw [hLE]; exact dig_lt a
 have hbs : b = nv ((dig b).take (m - 1)) + wp (m - 1) * t := by
   have h1 := nv_split (dig b) (m - 1) (by omega)
   rw [nv_dig] at h1
   have h2 : nv ((dig b).drop (m - 1)) = t := by
     rw [List.drop_eq_getElem_cons (by omega), List.drop_eq_nil_of_le (by omega), nv_one, ← getD_of_lt (by omega)]; exact ht
   rw [h2] at h1; exact h1
 have hlow := nv_take_lt (dig_W32 b) (m - 1)
 have hwm : wp m = 4294967296 * wp (m - 1) := by rw [← wp_succ]; congr 1; omega
 have hp := Nat.two_pow_pos n
 have hbpos : 0 < b := by have := wp_pos (m - 1); have := Nat.mul_le_mul_left (wp (m - 1)) (show 1 ≤ t by omega); omega
 have hsp : 2 ^ n * 2 ^ bl t = 4294967296 := pow_split (by omega)
 have hsp1 : 2 ^ n * 2 ^ (bl t - 1) = 2147483648 := by
   have : 2 ^ n * 2 ^ (bl t - 1) * 2 = 4294967296 := by
     rw [Nat.mul_assoc, ← Nat.pow_succ, show (bl t - 1).succ = bl t by omega]; exact hsp
   omega
 refine ⟨hm, hmL, by omega, ?_, ?_, Nat.mul_pos hbpos hp, haL, ?_⟩
 · have h1 : b < wp (m - 1) * 2 ^ bl t := by
     have := Nat.mul_le_mul_left (wp (m - 1)) (show t + 1 ≤ 2 ^ bl t from hb2)
     rw [Nat.mul_add] at this
     omega
   have h2 := Nat.mul_lt_mul_of_pos_right h1 hp
   rw [Nat.mul_assoc, Nat.mul_comm (2 ^ bl t), hsp] at h2
   rw [hwm, Nat.mul_comm 4294967296]; exact h2
 · have h1 : wp (m - 1) * 2 ^ (bl t - 1) ≤ b := by
     have := Nat.mul_le_mul_left (wp (m - 1)) hb1
     omega
   have h2 := Nat.mul_le_mul_right (2 ^ n) h1
   rw [Nat.mul_assoc, Nat.mul_comm (2 ^ (bl t - 1)), hsp1] at h2
   rw [Nat.mul_comm 2147483648]; exact h2
 · have h1 : wp (m - 1) ≤ b := by
     have := Nat.mul_le_mul_left (wp (m - 1)) (show 1 ≤ t by omega)
     omega
   have h2 : wp L = wp (m - 1) * wp (L + 1 - m) := by rw [← wp_add]; congr 1; omega
   have h3 : wp L ≤ b * wp (L + 1 - m) := by rw [h2]; exact Nat.mul_le_mul_right _ h1
   have h4 : a * 2 ^ n < (b * wp (L + 1 - m)) * 2 ^ n := Nat.mul_lt_mul_of_pos_right (by omega) hp
   rw [Nat.mul_assoc, Nat.mul_comm (wp (L + 1 - m))] at h4
   rw [Nat.mul_assoc]; exact h4
/-- the leading words of a list -/
theorem lead1 {l : List Nat} (hW : W32 l) {k : Nat} (h : l.length = k + 1) : nv l / wp k = l.getD k 0 := by
 rw [div_wp_take hW k (by omega), List.drop_eq_getElem_cons (by omega), List.drop_eq_nil_of_le (by omega), nv_one, getD_of_lt (by omega)]
theorem lead2 {l : List Nat} (hW : W32 l) {k : Nat} (h : l.length = k + 2) : nv l / wp k = 4294967296 * l.getD (k + 1) 0 + l.getD k 0 := by
 rw [div_wp_take hW k (by omega), List.drop_eq_getElem_cons (by omega), List.drop_eq_getElem_cons (by omega), List.drop_eq_nil_of_le (by omega), nv_cons, nv_one, getD_of_lt (by omega), getD_of_lt (by omega)]
 omega
theorem lead3 {l : List Nat} (hW : W32 l) {k : Nat} (h : l.length = k + 3) : nv l / wp k = 4294967296 * (4294967296 * l.getD (k + 2) 0 + l.getD (k + 1) 0) + l.getD k 0 := by
 have e : l.getD (k + 2) 0 = l.getD (k + 1 + 1) 0 := rfl
 rw [e, div_wp_take hW k (by omega), List.drop_eq_getElem_cons (by omega), List.drop_eq_getElem_cons (by omega), List.drop_eq_getElem_cons (by omega), List.drop_eq_nil_of_le (by omega), nv_cons, nv_cons, nv_one, getD_of_lt (by omega), getD_of_lt (by omega), getD_of_lt (by omega)]
 omega
theorem win_getD {u : List Nat} {k m i : Nat} (hi : i < m) : (win u k m).getD i 0 = u.getD (k + i) 0 := by
 unfold win
 simp [List.getD_eq_getElem?_getD, List.getElem?_take, hi]
theorem take_low {v : List Nat} {M V : Nat} (hl : v.length = M + 1) (hv : nv v = V) (hV : V < wp M) : nv (v.take M) = V := by
 have h := nv_split v M (by omega)
 rcases Nat.eq_zero_or_pos (nv (v.drop M)) with h0 | h0
 · rw [h0, Nat.mul_zero, Nat.add_zero] at h; omega
 · have : wp M * 1 ≤ wp M * nv (v.drop M) := Nat.mul_le_mul_left _ h0
   omega
theorem top_words {v : List Nat} {M V : Nat} (hW : W32 v) (hl : v.length = M) (hM : 2 ≤ M) (hv : nv v = V) (hge : 2147483648 * wp (M - 1) ≤ V) :
   V / wp (M - 1) = v.getD (M - 1) 0 ∧ V / wp (M - 2) = 4294967296 * v.getD (M - 1) 0 + v.getD (M - 2) 0 ∧ 2147483648 ≤ v.getD (M - 1) 0 := by
 obtain ⟨k, rfl⟩ : ∃ k, M = k + 2 := ⟨M - 2, by omega⟩
 have h1 := lead1 hW (k := k + 1) hl
 have h2 := lead2 hW (k := k) hl
 rw [hv] at h1 h2
 refine ⟨h1, h2, ?_⟩
 rw [← show k + 2 - 1 = k + 1 from rfl] at h1
 rw [← h1, Nat.le_div_iff_mul_le (wp_pos _)]
 exact hge
theorem cur_words {u : List Nat} {k m : Nat} (hW : W32 u) (hk : k + (m + 1) ≤ u.length) (hm : 2 ≤ m) :
   nv (win u k (m + 1)) / wp (m - 1) = 4294967296 * u.getD (k + m) 0 + u.getD (k + m - 1) 0 ∧ nv (win u k (m + 1)) / wp (m - 2) = 4294967296 * (4294967296 * u.getD (k + m) 0 + u.getD (k + m - 1) 0) + u.getD (k + m - 2) 0 := by
 obtain ⟨j, rfl⟩ : ∃ j, m = j + 2 := ⟨m - 2, by omega⟩
 have hl : (win u k (j + 2 + 1)).length = j + 3 := win_length (by omega)
 have h2 := lead2 (win_W32 hW k (j + 2 + 1)) (k := j + 1) hl
 have h3 := lead3 (win_W32 hW k (j + 2 + 1)) (k := j) hl
 rw [win_getD (by omega), win_getD (by omega)] at h2
 rw [win_getD (by omega), win_getD (by omega), win_getD (by omega)] at h3
 exact ⟨h2, h3⟩
/-- the estimate of one word: G the estimate at hand, Q the true word -/
structure Est (cur V T nx H x2 Q G R : Nat) : Prop where
 sum : H = G * T + R
 ge : Q ≤ G
 le : G ≤ 4294967297
 r : G = 4294967297 → R + T < 4294967296
theorem est_start {cur V m T nx H x2 : Nat} (hV : 0 < V / wp (m - 1)) (hT : V / wp (m - 1) = T) (hT31 : 2147483648 ≤ T) (hT32 : T < 4294967296) (hH : cur / wp (m - 1) = H) (hcur : cur < 4294967296 * V) :
   Est cur V T nx H x2 (cur / V) (H / T) (H % T) := by
 have hT0 : 0 < T := by omega
 have hVlt : V < (T + 1) * wp (m - 1) := by
   have := Nat.lt_div_mul_add (a := V) (wp_pos (m - 1))
   rw [hT] at this
   rw [Nat.succ_mul]; omega
 have hHlt : H < 4294967296 * (T + 1) := by
   rw [← hH, Nat.div_lt_iff_lt_mul (wp_pos _), Nat.mul_assoc]
   have := Nat.mul_lt_mul_of_pos_left hVlt (show 0 < 4294967296 by omega)
   omega
 refine ⟨by rw [Nat.mul_comm]; exact (Nat.div_add_mod H T).symm, by rw [← hH, ← hT]; exact est_ge (wp_pos _) hV, ?_, ?_⟩
 · have : H / T < 4294967298 := by
     rw [Nat.div_lt_iff_lt_mul hT0]; omega
   omega
 · intro h
   have := Nat.div_add_mod H T
   rw [h] at this
   omega
theorem est_down {cur V T nx H x2 Q G R : Nat} {P : Nat} (h : Est cur V T nx H x2 Q G R) (hT31 : 2147483648 ≤ T) (hQ : Q = cur / V) (hcur : Q < 4294967296) (hP : 0 < P) (hV2 : V / P = 4294967296 * T + nx) (hC2 : cur / P = 4294967296 * H + x2) (ht : 4294967296 ≤ G ∨ 4294967296 * R + x2 < G * nx) :
   Q ≤ G - 1 ∧ 1 ≤ G ∧ H = (G - 1) * T + (R + T) := by
 have hlt : Q < G := by
   rcases ht with ht | ht
   · omega
   · rw [hQ]
     refine est_gt hP ?_
     rw [hV2, hC2, h.sum]
     have e : G * (4294967296 * T + nx) = 4294967296 * (G * T) + G * nx := by rw [Nat.mul_add, Nat.mul_left_comm]
     rw [e, Nat.mul_add]; omega
 obtain ⟨g, rfl⟩ : ∃ g, G = g + 1 := ⟨G - 1, by omega⟩
 refine ⟨by omega, by omega, ?_⟩
 rw [h.sum, Nat.add_sub_cancel, Nat.succ_mul]; omega
theorem est_done {cur V T nx H x2 Q G R : Nat} {P : Nat} (hs : H = G * T + R) (hT31 : 2147483648 ≤ T) (hQ : Q = cur / V) (hP : 0 < P) (hV0 : 0 < V) (hV2 : V / P = 4294967296 * T + nx) (hC2 : cur / P = 4294967296 * H + x2) (hG : G < 4294967296) (ht : G * nx ≤ 4294967296 * R + x2) :
   G ≤ Q + 1 := by
 rw [hQ]
 refine est_le hP hV0 (by omega) (by rw [hV2]; omega) ?_
 rw [hV2, hC2, hs]
 have e : G * (4294967296 * T + nx) = 4294967296 * (G * T) + G * nx := by rw [Nat.mul_add, Nat.mul_left_comm]
 rw [e, Nat.mul_add]; omega
/-- one word of the quotient has been found -/
theorem div_round {u u2 q : List Nat} {k m V N0 Q : Nat} (hlu2 : u2.length = u.length) (hk : k + (m + 1) ≤ u.length) (hV : V < wp m) (hV0 : 0 < V) (hlt : nv (u.drop (k + 1)) < V) (hN : N0 = V * (wp (k + 1) * nv (q.drop (k + 1))) + nv u)
   (hsame : ∀ i, (i < k ∨ k + (m + 1) ≤ i) → u2.getD i 0 = u.getD i 0) (hQ : Q = nv (win u k (m + 1)) / V) (hw : nv (win u2 k (m + 1)) = nv (win u k (m + 1)) % V) (hkq : k < q.length) :
   nv (u2.drop k) < V ∧ N0 = V * (wp k * nv ((q.set k Q).drop k)) + nv u2 := by
 have hz : nv (u.drop (k + (m + 1))) = 0 := by
   have h1 := drop_win u (k + 1) m
   rw [show k + 1 + m = k + (m + 1) by omega] at h1
   rcases Nat.eq_zero_or_pos (nv (u.drop (k + (m + 1)))) with h2 | h2
   · exact h2
   · have : wp m * 1 ≤ wp m * nv (u.drop (k + (m + 1))) := Nat.mul_le_mul_left _ h2
     omega
 have hd : u2.drop (k + (m + 1)) = u.drop (k + (m + 1)) := nv_eq_of (by simp [hlu2]) fun i => by
   have := hsame (k + (m + 1) + i) (.inr (by omega))
   simpa [List.getD_eq_getElem?_getD] using this
 have ht : u2.take k = u.take k := nv_eq_of (by simp [hlu2]) fun i => by
   by_cases hi : i < k
   · have := hsame i (.inl hi)
     simpa [List.getD_eq_getElem?_getD, List.getElem?_take, hi] using this
   · simp [List.getD_eq_getElem?_getD, List.getElem?_take, hi]
 have hu := drop_win u k (m + 1)
 have hu2 := drop_win u2 k (m + 1)
 rw [hz, Nat.mul_zero, Nat.add_zero] at hu
 rw [hd, hz, Nat.mul_zero, Nat.add_zero, hw] at hu2
 have e1 := nv_split u k (by omega)
 have e2 := nv_split u2 k (by omega)
 rw [ht, hu2] at e2
 rw [hu] at e1
 have hdm := Nat.div_add_mod (nv (win u k (m + 1))) V
 rw [← hQ] at hdm
 refine ⟨by rw [hu2]; exact Nat.mod_lt _ hV0, ?_⟩
 have hqd : nv ((q.set k Q).drop k) = Q + 4294967296 * nv (q.drop (k + 1)) := by
   rw [List.drop_eq_getElem_cons (by simpa using hkq), nv_cons]
   simp [List.drop_set]
 rw [hN, e1, e2, hqd]
 generalize nv (win u k (m + 1)) = cur at *
 generalize cur % V = r at *
 generalize nv (u.take k) = lo at *
 generalize nv (q.drop (k + 1)) = qh at *
 rw [← hdm, wp_succ]
 have f1 : V * (wp k * (Q + 4294967296 * qh)) = V * (wp k * Q) + V * (wp k * (4294967296 * qh)) := by rw [Nat.mul_add, Nat.mul_add]
 have f2 : V * (4294967296 * wp k * qh) = V * (wp k * (4294967296 * qh)) := by congr 1; rw [Nat.mul_assoc, Nat.mul_left_comm]
 have f3 : wp k * (V * Q + r) = V * (wp k * Q) + wp k * r := by rw [Nat.mul_add, Nat.mul_left_comm]
 rw [f1, f2, f3]
 omega
/-- what is before one word: the number at hand, and its bound -/
theorem div_cur {u : List Nat} {k m V : Nat} (hW : W32 u) (hk : k + (m + 1) ≤ u.length) (hV : V < wp m) (hlt : nv (u.drop (k + 1)) < V) : nv (win u k (m + 1)) < 4294967296 * V := by
 have hu := drop_win u k (m + 1)
 have h0 : nv (u.drop k) = u[k] + 4294967296 * nv (u.drop (k + 1)) := by
   rw [List.drop_eq_getElem_cons (by omega), nv_cons]
 have h1 := hW.at_ (show k < u.length by omega)
 omega
/-- taken away as often as the true word says, or once too often -/
theorem take_exact {cur V G w r M : Nat} (h : w + G * V = cur + wp M * r) (hr : r ≤ 1) (hw : w < wp M) (hG : G = cur / V) (hcur : cur < wp M) : r = 0 ∧ w = cur % V := by
 have hdm := Nat.div_add_mod cur V
 rw [← hG, Nat.mul_comm] at hdm
 have : r = 0 ∨ r = 1 := by omega
 rcases this with e | e
 · subst e; rw [Nat.mul_zero] at h; exact ⟨rfl, by omega⟩
 · subst e; rw [Nat.mul_one] at h; exfalso; omega
theorem take_over {cur V G w r M : Nat} (h : w + G * V = cur + wp M * r) (hr : r ≤ 1) (hG : G = cur / V + 1) (hV0 : 0 < V) : r = 1 := by
 have h1 := Nat.lt_div_mul_add (a := cur) hV0
 rw [hG, Nat.succ_mul] at h
 have : r = 0 ∨ r = 1 := by omega
 rcases this with e | e
 · subst e; rw [Nat.mul_zero] at h; exfalso; omega
 · exact e
theorem give_back {cur V G w w2 c M : Nat} (h : w + G * V = cur + wp M * 1) (hG : G = cur / V + 1) (h2 : w2 + wp M * c = w + V) (hc : c ≤ 1) (hw2 : w2 < wp M) (hV : V ≤ wp M) (hV0 : 0 < V) : w2 = cur % V := by
 have hdm := Nat.div_add_mod cur V
 have hm := Nat.mod_lt cur hV0
 rw [Nat.mul_comm] at hdm
 rw [hG, Nat.succ_mul] at h
 have : c = 0 ∨ c = 1 := by omega
 rcases this with e | e
 · subst e; rw [Nat.mul_zero] at h2; exfalso; omega
 · subst e; omega
theorem div_start {u : List Nat} {a b n m L : Nat} (hs : Shf a b n m L) (hW : W32 u) (hl : u.length = L + 1) (hu : nv u = a * 2 ^ n) : nv (u.drop (L + 1 - m)) < b * 2 ^ n := by
 have := hs.mL
 rw [← div_wp_take hW _ (by omega), hu, Nat.div_lt_iff_lt_mul (wp_pos _)]
 exact hs.top
theorem div_finish {u q : List Nat} {a b n : Nat} (hp : 0 < b * 2 ^ n) (hlt : nv u < b * 2 ^ n) (hN : a * 2 ^ n = (b * 2 ^ n) * nv q + nv u) : nv q = a / b ∧ nv u / 2 ^ n = a % b := by
 have hn := Nat.two_pow_pos n
 have h1 : nv q = a * 2 ^ n / (b * 2 ^ n) := by rw [hN, Nat.mul_add_div hp, Nat.div_eq_of_lt hlt]; omega
 have h2 : nv u = a * 2 ^ n % (b * 2 ^ n) := by rw [hN, Nat.mul_add_mod, Nat.mod_eq_of_lt hlt]
 rw [Nat.mul_div_mul_right _ _ hn] at h1
 rw [Nat.mul_mod_mul_right] at h2
 exact ⟨h1, by rw [h2, Nat.mul_div_cancel _ hn]⟩
end Go.Proofs.YtoiopnmphbnjaaaGreatDoor
namespace Go.Proofs.YtoiopnmphbnjaaaGreatDoor
set_option linter.unusedVariables false
set_option linter.unusedSimpArgs false

/-! ## fractions as the program has them (plain): sign, words of the numerator, words of the denominator -/
abbrev Rw := Bool × List Nat × List Nat
def okR (r : Rw) : Prop := W32 r.2.1 ∧ W32 r.2.2
/-- not empty, no zero at the end -/
def plainB (l : List Nat) : Bool := !l.isEmpty && l.getLast? != some 0
def validR (r : Rw) : Bool := if r.2.1.isEmpty && r.2.2.isEmpty then !r.1 else plainB r.2.1 && plainB r.2.2 && (nv r.2.1).gcd (nv r.2.2) == 1
/-- a sign, a numerator and a denominator -/
def sq (s : Bool) (n d : Nat) : Rat := if s then -mkRat n d else mkRat n d
/-- the number as which a fraction counts -/
def valR (r : Rw) : Rat := if validR r then sq r.1 (nv r.2.1) (nv r.2.2) else 0
/-- the valid form of a number -/
def canR (q : Rat) : Rw := if q = 0 then (false, [], []) else (decide (q < 0), dig q.num.natAbs, dig q.den)
theorem plainB_can {l : List Nat} (h : W32 l) : plainB l = true ↔ Can l ∧ l ≠ [] := by
 unfold plainB
 cases e : l.getLast? with
 | none => have := List.getLast?_eq_none_iff.1 e; subst this; simp
 | some x =>
   have hne : l ≠ [] := by rintro rfl; simp at e
   have hem : l.isEmpty = false := by simpa using hne
   simp only [hem, Can, e]
   constructor
   · intro h1
     have h2 : x ≠ 0 := by rintro rfl; simp at h1
     exact ⟨⟨h, fun y hy => by injection hy with hy; rw [← hy]; exact h2⟩, hne⟩
   · rintro ⟨⟨_, h1⟩, _⟩
     have := h1 x rfl
     simpa using this
theorem plainB_dig {n : Nat} (h : n ≠ 0) : plainB (dig n) = true := (plainB_can (dig_W32 n)).2 ⟨dig_can n, by rw [ne_eq, dig_nil_iff]; exact h⟩
theorem can_pos {l : List Nat} (h : Can l) (hne : l ≠ []) : nv l ≠ 0 := by
 have := nv_pos_of_last hne h.2
 have := wp_pos (l.length - 1)
 omega
theorem sq_zero (s : Bool) (d : Nat) : sq s 0 d = 0 := by cases s <;> simp [sq]
theorem mkRat_parts {n d : Nat} (hn : n ≠ 0) (hd : d ≠ 0) : (mkRat n d).num = ((n / n.gcd d : Nat) : Int) ∧ (mkRat n d).den = d / n.gcd d := by
 rw [Rat.num_mkRat, Rat.den_mkRat, if_neg hd, if_neg hd, Int.natAbs_natCast, Nat.gcd_comm d n]
 exact ⟨by simp, rfl⟩
theorem gcd_div_pos {n d : Nat} (hn : n ≠ 0) : n / n.gcd d ≠ 0 := by
 have h := Nat.gcd_dvd_left n d
 have h1 : 0 < n.gcd d := Nat.gcd_pos_of_pos_left d (by omega)
 have h2 := Nat.le_of_dvd (by omega) h
 have := Nat.div_pos h2 h1
 omega
theorem sq_ne {s : Bool} {n d : Nat} (hn : n ≠ 0) (hd : d ≠ 0) : sq s n d ≠ 0 := by
 have h : mkRat n d ≠ 0 := by rw [Rat.mkRat_ne_zero hd]; exact_mod_cast hn
 unfold sq
 split
 · intro h1; exact h (by rw [← Rat.neg_neg (mkRat n d), h1]; rfl)
 · exact h
theorem mkRat_pos {n d : Nat} (hn : n ≠ 0) (hd : d ≠ 0) : 0 < mkRat n d := by
 have h := mkRat_parts hn hd
 have h1 := gcd_div_pos (d := d) hn
 have h2 : 0 ≤ mkRat n d := by rw [← Rat.num_nonneg, h.1]; exact Int.natCast_nonneg _
 have h3 : mkRat n d ≠ 0 := sq_ne (s := false) hn hd
 exact Rat.lt_of_le_of_ne h2 (Ne.symm h3)
theorem sq_neg {s : Bool} {n d : Nat} (hn : n ≠ 0) (hd : d ≠ 0) : decide (sq s n d < 0) = s := by
 have h := mkRat_pos hn hd
 cases s
 · simp only [sq]
   simp only [Bool.false_eq_true, if_false, decide_eq_false_iff_not, Rat.not_lt]
   exact Rat.le_of_lt h
 · simp only [sq, if_true, decide_eq_true_eq]
   rw [Rat.neg_lt_iff]; simpa using h
/-- the valid form of num / den -/
theorem canR_sq (s : Bool) {n d : Nat} (hn : n ≠ 0) (hd : d ≠ 0) : canR (sq s n d) = (s, dig (n / n.gcd d), dig (d / n.gcd d)) := by
 obtain ⟨h1, h2⟩ := mkRat_parts hn hd
 unfold canR
 rw [if_neg (sq_ne hn hd), sq_neg hn hd]
 cases s
 · simp only [sq, Bool.false_eq_true, if_false, h1, h2, Int.natAbs_natCast]
 · simp only [sq, if_true, Rat.neg_num, Rat.neg_den, h1, h2, Int.natAbs_neg, Int.natAbs_natCast]
theorem canR_zero : canR 0 = (false, [], []) := by simp [canR]
theorem sq_self (q : Rat) : sq (decide (q < 0)) q.num.natAbs q.den = q := by
 have h := Rat.mkRat_self q
 by_cases hq : q < 0
 · have hn : q.num < 0 := by
     rcases Int.lt_or_le q.num 0 with h1 | h1
     · exact h1
     · rw [Rat.num_nonneg, ← Rat.not_lt] at h1; exact absurd hq h1
   simp only [sq, hq, decide_true, if_true]
   rw [Rat.neg_mkRat, show -((q.num.natAbs : Nat) : Int) = q.num by omega, h]
 · have hn : 0 ≤ q.num := by rw [Rat.num_nonneg]; exact Rat.not_lt.1 hq
   simp only [sq, hq, decide_false, Bool.false_eq_true, if_false]
   rw [show ((q.num.natAbs : Nat) : Int) = q.num by omega, h]
theorem natAbs_num_ne {q : Rat} (h : q ≠ 0) : q.num.natAbs ≠ 0 := by
 intro h1; exact h (Rat.num_eq_zero.1 (by omega))
theorem canR_ok (q : Rat) : okR (canR q) := by
 unfold canR
 split
 · exact ⟨W32.nil, W32.nil⟩
 · exact ⟨dig_W32 _, dig_W32 _⟩
theorem canR_valid (q : Rat) : validR (canR q) = true := by
 unfold canR
 split
 · rfl
 · rename_i h
   have h1 := natAbs_num_ne h
   have e : (dig q.num.natAbs).isEmpty = false := by simp [dig_nil_iff, h1]
   simp only [validR, e, Bool.false_and, Bool.false_eq_true, if_false, plainB_dig h1, plainB_dig q.den_nz, nv_dig, Bool.true_and, beq_iff_eq]
   exact q.reduced
theorem valR_canR (q : Rat) : valR (canR q) = q := by
 unfold valR
 rw [if_pos (canR_valid q)]
 unfold canR
 split
 · rename_i h; subst h; rfl
 · rw [nv_dig, nv_dig, sq_self]
/-- a fraction that is valid is the valid form of its number -/
theorem canR_valR {r : Rw} (hok : okR r) (h : validR r = true) : canR (valR r) = r := by
 obtain ⟨s, n, d⟩ := r
 unfold valR
 rw [if_pos h]
 unfold validR at h
 simp only at h ⊢
 split at h
 · rename_i h0
   simp only [Bool.and_eq_true, List.isEmpty_iff] at h0
   obtain ⟨rfl, rfl⟩ := h0
   have hs : s = false := by simpa using h
   subst hs
   rw [nv_nil, sq_zero, canR_zero]
 · simp only [Bool.and_eq_true, beq_iff_eq] at h
   obtain ⟨⟨h1, h2⟩, h3⟩ := h
   obtain ⟨c1, n1⟩ := (plainB_can hok.1).1 h1
   obtain ⟨c2, n2⟩ := (plainB_can hok.2).1 h2
   rw [canR_sq s (can_pos c1 n1) (can_pos c2 n2), h3, Nat.div_one, Nat.div_one, dig_nv c1, dig_nv c2]
theorem valR_of_not {r : Rw} (h : validR r = false) : valR r = 0 := by unfold valR; rw [h]; rfl
/-- sign, numerator, denominator as which a fraction counts -/
def ptsR (r : Rw) : Rw := if !validR r || r.2.1.isEmpty then (false, [], [1]) else r
structure Pts (r : Rw) (p : Rw) : Prop where
 can1 : Can p.2.1
 can2 : Can p.2.2
 den : nv p.2.2 ≠ 0
 val : valR r = sq p.1 (nv p.2.1) (nv p.2.2)
theorem can_one : Can [1] := ⟨W32.one (by omega), fun x hx => by simp at hx; omega⟩
theorem ptsR_pts {r : Rw} (hok : okR r) : Pts r (ptsR r) := by
 unfold ptsR
 cases hv : validR r
 · exact ⟨Can.nil, can_one, by simp [nv], by rw [valR_of_not hv]; exact (sq_zero _ _).symm⟩
 · cases he : r.2.1.isEmpty
   · have hv' := hv
     unfold validR at hv'
     rw [he] at hv'
     simp only [Bool.false_and, Bool.false_eq_true, if_false, Bool.and_eq_true, beq_iff_eq] at hv'
     obtain ⟨c1, n1⟩ := (plainB_can hok.1).1 hv'.1.1
     obtain ⟨c2, n2⟩ := (plainB_can hok.2).1 hv'.1.2
     exact ⟨c1, c2, can_pos c2 n2, by unfold valR; rw [if_pos hv]; rfl⟩
   · refine ⟨Can.nil, can_one, by simp [nv], ?_⟩
     simp only [Bool.not_true, Bool.false_or, if_true]
     unfold valR
     rw [if_pos hv, List.isEmpty_iff.1 he, nv_nil, sq_zero, sq_zero]
/-! ## laws of the four operations -/
theorem sq_eq_div (s : Bool) (n d : Nat) : sq s n d = (if s then -1 else 1) * (n : Rat) / (d : Rat) := by
 unfold sq
 rw [Rat.mkRat_eq_div]
 have e : (((n : Nat) : Int) : Rat) = (n : Rat) := rfl
 rw [e]
 cases s
 · simp
 · simp only [if_true, Rat.div_def]
   rw [Rat.neg_mul, Rat.one_mul, Rat.neg_mul]
theorem cast_ne {d : Nat} (h : d ≠ 0) : (d : Rat) ≠ 0 := by exact_mod_cast h
theorem sq_mul (s t : Bool) (n m d e : Nat) (hd : d ≠ 0) (he : e ≠ 0) : sq s n d * sq t m e = sq (s != t) (n * m) (d * e) := by
 rw [sq_eq_div, sq_eq_div, sq_eq_div]
 have h1 := cast_ne hd
 have h2 := cast_ne he
 rw [Rat.natCast_mul, Rat.natCast_mul]
 cases s <;> cases t <;> simp <;> grind
theorem sq_add_same (s : Bool) (n m d e : Nat) (hd : d ≠ 0) (he : e ≠ 0) : sq s n d + sq s m e = sq s (n * e + m * d) (d * e) := by
 rw [sq_eq_div, sq_eq_div, sq_eq_div]
 have h1 := cast_ne hd
 have h2 := cast_ne he
 rw [Rat.natCast_add, Rat.natCast_mul, Rat.natCast_mul, Rat.natCast_mul]
 cases s <;> simp <;> grind
theorem sq_add_ne (s t : Bool) (n m d e : Nat) (hd : d ≠ 0) (he : e ≠ 0) (hst : s ≠ t) (h : m * d ≤ n * e) : sq s n d + sq t m e = sq s (n * e - m * d) (d * e) := by
 rw [sq_eq_div, sq_eq_div, sq_eq_div]
 have h1 := cast_ne hd
 have h2 := cast_ne he
 have h3 : ((n * e - m * d : Nat) : Rat) = (n : Rat) * e - (m : Rat) * d := by
   have h4 : n * e = (n * e - m * d) + m * d := by omega
   have h5 : ((n * e : Nat) : Rat) = ((n * e - m * d : Nat) : Rat) + ((m * d : Nat) : Rat) := by rw [← Rat.natCast_add, ← h4]
   rw [Rat.natCast_mul, Rat.natCast_mul] at h5
   grind
 rw [h3, Rat.natCast_mul]
 cases s <;> cases t <;> simp at hst ⊢ <;> grind
theorem sq_not (s : Bool) (n d : Nat) : sq (!s) n d = -sq s n d := by cases s <;> simp [sq, Rat.neg_neg]
/-- -1, 0, 1 -/
def sgnQ (q : Rat) : Int := if q = 0 then 0 else if q < 0 then -1 else 1

/-! ## how many words a number has -/
def Sz (L : Nat) (q : Rat) : Prop := q.num.natAbs < wp L ∧ q.den < wp L
theorem Sz.more {L M : Nat} {q : Rat} (h : Sz L q) (hL : L ≤ M) : Sz M q := ⟨Nat.lt_of_lt_of_le h.1 (wp_le hL), Nat.lt_of_lt_of_le h.2 (wp_le hL)⟩
theorem Sz.zero {L : Nat} (hL : 1 ≤ L) : Sz L 0 := ⟨Nat.lt_of_lt_of_le (show (0 : Rat).num.natAbs < wp 1 by decide) (wp_le hL), Nat.lt_of_lt_of_le (show (0 : Rat).den < wp 1 by decide) (wp_le hL)⟩
theorem Sz_sq {L : Nat} {s : Bool} {n d : Nat} (hL : 1 ≤ L) (hn : n < wp L) (hd : d < wp L) (hd0 : d ≠ 0) : Sz L (sq s n d) := by
 by_cases h0 : n = 0
 · subst h0; rw [sq_zero]; exact Sz.zero hL
 · obtain ⟨h1, h2⟩ := mkRat_parts h0 hd0
   have h3 : (sq s n d).num.natAbs = n / n.gcd d := by
     cases s
     · simp only [sq, Bool.false_eq_true, if_false, h1, Int.natAbs_natCast]
     · simp only [sq, if_true, Rat.neg_num, h1, Int.natAbs_neg, Int.natAbs_natCast]
   have h4 : (sq s n d).den = d / n.gcd d := by
     cases s
     · simp only [sq, Bool.false_eq_true, if_false, h2]
     · simp only [sq, if_true, Rat.neg_den, h2]
   exact ⟨by rw [h3]; exact Nat.lt_of_le_of_lt (Nat.div_le_self _ _) hn, by rw [h4]; exact Nat.lt_of_le_of_lt (Nat.div_le_self _ _) hd⟩
theorem wp_mul_lt {a b L M : Nat} (ha : a < wp L) (hb : b < wp M) : a * b < wp (L + M) := by
 rw [wp_add]
 rcases Nat.eq_zero_or_pos b with h | h
 · subst h; rw [Nat.mul_zero]; exact Nat.mul_pos (wp_pos _) (wp_pos _)
 · exact Nat.lt_of_lt_of_le (Nat.mul_lt_mul_of_pos_right ha h) (Nat.mul_le_mul_left _ (by omega))
theorem Sz.mul {L M : Nat} {a b : Rat} (ha : Sz L a) (hb : Sz M b) (hL : 1 ≤ L) : Sz (L + M) (a * b) := by
 rw [← sq_self a, ← sq_self b, sq_mul _ _ _ _ _ _ a.den_nz b.den_nz]
 exact Sz_sq (by omega) (wp_mul_lt ha.1 hb.1) (wp_mul_lt ha.2 hb.2) (Nat.mul_ne_zero a.den_nz b.den_nz)
theorem Sz.add {L M : Nat} {a b : Rat} (ha : Sz L a) (hb : Sz M b) : Sz (L + M + 1) (a + b) := by
 rw [← sq_self a, ← sq_self b]
 have h1 := wp_mul_lt ha.1 hb.2
 have h2 := wp_mul_lt hb.1 ha.2
 have h3 := wp_mul_lt ha.2 hb.2
 have h4 : wp (L + M + 1) = 4294967296 * wp (L + M) := wp_succ _
 rw [Nat.add_comm M L] at h2
 have hd := Nat.mul_ne_zero a.den_nz b.den_nz
 by_cases hs : decide (a < 0) = decide (b < 0)
 · rw [hs, sq_add_same _ _ _ _ _ a.den_nz b.den_nz]
   exact Sz_sq (by omega) (by omega) (by omega) hd
 · rcases Nat.le_total (b.num.natAbs * a.den) (a.num.natAbs * b.den) with h5 | h5
   · rw [sq_add_ne _ _ _ _ _ _ a.den_nz b.den_nz hs h5]
     exact Sz_sq (by omega) (by omega) (by omega) hd
   · rw [Rat.add_comm, sq_add_ne _ _ _ _ _ _ b.den_nz a.den_nz (Ne.symm hs) h5, Nat.mul_comm b.den]
     exact Sz_sq (by omega) (by omega) (by omega) hd
theorem Sz.neg {L : Nat} {a : Rat} (h : Sz L a) : Sz L (-a) := ⟨by rw [Rat.neg_num, Int.natAbs_neg]; exact h.1, h.2⟩
theorem Sz.sub {L M : Nat} {a b : Rat} (ha : Sz L a) (hb : Sz M b) : Sz (L + M + 1) (a - b) := by
 rw [Rat.sub_eq_add_neg]; exact ha.add hb.neg
theorem Sz_canR {L : Nat} {q : Rat} (h : Sz L q) : (canR q).2.1.length ≤ L ∧ (canR q).2.2.length ≤ L := by
 unfold canR
 split
 · exact ⟨Nat.zero_le _, Nat.zero_le _⟩
 · exact ⟨dig_length_le h.1, dig_length_le h.2⟩
theorem Sz_valR {L : Nat} {r : Rw} (hok : okR r) (hL : 1 ≤ L) (h1 : r.2.1.length ≤ L) (h2 : r.2.2.length ≤ L) : Sz L (valR r) := by
 have h := ptsR_pts hok
 rw [h.val]
 have k1 : (ptsR r).2.1.length ≤ L := by unfold ptsR; split; exact Nat.zero_le _; exact h1
 have k2 : (ptsR r).2.2.length ≤ L := by unfold ptsR; split; exact hL; exact h2
 exact Sz_sq hL (Nat.lt_of_lt_of_le (nv_lt h.can1.1) (wp_le k1)) (Nat.lt_of_lt_of_le (nv_lt h.can2.1) (wp_le k2)) h.den
end Go.Proofs.YtoiopnmphbnjaaaGreatDoor
namespace Go.Proofs.YtoiopnmphbnjaaaGreatDoor
set_option linter.unusedSimpArgs false
set_option linter.unusedVariables false
/-! ## plain laws of the reference's division -/
attribute [local irreducible] nv wp
/-- bit 31 of a word -/
theorem and_top {y : Nat} (h : y < 4294967296) : y &&& 2147483648 = if 2147483648 ≤ y then 2147483648 else 0 := by
 have e : (2147483648 : Nat) = 2 ^ 31 := by decide
 have h1 := and_pow y 31
 rw [← e] at h1
 rw [h1, Nat.testBit_eq_decide_div_mod_eq, ← e]
 by_cases h2 : 2147483648 ≤ y
 · rw [if_pos h2, if_pos (by rw [decide_eq_true_iff]; omega)]
 · rw [if_neg h2, if_neg (by rw [decide_eq_true_iff]; omega)]
structure Top (V n : Nat) : Prop where
 n1 : 1 ≤ n
 lt : V < wp n
 ge : 2147483648 * wp (n - 1) ≤ V
 len : (dig V).length = n
theorem top_mk {b t s n : Nat} (hn : (dig b).length = n) (hn1 : 1 ≤ n) (ht : (dig b).getD (n - 1) 0 = t) (h1 : t * 2 ^ s < 4294967296) (h2 : 2147483648 ≤ t * 2 ^ s) (hs : s ≤ 31) : Top (b * 2 ^ s) n := by
 have hb : b = nv ((dig b).take (n - 1)) + wp (n - 1) * t := by
   have h := nv_take_getD (dig b) (n - 1)
   rw [ht, show n - 1 + 1 = n by omega, nv_take_all (by omega), nv_dig] at h
   exact h
 have hlow := nv_take_lt (dig_W32 b) (n - 1)
 obtain ⟨A, hA⟩ : ∃ A, A = nv ((dig b).take (n - 1)) := ⟨_, rfl⟩
 rw [← hA] at hb hlow
 have hp := pow_split (n := s) (k := 32 - s) (by omega)
 have hp0 := Nat.two_pow_pos s
 have h3 : (t + 1) * 2 ^ s ≤ 4294967296 := by
   rw [← hp, Nat.mul_comm (2 ^ s)]
   apply Nat.mul_le_mul_right
   rw [← hp, Nat.mul_comm (2 ^ s)] at h1
   exact Nat.lt_of_mul_lt_mul_right h1
 have hlt : b * 2 ^ s < wp n := by
   have h4 : b < wp (n - 1) * (t + 1) := by rw [Nat.mul_add]; omega
   have h5 : b * 2 ^ s < wp (n - 1) * (t + 1) * 2 ^ s := Nat.mul_lt_mul_of_pos_right h4 hp0
   rw [Nat.mul_assoc] at h5
   have h6 := Nat.mul_le_mul_left (wp (n - 1)) h3
   have h7 := wp_succ (n - 1)
   rw [show n - 1 + 1 = n by omega, Nat.mul_comm] at h7
   omega
 have hge : 2147483648 * wp (n - 1) ≤ b * 2 ^ s := by
   have h4 : wp (n - 1) * t ≤ b := by omega
   have h5 := Nat.mul_le_mul_right (2 ^ s) h4
   rw [Nat.mul_assoc] at h5
   have h6 := Nat.mul_le_mul_left (wp (n - 1)) h2
   rw [Nat.mul_comm (wp (n - 1)) 2147483648] at h6
   omega
 refine ⟨hn1, hlt, hge, ?_⟩
 have h8 := dig_length_le hlt
 have h9 : n - 1 < (dig (b * 2 ^ s)).length := wp_lt_of (Nat.lt_of_le_of_lt (show wp (n - 1) ≤ b * 2 ^ s by omega) (dig_lt _))
 omega
/-- the first estimate is not too small -/
theorem guess_ge {N V n : Nat} (hN : N < 4294967296 * V) (hV0 : 0 < V) (hge : 2147483648 * wp (n - 1) ≤ V) : N / V ≤ N / wp (n - 1) / (V / wp (n - 1)) ∧ N / V ≤ 4294967295 := by
 constructor
 · exact est_ge (wp_pos _) (Nat.div_pos (by have := wp_pos (n - 1); omega) (wp_pos _))
 · have : N / V < 4294967296 := (Nat.div_lt_iff_lt_mul hV0).2 hN
   omega
/-- the two top words of the rest -/
theorem two_words {N V n : Nat} (hn : 1 ≤ n) (hN : N < 4294967296 * V) (hV : V < wp n) : (dig N).getD n 0 * 4294967296 + (dig N).getD (n - 1) 0 = N / wp (n - 1) := by
 have h1 := digit_of (dig_W32 N) n
 have h2 := digit_of (dig_W32 N) (n - 1)
 rw [nv_dig] at h1 h2
 have e := wp_succ (n - 1)
 rw [show n - 1 + 1 = n by omega] at e
 have h3 : N / wp n = N / wp (n - 1) / 4294967296 := by rw [e, Nat.mul_comm, Nat.div_div_eq_div_mul]
 have h4 : N / wp n < 4294967296 := by
   rw [Nat.div_lt_iff_lt_mul (wp_pos n)]
   exact Nat.lt_trans hN (Nat.mul_lt_mul_of_pos_left hV (by omega))
 rw [h1, h2, Nat.mod_eq_of_lt h4, h3]
 omega
theorem top_word {V n : Nat} (hn : 1 ≤ n) (hV : V < wp n) : (dig V).getD (n - 1) 0 = V / wp (n - 1) := by
 have h2 := digit_of (dig_W32 V) (n - 1)
 rw [nv_dig] at h2
 rw [h2, Nat.mod_eq_of_lt]
 rw [Nat.div_lt_iff_lt_mul (wp_pos _)]
 have e := wp_succ (n - 1)
 rw [show n - 1 + 1 = n by omega] at e
 omega
/-- one more word of the quotient -/
theorem ref_round {q : List Nat} {X V R k x : Nat} (hk : k < q.length) (hz : q.getD k 0 = 0) (hx : (dig X).getD k 0 = x) (h : nv q * V + wp (k + 1) * R + nv ((dig X).take (k + 1)) = X) :
   nv (q.set k ((x + 4294967296 * R) / V)) * V + wp k * ((x + 4294967296 * R) % V) + nv ((dig X).take k) = X := by
 have h1 := nv_set hk ((x + 4294967296 * R) / V)
 rw [← getD_of_lt hk, hz, Nat.mul_zero, Nat.add_zero] at h1
 have h2 := nv_take_getD (dig X) k
 rw [hx] at h2
 have h3 := Nat.div_add_mod (x + 4294967296 * R) V
 generalize (x + 4294967296 * R) / V = g at *
 generalize (x + 4294967296 * R) % V = R' at *
 have h4 : wp k * (V * g) + wp k * R' = wp k * x + wp k * (4294967296 * R) := by rw [← Nat.mul_add, h3, Nat.mul_add]
 have h5 : wp (k + 1) * R = wp k * (4294967296 * R) := by rw [wp_succ, Nat.mul_comm 4294967296, Nat.mul_assoc]
 have h6 : (nv q + wp k * g) * V = nv q * V + wp k * (V * g) := by rw [Nat.add_mul, Nat.mul_assoc, Nat.mul_comm g]
 rw [h1, h6]
 omega
theorem ref_end {Q R X V : Nat} (h : Q * V + R = X) (hR : R < V) : Q = X / V ∧ R = X % V := by
 have h1 : X = V * Q + R := by rw [← h, Nat.mul_comm]
 subst h1
 rw [Nat.mul_add_div (by omega), Nat.mul_add_mod, Nat.div_eq_of_lt hR, Nat.mod_eq_of_lt hR]
 exact ⟨rfl, rfl⟩
theorem shift_div (a b s : Nat) : a * 2 ^ s / (b * 2 ^ s) = a / b := Nat.mul_div_mul_right a b (Nat.two_pow_pos s)
theorem shift_mod (a b s : Nat) : a * 2 ^ s % (b * 2 ^ s) / 2 ^ s = a % b := by
 rw [Nat.mul_mod_mul_right, Nat.mul_div_cancel _ (Nat.two_pow_pos s)]
theorem ref_start {X V n : Nat} (hn : 1 ≤ n) (hge : 2147483648 * wp (n - 1) ≤ V) (hL : n ≤ (dig X).length + 0) : nv ((dig X).drop ((dig X).length + 1 - n)) < V := by
 have h := nv_lt ((dig_W32 X).drop ((dig X).length + 1 - n))
 rw [List.length_drop, show (dig X).length - ((dig X).length + 1 - n) = n - 1 by omega] at h
 have := wp_pos (n - 1)
 omega
/-- the guess comes down to the quotient -/
theorem guess_down {N V g : Nat} (hg : N / V ≤ g) (hV0 : 0 < V) (h : N < V * g) : 1 ≤ g ∧ N / V ≤ g - 1 ∧ V * g - V = V * (g - 1) ∧ V ≤ V * g := by
 have h1 : N / V < g := (Nat.div_lt_iff_lt_mul hV0).2 (by rw [Nat.mul_comm]; exact h)
 generalize N / V = qq at *
 have h2 : V * g = V * (g - 1) + V := by rw [← Nat.mul_succ, show (g - 1).succ = g by omega]
 exact ⟨by omega, by omega, by omega, by omega⟩
theorem guess_done {N V g : Nat} (hg : N / V ≤ g) (hV0 : 0 < V) (h : V * g ≤ N) : g = N / V ∧ N - V * g = N % V := by
 have h1 : g ≤ N / V := (Nat.le_div_iff_mul_le hV0).2 (by rw [Nat.mul_comm]; exact h)
 have h2 : g = N / V := by omega
 refine ⟨h2, ?_⟩
 rw [h2]
 have := Nat.div_add_mod N V
 omega
end Go.Proofs.YtoiopnmphbnjaaaGreatDoor
namespace Go.Proofs.YtoiopnmphbnjaaaGreatDoor
set_option linter.unusedSimpArgs false
set_option linter.unusedVariables false
/-! ## the reduced form, on matrices as functions (plain) -/
def upd {α : Type} (f : Nat → α) (k : Nat) (x : α) : Nat → α := fun j => if j = k then x else f j
/-! ## how great the words become -/
end Go.Proofs.YtoiopnmphbnjaaaGreatDoor
namespace Go.Proofs.YtoiopnmphbnjaaaGreatDoor
set_option linter.unusedSimpArgs false
set_option linter.unusedVariables false
/-! ## dynamic trees (plain) -/
structure Dy where
 v : Nat
 ng : Nat
 kd : Nat → Nat
 kk : Nat → Int
 ar : Nat → List Nat
 top : Nat
/-- the failed events, and the memories -/
abbrev DS := Nat × List Int
/-- how many are true -/
def cnB : List Bool → Nat
 | [] => 0
 | b :: l => (if b then 1 else 0) + cnB l
def dyVal (kd : Nat) (kk : Int) (l : List Bool) (memo : Int) : Bool :=
 if kd = 1 then decide (0 < cnB l) else if kd = 2 then decide (kk ≤ (cnB l : Int)) else if kd = 3 then cnB l == 0 else if kd = 4 then cnB l % 2 == 1 else if kd = 6 then cnB l == l.length && memo == 0 else if kd = 8 then l.headD false else cnB l == l.length
/-- a true one behind a false one -/
def gapB : List Bool → Bool
 | [] => false
 | b :: l => if b then gapB l else decide (0 < cnB l)
def dyBrk (l : List Bool) (old : Int) : Int := if cnB l = 0 then 0 else if gapB l then 1 else old
/-- the first false one, or -1 -/
def firF : List Bool → Int
 | [] => -1
 | b :: l => if b then (if firF l = -1 then -1 else firF l + 1) else 0
def dyAct (l : List Bool) (old : Int) : Int := if 0 ≤ old ∧ l.getD old.toNat true = false then old else firF l
def dyMem (kd : Nat) (l : List Bool) (old : Int) : Int := if kd = 6 then dyBrk l old else if kd = 7 then dyAct l old else 0
/-- values and new memories of the first i gates -/
def onD (d : Dy) (F : Nat) (old : List Int) : Nat → (Nat → Bool) × List Int
 | 0 => (fun a => F.testBit a, [])
 | i + 1 => (fun a => if a = d.v + i then dyVal (d.kd i) (d.kk i) ((d.ar i).map (onD d F old i).1) (dyMem (d.kd i) ((d.ar i).map (onD d F old i).1) (old.getD i 0)) else (onD d F old i).1 a,
     (onD d F old i).2 ++ [dyMem (d.kd i) ((d.ar i).map (onD d F old i).1) (old.getD i 0)])
/-- values of the first i gates for the memories as they are -/
def vaD (d : Dy) (F : Nat) (M : List Int) : Nat → Nat → Bool
 | 0 => fun a => F.testBit a
 | i + 1 => fun a => if a = d.v + i then dyVal (d.kd i) (d.kk i) ((d.ar i).map (vaD d F M i)) (M.getD i 0) else vaD d F M i a
def mskL : List Nat → Nat
 | [] => 0
 | a :: l => mskL l ||| 2 ^ a
/-- the events of the true triggers among the first i gates -/
def stk (d : Dy) (vv : Nat → Bool) : Nat → Nat
 | 0 => 0
 | i + 1 => stk d vv i ||| (if d.kd i = 8 ∧ vv ((d.ar i).headD 0) = true then mskL (d.ar i).tail else 0)
def nxD (d : Dy) (old : List Int) (F : Nat) : Nat := F ||| stk d (onD d F old d.ng).1 d.ng
def seD (d : Dy) (old : List Int) : Nat → Nat → DS
 | 0, F => (F, (onD d F old d.ng).2)
 | n + 1, F => if nxD d old F = F then (F, (onD d F old d.ng).2) else seD d old n (nxD d old F)
/-- the state that settles -/
def setl (d : Dy) (F : Nat) (old : List Int) : DS := seD d old (2 ^ d.v) F
/-- arguments come earlier, those that a trigger strikes and those of spare gates are events -/
structure Dy.Ok (d : Dy) : Prop where
 ar : ∀ i, i < d.ng → ∀ a, a ∈ d.ar i → a < d.v + i
 ev : ∀ i, i < d.ng → d.kd i = 8 → ∀ a, a ∈ (d.ar i).tail → a < d.v
 ne : ∀ i, i < d.ng → (d.ar i).length ≠ 0
 top : d.top < d.v + d.ng
variable {d : Dy} {F : Nat} {old : List Int}
theorem onD_len (d : Dy) (F : Nat) (old : List Int) : ∀ i, (onD d F old i).2.length = i
 | 0 => rfl
 | i + 1 => by
   have ih := onD_len d F old i
   show ((onD d F old i).2 ++ [_]).length = i + 1
   rw [List.length_append, ih]; rfl
theorem onD_old {i j a : Nat} (hij : i ≤ j) (ha : a < d.v + i) : (onD d F old j).1 a = (onD d F old i).1 a := by
 induction j with
 | zero => rw [show i = 0 by omega]
 | succ j ih =>
   by_cases e : i = j + 1
   · rw [e]
   · rw [← ih (by omega)]
     show (if a = d.v + j then _ else (onD d F old j).1 a) = _
     rw [if_neg (by omega)]
theorem vaD_old {M : List Int} {i j a : Nat} (hij : i ≤ j) (ha : a < d.v + i) : vaD d F M j a = vaD d F M i a := by
 induction j with
 | zero => rw [show i = 0 by omega]
 | succ j ih =>
   by_cases e : i = j + 1
   · rw [e]
   · rw [← ih (by omega)]
     show (if a = d.v + j then _ else vaD d F M j a) = _
     rw [if_neg (by omega)]
theorem onD_ev {i a : Nat} (ha : a < d.v) : (onD d F old i).1 a = F.testBit a := by
 rw [onD_old (i := 0) (Nat.zero_le _) (by omega)]; rfl
theorem vaD_ev {M : List Int} {i a : Nat} (ha : a < d.v) : vaD d F M i a = F.testBit a := by
 rw [vaD_old (i := 0) (Nat.zero_le _) (by omega)]; rfl
theorem mskL_lt {v : Nat} : ∀ {l : List Nat}, (∀ a, a ∈ l → a < v) → mskL l < 2 ^ v
 | [], _ => Nat.two_pow_pos v
 | a :: l, h => Nat.or_lt_two_pow (mskL_lt fun x hx => h x (by simp [hx])) (Nat.pow_lt_pow_right (by omega) (h a (by simp)))
theorem stk_lt (ok : d.Ok) (vv : Nat → Bool) : ∀ i, i ≤ d.ng → stk d vv i < 2 ^ d.v
 | 0, _ => Nat.two_pow_pos _
 | i + 1, h => by
   rw [stk]
   refine Nat.or_lt_two_pow (stk_lt ok vv i (by omega)) ?_
   split
   · rename_i h1
     exact mskL_lt (ok.ev i (by omega) h1.1)
   · exact Nat.two_pow_pos _
theorem nxD_lt (ok : d.Ok) (hF : F < 2 ^ d.v) : nxD d old F < 2 ^ d.v := Nat.or_lt_two_pow hF (stk_lt ok _ _ (Nat.le_refl _))
theorem nxD_le (d : Dy) (old : List Int) (F : Nat) : F ≤ nxD d old F := Nat.left_le_or
theorem seD_more (ok : d.Ok) : ∀ (n m F : Nat), F < 2 ^ d.v → 2 ^ d.v - F ≤ n → 2 ^ d.v - F ≤ m → seD d old n F = seD d old m F
 | 0, m, F, hF, h1, h2 => by omega
 | n + 1, 0, F, hF, h1, h2 => by omega
 | n + 1, m + 1, F, hF, h1, h2 => by
   unfold seD
   by_cases e : nxD d old F = F
   · rw [if_pos e, if_pos e]
   · rw [if_neg e, if_neg e]
     have h3 := nxD_le d old F
     have h4 : nxD d old F < 2 ^ d.v := nxD_lt ok hF
     exact seD_more ok n m _ h4 (by omega) (by omega)
theorem setl_stop (h : nxD d old F = F) : setl d F old = (F, (onD d F old d.ng).2) := by
 unfold setl
 obtain ⟨n, hn⟩ : ∃ n, 2 ^ d.v = n + 1 := ⟨2 ^ d.v - 1, by have := Nat.two_pow_pos d.v; omega⟩
 rw [hn, seD, if_pos h]
theorem setl_step (ok : d.Ok) (hF : F < 2 ^ d.v) (h : nxD d old F ≠ F) : setl d F old = setl d (nxD d old F) old := by
 unfold setl
 have h3 := nxD_le d old F
 have h4 : nxD d old F < 2 ^ d.v := nxD_lt ok hF
 obtain ⟨n, hn⟩ : ∃ n, 2 ^ d.v = n + 1 := ⟨2 ^ d.v - 1, by omega⟩
 rw [seD_more (old := old) ok (2 ^ d.v) (n + 1) F hF (by omega) (by omega), seD, if_neg h]
 exact seD_more ok _ _ _ h4 (by omega) (by omega)
theorem seD_lt (ok : d.Ok) : ∀ (n F : Nat), F < 2 ^ d.v → (seD d old n F).1 < 2 ^ d.v ∧ (seD d old n F).2.length = d.ng
 | 0, F, hF => ⟨hF, onD_len _ _ _ _⟩
 | n + 1, F, hF => by
   rw [seD]
   split
   · exact ⟨hF, onD_len _ _ _ _⟩
   · exact seD_lt ok n _ (nxD_lt ok hF)
theorem setl_lt (ok : d.Ok) (hF : F < 2 ^ d.v) : (setl d F old).1 < 2 ^ d.v ∧ (setl d F old).2.length = d.ng := seD_lt ok _ _ hF
end Go.Proofs.YtoiopnmphbnjaaaGreatDoor
namespace Go.Proofs.YtoiopnmphbnjaaaGreatDoor
set_option linter.unusedSimpArgs false
set_option linter.unusedVariables false
/-! ## the chain of a dynamic tree (plain) -/
/-- the state after a failure, after a repair -/
def stF (d : Dy) (s : DS) (i : Nat) : DS := setl d (s.1 ||| 2 ^ i) s.2
def stR (d : Dy) (s : DS) (i : Nat) : DS := setl d (ndiff s.1 (2 ^ i)) s.2
/-- a true trigger holds the event -/
def heldK (d : Dy) (s : DS) (i k : Nat) : Bool := d.kd k == 8 && (vaD d s.1 s.2 d.ng ((d.ar k).headD 0) && (d.ar k).tail.contains i)
def heldD (d : Dy) (s : DS) (i : Nat) : Bool := (List.range d.ng).any (heldK d s i)
def rtK (d : Dy) (s : DS) (i k : Nat) : Prop := d.kd k = 7 ∧ i ∈ d.ar k ∧ (((d.ar k).idxOf i : Nat) : Int) ≠ s.2.getD k 0
instance (d : Dy) (s : DS) (i k : Nat) : Decidable (rtK d s i k) := by unfold rtK; infer_instance
/-- the rate of a failure, by the first k gates -/
def rtD (d : Dy) (dor : Nat → Rat) (s : DS) (i : Nat) (f0 : Rat) : Nat → Rat
 | 0 => f0
 | k + 1 => if rtK d s i k then rtD d dor s i f0 k * dor k else rtD d dor s i f0 k
/-- a tree with its rates -/
structure Tr where
 d : Dy
 dor : Nat → Rat
 fl : Nat → Rat
 rp : Nat → Rat
def Tr.fr (t : Tr) (s : DS) (i : Nat) : Rat := if s.1.testBit i then 0 else rtD t.d t.dor s i (t.fl i) t.d.ng
def Tr.rr (t : Tr) (s : DS) (i : Nat) : Rat := if s.1.testBit i then (if heldD t.d s i then 0 else t.rp i) else 0
/-- what follows a state: the first i events -/
def Tr.nx (t : Tr) (s : DS) : Nat → List (DS × Rat)
 | 0 => []
 | i + 1 => t.nx s i ++ ((if 0 < t.fr s i then [(stF t.d s i, t.fr s i)] else []) ++ (if 0 < t.rr s i then [(stR t.d s i, t.rr s i)] else []))
abbrev RS := List DS × (Nat → Rat)
def addS (l : List DS) (s : DS) : List DS := if s ∈ l then l else l ++ [s]
/-- one state that follows: its number, its rate on top -/
def stepR (x : RS) (y : DS × Rat) : Option RS :=
 if y.1 ∉ x.1 ∧ x.1.length = 256 then none else some (addS x.1 y.1, fun b => if b = x.1.idxOf y.1 then x.2 b + y.2 else x.2 b)
def rowR : List (DS × Rat) → RS → Option RS
 | [], x => some x
 | y :: l, x => (stepR x y).bind (rowR l)
theorem rowR_snoc (y : DS × Rat) : ∀ (l : List (DS × Rat)) (x : RS), rowR (l ++ [y]) x = (rowR l x).bind fun z => stepR z y
 | [], x => by
   show (stepR x y).bind (rowR []) = stepR x y
   cases stepR x y <;> rfl
 | z :: l, x => by
   show (stepR x z).bind (rowR (l ++ [y])) = ((stepR x z).bind (rowR l)).bind _
   cases h : stepR x z with
   | none => rfl
   | some u => exact rowR_snoc y l u
theorem rowR_app (m : List (DS × Rat)) : ∀ (l : List (DS × Rat)) (x : RS), rowR (l ++ m) x = (rowR l x).bind (rowR m)
 | [], x => rfl
 | z :: l, x => by
   show (stepR x z).bind (rowR (l ++ m)) = ((stepR x z).bind (rowR l)).bind _
   cases h : stepR x z with
   | none => rfl
   | some u => exact rowR_app m l u
theorem idx_add {l : List DS} {s : DS} (h : s ∉ l) : l.idxOf s = l.length := List.idxOf_eq_length h
theorem addS_len (l : List DS) (s : DS) : l.length ≤ (addS l s).length ∧ (addS l s).length ≤ l.length + 1 ∧ l.idxOf s < (addS l s).length := by
 unfold addS
 by_cases h : s ∈ l
 · rw [if_pos h]; exact ⟨Nat.le_refl _, by omega, List.idxOf_lt_length_iff.2 h⟩
 · rw [if_neg h, idx_add h, List.length_append]; simp
theorem addS_nodup {l : List DS} {s : DS} (h : l.Nodup) : (addS l s).Nodup := by
 unfold addS
 split
 · exact h
 · rename_i hs
   rw [List.nodup_append]
   refine ⟨h, by simp, fun a ha b hb => ?_⟩
   simp at hb
   subst hb
   exact fun e => hs (e ▸ ha)
/-- the states from at on -/
def mkR (nx : DS → List (DS × Rat)) : Nat → Nat → List DS → (Nat → Nat → Rat) → Option (List DS × (Nat → Nat → Rat))
 | 0, _, l, R => some (l, R)
 | n + 1, k, l, R => match l[k]? with
   | none => some (l, R)
   | some s => match rowR (nx s) (l, fun _ => 0) with
     | none => none
     | some x => mkR nx n (k + 1) x.1 (fun a b => if a = k then x.2 b else R a b)
/-- states and rates -/
def Tr.make (t : Tr) : Option (List DS × (Nat → Nat → Rat)) := mkR (fun s => t.nx s t.d.v) 256 0 [setl t.d 0 (List.replicate t.d.ng 0)] (fun _ _ => 0)
theorem mkR_stop {nx : DS → List (DS × Rat)} {n k : Nat} {l : List DS} {R : Nat → Nat → Rat} (h : l.length ≤ k) : mkR nx n k l R = some (l, R) := by
 cases n with
 | zero => rfl
 | succ n => rw [mkR, List.getElem?_eq_none h]
theorem mkR_step {nx : DS → List (DS × Rat)} {n k : Nat} {l : List DS} {R : Nat → Nat → Rat} (h : k < l.length) : mkR nx (n + 1) k l R = match rowR (nx l[k]) (l, fun _ => 0) with
   | none => none
   | some x => mkR nx n (k + 1) x.1 (fun a b => if a = k then x.2 b else R a b) := by
 rw [mkR, List.getElem?_eq_getElem h]
end Go.Proofs.YtoiopnmphbnjaaaGreatDoor
namespace Go.Proofs.YtoiopnmphbnjaaaGreatDoor
set_option linter.unusedVariables false
set_option linter.unusedSimpArgs false
/-! ## errors by their numbers -/
def errM (c : Int) : Value := if c = 0 then .nilIface else .iface 80 (.int .i64 c)
theorem errM_0 : errM 0 = .nilIface := rfl
theorem errM_n {c : Int} (h : c ≠ 0) : errM c = .iface 80 (.int .i64 c) := by simp [errM, h]
end Go.Proofs.YtoiopnmphbnjaaaGreatDoor
namespace Go.Proofs.YtoiopnmphbnjaaaGreatDoor
set_option linter.unusedSimpArgs false
set_option linter.unusedVariables false
/-! ## what holds while the chain is made (plain) -/
theorem stepR_some {x z : RS} {y : DS × Rat} (h : stepR x y = some z) : z.1 = addS x.1 y.1 ∧ (∀ b, z.2 b = if b = x.1.idxOf y.1 then x.2 b + y.2 else x.2 b) ∧ (y.1 ∈ x.1 ∨ x.1.length ≠ 256) := by
 unfold stepR at h
 split at h
 · cases h
 · rename_i h1
   injection h with h
   subst h
   refine ⟨rfl, fun b => rfl, ?_⟩
   by_cases h2 : y.1 ∈ x.1
   · exact .inl h2
   · exact .inr fun h3 => h1 ⟨h2, h3⟩
theorem addS_pre (l : List DS) (s : DS) : l <+: addS l s := by
 unfold addS
 split
 · exact List.prefix_refl _
 · exact List.prefix_append _ _
theorem addS_mem {l : List DS} {s u : DS} : u ∈ addS l s ↔ u ∈ l ∨ u = s := by
 unfold addS
 split
 · rename_i h
   constructor
   · exact .inl
   · rintro (h1 | h1)
     · exact h1
     · rw [h1]; exact h
 · simp
theorem idx_pre {l l' : List DS} {s : DS} (h : l <+: l') (hs : s ∈ l) : l'.idxOf s = l.idxOf s := by
 obtain ⟨m, rfl⟩ := h
 rw [List.idxOf_append, if_pos hs]
/-- a row of rates: from the states l0 on, what follows is ys -/
structure RsI (L : Nat) (l0 : List DS) (ys : List (DS × Rat)) (x : RS) : Prop where
 pre : l0 <+: x.1
 nd : x.1.Nodup
 le : x.1.length ≤ 256
 nn : ∀ b, 0 ≤ x.2 b
 out : ∀ b, x.1.length ≤ b → x.2 b = 0
 new : ∀ b, l0.length ≤ b → b < x.1.length → 0 < x.2 b
 hit : ∀ y, y ∈ ys → y.1 ∈ x.1 ∧ y.2 ≤ x.2 (x.1.idxOf y.1)
 mem : ∀ s, s ∈ x.1 → s ∈ l0 ∨ ∃ y, y ∈ ys ∧ y.1 = s
 sz : ∀ b, Sz (ys.length * (L + 1) + 1) (x.2 b)
theorem RsI.start {L : Nat} {l0 : List DS} (h : l0.Nodup) (h1 : l0.length ≤ 256) : RsI L l0 [] (l0, fun _ => 0) :=
 ⟨List.prefix_refl _, h, h1, fun _ => Rat.le_refl, fun _ _ => rfl, fun b h2 h3 => absurd h3 (Nat.not_lt.2 h2), fun y hy => (by cases hy), fun s hs => .inl hs, fun _ => Sz.zero (by omega)⟩
theorem RsI.step {L : Nat} {l0 : List DS} {ys : List (DS × Rat)} {x z : RS} {y : DS × Rat} (h : RsI L l0 ys x) (hy : 0 < y.2) (hL : Sz L y.2) (e : stepR x y = some z) : RsI L l0 (ys ++ [y]) z := by
 obtain ⟨h1, h2, h3⟩ := stepR_some e
 obtain ⟨a1, a2, a3⟩ := addS_len x.1 y.1
 have hidx : z.1.idxOf y.1 = x.1.idxOf y.1 := by
   rw [h1]
   by_cases hm : y.1 ∈ x.1
   · exact idx_pre (addS_pre _ _) hm
   · rw [idx_add hm]
     unfold addS
     rw [if_neg hm, List.idxOf_append, if_neg hm]
     simp
 have hlen : x.1.length < z.1.length → x.1.idxOf y.1 = x.1.length ∧ z.1.length = x.1.length + 1 := fun hl => by
   by_cases hm : y.1 ∈ x.1
   · rw [h1] at hl
     unfold addS at hl
     rw [if_pos hm] at hl
     omega
   · rw [idx_add hm, h1]
     rw [h1] at hl
     omega
 have hnn := h.nn
 have hle : ∀ b, x.2 b ≤ z.2 b := fun b => by
   rw [h2]
   split
   · have := hnn b; grind
   · exact Rat.le_refl
 refine ⟨h.pre.trans (by rw [h1]; exact addS_pre _ _), by rw [h1]; exact addS_nodup h.nd, ?_, fun b => ?_, fun b hb => ?_, fun b hb1 hb2 => ?_, fun u hu => ?_, fun s hs => ?_, fun b => ?_⟩
 · rw [h1]
   rcases h3 with h3 | h3
   · unfold addS; rw [if_pos h3]; exact h.le
   · have := h.le; omega
 · have h5 := hnn b
   have h6 := hle b
   exact Rat.le_trans h5 h6
 · rw [h2, if_neg (by rw [h1] at hb; omega)]
   exact h.out b (by rw [h1] at hb; omega)
 · by_cases hb : b < x.1.length
   · have h5 := h.new b hb1 hb
     have h6 := hle b
     grind
   · obtain ⟨g1, g2⟩ := hlen (by omega)
     rw [h2, if_pos (by omega)]
     have := hnn b
     grind
 · rw [List.mem_append] at hu
   rcases hu with hu | hu
   · obtain ⟨g1, g2⟩ := h.hit u hu
     have g3 : u.1 ∈ z.1 := by rw [h1]; exact addS_mem.2 (.inl g1)
     refine ⟨g3, ?_⟩
     rw [show z.1.idxOf u.1 = x.1.idxOf u.1 by rw [h1]; exact idx_pre (addS_pre _ _) g1]
     exact Rat.le_trans g2 (hle _)
   · simp only [List.mem_singleton] at hu
     subst hu
     refine ⟨by rw [h1]; exact addS_mem.2 (.inr rfl), ?_⟩
     rw [hidx, h2, if_pos rfl]
     have := hnn (x.1.idxOf u.1)
     grind
 · rw [h1] at hs
   rcases addS_mem.1 hs with hs | hs
   · rcases h.mem s hs with h5 | ⟨u, h5, h6⟩
     · exact .inl h5
     · exact .inr ⟨u, List.mem_append_left _ h5, h6⟩
   · exact .inr ⟨y, by simp, hs.symm⟩
 · have h5 := h.sz b
   rw [List.length_append, List.length_singleton]
   have e1 : (ys.length + 1) * (L + 1) + 1 = (ys.length * (L + 1) + 1) + L + 1 := by rw [Nat.add_mul]; omega
   rw [h2]
   split
   · rw [e1]; exact h5.add hL
   · exact h5.more (by omega)
theorem RsI.all {L : Nat} {l0 : List DS} {ys : List (DS × Rat)} : ∀ {l : List (DS × Rat)} {x z : RS}, RsI L l0 ys x → (∀ y, y ∈ l → 0 < y.2 ∧ Sz L y.2) → rowR l x = some z → RsI L l0 (ys ++ l) z := by
 intro l
 induction l generalizing ys with
 | nil =>
   intro x z h _ e
   injection e with e
   subst e
   rw [List.append_nil]; exact h
 | cons y l ih =>
   intro x z h hl e
   rw [rowR] at e
   cases e1 : stepR x y with
   | none => rw [e1] at e; cases e
   | some u =>
     rw [e1] at e
     have := ih (ys := ys ++ [y]) (h.step (hl y (by simp)).1 (hl y (by simp)).2 e1) (fun v hv => hl v (by simp [hv])) e
     rwa [List.append_assoc] at this
/-- the states and the rates when the first k states are done -/
structure MkI (L N : Nat) (P : DS → Prop) (nx : DS → List (DS × Rat)) (s0 : DS) (k : Nat) (l : List DS) (R : Nat → Nat → Rat) : Prop where
 kl : k ≤ l.length
 nd : l.Nodup
 le : l.length ≤ 256
 s0 : l[0]? = some s0
 nn : ∀ a b, 0 ≤ R a b
 out : ∀ a b, k ≤ a ∨ l.length ≤ b → R a b = 0
 rch : ∀ b, 0 < b → b < l.length → ∃ a, a < b ∧ a < k ∧ 0 < R a b
 row : ∀ a s, a < k → l[a]? = some s → ∀ y, y ∈ nx s → y.1 ∈ l ∧ y.2 ≤ R a (l.idxOf y.1)
 mem : ∀ s, s ∈ l → P s
 sz : ∀ a b, Sz (N * (L + 1) + 1) (R a b)
theorem MkI.start {L N : Nat} {P : DS → Prop} {nx : DS → List (DS × Rat)} {s0 : DS} (h : P s0) : MkI L N P nx s0 0 [s0] (fun _ _ => 0) :=
 ⟨by simp, by simp, by simp, rfl, fun _ _ => Rat.le_refl, fun _ _ _ => rfl, fun b h1 h2 => by simp at h2; omega, fun a s h => by omega, fun s hs => by simp at hs; rw [hs]; exact h, fun _ _ => Sz.zero (by omega)⟩
theorem MkI.step {L N : Nat} {P : DS → Prop} {nx : DS → List (DS × Rat)} {s0 : DS} {k : Nat} {l : List DS} {R : Nat → Nat → Rat} {x : RS} (h : MkI L N P nx s0 k l R) (hk : k < l.length) (hn : ∀ s, P s → ∀ y, y ∈ nx s → 0 < y.2 ∧ Sz L y.2 ∧ P y.1) (hN : ∀ s, (nx s).length ≤ N) (e : rowR (nx l[k]) (l, fun _ => 0) = some x) :
   MkI L N P nx s0 (k + 1) x.1 (fun a b => if a = k then x.2 b else R a b) := by
 have hp := h.mem _ (List.getElem_mem hk)
 have r : RsI L l (nx l[k]) x := by
   have := (RsI.start (L := L) h.nd h.le).all (fun y hy => ⟨(hn _ hp y hy).1, (hn _ hp y hy).2.1⟩) e
   simpa using this
 have hl : l.length ≤ x.1.length := r.pre.length_le
 have hget : ∀ a, a < l.length → x.1[a]? = l[a]? := fun a ha => by
   obtain ⟨m, hm⟩ := r.pre
   rw [← hm, List.getElem?_append_left ha]
 refine ⟨by omega, r.nd, r.le, by rw [hget 0 (by omega)]; exact h.s0, fun a b => ?_, fun a b hab => ?_, fun b hb1 hb2 => ?_, fun a s ha hs y hy => ?_, fun s hs => ?_, fun a b => ?_⟩
 · try dsimp only
   split
   · exact r.nn b
   · exact h.nn a b
 · try dsimp only
   split
   · exact r.out b (by omega)
   · exact h.out a b (by omega)
 · by_cases hb : b < l.length
   · obtain ⟨a, h1, h2, h3⟩ := h.rch b hb1 hb
     exact ⟨a, h1, by omega, by (try dsimp only); rw [if_neg (by omega)]; exact h3⟩
   · exact ⟨k, by omega, by omega, by (try dsimp only); rw [if_pos rfl]; exact r.new b (by omega) hb2⟩
 · try dsimp only
   by_cases hak : a = k
   · subst hak
     rw [if_pos rfl]
     rw [hget a hk, List.getElem?_eq_getElem hk] at hs
     injection hs with hs
     subst hs
     exact r.hit y hy
   · rw [if_neg hak]
     rw [hget a (by omega)] at hs
     obtain ⟨h1, h2⟩ := h.row a s (by omega) hs y hy
     exact ⟨r.pre.subset h1, by rw [idx_pre r.pre h1]; exact h2⟩
 · rcases r.mem s hs with h1 | ⟨y, h1, rfl⟩
   · exact h.mem s h1
   · exact (hn _ hp y h1).2.2
 · try dsimp only
   split
   · refine (r.sz b).more ?_
     have := Nat.mul_le_mul_right (L + 1) (hN l[k])
     omega
   · exact h.sz a b
theorem MkI.all {L N : Nat} {P : DS → Prop} {nx : DS → List (DS × Rat)} {s0 : DS} (hn : ∀ s, P s → ∀ y, y ∈ nx s → 0 < y.2 ∧ Sz L y.2 ∧ P y.1) (hN : ∀ s, (nx s).length ≤ N) : ∀ {n k : Nat} {l : List DS} {R : Nat → Nat → Rat} {z : List DS × (Nat → Nat → Rat)}, MkI L N P nx s0 k l R → 256 ≤ n + k → mkR nx n k l R = some z → MkI L N P nx s0 z.1.length z.1 z.2
 | 0, k, l, R, z, h, hnk, e => by
   injection e with e
   subst e
   have := h.le
   have := h.kl
   have hk : k = l.length := by omega
   rw [hk] at h
   exact h
 | n + 1, k, l, R, z, h, hnk, e => by
   by_cases hk : k < l.length
   · rw [mkR_step hk] at e
     cases e1 : rowR (nx l[k]) (l, fun _ => 0) with
     | none => rw [e1] at e; cases e
     | some x =>
       rw [e1] at e
       exact MkI.all hn hN (h.step hk hn hN e1) (by omega) e
   · rw [mkR_stop (by omega)] at e
     injection e with e
     subst e
     have := h.kl
     have hk : k = l.length := by omega
     rw [hk] at h
     exact h
/-! ### the moves, in order -/
def prs (n : Nat) (R : Nat → Nat → Rat) : List (Nat × Nat) := (List.range n).flatMap fun a => ((List.range n).filter fun b => decide (a ≠ b ∧ 0 < R a b)).map fun b => (a, b)
theorem mem_prs {n : Nat} {R : Nat → Nat → Rat} {p : Nat × Nat} : p ∈ prs n R ↔ p.1 < n ∧ p.2 < n ∧ p.1 ≠ p.2 ∧ 0 < R p.1 p.2 := by
 unfold prs
 simp only [List.mem_flatMap, List.mem_map, List.mem_filter, List.mem_range, decide_eq_true_iff]
 constructor
 · rintro ⟨a, ha, b, ⟨hb, h1, h2⟩, rfl⟩
   exact ⟨ha, hb, h1, h2⟩
 · rintro ⟨h1, h2, h3, h4⟩
   exact ⟨p.1, h1, p.2, ⟨h2, h3, h4⟩, rfl⟩
theorem flatMap_congrG {α β : Type} {l : List α} {f g : α → List β} (h : ∀ a, a ∈ l → f a = g a) : l.flatMap f = l.flatMap g := by
 induction l with
 | nil => rfl
 | cons a l ih => rw [List.flatMap_cons, List.flatMap_cons, h a (by simp), ih fun b hb => h b (by simp [hb])]
def lexP (p q : Nat × Nat) : Prop := p.1 < q.1 ∨ p.1 = q.1 ∧ p.2 < q.2
theorem prs_lex (n : Nat) (R : Nat → Nat → Rat) : (prs n R).Pairwise lexP := by
 unfold prs
 rw [List.pairwise_flatMap]
 refine ⟨fun a ha => ?_, ?_⟩
 · rw [List.pairwise_map]
   exact (List.pairwise_lt_range.filter _).imp fun h => .inr ⟨rfl, h⟩
 · refine List.pairwise_lt_range.imp fun h p hp q hq => ?_
   obtain ⟨b, -, rfl⟩ := List.mem_map.1 hp
   obtain ⟨c, -, rfl⟩ := List.mem_map.1 hq
   exact .inl h
theorem prs_nodup (n : Nat) (R : Nat → Nat → Rat) : (prs n R).Nodup := (prs_lex n R).imp fun {a b} h e => by
 subst e
 rcases h with h | h <;> omega
end Go.Proofs.YtoiopnmphbnjaaaGreatDoor
namespace Go.Proofs.YtoiopnmphbnjaaaGreatDoor
open Go.Lib
set_option linter.unusedSimpArgs false
set_option linter.unusedVariables false
/-! ## the text of a state (plain) -/
def dVal (l : List UInt8) : Nat := l.foldl (fun s d => s * 10 + (d.toNat - 48)) 0
theorem dig_nat {k : Nat} (hk : k < 10) : (UInt8.ofNat (48 + k)).toNat = 48 + k := by
 rw [UInt8.toNat_ofNat']
 omega
theorem dVal_dec (u : Nat) : dVal (decDigits u) = u := by
 induction u using Nat.strongRecOn with
 | ind u ih =>
   rw [decDigits]
   split
   · rename_i h
     unfold dVal
     simp only [List.foldl_cons, List.foldl_nil]
     rw [dig_nat h]
     omega
   · rename_i h
     have h1 := ih (u / 10) (by omega)
     unfold dVal at h1 ⊢
     rw [List.foldl_append, h1]
     simp only [List.foldl_cons, List.foldl_nil]
     rw [dig_nat (by omega)]
     omega
theorem dec_byte (u : Nat) : ∀ d, d ∈ decDigits u → 48 ≤ d.toNat ∧ d.toNat ≤ 57 := by
 induction u using Nat.strongRecOn with
 | ind u ih =>
   intro d hd
   rw [decDigits] at hd
   split at hd
   · rename_i h
     simp only [List.mem_singleton] at hd
     subst hd
     rw [dig_nat h]
     omega
   · rename_i h
     rcases List.mem_append.1 hd with hd | hd
     · exact ih (u / 10) (by omega) d hd
     · simp only [List.mem_singleton] at hd
       subst hd
       rw [dig_nat (by omega)]
       omega
theorem itoa_byte (n : Int) : ∀ d, d ∈ itoa n → d ≠ 32 := by
 intro d hd e
 subst e
 unfold itoa at hd
 split at hd
 · rcases List.mem_cons.1 hd with h | h
   · exact absurd h (by decide)
   · have := dec_byte _ _ h
     have h2 : (32 : UInt8).toNat = 32 := rfl
     omega
 · have := dec_byte _ _ hd
   have h2 : (32 : UInt8).toNat = 32 := rfl
   omega
theorem dec_inj {a b : Nat} (h : decDigits a = decDigits b) : a = b := by
 rw [← dVal_dec a, ← dVal_dec b, h]
theorem dec_no (u : Nat) (l : List UInt8) : decDigits u ≠ 45 :: l := fun e => by
 have := dec_byte u 45 (by rw [e]; simp)
 have h2 : (45 : UInt8).toNat = 45 := rfl
 omega
theorem itoa_inj {a b : Int} (h : itoa a = itoa b) : a = b := by
 unfold itoa at h
 split at h
 · split at h
   · injection h with h1 h2
     have := dec_inj h2
     omega
   · exact absurd h.symm (dec_no _ _)
 · split at h
   · exact absurd h (dec_no _ _)
   · have := dec_inj h
     omega
/-- what stands behind the first text -/
def kyT : List Int → List UInt8
 | [] => []
 | m :: l => 32 :: (itoa m ++ kyT l)
def kyL (s : DS) : List UInt8 := itoa (s.1 : Nat) ++ kyT s.2
theorem kyT_app : ∀ (l : List Int) (m : Int), kyT (l ++ [m]) = kyT l ++ (32 :: itoa m)
 | [], m => by simp [kyT]
 | x :: l, m => by
   have := kyT_app l m
   simp only [List.cons_append, kyT, this, List.append_assoc]
theorem kyT_head : ∀ l : List Int, kyT l = [] ∨ ∃ t, kyT l = 32 :: t
 | [] => .inl rfl
 | m :: l => .inr ⟨_, rfl⟩
theorem cut_eq {a b x y : List UInt8} (ha : ∀ d, d ∈ a → d ≠ 32) (hb : ∀ d, d ∈ b → d ≠ 32) (hx : x = [] ∨ ∃ t, x = 32 :: t) (hy : y = [] ∨ ∃ t, y = 32 :: t) (h : a ++ x = b ++ y) : a = b ∧ x = y := by
 induction a generalizing b with
 | nil =>
   cases b with
   | nil => exact ⟨rfl, h⟩
   | cons d b =>
     rcases hx with rfl | ⟨t, rfl⟩
     · simp at h
     · simp only [List.nil_append, List.cons_append, List.cons.injEq] at h
       exact absurd h.1.symm (hb d (by simp))
 | cons c a ih =>
   cases b with
   | nil =>
     rcases hy with rfl | ⟨t, rfl⟩
     · simp at h
     · simp only [List.nil_append, List.cons_append, List.cons.injEq] at h
       exact absurd h.1 (ha c (by simp))
   | cons d b =>
     simp only [List.cons_append, List.cons.injEq] at h
     have := ih (b := b) (fun d hd => ha d (by simp [hd])) (fun d hd => hb d (by simp [hd])) h.2
     exact ⟨by rw [h.1, this.1], this.2⟩
theorem kyT_inj : ∀ {l m : List Int}, kyT l = kyT m → l = m
 | [], [], _ => rfl
 | [], m :: ms, h => by simp [kyT] at h
 | l :: ls, [], h => by simp [kyT] at h
 | l :: ls, m :: ms, h => by
   simp only [kyT, List.cons.injEq, true_and] at h
   obtain ⟨h1, h2⟩ := cut_eq (itoa_byte l) (itoa_byte m) (kyT_head ls) (kyT_head ms) h
   rw [itoa_inj h1, kyT_inj h2]
theorem kyL_inj {s t : DS} (h : kyL s = kyL t) : s = t := by
 obtain ⟨h1, h2⟩ := cut_eq (itoa_byte _) (itoa_byte _) (kyT_head _) (kyT_head _) h
 have := itoa_inj h1
 exact Prod.ext (by omega) (kyT_inj h2)
end Go.Proofs.YtoiopnmphbnjaaaGreatDoor
namespace Go.Proofs.YtoiopnmphbnjaaaGreatDoor
set_option linter.unusedSimpArgs false
set_option linter.unusedVariables false
/-! ## gates, as the loops of both sides go through their arguments (plain) -/
theorem cnB_app : ∀ (l m : List Bool), cnB (l ++ m) = cnB l + cnB m
 | [], m => by simp [cnB]
 | b :: l, m => by
   have := cnB_app l m
   simp only [List.cons_append, cnB]
   omega
theorem cnB_le : ∀ l : List Bool, cnB l ≤ l.length
 | [] => Nat.le_refl _
 | b :: l => by
   have := cnB_le l
   simp only [cnB, List.length_cons]
   split <;> omega
theorem cnB_take {l : List Bool} {k : Nat} (hk : k < l.length) : cnB (l.take (k + 1)) = cnB (l.take k) + if l[k] then 1 else 0 := by
 rw [List.take_succ_eq_append_getElem hk, cnB_app]
 simp [cnB]
theorem gapB_app : ∀ (l : List Bool) (b : Bool), gapB (l ++ [b]) = (gapB l || (b && decide (cnB l < l.length)))
 | [], b => by cases b <;> simp [gapB, cnB]
 | c :: l, b => by
   have ih := gapB_app l b
   have h1 := cnB_le l
   cases c
   · simp only [List.cons_append, gapB, cnB_app, cnB]
     cases b <;> simp [List.length_cons, cnB] <;> omega
   · simp only [List.cons_append, gapB, cnB, List.length_cons]
     rw [ih]
     have : decide (1 + cnB l < l.length + 1) = decide (cnB l < l.length) := by rw [decide_eq_decide]; omega
     simp only [if_true, this]
theorem gapB_take {l : List Bool} {k : Nat} (hk : k < l.length) : gapB (l.take (k + 1)) = (gapB (l.take k) || (l[k] && decide (cnB (l.take k) < k))) := by
 rw [List.take_succ_eq_append_getElem hk, gapB_app]
 have : (l.take k).length = k := by rw [List.length_take]; omega
 rw [this]
theorem gapB_more {l : List Bool} : ∀ {n k : Nat}, k ≤ n → n ≤ l.length → gapB (l.take k) = true → gapB (l.take n) = true
 | 0, k, h, _, h1 => by rw [show k = 0 by omega] at h1; exact h1
 | n + 1, k, h, hn, h1 => by
   by_cases e : k = n + 1
   · rw [← e]; exact h1
   · rw [gapB_take (by omega), gapB_more (n := n) (by omega) (by omega) h1]; rfl
theorem cnB_all {l : List Bool} : ∀ {k : Nat}, k ≤ l.length → (∀ j (hj : j < l.length), j < k → l[j] = true) → cnB (l.take k) = k
 | 0, _, _ => rfl
 | k + 1, hk, h => by
   rw [cnB_take (by omega), cnB_all (by omega) fun j hj hj2 => h j hj (by omega), h k (by omega) (by omega)]; rfl
theorem cnB_gap {l : List Bool} {j : Nat} : ∀ {k : Nat}, (hj : j < k) → (hk : k ≤ l.length) → l[j]'(by omega) = false → cnB (l.take k) < k
 | k + 1, hj, hk, h => by
   rw [cnB_take (by omega)]
   by_cases e : j = k
   · subst e
     have := cnB_le (l.take j)
     rw [List.length_take] at this
     rw [h]; simp; omega
   · have := cnB_gap (k := k) (by omega) (by omega) h
     split <;> omega
theorem firF_at : ∀ {l : List Bool} {k : Nat} (hk : k < l.length), (∀ j (hj : j < l.length), j < k → l[j] = true) → l[k] = false → firF l = k
 | b :: l, 0, hk, _, h => by
   have : b = false := h
   subst this
   rfl
 | b :: l, k + 1, hk, h1, h => by
   have hb : b = true := h1 0 (by simp) (by omega)
   subst hb
   have hk2 : k < l.length := by simpa using hk
   have ih := firF_at (l := l) (k := k) hk2 (fun j hj hjk => by
     have := h1 (j + 1) (by simpa using hj) (by omega)
     simpa using this) (by simpa using h)
   simp only [firF, if_true, ih]
   rw [if_neg (by omega)]
   omega
theorem firF_none : ∀ {l : List Bool}, (∀ j (hj : j < l.length), l[j] = true) → firF l = -1
 | [], _ => rfl
 | b :: l, h => by
   have hb : b = true := h 0 (by simp)
   subst hb
   have ih := firF_none (l := l) fun j hj => by
     have := h (j + 1) (by simpa using hj)
     simpa using this
   simp only [firF, if_true, ih]
theorem firF_range : ∀ l : List Bool, -1 ≤ firF l ∧ firF l < l.length
 | [] => by simp [firF]
 | b :: l => by
   have ih := firF_range l
   simp only [firF, List.length_cons]
   split
   · split <;> omega
   · omega
theorem dyMem_range (kd : Nat) (l : List Bool) (old : Int) (h6 : kd = 6 → 0 ≤ old ∧ old ≤ 1) : (kd = 6 → 0 ≤ dyMem kd l old ∧ dyMem kd l old ≤ 1) ∧ (kd = 7 → -1 ≤ dyMem kd l old ∧ (dyMem kd l old < l.length)) ∧ (kd ≠ 6 → kd ≠ 7 → dyMem kd l old = 0) := by
 refine ⟨fun e => ?_, fun e => ?_, fun e1 e2 => ?_⟩
 · have := h6 e
   unfold dyMem dyBrk
   rw [if_pos e]
   split
   · omega
   · split <;> omega
 · unfold dyMem dyAct
   rw [if_neg (by omega), if_pos e]
   split
   · rename_i h
     refine ⟨by omega, ?_⟩
     have h2 := h.2
     rw [List.getD_eq_getElem?_getD] at h2
     rcases Nat.lt_or_ge old.toNat l.length with h3 | h3
     · omega
     · rw [List.getElem?_eq_none h3] at h2
       simp at h2
   · exact firF_range l
 · unfold dyMem
   rw [if_neg e1, if_neg e2]
/-- the value of a gate, kind by kind -/
theorem dyVal_and {kd : Nat} {kk memo : Int} {l : List Bool} (h : kd = 0 ∨ kd = 5 ∨ kd = 7) : dyVal kd kk l memo = (cnB l == l.length) := by
 unfold dyVal
 rw [if_neg (by omega), if_neg (by omega), if_neg (by omega), if_neg (by omega), if_neg (by omega), if_neg (by omega)]
theorem dyVal_1 (kk memo : Int) (l : List Bool) : dyVal 1 kk l memo = decide (0 < cnB l) := rfl
theorem dyVal_2 (kk memo : Int) (l : List Bool) : dyVal 2 kk l memo = decide (kk ≤ (cnB l : Int)) := rfl
theorem dyVal_3 (kk memo : Int) (l : List Bool) : dyVal 3 kk l memo = (cnB l == 0) := rfl
theorem dyVal_4 (kk memo : Int) (l : List Bool) : dyVal 4 kk l memo = (cnB l % 2 == 1) := rfl
theorem dyVal_6 (kk memo : Int) (l : List Bool) : dyVal 6 kk l memo = (cnB l == l.length && memo == 0) := rfl
theorem dyVal_8 (kk memo : Int) (l : List Bool) : dyVal 8 kk l memo = l.headD false := rfl
end Go.Proofs.YtoiopnmphbnjaaaGreatDoor
