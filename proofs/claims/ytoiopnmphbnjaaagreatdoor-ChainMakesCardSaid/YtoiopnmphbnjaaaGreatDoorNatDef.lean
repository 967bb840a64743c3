/- Contracts and lemmas for the given statements. Conditions: those alone that each names. -/
import Derived.Test.YtoiopnmphbnjaaaGreatDoorJBase
namespace Go.Proofs.YtoiopnmphbnjaaaGreatDoor
set_option linter.unusedSimpArgs false
open Go.RowKit
set_option linter.unusedVariables false

theorem vint {k : IntKind} {x y : Int} (h : x = y) : Value.int k x = .int k y := by rw [h]
/-! ## slices of words in memory -/
def wds (l : List Nat) : List Value := l.map fun x : Nat => .int .u32 (x : Int)
theorem wds_append (l m : List Nat) : wds (l ++ m) = wds l ++ wds m := List.map_append
theorem wds_take (l : List Nat) (k : Nat) : wds (l.take k) = (wds l).take k := List.map_take
theorem wds_drop (l : List Nat) (k : Nat) : wds (l.drop k) = (wds l).drop k := List.map_drop
theorem wds_set (l : List Nat) (k x : Nat) : wds (l.set k x) = (wds l).set k (.int .u32 (x : Int)) := List.map_set
theorem wds_get {l : List Nat} {k : Nat} (h : k < l.length) : (wds l)[k]? = some (.int .u32 ((l[k] : Nat) : Int)) := by
 simp [wds, h]
theorem wds_oneCell (l : List Nat) : ∀ u ∈ wds l, u.oneCell' = true := by
 intro u hu
 obtain ⟨x, _, rfl⟩ := List.mem_map.1 hu
 rfl
/-- a slice of words, wherever it lies, below block B -/
def RdW (w : World) (B : Nat) (A : Option Addr) (l : List Nat) : Prop := Rds w B 1 A l.length (wds l)
section
variable {w w' : World} {B B' : Nat} {A : Option Addr} {l : List Nat}
theorem RdW.at_ (h : RdW w B A l) {k : Nat} (hk : k < l.length) :
   ∃ b off, A = some ⟨b, off, none⟩ ∧ b < B ∧ w.cell? ⟨b, off + k, none⟩ = some (.int .u32 ((l[k] : Nat) : Int)) := by
 obtain ⟨b, off, e, hb, hc⟩ := h.2 (by omega)
 exact ⟨b, off, e, hb, hc _ _ (wds_get hk)⟩
theorem RdW.below (h : RdW w B A l) (hb : Below B w w') : RdW w' B A l := Rds.below h hb
theorem RdW.more (h : RdW w B A l) (hB : B ≤ B') : RdW w B' A l := Rds.more h hB
/-- whatever the world at hand, that keeps what was there -/
theorem RdW.on (h : RdW w B A l) (hb : Below B w w') (hB : B ≤ B') : RdW w' B' A l := (h.below hb).more hB
theorem RdW.take (h : RdW w B A l) {k : Nat} (hk : k ≤ l.length) : RdW w B A (l.take k) := by
 have := Rds.take h hk
 unfold RdW
 rw [List.length_take, Nat.min_eq_left hk, wds_take]
 simpa using this
theorem RdW.nil_ (w : World) (B : Nat) (A : Option Addr) : RdW w B A [] := Rds.nil_ w B 1 A
theorem RdW.drop (h : RdW w B A l) {k c : Nat} (hk : k ≤ l.length) (hc : l.length ≤ c) : RdW w B (if c = k then A else A.map (·.add k)) (l.drop k) := by
 have := Rds.cut h hk hc
 unfold RdW
 rw [List.length_drop, wds_drop]
 simpa using this
theorem RdW.new1 {g : Nat} (hg : g < B) {x : Nat} (h0 : w.cell? ⟨g, 0, none⟩ = some (.int .u32 (x : Int))) : RdW w B (some ⟨g, 0, none⟩) [x] :=
 ⟨rfl, fun _ => ⟨g, 0, rfl, hg, fun j u hu => by
   rw [Nat.zero_add]
   match j, hu with
   | 0, hu => simp [wds] at hu; subst hu; exact h0
   | j + 1, hu => simp [wds] at hu⟩⟩
theorem RdW.new2 {g : Nat} (hg : g < B) {x y : Nat} (h0 : w.cell? ⟨g, 0, none⟩ = some (.int .u32 (x : Int))) (h1 : w.cell? ⟨g, 1, none⟩ = some (.int .u32 (y : Int))) : RdW w B (some ⟨g, 0, none⟩) [x, y] :=
 ⟨rfl, fun _ => ⟨g, 0, rfl, hg, fun j u hu => by
   rw [Nat.zero_add]
   match j, hu with
   | 0, hu => simp [wds] at hu; subst hu; exact h0
   | 1, hu => simp [wds] at hu; subst hu; exact h1
   | j + 2, hu => simp [wds] at hu⟩⟩
end
theorem RdW.lower {w : World} {B B' g : Nat} {l : List Nat} (h : RdW w B (some ⟨g, 0, none⟩) l) (hg : g < B') : RdW w B' (some ⟨g, 0, none⟩) l :=
 ⟨h.1, fun hn => by
   obtain ⟨b, off, e, _, hc⟩ := h.2 hn
   injection e with e
   injection e with e1 e2
   subst e1 e2
   exact ⟨g, 0, rfl, hg, hc⟩⟩
theorem wordInfo : (Tryz.prog.info? 157).map (fun i => (i.zero, i.size, i.bytes)) = some (some (.int .u32 0), 1, 4) := by kernel_rfl
/-- the words that a call has made itself -/
def OwW (w : World) (base : Nat) (A : Option Addr) (c : Nat) (l : List Nat) : Prop := w.ownsRow base 157 1 (.slice A l.length c) l.length (wds l)
/-- .. in a row whose block is known -/
def OwG (w : World) (base g c : Nat) (l : List Nat) : Prop := w.ownsRow base 157 1 (.slice (some ⟨g, 0, none⟩) l.length c) l.length (wds l)
section
variable {w w1 : World} {base base' g c : Nat} {A : Option Addr} {l : List Nat}
theorem OwW.rd (h : OwW w base A c l) : RdW w w.heap.size A l := Rds.of_own h
theorem OwW.below (h : OwW w base A c l) (hb : Below w.heap.size w w1) : OwW w1 base A c l := own_below h hb
theorem OwW.base_ (h : OwW w base A c l) (hb : base' ≤ base) : OwW w base' A c l := own_base h hb
theorem OwW.alloc (h : OwW w base A c l) (o : Obj) : OwW (w.alloc o) base A c l := World.ownsRow.alloc h o
theorem OwW.nil_ (w : World) (base : Nat) : OwW w base none 0 [] := own_nil w base _ 1
theorem OwW.cap (h : OwW w base A c l) : l.length ≤ c := by
 obtain ⟨A', c', e, h2⟩ := own_form h
 injection e with _ _ e3
 omega
theorem OwG.rd (h : OwG w base g c l) : RdW w w.heap.size (some ⟨g, 0, none⟩) l := Rds.of_own h
theorem OwG.below (h : OwG w base g c l) (hb : Below w.heap.size w w1) : OwG w1 base g c l := own_below h hb
theorem OwG.lt (h : OwG w base g c l) : base ≤ g ∧ g < w.heap.size := World.ownsRow.lt h g rfl
theorem OwG.cell (h : OwG w base g c l) {k : Nat} (hk : k < l.length) : w.cell? ⟨g, k, none⟩ = some (.int .u32 ((l[k] : Nat) : Int)) := by
 rw [World.ownsRow.cellAt h k (by omega), wds_get hk]
theorem OwG.frozen (h : OwG w base g c l) (k : Nat) : w.frozen? ⟨g, k, none⟩ = false := World.ownsRow.frozenAt h k
theorem OwG.set (h : OwG w base g c l) (k x : Nat) : OwG (w.setCell ⟨g, k, none⟩ (.int .u32 (x : Int))) base g c (l.set k x) := by
 have := (World.ownsRow.stored h k (.int .u32 (x : Int))).1
 unfold OwG
 rw [List.length_set, wds_set]
 exact this
/-- .. and another row stays -/
theorem OwG.other (h : OwG w base g c l) {p : Addr} (hp : p.block ≠ g) (u : Value) : OwG (w.setCell p u) base g c l := by
 refine World.ownsRow.kept h (row := some p.block) ⟨rfl, rfl, rfl, by simp, fun k _ hk => Below.heap_setCell w p u k (fun e => hk (by rw [e]))⟩ (.inr ?_)
 intro e
 injection e with e
 exact hp e.symm
theorem OwG.keep (h : OwG w base g c l) {row : Option Nat} (hg : w.grownBy w1 row) (hne : some g ≠ row) : OwG w1 base g c l := World.ownsRow.kept h hg (.inr hne)
end
theorem OwG.of_made {w : World} {base g n : Nat} (h : w.ownsRow base 157 1 (.slice (some ⟨g, 0, none⟩) n n) n (madeCells (Value.int .u32 0).cells (n * 1)).toList) : OwG w base g n (List.replicate n 0) := by
 have e : (madeCells (Value.int .u32 0).cells (n * 1)).toList = wds (List.replicate n 0) := by
   rw [Nat.mul_one]
   show (madeCells #[Value.int .u32 0] n).toList = _
   rw [toList_madeCells_one]
   simp [wds]
 rw [e] at h
 unfold OwG
 simpa using h
/-- out := make([]uint32, n) -/
theorem wpList_makeW {w : World} {ops : Array Oper} {rest : List Oper} {o : Oper} {a : Act} {Q : Exit → Act → World → Prop}
   (hg : o.guard = none) (l c : Operand) (hop : o.op = Op.makeSlice 54 l c)
   (base n : Nat) (L C : Int) (hl : a.eval l = .int .i64 L) (hc : a.eval c = .int .i64 C) (hL : L = (n : Int)) (hC : C = (n : Int)) (hn : n ≤ 1099511627776) (hb : base ≤ w.heap.size)
   (h : ∀ w', OwG w' base w.heap.size n (List.replicate n 0) → Below w.heap.size w w' → wpList Tryz.prog ops Q rest (a.put o.dst (.slice (some ⟨w.heap.size, 0, none⟩) n n)) w') : wpList Tryz.prog ops Q (o :: rest) a w := by
 obtain ⟨i, hi, hz, hs, hby⟩ := info_parts wordInfo
 refine wpList_make_full w hg l c 54 hop base 157 i (.int .u32 0) 1 Tryz.underlying54 hi hz hs .i64 .i64 L C n hl hc hL hC (by rw [hby]; omega) (by unfold maxLen; omega) hb ?_
 intro w' h1 h2
 exact h w' (OwG.of_made h1) ((Below.refl _ _).grown h2 (Nat.le_refl _) (by intro k hk; cases hk))
/-- out = append(out, src...) -/
theorem wpList_appW {w : World} {ops : Array Oper} {rest : List Oper} {o : Oper} {a : Act} {Q : Exit → Act → World → Prop} (hgd : o.guard = none) (s x : Operand)
   (ho : o.op = .call { callee := .builtin .append, args := #[s, x], argTypes := #[54, 54] })
   (base : Nat) (A0 : Option Addr) (c0 n0 : Nat) (l : List Nat) (hn0 : l.length = n0) (hs : a.eval s = .slice A0 n0 c0) (hown : OwW w base A0 c0 l)
   (B : Nat) (A : Option Addr) (c n : Nat) (m : List Nat) (hn : m.length = n) (hx : a.eval x = .slice A n c) (hr : RdW w B A m)
   (hlen : n0 + n ≤ 1099511627776) (hbase : base ≤ w.heap.size)
   (h : ∀ A' c' w', OwW w' base A' c' (l ++ m) → Below base w w' → w.grownBy w' (Value.slice A0 l.length c0).ownBlock → wpList Tryz.prog ops Q rest (a.put o.dst (.slice A' (n0 + n) c')) w') : wpList Tryz.prog ops Q (o :: rest) a w := by
 subst hn0 hn
 refine wpList_app hgd s x 54 ho base 157 _ 1 4 Tryz.underlying54 wordInfo rfl (by decide) A0 c0 l.length (wds l) hs hown B A m.length c (wds m) hx hr (wds_oneCell _) (by unfold maxLen; omega) (by omega) hbase ?_
 intro A' c' w' h1 h2 h3 h4
 refine h A' c' w' ?_ h2 h3
 unfold OwW
 rw [wds_append, List.length_append]
 exact h1
theorem OwW.lit0 {w : World} {base : Nat} (hb : base ≤ w.heap.size) : OwW (w.alloc (.cells #[] 157)) base (some ⟨w.heap.size, 0, none⟩) 0 [] :=
 World.ownsRow_lit w #[] 0 hb (by unfold maxLen; omega) (by simp)
theorem OwW.lit1 {w : World} {base x : Nat} (hb : base ≤ w.heap.size) : OwW (w.alloc (.cells #[.int .u32 (x : Int)] 157)) base (some ⟨w.heap.size, 0, none⟩) 1 [x] :=
 World.ownsRow_lit w #[.int .u32 (x : Int)] 1 hb (by unfold maxLen; omega) (by simp)
end Go.Proofs.YtoiopnmphbnjaaaGreatDoor
