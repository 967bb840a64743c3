/- Contracts and lemmas for the given statements. Conditions: those alone that each names. -/
import Derived.Test.YtoiopnmphbnjaaaGreatDoorJChW1
import Derived.Test.YtoiopnmphbnjaaaGreatDoorJBase
import Derived.Test.YtoiopnmphbnjaaaGreatDoorJLinRow
namespace Go.Proofs.YtoiopnmphbnjaaaGreatDoor
open Go.RowKit
set_option linter.unusedSimpArgs false
set_option linter.unusedVariables false
set_option maxRecDepth 20000
attribute [local irreducible] nv wp win plainB validR valR canR
/-! ## package chain: exit, Exit -/
/-- a store into a block of other cells than words -/
theorem Kp.store {b0 : Nat} {w w2 : World} (h : Kp b0 w w2) {p : Addr} {cur : Array Value} {e : TypeId} {fz : Nat × Nat} (hg : w2.heap[p.block]? = some (.cells cur e fz)) (he : e ≠ 157) (hb : b0 ≤ p.block) (u : Value) : Kp b0 w (w2.setCell p u) := by
 refine h.trans ⟨rfl, rfl, rfl, by simp, fun k hk hw => Below.heap_setCell w2 p u k ?_⟩
 intro e1
 rcases hw with hw | ⟨cur', fz', hw⟩
 · omega
 · rw [e1, hg] at hw
   injection hw with hw
   injection hw with _ hw _
   exact he hw
/-- what kind of block it is -/
def RatB (w : World) (g : Nat) : Prop := ∃ cur fz, w.heap[g]? = some (.cells cur 56 fz)
theorem RatB.below {w w' : World} {g : Nat} {B : Nat} (h : RatB w g) (hb : Below B w w') (hg : g < B) : RatB w' g := by
 obtain ⟨cur, fz, h⟩ := h
 exact ⟨cur, fz, (hb.block g hg).trans h⟩
theorem RatB.new (w : World) (cs : Array Value) : RatB (w.alloc (.cells cs 56)) w.heap.size := ⟨cs, _, heap_alloc_new w _⟩
theorem RatB.set {w : World} {g : Nat} (h : RatB w g) (o : Nat) (u : Value) : RatB (w.setCell ⟨g, o, none⟩ u) g := by
 obtain ⟨cur, fz, h⟩ := h
 refine ⟨cur.setIfInBounds o u, fz, ?_⟩
 simp [World.setCell, Array.getElem?_modify, h]
theorem Kp.store3 {b0 g : Nat} {w : World} (hg : RatB w g) (hb : b0 ≤ g) (a b d : Value) : Kp b0 w (((w.setCell ⟨g, 0, none⟩ a).setCell ⟨g, 1, none⟩ b).setCell ⟨g, 2, none⟩ d) := by
 have h1 := hg.set 0 a
 have h2 := h1.set 1 b
 obtain ⟨_, _, g0⟩ := hg
 obtain ⟨_, _, g1⟩ := h1
 obtain ⟨_, _, g2⟩ := h2
 exact (((Kp.refl b0 w).store (p := ⟨g, 0, none⟩) g0 (by decide) hb a).store (p := ⟨g, 1, none⟩) g1 (by decide) hb b).store (p := ⟨g, 2, none⟩) g2 (by decide) hb d
/-- three cells are stored -/
theorem set3 {w : World} {g o : Nat} {a b d a' b' d' : Value} (h0 : w.cell? ⟨g, o, none⟩ = some a') (h1 : w.cell? ⟨g, o + 1, none⟩ = some b') (h2 : w.cell? ⟨g, o + 2, none⟩ = some d') :
   (((w.setCell ⟨g, o, none⟩ a).setCell ⟨g, o + 1, none⟩ b).setCell ⟨g, o + 2, none⟩ d).cell? ⟨g, o, none⟩ = some a ∧ (((w.setCell ⟨g, o, none⟩ a).setCell ⟨g, o + 1, none⟩ b).setCell ⟨g, o + 2, none⟩ d).cell? ⟨g, o + 1, none⟩ = some b ∧ (((w.setCell ⟨g, o, none⟩ a).setCell ⟨g, o + 1, none⟩ b).setCell ⟨g, o + 2, none⟩ d).cell? ⟨g, o + 2, none⟩ = some d := by
 have n1 : (⟨g, o + 1, none⟩ : Addr) ≠ ⟨g, o, none⟩ := fun e => by injection e with _ e; omega
 have n2 : (⟨g, o + 2, none⟩ : Addr) ≠ ⟨g, o, none⟩ := fun e => by injection e with _ e; omega
 have n3 : (⟨g, o + 2, none⟩ : Addr) ≠ ⟨g, o + 1, none⟩ := fun e => by injection e with _ e; omega
 refine ⟨?_, ?_, ?_⟩
 · rw [World.cell?_setCell_other (h := n2), World.cell?_setCell_other (h := n1)]; exact World.cell?_setCell_same _ _ _ h0
 · rw [World.cell?_setCell_other (h := n3)]; exact World.cell?_setCell_same (u := b') _ _ _ (by rw [World.cell?_setCell_other (h := Ne.symm n1)]; exact h1)
 · exact World.cell?_setCell_same (u := d') _ _ _ (by rw [World.cell?_setCell_other (h := Ne.symm n3), World.cell?_setCell_other (h := Ne.symm n2)]; exact h2)
end Go.Proofs.YtoiopnmphbnjaaaGreatDoor
namespace Go.Proofs.YtoiopnmphbnjaaaGreatDoor
open Go.RowKit
set_option linter.unusedSimpArgs false
set_option linter.unusedVariables false
/-! ## a dynamic tree in memory -/
theorem Rds.on {w w' : World} {s n : Nat} {A : Option Addr} {xs : List Value} (h : Rds w w.heap.size s A n xs) (hb : Below w.heap.size w w') (hz : w.heap.size ≤ w'.heap.size) : Rds w' w'.heap.size s A n xs := (h.below hb).more hz
def zsD (l : List Int) : List Value := l.map fun x => .int .i64 x
theorem zsD_length (l : List Int) : (zsD l).length = l.length := List.length_map _
theorem zsD_get {l : List Int} {k : Nat} (h : k < l.length) : (zsD l)[k]? = some (.int .i64 l[k]) := by
 unfold zsD
 rw [List.getElem?_map, List.getElem?_eq_getElem h]; rfl
/-- a tree as it came in -/
structure DyR where
 v : Int
 ng : Nat
 kd : Nat → Int
 kk : Nat → Int
 ar : Nat → List Int
 dor : Nat → Rw
 top : Int
 nf : Nat
 fl : Nat → Rw
 nr : Nat
 rp : Nat → Rw
def gateC (kd kk : Int) (A : Option Addr) (n c : Nat) (U : Value) : List Value := .int .i64 kd :: .int .i64 kk :: .slice A n c :: c3 U
def gatesC (r : DyR) (V : Nat → Option Addr × Nat) (U : Nat → Value) (n : Nat) : List Value := (List.range n).flatMap fun k => gateC (r.kd k) (r.kk k) (V k).1 (r.ar k).length (V k).2 (U k)
abbrev dyv (r : DyR) (AG : Option Addr) (cg : Nat) (AF : Option Addr) (cf : Nat) (AR : Option Addr) (cr : Nat) : Value := .agg #[.int .i64 r.v, .slice AG r.ng cg, .int .i64 r.top, .slice AF r.nf cf, .slice AR r.nr cr]
theorem gatesC_succ (r : DyR) (V : Nat → Option Addr × Nat) (U : Nat → Value) (n : Nat) : gatesC r V U (n + 1) = gatesC r V U n ++ gateC (r.kd n) (r.kk n) (V n).1 (r.ar n).length (V n).2 (U n) := by
 unfold gatesC
 rw [List.range_succ, List.flatMap_append]
 simp
theorem gateC_len {kd kk : Int} {A : Option Addr} {n c : Nat} {U : Value} (h : isR U) : (gateC kd kk A n c U).length = 6 := by
 show (c3 U).length + 1 + 1 + 1 = 6
 rw [h.len]
theorem gatesC_length {r : DyR} {V : Nat → Option Addr × Nat} {U : Nat → Value} : ∀ {n : Nat}, (∀ k, k < n → isR (U k)) → (gatesC r V U n).length = n * 6
 | 0, _ => rfl
 | n + 1, h => by
   rw [gatesC_succ, List.length_append, gatesC_length (fun k hk => h k (by omega)), gateC_len (h n (by omega))]
   omega
theorem gatesC_get {r : DyR} {V : Nat → Option Addr × Nat} {U : Nat → Value} {k : Nat} {s : Bool} {A : Option Addr} {a c : Nat} {B : Option Addr} {b d : Nat} (e : U k = rv s A a c B b d) : ∀ {n : Nat}, (∀ k, k < n → isR (U k)) → k < n →
   (gatesC r V U n)[k * 6]? = some (.int .i64 (r.kd k)) ∧ (gatesC r V U n)[k * 6 + 1]? = some (.int .i64 (r.kk k)) ∧ (gatesC r V U n)[k * 6 + 2]? = some (.slice (V k).1 (r.ar k).length (V k).2) ∧ (gatesC r V U n)[k * 6 + 3]? = some (.bool s) ∧ (gatesC r V U n)[k * 6 + 4]? = some (.slice A a c) ∧ (gatesC r V U n)[k * 6 + 5]? = some (.slice B b d)
 | n + 1, h, hk => by
   have hl : (gatesC r V U n).length = n * 6 := gatesC_length fun k hk => h k (by omega)
   rw [gatesC_succ]
   by_cases e1 : k = n
   · subst e1
     rw [e]
     refine ⟨?_, ?_, ?_, ?_, ?_, ?_⟩ <;> (rw [List.getElem?_append_right (by omega), hl])
     · rw [show k * 6 - k * 6 = 0 by omega]; rfl
     · rw [show k * 6 + 1 - k * 6 = 1 by omega]; rfl
     · rw [show k * 6 + 2 - k * 6 = 2 by omega]; rfl
     · rw [show k * 6 + 3 - k * 6 = 3 by omega]; rfl
     · rw [show k * 6 + 4 - k * 6 = 4 by omega]; rfl
     · rw [show k * 6 + 5 - k * 6 = 5 by omega]; rfl
   · have ih := gatesC_get (r := r) (V := V) e (n := n) (fun k hk => h k (by omega)) (by omega)
     refine ⟨?_, ?_, ?_, ?_, ?_, ?_⟩ <;> rw [List.getElem?_append_left (by omega)]
     · exact ih.1
     · exact ih.2.1
     · exact ih.2.2.1
     · exact ih.2.2.2.1
     · exact ih.2.2.2.2.1
     · exact ih.2.2.2.2.2
structure DyI (w : World) (AG AF AR : Option Addr) (r : DyR) : Prop where
 ga : ∃ V U, Rds w w.heap.size 6 AG r.ng (gatesC r V U r.ng) ∧ ∀ k, k < r.ng → Rds w w.heap.size 1 (V k).1 (r.ar k).length (zsD (r.ar k)) ∧ RdS w w.heap.size (U k) (r.dor k) ∧ (r.ar k).length ≤ (V k).2
 fa : RowA w w.heap.size AF r.nf r.fl
 ra : RowA w w.heap.size AR r.nr r.rp
theorem RdS.belowS {w w' : World} {v : Value} {r : Rw} (h : RdS w w.heap.size v r) (hb : Below w.heap.size w w') : RdS w' w'.heap.size v r := (h.kp (Kp.of_below hb)).base hb.size
theorem RowA.belowS {w w' : World} {A : Option Addr} {n : Nat} {R : Nat → Rw} (h : RowA w w.heap.size A n R) (hb : Below w.heap.size w w') : RowA w' w'.heap.size A n R := by
 obtain ⟨V, h1, h2⟩ := h
 exact ⟨V, fun k hk => (h1 k hk).belowS hb, h2.on hb hb.size⟩
section
variable {w w' : World} {AG AF AR : Option Addr} {r : DyR}
theorem DyI.below (h : DyI w AG AF AR r) (hb : Below w.heap.size w w') : DyI w' AG AF AR r := by
 obtain ⟨⟨V, U, h1, h2⟩, h3, h4⟩ := h
 exact ⟨⟨V, U, h1.on hb hb.size, fun k hk => ⟨(h2 k hk).1.on hb hb.size, (h2 k hk).2.1.belowS hb, (h2 k hk).2.2⟩⟩, h3.belowS hb, h4.belowS hb⟩
theorem DyI.at_ (h : DyI w AG AF AR r) {k : Nat} (hk : k < r.ng) : ∃ b off A1 c1 s A2 n2 c2 A3 n3 c3, AG = some ⟨b, off, none⟩ ∧ b < w.heap.size ∧ w.cell? ⟨b, off + k * 6, none⟩ = some (.int .i64 (r.kd k)) ∧ w.cell? ⟨b, off + k * 6 + 1, none⟩ = some (.int .i64 (r.kk k)) ∧ w.cell? ⟨b, off + k * 6 + 2, none⟩ = some (.slice A1 (r.ar k).length c1)
   ∧ w.cell? ⟨b, off + k * 6 + 3, none⟩ = some (.bool s) ∧ w.cell? ⟨b, off + k * 6 + 4, none⟩ = some (.slice A2 n2 c2) ∧ w.cell? ⟨b, off + k * 6 + 5, none⟩ = some (.slice A3 n3 c3) ∧ Rds w w.heap.size 1 A1 (r.ar k).length (zsD (r.ar k)) ∧ RdS w w.heap.size (rv s A2 n2 c2 A3 n3 c3) (r.dor k) ∧ (r.ar k).length ≤ c1 := by
 obtain ⟨⟨V, U, h1, h2⟩, -, -⟩ := h
 obtain ⟨b, off, hA, hb, hc⟩ := h1.2 (by omega)
 obtain ⟨s, A2, n2, c2, A3, n3, c3', e⟩ := (h2 k hk).2.1.form
 obtain ⟨g0, g1, g2, g3, g4, g5⟩ := gatesC_get (r := r) (V := V) e (fun k hk => (h2 k hk).2.1.isR) hk
 refine ⟨b, off, (V k).1, (V k).2, s, A2, n2, c2, A3, n3, c3', hA, hb, hc _ _ g0, ?_, ?_, ?_, ?_, ?_, (h2 k hk).1, by rw [← e]; exact (h2 k hk).2.1, (h2 k hk).2.2⟩
 · rw [Nat.add_assoc]; exact hc _ _ g1
 · rw [Nat.add_assoc]; exact hc _ _ g2
 · rw [Nat.add_assoc]; exact hc _ _ g3
 · rw [Nat.add_assoc]; exact hc _ _ g4
 · rw [Nat.add_assoc]; exact hc _ _ g5
end
theorem zsD_at {w W : World} {B : Nat} {A : Option Addr} {l : List Int} (h : Rds w B 1 A l.length (zsD l)) (hb : Below B w W) {k : Nat} (hk : k < l.length) : ∃ b off, A = some ⟨b, off, none⟩ ∧ b < B ∧ W.cell? ⟨b, off + k, none⟩ = some (.int .i64 l[k]) := by
 obtain ⟨b, off, hA, hb1, hc⟩ := h.2 (by omega)
 exact ⟨b, off, hA, hb1, (hb.cell (p := ⟨b, _, none⟩) hb1).trans (hc k _ (zsD_get hk))⟩
end Go.Proofs.YtoiopnmphbnjaaaGreatDoor
namespace Go.Proofs.YtoiopnmphbnjaaaGreatDoor
open Go.RowKit
set_option linter.unusedSimpArgs false
set_option linter.unusedVariables false
/-! ## what is wrong with a dynamic tree (plain) -/
def rtOk (R : Nat → Rw) (k : Nat) : Bool := validR (R k) && decide (0 ≤ valR (R k))
def rtsOk (R : Nat → Rw) (n : Nat) : Bool := (List.range n).all (rtOk R)
theorem rtsOk_f {R : Nat → Rw} {n k : Nat} (hk : k < n) (h : rtOk R k = false) : rtsOk R n = false := by
 unfold rtsOk
 rw [List.all_eq_false]
 exact ⟨k, by simpa using hk, by rw [h]; decide⟩
theorem rtsOk_t {R : Nat → Rw} {n : Nat} (h : ∀ k, k < n → rtOk R k = true) : rtsOk R n = true := by
 unfold rtsOk
 rw [List.all_eq_true]
 exact fun k hk => h k (by simpa using hk)
theorem rtsOk_at {R : Nat → Rw} {n k : Nat} (h : rtsOk R n = true) (hk : k < n) : rtOk R k = true := by
 unfold rtsOk at h
 rw [List.all_eq_true] at h
 exact h k (by simpa using hk)
def dgAg (kd : Int) (n : Nat) : Bool := if kd = 3 then n == 1 else if kd = 5 then n == 2 else if kd = 6 ∨ kd = 7 ∨ kd = 8 then decide (2 ≤ n ∧ n ≤ 16) else decide (1 ≤ n ∧ n ≤ 16)
theorem dgAg_len {kd : Int} {n : Nat} (h : dgAg kd n = true) : 1 ≤ n ∧ n ≤ 16 := by
 unfold dgAg at h
 split at h
 · simp at h; omega
 · split at h
   · simp at h; omega
   · split at h
     · simp at h; omega
     · simp at h; omega
theorem dgAg_two {kd : Int} {n : Nat} (hk : kd = 6 ∨ kd = 7 ∨ kd = 8) (h : dgAg kd n = true) : 2 ≤ n := by
 unfold dgAg at h
 rw [if_neg (by omega), if_neg (by omega), if_pos hk] at h
 simp at h; omega
def dgIx (m : Int) (l : List Int) : Bool := l.all fun a => decide (0 ≤ a ∧ a < m)
theorem dgIx_f {m : Int} {l : List Int} {k : Nat} (hk : k < l.length) (h : ¬ (0 ≤ l[k] ∧ l[k] < m)) : dgIx m l = false := by
 unfold dgIx
 rw [List.all_eq_false]
 exact ⟨l[k], List.getElem_mem hk, by simpa using h⟩
theorem dgIx_t {m : Int} {l : List Int} (h : ∀ q (hq : q < l.length), 0 ≤ l[q] ∧ l[q] < m) : dgIx m l = true := by
 unfold dgIx
 rw [List.all_eq_true]
 intro a ha
 obtain ⟨q, hq, rfl⟩ := List.getElem_of_mem ha
 simpa using h q hq
theorem dgIx_at {m : Int} {l : List Int} (h : dgIx m l = true) {a : Int} (ha : a ∈ l) : 0 ≤ a ∧ a < m := by
 unfold dgIx at h
 rw [List.all_eq_true] at h
 simpa using h a ha
/-- an argument that must be an event -/
def tyK (kd v : Int) (l : List Int) (k : Nat) : Bool := decide (l.getD k 0 < v ∨ ¬ (kd = 7 ∨ kd = 8 ∧ 0 < k))
def tyB (kd v : Int) (l : List Int) : Bool := (List.range l.length).all (tyK kd v l)
theorem tyB_f {kd v : Int} {l : List Int} {k : Nat} (hk : k < l.length) (h : tyK kd v l k = false) : tyB kd v l = false := by
 unfold tyB
 rw [List.all_eq_false]
 exact ⟨k, by simpa using hk, by rw [h]; decide⟩
theorem tyB_t {kd v : Int} {l : List Int} (h : ∀ k, k < l.length → tyK kd v l k = true) : tyB kd v l = true := by
 unfold tyB
 rw [List.all_eq_true]
 exact fun k hk => h k (by simpa using hk)
theorem tyB_at {kd v : Int} {l : List Int} {k : Nat} (h : tyB kd v l = true) (hk : k < l.length) : tyK kd v l k = true := by
 unfold tyB at h
 rw [List.all_eq_true] at h
 exact h k (by simpa using hk)
/-- an element that stands in the first list or ahead -/
def dupB : List Int → List Int → Bool
 | _, [] => false
 | sp, a :: l => sp.contains a || dupB (sp ++ [a]) l
theorem dupB_take {sp l : List Int} {k : Nat} (hk : k < l.length) : dupB sp (l.take (k + 1)) = (dupB sp (l.take k) || (sp ++ l.take k).contains l[k]) := by
 induction l generalizing sp k with
 | nil => simp at hk
 | cons a l ih =>
   cases k with
   | zero => simp [dupB]
   | succ k =>
     have hk' : k < l.length := by simpa using hk
     simp only [List.take_succ_cons, dupB, List.getElem_cons_succ]
     rw [ih hk', Bool.or_assoc]
     simp
theorem dupB_more {sp l : List Int} : ∀ {k : Nat}, dupB sp (l.take k) = true → dupB sp l = true := by
 induction l generalizing sp with
 | nil => intro k h; simpa using h
 | cons a l ih =>
   intro k h
   cases k with
   | zero => simp [dupB] at h
   | succ k =>
     simp only [List.take_succ_cons, dupB, Bool.or_eq_true] at h ⊢
     rcases h with h | h
     · exact .inl h
     · exact .inr (ih h)
def zeR (r : Rw) : Bool := !r.1 && (r.2.1.length == 0 && r.2.2.length == 0)
def prR (r : Rw) : Bool := validR r && decide (0 ≤ valR r ∧ valR r ≤ 1)
/-- the last parts: K and the share -/
def gkE (kd kk : Int) (n : Nat) (r : Rw) : Int :=
 if kd = 2 ∧ ¬ (1 ≤ kk ∧ kk ≤ n) then 3 else if kd ≠ 2 ∧ kk ≠ 0 then 2 else if kd = 7 ∧ prR r = false then 3 else if kd ≠ 7 ∧ zeR r = false then 2 else 0
/-- the number of a gate's error; sp: the events of the spare gates before -/
def gaE (v m : Int) (sp : List Int) (kd kk : Int) (l : List Int) (r : Rw) : Int :=
 if ¬ (0 ≤ kd ∧ kd ≤ 8) then 7 else if dgAg kd l.length = false then 11 else if dgIx m l = false then 10 else if tyB kd v l = false then 7 else if kd = 7 ∧ dupB sp l = true then 6 else gkE kd kk l.length r
/-- the events of the first i gates that are spare gates -/
def spL (r : DyR) : Nat → List Int
 | 0 => []
 | i + 1 => if r.kd i = 7 then spL r i ++ r.ar i else spL r i
def DyR.ga (r : DyR) (i : Nat) : Int := gaE r.v (r.v + i) (spL r i) (r.kd i) (r.kk i) (r.ar i) (r.dor i)
def gsE (r : DyR) : Nat → Int
 | 0 => 0
 | i + 1 => if gsE r i = 0 then r.ga i else gsE r i
def codeD (r : DyR) : Int :=
 if ¬ (1 ≤ r.v ∧ r.v ≤ 24) then 3 else if 64 < r.ng then 4 else if ¬ ((r.nf : Int) = r.v ∧ (r.nr : Int) = r.v) then 11 else if rtsOk r.fl r.nf = false then 3 else if rtsOk r.rp r.nr = false then 3 else if gsE r r.ng ≠ 0 then gsE r r.ng else if ¬ (0 ≤ r.top ∧ r.top < r.v + r.ng) then 10 else 0
theorem gsE_stay {r : DyR} {e : Int} {k : Nat} (he : e ≠ 0) : ∀ {n : Nat}, k ≤ n → gsE r k = e → gsE r n = e
 | 0, h, h1 => by rw [show k = 0 by omega] at h1; exact h1
 | n + 1, h, h1 => by
   by_cases e1 : k = n + 1
   · rw [← e1]; exact h1
   · have := gsE_stay he (n := n) (by omega) h1
     rw [gsE, this, if_neg he]
theorem gsE_err {r : DyR} {k : Nat} (h : gsE r k = 0) (hc : r.ga k ≠ 0) (hk : k < r.ng) : gsE r r.ng = r.ga k := by
 refine gsE_stay hc (k := k + 1) (by omega) ?_
 rw [gsE, if_pos h]
theorem gsE_next {r : DyR} {k : Nat} (h : gsE r k = 0) (hc : r.ga k = 0) : gsE r (k + 1) = 0 := by rw [gsE, if_pos h, hc]
theorem gsE_zero {r : DyR} : ∀ {n : Nat}, gsE r n = 0 → ∀ j, j < n → r.ga j = 0
 | n + 1, h, j, hj => by
   rw [gsE] at h
   by_cases h1 : gsE r n = 0
   · rw [if_pos h1] at h
     by_cases e : j = n
     · rw [e]; exact h
     · exact gsE_zero h1 j (by omega)
   · rw [if_neg h1] at h; exact absurd h h1
/-- what a tree without an error has -/
structure DyOk (r : DyR) : Prop where
 v1 : 1 ≤ r.v
 v2 : r.v ≤ 24
 ng : r.ng ≤ 64
 nf : (r.nf : Int) = r.v
 nr : (r.nr : Int) = r.v
 fl : ∀ k, k < r.nf → rtOk r.fl k = true
 rp : ∀ k, k < r.nr → rtOk r.rp k = true
 ga : ∀ k, k < r.ng → r.ga k = 0
 t0 : 0 ≤ r.top
 t1 : r.top < r.v + r.ng
theorem codeD_ok {r : DyR} (h : codeD r = 0) : DyOk r := by
 unfold codeD at h
 split at h
 · simp at h
 · rename_i h1
   split at h
   · simp at h
   · rename_i h2
     split at h
     · simp at h
     · rename_i h3
       split at h
       · simp at h
       · rename_i h4
         split at h
         · simp at h
         · rename_i h5
           split at h
           · rename_i h6; exact absurd h h6
           · rename_i h6
             split at h
             · simp at h
             · rename_i h7
               exact ⟨by omega, by omega, by omega, by omega, by omega, fun k hk => rtsOk_at (by simpa using h4) hk, fun k hk => rtsOk_at (by simpa using h5) hk, gsE_zero (by simpa using h6), by omega, by omega⟩
structure GaOk (v m : Int) (sp : List Int) (kd kk : Int) (l : List Int) (r : Rw) : Prop where
 hkd : 0 ≤ kd ∧ kd ≤ 8
 ln : dgAg kd l.length = true
 ix : ∀ a, a ∈ l → 0 ≤ a ∧ a < m
 ty : ∀ k, k < l.length → (kd = 7 ∨ kd = 8 ∧ 0 < k) → l.getD k 0 < v
 dup : kd = 7 → dupB sp l = false
 hkk : kd = 2 → 1 ≤ kk ∧ kk ≤ l.length
 k0 : kd ≠ 2 → kk = 0
 pr : kd = 7 → prR r = true
 ze : kd ≠ 7 → zeR r = true
theorem gaE_ok {v m : Int} {sp : List Int} {kd kk : Int} {l : List Int} {r : Rw} (h : gaE v m sp kd kk l r = 0) : GaOk v m sp kd kk l r := by
 unfold gaE at h
 split at h
 · simp at h
 · rename_i h1
   split at h
   · simp at h
   · rename_i h2
     split at h
     · simp at h
     · rename_i h3
       split at h
       · simp at h
       · rename_i h4
         split at h
         · simp at h
         · rename_i h5
           unfold gkE at h
           split at h
           · simp at h
           · rename_i h6
             split at h
             · simp at h
             · rename_i h7
               split at h
               · simp at h
               · rename_i h8
                 split at h
                 · simp at h
                 · rename_i h9
                   refine ⟨by omega, by simpa using h2, fun a ha => dgIx_at (by simpa using h3) ha, fun k hk hq => ?_, fun e => ?_, fun e => ?_, fun e => ?_, fun e => ?_, fun e => ?_⟩
                   · have := tyB_at (by simpa using h4) hk
                     unfold tyK at this
                     simp only [decide_eq_true_iff] at this
                     rcases this with h | h
                     · exact h
                     · exact absurd hq h
                   · cases hd : dupB sp l
                     · rfl
                     · exact absurd ⟨e, hd⟩ h5
                   · have := h6; omega
                   · have := h7; omega
                   · cases hd : prR r
                     · exact absurd ⟨e, hd⟩ h8
                     · rfl
                   · cases hd : zeR r
                     · exact absurd ⟨e, hd⟩ h9
                     · rfl
/-- the tree as a plain one -/
def DyR.dy (r : DyR) : Dy where
 v := r.v.toNat
 ng := r.ng
 kd i := (r.kd i).toNat
 kk := r.kk
 ar i := (r.ar i).map Int.toNat
 top := r.top.toNat
def DyR.tr (r : DyR) : Tr where
 d := r.dy
 dor k := valR (r.dor k)
 fl k := valR (r.fl k)
 rp k := valR (r.rp k)
section
variable {r : DyR} {k : Nat}
theorem DyOk.gate (h : DyOk r) (hk : k < r.ng) : GaOk r.v (r.v + k) (spL r k) (r.kd k) (r.kk k) (r.ar k) (r.dor k) := gaE_ok (h.ga k hk)
theorem DyOk.vN (h : DyOk r) : (r.dy.v : Int) = r.v := by
 show ((r.v.toNat : Nat) : Int) = r.v
 have := h.v1
 omega
theorem DyOk.dok (h : DyOk r) : r.dy.Ok where
 ar i hi a ha := by
   obtain ⟨z, hz, rfl⟩ := List.mem_map.1 (show a ∈ (r.ar i).map Int.toNat from ha)
   have := (h.gate hi).ix z hz
   have hv := h.vN
   omega
 ev i hi hk a ha := by
   have hg := h.gate hi
   have hv := h.vN
   have hk8 : r.kd i = 8 := by
     have h1 : (r.kd i).toNat = 8 := hk
     have := hg.hkd
     omega
   have ht : a ∈ ((r.ar i).map Int.toNat).tail := ha
   obtain ⟨q, hq, e⟩ := List.getElem_of_mem ht
   rw [List.length_tail, List.length_map] at hq
   rw [List.getElem_tail, List.getElem_map] at e
   have h3 := hg.ty (q + 1) (by omega) (.inr ⟨hk8, by omega⟩)
   rw [List.getD_eq_getElem?_getD, List.getElem?_eq_getElem (by omega)] at h3
   have h4 := hg.ix _ (List.getElem_mem (by omega : q + 1 < (r.ar i).length))
   have h5 : (r.ar i)[q + 1] < r.v := h3
   omega
 ne i hi := by
   have := (dgAg_len (h.gate hi).ln).1
   show ((r.ar i).map Int.toNat).length ≠ 0
   rw [List.length_map]
   omega
 top := by
   show r.top.toNat < r.dy.v + r.ng
   have := h.t0
   have := h.t1
   have := h.vN
   omega
end
end Go.Proofs.YtoiopnmphbnjaaaGreatDoor
namespace Go.Proofs.YtoiopnmphbnjaaaGreatDoor
open Go.RowKit
set_option linter.unusedSimpArgs false
set_option linter.unusedVariables false
/-! ## bits, cells, rows of values: what the walks of dynamic trees need -/
theorem ybit (t k : Nat) : t / 2 ^ k % 2 = if t.testBit k then 1 else 0 := by
 rw [Nat.testBit_eq_decide_div_mod_eq]
 by_cases h : t / 2 ^ k % 2 = 1
 · simp [h]
 · simp [h]; omega
theorem yfar {w : World} {b o b' o' : Nat} {v u : Value} (h : b ≠ b') (x : w.cell? ⟨b', o', none⟩ = some u) : (w.setCell ⟨b, o, none⟩ v).cell? ⟨b', o', none⟩ = some u :=
 (World.cell?_setCell_other _ _ _ _ (by intro e; injection e with e1; exact h e1)).trans x
theorem yshr (x v : Nat) : (x : Int) / 2 ^ v = ((x / 2 ^ v : Nat) : Int) := by
 rw [show (2 : Int) ^ v = ((2 ^ v : Nat) : Int) from by simp]
 rfl
theorem yshl {k : Nat} (hk : k < 63) : wrap64 ((2 : Int) ^ k) = ((2 ^ k : Nat) : Int) := by
 have h := Nat.pow_lt_pow_right (a := 2) (by omega) hk
 have e : (2 : Int) ^ k = ((2 ^ k : Nat) : Int) := by simp
 rw [e]
 generalize 2 ^ k = p at *
 exact IntWalk.wrap64_in _ (by omega)
theorem yshl2 {k : Nat} (hk : k < 62) : IntKind.i64.wrap ((2 : Int) ^ k) = ((2 ^ k : Nat) : Int) := by
 have h := Nat.pow_lt_pow_right (a := 2) (by omega) hk
 rw [show (2 : Int) ^ k = ((2 ^ k : Nat) : Int) from by simp]
 generalize 2 ^ k = p at *
 rw [IntKind.wrap_i64]; omega
theorem yp24 {k : Nat} (hk : k < 24) : 2 ^ k < 16777216 := Nat.pow_lt_pow_right (a := 2) (by omega) hk
theorem yand1 {x : Nat} (h : x < 9223372036854775808) : bits .and .i64 (x : Int) 1 = ((x % 2 : Nat) : Int) := by
 have := i64_and x 1 h (by omega)
 rw [Nat.and_one_is_mod] at this
 exact this
/-- the values of a gate's arguments -/
theorem mapV {l : List Int} {V : Nat → Bool} {k : Nat} (hk : k < l.length) (h0 : 0 ≤ l[k]) : ((l.map Int.toNat).map V)[k]'(by simpa using hk) = V l[k].toNat := by simp
theorem dy_len (l : List Int) (V : Nat → Bool) : ((l.map Int.toNat).map V).length = l.length := by simp
end Go.Proofs.YtoiopnmphbnjaaaGreatDoor
namespace Go.Proofs.YtoiopnmphbnjaaaGreatDoor
open Go.RowKit
set_option linter.unusedSimpArgs false
set_option linter.unusedVariables false
set_option maxRecDepth 20000
attribute [local irreducible] nv wp win plainB validR valR canR
/-! ## rows of moves that grow, blocks of a kind -/
/-- what kind of block it is -/
def TyB (t : TypeId) (w : World) (g : Nat) : Prop := ∃ cur fz, w.heap[g]? = some (.cells cur t fz)
section
variable {t : TypeId} {w w' : World} {g b0 : Nat}
theorem TyB.below {B : Nat} (h : TyB t w g) (hb : Below B w w') (hg : g < B) : TyB t w' g := by
 obtain ⟨cur, fz, h⟩ := h
 exact ⟨cur, fz, (hb.block g hg).trans h⟩
theorem TyB.new (w : World) (cs : Array Value) : TyB t (w.alloc (.cells cs t)) w.heap.size := ⟨cs, _, heap_alloc_new w _⟩
theorem TyB.set (h : TyB t w g) (b o : Nat) (u : Value) : TyB t (w.setCell ⟨b, o, none⟩ u) g := by
 obtain ⟨cur, fz, h⟩ := h
 by_cases e : b = g
 · subst e
   refine ⟨cur.setIfInBounds o u, fz, ?_⟩
   simp [World.setCell, Array.getElem?_modify, h]
 · refine ⟨cur, fz, ?_⟩
   simp [World.setCell, Array.getElem?_modify, h, e]
theorem TyB.lt (h : TyB t w g) : g < w.heap.size := by
 obtain ⟨cur, fz, h⟩ := h
 exact (Array.getElem?_eq_some_iff.1 h).1
theorem TyB.grown (h : TyB t w g) {row : Option Nat} (hg : w.grownBy w' row) (hr : some g ≠ row) : TyB t w' g := by
 have hl := h.lt
 obtain ⟨cur, fz, h⟩ := h
 exact ⟨cur, fz, (hg.block g hl hr).trans h⟩
/-- a store into a block that holds no words -/
theorem Kp.set1 (h : TyB t w g) (ht : t ≠ 157) (hb : b0 ≤ g) (o : Nat) (u : Value) : Kp b0 w (w.setCell ⟨g, o, none⟩ u) := by
 obtain ⟨cur, fz, h⟩ := h
 exact (Kp.refl b0 w).store (p := ⟨g, o, none⟩) h ht hb u
end
end Go.Proofs.YtoiopnmphbnjaaaGreatDoor
