/- Contracts and lemmas for the given statements. Conditions: those alone that each names. -/
import Derived.Test.YtoiopnmphbnjaaaGreatDoorJLinRow
import Derived.WideKeyPair
import Derived.Maps.OwnOps
import Derived.Maps.OwnSet
import Derived.Maps.Views
import Derived.Maps.RangeWalk
import Derived.Test.YtoiopnmphbnjaaaGreatDoorJBase
import Derived.Test.YtoiopnmphbnjaaaGreatDoorJChX
import Derived.Test.YtoiopnmphbnjaaaGreatDoorJDynW1
namespace Go.Proofs.YtoiopnmphbnjaaaGreatDoor
open Go.RowKit
open Go.Maps Go.WideMaps
set_option linter.unusedSimpArgs false
set_option linter.unusedVariables false
set_option maxRecDepth 20000
attribute [local irreducible] nv wp win plainB validR valR canR
/-! ## a map from pairs of states to rates that the call makes -/
theorem pairArr : ArrKey Tryz.prog 100 3 2 := ⟨Tryz.underlying100, by kernel_rfl, by kernel_rfl, by kernel_rfl⟩
theorem pairSz : ∃ m, Tryz.prog.types.size = m + 1 := ⟨Tryz.prog.types.size - 1, by have : 0 < Tryz.prog.types.size := of_decide_eq_true (by kernel_rfl); omega⟩
theorem pairKeyed : Keyed Tryz.prog 100 := Keyed.of_law pairArr.law
theorem zeroRat (w : World) : (zeroValue 56).run Tryz.prog w = .ok zr w := by kernel_rfl
theorem wfMk {a : Nat} (h : a ≤ 1000000) : (Lit.int .i64 (a : Int)).wf = true := WalkArith.wf_i64 (by omega)
def pkL (a b : Nat) : Lit := .string (keyBytes [.int .i64 (a : Int), .int .i64 (b : Int)])
theorem pkL_key {a b : Nat} (ha : a ≤ 1000000) (hb : b ≤ 1000000) : keyOf Tryz.prog 100 (.agg #[.int .i64 (a : Int), .int .i64 (b : Int)]) = some (pkL a b) := keyOf_pair pairArr Tryz.underlying3 pairSz (wfMk ha) (wfMk hb)
theorem pkL_inj {a b a' b' : Nat} (ha : a ≤ 1000000) (hb : b ≤ 1000000) (ha' : a' ≤ 1000000) (hb' : b' ≤ 1000000) (h : pkL a b = pkL a' b') : a = a' ∧ b = b' := by
 have h1 := pkL_key ha hb
 rw [h] at h1
 have := pairKeyed.inj h1 (pkL_key ha' hb')
 injection this with this
 have e0 := congrArg (fun x : Array Value => x[0]?) this
 have e1 := congrArg (fun x : Array Value => x[1]?) this
 simp at e0 e1
 omega
/-- an element stands for itself -/
def tokE (v : Value) : Option (DataW Value × List MemPlace) := some (.held v, [])
abbrev OwMr (w : World) (b n : Nat) (D : DataW Value) : Prop := w.ownsMap Tryz.prog 100 tokE b n D
theorem pkL_lit {a b : Nat} (ha : a ≤ 1000000) (hb : b ≤ 1000000) : WideAt.IsKeyLit (pkL a b) := pairKeyed.key (pkL_key ha hb)
end Go.Proofs.YtoiopnmphbnjaaaGreatDoor
namespace Go.Proofs.YtoiopnmphbnjaaaGreatDoor
open Go.RowKit
open Go.Maps Go.WideMaps
set_option linter.unusedSimpArgs false
set_option linter.unusedVariables false
set_option maxRecDepth 20000
attribute [local irreducible] nv wp win plainB validR valR canR
/-! ## the maker in memory -/
theorem grown_none {w w' : World} (h : Below w.heap.size w w') (r : Option Nat) : w.grownBy w' r := ⟨h.os, h.tape, h.output, h.size, fun i hi _ => h.block i hi⟩
/-- what may grow: a block from b0 on that holds neither words nor ints -/
def NotI (w : World) (b0 : Nat) (r : Option Nat) : Prop := ∀ k, r = some k → b0 ≤ k ∧ ∀ cur t fz, w.heap[k]? = some (.cells cur t fz) → t ≠ 3 ∧ t ≠ 157
theorem NotI.none_ (w : World) (b0 : Nat) : NotI w b0 none := fun k h => by cases h
theorem NotI.of_ty {w : World} {b0 k : Nat} {t : TypeId} (h : TyB t w k) (hb : b0 ≤ k) (h1 : t ≠ 3) (h2 : t ≠ 157) : NotI w b0 (some k) := fun j e => by
 injection e with e
 subst e
 obtain ⟨cur, fz, h⟩ := h
 refine ⟨hb, fun cur' t' fz' h' => ?_⟩
 rw [h] at h'
 injection h' with h'
 injection h' with _ h' _
 rw [← h']
 exact ⟨h1, h2⟩
theorem NotI.of_map {w : World} {b0 k : Nat} {es : Array MapEntry} {clock : Nat} (h : w.heap[k]? = some (.map es clock)) (hb : b0 ≤ k) : NotI w b0 (some k) := fun j e => by
 injection e with e
 subst e
 refine ⟨hb, fun cur' t' fz' h' => ?_⟩
 rw [h] at h'
 cases h'
theorem Kp.notI {w w' : World} {b0 : Nat} {r : Option Nat} (hg : w.grownBy w' r) (h : NotI w b0 r) : Kp b0 w w' :=
 ⟨hg.os, hg.tape, hg.output, hg.size, fun k hk hw => hg.block k hk fun e => by
   obtain ⟨h1, h2⟩ := h k e.symm
   rcases hw with hw | ⟨cur, fz, hw⟩
   · omega
   · exact (h2 _ _ _ hw).2 rfl⟩
/-- ints for good: in blocks ahead of b0 or in blocks of ints -/
def IB (w : World) (b0 b : Nat) : Prop := b < b0 ∨ TyB 3 w b
def RdK (w : World) (b0 : Nat) (v : Value) (n : Nat) (f : Nat → Int) : Prop := ∃ A c, v = .slice A n c ∧ RdJ w A n f ∧ BlkIn (IB w b0) A n
section
variable {w w' : World} {b0 b1 n c : Nat} {v : Value} {f g : Nat → Int} {A : Option Addr} {r : Option Nat}
theorem RdK.form (h : RdK w b0 v n f) : ∃ A c, v = .slice A n c := by obtain ⟨A, c, e, _⟩ := h; exact ⟨A, c, e⟩
theorem RdK.rj (h : RdK w b0 (.slice A n c) n f) : RdJ w A n f := by
 obtain ⟨A', c', e, h1, _⟩ := h
 injection e with e1 e2 e3
 rw [e1]; exact h1
theorem RdK.congr (h : RdK w b0 v n f) (e : ∀ j, j < n → f j = g j) : RdK w b0 v n g := by
 obtain ⟨A, c, e1, h1, h2⟩ := h
 exact ⟨A, c, e1, h1.congr e, h2⟩
theorem OwJ.rg (h : OwJ w b1 A c n f) (b0 : Nat) : RdK w b0 (.slice A n c) n f := by
 refine ⟨A, c, rfl, h.rd, fun hn a ha => ?_⟩
 subst ha
 rcases h.2 with ⟨h1, h2⟩ | ⟨g, cap, cur, hv, _, hg, _⟩
 · injection h1 with h1; cases h1
 · injection hv with hv
   injection hv with hv
   subst hv
   exact .inr ⟨cur, (0, 0), hg⟩
theorem RdK.grown (h : RdK w b0 v n f) (hg : w.grownBy w' r) (hr : NotI w b0 r) : RdK w' b0 v n f := by
 obtain ⟨A, c, e, h1, h2⟩ := h
 have key : ∀ b, b < w.heap.size → IB w b0 b → w'.heap[b]? = w.heap[b]? := fun b hb hi => hg.block b hb fun e => by
   obtain ⟨h3, h4⟩ := hr b e.symm
   rcases hi with hi | ⟨cur, fz, hi⟩
   · omega
   · exact (h4 _ _ _ hi).1 rfl
 have hA : ∀ b off, A = some ⟨b, off, none⟩ → 0 < n → b < w.heap.size := fun b off e hn => by
   obtain ⟨b', off', e', hb', _⟩ := h1.2 hn
   rw [e'] at e
   injection e with e
   injection e with e1 _ _
   omega
 refine ⟨A, c, e, ⟨h1.1, fun hn => ?_⟩, fun hn a ha => ?_⟩
 · obtain ⟨b, off, rfl, hb, hc⟩ := h1.2 hn
   exact ⟨b, off, rfl, Nat.lt_of_lt_of_le hb hg.size, fun j u hu => (World.cell?_of_block (a := ⟨b, off + j, none⟩) (key b hb (h2 hn _ rfl))).trans (hc j u hu)⟩
 · obtain ⟨b, off, e', hb, _⟩ := h1.2 hn
   rw [e'] at ha
   injection ha with ha
   subst ha
   rcases h2 hn _ e' with h3 | ⟨cur, fz, h3⟩
   · exact .inl h3
   · exact .inr ⟨cur, fz, (key b hb (.inr ⟨cur, fz, h3⟩)).trans h3⟩
theorem RdK.below (h : RdK w b0 v n f) (hb : Below w.heap.size w w') : RdK w' b0 v n f := h.grown (grown_none hb none) (NotI.none_ _ _)
end
/-! ### states in a row -/
theorem sum_two (n : Nat) : (List.map (fun _ => 2) (List.range n)).sum = n * 2 := by
 induction n with
 | zero => rfl
 | succ n ih => rw [List.range_succ, List.map_append, List.sum_append, ih]; simp; omega
def cellsS (l : List DS) (V : Nat → Value) : List Value := (List.range l.length).flatMap fun k => [.int .i64 (((l.getD k (0, [])).1 : Nat) : Int), V k]
theorem cellsS_get {l : List DS} {V : Nat → Value} {k : Nat} (hk : k < l.length) : (cellsS l V)[k * 2]? = some (.int .i64 ((l[k].1 : Nat) : Int)) ∧ (cellsS l V)[k * 2 + 1]? = some (V k) := by
 have key : ∀ (n : Nat) (F : Nat → Value) (G : Nat → Value) (k : Nat), k < n → ((List.range n).flatMap fun k => [F k, G k])[k * 2]? = some (F k) ∧ ((List.range n).flatMap fun k => [F k, G k])[k * 2 + 1]? = some (G k) := by
   intro n F G
   induction n with
   | zero => intro k hk; omega
   | succ n ih =>
     intro k hk
     have hl : ((List.range n).flatMap fun k => [F k, G k]).length = n * 2 := by rw [List.length_flatMap]; simp only [List.length_cons, List.length_nil]; exact sum_two _
     rw [List.range_succ, List.flatMap_append]
     by_cases e : k = n
     · subst e
       rw [List.getElem?_append_right (by omega), List.getElem?_append_right (by omega), hl]
       simp
     · rw [List.getElem?_append_left (by omega), List.getElem?_append_left (by omega)]
       exact ih k (by omega)
 have := key l.length (fun k => .int .i64 (((l.getD k (0, [])).1 : Nat) : Int)) V k hk
 rw [show (l.getD k (0, [])) = l[k] by rw [List.getD_eq_getElem?_getD, List.getElem?_eq_getElem hk]; rfl] at this
 exact this
theorem cellsS_snoc (l : List DS) (s : DS) (V : Nat → Value) (u : Value) : cellsS (l ++ [s]) (fun k => if k = l.length then u else V k) = cellsS l V ++ [.int .i64 ((s.1 : Nat) : Int), u] := by
 unfold cellsS
 rw [List.length_append, List.length_singleton, List.range_succ, List.flatMap_append]
 congr 1
 · refine flatMap_congrG fun k hk => ?_
   rw [List.mem_range] at hk
   dsimp only
   rw [if_neg (by omega), List.getD_eq_getElem?_getD, List.getD_eq_getElem?_getD, List.getElem?_append_left hk]
 · simp [List.getD_eq_getElem?_getD]
def OwS (w : World) (b0 : Nat) (A : Option Addr) (c ng : Nat) (l : List DS) : Prop :=
 ∃ V : Nat → Value, (∀ k (hk : k < l.length), RdK w b0 (V k) ng (fun i => l[k].2.getD i 0)) ∧ w.ownsRow b0 45 2 (.slice A l.length c) l.length (cellsS l V)
theorem stateInfo : (Tryz.prog.info? 45).map (fun i => (i.zero, i.size, i.bytes)) = some (some (.agg #[.int .i64 0, .slice none 0 0]), 2, 32) := by kernel_rfl
section
variable {w w' : World} {b0 c ng k : Nat} {A : Option Addr} {l : List DS} {r : Option Nat}
theorem OwS.notI (h : OwS w b0 A c ng l) : NotI w b0 (Value.slice A l.length c).ownBlock := fun k hk => by
 obtain ⟨V, h1, h2⟩ := h
 obtain ⟨hb, cur, hc⟩ := oT h2 k hk
 exact NotI.of_ty ⟨cur, _, hc⟩ hb (by decide) (by decide) k rfl
theorem OwS.grown (h : OwS w b0 A c ng l) (hg : w.grownBy w' r) (hr : NotI w b0 r) (hd : ∀ k, r = some k → ¬ TyB 45 w k) : OwS w' b0 A c ng l := by
 obtain ⟨V, h1, h2⟩ := h
 refine ⟨V, fun k hk => (h1 k hk).grown hg hr, h2.kept hg ?_⟩
 cases e : (Value.slice A l.length c).ownBlock with
 | none => exact .inl rfl
 | some q =>
   refine .inr fun e2 => ?_
   obtain ⟨_, cur, h3⟩ := oT h2 q e
   exact hd q e2.symm ⟨cur, _, h3⟩
theorem OwS.below (h : OwS w b0 A c ng l) (hb : Below w.heap.size w w') : OwS w' b0 A c ng l := h.grown (grown_none hb none) (NotI.none_ _ _) (fun k e => by cases e)
theorem OwS.at_ (h : OwS w b0 A c ng l) (hk : k < l.length) : ∃ g B d, A = some ⟨g, 0, none⟩ ∧ b0 ≤ g ∧ g < w.heap.size ∧ w.cell? ⟨g, k * 2, none⟩ = some (.int .i64 ((l[k].1 : Nat) : Int)) ∧ w.cell? ⟨g, k * 2 + 1, none⟩ = some (.slice B ng d) ∧ RdK w b0 (.slice B ng d) ng (fun i => l[k].2.getD i 0) := by
 obtain ⟨V, h1, h2⟩ := h
 obtain ⟨g, cap, e, hb, hlt⟩ := World.ownsRow.form h2 (by omega)
 injection e with e1 e2 e3
 subst e1
 obtain ⟨B, d, e4⟩ := (h1 k hk).form
 obtain ⟨g0, g1⟩ := cellsS_get (V := V) hk
 rw [e4] at g1
 refine ⟨g, B, d, rfl, hb, hlt, ?_, ?_, by rw [← e4]; exact h1 k hk⟩
 · rw [World.ownsRow.cellAt h2 _ (by omega)]; exact g0
 · rw [World.ownsRow.cellAt h2 _ (by omega)]; exact g1
end
/-! ### the two maps (plain) -/
def kyLit (s : DS) : Lit := .string (kyL s)
structure NumD (D : DataW Value) (l : List DS) : Prop where
 im : IsMap D
 hs : ∀ s, has D (kyLit s) = decide (s ∈ l)
 at_ : ∀ s, s ∈ l → D.atKey (kyLit s) (.lit (.int .i64 0)) = .lit (.int .i64 (l.idxOf s : Nat))
theorem kyLit_inj {s t : DS} (h : kyLit s = kyLit t) : s = t := kyL_inj (by injection h)
theorem NumD.nil_ : NumD (.map []) [] := ⟨isMap_empty, fun s => rfl, fun s h => by cases h⟩
theorem NumD.add {D : DataW Value} {l : List DS} {s : DS} (h : NumD D l) (hs : s ∉ l) : NumD (D.put (kyLit s) (.lit (.int .i64 (l.length : Nat)))) (l ++ [s]) := by
 refine ⟨h.im.put _ _, fun u => ?_, fun u hu => ?_⟩
 · by_cases e : u = s
   · subst e
     rw [has_put_same h.im (by trivial)]
     simp
   · rw [has_put_other (fun e2 => e (kyLit_inj e2)), h.hs]
     rw [decide_eq_decide]
     simp [e]
 · by_cases e : u = s
   · subst e
     rw [atKey_put_same h.im (by trivial), List.idxOf_append, if_neg hs]
     simp
   · have hu2 : u ∈ l := by
       rcases List.mem_append.1 hu with h1 | h1
       · exact h1
       · simp at h1; exact absurd h1 e
     rw [atKey_put_other (fun e2 => e (kyLit_inj e2)), h.at_ u hu2, List.idxOf_append, if_pos hu2]
structure RatD (w : World) (b0 : Nat) (D : DataW Value) (n : Nat) (G : Nat → Nat → Rat) : Prop where
 im : IsMap D
 at_ : ∀ a b, a ≤ 1000000 → b ≤ 1000000 → a ≠ b → ∃ v, D.atKey (pkL a b) (.held zr) = .held v ∧ RdS w b0 v (canR (G a b))
 hs : ∀ a b, a ≤ 1000000 → b ≤ 1000000 → a ≠ b → has D (pkL a b) = decide (0 < G a b)
 ky : ∀ kl, has D kl = true → ∃ a b, kl = pkL a b ∧ a ≠ b ∧ a < n ∧ b < n
section
variable {w w' : World} {b0 n m : Nat} {D : DataW Value} {G G' : Nat → Nat → Rat}
theorem RatD.nil_ (w : World) (b0 n : Nat) : RatD w b0 (.map []) n (fun _ _ => 0) :=
 ⟨isMap_empty, fun a b _ _ _ => ⟨zr, rfl, (OwQ.zero w b0).rs⟩, fun a b _ _ _ => rfl, fun kl h => by cases h⟩
theorem RatD.kp (h : RatD w b0 D n G) (k : Kp b0 w w') : RatD w' b0 D n G :=
 ⟨h.im, fun a b ha hb hab => by
   obtain ⟨v, h1, h2⟩ := h.at_ a b ha hb hab
   exact ⟨v, h1, h2.kp k⟩, h.hs, h.ky⟩
theorem RatD.more (h : RatD w b0 D n G) (hn : n ≤ m) : RatD w b0 D m G :=
 ⟨h.im, h.at_, h.hs, fun kl hk => by
   obtain ⟨a, b, h1, h2, h3, h4⟩ := h.ky kl hk
   exact ⟨a, b, h1, h2, by omega, by omega⟩⟩
theorem RatD.congr (h : RatD w b0 D n G) (e : ∀ a b, a ≠ b → G a b = G' a b) : RatD w b0 D n G' :=
 ⟨h.im, fun a b ha hb hab => by rw [← e a b hab]; exact h.at_ a b ha hb hab, fun a b ha hb hab => by rw [← e a b hab]; exact h.hs a b ha hb hab, h.ky⟩
theorem RatD.put (h : RatD w b0 D n G) {a b : Nat} {v : Value} {q : Rat} (ha : a < n) (hb : b < n) (hab : a ≠ b) (hn : n ≤ 1000000) (hq : 0 < q) (hv : RdS w b0 v (canR q)) : RatD w b0 (D.put (pkL a b) (.held v)) n (fun x y => if x = a ∧ y = b then q else G x y) := by
 have hk := pkL_lit (a := a) (b := b) (by omega) (by omega)
 refine ⟨h.im.put _ _, fun x y hx hy hxy => ?_, fun x y hx hy hxy => ?_, fun kl hkl => ?_⟩
 · by_cases e : x = a ∧ y = b
   · rw [if_pos e, e.1, e.2, atKey_put_same h.im hk]
     exact ⟨v, rfl, hv⟩
   · rw [if_neg e, atKey_put_other (fun e2 => e (pkL_inj hx hy (by omega) (by omega) e2))]
     exact h.at_ x y hx hy hxy
 · by_cases e : x = a ∧ y = b
   · rw [if_pos e, e.1, e.2, has_put_same h.im hk]
     simp [hq]
   · rw [if_neg e, has_put_other (fun e2 => e (pkL_inj hx hy (by omega) (by omega) e2))]
     exact h.hs x y hx hy hxy
 · by_cases e : kl = pkL a b
   · exact ⟨a, b, e, hab, ha, hb⟩
   · rw [has_put_other e] at hkl
     exact h.ky kl hkl
end
end Go.Proofs.YtoiopnmphbnjaaaGreatDoor
