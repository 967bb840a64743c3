/- Contracts and lemmas for the given statements. Conditions: those alone that each names. -/
import Derived.Test.YtoiopnmphbnjaaaGreatDoorRdK2
import Derived.Test.YtoiopnmphbnjaaaGreatDoorJRdK
import Derived.Test.YtoiopnmphbnjaaaGreatDoorJRdI
import Derived.Test.YtoiopnmphbnjaaaGreatDoorJDynMa
namespace Go.Proofs.YtoiopnmphbnjaaaGreatDoor
open Go.RowKit
set_option linter.unusedSimpArgs false
set_option linter.unusedVariables false
set_option maxRecDepth 20000
attribute [local irreducible] nv wp win plainB validR valR canR
/-! ## the reference's Make: what holds between its steps -/
theorem OwS.lit {w : World} {b0 ng c : Nat} {B : Option Addr} {S : DS} (hu : RdK w b0 (.slice B ng c) ng (fun i => S.2.getD i 0)) (hb : b0 ≤ w.heap.size) : OwS (w.alloc (.cells #[.int .i64 ((S.1 : Nat) : Int), .slice B ng c] 45)) b0 (some ⟨w.heap.size, 0, none⟩) 1 ng [S] :=
 ⟨fun _ => .slice B ng c, fun k hk => by
   have hk0 : k = 0 := by simpa using hk
   subst hk0
   exact hu.alloc_ _, World.ownsRow_lit w #[.int .i64 ((S.1 : Nat) : Int), .slice B ng c] 1 hb (by unfold maxLen; omega) rfl⟩
section
variable {w w' w0 : World} {b0 c k cm cd : Nat} {A AM AD : Option Addr} {P : List (Nat × Nat)} {G G' : Nat → Nat → Rat} {V : Array Value} {Dn Dn' : Nat → Bool} {r : Option Nat}
theorem OwPr.ty (h : OwPr w b0 A c P G) : ∀ q, (Value.slice A P.length c).ownBlock = some q → b0 ≤ q ∧ TyB 65 w q := fun q hq => by
 obtain ⟨V, _, h2⟩ := h
 obtain ⟨hb, cur, hc⟩ := oT h2 q hq
 exact ⟨hb, cur, _, hc⟩
theorem OwPr.congr (h : OwPr w b0 A c P G) (e : ∀ p, p ∈ P → G p.1 p.2 = G' p.1 p.2) : OwPr w b0 A c P G' := by
 obtain ⟨V, h1, h2⟩ := h
 exact ⟨V, fun p hp => e p hp ▸ h1 p hp, h2⟩
theorem OwPr.nil_ (w : World) (b0 : Nat) (G : Nat → Nat → Rat) : OwPr w b0 none 0 [] G := ⟨fun _ => .nilIface, fun p hp => (by cases hp), own_nil _ _ _ 5⟩
theorem OwPr.grown (h : OwPr w b0 A c P G) (hg : w.grownBy w' r) (hr : NotI w b0 r) (hd : ∀ q, r = some q → ¬ TyB 65 w q) : OwPr w' b0 A c P G := by
 have ht := h.ty
 obtain ⟨V, h1, h2⟩ := h
 refine ⟨V, fun p hp => (h1 p hp).kp (Kp.notI hg hr), h2.kept hg ?_⟩
 cases e : (Value.slice A P.length c).ownBlock with
 | none => exact .inl rfl
 | some q => exact .inr fun e2 => hd q e2.symm (ht q e).2
theorem OwVb.tyR (h : OwVb w b0 A c k Dn) : ∀ q, (Value.slice A k c).ownBlock = some q → b0 ≤ q ∧ TyB 4 w q := fun q hq => by
 obtain ⟨h1, cur, h2⟩ := oT h q hq
 exact ⟨h1, cur, _, h2⟩
theorem OwVb.grownR (h : OwVb w b0 A c k Dn) (hg : w.grownBy w' r) (hd : ∀ q, r = some q → ¬ TyB 4 w q) : OwVb w' b0 A c k Dn := by
 have ht := h.tyR
 refine World.ownsRow.kept h hg ?_
 cases e : (Value.slice A k c).ownBlock with
 | none => exact .inl rfl
 | some q => exact .inr fun e2 => hd q e2.symm (ht q e).2
/-- the boxes of Make, the chain so far -/
structure RmF (w0 w : World) (V : Array Value) (c : Nat) (AM : Option Addr) (cm : Nat) (P : List (Nat × Nat)) (G : Nat → Nat → Rat) (AD : Option Addr) (cd k : Nat) (Dn : Nat → Bool) : Prop where
 bel : Below w0.heap.size w0 w
 lo : w0.heap.size + 2 ≤ c
 b1 : w.heap[w0.heap.size]? = some (.cells V 25 (0, 0))
 b2 : w.heap[w0.heap.size + 1]? = some (chO 0 none 0 0 none 0 0)
 bc : w.heap[c]? = some (chO 0 AM P.length cm AD k cd)
 mv : OwPr w w0.heap.size AM cm P G
 dn : OwVb w w0.heap.size AD cd k Dn
theorem RmF.grown (h : RmF w0 w V c AM cm P G AD cd k Dn) (hg : w.grownBy w' r) {t : TypeId} (hr : ∀ q, r = some q → w0.heap.size ≤ q ∧ TyB t w q) (h1 : t ≠ 25) (h2 : t ≠ 32) (h3 : t ≠ 65) (h4 : t ≠ 4) (h5 : t ≠ 3) (h6 : t ≠ 157) : RmF w0 w' V c AM cm P G AD cd k Dn := by
 have hne : ∀ {b : Nat} {s : TypeId}, TyB s w b → t ≠ s → some b ≠ r := fun {b s} ht hn e => hn (ty_one (hr b e.symm).2 ht)
 have hni : NotI w w0.heap.size r := fun q hq => NotI.of_ty (hr q hq).2 (hr q hq).1 h5 h6 q rfl
 exact ⟨h.bel.trans ((Below.refl _ _).grown hg h.bel.size fun q hq => (hr q hq).1), h.lo, (hg.block _ (Array.getElem?_eq_some_iff.1 h.b1).1 (hne ⟨_, _, h.b1⟩ h1)).trans h.b1, (hg.block _ (Array.getElem?_eq_some_iff.1 h.b2).1 (hne ⟨_, _, h.b2⟩ h2)).trans h.b2, (hg.block _ (Array.getElem?_eq_some_iff.1 h.bc).1 (hne ⟨_, _, h.bc⟩ h2)).trans h.bc, h.mv.grown hg hni fun q hq ht => h3 (ty_one (hr q hq).2 ht), h.dn.grownR hg fun q hq ht => h4 (ty_one (hr q hq).2 ht)⟩
theorem RmF.below (h : RmF w0 w V c AM cm P G AD cd k Dn) (hb : Below w.heap.size w w') : RmF w0 w' V c AM cm P G AD cd k Dn :=
 h.grown (grown_none hb none) (t := 0) (fun q hq => by cases hq) (by decide) (by decide) (by decide) (by decide) (by decide) (by decide)
theorem RmF.congr (h : RmF w0 w V c AM cm P G AD cd k Dn) (e : ∀ p, p ∈ P → G p.1 p.2 = G' p.1 p.2) (e2 : ∀ j, j < k → Dn j = Dn' j) : RmF w0 w V c AM cm P G' AD cd k Dn' := ⟨h.bel, h.lo, h.b1, h.b2, h.bc, h.mv.congr e, h.dn.congr e2⟩
theorem RmF.tc (h : RmF w0 w V c AM cm P G AD cd k Dn) : TyB 32 w c := ⟨_, _, h.bc⟩
theorem RmF.tcg (h : RmF w0 w V c AM cm P G AD cd k Dn) (hg : w.grownBy w' (Value.slice AD k cd).ownBlock) : TyB 32 w' c := by
 have hrow := h.dn.tyR
 exact ⟨_, _, (hg.block _ (Array.getElem?_eq_some_iff.1 h.bc).1 (fun e => absurd (ty_one (hrow c e.symm).2 h.tc) (by decide))).trans h.bc⟩
/-- a move more: the row has grown, then the box is written to -/
theorem RmF.pushM {w2 w4 : World} {g4 c4 : Nat} {p : Nat × Nat} (h : RmF w0 w V c AM cm P G AD cd k Dn) (hb2 : Below w.heap.size w w2) (hg : w2.grownBy w4 (Value.slice AM P.length cm).ownBlock) (own4 : OwPr w4 w0.heap.size (some ⟨g4, 0, none⟩) c4 (P ++ [p]) G) :
   RmF w0 (w4.setCell ⟨c, 2, none⟩ (.slice (some ⟨g4, 0, none⟩) (P.length + 1) c4)) V c (some ⟨g4, 0, none⟩) c4 (P ++ [p]) G AD cd k Dn ∧ w4.cell? ⟨c, 2, none⟩ = some (.slice AM P.length cm) ∧ w4.frozen? ⟨c, 2, none⟩ = false := by
 have h2 := h.below hb2
 have hrow := h2.mv.ty
 have hne : ∀ {b : Nat} {t : TypeId}, TyB t w2 b → t ≠ 65 → some b ≠ (Value.slice AM P.length cm).ownBlock := fun {b t} ht hn e => hn (ty_one ht (hrow b e.symm).2)
 have b14 := (hg.block _ (Array.getElem?_eq_some_iff.1 h2.b1).1 (hne ⟨_, _, h2.b1⟩ (by decide))).trans h2.b1
 have b24 := (hg.block _ (Array.getElem?_eq_some_iff.1 h2.b2).1 (hne ⟨_, _, h2.b2⟩ (by decide))).trans h2.b2
 have bc4 := (hg.block _ (Array.getElem?_eq_some_iff.1 h2.bc).1 (hne ⟨_, _, h2.bc⟩ (by decide))).trans h2.bc
 have d4 := h2.dn.grownR hg fun q hq ht => absurd (ty_one (hrow q hq).2 ht) (by decide)
 have htc : TyB 32 w4 c := ⟨_, _, bc4⟩
 have hcc := chO_cells bc4
 have hlo := h.lo
 have hz2 := h2.bel.size
 have hg5 := grownBy_setK w4 c 2 (.slice (some ⟨g4, 0, none⟩) (P.length + 1) c4)
 have hn5 : NotI w4 w0.heap.size (some c) := NotI.of_ty htc (by omega) (by decide) (by decide)
 refine ⟨⟨(h2.bel.trans ((Below.refl _ _).grown hg hz2 fun q hq => (hrow q hq).1)).setCell (by show w0.heap.size ≤ c; omega) _, hlo, ?_, ?_, ?_, ?_, ?_⟩, hcc.2.2.1, hcc.2.2.2.2 2⟩
 · exact (hg5.block _ (Array.getElem?_eq_some_iff.1 b14).1 (fun e => by injection e with e; omega)).trans b14
 · exact (hg5.block _ (Array.getElem?_eq_some_iff.1 b24).1 (fun e => by injection e with e; omega)).trans b24
 · have := outK_set (i := 2) (u := .slice (some ⟨g4, 0, none⟩) (P.length + 1) c4) bc4
   rw [List.length_append, List.length_singleton]
   exact this
 · exact own4.grown hg5 hn5 fun q hq ht => by
     injection hq with hq
     subst hq
     exact absurd (ty_one htc ht) (by decide)
 · exact d4.grownR hg5 fun q hq ht => by
     injection hq with hq
     subst hq
     exact absurd (ty_one htc ht) (by decide)
/-- a state's Down more -/
theorem RmF.pushD {w2 w4 : World} {g4 c4 : Nat} (h : RmF w0 w V c AM cm P G AD cd k Dn) (hb2 : Below w.heap.size w w2) (hg : w2.grownBy w4 (Value.slice AD k cd).ownBlock) (own4 : OwVb w4 w0.heap.size (some ⟨g4, 0, none⟩) c4 (k + 1) Dn') :
   RmF w0 (w4.setCell ⟨c, 3, none⟩ (.slice (some ⟨g4, 0, none⟩) (k + 1) c4)) V c AM cm P G (some ⟨g4, 0, none⟩) c4 (k + 1) Dn' ∧ w4.cell? ⟨c, 3, none⟩ = some (.slice AD k cd) ∧ w4.frozen? ⟨c, 3, none⟩ = false := by
 have h2 := h.below hb2
 have hrow := h2.dn.tyR
 have hne : ∀ {b : Nat} {t : TypeId}, TyB t w2 b → t ≠ 4 → some b ≠ (Value.slice AD k cd).ownBlock := fun {b t} ht hn e => hn (ty_one ht (hrow b e.symm).2)
 have hni : NotI w2 w0.heap.size (Value.slice AD k cd).ownBlock := fun q hq => NotI.of_ty (hrow q hq).2 (hrow q hq).1 (by decide) (by decide) q rfl
 have b14 := (hg.block _ (Array.getElem?_eq_some_iff.1 h2.b1).1 (hne ⟨_, _, h2.b1⟩ (by decide))).trans h2.b1
 have b24 := (hg.block _ (Array.getElem?_eq_some_iff.1 h2.b2).1 (hne ⟨_, _, h2.b2⟩ (by decide))).trans h2.b2
 have bc4 := (hg.block _ (Array.getElem?_eq_some_iff.1 h2.bc).1 (hne ⟨_, _, h2.bc⟩ (by decide))).trans h2.bc
 have m4 := h2.mv.grown hg hni fun q hq ht => absurd (ty_one (hrow q hq).2 ht) (by decide)
 have htc : TyB 32 w4 c := ⟨_, _, bc4⟩
 have hcc := chO_cells bc4
 have hlo := h.lo
 have hz2 := h2.bel.size
 have hg5 := grownBy_setK w4 c 3 (.slice (some ⟨g4, 0, none⟩) (k + 1) c4)
 have hn5 : NotI w4 w0.heap.size (some c) := NotI.of_ty htc (by omega) (by decide) (by decide)
 refine ⟨⟨(h2.bel.trans ((Below.refl _ _).grown hg hz2 fun q hq => (hrow q hq).1)).setCell (by show w0.heap.size ≤ c; omega) _, hlo, ?_, ?_, ?_, ?_, ?_⟩, hcc.2.2.2.1, hcc.2.2.2.2 3⟩
 · exact (hg5.block _ (Array.getElem?_eq_some_iff.1 b14).1 (fun e => by injection e with e; omega)).trans b14
 · exact (hg5.block _ (Array.getElem?_eq_some_iff.1 b24).1 (fun e => by injection e with e; omega)).trans b24
 · have := outK_set (i := 3) (u := .slice (some ⟨g4, 0, none⟩) (k + 1) c4) bc4
   exact this
 · exact m4.grown hg5 hn5 fun q hq ht => by
     injection hq with hq
     subst hq
     exact absurd (ty_one htc ht) (by decide)
 · exact own4.grownR hg5 fun q hq ht => by
     injection hq with hq
     subst hq
     exact absurd (ty_one htc ht) (by decide)
/-- append of a move -/
theorem wpList_appMvP {ops : Array Oper} {rest : List Oper} {o : Oper} {a : Act} {Q : Exit → Act → World → Prop} (hgd : o.guard = none) (s x : Operand)
   (ho : o.op = .call { callee := .builtin .append, args := #[s, x], argTypes := #[29, 29] })
   (m : Nat) (hm : P.length = m) (hs : a.eval s = .slice A m c) (hown : OwPr w b0 A c P G) (p : Nat × Nat) (hp : p ∉ P) (v : Value) (hv : RdS w b0 v (canR (G p.1 p.2)))
   (B : Nat) (hx : a.eval x = .slice (some ⟨B, 0, none⟩) 1 1) (hc : ∀ j u, (cellM (p.1 : Nat) (p.2 : Nat) v)[j]? = some u → w.cell? ⟨B, j, none⟩ = some u)
   (hn : m ≤ 1000000) (hbase : b0 ≤ w.heap.size)
   (h : ∀ g cap w', OwPr w' b0 (some ⟨g, 0, none⟩) cap (P ++ [p]) G → w.grownBy w' (Value.slice A m c).ownBlock → wpList Tryz.prog ops Q rest (a.put o.dst (.slice (some ⟨g, 0, none⟩) (m + 1) cap)) w') : wpList Tryz.prog ops Q (o :: rest) a w := by
 subst hm
 have hni : NotI w b0 (Value.slice A P.length c).ownBlock := fun q hq => NotI.of_ty (hown.ty q hq).2 (hown.ty q hq).1 (by decide) (by decide) q rfl
 obtain ⟨V, h1, h2⟩ := hown
 have hV : cellsP P (fun q => if q = p then v else V q) = cellsP P V := flatMap_congrG fun q hq => by
   have hne : q ≠ p := fun e => hp (e ▸ hq)
   simp only [if_neg hne]
 refine wpList_appPr hgd s x ho b0 A c P (fun q => if q = p then v else V q) hs (by rw [hV]; exact h2) B p (by rw [if_pos rfl]; exact hv.isR) hx (fun j u hu => hc j u (by simpa using hu)) hn hbase ?_
 intro g cap w' g1 g2
 refine h g cap w' ⟨fun q => if q = p then v else V q, fun q hq => ?_, ?_⟩ g2
 · dsimp only
   by_cases e : q = p
   · rw [if_pos e, e]
     exact hv.kp (Kp.notI g2 hni)
   · rw [if_neg e]
     rcases List.mem_append.1 hq with hq | hq
     · exact (h1 q hq).kp (Kp.notI g2 hni)
     · simp at hq; exact absurd hq e
 · rw [List.length_append, List.length_singleton]
   exact g1
end
/-! ### the moves (plain) -/
def rowK (R : Nat → Rat) (a n : Nat) : List (Nat × Nat) := ((List.range n).filter fun b => decide (a ≠ b ∧ 0 < R b)).map fun b => (a, b)
def mvK (R : Nat → Nat → Rat) (k : Nat) : List (Nat × Nat) := (List.range k).flatMap fun a => rowK (R a) a 256
theorem rowK_succ (R : Nat → Rat) (a n : Nat) : rowK R a (n + 1) = rowK R a n ++ if a ≠ n ∧ 0 < R n then [(a, n)] else [] := by
 unfold rowK
 rw [List.range_succ, List.filter_append, List.map_append]
 congr 1
 by_cases h : a ≠ n ∧ 0 < R n
 · rw [if_pos h]; simp [h]
 · rw [if_neg h]
   have : decide (a ≠ n ∧ 0 < R n) = false := decide_eq_false h
   simp only [List.filter_cons, this, List.filter_nil]
   rfl
theorem rowK_more {R : Nat → Rat} {a n : Nat} (h : ∀ b, n ≤ b → R b = 0) : ∀ m, n ≤ m → rowK R a m = rowK R a n
 | 0, hm => by rw [show n = 0 by omega]
 | m + 1, hm => by
   by_cases e : n = m + 1
   · rw [e]
   · rw [rowK_succ, rowK_more h m (by omega), h m (by omega), if_neg (by simp), List.append_nil]
theorem mvK_succ (R : Nat → Nat → Rat) (k : Nat) : mvK R (k + 1) = mvK R k ++ rowK (R k) k 256 := by
 unfold mvK
 rw [List.range_succ, List.flatMap_append]
 simp
theorem mvK_congr {R R' : Nat → Nat → Rat} {k : Nat} (h : ∀ a, a < k → R a = R' a) : mvK R k = mvK R' k := flatMap_congrG fun a ha => by rw [h a (List.mem_range.1 ha)]
theorem mvK_prs {R : Nat → Nat → Rat} {n : Nat} (hn : n ≤ 256) (h : ∀ a b, n ≤ b → R a b = 0) : mvK R n = prs n R := by
 unfold mvK prs
 refine flatMap_congrG fun a ha => ?_
 rw [rowK_more (h a) 256 hn]
 rfl
theorem mvK_fst {R : Nat → Nat → Rat} {k : Nat} : ∀ p, p ∈ mvK R k → p.1 < k := fun p hp => by
 obtain ⟨a, ha, hp⟩ := List.mem_flatMap.1 hp
 obtain ⟨b, -, rfl⟩ := List.mem_map.1 hp
 exact List.mem_range.1 ha
theorem rowK_mem {R : Nat → Rat} {a n : Nat} : ∀ p, p ∈ rowK R a n → p.1 = a ∧ p.2 < n := fun p hp => by
 obtain ⟨b, hb, rfl⟩ := List.mem_map.1 hp
 exact ⟨rfl, List.mem_range.1 (List.mem_filter.1 hb).1⟩
theorem mvK_len (R : Nat → Nat → Rat) : ∀ k, (mvK R k).length ≤ k * 256
 | 0 => by simp [mvK]
 | k + 1 => by
   have ih := mvK_len R k
   have h : (rowK (R k) k 256).length ≤ 256 := by
     unfold rowK
     rw [List.length_map]
     exact Nat.le_trans (List.length_filter_le _ _) (by simp)
   rw [mvK_succ, List.length_append]
   omega
theorem rowK_len (R : Nat → Rat) (a n : Nat) : (rowK R a n).length ≤ n := by
 unfold rowK
 rw [List.length_map]
 exact Nat.le_trans (List.length_filter_le _ _) (by simp)
end Go.Proofs.YtoiopnmphbnjaaaGreatDoor
namespace Go.Proofs.YtoiopnmphbnjaaaGreatDoor
open Go.RowKit
set_option linter.unusedSimpArgs false
set_option linter.unusedVariables false
set_option maxRecDepth 20000
attribute [local irreducible] nv wp win plainB validR valR canR
/-! ## the reference's Make: the inner loop's own rows -/
section
variable {w w' w0 : World} {b0 c k cm cd n m d N rb ng L : Nat} {A B AM AD As An Ar : Option Addr} {P : List (Nat × Nat)} {G : Nat → Nat → Rat} {V : Array Value} {Dn : Nat → Bool} {r : Option Nat} {l : List DS} {qs : List Rat} {x : RS} {nx : List (DS × Rat)} {cs cn cr : Nat}
theorem OwS.keptNe (h : OwS w b0 A c ng l) (hg : w.grownBy w' r) (hr : NotI w b0 r) (hne : ∀ q, (Value.slice A l.length c).ownBlock = some q → r ≠ some q) : OwS w' b0 A c ng l := by
 obtain ⟨V, h1, h2⟩ := h
 refine ⟨V, fun k hk => (h1 k hk).grown hg hr, h2.kept hg ?_⟩
 cases e : (Value.slice A l.length c).ownBlock with
 | none => exact .inl rfl
 | some q => exact .inr fun e2 => hne q e e2.symm
theorem OwL.keptNe (h : OwL w b0 L A c qs) (hg : w.grownBy w' r) (hr : NotI w b0 r) (hne : ∀ q, (Value.slice A qs.length c).ownBlock = some q → r ≠ some q) : OwL w' b0 L A c qs := by
 obtain ⟨R, ⟨V, h1, h2⟩, h3⟩ := h
 refine ⟨R, ⟨V, fun k hk => (h1 k hk).kp (Kp.notI hg hr), h2.kept hg ?_⟩, h3⟩
 cases e : (Value.slice A qs.length c).ownBlock with
 | none => exact .inl rfl
 | some q => exact .inr fun e2 => hne q e e2.symm
theorem OwR.tyA {R : Nat → Rw} (h : OwR w b0 (some ⟨rb, 0, none⟩) n N R) : b0 ≤ rb ∧ TyB 56 w rb := by
 obtain ⟨h2, cur, h3⟩ := h.blockA rfl
 exact ⟨h2, cur, _, h3⟩
theorem OwR.keptT {R : Nat → Rw} (h : OwR w b0 (some ⟨rb, 0, none⟩) n N R) (hg : w.grownBy w' r) (hr : NotI w b0 r) (hne : r ≠ some rb) : OwR w' b0 (some ⟨rb, 0, none⟩) n N R := by
 obtain ⟨V, h1, h2⟩ := h
 exact ⟨V, fun k hk => (h1 k hk).kp (Kp.notI hg hr), h2.kept hg (.inr fun e => hne e.symm)⟩
/-- what the loop over the states that follow keeps -/
structure In2 (w0 w : World) (ng : Nat) (An : Option Addr) (cn : Nat) (Ar : Option Addr) (cr : Nat) (nx : List (DS × Rat)) (rb N : Nat) (As : Option Addr) (cs : Nat) (x : RS) : Prop where
 st : OwS w w0.heap.size As cs ng x.1
 nxt : OwS w w0.heap.size An cn ng (nx.map (·.1))
 rat : OwL w w0.heap.size 70000 Ar cr (nx.map (·.2))
 row : OwR w w0.heap.size (some ⟨rb, 0, none⟩) N N (can x.2)
 ne1 : ∀ q, (Value.slice An (nx.map (·.1)).length cn).ownBlock = some q → (Value.slice As x.1.length cs).ownBlock ≠ some q
 ne2 : ∀ q, (Value.slice Ar (nx.map (·.2)).length cr).ownBlock = some q → some rb ≠ some q
theorem In2.below (h : In2 w0 w ng An cn Ar cr nx rb N As cs x) (hb : Below w.heap.size w w') : In2 w0 w' ng An cn Ar cr nx rb N As cs x := ⟨h.st.below hb, h.nxt.below hb, h.rat.below hb, h.row.below hb, h.ne1, h.ne2⟩
/-- a state more -/
theorem In2.app {S : DS} {g cap : Nat} (h : In2 w0 w ng An cn Ar cr nx rb N As cs x) (hg : w.grownBy w' (Value.slice As x.1.length cs).ownBlock) (hS : OwS w' w0.heap.size (some ⟨g, 0, none⟩) cap ng (x.1 ++ [S])) (hgz : (Value.slice As x.1.length cs).ownBlock = some g ∨ w.heap.size ≤ g) : In2 w0 w' ng An cn Ar cr nx rb N (some ⟨g, 0, none⟩) cap (x.1 ++ [S], x.2) := by
 have hni := h.st.notI
 have hty := h.st.ty
 refine ⟨hS, h.nxt.keptNe hg hni h.ne1, h.rat.grown hg hni fun q hq ht => absurd (ty_one (hty q hq).2 ht) (by decide), h.row.keptT hg hni fun e => ?_, fun q hq e => ?_, h.ne2⟩
 · exact absurd (ty_one (hty rb e).2 h.row.tyA.2) (by decide)
 · have e : some g = some q := e
   injection e with e
   subst e
   rcases hgz with hgz | hgz
   · exact h.ne1 _ hq hgz
   · have := (h.nxt.ty _ hq).2.lt
     omega
/-- a rate more -/
theorem In2.put {x2 : Nat → Rat} (h : In2 w0 w ng An cn Ar cr nx rb N As cs x) (hg : w.grownBy w' (some rb)) (hR : OwR w' w0.heap.size (some ⟨rb, 0, none⟩) N N (can x2)) : In2 w0 w' ng An cn Ar cr nx rb N As cs (x.1, x2) := by
 obtain ⟨h1, h2⟩ := h.row.tyA
 have hni : NotI w w0.heap.size (some rb) := NotI.of_ty h2 h1 (by decide) (by decide)
 refine ⟨h.st.grown hg hni fun q hq ht => ?_, h.nxt.grown hg hni fun q hq ht => ?_, h.rat.keptNe hg hni h.ne2, hR, h.ne1, h.ne2⟩
 · injection hq with hq
   subst hq
   exact absurd (ty_one h2 ht) (by decide)
 · injection hq with hq
   subst hq
   exact absurd (ty_one h2 ht) (by decide)
end
/-! ### a chain's box is written to -/
section
variable {w : World} {b0 c k ng q : Nat} {A : Option Addr} {P : List (Nat × Nat)} {G : Nat → Nat → Rat} {Dn : Nat → Bool} {l : List DS}
theorem NotI.ofC (ht : TyB 32 w q) (hq : b0 ≤ q) : NotI w b0 (some q) := NotI.of_ty ht hq (by decide) (by decide)
theorem OwPr.setC (h : OwPr w b0 A c P G) (ht : TyB 32 w q) (hq : b0 ≤ q) (i : Nat) (u : Value) : OwPr (w.setCell ⟨q, i, none⟩ u) b0 A c P G :=
 h.grown (grownBy_setK w q i u) (NotI.ofC ht hq) fun q' e ht' => by
   injection e with e
   subst e
   exact absurd (ty_one ht ht') (by decide)
theorem OwVb.setC (h : OwVb w b0 A c k Dn) (ht : TyB 32 w q) (i : Nat) (u : Value) : OwVb (w.setCell ⟨q, i, none⟩ u) b0 A c k Dn :=
 h.grownR (grownBy_setK w q i u) fun q' e ht' => by
   injection e with e
   subst e
   exact absurd (ty_one ht ht') (by decide)
theorem OwS.setC (h : OwS w b0 A c ng l) (ht : TyB 32 w q) (hq : b0 ≤ q) (i : Nat) (u : Value) : OwS (w.setCell ⟨q, i, none⟩ u) b0 A c ng l :=
 h.grown (grownBy_setK w q i u) (NotI.ofC ht hq) fun q' e ht' => by
   injection e with e
   subst e
   exact absurd (ty_one ht ht') (by decide)
end
/-! ### append of a state, whatever follows -/
theorem wpList_appSt {w : World} {b0 c ng : Nat} {A : Option Addr} {l : List DS} {ops : Array Oper} {rest : List Oper} {o : Oper} {a : Act} {Q : Exit → Act → World → Prop} (hgd : o.guard = none) (s x : Operand)
   (ho : o.op = .call { callee := .builtin .append, args := #[s, x], argTypes := #[33, 33] })
   (S : DS) (hs : a.eval s = .slice A l.length c) (hown : OwS w b0 A c ng l)
   (B : Nat) (u : Value) (hu : RdK w b0 u ng (fun i => S.2.getD i 0)) (hx : a.eval x = .slice (some ⟨B, 0, none⟩) 1 1) (hc0 : w.cell? ⟨B, 0, none⟩ = some (.int .i64 ((S.1 : Nat) : Int))) (hc1 : w.cell? ⟨B, 1, none⟩ = some u)
   (hn : l.length ≤ 1000000) (hbase : b0 ≤ w.heap.size)
   (h : ∀ g cap w', OwS w' b0 (some ⟨g, 0, none⟩) cap ng (l ++ [S]) → w.grownBy w' (Value.slice A l.length c).ownBlock → ((Value.slice A l.length c).ownBlock = some g ∨ w.heap.size ≤ g) → wpList Tryz.prog ops Q rest (a.put o.dst (.slice (some ⟨g, 0, none⟩) (l.length + 1) cap)) w') : wpList Tryz.prog ops Q (o :: rest) a w := by
 have hno := hown.notI
 obtain ⟨V, h1, h2⟩ := hown
 obtain ⟨i0, hi0, hz0, hz1, hz2⟩ := info_parts stateInfo
 obtain ⟨B1, d1, eu⟩ := hu.form
 refine wpList_append_lies _ hgd s x 33 ho b0 45 i0 _ 2 32 Tryz.underlying33 hi0 hz0 hz1 hz2 rfl (by omega) _ l.length _ hs h2 ⟨B, 0, none⟩ 1 1 [.int .i64 ((S.1 : Nat) : Int), u] hx rfl ?_ ?_ (by omega) (by unfold maxLen; omega) (by omega) hbase w.heap.size rfl ?_
 · intro j v hv
   rw [addr_add, Nat.zero_add]
   match j, hv with
   | 0, hv => simp at hv; subst hv; exact hc0
   | 1, hv => simp at hv; subst hv; exact hc1
   | j + 2, hv => simp at hv
 · intro v hv
   simp at hv
   rcases hv with rfl | rfl
   · rfl
   · rw [eu]; rfl
 · intro g cap w' h3 h4 h5 h6
   refine h g cap w' ⟨fun k => if k = l.length then u else V k, fun k hk => ?_, ?_⟩ h4 (h5.imp id fun e => by omega)
   · by_cases e : k = l.length
     · subst e
       dsimp only
       rw [if_pos rfl]
       refine (hu.grown h4 hno).congr fun j _ => ?_
       simp
     · dsimp only
       rw [if_neg e]
       have hk2 : k < l.length := by
         rw [List.length_append, List.length_singleton] at hk
         omega
       refine ((h1 k hk2).grown h4 hno).congr fun j _ => ?_
       rw [List.getElem_append_left hk2]
   · rw [cellsS_snoc, List.length_append, List.length_singleton]
     exact h3
end Go.Proofs.YtoiopnmphbnjaaaGreatDoor
