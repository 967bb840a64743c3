/- Contracts and lemmas for the given statements. Conditions: those alone that each names. -/
import Derived.Test.YtoiopnmphbnjaaaGreatDoorJMkC
import Derived.Test.YtoiopnmphbnjaaaGreatDoorJSamS
import Derived.Test.YtoiopnmphbnjaaaGreatDoorJDynEx
import Derived.Test.YtoiopnmphbnjaaaGreatDoorRdM
import Derived.Test.YtoiopnmphbnjaaaGreatDoorJRdA
import Derived.Test.YtoiopnmphbnjaaaGreatDoorJBaseEq
namespace Go.Proofs.YtoiopnmphbnjaaaGreatDoor
open Go.RowKit
set_option linter.unusedSimpArgs false
set_option linter.unusedVariables false
set_option maxRecDepth 20000
attribute [local irreducible] nv wp win plainB validR valR canR topL prs
/-! ## ChainMakes -/
theorem prs_len5 {n : Nat} {R : Nat → Nat → Rat} : (prs n R).length ≤ n * n := by
 have h1 : (prs n R).length ≤ ((List.range n).flatMap fun a => (List.range n).map fun b => (a, b)).length := by
   refine List.Nodup.length_le_of_subset (prs_nodup n R) fun p hp => ?_
   have := mem_prs.1 hp
   rw [List.mem_flatMap]
   exact ⟨p.1, List.mem_range.2 this.1, List.mem_map.2 ⟨p.2, List.mem_range.2 this.2.1, rfl⟩⟩
 refine Nat.le_trans h1 (Nat.le_of_eq ?_)
 rw [List.length_flatMap]
 simp only [List.length_map, List.length_range]
 have : ∀ m, ((List.range m).map fun _ => n).sum = m * n := by
   intro m
   induction m with
   | zero => simp
   | succ m ih => rw [List.range_succ, List.map_append, List.sum_append, ih, Nat.succ_mul]; simp
 exact this n
/-- a row of states to read -/
def RwS (w : World) (A : Option Addr) (ng : Nat) (l : List DS) : Prop :=
 ∀ k, ∀ hk : k < l.length, ∃ g B d, A = some ⟨g, 0, none⟩ ∧ g < w.heap.size ∧ w.cell? ⟨g, k * 2, none⟩ = some (.int .i64 ((l[k].1 : Nat) : Int)) ∧ w.cell? ⟨g, k * 2 + 1, none⟩ = some (.slice B ng d) ∧ RdJ w B ng (fun i => l[k].2.getD i 0)
theorem RwS.below {w w' : World} {A : Option Addr} {ng : Nat} {l : List DS} (h : RwS w A ng l) (hb : Below w.heap.size w w') : RwS w' A ng l := fun k hk => by
 obtain ⟨g, B, d, e, h1, h2, h3, h4⟩ := h k hk
 have := hb.size
 exact ⟨g, B, d, e, by omega, (below_at hb g _ h1).trans h2, (below_at hb g _ h1).trans h3, h4.below hb⟩
theorem RwS.of {w : World} {b0 ng c : Nat} {A : Option Addr} {l : List DS} (h : OwS w b0 A c ng l) : RwS w A ng l := fun k hk => by
 obtain ⟨g, B, d, e, h0, h1, h2, h3, h4⟩ := h.at_ hk
 exact ⟨g, B, d, e, h1, h2, h3, h4.rj⟩
theorem movA_prs {w : World} {b0 cm n : Nat} {R : Nat → Nat → Rat} {A : Option Addr} (h : OwPr w b0 A cm (prs n R) R) : MovA w b0 A (prs n R).length (fun k => (((prs n R).getD k (0, 0)).1 : Nat)) (fun k => (((prs n R).getD k (0, 0)).2 : Nat)) (fun k => canR (R ((prs n R).getD k (0, 0)).1 ((prs n R).getD k (0, 0)).2)) := by
 obtain ⟨V, hV, ho⟩ := h
 rw [cellsP_M] at ho
 have hM : OwM w b0 A cm (prs n R).length (fun k => (((prs n R).getD k (0, 0)).1 : Nat)) (fun k => (((prs n R).getD k (0, 0)).2 : Nat)) (fun k => canR (R ((prs n R).getD k (0, 0)).1 ((prs n R).getD k (0, 0)).2)) := ⟨fun k => V ((prs n R).getD k (0, 0)), fun k hk => hV _ (prs_get hk), ho⟩
 exact hM.ra
/-- what both Makes answer: the chain of nm moves, nd downs and the states l, with the code -/
structure MkQ where
 N : Int
 nm : Nat
 nd : Nat
 F : Nat → Int
 T : Nat → Int
 R : Nat → Rw
 D : Nat → Bool
 l : List DS
 code : Int
def MkQ.Ret (q : MkQ) (ng : Nat) (E : Value) (e : Ending) (w' : World) : Prop := ∃ AM cm AD cd As cs, e = .returned (.tuple #[cv q.N 0 AM q.nm cm AD q.nd cd, .slice As q.l.length cs, E]) ∧ MovA w' w'.heap.size AM q.nm q.F q.T q.R ∧ RdV w' AD q.nd q.D ∧ RwS w' As ng q.l
def MkQ.Sz (q : MkQ) : Prop := q.nm ≤ 1000000 ∧ q.nd ≤ 1000000 ∧ (∀ k, k < q.nm → (q.R k).2.1.length ≤ 1000000 ∧ (q.R k).2.2.length ≤ 1000000) ∧ q.l.length ≤ 1000000
theorem mk_pair {w : World} {AG AF AR : Option Addr} {cg cf cr : Nat} {r : DyR} (h : DyI w AG AF AR r) (ht : TabW w) (hs : DyS r) (hc : codeD r = 0) (hsl : Sl49 r) (h5 : r.v ≤ 5) :
   ∃ q : MkQ, q.Sz ∧ (∀ W, Below w.heap.size w W → Calls Tryz.prog 12 #[dyv r AG cg AF cf AR cr] W fun e w' => q.Ret r.ng (errM q.code) e w' ∧ Below W.heap.size W w') ∧ (∀ W, Below w.heap.size w W → Calls Tryz.prog 15 #[dyv r AG cg AF cf AR cr] W fun e w' => q.Ret r.ng (.int .i64 q.code) e w' ∧ Below W.heap.size W w') := by
 have tt := mk_t h hc hsl
 have ok := codeD_ok hc
 have KM := fun W (hb : Below w.heap.size w W) => make_ok (cg := cg) (cf := cf) (cr := cr) (h.below hb) hs hc tt.ts (ht.below hb)
 have KR := fun W (hb : Below w.heap.size w W) => rmake_ok (cg := cg) (cf := cf) (cr := cr) (h.below hb) hs ok tt.ts
 cases hz : r.tr.make with
 | none =>
   rw [hz] at KM KR
   refine ⟨⟨0, 0, 0, fun _ => 0, fun _ => 0, fun _ => (false, [], []), fun _ => false, [], 4⟩, ⟨by show 0 ≤ _; omega, by show 0 ≤ _; omega, fun k hk => absurd hk (Nat.not_lt_zero _), by show 0 ≤ _; omega⟩, fun W hb => (KM W hb).mono fun e w' ⟨h1, h2⟩ => ⟨⟨none, 0, none, 0, none, 0, h1.trans (by rw [errM_n (show (4 : Int) ≠ 0 by omega)]; rfl), MovA.nil_ _ _ _ _ _ _, RdV.nil_ _ _ _, fun k hk => absurd hk (Nat.not_lt_zero _)⟩, h2⟩, fun W hb => (KR W hb).mono fun e w' ⟨h1, h2⟩ => ⟨⟨none, 0, none, 0, none, 0, h1, MovA.nil_ _ _ _ _ _ _, RdV.nil_ _ _ _, fun k hk => absurd hk (Nat.not_lt_zero _)⟩, h2⟩⟩
 | some z =>
   have mz := mk_z ok tt h5 hz
   rw [hz] at KM KR
   have hnm : (prs z.1.length z.2).length ≤ 1000000 := by
     have h1 := prs_len5 (n := z.1.length) (R := z.2)
     have h2 := Nat.mul_le_mul mz.n2 mz.n2
     omega
   refine ⟨⟨(z.1.length : Nat), (prs z.1.length z.2).length, z.1.length, fun k => (((prs z.1.length z.2).getD k (0, 0)).1 : Nat), fun k => (((prs z.1.length z.2).getD k (0, 0)).2 : Nat), fun k => canR (z.2 ((prs z.1.length z.2).getD k (0, 0)).1 ((prs z.1.length z.2).getD k (0, 0)).2), topL r z.1, z.1, 0⟩, ⟨hnm, by have := mz.n2; show z.1.length ≤ _; omega, fun k hk => ?_, by have := mz.n2; show z.1.length ≤ _; omega⟩, fun W hb => (KM W hb).mono fun e w' ⟨h1, h2⟩ => ⟨?_, h2⟩, fun W hb => (KR W hb).mono fun e w' ⟨h1, h2⟩ => ⟨?_, h2⟩⟩
   · have := Sz_canR (mz.sz ((prs z.1.length z.2).getD k (0, 0)).1 ((prs z.1.length z.2).getD k (0, 0)).2)
     show (canR _).2.1.length ≤ _ ∧ (canR _).2.2.length ≤ _
     omega
   · obtain ⟨AM, cm, AD, cd, As, cs, he, oP, oV, oS⟩ := h1
     have hsz := h2.size
     exact ⟨AM, cm, AD, cd, As, cs, he.trans (by rw [errM_0]), (movA_prs oP).base hsz, oV.rd, RwS.of oS⟩
   · obtain ⟨AM, cm, AD, cd, As, cs, he, oP, oV, oS⟩ := h1
     have hsz := h2.size
     exact ⟨AM, cm, AD, cd, As, cs, he, (movA_prs oP).base hsz, oV.rd, RwS.of oS⟩
theorem chain_nil49 {w : World} : Calls Tryz.prog 14 #[cv 0 0 none 0 0 none 0 0, cv 0 0 none 0 0 none 0 0] w fun e w' => e = .returned (.bool true) ∧ Below w.heap.size w w' :=
 chain_same49 (F := fun _ => 0) (T := fun _ => 0) (R := fun _ => (false, [], [])) (D := fun _ => false) (D' := fun _ => false) (MovA.nil_ w 0 none _ _ _) (MovA.nil_ w 0 none _ _ _) (RdV.nil_ w none _) (RdV.nil_ w none _) (fun _ h => absurd h (Nat.not_lt_zero _)) (by omega) (by omega) (fun _ h => absurd h (Nat.not_lt_zero _))
set_option maxHeartbeats 32000000 in
theorem chainMakes_law {w : World} {AG AF AR : Option Addr} {cg cf cr : Nat} {r : DyR} (h : DyI w AG AF AR r) (hmx : r.ng ≤ maxLen) (ht : TabW w) :
   Calls Tryz.prog 3 #[dyv r AG cg AF cf AR cr] w fun e w' => e = .returned (.bool true) ∧ Below w.heap.size w w' := by
 have KA := Lib.hid (fun W (hb : Below w.heap.size w W) => awake49_any (ht.below hb))
 have KL := Lib.hid (fun W (hb : Below w.heap.size w W) => light48_any (cg := cg) (cf := cf) (cr := cr) (h.below hb) hmx)
 have KS := Lib.hid (fun W (hl : Lt48 r) (hb : Below w.heap.size w W) => slight_any (cg := cg) (cf := cf) (cr := cr) (h.below hb) hl)
 have HH := Lib.hid h
 have HT := Lib.hid ht
 clear h ht hmx
 have hbA : Below w.heap.size w (w.alloc (.cells #[.int .i64 r.v, .slice AG r.ng cg, .int .i64 r.top, .slice AF r.nf cf, .slice AR r.nr cr] 25)) := (Below.refl _ _).alloc (Nat.le_refl _) _
 unfold dyv at KL KS ⊢
 go_enter Tryz.func3, Tryz.ntmps3
 (go_wp2_with fail; (with_reducible refine (KA.out _ (by (skip); repeat' (first | (with_reducible first | exact BlR _ _ | assumption | refine BlA ?_ ?_ _ | refine BlD ?_ | refine BlN ?_ _ | refine BlS ?_ ?_ _ | refine BlT ?_ (BlM (by assumption) ?_)) | omega | (simp only [ZZ]; omega) | go_size))).mono ?_); rintro e w1 ⟨rfl, hb1⟩; have hb1z := Below.size hb1; (try simp only [ZZ] at hb1z); obtain ⟨hb1c0, hb1f0⟩ := bbo hb1 (w.heap.size) (by first | omega | (simp only [ZZ]; omega)))
 have hB1 : Below w.heap.size w w1 := (by have z0 := Below.size hb1; (try simp only [ZZ] at z0 ⊢; skip); repeat' (first | (with_reducible first | exact BlR _ _ | assumption | refine BlA ?_ ?_ _ | refine BlD ?_ | refine BlN ?_ _ | refine BlS ?_ ?_ _ | refine BlT ?_ (BlM (by assumption) ?_)) | omega | (simp only [ZZ]; omega) | go_size))
 (go_wp2_with fail; (with_reducible refine (KL.out _ hB1).mono ?_); rintro e w2 ⟨⟨bb, rfl, hbb⟩, hb2⟩; have hb2z := Below.size hb2; (try simp only [ZZ] at hb2z); obtain ⟨hb2c0, hb2f0⟩ := bbo hb2 (w.heap.size) (by first | omega | (simp only [ZZ]; omega)))
 have hB2 : Below w.heap.size w w2 := hB1.trans (hb2.mono hB1.size)
 cases bb with
 | false =>
   clear hbb
   (go_wp2_with fail; (with_reducible refine (KA.out _ hB2).mono ?_); rintro e w3 ⟨rfl, hb3⟩; have hb3z := Below.size hb3; (try simp only [ZZ] at hb3z))
   go_wp2
   go_ret
   exact ⟨rfl, hB2.trans (hb3.mono hB2.size)⟩
 | true =>
   have hlt := hbb (by trivial)
   clear hbb KL
   (go_wp2_with fail; (with_reducible refine (KS.out _ hlt hB2).mono ?_); rintro e w3 ⟨⟨b2, rfl, hbb⟩, hb3⟩; have hb3z := Below.size hb3; (try simp only [ZZ] at hb3z); obtain ⟨hb3c0, hb3f0⟩ := bbo hb3 (w.heap.size) (by first | omega | (simp only [ZZ]; omega)))
   have hB3 : Below w.heap.size w w3 := hB2.trans (hb3.mono hB2.size)
   cases b2 with
   | false =>
     clear hbb
     (go_wp2_with fail; (with_reducible refine (KA.out _ hB3).mono ?_); rintro e w4 ⟨rfl, hb4⟩; have hb4z := Below.size hb4; (try simp only [ZZ] at hb4z))
     go_wp2
     go_ret
     exact ⟨rfl, hB3.trans (hb4.mono hB3.size)⟩
   | true =>
     have hsl := hbb (by trivial)
     clear hbb KS
     have hs := hlt.s
     have KC := Lib.hid (fun W (hb : Below w.heap.size w W) => rcheck48_any (cg := cg) (cf := cf) (cr := cr) (HH.out.below hb) hs)
     have hw3 : w.heap.size < w3.heap.size := by have := hb1.size; have := hb2.size; have := hb3.size; simp at *; omega
     have y0 : w3.cell? ⟨w.heap.size, 0, none⟩ = some (.int .i64 r.v) := by rw [hb3c0, hb2c0, hb1c0]; simp
     have y1 : w3.cell? ⟨w.heap.size, 1, none⟩ = some (.slice AG r.ng cg) := by rw [hb3c0, hb2c0, hb1c0]; simp
     have y2 : w3.cell? ⟨w.heap.size, 2, none⟩ = some (.int .i64 r.top) := by rw [hb3c0, hb2c0, hb1c0]; simp
     have y3 : w3.cell? ⟨w.heap.size, 3, none⟩ = some (.slice AF r.nf cf) := by rw [hb3c0, hb2c0, hb1c0]; simp
     have y4 : w3.cell? ⟨w.heap.size, 4, none⟩ = some (.slice AR r.nr cr) := by rw [hb3c0, hb2c0, hb1c0]; simp
     clear hb1c0 hb2c0 hb3c0 hb1f0 hb2f0 hb3f0 hb1 hb2 hb3 hB1 hB2
     by_cases hc : codeD r = 0
     · rw [hc] at KC
       by_cases h5 : 5 < r.v
       · have e1 : decide (5 < r.v) = true := by simpa using h5
         clear h5 hc hsl hlt HH HT hs
         unfold dyv at KC
         (go_wp2_with fail; (with_reducible refine (KC.out _ hB3).mono ?_); rintro e w4 ⟨rfl, hb4⟩; have hb4z := Below.size hb4; (try simp only [ZZ] at hb4z))
         have hB4 : Below w.heap.size w w4 := hB3.trans (hb4.mono hB3.size)
         clear hb4
         (go_wp2_with fail; (with_reducible refine (KA.out _ hB4).mono ?_); rintro e w5 ⟨rfl, hb5⟩; have hb5z := Below.size hb5; (try simp only [ZZ] at hb5z))
         go_wp2
         go_ret
         exact ⟨rfl, hB4.trans (hb5.mono hB4.size)⟩
       · have e1 : decide (5 < r.v) = false := by simpa using h5
         obtain ⟨q, hq, KM, KR⟩ := mk_pair (cg := cg) (cf := cf) (cr := cr) HH.out HT.out hs hc hsl (by omega)
         unfold dyv at KC KM KR
         have HNG : Hid (r.ng ≤ 1000000) := by
           show _ ≤ _
           have := hlt.ng; omega
         generalize r.ng = ng at *
         have HQ := Lib.hid hq
         have KM := Lib.hid KM
         have KR := Lib.hid KR
         have KN := Lib.hid (fun W => bnum_e q.code W)
         clear h5 hc hsl hlt HH HT hs hq KA
         (go_wp2_with fail; (with_reducible refine (KM.out _ hB3).mono ?_); rintro e w4 ⟨⟨AM, cm, AD, cd, As, cs, rfl, oM, oD, oS⟩, hb4⟩; have hb4z := Below.size hb4; (try simp only [ZZ] at hb4z); obtain ⟨hb4c0, hb4f0⟩ := bbo hb4 (w.heap.size) (by first | omega | (simp only [ZZ]; omega)))
         have hB4 : Below w.heap.size w w4 := hB3.trans (hb4.mono hB3.size)
         have u0 := (hb4c0 0).trans y0
         have u1 := (hb4c0 1).trans y1
         have u2 := (hb4c0 2).trans y2
         have u3 := (hb4c0 3).trans y3
         have u4 := (hb4c0 4).trans y4
         have hw4 : w.heap.size < w4.heap.size := by omega
         have ne1 : ¬ (w.heap.size = w4.heap.size) := by omega
         have ne2 : ¬ (w4.heap.size = w.heap.size) := by omega
         have HM := Lib.hid oM
         have HD := Lib.hid oD
         have HS := Lib.hid oS
         clear hb4 hb4c0 hb4f0 y0 y1 y2 y3 y4 oM oD oS hB3 hw3
         (have olc := fun o i => below_at ((Below.refl w4.heap.size w4).alloc (Nat.le_refl _) o) (w.heap.size) i (by omega)); (have olf := fun o i => below_fr ((Below.refl w4.heap.size w4).alloc (Nat.le_refl _) o) (w.heap.size) i (by omega))
         (go_wp2_with fail; (with_reducible refine (KC.out _ (by have z0 := Below.size hB4; (try simp only [ZZ] at z0 ⊢; skip); repeat' (first | (with_reducible first | exact BlR _ _ | assumption | refine BlA ?_ ?_ _ | refine BlD ?_ | refine BlN ?_ _ | refine BlS ?_ ?_ _ | refine BlT ?_ (BlM (by assumption) ?_)) | omega | (simp only [ZZ]; omega) | go_size))).mono ?_); rintro e w5 ⟨rfl, hb5⟩; have hb5z := Below.size hb5; (try simp only [ZZ] at hb5z); obtain ⟨hb5c0, hb5f0⟩ := bbo hb5 (w.heap.size) (by first | omega | (simp only [ZZ]; omega)); obtain ⟨hb5c1, hb5f1⟩ := bbo hb5 (w4.heap.size) (by first | omega | (simp only [ZZ]; omega)))
         have hb45 : Below w4.heap.size w4 w5 := (by have z0 := Below.size hb5; (try simp only [ZZ] at z0 ⊢; skip); repeat' (first | (with_reducible first | exact BlR _ _ | assumption | refine BlA ?_ ?_ _ | refine BlD ?_ | refine BlN ?_ _ | refine BlS ?_ ?_ _ | refine BlT ?_ (BlM (by assumption) ?_)) | omega | (simp only [ZZ]; omega) | go_size))
         have hB5 : Below w.heap.size w w5 := hB4.trans (hb45.mono (by omega))
         have v0 := (hb5c0 0).trans ((olc _ 0).trans u0)
         have v1 := (hb5c0 1).trans ((olc _ 1).trans u1)
         have v2 := (hb5c0 2).trans ((olc _ 2).trans u2)
         have v3 := (hb5c0 3).trans ((olc _ 3).trans u3)
         have v4 := (hb5c0 4).trans ((olc _ 4).trans u4)
         have b0 := (hb5c1 0).trans ((World.cell?_alloc_at _ _ _ _ rfl).trans rfl : _ = some (.int .i64 q.N))
         have b1 := (hb5c1 1).trans ((World.cell?_alloc_at _ _ _ _ rfl).trans rfl : _ = some (.int .i64 0))
         have b2 := (hb5c1 2).trans ((World.cell?_alloc_at _ _ _ _ rfl).trans rfl : _ = some (.slice AM q.nm cm))
         have b3 := (hb5c1 3).trans ((World.cell?_alloc_at _ _ _ _ rfl).trans rfl : _ = some (.slice AD q.nd cd))
         have hz5 : w4.heap.size < w5.heap.size := by omega
         have HM5 := Lib.hid (HM.out.below hb45)
         have HD5 := Lib.hid (HD.out.below hb45)
         have HS5 := Lib.hid (HS.out.below hb45)
         clear hb5 hb5c0 hb5c1 hb5f0 hb5f1 u0 u1 u2 u3 u4 olc olf HM HD HS KC KM hb45 hB4
         (go_wp2_with fail; (with_reducible refine (KR.out _ hB5).mono ?_); rintro e w6 ⟨⟨AM', cm', AD', cd', As', cs', rfl, oM', oD', oS'⟩, hb6⟩; have hb6z := Below.size hb6; (try simp only [ZZ] at hb6z); obtain ⟨hb6c0, hb6f0⟩ := bbo hb6 (w4.heap.size) (by first | omega | (simp only [ZZ]; omega)))
         have hB6 : Below w.heap.size w w6 := hB5.trans (hb6.mono hB5.size)
         have c0 := (hb6c0 0).trans b0
         have c1 := (hb6c0 1).trans b1
         have c2 := (hb6c0 2).trans b2
         have c3 := (hb6c0 3).trans b3
         have hz6 : w4.heap.size < w6.heap.size := by omega
         have hz6' : w.heap.size ≤ w6.heap.size := hB6.size
         have ne3 : ¬ (w4.heap.size = w6.heap.size) := by omega
         have ne4 : ¬ (w6.heap.size = w4.heap.size) := by omega
         have HM6 := Lib.hid (HM5.out.below hb6)
         have HD6 := Lib.hid (HD5.out.below hb6)
         have HS6 := Lib.hid (HS5.out.below hb6)
         have HT6 := Lib.hid oS'
         have KCh := Lib.hid (fun W (hX : Below w6.heap.size w6 W) => chain_same49 (st := q.N) (sr := 0) (a := cm) (a' := cm') (b := cd) (b' := cd') (HM6.out.below hX) (oM'.below hX) (HD6.out.below hX) (oD'.below hX) (fun _ _ => rfl) HQ.out.1 HQ.out.2.1 HQ.out.2.2.1)
         have HB6 := Lib.hid hB6
         have hl6 := HQ.out.2.2.2
         clear hb6 hb6c0 hb6f0 b0 b1 b2 b3 v0 v1 v2 v3 v4 hB5 hB6 HM5 HD5 HS5 HM6 HD6 oM' oD' oS' HQ KR hz5
         generalize q.N = N at *
         generalize q.nm = nm at *
         generalize q.nd = nd at *
         generalize q.code = code at *
         generalize q.l = l at *
         have e5 : (code != code) = false := by simp
         have e6 : ((l.length : Int) != (l.length : Int)) = false := by simp
         (have omc := fun o i => below_at ((Below.refl w6.heap.size w6).alloc (Nat.le_refl _) o) (w4.heap.size) i (by omega)); (have omf := fun o i => below_fr ((Below.refl w6.heap.size w6).alloc (Nat.le_refl _) o) (w4.heap.size) i (by omega))
         go_wp2_with fail
         refine (KN.out _).mono ?_
         rintro e _ ⟨rfl, rfl⟩
         (go_wp2_with fail; (with_reducible refine (KCh.out _ (by (skip); repeat' (first | (with_reducible first | exact BlR _ _ | assumption | refine BlA ?_ ?_ _ | refine BlD ?_ | refine BlN ?_ _ | refine BlS ?_ ?_ _ | refine BlT ?_ (BlM (by assumption) ?_)) | omega | (simp only [ZZ]; omega) | go_size))).mono ?_); rintro e w7 ⟨rfl, hb7⟩; have hb7z := Below.size hb7; (try simp only [ZZ] at hb7z))
         have hb67 : Below w6.heap.size w6 w7 := (by have z0 := Below.size hb7; (try simp only [ZZ] at z0 ⊢; skip); repeat' (first | (with_reducible first | exact BlR _ _ | assumption | refine BlA ?_ ?_ _ | refine BlD ?_ | refine BlN ?_ _ | refine BlS ?_ ?_ _ | refine BlT ?_ (BlM (by assumption) ?_)) | omega | (simp only [ZZ]; omega) | go_size))
         have HS7 := Lib.hid (HS6.out.below hb67)
         have HT7 := Lib.hid (HT6.out.below hb67)
         have HB7 := Lib.hid (HB6.out.trans (hb67.mono hz6'))
         have hz7 := hb67.size
         clear hb7 hb67 omc omf c0 c1 c2 c3 KCh KN HS6 HT6 HB6
         go_wp2_with fail
         go_loopw [83] (fun i wr => ∃ k : Nat, k ≤ l.length ∧ i = .int .i64 (k : Int) ∧ Below w7.heap.size w7 wr) (fun i _ => l.length - (intOf i).toNat)
         case atStart => exact ⟨0, Nat.zero_le _, rfl, Below.refl _ _⟩
         case round =>
           obtain ⟨k, hk, rfl, hb⟩ := hrel
           by_cases hkl : k < l.length
           · obtain ⟨g1, B1, d1, rfl, hg1, p0, p1, r1⟩ := (HS7.out.below hb) k hkl
             obtain ⟨g2, B2, d2, rfl, hg2, p2, p3, r2⟩ := (HT7.out.below hb) k hkl
             have KSs : Hid (∀ W, Below wr.heap.size wr W → Calls Tryz.prog 16 #[.agg #[.int .i64 ((l[k].1 : Nat) : Int), .slice B1 ng d1], .agg #[.int .i64 ((l[k].1 : Nat) : Int), .slice B2 ng d2]] W fun e w' => e = .returned (.bool true) ∧ Below W.heap.size W w') := fun W hX => by
               refine (sameS_any (r1.below hX) (r2.below hX) HNG.out).mono fun e w' ⟨⟨b, he, hb⟩, h2⟩ => ⟨?_, h2⟩
               rw [he, hb.2 ⟨rfl, rfl, fun _ _ => rfl⟩]
             generalize ((l[k].1 : Nat) : Int) = f at *
             have x0 := fun y : Sub wr => y.cell p0
             have x1 := fun y : Sub wr => y.cell p1
             have x2 := fun y : Sub wr => y.cell p2
             have x3 := fun y : Sub wr => y.cell p3
             have hk0 : (0 : Int) ≤ (k : Int) := by omega
             have hki : (k : Int) < (l.length : Int) := by omega
             have HBB := Lib.hid hb
             clear p0 p1 p2 p3 r1 r2 hb
             go_wp2_with fail
             ((refine wp_region_quiet_bel (by kernel_rfl) (by kernel_rfl) ?_); (repeat (go_big_quiet_step ((go_at_call 16; with_reducible exact Calls.quiet_bel (KSs.out _ (Sub.bel _)))))); (refine wpQuiet_nil ?_); rintro w8 ⟨⟨_, hb8⟩, rfl⟩; (try dsimp only))
             have HBF := Lib.hid (HBB.out.trans (hb8.mono HBB.out.size))
             clear hb8
             go_wp2_with fail
             go_roundw
             case rel => exact ⟨k + 1, by omega, by go_num, HBF.out⟩
             case measure => simp [intOf]; omega
           · go_wp2_with fail
             go_ret
             exact ⟨rfl, HB7.out.trans (hb.mono HB7.out.size)⟩
     · have KE := Lib.hid (fun W (hb : Below w.heap.size w W) => make_err (cg := cg) (cf := cf) (cr := cr) (HH.out.below hb) hs hc)
       obtain ⟨code, hcd⟩ : ∃ code, code = codeD r := ⟨_, rfl⟩
       rw [← hcd] at KC KE hc
       have KN := Lib.hid (fun W => bnum_e code W)
       have KCh := Lib.hid (fun W => chain_nil49 (w := W))
       have e2 : (code == 0) = false := by simpa using hc
       have e3 : (code != 0) = true := by simpa using hc
       have e4 : (code == code) = true := by simp
       unfold dyv at KC KE
       have KC5 := KC
       clear hcd hc hsl hlt HH HT hs KA
       obtain ⟨t, ht⟩ : ∃ t, t = decide (5 < r.v) := ⟨_, rfl⟩
       cases t
       · have e1 := ht.symm
         obtain ⟨w4, ew4⟩ : ∃ w4, w4 = w3 := ⟨_, rfl⟩
         subst ew4
         clear ht KC5
         (go_wp2_with fail; (with_reducible refine (KE.out _ hB3).mono ?_); rintro e w5 ⟨rfl, hb5⟩; have hb5z := Below.size hb5; (try simp only [ZZ] at hb5z); obtain ⟨hb5c0, hb5f0⟩ := bbo hb5 (w.heap.size) (by first | omega | (simp only [ZZ]; omega)))
         have hB5 : Below w.heap.size w w5 := hB3.trans (hb5.mono hB3.size)
         have u0 := (hb5c0 0).trans y0
         have u1 := (hb5c0 1).trans y1
         have u2 := (hb5c0 2).trans y2
         have u3 := (hb5c0 3).trans y3
         have u4 := (hb5c0 4).trans y4
         have hw5 : w.heap.size < w5.heap.size := by omega
         have ne1 : ¬ (w.heap.size = w5.heap.size) := by omega
         have ne2 : ¬ (w5.heap.size = w.heap.size) := by omega
         clear hb5 hb5c0 hb5f0
         (have olc := fun o i => below_at ((Below.refl w5.heap.size w5).alloc (Nat.le_refl _) o) (w.heap.size) i (by omega)); (have olf := fun o i => below_fr ((Below.refl w5.heap.size w5).alloc (Nat.le_refl _) o) (w.heap.size) i (by omega))
         (go_wp2_with fail; (with_reducible refine (KC.out _ (by have z0 := Below.size hB5; (try simp only [ZZ] at z0 ⊢; skip); repeat' (first | (with_reducible first | exact BlR _ _ | assumption | refine BlA ?_ ?_ _ | refine BlD ?_ | refine BlN ?_ _ | refine BlS ?_ ?_ _ | refine BlT ?_ (BlM (by assumption) ?_)) | omega | (simp only [ZZ]; omega) | go_size))).mono ?_); rintro e w6 ⟨rfl, hb6⟩; have hb6z := Below.size hb6; (try simp only [ZZ] at hb6z); obtain ⟨hb6c0, hb6f0⟩ := bbo hb6 (w5.heap.size) (by first | omega | (simp only [ZZ]; omega)))
         have hb56 : Below w5.heap.size w5 w6 := (by have z0 := Below.size hb6; (try simp only [ZZ] at z0 ⊢; skip); repeat' (first | (with_reducible first | exact BlR _ _ | assumption | refine BlA ?_ ?_ _ | refine BlD ?_ | refine BlN ?_ _ | refine BlS ?_ ?_ _ | refine BlT ?_ (BlM (by assumption) ?_)) | omega | (simp only [ZZ]; omega) | go_size))
         have hB6 : Below w.heap.size w w6 := hB5.trans (hb56.mono (by omega))
         have b0 := (hb6c0 0).trans ((World.cell?_alloc_at _ _ _ _ rfl).trans rfl : _ = some (.int .i64 0))
         have b1 := (hb6c0 1).trans ((World.cell?_alloc_at _ _ _ _ rfl).trans rfl : _ = some (.int .i64 0))
         have b2 := (hb6c0 2).trans ((World.cell?_alloc_at _ _ _ _ rfl).trans rfl : _ = some (.slice none 0 0))
         have b3 := (hb6c0 3).trans ((World.cell?_alloc_at _ _ _ _ rfl).trans rfl : _ = some (.slice none 0 0))
         clear hb6 hb6c0 hb6f0 olc olf u0 u1 u2 u3 u4 hb56
         go_wp2_with fail
         refine (KN.out _).mono ?_
         rintro e _ ⟨rfl, rfl⟩
         (go_wp2_with fail; (with_reducible refine (KCh.out _).mono ?_); rintro e w7 ⟨rfl, hb7⟩; have hb7z := Below.size hb7; (try simp only [ZZ] at hb7z))
         go_wp2
         go_ret
         exact ⟨rfl, hB6.trans (hb7.mono hB6.size)⟩
       · have e1 := ht.symm
         clear ht
         (go_wp2_with fail; (with_reducible refine (KC5.out _ hB3).mono ?_); rintro e w4 ⟨rfl, hb4⟩; have hb4z := Below.size hb4; (try simp only [ZZ] at hb4z); obtain ⟨hb4c0, hb4f0⟩ := bbo hb4 (w.heap.size) (by first | omega | (simp only [ZZ]; omega)))
         have hB4 : Below w.heap.size w w4 := hB3.trans (hb4.mono hB3.size)
         have z0 := (hb4c0 0).trans y0
         have z1 := (hb4c0 1).trans y1
         have z2 := (hb4c0 2).trans y2
         have z3 := (hb4c0 3).trans y3
         have z4 := (hb4c0 4).trans y4
         clear hb4 hb4c0 hb4f0 KC5
         (go_wp2_with fail; (with_reducible refine (KE.out _ hB4).mono ?_); rintro e w5 ⟨rfl, hb5⟩; have hb5z := Below.size hb5; (try simp only [ZZ] at hb5z); obtain ⟨hb5c0, hb5f0⟩ := bbo hb5 (w.heap.size) (by first | omega | (simp only [ZZ]; omega)))
         have hB5 : Below w.heap.size w w5 := hB4.trans (hb5.mono hB4.size)
         have u0 := (hb5c0 0).trans z0
         have u1 := (hb5c0 1).trans z1
         have u2 := (hb5c0 2).trans z2
         have u3 := (hb5c0 3).trans z3
         have u4 := (hb5c0 4).trans z4
         have hw5 : w.heap.size < w5.heap.size := by omega
         have ne1 : ¬ (w.heap.size = w5.heap.size) := by omega
         have ne2 : ¬ (w5.heap.size = w.heap.size) := by omega
         clear hb5 hb5c0 hb5f0
         (have olc := fun o i => below_at ((Below.refl w5.heap.size w5).alloc (Nat.le_refl _) o) (w.heap.size) i (by omega)); (have olf := fun o i => below_fr ((Below.refl w5.heap.size w5).alloc (Nat.le_refl _) o) (w.heap.size) i (by omega))
         (go_wp2_with fail; (with_reducible refine (KC.out _ (by have z0 := Below.size hB5; (try simp only [ZZ] at z0 ⊢; skip); repeat' (first | (with_reducible first | exact BlR _ _ | assumption | refine BlA ?_ ?_ _ | refine BlD ?_ | refine BlN ?_ _ | refine BlS ?_ ?_ _ | refine BlT ?_ (BlM (by assumption) ?_)) | omega | (simp only [ZZ]; omega) | go_size))).mono ?_); rintro e w6 ⟨rfl, hb6⟩; have hb6z := Below.size hb6; (try simp only [ZZ] at hb6z); obtain ⟨hb6c0, hb6f0⟩ := bbo hb6 (w5.heap.size) (by first | omega | (simp only [ZZ]; omega)))
         have hb56 : Below w5.heap.size w5 w6 := (by have z0 := Below.size hb6; (try simp only [ZZ] at z0 ⊢; skip); repeat' (first | (with_reducible first | exact BlR _ _ | assumption | refine BlA ?_ ?_ _ | refine BlD ?_ | refine BlN ?_ _ | refine BlS ?_ ?_ _ | refine BlT ?_ (BlM (by assumption) ?_)) | omega | (simp only [ZZ]; omega) | go_size))
         have hB6 : Below w.heap.size w w6 := hB5.trans (hb56.mono (by omega))
         have b0 := (hb6c0 0).trans ((World.cell?_alloc_at _ _ _ _ rfl).trans rfl : _ = some (.int .i64 0))
         have b1 := (hb6c0 1).trans ((World.cell?_alloc_at _ _ _ _ rfl).trans rfl : _ = some (.int .i64 0))
         have b2 := (hb6c0 2).trans ((World.cell?_alloc_at _ _ _ _ rfl).trans rfl : _ = some (.slice none 0 0))
         have b3 := (hb6c0 3).trans ((World.cell?_alloc_at _ _ _ _ rfl).trans rfl : _ = some (.slice none 0 0))
         clear hb6 hb6c0 hb6f0 olc olf u0 u1 u2 u3 u4 hb56
         go_wp2_with fail
         refine (KN.out _).mono ?_
         rintro e _ ⟨rfl, rfl⟩
         (go_wp2_with fail; (with_reducible refine (KCh.out _).mono ?_); rintro e w7 ⟨rfl, hb7⟩; have hb7z := Below.size hb7; (try simp only [ZZ] at hb7z))
         go_wp2
         go_ret
         exact ⟨rfl, hB6.trans (hb7.mono hB6.size)⟩
end Go.Proofs.YtoiopnmphbnjaaaGreatDoor
