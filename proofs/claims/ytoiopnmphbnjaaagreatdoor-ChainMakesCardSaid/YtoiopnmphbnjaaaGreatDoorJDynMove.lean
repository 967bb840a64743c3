/- Contracts and lemmas for the given statements. Conditions: those alone that each names. -/
import Derived.Test.YtoiopnmphbnjaaaGreatDoorJDynKey
import Derived.Test.YtoiopnmphbnjaaaGreatDoorJDynW18
import Derived.Test.YtoiopnmphbnjaaaGreatDoorJDynW16
import Derived.Test.YtoiopnmphbnjaaaGreatDoorJDynMk2
set_option maxHeartbeats 8000000
namespace Go.Proofs.YtoiopnmphbnjaaaGreatDoor
open Go.RowKit
open Go.Maps Go.WideMaps
set_option linter.unusedSimpArgs false
set_option linter.unusedVariables false
set_option maxRecDepth 20000
attribute [local irreducible] nv wp win plainB validR valR canR kyL
/-! ## chain.maker: move -/
section
variable {w w' : World} {K : MB} {N cs cm : Nat} {l : List DS} {G : Nat → Nat → Rat} {As Am : Option Addr} {S : DS}
theorem Kw.kp (h : Kw K w w') (hm : MKI w K N l G As cs) : Kp K.b0 w w' :=
 ⟨h.os, h.tape, h.output, h.size, fun k hk hw => h.block k hk (by
   rcases hw with hw | hw
   · exact .inl hw
   · have hw : TyB 157 w k := hw
     refine .inr ⟨fun e => ?_, fun e => ?_, fun e => ?_, fun e => ?_⟩
     · subst e; exact absurd (ty_one hw hm.mty) (by decide)
     · subst e; exact map_not_ty hm.bnm hw
     · subst e; exact map_not_ty hm.brm hw
     · exact absurd (ty_one hw e) (by decide))⟩
theorem find_ok (h : MKI w K N l G As cs) (hf : FdS w K Am cm S) (hr : S ∈ l ∨ l.length < 256) (h256 : l.length ≤ 256) :
   Calls Tryz.prog 45 #[.pointer (some ⟨K.m, 0, none⟩), .agg #[.int .i64 (S.1 : Nat), .slice Am K.r.ng cm]] w fun e w' => (e = .returned (.tuple #[.int .i64 (l.idxOf S : Nat), .nilIface]) ∧ ∃ As' cs', MKI w' K N (addS l S) G As' cs') ∧ Kw K w w' := by
 by_cases hS : S ∈ l
 · refine (find_old h hf hS h256).mono fun e w' ⟨he, hb⟩ => ⟨⟨he, As, cs, ?_⟩, Kw.of_below hb⟩
   unfold addS
   rw [if_pos hS]
   exact h.below hb
 · refine (find_new h hf hS (hr.resolve_left hS)).mono fun e w' ⟨⟨he, A', c', hi⟩, hb⟩ => ⟨⟨?_, A', c', ?_⟩, hb⟩
   · rw [idx_add hS]; exact he
   · unfold addS
     rw [if_neg hS]
     exact hi
/-- a rate has been put -/
theorem MKI.rate {w' : World} {D : DataW Value} {a b : Nat} {v : Value} {q : Rat} (h : MKI w K N l G As cs) (hD : OwMr w' K.br (N + 1) (D.put (pkL a b) (.held v))) (hd : RatD w K.b0 D l.length G) (hg : w.grownBy w' (some K.br)) (ha : a < l.length) (hb : b < l.length) (hab : a ≠ b) (hl : l.length ≤ 1000000) (hq : 0 < q) (hv : RdS w K.b0 v (canR q)) :
   MKI w' K (N + 1) l (fun x y => if x = a ∧ y = b then q else G x y) As cs ∧ Kw K w w' := by
 have hnr : NotI w K.b0 (some K.br) := by obtain ⟨es, c, e⟩ := h.brm; exact NotI.of_map e h.bc
 have nm : K.m ≠ K.br := fun e => map_not_ty h.brm (e ▸ h.mty)
 obtain ⟨E, e1, e2⟩ := h.num
 have kp := Kp.notI hg hnr
 refine ⟨⟨h.bm, h.bb, h.bc, h.nn, Nat.le_trans h.lo hg.size, (hg.block K.m h.mlt (fun e => nm (by injection e))).trans h.blk, h.st.grown hg hnr (fun k e ht => ?_), ⟨E, e1.kept hg (fun e => h.nn (by injection e)), e2⟩, ⟨_, hD, (hd.kp kp).put ha hb hab hl hq (hv.kp kp)⟩⟩, ?_⟩
 · injection e with e
   subst e
   exact map_not_ty h.brm ht
 · refine Kw.of_grown hg fun k e => ?_
   injection e with e
   exact ⟨by rw [← e]; exact h.bc, .inr (.inr (.inl e.symm))⟩
/-- what move is asked with -/
structure MvS (w : World) (K : MB) (k : Nat) (l : List DS) (G : Nat → Nat → Rat) (S : DS) (v : Value) (q : Rat) : Prop where
 tab : TabW w
 hk : k < l.length
 n64 : K.r.ng ≤ 64
 rv : RdS w K.b0 v (canR q)
 pos : 0 < q
 szq : Sz 100000000 q
 nn : 0 ≤ G k (l.idxOf S)
 szg : Sz 100000000 (G k (l.idxOf S))
 len : S.2.length = K.r.ng
 f24 : S.1 < 16777216
 mem : ∀ i, i < K.r.ng → -1 ≤ S.2.getD i 0 ∧ S.2.getD i 0 ≤ 16
 l256 : l.length ≤ 256
/-- what move answers -/
def MvRet (K : MB) (N : Nat) (l : List DS) (G : Nat → Nat → Rat) (k : Nat) (S : DS) (q : Rat) (e : Ending) (w' : World) : Prop :=
 if S ∈ l ∨ l.length < 256 then e = .returned .nilIface ∧ ∃ As' cs', MKI w' K (N + 1) (addS l S) (fun x y => if x = k ∧ y = l.idxOf S then G x y + q else G x y) As' cs' else e = .returned (.iface 80 (.int .i64 4))
theorem move_ok {k i : Nat} {v : Value} {q : Rat} {fid : FuncId} (h : MKI w K N l G As cs) (hs : MvS w K k l G S v q) (hN : N ≤ 100000)
   (eg : ∀ args W, (callFunc fid args).run Tryz.prog W = .ok (.enter fid args) W)
   (HT : ∀ X B d, Below w.heap.size w X → RdJ X B K.r.ng (fun i => (l[k]'hs.hk).2.getD i 0) → Calls Tryz.prog fid #[dyv K.r K.AG K.cg K.AF K.cf K.AR K.cr, .agg #[.int .i64 ((l[k]'hs.hk).1 : Nat), .slice B K.r.ng d], .int .i64 (i : Int)] X fun x w' => StRet 0 X.heap.size K.r.ng S x w' ∧ Below X.heap.size X w') :
   Calls Tryz.prog 46 #[.pointer (some ⟨K.m, 0, none⟩), .int .i64 (k : Int), v, .func (.func fid) #[] #[], .int .i64 (i : Int)] w fun e w' => MvRet K N l G k S q e w' ∧ Kw K w w' := by
 have hk := hs.hk
 obtain ⟨g, B, d, rfl, hgb, hglt, c0, c1, rk⟩ := h.st.at_ hk
 have hc := h.cells
 have hml := h.mlt
 have KS := Lib.hid (fun X (hX : Below w.heap.size w X) => signQ (((hs.rv.kp (Kp.of_below hX)).canQ hs.szq)) (by omega) (by omega))
 rw [sgn_pos hs.pos] at KS
 have HS := Lib.hid hs
 have HM := Lib.hid h
 have HTT := Lib.hid (fun X (hX : Below w.heap.size w X) => HT X B d hX ((rk.below hX).rj))
 have hnm : K.m ≠ g := fun e => by
   have h1 := h.mty
   obtain ⟨V, _, h2⟩ := h.st
   obtain ⟨_, cur, h3⟩ := oT h2 g rfl
   rw [e] at h1
   exact absurd (ty_one h1 ⟨cur, _, h3⟩) (by decide)
 obtain ⟨sv, Av, av, cv, Bv, bv, dv, rfl⟩ := hs.rv.form
 have l256 := hs.l256
 obtain ⟨F, hF⟩ : ∃ F, (l[k]'hk).1 = F := ⟨_, rfl⟩
 rw [hF] at c0
 have HTF : Hid (∀ X, Below w.heap.size w X → Calls Tryz.prog fid #[dyv K.r K.AG K.cg K.AF K.cf K.AR K.cr, .agg #[.int .i64 (F : Nat), .slice B K.r.ng d], .int .i64 (i : Int)] X fun x w' => (∃ A c, x = .returned (.tuple #[.agg #[.int .i64 (S.1 : Nat), .slice A K.r.ng c], .nilIface]) ∧ OwJ w' X.heap.size A c K.r.ng (fun i => S.2.getD i 0)) ∧ Below X.heap.size X w') := by
   show ∀ _, _
   rw [← hF]
   intro X hX
   refine (HTT.out X hX).mono fun x w' ⟨h1, h2⟩ => ⟨?_, h2⟩
   unfold StRet at h1
   rw [if_pos rfl] at h1
   exact h1
 unfold dyv at HTF
 clear HT HTT hF rk hs h
 go_enter Tryz.func46, Tryz.ntmps46
 go_wp2_with fail
 refine (KS.out _ (by (skip); repeat' (first | (with_reducible first | exact BlR _ _ | assumption | refine BlA ?_ ?_ _ | refine BlD ?_ | refine BlN ?_ _ | refine BlS ?_ ?_ _ | refine BlT ?_ (BlM (by assumption) ?_)) | omega | (simp only [ZZ]; omega) | go_size))).mono ?_
 rintro e w1 ⟨rfl, hb1⟩
 have hb1z := hb1.size
 simp only [World.size_alloc] at hb1z
 have hbA : Below w.heap.size w w1 := (by have z0 := Below.size hb1; (try simp only [ZZ] at z0 ⊢; skip); repeat' (first | (with_reducible first | exact BlR _ _ | assumption | refine BlA ?_ ?_ _ | refine BlD ?_ | refine BlN ?_ _ | refine BlS ?_ ?_ _ | refine BlT ?_ (BlM (by assumption) ?_)) | omega | (simp only [ZZ]; omega) | go_size))
 have x0 := (below_at hbA K.m 0 hml).trans hc.1
 have x1 := (below_at hbA K.m 1 hml).trans hc.2.1
 have x2 := (below_at hbA K.m 2 hml).trans hc.2.2.1
 have x3 := (below_at hbA K.m 3 hml).trans hc.2.2.2.1
 have x4 := (below_at hbA K.m 4 hml).trans hc.2.2.2.2.1
 have x5 := (below_at hbA K.m 5 hml).trans hc.2.2.2.2.2.1
 have y0 := (below_at hbA g (k * 2) hglt).trans c0
 have y1 := (below_at hbA g (k * 2 + 1) hglt).trans c1
 have z0 : w1.cell? ⟨w.heap.size, 0, none⟩ = some (.bool sv) := (below_at hb1 w.heap.size 0 (by simp)).trans (by simp [go_sem])
 have z1 : w1.cell? ⟨w.heap.size, 1, none⟩ = some (.slice Av av cv) := (below_at hb1 w.heap.size 1 (by simp)).trans (by simp [go_sem])
 have z2 : w1.cell? ⟨w.heap.size, 2, none⟩ = some (.slice Bv bv dv) := (below_at hb1 w.heap.size 2 (by simp)).trans (by simp [go_sem])
 have hzt : TyB 56 w1 w.heap.size := ⟨_, _, (hb1.block w.heap.size (by simp)).trans (heap_alloc_new w _)⟩
 have i1 : (k : Int) < (l.length : Int) := by omega
 have i0 : (0 : Int) ≤ (k : Int) := by omega
 have egF := Lib.hid eg
 have hbd : Below w.heap.size w w1.drew := hbA.trans (Below.refl _ _).drew
 have x0a := fun o => Lib.cell?_alloc_some o x0
 have x1a := fun o => Lib.cell?_alloc_some o x1
 have x2a := fun o => Lib.cell?_alloc_some o x2
 have x3a := fun o => Lib.cell?_alloc_some o x3
 have x4a := fun o => Lib.cell?_alloc_some o x4
 have x5a := fun o => Lib.cell?_alloc_some o x5
 have y0a := fun o => Lib.cell?_alloc_some o y0
 have y1a := fun o => Lib.cell?_alloc_some o y1
 clear hc c0 c1 hb1 KS
 have hb0 : K.b0 ≤ w.heap.size := HM.out.lo
 have HFIN : Hid (∀ (Y : World) (bx : Nat) (A : Option Addr) (c : Nat), Below w1.heap.size w1 Y → w1.heap.size ≤ bx → TyB 45 Y bx → RdK Y K.b0 (.slice A K.r.ng c) K.r.ng (fun i => S.2.getD i 0) → (∃ u v, Y.cell? ⟨bx, 0, none⟩ = some u ∧ Y.cell? ⟨bx, 1, none⟩ = some v) →
     RdK ((Y.setCell ⟨bx, 0, none⟩ (.int .i64 (S.1 : Nat))).setCell ⟨bx, 1, none⟩ (.slice A K.r.ng c)) K.b0 (.slice A K.r.ng c) K.r.ng (fun i => S.2.getD i 0) ∧ Below w1.heap.size w1 ((Y.setCell ⟨bx, 0, none⟩ (.int .i64 (S.1 : Nat))).setCell ⟨bx, 1, none⟩ (.slice A K.r.ng c)) ∧ ((Y.setCell ⟨bx, 0, none⟩ (.int .i64 (S.1 : Nat))).setCell ⟨bx, 1, none⟩ (.slice A K.r.ng c)).cell? ⟨bx, 0, none⟩ = some (.int .i64 (S.1 : Nat)) ∧ ((Y.setCell ⟨bx, 0, none⟩ (.int .i64 (S.1 : Nat))).setCell ⟨bx, 1, none⟩ (.slice A K.r.ng c)).cell? ⟨bx, 1, none⟩ = some (.slice A K.r.ng c)) := fun Y bx A c hY hbx hT hr ⟨u, v, h0, h1⟩ => by
   have n1 : NotI Y K.b0 (some bx) := NotI.of_ty hT (by omega) (by decide) (by decide)
   have t2 : TyB 45 (Y.setCell ⟨bx, 0, none⟩ (.int .i64 (S.1 : Nat))) bx := hT.set bx 0 _
   have n2 : NotI (Y.setCell ⟨bx, 0, none⟩ (.int .i64 (S.1 : Nat))) K.b0 (some bx) := NotI.of_ty t2 (by omega) (by decide) (by decide)
   refine ⟨(hr.grown (grownBy_setK _ _ _ _) n1).grown (grownBy_setK _ _ _ _) n2, (hY.setCell (by show _ ≤ bx; omega) _).setCell (by show _ ≤ bx; omega) _, ?_, ?_⟩
   · simp [go_sem, h0]
   · simp [go_sem, h1]
 go_upto_region 3 with fail
 go_cut [11, 12] from 17 to 33 (fun p e wx => e = .nilIface ∧ ∃ (bx : Nat) (A : Option Addr) (c : Nat), p = .pointer (some ⟨bx, 0, none⟩) ∧ Below w1.heap.size w1 wx ∧ w1.heap.size ≤ bx ∧ wx.cell? ⟨bx, 0, none⟩ = some (.int .i64 (S.1 : Nat)) ∧ wx.cell? ⟨bx, 1, none⟩ = some (.slice A K.r.ng c) ∧ RdK wx K.b0 (.slice A K.r.ng c) K.r.ng (fun i => S.2.getD i 0))
 case first =>
   go_region_with (first | (with_reducible refine (HTF.out w1.drew hbd).mono ?_; rintro x w5 ⟨⟨A5, c5, rfl, oj5⟩, hb5⟩) | (with_reducible refine (HTF.out ((w1.alloc (.cells #[.int .i64 0, .slice none 0 0] 45)).drew) (by have z0 := Below.size hbA; (try simp only [ZZ] at z0 ⊢; skip); repeat' (first | (with_reducible first | exact BlR _ _ | assumption | refine BlA ?_ ?_ _ | refine BlD ?_ | refine BlN ?_ _ | refine BlS ?_ ?_ _ | refine BlT ?_ (BlM (by assumption) ?_)) | omega | (simp only [ZZ]; omega) | go_size))).mono ?_; rintro x w5 ⟨⟨A5, c5, rfl, oj5⟩, hb5⟩; have u0 : w5.cell? ⟨w1.heap.size, 0, none⟩ = some (.int .i64 0) := (below_at hb5 w1.heap.size 0 (by simp)).trans (by simp [go_sem]); have u1 : w5.cell? ⟨w1.heap.size, 1, none⟩ = some (.slice none 0 0) := (below_at hb5 w1.heap.size 1 (by simp)).trans (by simp [go_sem]); have u2 : w5.frozen? ⟨w1.heap.size, 0, none⟩ = false := (below_fr hb5 w1.heap.size 0 (by simp)).trans (by simp [go_sem]); have u3 : w5.frozen? ⟨w1.heap.size, 1, none⟩ = false := (below_fr hb5 w1.heap.size 1 (by simp)).trans (by simp [go_sem])) | fail)
   all_goals
     go_wp2_with fail
     go_meet
     case rel =>
       first
       | exact ⟨rfl, _, A5, c5, rfl, (by have z0 := Below.size hb5; (try simp only [ZZ] at z0 ⊢; skip); repeat' (first | (with_reducible first | exact BlR _ _ | assumption | refine BlA ?_ ?_ _ | refine BlD ?_ | refine BlN ?_ _ | refine BlS ?_ ?_ _ | refine BlT ?_ (BlM (by assumption) ?_)) | omega | (simp only [ZZ]; omega) | go_size)), by have := hb5.size; exact this, by simp [go_sem], by simp [go_sem], (oj5.rg K.b0).below ((by (skip); repeat' (first | (with_reducible first | exact BlR _ _ | assumption | refine BlA ?_ ?_ _ | refine BlD ?_ | refine BlN ?_ _ | refine BlS ?_ ?_ _ | refine BlT ?_ (BlM (by assumption) ?_)) | omega | (simp only [ZZ]; omega) | go_size)))⟩
       | (obtain ⟨r1, r2, r3, r4⟩ := HFIN.out w5 w1.heap.size A5 c5 ((by have z0 := Below.size hb5; (try simp only [ZZ] at z0 ⊢; skip); repeat' (first | (with_reducible first | exact BlR _ _ | assumption | refine BlA ?_ ?_ _ | refine BlD ?_ | refine BlN ?_ _ | refine BlS ?_ ?_ _ | refine BlT ?_ (BlM (by assumption) ?_)) | omega | (simp only [ZZ]; omega) | go_size))) (Nat.le_refl _) ⟨_, _, (hb5.block w1.heap.size (by simp)).trans (heap_alloc_new w1 _)⟩ (oj5.rg K.b0) ⟨_, _, u0, u1⟩
          exact ⟨rfl, _, A5, c5, rfl, r2, Nat.le_refl _, r3, r4, r1⟩)
 case rest =>
   obtain ⟨rfl, bx, A5, c5, rfl, hb5, hbx, s0, s1, rk5⟩ := hcut
   have hbw : Below w.heap.size w wc := hbA.trans (hb5.mono (by omega))
   have hmc : MKI wc K N l G (some ⟨g, 0, none⟩) cs := HM.out.below hbw
   have hHS := HS.out
   have hfds : FdS wc K A5 c5 S := ⟨hHS.tab.below hbw, hHS.len, hHS.n64, hHS.f24, hHS.mem, rk5⟩
   by_cases hroom : ¬ (S ∈ l ∨ l.length < 256)
   · have HRF : Hid (∀ w', MvRet K N l G k S q (.returned (.iface 80 (.int .i64 4))) w') := fun w' => by unfold MvRet; rw [if_neg hroom]
     have KF := Lib.hid (find_full (cm := c5) hmc hfds (fun h => hroom (.inl h)) (by have := hHS.l256; have : ¬ l.length < 256 := fun h => hroom (.inr h); omega))
     clear hmc hHS rk5 hzt z0 z1 z2 x0 x1 x2 x3 x4 x5 y0 y1 x0a x1a x2a x3a x4a x5a y0a y1a HTF hbd HFIN
     go_wp2_with fail
     refine KF.out.mono ?_
     rintro e w7 ⟨rfl, hb7⟩
     have HB := Lib.hid ((Kw.of_below hbw).trans (Kw.of_below (K := K) hb7))
     go_wp2_with fail
     go_returns
     exact ⟨HRF.out _, HB.out⟩
   have hroom : S ∈ l ∨ l.length < 256 := Classical.byContradiction hroom
   have HRET : Hid (∀ w', (∃ As' cs', MKI w' K (N + 1) (addS l S) (fun x y => if x = k ∧ y = l.idxOf S then G x y + q else G x y) As' cs') → MvRet K N l G k S q (.returned .nilIface) w') := fun w' h => by
     unfold MvRet
     rw [if_pos hroom]
     exact ⟨rfl, h⟩
   have KF := Lib.hid (find_ok (cm := c5) hmc hfds hroom hHS.l256)
   have hmlc : K.m ≠ w.heap.size := by omega
   have hbnl : K.bn ≠ w.heap.size ∧ K.br ≠ w.heap.size := by
     obtain ⟨es, c, e⟩ := HM.out.bnm
     obtain ⟨es', c', e'⟩ := HM.out.brm
     have h1 := (Array.getElem?_eq_some_iff.1 e).1
     have h2 := (Array.getElem?_eq_some_iff.1 e').1
     omega
   have hztc : TyB 56 wc w.heap.size := by
     obtain ⟨cur, fz, e⟩ := hzt
     exact ⟨cur, fz, (hb5.block w.heap.size (by omega)).trans e⟩
   have zc0 := (below_at hb5 w.heap.size 0 (by omega)).trans z0
   have zc1 := (below_at hb5 w.heap.size 1 (by omega)).trans z1
   have zc2 := (below_at hb5 w.heap.size 2 (by omega)).trans z2
   have hrv : RdS wc K.b0 (rv sv Av av cv Bv bv dv) (canR q) := hHS.rv.kp (Kp.of_below hbw)
   have HRV := Lib.hid hrv
   have HMC := Lib.hid hmc
   clear hmc hHS hrv rk5 hzt z0 z1 z2 x0 x1 x2 x3 x4 x5 y0 y1 x0a x1a x2a x3a x4a x5a y0a y1a HTF hbd HFIN
   go_wp2_with fail
   refine KF.out.mono ?_
   rintro e w7 ⟨⟨rfl, As7, cs7, hm7⟩, hw7⟩
   have hKw : Kw K w w7 := (Kw.of_below hbw).trans hw7
   have hixl : l.idxOf S < (addS l S).length := (addS_len l S).2.2
   have hixe : ∃ ix, ix = l.idxOf S := ⟨_, rfl⟩
   obtain ⟨ix, hix⟩ := hixe
   have hal := addS_len l S
   have hgp : 0 ≤ G k ix := by rw [hix]; exact HS.out.nn
   have hgs : Sz 100000000 (G k ix) := by rw [hix]; exact HS.out.szg
   rw [← hix] at hixl hal ⊢
   have HIX := Lib.hid hix
   have HM7 := Lib.hid hm7
   have HKW := Lib.hid hKw
   by_cases hxk : ix = k
   · have HR : Hid (∃ As' cs', MKI w7 K (N + 1) (addS l S) (fun x y => if x = k ∧ y = l.idxOf S then G x y + q else G x y) As' cs') := ⟨As7, cs7, (hm7.more (Nat.le_succ N)).congr fun a b hab => by rw [if_neg (by omega)]⟩
     subst hxk
     clear hix hm7 hKw hw7 HIX
     go_wp2_with fail
     go_returns
     exact ⟨HRET.out _ HR.out, HKW.out⟩
   · have HRF : Hid (∀ w', (∃ As' cs', MKI w' K (N + 1) (addS l S) (fun x y => if x = k ∧ y = ix then G k ix + q else G x y) As' cs') → ∃ As' cs', MKI w' K (N + 1) (addS l S) (fun x y => if x = k ∧ y = l.idxOf S then G x y + q else G x y) As' cs') := fun w' ⟨A', c', h'⟩ => ⟨A', c', h'.congr fun a b hab => by
       rw [← hix]
       by_cases e : a = k ∧ b = ix
       · rw [if_pos e, if_pos e, e.1, e.2]
       · rw [if_neg e, if_neg e]⟩
     have hc7 := hm7.cells
     have hx7 := hc7.2.2.2.2.2.2.2
     have ty7 := Kw.cell hw7 (o := 0) hztc hmlc.symm (by decide) hbnl.1.symm hbnl.2.symm
     have ty71 := Kw.cell hw7 (o := 1) hztc hmlc.symm (by decide) hbnl.1.symm hbnl.2.symm
     have ty72 := Kw.cell hw7 (o := 2) hztc hmlc.symm (by decide) hbnl.1.symm hbnl.2.symm
     have zd0 := ty7.1.trans zc0
     have zd1 := ty71.1.trans zc1
     have zd2 := ty72.1.trans zc2
     have hrv7 : RdS w7 K.b0 (rv sv Av av cv Bv bv dv) (canR q) := HRV.out.kp (hw7.kp HMC.out)
     obtain ⟨D, hD1, hD2⟩ := hm7.rat
     obtain ⟨v, hv1, hv2⟩ := hD2.at_ k ix (by omega) (by omega) (fun e => hxk e.symm)
     have hkey := pkL_key (a := k) (b := ix) (by omega) (by omega)
     have hlk : (Instr.lookup 94 (.map (some K.br)) (.agg #[.int .i64 (k : Int), .int .i64 (ix : Int)]) false).run Tryz.prog w7.drew = .ok v w7.drew := by
       obtain ⟨u, ps, hrun, hu⟩ := (World.ownsMap.drew hD1).lookup pairKeyed Tryz.underlying94 (zeroRat _) (show tokE zr = some (.held zr, []) from rfl) hkey
       rw [hrun]
       rw [hv1] at hu
       have h1 : (DataW.held u : DataW Value) = .held v := congrArg Prod.fst (Option.some.inj hu)
       injection h1 with h1
       rw [h1]
     have hsq := HS.out.szq
     have hpq := HS.out.pos
     have hl2 : (addS l S).length ≤ 257 := by omega
     have KA : Hid (∀ X, Below w7.heap.size w7 X → Calls Tryz.prog 22 #[v, rv sv Av av cv Bv bv dv] X fun e w' => RetQ X.heap.size (G k ix + q) e w' ∧ Below X.heap.size X w') := by
       show ∀ _, _
       intro X hX
       exact addQ ((hv2.kp (Kp.of_below hX)).canQ hgs) ((hrv7.kp (Kp.of_below hX)).canQ hsq) (by omega) (by omega)
     have HUP : Hid (∀ X v8, Below w7.heap.size w7 X → (∃ b1, OwQ X b1 v8 (G k ix + q)) → ∃ w9, (Instr.mapUpdate 94 (.map (some K.br)) (.agg #[.int .i64 (k : Int), .int .i64 (ix : Int)]) v8).run Tryz.prog X = .ok () w9 ∧ (∃ As' cs', MKI w9 K (N + 1) (addS l S) (fun x y => if x = k ∧ y = ix then G k ix + q else G x y) As' cs') ∧ Kw K w w9) := by
       show ∀ _ _, _
       intro X v8 hX ⟨b1, o8⟩
       have hD8 : OwMr X K.br N D := World.ownsMap.kept hD1 (grown_none hX none) (by simp)
       obtain ⟨w9, hrun, own9, hg9⟩ := hD8.update pairKeyed Tryz.underlying94 (by unfold maxLen; omega) hkey (show tokE v8 = some (.held v8, []) from rfl)
       obtain ⟨r1, r2⟩ := (hm7.below hX).rate own9 (hD2.kp (Kp.of_below hX)) hg9 (by omega) hixl (fun e => hxk e.symm) (by omega) (by grind) o8.rs
       exact ⟨w9, hrun, ⟨As7, cs7, r1⟩, hKw.trans ((Kw.of_below hX).trans r2)⟩
     have hb7 : Below w7.heap.size w7 w7.drew := (Below.refl _ _).drew
     have hz7 := hw7.size
     have hm7l := hm7.mlt
     have hwl : w.heap.size < w7.heap.size := by have := hb5.size; omega
     have hne : ((ix : Int) == (k : Int)) = false := by simp; omega
     clear hix hm7 hKw hw7 HIX hc7 ty7 ty71 ty72 hztc zc0 zc1 zc2 hD1 hD2 hv1 hv2 hkey hgp hgs hsq hpq hrv7 HM7 HKW hbnl
     go_wp2_with fail
     go_region_with (first | ((go_at_call 22; (with_reducible refine (KA.out _ hb7).mono ?_); rintro e w8 ⟨⟨v8, rfl, own8⟩, hb8⟩; have hb8z := Below.size hb8; (try simp only [ZZ] at hb8z); obtain ⟨hb8c0, hb8f0⟩ := bbo hb8 (K.m) (by first | omega | (simp only [ZZ]; omega)); have hb8l0 : K.m < (w8).heap.size := (by omega); obtain ⟨hb8c1, hb8f1⟩ := bbo hb8 (w.heap.size) (by first | omega | (simp only [ZZ]; omega)); have hb8l1 : w.heap.size < (w8).heap.size := (by omega)); obtain ⟨w9, hup, hm9, hk9⟩ := HUP.out w8 v8 (hb7.trans hb8) ⟨_, own8⟩) | fail)
     all_goals
       have HR := Lib.hid (HRET.out _ (HRF.out _ hm9))
       have HB := Lib.hid hk9
       clear hm9 hk9 HRF HUP KA hlk hup
       go_wp2_with fail
       go_returns
       exact ⟨HR.out, HB.out⟩
end
end Go.Proofs.YtoiopnmphbnjaaaGreatDoor
namespace Go.Proofs.YtoiopnmphbnjaaaGreatDoor
open Go.RowKit
open Go.Maps Go.WideMaps
set_option linter.unusedSimpArgs false
set_option linter.unusedVariables false
set_option maxRecDepth 20000
attribute [local irreducible] nv wp win plainB validR valR canR kyL
/-! ## chain.maker: move, whatever the rate; the rates of an event -/
/-- what move answers -/
def MvR (K : MB) (N k : Nat) (R : Nat → Nat → Rat) (o : Option RS) (e : Ending) (w' : World) : Prop :=
 match o with
 | none => e = .returned (.iface 80 (.int .i64 4))
 | some z => e = .returned .nilIface ∧ ∃ As cs, MKI w' K (N + 1) z.1 (fun a b => if a = k then z.2 b else R a b) As cs
section
variable {w : World} {K : MB} {N cs k i : Nat} {x : RS} {R G : Nat → Nat → Rat} {As : Option Addr} {S : DS} {l : List DS}
theorem move_zero {v : Value} {fid : FuncId} (h : RdS w K.b0 v (canR 0)) :
   Calls Tryz.prog 46 #[.pointer (some ⟨K.m, 0, none⟩), .int .i64 (k : Int), v, .func (.func fid) #[] #[], .int .i64 (i : Int)] w fun e w' => e = .returned .nilIface ∧ Below w.heap.size w w' := by
 have KS := Lib.hid (fun X (hX : Below w.heap.size w X) => signQ (L := 1) (((h.kp (Kp.of_below hX)).canQ (Sz.zero (by omega)))) (by omega) (by omega))
 have hs : sgnQ 0 = 0 := rfl
 rw [hs] at KS
 obtain ⟨sv, Av, av, cv, Bv, bv, dv, rfl⟩ := h.form
 clear h hs
 go_enter Tryz.func46, Tryz.ntmps46
 go_wp2_with fail
 refine (KS.out _ (by (skip); repeat' (first | (with_reducible first | exact BlR _ _ | assumption | refine BlA ?_ ?_ _ | refine BlD ?_ | refine BlN ?_ _ | refine BlS ?_ ?_ _ | refine BlT ?_ (BlM (by assumption) ?_)) | omega | (simp only [ZZ]; omega) | go_size))).mono ?_
 rintro e w1 ⟨rfl, hb1⟩
 have hbA : Below w.heap.size w w1 := (by have z0 := Below.size hb1; (try simp only [ZZ] at z0 ⊢; skip); repeat' (first | (with_reducible first | exact BlR _ _ | assumption | refine BlA ?_ ?_ _ | refine BlD ?_ | refine BlN ?_ _ | refine BlS ?_ ?_ _ | refine BlT ?_ (BlM (by assumption) ?_)) | omega | (simp only [ZZ]; omega) | go_size))
 go_wp2_with fail
 go_returns
 exact ⟨rfl, hbA⟩
theorem mv_any {v : Value} {q : Rat} {fid : FuncId} {s : DS} (h : MKI w K N x.1 (fun a b => if a = k then x.2 b else R a b) As cs) (hk : k < x.1.length) (hs : x.1[k]'hk = s) (ht : TabW w) (n64 : K.r.ng ≤ 64) (hv : RdS w K.b0 v (canR q)) (hq : 0 ≤ q) (hsz : Sz 100000000 q)
   (hx : ∀ b, 0 ≤ x.2 b ∧ Sz 100000000 (x.2 b)) (hlen : S.2.length = K.r.ng) (hf : S.1 < 16777216) (hm : ∀ i, i < K.r.ng → -1 ≤ S.2.getD i 0 ∧ S.2.getD i 0 ≤ 16) (h256 : x.1.length ≤ 256) (hN : N ≤ 100000)
   (eg : ∀ args W, (callFunc fid args).run Tryz.prog W = .ok (.enter fid args) W)
   (HT : 0 < q → ∀ X B d, Below w.heap.size w X → RdJ X B K.r.ng (fun i => s.2.getD i 0) → Calls Tryz.prog fid #[dyv K.r K.AG K.cg K.AF K.cf K.AR K.cr, .agg #[.int .i64 (s.1 : Nat), .slice B K.r.ng d], .int .i64 (i : Int)] X fun x w' => StRet 0 X.heap.size K.r.ng S x w' ∧ Below X.heap.size X w') :
   Calls Tryz.prog 46 #[.pointer (some ⟨K.m, 0, none⟩), .int .i64 (k : Int), v, .func (.func fid) #[] #[], .int .i64 (i : Int)] w fun e w' => MvR K N k R (step1 x S q) e w' ∧ Kw K w w' := by
 by_cases hp : 0 < q
 · have hms : MvS w K k x.1 (fun a b => if a = k then x.2 b else R a b) S v q := ⟨ht, hk, n64, hv, hp, hsz, by rw [if_pos rfl]; exact (hx _).1, by rw [if_pos rfl]; exact (hx _).2, hlen, hf, hm, h256⟩
   refine (move_ok h hms hN eg (fun X B d hX hr => ?_)).mono fun e w' ⟨h1, h2⟩ => ⟨?_, h2⟩
   · rw [hs] at hr ⊢
     exact HT hp X B d hX hr
   · unfold MvRet at h1
     rw [step1_p hp]
     by_cases hr : S ∈ x.1 ∨ x.1.length < 256
     · rw [if_pos hr] at h1
       obtain ⟨he, A', c', hi⟩ := h1
       unfold stepR
       rw [if_neg (fun h => by
         rcases hr with hr | hr
         · exact h.1 hr
         · have : x.1.length = 256 := h.2
           omega)]
       refine ⟨he, A', c', hi.congr fun a b hab => ?_⟩
       by_cases ea : a = k
       · subst ea
         simp
       · simp [ea]
     · rw [if_neg hr] at h1
       unfold stepR
       rw [if_pos ⟨fun h => hr (.inl h), by have : ¬ x.1.length < 256 := fun h => hr (.inr h); show x.1.length = 256; omega⟩]
       exact h1
 · have hq0 : q = 0 := Rat.le_antisymm (Rat.not_lt.1 hp) hq
   subst hq0
   refine (move_zero hv).mono fun e w' ⟨h1, h2⟩ => ⟨?_, Kw.of_below h2⟩
   rw [step1_0 hp]
   exact ⟨h1, As, cs, (h.below h2).more (by omega)⟩
end
section
variable {w : World} {AG AF AR Am : Option Addr} {cg cf cr cm : Nat} {r : DyR} {F e : Nat} {M : List Int}
theorem drate_ok (h : DyI w AG AF AR r) (hs : DyS r) (hc : codeD r = 0) (st : StOk r F M) (rj : RdJ w Am r.ng (fun i => M.getD i 0)) (he : e < r.v.toNat) :
   Calls Tryz.prog 21 #[dyv r AG cg AF cf AR cr, .agg #[.int .i64 (F : Int), .slice Am r.ng cm], .int .i64 (e : Int)] w fun x w' => RatRet w.heap.size (r.tr.fr (F, M) e) (r.tr.rr (F, M) e) x w' ∧ Below w.heap.size w w' := by
 cases hb : F.testBit e
 · rw [Tr.rr_no (s := (F, M)) hb]
   unfold Tr.fr
   rw [if_neg (by show ¬ F.testBit e = true; rw [hb]; decide)]
   exact drate_up h hs hc st rj he hb
 · rw [Tr.fr_no (s := (F, M)) hb]
   cases hh : heldD r.dy (F, M) e
   · unfold Tr.rr
     rw [if_pos (by show F.testBit e = true; exact hb), if_neg (by show ¬ heldD r.dy (F, M) e = true; rw [hh]; decide)]
     exact drate_free h hs hc st rj he hb hh
   · rw [Tr.rr_held (t := r.tr) (s := (F, M)) hh]
     exact drate_held h hs hc st rj he hb hh
end
end Go.Proofs.YtoiopnmphbnjaaaGreatDoor
