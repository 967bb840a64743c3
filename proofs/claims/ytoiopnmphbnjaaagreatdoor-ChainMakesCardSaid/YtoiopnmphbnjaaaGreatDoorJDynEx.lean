/- Contracts and lemmas for the given statements. Conditions: those alone that each names. -/
import Derived.Test.YtoiopnmphbnjaaaGreatDoorDynMake
set_option maxHeartbeats 8000000
namespace Go.Proofs.YtoiopnmphbnjaaaGreatDoor
open Go.RowKit
open Go.Maps Go.WideMaps
set_option linter.unusedSimpArgs false
set_option linter.unusedVariables false
set_option maxRecDepth 20000
attribute [local irreducible] nv wp win plainB validR valR canR kyL
/-! ## chain.Make of a tree that is refused; the example's tree -/
section
variable {w : World} {AG AF AR : Option Addr} {cg cf cr : Nat} {r : DyR}
theorem make_err (h : DyI w AG AF AR r) (hs : DyS r) (hc : codeD r ≠ 0) :
   Calls Tryz.prog 12 #[dyv r AG cg AF cf AR cr] w fun e w' => e = .returned (.tuple #[cv 0 0 none 0 0 none 0 0, .slice none 0 0, errM (codeD r)]) ∧ Below w.heap.size w w' := by
 have KSt : Hid (∀ X, Below w.heap.size w X → Calls Tryz.prog 20 #[dyv r AG cg AF cf AR cr] X fun e w' => e = .returned (.tuple #[.agg #[.int .i64 0, .slice none 0 0], .iface 80 (.int .i64 (codeD r))]) ∧ Below X.heap.size X w') := by
   show ∀ _, _
   intro X hX
   refine (dstart_any (cg := cg) (cf := cf) (cr := cr) (h.below hX) hs).mono fun e w' ⟨h1, h2⟩ => ⟨?_, h2⟩
   unfold StRet at h1
   rw [if_neg hc] at h1
   unfold errM at h1
   rw [if_neg hc] at h1
   exact h1
 have HE : Hid (errM (codeD r) = .iface 80 (.int .i64 (codeD r))) := by
   show _ = _
   unfold errM; rw [if_neg hc]
 rw [HE.out]
 generalize codeD r = code at *
 unfold dyv at KSt ⊢
 clear h hs hc HE
 go_enter Tryz.func12, Tryz.ntmps12
 go_wp2_with fail
 refine (KSt.out _ (by (skip); repeat' (first | (with_reducible first | exact BlR _ _ | assumption | refine BlA ?_ ?_ _ | refine BlD ?_ | refine BlN ?_ _ | refine BlS ?_ ?_ _ | refine BlT ?_ (BlM (by assumption) ?_)) | omega | (simp only [ZZ]; omega) | go_size))).mono ?_
 rintro e w1 ⟨rfl, hb1⟩
 have hb1z := hb1.size
 simp only [World.size_alloc] at hb1z
 have hB2 : w1.heap[w.heap.size + 1]? = some (chO 0 none 0 0 none 0 0) := (hb1.block (w.heap.size + 1) (by simp)).trans (by
   have := heap_alloc_new (w.alloc (.cells #[.int .i64 r.v, .slice AG r.ng cg, .int .i64 r.top, .slice AF r.nf cf, .slice AR r.nr cr] 25)) (chO 0 none 0 0 none 0 0)
   rw [World.size_alloc] at this
   exact this)
 have hbA : Below w.heap.size w w1 := (by have z0 := Below.size hb1; (try simp only [ZZ] at z0 ⊢; skip); repeat' (first | (with_reducible first | exact BlR _ _ | assumption | refine BlA ?_ ?_ _ | refine BlD ?_ | refine BlN ?_ _ | refine BlS ?_ ?_ _ | refine BlT ?_ (BlM (by assumption) ?_)) | omega | (simp only [ZZ]; omega) | go_size))
 obtain ⟨f0, f1, f2, f3, ff⟩ := chO_cells hB2
 have ff0 := ff 0
 have ff1 := ff 1
 have ff2 := ff 2
 have ff3 := ff 3
 have hz : w.heap.size + 1 < w1.heap.size := by omega
 clear hb1 hB2 ff KSt
 go_wp2_with fail
 (try simp only [Exit.inBlock, Exit.then])
 refine bodyPost_ret (v := .tuple #[cv 0 0 none 0 0 none 0 0, .slice none 0 0, .iface 80 (.int .i64 code)]) ?_ rfl ⟨rfl, ?_⟩
 · rw [results_ctt rfl]
   go_simp
 · exact (by have z0 := Below.size hbA; (try simp only [ZZ] at z0 ⊢; skip); repeat' (first | (with_reducible first | exact BlR _ _ | assumption | refine BlA ?_ ?_ _ | refine BlD ?_ | refine BlN ?_ _ | refine BlS ?_ ?_ _ | refine BlT ?_ (BlM (by assumption) ?_)) | omega | (simp only [ZZ]; omega) | go_size))
end
def exR : DyR where
 v := 2
 ng := 1
 kd _ := 6
 kk _ := 0
 ar _ := [0, 1]
 dor _ := (false, [], [])
 top := 2
 nf := 2
 fl _ := canR 1
 nr := 2
 rp _ := canR 1
def exTr : Tr := ⟨⟨2, 1, fun _ => 6, fun _ => 0, fun _ => [0, 1], 2⟩, fun _ => 0, fun _ => 1, fun _ => 1⟩
theorem exR_tr : exR.tr = exTr := by
 unfold DyR.tr exTr
 have h1 : valR (canR 1) = 1 := valR_canR 1
 have h0 : valR (false, [], []) = 0 := by
   have := valR_canR 0
   rw [canR_zero] at this
   exact this
 simp only [exR, h1, h0]
 rfl
def sumX (o : Option (List DS × (Nat → Nat → Rat))) : Option (Nat × Nat × Bool × Bool) := o.map fun z => (z.1.length, (prs z.1.length z.2).length, vaD exTr.d (z.1.getD 3 (0, [])).1 (z.1.getD 3 (0, [])).2 1 2, vaD exTr.d (z.1.getD 0 (0, [])).1 (z.1.getD 0 (0, [])).2 1 2)
theorem exTr_make : sumX exTr.make = some (6, 12, true, false) := by decide +kernel
theorem canR1_len : (canR 1).2.1.length ≤ 1 ∧ (canR 1).2.2.length ≤ 1 := Sz_canR (L := 1) (sz_one1 (by omega))
theorem exR_code : codeD exR = 0 := by
 have hv : validR (canR 1) = true := canR_valid 1
 have h1 : valR (canR 1) = 1 := valR_canR 1
 have hr : rtOk (fun _ => canR 1) 0 = true ∧ rtOk (fun _ => canR 1) 1 = true := by
   unfold rtOk
   rw [hv, h1]
   decide
 have hrt : rtsOk (fun _ => canR 1) 2 = true := rtsOk_t fun k hk => by
   match k, hk with
   | 0, _ => exact hr.1
   | 1, _ => exact hr.2
 have hg : gsE exR 1 = 0 := by decide +kernel
 unfold codeD
 rw [if_neg (by decide), if_neg (by decide), if_neg (by decide), if_neg (by rw [show exR.nf = 2 from rfl, show exR.fl = fun _ => canR 1 from rfl, hrt]; decide), if_neg (by rw [show exR.nr = 2 from rfl, show exR.rp = fun _ => canR 1 from rfl, hrt]; decide), if_neg (by rw [show exR.ng = 1 from rfl, hg]; decide), if_neg (by decide)]
theorem exR_s : DyS exR where
 dor k hk := ⟨Nat.zero_le _, Nat.zero_le _⟩
 fl k hk := ⟨Nat.le_trans canR1_len.1 (by decide), Nat.le_trans canR1_len.2 (by decide)⟩
 rp k hk := ⟨Nat.le_trans canR1_len.1 (by decide), Nat.le_trans canR1_len.2 (by decide)⟩
 ng := by decide
 nf := by decide
 nr := by decide
theorem exR_ts : TrS exR := by
 have h1 : valR (canR 1) = 1 := valR_canR 1
 have h0 : valR (false, [], []) = 0 := by
   have := valR_canR 0
   rw [canR_zero] at this
   exact this
 have hs : Sz 1000 1 := sz_one1 (by omega)
 have hs0 : Sz 1000 0 := Sz.zero (by omega)
 exact ⟨fun i _ => by show 0 ≤ valR (canR 1); rw [h1]; decide, fun i _ => by show 0 ≤ valR (canR 1); rw [h1]; decide, fun k _ hk => by have : (6 : Int) = 7 := hk; omega, fun i _ => by show Sz 1000 (valR (canR 1)); rw [h1]; exact hs, fun i _ => by show Sz 1000 (valR (canR 1)); rw [h1]; exact hs, fun k _ => by show Sz 1000 (valR (false, [], [])); rw [h0]; exact hs0⟩
section
variable {w : World}
theorem example_any : Calls Tryz.prog 41 #[] w fun e w' => (∃ gA gF, e = .returned (dyv exR (some ⟨gA, 0, none⟩) 1 (some ⟨gF, 0, none⟩) 2 (some ⟨gF, 0, none⟩) 2) ∧ DyI w' (some ⟨gA, 0, none⟩) (some ⟨gF, 0, none⟩) (some ⟨gF, 0, none⟩) exR) ∧ Below w.heap.size w w' := by
 have KO := Lib.hid (fun X => rofQ 1 X (by omega))
 go_enter Tryz.func41, Tryz.ntmps41
 go_wp2_with fail
 refine (KO.out _).mono ?_
 rintro e w1 ⟨⟨v1, rfl, o1⟩, hb1⟩
 obtain ⟨s1, A1, n1, c1, B1, m1, d1, rfl⟩ := o1.rd.form
 go_wp2_with fail
 refine (KO.out _).mono ?_
 rintro e w2 ⟨⟨v2, rfl, o2⟩, hb2⟩
 obtain ⟨s2, A2, n2, c2, B2, m2, d2, rfl⟩ := o2.rd.form
 have hbA : Below w.heap.size w w2 := (by have z0 := Below.size hb1; have z1 := Below.size hb2; (try simp only [ZZ] at z0 z1 ⊢; skip); repeat' (first | (with_reducible first | exact BlR _ _ | assumption | refine BlA ?_ ?_ _ | refine BlD ?_ | refine BlN ?_ _ | refine BlS ?_ ?_ _ | refine BlT ?_ (BlM (by assumption) ?_)) | omega | (simp only [ZZ]; omega) | go_size))
 have hb1z := hb1.size
 simp only [World.size_alloc] at hb1z
 have hb2z := hb2.size
 have x0 : w2.cell? ⟨w.heap.size, 0, none⟩ = some (.int .i64 0) := (below_at hb2 w.heap.size 0 (by omega)).trans ((below_at hb1 w.heap.size 0 (by simp)).trans (by simp [go_sem]))
 have y0 : w2.frozen? ⟨w.heap.size, 0, none⟩ = false := (below_fr hb2 w.heap.size 0 (by omega)).trans ((below_fr hb1 w.heap.size 0 (by simp)).trans (by simp [go_sem]))
 have x1 : w2.cell? ⟨w.heap.size, 1, none⟩ = some (.slice none 0 0) := (below_at hb2 w.heap.size 1 (by omega)).trans ((below_at hb1 w.heap.size 1 (by simp)).trans (by simp [go_sem]))
 have y1 : w2.frozen? ⟨w.heap.size, 1, none⟩ = false := (below_fr hb2 w.heap.size 1 (by omega)).trans ((below_fr hb1 w.heap.size 1 (by simp)).trans (by simp [go_sem]))
 have x2 : w2.cell? ⟨w.heap.size, 2, none⟩ = some (.int .i64 0) := (below_at hb2 w.heap.size 2 (by omega)).trans ((below_at hb1 w.heap.size 2 (by simp)).trans (by simp [go_sem]))
 have y2 : w2.frozen? ⟨w.heap.size, 2, none⟩ = false := (below_fr hb2 w.heap.size 2 (by omega)).trans ((below_fr hb1 w.heap.size 2 (by simp)).trans (by simp [go_sem]))
 have x3 : w2.cell? ⟨w.heap.size, 3, none⟩ = some (.slice none 0 0) := (below_at hb2 w.heap.size 3 (by omega)).trans ((below_at hb1 w.heap.size 3 (by simp)).trans (by simp [go_sem]))
 have y3 : w2.frozen? ⟨w.heap.size, 3, none⟩ = false := (below_fr hb2 w.heap.size 3 (by omega)).trans ((below_fr hb1 w.heap.size 3 (by simp)).trans (by simp [go_sem]))
 have x4 : w2.cell? ⟨w.heap.size, 4, none⟩ = some (.slice none 0 0) := (below_at hb2 w.heap.size 4 (by omega)).trans ((below_at hb1 w.heap.size 4 (by simp)).trans (by simp [go_sem]))
 have y4 : w2.frozen? ⟨w.heap.size, 4, none⟩ = false := (below_fr hb2 w.heap.size 4 (by omega)).trans ((below_fr hb1 w.heap.size 4 (by simp)).trans (by simp [go_sem]))
 have htd : TyB 25 w2 w.heap.size := TyB.below (TyB.below (TyB.new w _) hb1 (by simp)) hb2 (by omega)
 have HFIN : Hid (∀ V2, w2.grownBy V2 (some w.heap.size) → V2.heap.size = w2.heap.size → ((∃ gA gF, Ending.returned (dyv exR (some ⟨w2.heap.size + 2, 0, none⟩) 1 (some ⟨w2.heap.size, 0, none⟩) 2 (some ⟨w2.heap.size, 0, none⟩) 2) = .returned (dyv exR (some ⟨gA, 0, none⟩) 1 (some ⟨gF, 0, none⟩) 2 (some ⟨gF, 0, none⟩) 2) ∧ DyI (((V2.alloc (.cells #[.bool s1, .slice A1 n1 c1, .slice B1 m1 d1, .bool s2, .slice A2 n2 c2, .slice B2 m2 d2] 56)).alloc (.cells #[.int .i64 0, .int .i64 1] 3)).alloc (.cells #[.int .i64 6, .int .i64 0, .slice (some ⟨w2.heap.size + 1, 0, none⟩) 2 2, .bool false, .slice none 0 0, .slice none 0 0] 88)) (some ⟨gA, 0, none⟩) (some ⟨gF, 0, none⟩) (some ⟨gF, 0, none⟩) exR) ∧ Below w.heap.size w (((V2.alloc (.cells #[.bool s1, .slice A1 n1 c1, .slice B1 m1 d1, .bool s2, .slice A2 n2 c2, .slice B2 m2 d2] 56)).alloc (.cells #[.int .i64 0, .int .i64 1] 3)).alloc (.cells #[.int .i64 6, .int .i64 0, .slice (some ⟨w2.heap.size + 1, 0, none⟩) 2 2, .bool false, .slice none 0 0, .slice none 0 0] 88)))) := fun V2 hg hzv => by
   obtain ⟨Wf, hWf⟩ : ∃ Wf, Wf = ((V2.alloc (.cells #[.bool s1, .slice A1 n1 c1, .slice B1 m1 d1, .bool s2, .slice A2 n2 c2, .slice B2 m2 d2] 56)).alloc (.cells #[.int .i64 0, .int .i64 1] 3)).alloc (.cells #[.int .i64 6, .int .i64 0, .slice (some ⟨w2.heap.size + 1, 0, none⟩) 2 2, .bool false, .slice none 0 0, .slice none 0 0] 88) := ⟨_, rfl⟩
   have hb23 : Below V2.heap.size V2 Wf := by rw [hWf]; exact (by (skip); repeat' (first | (with_reducible first | exact BlR _ _ | assumption | refine BlA ?_ ?_ _ | refine BlD ?_ | refine BlN ?_ _ | refine BlS ?_ ?_ _ | refine BlT ?_ (BlM (by assumption) ?_)) | omega | (simp only [ZZ]; omega) | go_size))
   have z0 : Wf.heap[w2.heap.size]? = some (.cells #[.bool s1, .slice A1 n1 c1, .slice B1 m1 d1, .bool s2, .slice A2 n2 c2, .slice B2 m2 d2] 56 (0, 0)) := by
     rw [hWf, Below.heap_alloc _ _ _ (by simp; omega), Below.heap_alloc _ _ _ (by simp; omega), ← hzv]
     exact heap_alloc_new V2 _
   have z1 : Wf.heap[w2.heap.size + 1]? = some (.cells #[.int .i64 0, .int .i64 1] 3 (0, 0)) := by
     rw [hWf, Below.heap_alloc _ _ _ (by simp; omega)]
     have := heap_alloc_new (V2.alloc (.cells #[.bool s1, .slice A1 n1 c1, .slice B1 m1 d1, .bool s2, .slice A2 n2 c2, .slice B2 m2 d2] 56)) (.cells #[.int .i64 0, .int .i64 1] 3)
     rw [World.size_alloc, hzv] at this
     exact this
   have z2 : Wf.heap[w2.heap.size + 2]? = some (.cells #[.int .i64 6, .int .i64 0, .slice (some ⟨w2.heap.size + 1, 0, none⟩) 2 2, .bool false, .slice none 0 0, .slice none 0 0] 88 (0, 0)) := by
     rw [hWf]
     have := heap_alloc_new ((V2.alloc (.cells #[.bool s1, .slice A1 n1 c1, .slice B1 m1 d1, .bool s2, .slice A2 n2 c2, .slice B2 m2 d2] 56)).alloc (.cells #[.int .i64 0, .int .i64 1] 3)) (.cells #[.int .i64 6, .int .i64 0, .slice (some ⟨w2.heap.size + 1, 0, none⟩) 2 2, .bool false, .slice none 0 0, .slice none 0 0] 88)
     rw [World.size_alloc, World.size_alloc, hzv] at this
     exact this
   have hzf : Wf.heap.size = w2.heap.size + 3 := by rw [hWf]; simp; omega
   rw [← hWf]
   have hn : NotI w2 0 (some w.heap.size) := NotI.of_ty htd (Nat.zero_le _) (by decide) (by decide)
   have hk : Kp 0 w2 Wf := (Kp.notI hg hn).trans (Kp.of_below hb23)
   have r1 : RdS Wf Wf.heap.size (rv s1 A1 n1 c1 B1 m1 d1) (canR 1) := ((o1.rs (b0 := 0)).kp ((Kp.of_below hb2).trans hk)).base (Nat.zero_le _)
   have r2 : RdS Wf Wf.heap.size (rv s2 A2 n2 c2 B2 m2 d2) (canR 1) := ((o2.rs (b0 := 0)).kp hk).base (Nat.zero_le _)
   have rz : RdS Wf Wf.heap.size zr (false, [], []) := by
     have := (OwQ.zero Wf 0).rs (b0 := Wf.heap.size)
     rw [canR_zero] at this
     exact this
   have hfl : RowA Wf Wf.heap.size (some ⟨w2.heap.size, 0, none⟩) 2 (fun _ => canR 1) := by
     refine ⟨fun k => if k = 0 then rv s1 A1 n1 c1 B1 m1 d1 else rv s2 A2 n2 c2 B2 m2 d2, fun k hk => ?_, rfl, fun _ => ⟨w2.heap.size, 0, rfl, by omega, fun j u hu => ?_⟩⟩
     · match k, hk with
       | 0, _ => exact r1
       | 1, _ => exact r2
     · rw [Nat.zero_add, cell_of_row Wf _ _ _ _ _ z0]
       simpa [cellsV, c3, List.range_succ] using hu
   refine ⟨⟨w2.heap.size + 2, w2.heap.size, rfl, ⟨⟨fun _ => (some ⟨w2.heap.size + 1, 0, none⟩, 2), fun _ => zr, ⟨rfl, fun _ => ⟨w2.heap.size + 2, 0, rfl, by omega, fun j u hu => ?_⟩⟩, fun k hk => ⟨⟨rfl, fun _ => ⟨w2.heap.size + 1, 0, rfl, by omega, fun j u hu => ?_⟩⟩, rz, Nat.le_refl _⟩⟩, hfl, hfl⟩⟩, ?_⟩
   · rw [Nat.zero_add, cell_of_row Wf _ _ _ _ _ z2]
     simpa [gatesC, gateC, c3, exR, zr, List.range_succ] using hu
   · rw [Nat.zero_add, cell_of_row Wf _ _ _ _ _ z1]
     simpa [zsD, exR] using hu
   · exact (hbA.trans ((Below.refl _ _).grown hg (by omega) fun q hq => by injection hq with hq; omega)).trans (hb23.mono (by omega))
 have hlt0 : w.heap.size < w2.heap.size := by omega
 have hlt1 : w.heap.size < w2.heap.size + 1 := by omega
 have hlt2 : w.heap.size < w2.heap.size + 1 + 1 := by omega
 clear htd o1 o2 hb1 hb2
 go_wp2_with fail
 (try simp only [Exit.inBlock, Exit.then])
 refine bodyPost_ret (v := dyv exR (some ⟨w2.heap.size + 2, 0, none⟩) 1 (some ⟨w2.heap.size, 0, none⟩) 2 (some ⟨w2.heap.size, 0, none⟩) 2) ?_ rfl ?_
 · rw [results_cell1 rfl]
   go_simp
   exact ⟨rfl, rfl, rfl, rfl, rfl⟩
 · refine HFIN.out _ ?_ (by simp)
   repeat' (first | (with_reducible exact World.grownBy.refl _ _) | (with_reducible refine World.grownBy.trans ?_ (grownBy_setK _ _ _ _)) | (with_reducible refine World.grownBy.trans ?_ (grownBy_drewK _ _)))
end
end Go.Proofs.YtoiopnmphbnjaaaGreatDoor
namespace Go.Proofs.YtoiopnmphbnjaaaGreatDoor
open Go.RowKit
open Go.Maps Go.WideMaps
set_option linter.unusedSimpArgs false
set_option linter.unusedVariables false
set_option maxRecDepth 20000
attribute [local irreducible] nv wp win plainB validR valR canR kyL
/-! ## the fixed fact: the chain of the example -/
theorem exR_made : ∃ z, exR.tr.make = some z ∧ z.1.length = 6 ∧ (prs z.1.length z.2).length = 12 ∧ topL exR z.1 3 = true ∧ topL exR z.1 0 = false := by
 have h := exTr_make
 rw [exR_tr]
 unfold sumX at h
 cases hm : exTr.make with
 | none => rw [hm] at h; cases h
 | some z =>
   rw [hm] at h
   simp only [Option.map_some, Option.some.injEq, Prod.mk.injEq] at h
   exact ⟨z, rfl, h.1, h.2.1, h.2.2.1, h.2.2.2⟩
theorem awake49_any {w : World} (ht : TabW w) : Calls Tryz.prog 8 #[] w fun e w' => e = .returned (.bool true) ∧ Below w.heap.size w w' := by
 have KE := Lib.hid (fun X => example_any (w := X))
 have KM : Hid (∀ X gA gF, Below w.heap.size w X → DyI X (some ⟨gA, 0, none⟩) (some ⟨gF, 0, none⟩) (some ⟨gF, 0, none⟩) exR → Calls Tryz.prog 12 #[dyv exR (some ⟨gA, 0, none⟩) 1 (some ⟨gF, 0, none⟩) 2 (some ⟨gF, 0, none⟩) 2] X fun e w' => (∃ AM cm gD cd As cs, e = .returned (.tuple #[cv 6 0 AM 12 cm (some ⟨gD, 0, none⟩) 6 cd, .slice As 6 cs, .nilIface]) ∧ w'.cell? ⟨gD, 3, none⟩ = some (.bool true) ∧ w'.cell? ⟨gD, 0, none⟩ = some (.bool false)) ∧ Below X.heap.size X w') := by
   show ∀ _ _ _, _
   intro X gA gF hX hd
   refine (make_ok hd exR_s exR_code exR_ts (ht.below hX)).mono fun e w' ⟨h1, h2⟩ => ⟨?_, h2⟩
   obtain ⟨z, hz, z1, z2, z3, z4⟩ := exR_made
   rw [hz] at h1
   obtain ⟨AM, cm, AD, cd, As, cs, he, -, hD, -⟩ := h1
   rw [z1] at he hD
   rw [z1] at z2
   rw [z2] at he
   obtain ⟨g, rfl, -, -⟩ := hD.form (by omega)
   refine ⟨AM, cm, g, cd, As, cs, he, ?_, ?_⟩
   · rw [hD.at_ (k := 3) (by omega), z3]
   · rw [hD.at_ (k := 0) (by omega), z4]
 clear ht
 go_enter Tryz.func8, Tryz.ntmps8
 go_wp2_with fail
 refine (KE.out _).mono ?_
 rintro e w1 ⟨⟨gA, gF, rfl, hd⟩, hb1⟩
 have K := Lib.hid (KM.out w1 gA gF hb1 hd)
 clear KM hd
 go_wp2_with fail
 refine K.out.mono ?_
 rintro e w2 ⟨⟨AM, cm, gD, cd, As, cs, rfl, h3, h0⟩, hb2⟩
 have h3a := fun o => Lib.cell?_alloc_some o h3
 have h0a := fun o => Lib.cell?_alloc_some o h0
 have hbA : Below w.heap.size w w2 := (by have z0 := Below.size hb1; have z1 := Below.size hb2; (try simp only [ZZ] at z0 z1 ⊢; skip); repeat' (first | (with_reducible first | exact BlR _ _ | assumption | refine BlA ?_ ?_ _ | refine BlD ?_ | refine BlN ?_ _ | refine BlS ?_ ?_ _ | refine BlT ?_ (BlM (by assumption) ?_)) | omega | (simp only [ZZ]; omega) | go_size))
 clear K hb2
 go_wp2_with fail
 go_returns
 exact ⟨rfl, (by have z0 := Below.size hbA; (try simp only [ZZ] at z0 ⊢; skip); repeat' (first | (with_reducible first | exact BlR _ _ | assumption | refine BlA ?_ ?_ _ | refine BlD ?_ | refine BlN ?_ _ | refine BlS ?_ ?_ _ | refine BlT ?_ (BlM (by assumption) ?_)) | omega | (simp only [ZZ]; omega) | go_size))⟩
end Go.Proofs.YtoiopnmphbnjaaaGreatDoor
