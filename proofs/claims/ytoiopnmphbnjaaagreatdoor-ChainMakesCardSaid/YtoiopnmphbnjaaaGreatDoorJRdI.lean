/- Contracts and lemmas for the given statements. Conditions: those alone that each names. -/
import Derived.Test.YtoiopnmphbnjaaaGreatDoorRdH
import Derived.Laws.ResultCell
set_option maxHeartbeats 8000000
namespace Go.Proofs.YtoiopnmphbnjaaaGreatDoor
open Go.RowKit
set_option linter.unusedSimpArgs false
set_option linter.unusedVariables false
set_option maxRecDepth 20000
/-! ## the reference's Start -/
/-- a state as the reference returns it -/
def RSt (b0 n : Nat) (S : DS) (e : Ending) (w' : World) : Prop := ∃ A c, e = .returned (.agg #[.int .i64 (S.1 : Nat), .slice A n c]) ∧ OwJ w' b0 A c n (fun i => S.2.getD i 0)
section
variable {w : World} {AG AF AR Am : Option Addr} {cg cf cr cm : Nat} {r : DyR} {F : Nat} {M : List Int}
theorem rstart_any (h : DyI w AG AF AR r) (ok : DyOk r) :
   Calls Tryz.prog 50 #[dyv r AG cg AF cf AR cr] w fun e w' => RSt w.heap.size r.ng (setl r.dy 0 (List.replicate r.ng 0)) e w' ∧ Below w.heap.size w w' := by
 obtain ⟨v, hv⟩ : ∃ v : Nat, r.v = v := ⟨r.v.toNat, by have := ok.v1; omega⟩
 have n64 := ok.ng
 have KS := Lib.hid (fun X (Am : Option Addr) (cm : Nat) (hX : Below w.heap.size w X) (rj : RdJ X Am r.ng (fun i => (List.replicate r.ng (0 : Int)).getD i 0)) => rsettle_any (w := X) (F := 0) (cg := cg) (cf := cf) (cr := cr) (co := cm) (h.below hX) ok hv (Nat.two_pow_pos v) rj (fun i hi _ => by
   rw [zero_getD]
   have := (dgAg_len (ok.gate hi).ln).1
   omega))
 generalize hS : setl r.dy 0 (List.replicate r.ng 0) = S at *
 unfold dyv at KS ⊢
 rw [hv] at KS ⊢
 rw [Int.natCast_zero] at KS
 clear h ok hS
 go_enter Tryz.func50, Tryz.ntmps50
 go_wp2_with fail
 have hbA : Below w.heap.size w ((w.alloc (.cells #[.int .i64 (v : Int), .slice AG r.ng cg, .int .i64 r.top, .slice AF r.nf cf, .slice AR r.nr cr] 25)).alloc (.cells #[.int .i64 0, .slice none 0 0] 45)) := (by (skip); repeat' (first | (with_reducible first | exact BlR _ _ | assumption | refine BlA ?_ ?_ _ | refine BlD ?_ | refine BlN ?_ _ | refine BlS ?_ ?_ _ | refine BlT ?_ (BlM (by assumption) ?_)) | omega | (simp only [ZZ]; omega) | go_size))
 have hbAz : ((w.alloc (.cells #[.int .i64 (v : Int), .slice AG r.ng cg, .int .i64 r.top, .slice AF r.nf cf, .slice AR r.nr cr] 25)).alloc (.cells #[.int .i64 0, .slice none 0 0] 45)).heap.size > w.heap.size + 1 := by simp
 have x0 : ((w.alloc (.cells #[.int .i64 (v : Int), .slice AG r.ng cg, .int .i64 r.top, .slice AF r.nf cf, .slice AR r.nr cr] 25)).alloc (.cells #[.int .i64 0, .slice none 0 0] 45)).cell? ⟨w.heap.size, 0, none⟩ = some (.int .i64 (v : Int)) := by simp [go_sem]
 have x1 : ((w.alloc (.cells #[.int .i64 (v : Int), .slice AG r.ng cg, .int .i64 r.top, .slice AF r.nf cf, .slice AR r.nr cr] 25)).alloc (.cells #[.int .i64 0, .slice none 0 0] 45)).cell? ⟨w.heap.size, 1, none⟩ = some (.slice AG r.ng cg) := by simp [go_sem]
 have x2 : ((w.alloc (.cells #[.int .i64 (v : Int), .slice AG r.ng cg, .int .i64 r.top, .slice AF r.nf cf, .slice AR r.nr cr] 25)).alloc (.cells #[.int .i64 0, .slice none 0 0] 45)).cell? ⟨w.heap.size, 2, none⟩ = some (.int .i64 r.top) := by simp [go_sem]
 have x3 : ((w.alloc (.cells #[.int .i64 (v : Int), .slice AG r.ng cg, .int .i64 r.top, .slice AF r.nf cf, .slice AR r.nr cr] 25)).alloc (.cells #[.int .i64 0, .slice none 0 0] 45)).cell? ⟨w.heap.size, 3, none⟩ = some (.slice AF r.nf cf) := by simp [go_sem]
 have x4 : ((w.alloc (.cells #[.int .i64 (v : Int), .slice AG r.ng cg, .int .i64 r.top, .slice AF r.nf cf, .slice AR r.nr cr] 25)).alloc (.cells #[.int .i64 0, .slice none 0 0] 45)).cell? ⟨w.heap.size, 4, none⟩ = some (.slice AR r.nr cr) := by simp [go_sem]
 have t0 : ((w.alloc (.cells #[.int .i64 (v : Int), .slice AG r.ng cg, .int .i64 r.top, .slice AF r.nf cf, .slice AR r.nr cr] 25)).alloc (.cells #[.int .i64 0, .slice none 0 0] 45)).cell? ⟨w.heap.size + 1, 0, none⟩ = some (.int .i64 0) := by simp [go_sem]
 have t1 : ((w.alloc (.cells #[.int .i64 (v : Int), .slice AG r.ng cg, .int .i64 r.top, .slice AF r.nf cf, .slice AR r.nr cr] 25)).alloc (.cells #[.int .i64 0, .slice none 0 0] 45)).cell? ⟨w.heap.size + 1, 1, none⟩ = some (.slice none 0 0) := by simp [go_sem]
 have d0 : ((w.alloc (.cells #[.int .i64 (v : Int), .slice AG r.ng cg, .int .i64 r.top, .slice AF r.nf cf, .slice AR r.nr cr] 25)).alloc (.cells #[.int .i64 0, .slice none 0 0] 45)).frozen? ⟨w.heap.size + 1, 0, none⟩ = false := by simp [go_sem]
 have d1 : ((w.alloc (.cells #[.int .i64 (v : Int), .slice AG r.ng cg, .int .i64 r.top, .slice AF r.nf cf, .slice AR r.nr cr] 25)).alloc (.cells #[.int .i64 0, .slice none 0 0] 45)).frozen? ⟨w.heap.size + 1, 1, none⟩ = false := by simp [go_sem]
 generalize (w.alloc (.cells #[.int .i64 (v : Int), .slice AG r.ng cg, .int .i64 r.top, .slice AF r.nf cf, .slice AR r.nr cr] 25)).alloc (.cells #[.int .i64 0, .slice none 0 0] 45) = w1 at *
 obtain ⟨Wm, hmk, ownm, hbm⟩ := run_makeJ w1.drew r.ng (by omega)
 have hbm2 : Below w1.heap.size w1 Wm := ((Below.refl _ _).drew).trans hbm
 have hbmz := hbm2.size
 have e0 := fun o => below_at hbm2 w.heap.size o (by omega)
 have e1 := fun o => below_at hbm2 (w.heap.size + 1) o (by omega)
 have e2 := fun o => below_fr hbm2 (w.heap.size + 1) o (by omega)
 have m0 := (e0 0).trans x0
 have m1 := (e0 1).trans x1
 have m2 := (e0 2).trans x2
 have m3 := (e0 3).trans x3
 have m4 := (e0 4).trans x4
 have n0 := (e1 0).trans t0
 have n1 := (e1 1).trans t1
 have o0 := (e2 0).trans d0
 have o1 := (e2 1).trans d1
 have hmz : w.heap.size + 1 < Wm.heap.size := by omega
 have hbX : Below w.heap.size w Wm := hbA.trans (hbm2.mono (by omega))
 have K := Lib.hid (KS.out Wm (some ⟨w1.heap.size, 0, none⟩) r.ng hbX (ownm.rd.congr fun j hj => (zero_getD _ _).symm))
 clear KS e0 e1 e2 ownm hbm
 go_region_with ((go_at_call 90; (with_reducible refine (K.out).mono ?_); rintro e w5 ⟨⟨A5, c5, rfl, oj5⟩, hb5⟩; have hb5z := Below.size hb5; (try simp only [ZZ] at hb5z); obtain ⟨hb5c0, hb5f0⟩ := bbo hb5 (w.heap.size + 1) (by first | omega | (simp only [ZZ]; omega)); have hb5l0 : w.heap.size + 1 < (w5).heap.size := (by omega)))
 all_goals
   have h0 := (hb5c0 0).trans n0
   have h1 := (hb5c0 1).trans n1
   have hfin : RSt w.heap.size r.ng S (.returned (.agg #[.int .i64 (S.1 : Int), .slice A5 r.ng c5])) ((w5.setCell ⟨w.heap.size + 1, 0, none⟩ (.int .i64 (S.1 : Int))).setCell ⟨w.heap.size + 1, 1, none⟩ (.slice A5 r.ng c5)) :=
     ⟨A5, c5, rfl, OwJ.base_ (base := Wm.heap.size) (ofar _ (ofar _ oj5 (by omega)) (by omega)) (by omega)⟩
   have hbF : Below w.heap.size w ((w5.setCell ⟨w.heap.size + 1, 0, none⟩ (.int .i64 (S.1 : Int))).setCell ⟨w.heap.size + 1, 1, none⟩ (.slice A5 r.ng c5)) := (by have z0 := Below.size hbX; have z1 := Below.size hb5; (try simp only [ZZ] at z0 z1 ⊢; skip); repeat' (first | (with_reducible first | exact BlR _ _ | assumption | refine BlA ?_ ?_ _ | refine BlD ?_ | refine BlN ?_ _ | refine BlS ?_ ?_ _ | refine BlT ?_ (BlM (by assumption) ?_)) | omega | (simp only [ZZ]; omega) | go_size))
   have HFIN := Lib.hid hfin
   clear hfin
   go_wp2_with fail
   (try simp only [Exit.inBlock, Exit.then])
   refine bodyPost_ret (v := .agg #[.int .i64 (S.1 : Int), .slice A5 r.ng c5]) ?_ rfl ⟨HFIN.out, hbF⟩
   rw [results_cell1 rfl]
   go_simp
end
end Go.Proofs.YtoiopnmphbnjaaaGreatDoor
namespace Go.Proofs.YtoiopnmphbnjaaaGreatDoor
open Go.RowKit
set_option linter.unusedSimpArgs false
set_option linter.unusedVariables false
set_option maxRecDepth 20000
/-! ## the reference's Top -/
section
variable {w : World} {AG AF AR Am : Option Addr} {cg cf cr cm : Nat} {r : DyR} {F : Nat} {M : List Int}
theorem rtop_any (h : DyI w AG AF AR r) (ok : DyOk r) (st : StOk r F M) (rj : RdJ w Am r.ng (fun i => M.getD i 0)) :
   Calls Tryz.prog 55 #[dyv r AG cg AF cf AR cr, .agg #[.int .i64 (F : Int), .slice Am r.ng cm]] w fun e w' => e = .returned (.bool (vaD r.dy F M r.ng r.top.toNat)) ∧ Below w.heap.size w w' := by
 obtain ⟨v, hv⟩ : ∃ v : Nat, r.v = v := ⟨r.v.toNat, by have := ok.v1; omega⟩
 obtain ⟨tp, htp⟩ : ∃ tp : Nat, r.top = tp := ⟨r.top.toNat, by have := ok.t0; omega⟩
 have htl : tp < v + r.ng := by have := ok.t1; omega
 have v24 : v ≤ 24 := by have := ok.v2; omega
 have n64 := ok.ng
 have hF : F < 2 ^ v := by have := st.f; rwa [show r.v.toNat = v by omega] at this
 have KV := Lib.hid (fun X (hX : Below w.heap.size w X) => rvals_any (w := X) (cg := cg) (cf := cf) (cr := cr) (cm := cm) (h.below hX) ok hv hF (rj.below hX))
 have KO := Lib.hid (fun X (Av : Option Addr) (cv : Nat) (hr : RdV X Av r.ng (fun j => vaD r.dy F M r.ng (v + j))) => rof_any (w := X) (AG := AG) (AF := AF) (AR := AR) (cg := cg) (cf := cf) (cr := cr) (cv := cv) (r := r) (a := tp) (V := vaD r.dy F M r.ng) hv v24 hF hr (fun a ha => vaD_ev (d := r.dy) (show a < r.dy.v by show a < r.v.toNat; omega)) htl (by omega))
 have HV : Hid (vaD r.dy F M r.ng r.top.toNat = vaD r.dy F M r.ng tp) := by show _ = _; rw [htp]; rfl
 rw [HV.out]
 generalize vaD r.dy F M r.ng = V at *
 unfold dyv at KV KO ⊢
 rw [hv, htp] at KV KO ⊢
 clear h ok st rj HV
 obtain ⟨W, hW⟩ : ∃ W, W = ((w.alloc (.cells #[.int .i64 (v : Int), .slice AG r.ng cg, .int .i64 (tp : Int), .slice AF r.nf cf, .slice AR r.nr cr] 25)).alloc (.cells #[.int .i64 (F : Int), .slice Am r.ng cm] 45)) := ⟨_, rfl⟩
 have hbA : Below w.heap.size w W := by rw [hW]; exact (by (skip); repeat' (first | (with_reducible first | exact BlR _ _ | assumption | refine BlA ?_ ?_ _ | refine BlD ?_ | refine BlN ?_ _ | refine BlS ?_ ?_ _ | refine BlT ?_ (BlM (by assumption) ?_)) | omega | (simp only [ZZ]; omega) | go_size))
 have hbAz : W.heap.size = w.heap.size + 2 := by rw [hW]; simp
 have x0 : W.cell? ⟨w.heap.size, 0, none⟩ = some (.int .i64 (v : Int)) := by rw [hW]; simp [go_sem]
 have x1 : W.cell? ⟨w.heap.size, 1, none⟩ = some (.slice AG r.ng cg) := by rw [hW]; simp [go_sem]
 have x2 : W.cell? ⟨w.heap.size, 2, none⟩ = some (.int .i64 (tp : Int)) := by rw [hW]; simp [go_sem]
 have x3 : W.cell? ⟨w.heap.size, 3, none⟩ = some (.slice AF r.nf cf) := by rw [hW]; simp [go_sem]
 have x4 : W.cell? ⟨w.heap.size, 4, none⟩ = some (.slice AR r.nr cr) := by rw [hW]; simp [go_sem]
 have y0 : W.cell? ⟨w.heap.size + 1, 0, none⟩ = some (.int .i64 (F : Int)) := by rw [hW]; simp [go_sem]
 have y1 : W.cell? ⟨w.heap.size + 1, 1, none⟩ = some (.slice Am r.ng cm) := by rw [hW]; simp [go_sem]
 have HW := Lib.hid hW
 have hbd : Below w.heap.size w W.drew := hbA.trans ((Below.refl _ _).drew)
 have K := Lib.hid (KV.out W.drew hbd)
 have KO2 : Hid (∀ X (Av : Option Addr) (cv : Nat) (b0 : Nat), OwVb X b0 Av cv r.ng (fun j => V (v + j)) → Calls Tryz.prog 100 #[.agg #[.int .i64 (v : Int), .slice AG r.ng cg, .int .i64 (tp : Int), .slice AF r.nf cf, .slice AR r.nr cr], .slice Av r.ng cv, .int .i64 (F : Int), .int .i64 (tp : Int)] X fun e w' => e = .returned (.bool (V tp)) ∧ Below X.heap.size X w') := fun X Av cv b0 ho => KO.out X Av cv ho.rd
 clear hW KV KO
 generalize V tp = bt at *
 go_enter Tryz.func55, Tryz.ntmps55
 go_upto_region 1 with fail
 rw [← HW.out]
 go_region_held3 (fun X => X.cell? ⟨w.heap.size, 0, none⟩ = some (.int .i64 (v : Int)) ∧ X.cell? ⟨w.heap.size, 1, none⟩ = some (.slice AG r.ng cg) ∧ X.cell? ⟨w.heap.size, 2, none⟩ = some (.int .i64 (tp : Int)) ∧ X.cell? ⟨w.heap.size, 3, none⟩ = some (.slice AF r.nf cf) ∧ X.cell? ⟨w.heap.size, 4, none⟩ = some (.slice AR r.nr cr) ∧ X.cell? ⟨w.heap.size + 1, 0, none⟩ = some (.int .i64 (F : Int)) ∧ X.cell? ⟨w.heap.size + 1, 1, none⟩ = some (.slice Am r.ng cm)) (go_keep)
   (first | (go_at_call 101; (with_reducible refine (K.out).mono ?_); rintro e w4 ⟨⟨A4, c4, rfl, own4⟩, hb4⟩; have hb4z := Below.size hb4; (try simp only [ZZ] at hb4z); obtain ⟨hb4c0, hb4f0⟩ := bbo hb4 (w.heap.size) (by first | omega | (simp only [ZZ]; omega)); have hb4l0 : w.heap.size < (w4).heap.size := (by omega); obtain ⟨hb4c1, hb4f1⟩ := bbo hb4 (w.heap.size + 1) (by first | omega | (simp only [ZZ]; omega)); have hb4l1 : w.heap.size + 1 < (w4).heap.size := (by omega)) | (go_at_call 100; (with_reducible refine (KO2.out w4 A4 c4 _ own4).mono ?_); rintro e w5 ⟨rfl, hb5⟩; have hb5z := Below.size hb5; (try simp only [ZZ] at hb5z); obtain ⟨hb5c0, hb5f0⟩ := bbo hb5 (w.heap.size) (by first | omega | (simp only [ZZ]; omega)); have hb5l0 : w.heap.size < (w5).heap.size := (by omega); obtain ⟨hb5c1, hb5f1⟩ := bbo hb5 (w.heap.size + 1) (by first | omega | (simp only [ZZ]; omega)); have hb5l1 : w.heap.size + 1 < (w5).heap.size := (by omega)) | fail)
 all_goals
   go_wp2_with fail
   go_returns
   exact ⟨rfl, (by have z0 := Below.size hbd; have z1 := Below.size hb4; have z2 := Below.size hb5; (try simp only [ZZ] at z0 z1 z2 ⊢; skip); repeat' (first | (with_reducible first | exact BlR _ _ | assumption | refine BlA ?_ ?_ _ | refine BlD ?_ | refine BlN ?_ _ | refine BlS ?_ ?_ _ | refine BlT ?_ (BlM (by assumption) ?_)) | omega | (simp only [ZZ]; omega) | go_size))⟩
end
end Go.Proofs.YtoiopnmphbnjaaaGreatDoor
