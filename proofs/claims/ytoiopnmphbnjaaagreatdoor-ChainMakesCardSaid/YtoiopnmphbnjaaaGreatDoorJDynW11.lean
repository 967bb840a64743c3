/- Contracts and lemmas for the given statements. Conditions: those alone that each names. -/
import Derived.Test.YtoiopnmphbnjaaaGreatDoorJDynW10
set_option maxHeartbeats 8000000
namespace Go.Proofs.YtoiopnmphbnjaaaGreatDoor
open Go.RowKit
set_option linter.unusedSimpArgs false
set_option linter.unusedVariables false
set_option maxRecDepth 20000
/-! ## package dynamic: Top -/
section
variable {w : World} {AG AF AR Am : Option Addr} {cg cf cr cm : Nat} {r : DyR} {F : Nat} {M : List Int}
theorem dtop_ok (h : DyI w AG AF AR r) (hs : DyS r) (hc : codeD r = 0) (st : StOk r F M) (rj : RdJ w Am r.ng (fun i => M.getD i 0)) :
   Calls Tryz.prog 19 #[dyv r AG cg AF cf AR cr, .agg #[.int .i64 (F : Int), .slice Am r.ng cm]] w fun e w' => e = .returned (.tuple #[.bool (vaD r.dy F M r.ng r.top.toNat), .nilIface]) ∧ Below w.heap.size w w' := by
 have ok := codeD_ok hc
 obtain ⟨v, hv⟩ : ∃ v : Nat, r.v = v := ⟨r.v.toNat, by have := ok.v1; omega⟩
 obtain ⟨tp, htp⟩ : ∃ tp : Nat, r.top = tp := ⟨r.top.toNat, by have := ok.t0; omega⟩
 have htl : tp < v + r.ng := by have := ok.t1; omega
 have KC := Lib.hid (fun X (hX : Below w.heap.size w X) => dchk_ok (cg := cg) (cf := cf) (cr := cr) (cm := cm) (h.below hX) hs hc st (rj.below hX))
 have KV := Lib.hid (fun X (hX : Below w.heap.size w X) => dvalues_ok (w := X) (cg := cg) (cf := cf) (cr := cr) (cm := cm) (h.below hX) ok hv st (rj.below hX))
 have HV : Hid (vaD r.dy F M r.ng r.top.toNat = vaD r.dy F M r.ng tp) := by show _ = _; rw [htp]; rfl
 rw [HV.out]
 generalize vaD r.dy F M r.ng = V at *
 unfold dyv at KC KV ⊢
 rw [hv, htp] at KC KV ⊢
 have it1 : (0 : Int) ≤ (tp : Int) := by omega
 have it2 : (tp : Int) < (v : Int) + (r.ng : Int) := by omega
 clear hs h ok hc st rj HV
 go_enter Tryz.func19, Tryz.ntmps19
 go_wp2_with fail
 refine (KC.out _ (by (skip); repeat' (first | (with_reducible first | exact BlR _ _ | assumption | refine BlA ?_ ?_ _ | refine BlD ?_ | refine BlN ?_ _ | refine BlS ?_ ?_ _ | refine BlT ?_ (BlM (by assumption) ?_)) | omega | (simp only [ZZ]; omega) | go_size))).mono ?_
 rintro x w1 ⟨rfl, hb1⟩
 have hb1z := hb1.size
 simp only [World.size_alloc] at hb1z
 have x0 : w1.cell? ⟨w.heap.size, 0, none⟩ = some (.int .i64 (v : Int)) := (below_at hb1 w.heap.size 0 (by simp; omega)).trans (by simp [go_sem])
 have x1 : w1.cell? ⟨w.heap.size, 1, none⟩ = some (.slice AG r.ng cg) := (below_at hb1 w.heap.size 1 (by simp; omega)).trans (by simp [go_sem])
 have x2 : w1.cell? ⟨w.heap.size, 2, none⟩ = some (.int .i64 (tp : Int)) := (below_at hb1 w.heap.size 2 (by simp; omega)).trans (by simp [go_sem])
 have x3 : w1.cell? ⟨w.heap.size, 3, none⟩ = some (.slice AF r.nf cf) := (below_at hb1 w.heap.size 3 (by simp; omega)).trans (by simp [go_sem])
 have x4 : w1.cell? ⟨w.heap.size, 4, none⟩ = some (.slice AR r.nr cr) := (below_at hb1 w.heap.size 4 (by simp; omega)).trans (by simp [go_sem])
 have y0 : w1.cell? ⟨w.heap.size + 1, 0, none⟩ = some (.int .i64 (F : Int)) := (below_at hb1 (w.heap.size + 1) 0 (by simp)).trans (by simp [go_sem])
 have y1 : w1.cell? ⟨w.heap.size + 1, 1, none⟩ = some (.slice Am r.ng cm) := (below_at hb1 (w.heap.size + 1) 1 (by simp)).trans (by simp [go_sem])
 have hbA : Below w.heap.size w w1 := (by have z0 := Below.size hb1; (try simp only [ZZ] at z0 ⊢; skip); repeat' (first | (with_reducible first | exact BlR _ _ | assumption | refine BlA ?_ ?_ _ | refine BlD ?_ | refine BlN ?_ _ | refine BlS ?_ ?_ _ | refine BlT ?_ (BlM (by assumption) ?_)) | omega | (simp only [ZZ]; omega) | go_size))
 have hz1 : w.heap.size < w1.heap.size := by omega
 clear hb1
 go_wp2_with fail
 have hbd : Below w.heap.size w w1.drew := hbA.trans ((Below.refl _ _).drew)
 have K := Lib.hid (KV.out w1.drew hbd)
 clear KV KC
 go_region_with
   ((go_at_call 61; (with_reducible refine (K.out).mono ?_); rintro e w4 ⟨⟨g4, c4, rfl, own4⟩, hb4⟩; have hb4z := Below.size hb4; (try simp only [ZZ] at hb4z); obtain ⟨hb4c0, hb4f0⟩ := bbo hb4 (w.heap.size) (by first | omega | (simp only [ZZ]; omega)); have hb4l0 : w.heap.size < (w4).heap.size := (by omega)); have cx := own4.at_ htl)
 all_goals
   go_wp2_with fail
   go_returns
   exact ⟨rfl, (by have z0 := Below.size hbd; have z1 := Below.size hb4; (try simp only [ZZ] at z0 z1 ⊢; skip); repeat' (first | (with_reducible first | exact BlR _ _ | assumption | refine BlA ?_ ?_ _ | refine BlD ?_ | refine BlN ?_ _ | refine BlS ?_ ?_ _ | refine BlT ?_ (BlM (by assumption) ?_)) | omega | (simp only [ZZ]; omega) | go_size))⟩
end
end Go.Proofs.YtoiopnmphbnjaaaGreatDoor
namespace Go.Proofs.YtoiopnmphbnjaaaGreatDoor
open Go.RowKit
set_option linter.unusedSimpArgs false
set_option linter.unusedVariables false
set_option maxRecDepth 20000
/-! ## package dynamic: Fail -/
section
variable {w : World} {AG AF AR Am : Option Addr} {cg cf cr cm : Nat} {r : DyR} {F e : Nat} {M : List Int}
theorem dfail_ok (h : DyI w AG AF AR r) (hs : DyS r) (hc : codeD r = 0) (st : StOk r F M) (rj : RdJ w Am r.ng (fun i => M.getD i 0)) (he : e < r.v.toNat) (hb : F.testBit e = false) :
   Calls Tryz.prog 24 #[dyv r AG cg AF cf AR cr, .agg #[.int .i64 (F : Int), .slice Am r.ng cm], .int .i64 (e : Int)] w fun x w' => StRet 0 w.heap.size r.ng (stF r.dy (F, M) e) x w' ∧ Below w.heap.size w w' := by
 have ok := codeD_ok hc
 obtain ⟨v, hv⟩ : ∃ v : Nat, r.v = v := ⟨r.v.toNat, by have := ok.v1; omega⟩
 have v24 : v ≤ 24 := by have := ok.v2; omega
 have hF : F < 2 ^ v := by have := st.f; rw [hv] at this; simpa using this
 have hev : e < v := by rw [hv] at he; simpa using he
 have hp : 2 ^ v ≤ 16777216 := Nat.pow_le_pow_right (n := 2) (by omega) v24
 have hG : F ||| 2 ^ e < 2 ^ v := Nat.or_lt_two_pow hF (Nat.pow_lt_pow_right (by omega) hev)
 have KC := Lib.hid (fun X (hX : Below w.heap.size w X) => dchk_ok (cg := cg) (cf := cf) (cr := cr) (cm := cm) (h.below hX) hs hc st (rj.below hX))
 have KS := Lib.hid (fun X (hX : Below w.heap.size w X) => dsettle_any (w := X) (F := F ||| 2 ^ e) (cg := cg) (cf := cf) (cr := cr) (co := cm) (h.below hX) ok hv hG (rj.below hX) st.o7)
 have HST : Hid (stF r.dy (F, M) e = setl r.dy (F ||| 2 ^ e) M) := rfl
 rw [HST.out]
 generalize hS : setl r.dy (F ||| 2 ^ e) M = S at *
 have s1 := yshr F e
 have hq : F / 2 ^ e < 16777216 := Nat.lt_of_le_of_lt (Nat.div_le_self _ _) (by omega)
 have s2 : bits .and .i64 ((F / 2 ^ e : Nat) : Int) 1 = ((F / 2 ^ e % 2 : Nat) : Int) := yand1 (by omega)
 have s3 : F / 2 ^ e % 2 = 0 := by rw [ybit, hb]; rfl
 rw [s3] at s2
 have s4 := yshl (k := e) (by omega)
 have s6 := yshl2 (k := e) (by omega)
 have he24 := yp24 (k := e) (by omega)
 have s5 : bits .or .i64 (F : Int) ((2 ^ e : Nat) : Int) = ((F ||| 2 ^ e : Nat) : Int) := i64_or _ _ (by omega) (by omega)
 generalize F ||| 2 ^ e = G at *
 generalize F / 2 ^ e = q1 at *
 generalize 2 ^ e = pe at *
 unfold dyv at KC KS ⊢
 rw [hv] at KC KS ⊢
 clear hs h ok hc hS HST st rj he s3 hb
 go_enter Tryz.func24, Tryz.ntmps24
 go_wp2_with fail
 refine (KC.out _ (by (skip); repeat' (first | (with_reducible first | exact BlR _ _ | assumption | refine BlA ?_ ?_ _ | refine BlD ?_ | refine BlN ?_ _ | refine BlS ?_ ?_ _ | refine BlT ?_ (BlM (by assumption) ?_)) | omega | (simp only [ZZ]; omega) | go_size))).mono ?_
 rintro x w1 ⟨rfl, hb1⟩
 have hb1z := hb1.size
 simp only [World.size_alloc] at hb1z
 have x0 : w1.cell? ⟨w.heap.size, 0, none⟩ = some (.int .i64 (v : Int)) := (below_at hb1 w.heap.size 0 (by simp; omega)).trans (by simp [go_sem])
 have x1 : w1.cell? ⟨w.heap.size, 1, none⟩ = some (.slice AG r.ng cg) := (below_at hb1 w.heap.size 1 (by simp; omega)).trans (by simp [go_sem])
 have x2 : w1.cell? ⟨w.heap.size, 2, none⟩ = some (.int .i64 r.top) := (below_at hb1 w.heap.size 2 (by simp; omega)).trans (by simp [go_sem])
 have x3 : w1.cell? ⟨w.heap.size, 3, none⟩ = some (.slice AF r.nf cf) := (below_at hb1 w.heap.size 3 (by simp; omega)).trans (by simp [go_sem])
 have x4 : w1.cell? ⟨w.heap.size, 4, none⟩ = some (.slice AR r.nr cr) := (below_at hb1 w.heap.size 4 (by simp; omega)).trans (by simp [go_sem])
 have y0 : w1.cell? ⟨w.heap.size + 1, 0, none⟩ = some (.int .i64 (F : Int)) := (below_at hb1 (w.heap.size + 1) 0 (by simp)).trans (by simp [go_sem])
 have y1 : w1.cell? ⟨w.heap.size + 1, 1, none⟩ = some (.slice Am r.ng cm) := (below_at hb1 (w.heap.size + 1) 1 (by simp)).trans (by simp [go_sem])
 have t0 : w1.cell? ⟨w.heap.size + 1 + 1, 0, none⟩ = some (.int .i64 0) := (below_at hb1 (w.heap.size + 1 + 1) 0 (by simp)).trans (by simp [go_sem])
 have t1 : w1.cell? ⟨w.heap.size + 1 + 1, 1, none⟩ = some (.slice none 0 0) := (below_at hb1 (w.heap.size + 1 + 1) 1 (by simp)).trans (by simp [go_sem])
 have d0 : w1.frozen? ⟨w.heap.size + 1 + 1, 0, none⟩ = false := (below_fr hb1 (w.heap.size + 1 + 1) 0 (by simp)).trans (by simp [go_sem])
 have d1 : w1.frozen? ⟨w.heap.size + 1 + 1, 1, none⟩ = false := (below_fr hb1 (w.heap.size + 1 + 1) 1 (by simp)).trans (by simp [go_sem])
 have hbA : Below w.heap.size w w1 := (by have z0 := Below.size hb1; (try simp only [ZZ] at z0 ⊢; skip); repeat' (first | (with_reducible first | exact BlR _ _ | assumption | refine BlA ?_ ?_ _ | refine BlD ?_ | refine BlN ?_ _ | refine BlS ?_ ?_ _ | refine BlT ?_ (BlM (by assumption) ?_)) | omega | (simp only [ZZ]; omega) | go_size))
 clear hb1
 go_wp2_with fail
 have hbd : Below w.heap.size w w1.drew := hbA.trans ((Below.refl _ _).drew)
 have K := Lib.hid (KS.out w1.drew hbd)
 clear KS KC
 go_region_with ((go_at_call 63; (with_reducible refine (K.out).mono ?_); rintro e w5 ⟨⟨A5, c5, rfl, oj5⟩, hb5⟩; have hb5z := Below.size hb5; (try simp only [ZZ] at hb5z); obtain ⟨hb5c0, hb5f0⟩ := bbo hb5 (w.heap.size + 1 + 1) (by first | omega | (simp only [ZZ]; omega)); have hb5l0 : w.heap.size + 1 + 1 < (w5).heap.size := (by omega)))
 all_goals
   have h0 := (hb5c0 0).trans t0
   have h1 := (hb5c0 1).trans t1
   have hfin : StRet 0 w.heap.size r.ng S (.returned (.tuple #[.agg #[.int .i64 (S.1 : Int), .slice A5 r.ng c5], .nilIface])) ((w5.setCell ⟨w.heap.size + 1 + 1, 0, none⟩ (.int .i64 (S.1 : Int))).setCell ⟨w.heap.size + 1 + 1, 1, none⟩ (.slice A5 r.ng c5)) := by
     unfold StRet
     rw [if_pos rfl]
     exact ⟨A5, c5, rfl, OwJ.base_ (base := w1.heap.size) (ofar _ (ofar _ oj5 (by show _ < w1.heap.size; omega)) (by omega)) (by omega)⟩
   have hbF : Below w.heap.size w ((w5.setCell ⟨w.heap.size + 1 + 1, 0, none⟩ (.int .i64 (S.1 : Int))).setCell ⟨w.heap.size + 1 + 1, 1, none⟩ (.slice A5 r.ng c5)) := (by have z0 := Below.size hbd; have z1 := Below.size hb5; (try simp only [ZZ] at z0 z1 ⊢; skip); repeat' (first | (with_reducible first | exact BlR _ _ | assumption | refine BlA ?_ ?_ _ | refine BlD ?_ | refine BlN ?_ _ | refine BlS ?_ ?_ _ | refine BlT ?_ (BlM (by assumption) ?_)) | omega | (simp only [ZZ]; omega) | go_size))
   have HFIN := Lib.hid hfin
   clear hfin
   go_wp2_with fail
   (try simp only [Exit.inBlock, Exit.then])
   refine bodyPost_ret (v := .tuple #[.agg #[.int .i64 (S.1 : Int), .slice A5 r.ng c5], .nilIface]) ?_ rfl ⟨HFIN.out, hbF⟩
   rw [results_cell_tmp rfl]
   go_simp
end
end Go.Proofs.YtoiopnmphbnjaaaGreatDoor
