/- Contracts and lemmas for the given statements. Conditions: those alone that each names. -/
import Derived.Test.YtoiopnmphbnjaaaGreatDoorJRdI
import Derived.Laws.ResultCell
import Derived.Test.YtoiopnmphbnjaaaGreatDoorJDynW14
set_option maxHeartbeats 16000000
namespace Go.Proofs.YtoiopnmphbnjaaaGreatDoor
open Go.RowKit
set_option linter.unusedSimpArgs false
set_option linter.unusedVariables false
set_option maxRecDepth 20000
/-! ## the reference's Fail -/
/-- a state as the reference returns it, no error -/
def RSt2 (b0 n : Nat) (S : DS) (e : Ending) (w' : World) : Prop := ∃ A c, e = .returned (.tuple #[.agg #[.int .i64 (S.1 : Nat), .slice A n c], .int .i64 0]) ∧ OwJ w' b0 A c n (fun i => S.2.getD i 0)
section
variable {w : World} {AG AF AR Am : Option Addr} {cg cf cr cm : Nat} {r : DyR} {F e : Nat} {M : List Int}
theorem rfail_ok (h : DyI w AG AF AR r) (ok : DyOk r) (st : StOk r F M) (rj : RdJ w Am r.ng (fun i => M.getD i 0)) (he : e < r.v.toNat) (hb : F.testBit e = false) :
   Calls Tryz.prog 92 #[dyv r AG cg AF cf AR cr, .agg #[.int .i64 (F : Int), .slice Am r.ng cm], .int .i64 (e : Int)] w fun x w' => RSt2 w.heap.size r.ng (stF r.dy (F, M) e) x w' ∧ Below w.heap.size w w' := by
 obtain ⟨v, hv⟩ : ∃ v : Nat, r.v = v := ⟨r.v.toNat, by have := ok.v1; omega⟩
 have v24 : v ≤ 24 := by have := ok.v2; omega
 have hF : F < 2 ^ v := by have := st.f; rw [hv] at this; simpa using this
 have hev : e < v := by rw [hv] at he; simpa using he
 have hp : 2 ^ v ≤ 16777216 := Nat.pow_le_pow_right (n := 2) (by omega) v24
 have hG : F ||| 2 ^ e < 2 ^ v := Nat.or_lt_two_pow hF (Nat.pow_lt_pow_right (by omega) hev)
 have KS := Lib.hid (fun X (hX : Below w.heap.size w X) => rsettle_any (w := X) (F := F ||| 2 ^ e) (cg := cg) (cf := cf) (cr := cr) (co := cm) (h.below hX) ok hv hG (rj.below hX) st.o7)
 have HST : Hid (stF r.dy (F, M) e = setl r.dy (F ||| 2 ^ e) M) := rfl
 rw [HST.out]
 generalize hS : setl r.dy (F ||| 2 ^ e) M = S at *
 have s1 := yshr F e
 have hq : F / 2 ^ e < 16777216 := Nat.lt_of_le_of_lt (Nat.div_le_self _ _) (by omega)
 have s2 : bits .and .i64 ((F / 2 ^ e : Nat) : Int) 1 = ((F / 2 ^ e % 2 : Nat) : Int) := yand1 (by omega)
 have s3 : F / 2 ^ e % 2 = 0 := by rw [ybit, hb]; rfl
 rw [s3] at s2
 have s4 := yshl (k := e) (by omega)
 have s6 := yshl2 (k := e) (by omega)
 have he24 := yp24 (k := e) (by omega)
 have s5 : bits .or .i64 (F : Int) ((2 ^ e : Nat) : Int) = ((F ||| 2 ^ e : Nat) : Int) := i64_or _ _ (by omega) (by omega)
 generalize F ||| 2 ^ e = G at *
 generalize F / 2 ^ e = q1 at *
 generalize 2 ^ e = pe at *
 unfold dyv at KS ⊢
 rw [hv] at KS ⊢
 clear h ok hS HST st rj he s3 hb hv
 obtain ⟨W, hW⟩ : ∃ W, W = (((w.alloc (.cells #[.int .i64 (v : Int), .slice AG r.ng cg, .int .i64 r.top, .slice AF r.nf cf, .slice AR r.nr cr] 25)).alloc (.cells #[.int .i64 (F : Int), .slice Am r.ng cm] 45)).alloc (.cells #[.int .i64 0, .slice none 0 0] 45)) := ⟨_, rfl⟩
 have hbA : Below w.heap.size w W := by rw [hW]; exact (by (skip); repeat' (first | (with_reducible first | exact BlR _ _ | assumption | refine BlA ?_ ?_ _ | refine BlD ?_ | refine BlN ?_ _ | refine BlS ?_ ?_ _ | refine BlT ?_ (BlM (by assumption) ?_)) | omega | (simp only [ZZ]; omega) | go_size))
 have hbAz : W.heap.size = w.heap.size + 3 := by rw [hW]; simp
 have x0 : W.cell? ⟨w.heap.size, 0, none⟩ = some (.int .i64 (v : Int)) := by rw [hW]; simp [go_sem]
 have x1 : W.cell? ⟨w.heap.size, 1, none⟩ = some (.slice AG r.ng cg) := by rw [hW]; simp [go_sem]
 have x2 : W.cell? ⟨w.heap.size, 2, none⟩ = some (.int .i64 r.top) := by rw [hW]; simp [go_sem]
 have x3 : W.cell? ⟨w.heap.size, 3, none⟩ = some (.slice AF r.nf cf) := by rw [hW]; simp [go_sem]
 have x4 : W.cell? ⟨w.heap.size, 4, none⟩ = some (.slice AR r.nr cr) := by rw [hW]; simp [go_sem]
 have y0 : W.cell? ⟨w.heap.size + 1, 0, none⟩ = some (.int .i64 (F : Int)) := by rw [hW]; simp [go_sem]
 have y1 : W.cell? ⟨w.heap.size + 1, 1, none⟩ = some (.slice Am r.ng cm) := by rw [hW]; simp [go_sem]
 have t0 : W.cell? ⟨w.heap.size + 1 + 1, 0, none⟩ = some (.int .i64 0) := by rw [hW]; exact (World.cell?_alloc_at _ _ _ _ (by simp)).trans rfl
 have t1 : W.cell? ⟨w.heap.size + 1 + 1, 1, none⟩ = some (.slice none 0 0) := by rw [hW]; exact (World.cell?_alloc_at _ _ _ _ (by simp)).trans rfl
 have d0 : W.frozen? ⟨w.heap.size + 1 + 1, 0, none⟩ = false := by rw [hW]; simp [go_sem]
 have d1 : W.frozen? ⟨w.heap.size + 1 + 1, 1, none⟩ = false := by rw [hW]; simp [go_sem]
 have HW := Lib.hid hW
 have hbd : Below w.heap.size w W.drew := hbA.trans ((Below.refl _ _).drew)
 have K := Lib.hid (KS.out W.drew hbd)
 clear hW KS
 go_enter Tryz.func92, Tryz.ntmps92
 go_upto_region 1 with fail
 rw [← HW.out]
 go_wp2_with fail
 go_region_with ((go_at_call 90; (with_reducible refine (K.out).mono ?_); rintro e w5 ⟨⟨A5, c5, rfl, oj5⟩, hb5⟩; have hb5z := Below.size hb5; (try simp only [ZZ] at hb5z); obtain ⟨hb5c0, hb5f0⟩ := bbo hb5 (w.heap.size + 1 + 1) (by first | omega | (simp only [ZZ]; omega)); have hb5l0 : w.heap.size + 1 + 1 < (w5).heap.size := (by omega)))
 all_goals
   have h0 := (hb5c0 0).trans t0
   have h1 := (hb5c0 1).trans t1
   have hfin : RSt2 w.heap.size r.ng S (.returned (.tuple #[.agg #[.int .i64 (S.1 : Int), .slice A5 r.ng c5], .int .i64 0])) ((w5.setCell ⟨w.heap.size + 1 + 1, 0, none⟩ (.int .i64 (S.1 : Int))).setCell ⟨w.heap.size + 1 + 1, 1, none⟩ (.slice A5 r.ng c5)) :=
     ⟨A5, c5, rfl, OwJ.base_ (base := W.heap.size) (ofar _ (ofar _ oj5 (by show _ < W.heap.size; omega)) (by omega)) (by omega)⟩
   have hbF : Below w.heap.size w ((w5.setCell ⟨w.heap.size + 1 + 1, 0, none⟩ (.int .i64 (S.1 : Int))).setCell ⟨w.heap.size + 1 + 1, 1, none⟩ (.slice A5 r.ng c5)) := (by have z0 := Below.size hbd; have z1 := Below.size hb5; (try simp only [ZZ] at z0 z1 ⊢; skip); repeat' (first | (with_reducible first | exact BlR _ _ | assumption | refine BlA ?_ ?_ _ | refine BlD ?_ | refine BlN ?_ _ | refine BlS ?_ ?_ _ | refine BlT ?_ (BlM (by assumption) ?_)) | omega | (simp only [ZZ]; omega) | go_size))
   have HFIN := Lib.hid hfin
   clear hfin
   go_wp2_with fail
   (try simp only [Exit.inBlock, Exit.then])
   refine bodyPost_ret (v := .tuple #[.agg #[.int .i64 (S.1 : Int), .slice A5 r.ng c5], .int .i64 0]) ?_ rfl ⟨HFIN.out, hbF⟩
   rw [results_cell_tmp rfl]
   go_simp
end
end Go.Proofs.YtoiopnmphbnjaaaGreatDoor
namespace Go.Proofs.YtoiopnmphbnjaaaGreatDoor
open Go.RowKit
set_option linter.unusedSimpArgs false
set_option linter.unusedVariables false
set_option maxRecDepth 20000
/-! ## the reference's Repair -/
def RRep (hd : Bool) (b0 n : Nat) (S : DS) (e : Ending) (w' : World) : Prop := (hd = true ∧ e = .returned (.tuple #[.agg #[.int .i64 0, .slice none 0 0], .int .i64 12])) ∨ (hd = false ∧ RSt2 b0 n S e w')
section
variable {w : World} {AG AF AR Am : Option Addr} {cg cf cr cm : Nat} {r : DyR} {F e : Nat} {M : List Int}
theorem rrepair_ok (h : DyI w AG AF AR r) (ok : DyOk r) (st : StOk r F M) (rj : RdJ w Am r.ng (fun i => M.getD i 0)) (he : e < r.v.toNat) (hb : F.testBit e = true) :
   Calls Tryz.prog 93 #[dyv r AG cg AF cf AR cr, .agg #[.int .i64 (F : Int), .slice Am r.ng cm], .int .i64 (e : Int)] w fun x w' => RRep (heldD r.dy (F, M) e) w.heap.size r.ng (stR r.dy (F, M) e) x w' ∧ Below w.heap.size w w' := by
 obtain ⟨v, hv⟩ : ∃ v : Nat, r.v = v := ⟨r.v.toNat, by have := ok.v1; omega⟩
 have v24 : v ≤ 24 := by have := ok.v2; omega
 have n64 := ok.ng
 have hF : F < 2 ^ v := by have := st.f; rw [hv] at this; simpa using this
 have hev : e < v := by rw [hv] at he; simpa using he
 have hp : 2 ^ v ≤ 16777216 := Nat.pow_le_pow_right (n := 2) (by omega) v24
 have hG : ndiff F (2 ^ e) < 2 ^ v := ndiff_lt hF
 have KS := Lib.hid (fun X (hX : Below w.heap.size w X) => rsettle_any (w := X) (F := ndiff F (2 ^ e)) (cg := cg) (cf := cf) (cr := cr) (co := cm) (h.below hX) ok hv hG (rj.below hX) st.o7)
 have KV := Lib.hid (fun X (hX : Below w.heap.size w X) => rvals_any (w := X) (cg := cg) (cf := cf) (cr := cr) (cm := cm) (h.below hX) ok hv hF (rj.below hX))
 have HB : Hid (∀ a, a < v → vaD r.dy F M r.ng a = F.testBit a) := fun a ha => vaD_ev (d := r.dy) (show a < r.dy.v by show a < r.v.toNat; omega)
 have KO := Lib.hid (fun X (a : Nat) (Av : Option Addr) (cv : Nat) (ha : a < v + r.ng) (hr : RdV X Av r.ng (fun j => vaD r.dy F M r.ng (v + j))) => rof_any (w := X) (AG := AG) (AF := AF) (AR := AR) (cg := cg) (cf := cf) (cr := cr) (cv := cv) (r := r) (a := a) (V := vaD r.dy F M r.ng) hv v24 hF hr HB.out ha (by omega))
 have HHL := Lib.hid (hlAny_held ok F M e)
 have HST : Hid (stR r.dy (F, M) e = setl r.dy (ndiff F (2 ^ e)) M) := rfl
 rw [HST.out, ← HHL.out]
 generalize hS : setl r.dy (ndiff F (2 ^ e)) M = S at *
 generalize vaD r.dy F M r.ng = V at *
 have s1 := yshr F e
 have hq : F / 2 ^ e < 16777216 := Nat.lt_of_le_of_lt (Nat.div_le_self _ _) (by omega)
 have s2 : bits .and .i64 ((F / 2 ^ e : Nat) : Int) 1 = ((F / 2 ^ e % 2 : Nat) : Int) := yand1 (by omega)
 have s3 : F / 2 ^ e % 2 = 1 := by rw [ybit, hb]; rfl
 rw [s3] at s2
 have s4 := yshl (k := e) (by omega)
 have s6 := yshl2 (k := e) (by omega)
 have he24 := yp24 (k := e) (by omega)
 have s5 : bits .andNot .i64 (F : Int) ((2 ^ e : Nat) : Int) = ((ndiff F (2 ^ e) : Nat) : Int) := i64_andNot _ _ (by omega) (by omega)
 generalize ndiff F (2 ^ e) = G at *
 generalize F / 2 ^ e = q1 at *
 generalize 2 ^ e = pe at *
 unfold dyv at KS KV KO ⊢
 rw [hv] at KS KV KO ⊢
 have HH := Lib.hid h
 have HOK := Lib.hid ok
 clear h ok hS HST HHL st rj he s3 hb HB
 obtain ⟨W, hW⟩ : ∃ W, W = (((w.alloc (.cells #[.int .i64 (v : Int), .slice AG r.ng cg, .int .i64 r.top, .slice AF r.nf cf, .slice AR r.nr cr] 25)).alloc (.cells #[.int .i64 (F : Int), .slice Am r.ng cm] 45)).alloc (.cells #[.int .i64 0, .slice none 0 0] 45)) := ⟨_, rfl⟩
 have hbA : Below w.heap.size w W := by rw [hW]; exact (by (skip); repeat' (first | (with_reducible first | exact BlR _ _ | assumption | refine BlA ?_ ?_ _ | refine BlD ?_ | refine BlN ?_ _ | refine BlS ?_ ?_ _ | refine BlT ?_ (BlM (by assumption) ?_)) | omega | (simp only [ZZ]; omega) | go_size))
 have hbAz : W.heap.size = w.heap.size + 3 := by rw [hW]; simp
 have x0 : W.cell? ⟨w.heap.size, 0, none⟩ = some (.int .i64 (v : Int)) := by rw [hW]; simp [go_sem]
 have x1 : W.cell? ⟨w.heap.size, 1, none⟩ = some (.slice AG r.ng cg) := by rw [hW]; simp [go_sem]
 have x2 : W.cell? ⟨w.heap.size, 2, none⟩ = some (.int .i64 r.top) := by rw [hW]; simp [go_sem]
 have x3 : W.cell? ⟨w.heap.size, 3, none⟩ = some (.slice AF r.nf cf) := by rw [hW]; simp [go_sem]
 have x4 : W.cell? ⟨w.heap.size, 4, none⟩ = some (.slice AR r.nr cr) := by rw [hW]; simp [go_sem]
 have y0 : W.cell? ⟨w.heap.size + 1, 0, none⟩ = some (.int .i64 (F : Int)) := by rw [hW]; simp [go_sem]
 have y1 : W.cell? ⟨w.heap.size + 1, 1, none⟩ = some (.slice Am r.ng cm) := by rw [hW]; simp [go_sem]
 have t0 : W.cell? ⟨w.heap.size + 1 + 1, 0, none⟩ = some (.int .i64 0) := by rw [hW]; exact (World.cell?_alloc_at _ _ _ _ (by simp)).trans rfl
 have t1 : W.cell? ⟨w.heap.size + 1 + 1, 1, none⟩ = some (.slice none 0 0) := by rw [hW]; exact (World.cell?_alloc_at _ _ _ _ (by simp)).trans rfl
 have d0 : W.frozen? ⟨w.heap.size + 1 + 1, 0, none⟩ = false := by rw [hW]; simp [go_sem]
 have d1 : W.frozen? ⟨w.heap.size + 1 + 1, 1, none⟩ = false := by rw [hW]; simp [go_sem]
 have HW := Lib.hid hW
 have K := Lib.hid (KV.out W hbA)
 clear hW KV
 go_enter Tryz.func93, Tryz.ntmps93
 go_upto_region 1 with fail
 rw [← HW.out]
 go_wp2_with fail
 refine K.out.mono ?_
 rintro x w1 ⟨⟨A4, c4, rfl, own4⟩, hb1⟩
 have hb1z := hb1.size
 have HR4 := Lib.hid own4.rd
 have HB1 := Lib.hid (hbA.trans (hb1.mono (by omega)))
 have x0 := (below_at hb1 w.heap.size 0 (by omega)).trans x0
 have x1 := (below_at hb1 w.heap.size 1 (by omega)).trans x1
 have x2 := (below_at hb1 w.heap.size 2 (by omega)).trans x2
 have x3 := (below_at hb1 w.heap.size 3 (by omega)).trans x3
 have x4 := (below_at hb1 w.heap.size 4 (by omega)).trans x4
 have y0 := (below_at hb1 (w.heap.size + 1) 0 (by omega)).trans y0
 have y1 := (below_at hb1 (w.heap.size + 1) 1 (by omega)).trans y1
 have t0 := (below_at hb1 (w.heap.size + 1 + 1) 0 (by omega)).trans t0
 have t1 := (below_at hb1 (w.heap.size + 1 + 1) 1 (by omega)).trans t1
 have d0 := (below_fr hb1 (w.heap.size + 1 + 1) 0 (by omega)).trans d0
 have d1 := (below_fr hb1 (w.heap.size + 1 + 1) 1 (by omega)).trans d1
 have hz1 : w.heap.size + 2 < w1.heap.size := by omega
 clear own4 hb1 K hbA HW
 go_wp2_with fail
 go_loopw [35] (fun i wr => ∃ k : Nat, k ≤ r.ng ∧ i = .int .i64 (k : Int) ∧ hlAny r V (e : Int) k = false ∧ Below w1.heap.size w1 wr) (fun i _ => r.ng - (intOf i).toNat)
 case atStart => exact ⟨0, Nat.zero_le _, rfl, rfl, Below.refl _ _⟩
 case round =>
   obtain ⟨k, hk, rfl, hha, hb⟩ := hrel
   obtain ⟨wo, rfl⟩ : ∃ wo : World, wo = wr := ⟨_, rfl⟩
   have hbz := hb.size
   have hbw : Below w.heap.size w wo := HB1.out.trans (hb.mono (by omega))
   have HHA := Lib.hid hha
   clear hha
   by_cases hkn : k < r.ng
   · obtain ⟨b, off, A1, c1', s, A2, n2, c2', A3, n3, c3', rfl, hbb, z0, z1, z2, z3, z4, z5, ra, rs, hlc⟩ := HH.out.at_ hkn
     have hgo := HOK.out.gate hkn
     have hln := dgAg_len hgo.ln
     have hix := hgo.ix
     have HLN2 : Hid (r.kd k = 8 → 2 ≤ (r.ar k).length) := fun h8 => dgAg_two (.inr (.inr h8)) hgo.ln
     have HSU := Lib.hid (hlAny_succ r V (e : Int) k)
     have HYES := Lib.hid (fun (h : hlP V (r.kd k) (r.ar k) (e : Int) = true) => hlAny_yes hkn h)
     have y0' := (below_at hbw b _ hbb).trans z0
     have y1' := (below_at hbw b _ hbb).trans z1
     have y2' := (below_at hbw b _ hbb).trans z2
     have y3' := (below_at hbw b _ hbb).trans z3
     have y4' := (below_at hbw b _ hbb).trans z4
     have y5' := (below_at hbw b _ hbb).trans z5
     have v1 := (below_at hb w.heap.size 1 (by omega)).trans x1
     have HRA := Lib.hid ra
     obtain ⟨W2, hW2⟩ : ∃ W2, W2 = wo.alloc (.cells #[.int .i64 (r.kd k), .int .i64 (r.kk k), .slice A1 (r.ar k).length c1', .bool s, .slice A2 n2 c2', .slice A3 n3 c3'] 88) := ⟨_, rfl⟩
     have hbo : Below wo.heap.size wo W2 := by rw [hW2]; exact (Below.refl _ _).alloc (Nat.le_refl _) _
     have hW2z : W2.heap.size = wo.heap.size + 1 := by rw [hW2]; simp
     have q0 : W2.cell? ⟨wo.heap.size, 0, none⟩ = some (.int .i64 (r.kd k)) := by rw [hW2]; simp [go_sem]
     have q2 : W2.cell? ⟨wo.heap.size, 2, none⟩ = some (.slice A1 (r.ar k).length c1') := by rw [hW2]; simp [go_sem]
     have hb12 : Below w1.heap.size w1 W2 := hb.trans (hbo.mono (by omega))
     have HB12 := Lib.hid hb12
     have HBW2 := Lib.hid (hbw.trans (hbo.mono (by omega)))
     have HW2 := Lib.hid hW2
     clear hW2 z0 z1 z2 z3 z4 z5 ra rs hgo
     generalize r.kd k = kd at *
     generalize r.ar k = l at *
     go_upto_region 9 with fail
     rw [← HW2.out]
     clear y0' y1' y2' y3' y4' y5' v1
     by_cases h8 : kd = 8
     · subst h8
       have hl2 := HLN2.out rfl
       obtain ⟨b1, off1, rfl, hb1', z0⟩ := zsD_at HRA.out HBW2.out (k := 0) (by omega)
       have ha := hix _ (List.getElem_mem (show 0 < l.length by omega))
       obtain ⟨a, hae⟩ : ∃ a : Nat, l[0]'(by omega) = a := ⟨(l[0]'(by omega)).toNat, by omega⟩
       rw [hae, Nat.add_zero] at z0
       rw [hae] at ha
       have han : a < v + r.ng := by omega
       have HHP : Hid (hlP V 8 l (e : Int) = (V a && l.tail.contains (e : Int))) := by
         show _ = _
         cases l with
         | nil => simp at hl2
         | cons d l => simp at hae; subst hae; rfl
       have KO1 := Lib.hid (fun X (hX : Below W2.heap.size W2 X) => KO.out X a A4 c4 han ((HR4.out.below HB12.out).below hX))
       have f0 := fun y : Sub W2 => y.cell q0
       have f2 := fun y : Sub W2 => y.cell q2
       have f3 := fun y : Sub W2 => y.cell z0
       have g0 := fun y : Sub W2 => y.cell ((below_at hb12 w.heap.size 0 (by omega)).trans x0)
       have g1 := fun y : Sub W2 => y.cell ((below_at hb12 w.heap.size 1 (by omega)).trans x1)
       have g2 := fun y : Sub W2 => y.cell ((below_at hb12 w.heap.size 2 (by omega)).trans x2)
       have g3 := fun y : Sub W2 => y.cell ((below_at hb12 w.heap.size 3 (by omega)).trans x3)
       have g4 := fun y : Sub W2 => y.cell ((below_at hb12 w.heap.size 4 (by omega)).trans x4)
       have g5 := fun y : Sub W2 => y.cell ((below_at hb12 (w.heap.size + 1) 0 (by omega)).trans y0)
       have i0 : (0 : Int) < (l.length : Int) := by omega
       have e8 : ((8 : Int) != 8) = false := rfl
       cases hva : V a
       · rw [hva] at KO1 HHP
         have HF : Hid (hlAny r V (e : Int) (k + 1) = false) := by show _ = _; rw [HSU.out, HHA.out, HHP.out]; rfl
         clear HSU HYES HHP hva
         ((refine wp_region_quiet_bel (by kernel_rfl) (by kernel_rfl) ?_); (repeat (go_big_quiet_step ((go_at_call 100; with_reducible exact Calls.quiet_bel (KO1.out _ (Sub.bel _)))))); (refine wpQuiet_nil ?_); rintro w5 ⟨⟨_, hb5⟩, rfl⟩; (try dsimp only))
         go_wp2_with fail
         go_roundw
         case rel => exact ⟨k + 1, by omega, by go_num, HF.out, HB12.out.trans (hb5.mono (by omega))⟩
         case measure => simp [intOf]; omega
       · rw [hva] at KO1 HHP
         clear hva
         ((refine wp_region_quiet_bel (by kernel_rfl) (by kernel_rfl) ?_); (repeat (go_big_quiet_step ((go_at_call 100; with_reducible exact Calls.quiet_bel (KO1.out _ (Sub.bel _)))))); (refine wpQuiet_nil ?_); rintro w5 ⟨⟨_, hb5⟩, rfl⟩; (try dsimp only))
         have hb5z := hb5.size
         have p2 := (below_at hb5 wo.heap.size 2 (by omega)).trans q2
         have HB5 := Lib.hid (HB12.out.trans (hb5.mono (by omega)))
         have hg1 : (1 : Int) ≤ (l.length : Int) := by omega
         have hcc : (l.length : Int) ≤ (c1' : Int) := by omega
         have hcc1 : ¬ c1' = 1 := by omega
         have hcc2 : (1 : Int) ≤ (c1' : Int) := by omega
         clear f0 f2 f3 g0 g1 g2 g3 g4 g5 KO1 hb12 hb hbw
         go_wp2_with fail
         go_loopw [58] (fun j wx => ∃ q : Nat, q + 1 ≤ l.length ∧ j = .int .i64 (q : Int) ∧ (∀ t, t < q → l.tail[t]? ≠ some (e : Int)) ∧ w5 = wx) (fun j _ => l.length - 1 - (intOf j).toNat)
         case atStart => exact ⟨0, by omega, rfl, fun t ht => absurd ht (Nat.not_lt_zero _), rfl⟩
         case round =>
           obtain ⟨q, hq, rfl, hnq, rfl⟩ := hrel
           have HNQ := Lib.hid hnq
           clear hnq
           by_cases hql : q + 1 < l.length
           · obtain ⟨b9, off9, e1', hb9, u0⟩ := zsD_at HRA.out (HB1.out.trans (HB5.out.mono (by omega))) hql
             injection e1' with e1'
             injection e1' with e1' e2' _
             subst e1' e2'
             have u1 : w5.cell? ⟨b1, off1 + 1 + q, none⟩ = some (.int .i64 l[q + 1]) := by rw [show off1 + 1 + q = off1 + (q + 1) by omega]; exact u0
             have HTQ : Hid (l.tail[q]? = some l[q + 1]) := by show _ = _; rw [List.getElem?_tail, List.getElem?_eq_getElem hql]
             have j5 : (q : Int) < ((l.length - 1 : Nat) : Int) := by omega
             have j7 : (0 : Int) ≤ (q : Int) := by omega
             generalize l[q + 1] = y at *
             by_cases hye : y = (e : Int)
             · subst hye
               have HT : Hid (hlAny r V (e : Int) r.ng = true) := HYES.out (by
                 rw [HHP.out, Bool.true_and, List.contains_iff_mem]
                 exact List.mem_of_getElem? HTQ.out)
               have u4 := (below_at HB5.out (w.heap.size + 1 + 1) 0 (by omega)).trans t0
               have u5 := (below_at HB5.out (w.heap.size + 1 + 1) 1 (by omega)).trans t1
               have u6 := (below_fr HB5.out (w.heap.size + 1 + 1) 0 (by omega)).trans d0
               have u7 := (below_fr HB5.out (w.heap.size + 1 + 1) 1 (by omega)).trans d1
               have hbE : Below w.heap.size w ((w5.setCell ⟨w.heap.size + 1 + 1, 0, none⟩ (.int .i64 0)).setCell ⟨w.heap.size + 1 + 1, 1, none⟩ (.slice none 0 0)) := by
                 have h1 := HB1.out.trans (HB5.out.mono (by omega))
                 exact (by have z0 := Below.size h1; (try simp only [ZZ] at z0 ⊢; skip); repeat' (first | (with_reducible first | exact BlR _ _ | assumption | refine BlA ?_ ?_ _ | refine BlD ?_ | refine BlN ?_ _ | refine BlS ?_ ?_ _ | refine BlT ?_ (BlM (by assumption) ?_)) | omega | (simp only [ZZ]; omega) | go_size))
               go_wp2_with fail
               (try simp only [Exit.inBlock, Exit.then])
               refine bodyPost_ret (v := .tuple #[.agg #[.int .i64 0, .slice none 0 0], .int .i64 12]) ?_ rfl ⟨.inl ⟨HT.out, rfl⟩, hbE⟩
               rw [results_cell_tmp rfl]
               go_simp
             · have hye2 := ieq_f hye
               have HNX : Hid (∀ t, t < q + 1 → l.tail[t]? ≠ some (e : Int)) := fun t ht => by
                 by_cases e1 : t = q
                 · rw [e1, HTQ.out]
                   intro h
                   injection h with h
                   exact hye h
                 · exact HNQ.out t (by omega)
               go_wp2_with fail
               go_roundw
               case rel => exact ⟨q + 1, by omega, by go_num, HNX.out, (by first | trivial | rfl)⟩
               case measure => simp [intOf]; omega
           · have HF : Hid (hlAny r V (e : Int) (k + 1) = false) := by
               show _ = _
               rw [HSU.out, HHA.out, HHP.out]
               have : l.tail.contains (e : Int) = false := by
                 cases hc : l.tail.contains (e : Int)
                 · rfl
                 · rw [List.contains_iff_mem] at hc
                   obtain ⟨t, ht, hte⟩ := List.getElem_of_mem hc
                   have htl : t < l.length - 1 := by simpa using ht
                   exact absurd (by rw [List.getElem?_eq_getElem ht, hte]) (HNQ.out t (by omega))
               rw [this]; rfl
             have j5 : ¬ (q : Int) < ((l.length - 1 : Nat) : Int) := by omega
             go_wp2_with fail
             go_roundw
             case rel => exact ⟨k + 1, by omega, by go_num, HF.out, HB5.out⟩
             case measure => simp [intOf]; omega
     · have e8 : (kd != 8) = true := by simpa using h8
       have HF : Hid (hlAny r V (e : Int) (k + 1) = false) := by
         show _ = _
         rw [HSU.out, HHA.out]
         unfold hlP
         rw [show (kd == 8) = false by simpa using h8]; rfl
       clear HSU HYES h8
       have f0 := fun y : Sub W2 => y.cell q0
       ((refine wp_region_quiet_bel (by kernel_rfl) (by kernel_rfl) ?_); (repeat (go_big_quiet_step (fail))); (refine wpQuiet_nil ?_); rintro w5 ⟨⟨_, hb5⟩, rfl⟩; (try dsimp only))
       go_wp2_with fail
       go_roundw
       case rel => exact ⟨k + 1, by omega, by go_num, HF.out, HB12.out.trans (hb5.mono (by omega))⟩
       case measure => simp [intOf]; omega
   · obtain rfl : k = r.ng := by omega
     have v0 := (below_at hb w.heap.size 0 (by omega)).trans x0
     have v1 := (below_at hb w.heap.size 1 (by omega)).trans x1
     have v2 := (below_at hb w.heap.size 2 (by omega)).trans x2
     have v3 := (below_at hb w.heap.size 3 (by omega)).trans x3
     have v4 := (below_at hb w.heap.size 4 (by omega)).trans x4
     have u0 := (below_at hb (w.heap.size + 1) 0 (by omega)).trans y0
     have u1 := (below_at hb (w.heap.size + 1) 1 (by omega)).trans y1
     have u4 := (below_at hb (w.heap.size + 1 + 1) 0 (by omega)).trans t0
     have u5 := (below_at hb (w.heap.size + 1 + 1) 1 (by omega)).trans t1
     have u6 := (below_fr hb (w.heap.size + 1 + 1) 0 (by omega)).trans d0
     have u7 := (below_fr hb (w.heap.size + 1 + 1) 1 (by omega)).trans d1
     have hbd : Below w.heap.size w wo.drew := hbw.trans ((Below.refl _ _).drew)
     have K := Lib.hid (KS.out wo.drew hbd)
     clear x0 x1 x2 x3 x4 y0 y1 t0 t1 d0 d1 hb KO KS
     go_wp2_with fail
     go_region_with ((go_at_call 90; (with_reducible refine (K.out).mono ?_); rintro e w5 ⟨⟨A5, c5, rfl, oj5⟩, hb5⟩; have hb5z := Below.size hb5; (try simp only [ZZ] at hb5z); obtain ⟨hb5c0, hb5f0⟩ := bbo hb5 (w.heap.size + 1 + 1) (by first | omega | (simp only [ZZ]; omega)); have hb5l0 : w.heap.size + 1 + 1 < (w5).heap.size := (by omega)))
     all_goals
       have h0 := (hb5c0 0).trans u4
       have h1 := (hb5c0 1).trans u5
       have hfin : RSt2 w.heap.size r.ng S (.returned (.tuple #[.agg #[.int .i64 (S.1 : Int), .slice A5 r.ng c5], .int .i64 0])) ((w5.setCell ⟨w.heap.size + 1 + 1, 0, none⟩ (.int .i64 (S.1 : Int))).setCell ⟨w.heap.size + 1 + 1, 1, none⟩ (.slice A5 r.ng c5)) :=
         ⟨A5, c5, rfl, OwJ.base_ (base := wo.heap.size) (ofar _ (ofar _ oj5 (by show _ < wo.heap.size; omega)) (by omega)) (by omega)⟩
       have hbF : Below w.heap.size w ((w5.setCell ⟨w.heap.size + 1 + 1, 0, none⟩ (.int .i64 (S.1 : Int))).setCell ⟨w.heap.size + 1 + 1, 1, none⟩ (.slice A5 r.ng c5)) := (by have z0 := Below.size hbd; have z1 := Below.size hb5; (try simp only [ZZ] at z0 z1 ⊢; skip); repeat' (first | (with_reducible first | exact BlR _ _ | assumption | refine BlA ?_ ?_ _ | refine BlD ?_ | refine BlN ?_ _ | refine BlS ?_ ?_ _ | refine BlT ?_ (BlM (by assumption) ?_)) | omega | (simp only [ZZ]; omega) | go_size))
       have HFIN := Lib.hid hfin
       clear hfin
       go_wp2_with fail
       (try simp only [Exit.inBlock, Exit.then])
       refine bodyPost_ret (v := .tuple #[.agg #[.int .i64 (S.1 : Int), .slice A5 r.ng c5], .int .i64 0]) ?_ rfl ⟨.inr ⟨HHA.out, HFIN.out⟩, hbF⟩
       rw [results_cell_tmp rfl]
       go_simp
end
end Go.Proofs.YtoiopnmphbnjaaaGreatDoor
