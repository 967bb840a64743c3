/- Contracts and lemmas for the given statements. Conditions: those alone that each names. -/
import Derived.Test.YtoiopnmphbnjaaaGreatDoorJDynW16
set_option maxHeartbeats 8000000
namespace Go.Proofs.YtoiopnmphbnjaaaGreatDoor
open Go.RowKit
set_option linter.unusedSimpArgs false
set_option linter.unusedVariables false
set_option maxRecDepth 20000
/-! ## package dynamic: Rate of a failed event -/
theorem results_cell2 {fn : Func} {p q u : Tmp} {ty tz : TypeId} (h : fn.results = #[.cell p ty, .cell q tz, .tmp u]) (tmps : Array Value) (P : Program) (w : World) :
   (results fn tmps).run P w = ((asAddr (tmps.getD p undef)).run P w).andThen fun a w₁ => ((loadVar ty a).run P w₁).andThen fun v w₂ => ((asAddr (tmps.getD q undef)).run P w₂).andThen fun b w₃ => ((loadVar tz b).run P w₃).andThen fun v' w₄ => .ok (.tuple #[v, v', tmps.getD u undef]) w₄ := by
 simp only [results, h]
 simp [Sem.run_bind, Result.andThen]
theorem OwQ.far {w : World} {base b i : Nat} {v : Value} {q : Rat} {u : Value} (h : OwQ w base v q) (hb : b < base) : OwQ (w.setCell ⟨b, i, none⟩ u) base v q := by
 obtain ⟨A, c, B, d, h1, h2, h3⟩ := h
 exact ⟨A, c, B, d, h1, ofar _ h2 hb, ofar _ h3 hb⟩
theorem OwQ.drew_ {w : World} {base : Nat} {v : Value} {q : Rat} (h : OwQ w base v q) : OwQ w.drew base v q := h
/-- two numbers -/
def RatRet (b0 : Nat) (f g : Rat) (e : Ending) (w' : World) : Prop := ∃ v u, e = .returned (.tuple #[v, u, .nilIface]) ∧ OwQ w' b0 v f ∧ OwQ w' b0 u g
section
variable {w : World} {AG AF AR Am : Option Addr} {cg cf cr cm : Nat} {r : DyR} {F e : Nat} {M : List Int}
theorem drate_held (h : DyI w AG AF AR r) (hs : DyS r) (hc : codeD r = 0) (st : StOk r F M) (rj : RdJ w Am r.ng (fun i => M.getD i 0)) (he : e < r.v.toNat) (hb : F.testBit e = true) (hh : heldD r.dy (F, M) e = true) :
   Calls Tryz.prog 21 #[dyv r AG cg AF cf AR cr, .agg #[.int .i64 (F : Int), .slice Am r.ng cm], .int .i64 (e : Int)] w fun x w' => RatRet w.heap.size 0 0 x w' ∧ Below w.heap.size w w' := by
 have ok := codeD_ok hc
 obtain ⟨v, hv⟩ : ∃ v : Nat, r.v = v := ⟨r.v.toNat, by have := ok.v1; omega⟩
 have v24 : v ≤ 24 := by have := ok.v2; omega
 have hF : F < 2 ^ v := by have := st.f; rw [hv] at this; simpa using this
 have hev : e < v := by rw [hv] at he; simpa using he
 have hp : 2 ^ v ≤ 16777216 := Nat.pow_le_pow_right (n := 2) (by omega) v24
 have KC := Lib.hid (fun X (hX : Below w.heap.size w X) => dchk_ok (cg := cg) (cf := cf) (cr := cr) (cm := cm) (h.below hX) hs hc st (rj.below hX))
 have s1 := yshr F e
 have hq : F / 2 ^ e < 16777216 := Nat.lt_of_le_of_lt (Nat.div_le_self _ _) (by omega)
 have s2 : bits .and .i64 ((F / 2 ^ e : Nat) : Int) 1 = ((F / 2 ^ e % 2 : Nat) : Int) := yand1 (by omega)
 have s3 : F / 2 ^ e % 2 = 1 := by rw [ybit, hb]; rfl
 rw [s3] at s2
 have KH := Lib.hid (fun X (hX : Below w.heap.size w X) => (by
   have := dheld_ok (w := X) (e := e) (cg := cg) (cf := cf) (cr := cr) (cm := cm) (h.below hX) ok st (rj.below hX)
   rw [hh] at this
   exact this : Calls Tryz.prog 64 #[dyv r AG cg AF cf AR cr, .agg #[.int .i64 (F : Int), .slice Am r.ng cm], .int .i64 (e : Int)] X fun z w' => z = .returned (.bool true) ∧ Below X.heap.size X w'))
 generalize F / 2 ^ e = q1 at *
 unfold dyv at KC KH ⊢
 rw [hv] at KC KH ⊢
 clear hs h ok hc st rj he s3 hb hh
 go_enter Tryz.func21, Tryz.ntmps21
 go_wp2_with fail
 refine (KC.out _ (by (skip); repeat' (first | (with_reducible first | exact BlR _ _ | assumption | refine BlA ?_ ?_ _ | refine BlD ?_ | refine BlN ?_ _ | refine BlS ?_ ?_ _ | refine BlT ?_ (BlM (by assumption) ?_)) | omega | (simp only [ZZ]; omega) | go_size))).mono ?_
 rintro x w1 ⟨rfl, hb1⟩
 have hb1z := hb1.size
 simp only [World.size_alloc] at hb1z
 have x0 : w1.cell? ⟨w.heap.size, 0, none⟩ = some (.int .i64 (v : Int)) := (below_at hb1 (w.heap.size) 0 (by first | (simp; done) | (simp; omega))).trans (by simp [go_sem])
 have x1 : w1.cell? ⟨w.heap.size, 1, none⟩ = some (.slice AG r.ng cg) := (below_at hb1 (w.heap.size) 1 (by first | (simp; done) | (simp; omega))).trans (by simp [go_sem])
 have x2 : w1.cell? ⟨w.heap.size, 2, none⟩ = some (.int .i64 r.top) := (below_at hb1 (w.heap.size) 2 (by first | (simp; done) | (simp; omega))).trans (by simp [go_sem])
 have x3 : w1.cell? ⟨w.heap.size, 3, none⟩ = some (.slice AF r.nf cf) := (below_at hb1 (w.heap.size) 3 (by first | (simp; done) | (simp; omega))).trans (by simp [go_sem])
 have x4 : w1.cell? ⟨w.heap.size, 4, none⟩ = some (.slice AR r.nr cr) := (below_at hb1 (w.heap.size) 4 (by first | (simp; done) | (simp; omega))).trans (by simp [go_sem])
 have y0 : w1.cell? ⟨w.heap.size + 1, 0, none⟩ = some (.int .i64 (F : Int)) := (below_at hb1 (w.heap.size + 1) 0 (by first | (simp; done) | (simp; omega))).trans (by simp [go_sem])
 have y1 : w1.cell? ⟨w.heap.size + 1, 1, none⟩ = some (.slice Am r.ng cm) := (below_at hb1 (w.heap.size + 1) 1 (by first | (simp; done) | (simp; omega))).trans (by simp [go_sem])
 have t0 : w1.cell? ⟨w.heap.size + 1 + 1, 0, none⟩ = some (.bool false) := (below_at hb1 (w.heap.size + 1 + 1) 0 (by first | (simp; done) | (simp; omega))).trans (by simp [go_sem])
 have t1 : w1.cell? ⟨w.heap.size + 1 + 1, 1, none⟩ = some (.slice none 0 0) := (below_at hb1 (w.heap.size + 1 + 1) 1 (by first | (simp; done) | (simp; omega))).trans (by simp [go_sem])
 have t2 : w1.cell? ⟨w.heap.size + 1 + 1, 2, none⟩ = some (.slice none 0 0) := (below_at hb1 (w.heap.size + 1 + 1) 2 (by first | (simp; done) | (simp; omega))).trans (by simp [go_sem])
 have u0 : w1.cell? ⟨w.heap.size + 1 + 1 + 1, 0, none⟩ = some (.bool false) := (below_at hb1 (w.heap.size + 1 + 1 + 1) 0 (by first | (simp; done) | (simp; omega))).trans (by simp [go_sem])
 have u1 : w1.cell? ⟨w.heap.size + 1 + 1 + 1, 1, none⟩ = some (.slice none 0 0) := (below_at hb1 (w.heap.size + 1 + 1 + 1) 1 (by first | (simp; done) | (simp; omega))).trans (by simp [go_sem])
 have u2 : w1.cell? ⟨w.heap.size + 1 + 1 + 1, 2, none⟩ = some (.slice none 0 0) := (below_at hb1 (w.heap.size + 1 + 1 + 1) 2 (by first | (simp; done) | (simp; omega))).trans (by simp [go_sem])
 have d0 : w1.frozen? ⟨w.heap.size + 1 + 1, 0, none⟩ = false := (below_fr hb1 (w.heap.size + 1 + 1) 0 (by first | (simp; done) | (simp; omega))).trans (by simp [go_sem])
 have d1 : w1.frozen? ⟨w.heap.size + 1 + 1, 1, none⟩ = false := (below_fr hb1 (w.heap.size + 1 + 1) 1 (by first | (simp; done) | (simp; omega))).trans (by simp [go_sem])
 have d2 : w1.frozen? ⟨w.heap.size + 1 + 1, 2, none⟩ = false := (below_fr hb1 (w.heap.size + 1 + 1) 2 (by first | (simp; done) | (simp; omega))).trans (by simp [go_sem])
 have g0 : w1.frozen? ⟨w.heap.size + 1 + 1 + 1, 0, none⟩ = false := (below_fr hb1 (w.heap.size + 1 + 1 + 1) 0 (by first | (simp; done) | (simp; omega))).trans (by simp [go_sem])
 have g1 : w1.frozen? ⟨w.heap.size + 1 + 1 + 1, 1, none⟩ = false := (below_fr hb1 (w.heap.size + 1 + 1 + 1) 1 (by first | (simp; done) | (simp; omega))).trans (by simp [go_sem])
 have g2 : w1.frozen? ⟨w.heap.size + 1 + 1 + 1, 2, none⟩ = false := (below_fr hb1 (w.heap.size + 1 + 1 + 1) 2 (by first | (simp; done) | (simp; omega))).trans (by simp [go_sem])
 have hbA : Below w.heap.size w w1 := (by have z0 := Below.size hb1; (try simp only [ZZ] at z0 ⊢; skip); repeat' (first | (with_reducible first | exact BlR _ _ | assumption | refine BlA ?_ ?_ _ | refine BlD ?_ | refine BlN ?_ _ | refine BlS ?_ ?_ _ | refine BlT ?_ (BlM (by assumption) ?_)) | omega | (simp only [ZZ]; omega) | go_size))
 clear hb1
 go_wp2_with fail
 refine (KH.out _ hbA).mono ?_
 rintro x w2 ⟨rfl, hb2⟩
 have hb2z := hb2.size
 have t0' := (below_at hb2 (w.heap.size + 1 + 1) 0 (by omega)).trans t0
 have t1' := (below_at hb2 (w.heap.size + 1 + 1) 1 (by omega)).trans t1
 have t2' := (below_at hb2 (w.heap.size + 1 + 1) 2 (by omega)).trans t2
 have u0' := (below_at hb2 (w.heap.size + 1 + 1 + 1) 0 (by omega)).trans u0
 have u1' := (below_at hb2 (w.heap.size + 1 + 1 + 1) 1 (by omega)).trans u1
 have u2' := (below_at hb2 (w.heap.size + 1 + 1 + 1) 2 (by omega)).trans u2
 have d0' := (below_fr hb2 (w.heap.size + 1 + 1) 0 (by omega)).trans d0
 have d1' := (below_fr hb2 (w.heap.size + 1 + 1) 1 (by omega)).trans d1
 have d2' := (below_fr hb2 (w.heap.size + 1 + 1) 2 (by omega)).trans d2
 have g0' := (below_fr hb2 (w.heap.size + 1 + 1 + 1) 0 (by omega)).trans g0
 have g1' := (below_fr hb2 (w.heap.size + 1 + 1 + 1) 1 (by omega)).trans g1
 have g2' := (below_fr hb2 (w.heap.size + 1 + 1 + 1) 2 (by omega)).trans g2
 have hbB : Below w.heap.size w w2 := hbA.trans (hb2.mono (by omega))
 clear x0 x1 x2 x3 x4 y0 y1 t0 t1 t2 u0 u1 u2 d0 d1 d2 g0 g1 g2 KC KH hbA
 have hz2 : w.heap.size + 1 + 1 + 1 < w2.heap.size := by omega
 go_wp2_with fail
 go_region
 all_goals
   go_wp2_with fail
   (try simp only [Exit.inBlock, Exit.then])
   refine bodyPost_ret (v := .tuple #[rv false none 0 0 none 0 0, rv false none 0 0 none 0 0, .nilIface]) ?_ rfl ⟨⟨_, _, rfl, OwQ.zero _ _, OwQ.zero _ _⟩, ?_⟩
   · rw [results_cell2 rfl]
     go_simp
   · exact (by have z0 := Below.size hbB; (try simp only [ZZ] at z0 ⊢; skip); repeat' (first | (with_reducible first | exact BlR _ _ | assumption | refine BlA ?_ ?_ _ | refine BlD ?_ | refine BlN ?_ _ | refine BlS ?_ ?_ _ | refine BlT ?_ (BlM (by assumption) ?_)) | omega | (simp only [ZZ]; omega) | go_size))
theorem drate_free (h : DyI w AG AF AR r) (hs : DyS r) (hc : codeD r = 0) (st : StOk r F M) (rj : RdJ w Am r.ng (fun i => M.getD i 0)) (he : e < r.v.toNat) (hb : F.testBit e = true) (hh : heldD r.dy (F, M) e = false) :
   Calls Tryz.prog 21 #[dyv r AG cg AF cf AR cr, .agg #[.int .i64 (F : Int), .slice Am r.ng cm], .int .i64 (e : Int)] w fun x w' => RatRet w.heap.size 0 (valR (r.rp e)) x w' ∧ Below w.heap.size w w' := by
 have ok := codeD_ok hc
 obtain ⟨v, hv⟩ : ∃ v : Nat, r.v = v := ⟨r.v.toNat, by have := ok.v1; omega⟩
 have v24 : v ≤ 24 := by have := ok.v2; omega
 have hF : F < 2 ^ v := by have := st.f; rw [hv] at this; simpa using this
 have hev : e < v := by rw [hv] at he; simpa using he
 have hp : 2 ^ v ≤ 16777216 := Nat.pow_le_pow_right (n := 2) (by omega) v24
 have KC := Lib.hid (fun X (hX : Below w.heap.size w X) => dchk_ok (cg := cg) (cf := cf) (cr := cr) (cm := cm) (h.below hX) hs hc st (rj.below hX))
 have s1 := yshr F e
 have hq : F / 2 ^ e < 16777216 := Nat.lt_of_le_of_lt (Nat.div_le_self _ _) (by omega)
 have s2 : bits .and .i64 ((F / 2 ^ e : Nat) : Int) 1 = ((F / 2 ^ e % 2 : Nat) : Int) := yand1 (by omega)
 have s3 : F / 2 ^ e % 2 = 1 := by rw [ybit, hb]; rfl
 rw [s3] at s2
 have KH := Lib.hid (fun X (hX : Below w.heap.size w X) => (by
   have := dheld_ok (w := X) (e := e) (cg := cg) (cf := cf) (cr := cr) (cm := cm) (h.below hX) ok st (rj.below hX)
   rw [hh] at this
   exact this : Calls Tryz.prog 64 #[dyv r AG cg AF cf AR cr, .agg #[.int .i64 (F : Int), .slice Am r.ng cm], .int .i64 (e : Int)] X fun z w' => z = .returned (.bool false) ∧ Below X.heap.size X w'))
 generalize F / 2 ^ e = q1 at *
 unfold dyv at KC KH ⊢
 rw [hv] at KC KH ⊢
 have hrt := ok.rp e (by have := ok.nr; omega)
 have hvr : validR (r.rp e) = true := by
   unfold rtOk at hrt
   simp only [Bool.and_eq_true] at hrt
   exact hrt.1
 have hsr := hs.rp e (by have := ok.nr; omega)
 obtain ⟨bR, oR, sR, A3, n3, c3, B3, m3, d3, rfl, hbR, p0, p1, p2, rR⟩ := h.ra.at_ (k := e) (by have := ok.nr; omega)
 have KL := Lib.hid (fun X (hX : Below w.heap.size w X) => dcloneS (w := X) (rR.kp (Kp.of_below hX)) hvr hsr.1 hsr.2)
 have hen : (e : Int) < (r.nr : Int) := by have := ok.nr; omega
 generalize valR (r.rp e) = qr at *
 clear hs h ok hc st rj he s3 hb hh rR hrt hvr hsr
 go_enter Tryz.func21, Tryz.ntmps21
 go_wp2_with fail
 refine (KC.out _ (by (skip); repeat' (first | (with_reducible first | exact BlR _ _ | assumption | refine BlA ?_ ?_ _ | refine BlD ?_ | refine BlN ?_ _ | refine BlS ?_ ?_ _ | refine BlT ?_ (BlM (by assumption) ?_)) | omega | (simp only [ZZ]; omega) | go_size))).mono ?_
 rintro x w1 ⟨rfl, hb1⟩
 have hb1z := hb1.size
 simp only [World.size_alloc] at hb1z
 have x0 : w1.cell? ⟨w.heap.size, 0, none⟩ = some (.int .i64 (v : Int)) := (below_at hb1 (w.heap.size) 0 (by first | (simp; done) | (simp; omega))).trans (by simp [go_sem])
 have x1 : w1.cell? ⟨w.heap.size, 1, none⟩ = some (.slice AG r.ng cg) := (below_at hb1 (w.heap.size) 1 (by first | (simp; done) | (simp; omega))).trans (by simp [go_sem])
 have x2 : w1.cell? ⟨w.heap.size, 2, none⟩ = some (.int .i64 r.top) := (below_at hb1 (w.heap.size) 2 (by first | (simp; done) | (simp; omega))).trans (by simp [go_sem])
 have x3 : w1.cell? ⟨w.heap.size, 3, none⟩ = some (.slice AF r.nf cf) := (below_at hb1 (w.heap.size) 3 (by first | (simp; done) | (simp; omega))).trans (by simp [go_sem])
 have x4 : w1.cell? ⟨w.heap.size, 4, none⟩ = some (.slice (some ⟨bR, oR, none⟩) r.nr cr) := (below_at hb1 (w.heap.size) 4 (by first | (simp; done) | (simp; omega))).trans (by simp [go_sem])
 have y0 : w1.cell? ⟨w.heap.size + 1, 0, none⟩ = some (.int .i64 (F : Int)) := (below_at hb1 (w.heap.size + 1) 0 (by first | (simp; done) | (simp; omega))).trans (by simp [go_sem])
 have y1 : w1.cell? ⟨w.heap.size + 1, 1, none⟩ = some (.slice Am r.ng cm) := (below_at hb1 (w.heap.size + 1) 1 (by first | (simp; done) | (simp; omega))).trans (by simp [go_sem])
 have t0 : w1.cell? ⟨w.heap.size + 1 + 1, 0, none⟩ = some (.bool false) := (below_at hb1 (w.heap.size + 1 + 1) 0 (by first | (simp; done) | (simp; omega))).trans (by simp [go_sem])
 have t1 : w1.cell? ⟨w.heap.size + 1 + 1, 1, none⟩ = some (.slice none 0 0) := (below_at hb1 (w.heap.size + 1 + 1) 1 (by first | (simp; done) | (simp; omega))).trans (by simp [go_sem])
 have t2 : w1.cell? ⟨w.heap.size + 1 + 1, 2, none⟩ = some (.slice none 0 0) := (below_at hb1 (w.heap.size + 1 + 1) 2 (by first | (simp; done) | (simp; omega))).trans (by simp [go_sem])
 have u0 : w1.cell? ⟨w.heap.size + 1 + 1 + 1, 0, none⟩ = some (.bool false) := (below_at hb1 (w.heap.size + 1 + 1 + 1) 0 (by first | (simp; done) | (simp; omega))).trans (by simp [go_sem])
 have u1 : w1.cell? ⟨w.heap.size + 1 + 1 + 1, 1, none⟩ = some (.slice none 0 0) := (below_at hb1 (w.heap.size + 1 + 1 + 1) 1 (by first | (simp; done) | (simp; omega))).trans (by simp [go_sem])
 have u2 : w1.cell? ⟨w.heap.size + 1 + 1 + 1, 2, none⟩ = some (.slice none 0 0) := (below_at hb1 (w.heap.size + 1 + 1 + 1) 2 (by first | (simp; done) | (simp; omega))).trans (by simp [go_sem])
 have d0 : w1.frozen? ⟨w.heap.size + 1 + 1, 0, none⟩ = false := (below_fr hb1 (w.heap.size + 1 + 1) 0 (by first | (simp; done) | (simp; omega))).trans (by simp [go_sem])
 have d1 : w1.frozen? ⟨w.heap.size + 1 + 1, 1, none⟩ = false := (below_fr hb1 (w.heap.size + 1 + 1) 1 (by first | (simp; done) | (simp; omega))).trans (by simp [go_sem])
 have d2 : w1.frozen? ⟨w.heap.size + 1 + 1, 2, none⟩ = false := (below_fr hb1 (w.heap.size + 1 + 1) 2 (by first | (simp; done) | (simp; omega))).trans (by simp [go_sem])
 have g0 : w1.frozen? ⟨w.heap.size + 1 + 1 + 1, 0, none⟩ = false := (below_fr hb1 (w.heap.size + 1 + 1 + 1) 0 (by first | (simp; done) | (simp; omega))).trans (by simp [go_sem])
 have g1 : w1.frozen? ⟨w.heap.size + 1 + 1 + 1, 1, none⟩ = false := (below_fr hb1 (w.heap.size + 1 + 1 + 1) 1 (by first | (simp; done) | (simp; omega))).trans (by simp [go_sem])
 have g2 : w1.frozen? ⟨w.heap.size + 1 + 1 + 1, 2, none⟩ = false := (below_fr hb1 (w.heap.size + 1 + 1 + 1) 2 (by first | (simp; done) | (simp; omega))).trans (by simp [go_sem])
 have hbA : Below w.heap.size w w1 := (by have z0 := Below.size hb1; (try simp only [ZZ] at z0 ⊢; skip); repeat' (first | (with_reducible first | exact BlR _ _ | assumption | refine BlA ?_ ?_ _ | refine BlD ?_ | refine BlN ?_ _ | refine BlS ?_ ?_ _ | refine BlT ?_ (BlM (by assumption) ?_)) | omega | (simp only [ZZ]; omega) | go_size))
 clear hb1
 go_wp2_with fail
 refine (KH.out _ hbA).mono ?_
 rintro x w2 ⟨rfl, hb2⟩
 have hb2z := hb2.size
 have t0' := (below_at hb2 (w.heap.size + 1 + 1) 0 (by omega)).trans t0
 have t1' := (below_at hb2 (w.heap.size + 1 + 1) 1 (by omega)).trans t1
 have t2' := (below_at hb2 (w.heap.size + 1 + 1) 2 (by omega)).trans t2
 have u0' := (below_at hb2 (w.heap.size + 1 + 1 + 1) 0 (by omega)).trans u0
 have u1' := (below_at hb2 (w.heap.size + 1 + 1 + 1) 1 (by omega)).trans u1
 have u2' := (below_at hb2 (w.heap.size + 1 + 1 + 1) 2 (by omega)).trans u2
 have d0' := (below_fr hb2 (w.heap.size + 1 + 1) 0 (by omega)).trans d0
 have d1' := (below_fr hb2 (w.heap.size + 1 + 1) 1 (by omega)).trans d1
 have d2' := (below_fr hb2 (w.heap.size + 1 + 1) 2 (by omega)).trans d2
 have g0' := (below_fr hb2 (w.heap.size + 1 + 1 + 1) 0 (by omega)).trans g0
 have g1' := (below_fr hb2 (w.heap.size + 1 + 1 + 1) 1 (by omega)).trans g1
 have g2' := (below_fr hb2 (w.heap.size + 1 + 1 + 1) 2 (by omega)).trans g2
 have hbB : Below w.heap.size w w2 := hbA.trans (hb2.mono (by omega))
 have x4' := (below_at hb2 w.heap.size 4 (by omega)).trans x4
 have p0' := (below_at hbB bR (oR + e * 3) hbR).trans p0
 have p1' := (below_at hbB bR (oR + e * 3 + 1) hbR).trans p1
 have p2' := (below_at hbB bR (oR + e * 3 + 2) hbR).trans p2
 clear x0 x1 x2 x3 x4 y0 y1 t0 t1 t2 u0 u1 u2 d0 d1 d2 g0 g1 g2 KC KH hbA
 have hz2 : w.heap.size + 1 + 1 + 1 < w2.heap.size := by omega
 have he0 : 0 ≤ (e : Int) := by omega
 have K := Lib.hid (KL.out w2 hbB)
 clear KL
 go_wp2_with fail
 refine K.out.mono ?_
 rintro x w3 ⟨⟨v3, rfl, own3⟩, hb3⟩
 obtain ⟨s4, A4, n4, c4, B4, m4, d4, rfl⟩ := own3.rd.form
 have hb3z := hb3.size
 have a0 := (below_at hb3 (w.heap.size + 1 + 1) 0 (by omega)).trans t0'
 have a1 := (below_at hb3 (w.heap.size + 1 + 1) 1 (by omega)).trans t1'
 have a2 := (below_at hb3 (w.heap.size + 1 + 1) 2 (by omega)).trans t2'
 have b0 := (below_at hb3 (w.heap.size + 1 + 1 + 1) 0 (by omega)).trans u0'
 have b1 := (below_at hb3 (w.heap.size + 1 + 1 + 1) 1 (by omega)).trans u1'
 have b2 := (below_at hb3 (w.heap.size + 1 + 1 + 1) 2 (by omega)).trans u2'
 have e0 := (below_fr hb3 (w.heap.size + 1 + 1) 0 (by omega)).trans d0'
 have e1 := (below_fr hb3 (w.heap.size + 1 + 1) 1 (by omega)).trans d1'
 have e2 := (below_fr hb3 (w.heap.size + 1 + 1) 2 (by omega)).trans d2'
 have f0 := (below_fr hb3 (w.heap.size + 1 + 1 + 1) 0 (by omega)).trans g0'
 have f1 := (below_fr hb3 (w.heap.size + 1 + 1 + 1) 1 (by omega)).trans g1'
 have f2 := (below_fr hb3 (w.heap.size + 1 + 1 + 1) 2 (by omega)).trans g2'
 have hbC : Below w.heap.size w w3 := hbB.trans (hb3.mono (by omega))
 obtain ⟨W4, hW4⟩ : ∃ W4, W4 = ((w3.setCell ⟨w.heap.size + 1 + 1 + 1, 0, none⟩ (.bool s4)).setCell ⟨w.heap.size + 1 + 1 + 1, 1, none⟩ (.slice A4 n4 c4)).setCell ⟨w.heap.size + 1 + 1 + 1, 2, none⟩ (.slice B4 m4 d4) := ⟨_, rfl⟩
 have HOW : Hid (OwQ W4 w2.heap.size (rv s4 A4 n4 c4 B4 m4 d4) qr) := by
   rw [hW4]
   exact OwQ.far (OwQ.far (OwQ.far own3 hz2) hz2) hz2
 have z0 : W4.cell? ⟨w.heap.size + 1 + 1, 0, none⟩ = some (.bool false) := by rw [hW4]; simp [go_sem, a0]
 have z1 : W4.cell? ⟨w.heap.size + 1 + 1, 1, none⟩ = some (.slice none 0 0) := by rw [hW4]; simp [go_sem, a1]
 have z2 : W4.cell? ⟨w.heap.size + 1 + 1, 2, none⟩ = some (.slice none 0 0) := by rw [hW4]; simp [go_sem, a2]
 have k0 : W4.cell? ⟨w.heap.size + 1 + 1 + 1, 0, none⟩ = some (.bool s4) := by rw [hW4]; simp [go_sem, b0]
 have k1 : W4.cell? ⟨w.heap.size + 1 + 1 + 1, 1, none⟩ = some (.slice A4 n4 c4) := by rw [hW4]; simp [go_sem, b1]
 have k2 : W4.cell? ⟨w.heap.size + 1 + 1 + 1, 2, none⟩ = some (.slice B4 m4 d4) := by rw [hW4]; simp [go_sem, b2]
 have r0 : W4.frozen? ⟨w.heap.size + 1 + 1, 0, none⟩ = false := by rw [hW4]; simp [go_sem, e0]
 have r1 : W4.frozen? ⟨w.heap.size + 1 + 1, 1, none⟩ = false := by rw [hW4]; simp [go_sem, e1]
 have r2 : W4.frozen? ⟨w.heap.size + 1 + 1, 2, none⟩ = false := by rw [hW4]; simp [go_sem, e2]
 have v0 : W4.frozen? ⟨w.heap.size + 1 + 1 + 1, 0, none⟩ = false := by rw [hW4]; simp [go_sem, f0]
 have v1 : W4.frozen? ⟨w.heap.size + 1 + 1 + 1, 1, none⟩ = false := by rw [hW4]; simp [go_sem, f1]
 have v2 : W4.frozen? ⟨w.heap.size + 1 + 1 + 1, 2, none⟩ = false := by rw [hW4]; simp [go_sem, f2]
 have hbD : Below w.heap.size w W4 := by rw [hW4]; exact (by have z0 := Below.size hbC; (try simp only [ZZ] at z0 ⊢; skip); repeat' (first | (with_reducible first | exact BlR _ _ | assumption | refine BlA ?_ ?_ _ | refine BlD ?_ | refine BlN ?_ _ | refine BlS ?_ ?_ _ | refine BlT ?_ (BlM (by assumption) ?_)) | omega | (simp only [ZZ]; omega) | go_size))
 have hz4 : w2.heap.size ≤ W4.heap.size := by rw [hW4]; simp; omega
 have HW4 := Lib.hid hW4
 clear hW4 t0' t1' t2' u0' u1' u2' d0' d1' d2' g0' g1' g2' hbB hb2 own3 hb3 K
 go_wp2_with fail
 rw [← HW4.out]
 clear HW4 a0 a1 a2 b0 b1 b2 e0 e1 e2 f0 f1 f2
 go_region
 all_goals
   go_wp2_with fail
   (try simp only [Exit.inBlock, Exit.then])
   refine bodyPost_ret (v := .tuple #[rv false none 0 0 none 0 0, rv s4 A4 n4 c4 B4 m4 d4, .nilIface]) ?_ rfl ⟨⟨_, _, rfl, OwQ.zero _ _, OwQ.base_ (base := w2.heap.size) ?_ (by omega)⟩, ?_⟩
   · rw [results_cell2 rfl]
     go_simp
   · repeat' (first | (with_reducible exact HOW.out) | (with_reducible refine OwQ.far ?_ ?_) | (with_reducible refine OwQ.drew_ ?_) | (show _ < _; omega))
   · exact (by have z0 := Below.size hbD; (try simp only [ZZ] at z0 ⊢; skip); repeat' (first | (with_reducible first | exact BlR _ _ | assumption | refine BlA ?_ ?_ _ | refine BlD ?_ | refine BlN ?_ _ | refine BlS ?_ ?_ _ | refine BlT ?_ (BlM (by assumption) ?_)) | omega | (simp only [ZZ]; omega) | go_size))
end
end Go.Proofs.YtoiopnmphbnjaaaGreatDoor
namespace Go.Proofs.YtoiopnmphbnjaaaGreatDoor
open Go.RowKit
set_option linter.unusedSimpArgs false
set_option linter.unusedVariables false
set_option maxRecDepth 20000
/-! ## package dynamic: Rate of an event that works -/
theorem idxFrom_sh (x : Int) : ∀ (zs : List Int) (i : Nat), (Lib.idxFrom zs x i = -1 ∧ Lib.idxFrom zs x 0 = -1) ∨ (Lib.idxFrom zs x i = Lib.idxFrom zs x 0 + i ∧ 0 ≤ Lib.idxFrom zs x 0)
 | [], i => .inl ⟨rfl, rfl⟩
 | z :: zs, i => by
   simp only [Lib.idxFrom]
   by_cases h : z = x
   · rw [if_pos h, if_pos h]; exact .inr ⟨by simp, by simp⟩
   · rw [if_neg h, if_neg h]
     have h1 := idxFrom_sh x zs (i + 1)
     have h2 := idxFrom_sh x zs (0 + 1)
     omega
theorem idxOf_cons (a : Int) (l : List Int) (x : Int) : Lib.idxOf (a :: l) x = if a = x then 0 else if Lib.idxOf l x = -1 then -1 else Lib.idxOf l x + 1 := by
 unfold Lib.idxOf
 simp only [Lib.idxFrom]
 by_cases h : a = x
 · rw [if_pos h, if_pos h]; rfl
 · rw [if_neg h, if_neg h]
   have h2 := idxFrom_sh x l (0 + 1)
   split <;> omega
theorem idxOf_nat {e : Nat} : ∀ {l : List Int}, (∀ a, a ∈ l → 0 ≤ a) → (0 ≤ Lib.idxOf l (e : Int) ↔ e ∈ l.map Int.toNat) ∧ (e ∈ l.map Int.toNat → Lib.idxOf l (e : Int) = (((l.map Int.toNat).idxOf e : Nat) : Int)) ∧ -1 ≤ Lib.idxOf l (e : Int) := by
 intro l
 induction l with
 | nil =>
   intro _
   refine ⟨⟨fun h => ?_, fun h => ?_⟩, fun h => ?_, ?_⟩
   · have : Lib.idxOf [] (e : Int) = -1 := rfl
     omega
   · simp at h
   · simp at h
   · have : Lib.idxOf [] (e : Int) = -1 := rfl
     omega
 | cons a l ih =>
   intro h
   obtain ⟨h1, h2, h3⟩ := ih fun b hb => h b (by simp [hb])
   have ha := h a (by simp)
   rw [idxOf_cons]
   by_cases he : a = (e : Int)
   · rw [if_pos he]
     have : a.toNat = e := by omega
     refine ⟨⟨fun _ => by simp [this], fun _ => by omega⟩, fun _ => ?_, by omega⟩
     rw [List.map_cons, this]
     simp
   · rw [if_neg he]
     have hne : a.toNat ≠ e := by omega
     have hm : e ∈ (a :: l).map Int.toNat ↔ e ∈ l.map Int.toNat := by
       rw [List.map_cons, List.mem_cons]
       constructor
       · rintro (h | h)
         · exact absurd h.symm hne
         · exact h
       · exact .inr
     by_cases h4 : Lib.idxOf l (e : Int) = -1
     · rw [if_pos h4]
       refine ⟨⟨fun h => by omega, fun h => ?_⟩, fun h => ?_, by omega⟩
       · have := h1.2 (hm.1 h)
         omega
       · have := h1.2 (hm.1 h)
         omega
     · rw [if_neg h4]
       have h5 : e ∈ l.map Int.toNat := h1.1 (by omega)
       refine ⟨⟨fun _ => hm.2 h5, fun _ => by omega⟩, fun _ => ?_, by omega⟩
       rw [h2 h5, List.map_cons, List.idxOf_cons]
       have : (a.toNat == e) = false := by simpa using hne
       rw [this]
       simp
theorem grown_none0 {w w' : World} (h : Below w.heap.size w w') (r : Option Nat) : w.grownBy w' r := ⟨h.os, h.tape, h.output, h.size, fun i hi _ => h.block i hi⟩
theorem grownBy_setR (w : World) (o i : Nat) (u : Value) : w.grownBy (w.setCell ⟨o, i, none⟩ u) (some o) := ⟨rfl, rfl, rfl, by simp, fun k hk hk2 => Below.heap_setCell w ⟨o, i, none⟩ u k (fun e => hk2 (by rw [e]))⟩
theorem dindexR {w : World} {c : Nat} {A : Option Addr} {l : List Int} (h : Rds w w.heap.size 1 A l.length (zsD l)) (h1 : 1 ≤ l.length) (hn : l.length ≤ 1000000) (x : Int) : Calls Tryz.prog 66 #[.slice A l.length c, .int .i64 x] w fun e w' => e = .returned (.int .i64 (Lib.idxOf l x)) ∧ Below w.heap.size w w' := by
 obtain ⟨b, off, rfl, hb, _⟩ := h.2 (by omega)
 refine (Tryz.slices_Index_int b off l.length c l x w (Nat.le_refl _) (by omega) (fun j hj => ?_)).mono fun e w' he => ⟨by rw [he.1, List.take_of_length_le (Nat.le_refl _)], by rw [he.2]; exact Below.refl _ _⟩
 obtain ⟨b1, o1, e1, -, hc⟩ := zsD_at h (Below.refl _ _) hj
 injection e1 with e1
 injection e1 with e1 e2
 subst e1 e2
 rw [hc, List.getD_eq_getElem?_getD, List.getElem?_eq_getElem hj]
 rfl
theorem rtD_sz {d : Dy} {dor : Nat → Rat} {s : DS} {i : Nat} {f0 : Rat} {L : Nat} (hL : 1 ≤ L) (h0 : Sz L f0) (h : ∀ k, k < d.ng → Sz L (dor k)) : ∀ k, k ≤ d.ng → Sz (L * (k + 1)) (rtD d dor s i f0 k)
 | 0, _ => by rw [Nat.zero_add, Nat.mul_one]; exact h0
 | k + 1, hk => by
   have ih := rtD_sz (s := s) (i := i) hL h0 h k (by omega)
   rw [rtD]
   have e : L * (k + 1 + 1) = L * (k + 1) + L := by rw [Nat.mul_add L (k + 1) 1, Nat.mul_one]
   split
   · rw [e]
     exact ih.mul (h k (by omega)) (Nat.le_trans hL (Nat.le_mul_of_pos_right _ (by omega)))
   · exact ih.more (by omega)
theorem RdS.sz1000 {w : World} {b0 : Nat} {v : Value} {r : Rw} (h : RdS w b0 v r) (h1 : r.2.1.length ≤ 1000) (h2 : r.2.2.length ≤ 1000) : Sz 1000 (valR r) := (h.rdq (L := 1000) h1 h2).sz (by omega)
section
variable {w : World} {AG AF AR Am : Option Addr} {cg cf cr cm : Nat} {r : DyR} {F e : Nat} {M : List Int}
theorem drate_up (h : DyI w AG AF AR r) (hs : DyS r) (hc : codeD r = 0) (st : StOk r F M) (rj : RdJ w Am r.ng (fun i => M.getD i 0)) (he : e < r.v.toNat) (hb : F.testBit e = false) :
   Calls Tryz.prog 21 #[dyv r AG cg AF cf AR cr, .agg #[.int .i64 (F : Int), .slice Am r.ng cm], .int .i64 (e : Int)] w fun x w' => RatRet w.heap.size (rtD r.dy (fun k => valR (r.dor k)) (F, M) e (valR (r.fl e)) r.ng) 0 x w' ∧ Below w.heap.size w w' := by
 have ok := codeD_ok hc
 obtain ⟨v, hv⟩ : ∃ v : Nat, r.v = v := ⟨r.v.toNat, by have := ok.v1; omega⟩
 have v24 : v ≤ 24 := by have := ok.v2; omega
 have hF : F < 2 ^ v := by have := st.f; rw [hv] at this; simpa using this
 have hev : e < v := by rw [hv] at he; simpa using he
 have hp : 2 ^ v ≤ 16777216 := Nat.pow_le_pow_right (n := 2) (by omega) v24
 have KC := Lib.hid (fun X (hX : Below w.heap.size w X) => dchk_ok (cg := cg) (cf := cf) (cr := cr) (cm := cm) (h.below hX) hs hc st (rj.below hX))
 have s1 := yshr F e
 have hq : F / 2 ^ e < 16777216 := Nat.lt_of_le_of_lt (Nat.div_le_self _ _) (by omega)
 have s2 : bits .and .i64 ((F / 2 ^ e : Nat) : Int) 1 = ((F / 2 ^ e % 2 : Nat) : Int) := yand1 (by omega)
 have s3 : F / 2 ^ e % 2 = 0 := by rw [ybit, hb]; rfl
 rw [s3] at s2
 generalize F / 2 ^ e = q1 at *
 unfold dyv at KC ⊢
 rw [hv] at KC ⊢
 have hrt := ok.fl e (by have := ok.nf; omega)
 have hvr : validR (r.fl e) = true := by
   unfold rtOk at hrt
   simp only [Bool.and_eq_true] at hrt
   exact hrt.1
 have hsr := hs.fl e (by have := ok.nf; omega)
 obtain ⟨bR, oR, sR, A3, n3, c3, B3, m3, d3, rfl, hbR, p0, p1, p2, rR⟩ := h.fa.at_ (k := e) (by have := ok.nf; omega)
 have KL := Lib.hid (fun X (hX : Below w.heap.size w X) => dcloneS (w := X) (rR.kp (Kp.of_below hX)) hvr hsr.1 hsr.2)
 have hen : (e : Int) < (r.nf : Int) := by have := ok.nf; omega
 have hszf : Sz 1000 (valR (r.fl e)) := rR.sz1000 hsr.1 hsr.2
 have hszd : ∀ k, k < r.dy.ng → Sz 1000 (valR (r.dor k)) := fun k hk => by
   obtain ⟨b, off, A1, c1, s, A2, n2, c2, A3, n3, c3, -, -, -, -, -, -, -, -, -, rs, -⟩ := h.at_ (k := k) hk
   exact rs.sz1000 (hs.dor k hk).1 (hs.dor k hk).2
 obtain ⟨RT, hRT⟩ : ∃ RT : Nat → Rat, RT = rtD r.dy (fun k => valR (r.dor k)) (F, M) e (valR (r.fl e)) := ⟨_, rfl⟩
 have HSZ : Hid (∀ k, k ≤ r.ng → Sz 70000 (RT k)) := fun k hk => by
   rw [hRT]
   exact (rtD_sz (by omega) hszf hszd k hk).more (by have := ok.ng; omega)
 have HRT0 : Hid (RT 0 = valR (r.fl e)) := by rw [hRT]; rfl
 have HSTEP : Hid (∀ k, k < r.ng → -1 ≤ Lib.idxOf (r.ar k) (e : Int) ∧ RT (k + 1) = if r.kd k = 7 ∧ 0 ≤ Lib.idxOf (r.ar k) (e : Int) ∧ Lib.idxOf (r.ar k) (e : Int) ≠ M.getD k 0 then RT k * valR (r.dor k) else RT k) := fun k hk => by
   obtain ⟨i1, i2, i3⟩ := idxOf_nat (e := e) (l := r.ar k) fun a ha => ((ok.gate hk).ix a ha).1
   have hkd := (ok.gate hk).hkd
   refine ⟨i3, ?_⟩
   rw [hRT, rtD]
   by_cases h1 : r.kd k = 7 ∧ 0 ≤ Lib.idxOf (r.ar k) (e : Int) ∧ Lib.idxOf (r.ar k) (e : Int) ≠ M.getD k 0
   · rw [if_pos h1, if_pos]
     refine ⟨?_, i1.1 h1.2.1, ?_⟩
     · show (r.kd k).toNat = 7
       omega
     · show (((((r.ar k).map Int.toNat).idxOf e : Nat)) : Int) ≠ M.getD k 0
       rw [← i2 (i1.1 h1.2.1)]
       exact h1.2.2
   · rw [if_neg h1, if_neg]
     rintro ⟨g1, g2, g3⟩
     refine h1 ⟨?_, i1.2 g2, ?_⟩
     · have g1 : (r.kd k).toNat = 7 := g1
       omega
     · rw [i2 g2]
       exact g3
 have HL : Hid (∀ k, k < r.ng → 1 ≤ (r.ar k).length ∧ (r.ar k).length ≤ 16) := fun k hk => dgAg_len (ok.gate hk).ln
 have HSD : Hid (∀ k, k < r.ng → (r.dor k).2.1.length ≤ 1000 ∧ (r.dor k).2.2.length ≤ 1000) := fun k hk => hs.dor k hk
 rw [← hRT]
 have n64 := ok.ng
 have HH := Lib.hid h
 have HRJ := Lib.hid rj
 have HQR : Hid (valR (r.fl e) = RT 0) := HRT0.out.symm
 rw [HQR.out] at KL
 clear hs h ok hc st rj he s3 hb rR hrt hvr hsr hszf hszd hRT HRT0 HQR
 go_enter Tryz.func21, Tryz.ntmps21
 go_wp2_with fail
 refine (KC.out _ (by (skip); repeat' (first | (with_reducible first | exact BlR _ _ | assumption | refine BlA ?_ ?_ _ | refine BlD ?_ | refine BlN ?_ _ | refine BlS ?_ ?_ _ | refine BlT ?_ (BlM (by assumption) ?_)) | omega | (simp only [ZZ]; omega) | go_size))).mono ?_
 rintro x w1 ⟨rfl, hb1⟩
 have hb1z := hb1.size
 simp only [World.size_alloc] at hb1z
 have x0 : w1.cell? ⟨w.heap.size, 0, none⟩ = some (.int .i64 (v : Int)) := (below_at hb1 (w.heap.size) 0 (by first | (simp; done) | (simp; omega))).trans (by simp [go_sem])
 have x1 : w1.cell? ⟨w.heap.size, 1, none⟩ = some (.slice AG r.ng cg) := (below_at hb1 (w.heap.size) 1 (by first | (simp; done) | (simp; omega))).trans (by simp [go_sem])
 have x2 : w1.cell? ⟨w.heap.size, 2, none⟩ = some (.int .i64 r.top) := (below_at hb1 (w.heap.size) 2 (by first | (simp; done) | (simp; omega))).trans (by simp [go_sem])
 have x3 : w1.cell? ⟨w.heap.size, 3, none⟩ = some (.slice (some ⟨bR, oR, none⟩) r.nf cf) := (below_at hb1 (w.heap.size) 3 (by first | (simp; done) | (simp; omega))).trans (by simp [go_sem])
 have x4 : w1.cell? ⟨w.heap.size, 4, none⟩ = some (.slice AR r.nr cr) := (below_at hb1 (w.heap.size) 4 (by first | (simp; done) | (simp; omega))).trans (by simp [go_sem])
 have y0 : w1.cell? ⟨w.heap.size + 1, 0, none⟩ = some (.int .i64 (F : Int)) := (below_at hb1 (w.heap.size + 1) 0 (by first | (simp; done) | (simp; omega))).trans (by simp [go_sem])
 have y1 : w1.cell? ⟨w.heap.size + 1, 1, none⟩ = some (.slice Am r.ng cm) := (below_at hb1 (w.heap.size + 1) 1 (by first | (simp; done) | (simp; omega))).trans (by simp [go_sem])
 have t0 : w1.cell? ⟨w.heap.size + 1 + 1, 0, none⟩ = some (.bool false) := (below_at hb1 (w.heap.size + 1 + 1) 0 (by first | (simp; done) | (simp; omega))).trans (by simp [go_sem])
 have t1 : w1.cell? ⟨w.heap.size + 1 + 1, 1, none⟩ = some (.slice none 0 0) := (below_at hb1 (w.heap.size + 1 + 1) 1 (by first | (simp; done) | (simp; omega))).trans (by simp [go_sem])
 have t2 : w1.cell? ⟨w.heap.size + 1 + 1, 2, none⟩ = some (.slice none 0 0) := (below_at hb1 (w.heap.size + 1 + 1) 2 (by first | (simp; done) | (simp; omega))).trans (by simp [go_sem])
 have u0 : w1.cell? ⟨w.heap.size + 1 + 1 + 1, 0, none⟩ = some (.bool false) := (below_at hb1 (w.heap.size + 1 + 1 + 1) 0 (by first | (simp; done) | (simp; omega))).trans (by simp [go_sem])
 have u1 : w1.cell? ⟨w.heap.size + 1 + 1 + 1, 1, none⟩ = some (.slice none 0 0) := (below_at hb1 (w.heap.size + 1 + 1 + 1) 1 (by first | (simp; done) | (simp; omega))).trans (by simp [go_sem])
 have u2 : w1.cell? ⟨w.heap.size + 1 + 1 + 1, 2, none⟩ = some (.slice none 0 0) := (below_at hb1 (w.heap.size + 1 + 1 + 1) 2 (by first | (simp; done) | (simp; omega))).trans (by simp [go_sem])
 have d0 : w1.frozen? ⟨w.heap.size + 1 + 1, 0, none⟩ = false := (below_fr hb1 (w.heap.size + 1 + 1) 0 (by first | (simp; done) | (simp; omega))).trans (by simp [go_sem])
 have d1 : w1.frozen? ⟨w.heap.size + 1 + 1, 1, none⟩ = false := (below_fr hb1 (w.heap.size + 1 + 1) 1 (by first | (simp; done) | (simp; omega))).trans (by simp [go_sem])
 have d2 : w1.frozen? ⟨w.heap.size + 1 + 1, 2, none⟩ = false := (below_fr hb1 (w.heap.size + 1 + 1) 2 (by first | (simp; done) | (simp; omega))).trans (by simp [go_sem])
 have g0 : w1.frozen? ⟨w.heap.size + 1 + 1 + 1, 0, none⟩ = false := (below_fr hb1 (w.heap.size + 1 + 1 + 1) 0 (by first | (simp; done) | (simp; omega))).trans (by simp [go_sem])
 have g1 : w1.frozen? ⟨w.heap.size + 1 + 1 + 1, 1, none⟩ = false := (below_fr hb1 (w.heap.size + 1 + 1 + 1) 1 (by first | (simp; done) | (simp; omega))).trans (by simp [go_sem])
 have g2 : w1.frozen? ⟨w.heap.size + 1 + 1 + 1, 2, none⟩ = false := (below_fr hb1 (w.heap.size + 1 + 1 + 1) 2 (by first | (simp; done) | (simp; omega))).trans (by simp [go_sem])
 have hbA : Below w.heap.size w w1 := (by have z0 := Below.size hb1; (try simp only [ZZ] at z0 ⊢; skip); repeat' (first | (with_reducible first | exact BlR _ _ | assumption | refine BlA ?_ ?_ _ | refine BlD ?_ | refine BlN ?_ _ | refine BlS ?_ ?_ _ | refine BlT ?_ (BlM (by assumption) ?_)) | omega | (simp only [ZZ]; omega) | go_size))
 clear hb1
 have K := Lib.hid (KL.out w1 hbA)
 have p0' := (below_at hbA bR (oR + e * 3) hbR).trans p0
 have p1' := (below_at hbA bR (oR + e * 3 + 1) hbR).trans p1
 have p2' := (below_at hbA bR (oR + e * 3 + 2) hbR).trans p2
 have he0 : 0 ≤ (e : Int) := by omega
 clear KL KC
 go_wp2_with fail
 refine K.out.mono ?_
 rintro x w3 ⟨⟨v3, rfl, own3⟩, hb3⟩
 obtain ⟨s4, A4, n4, c4, B4, m4, d4, rfl⟩ := own3.rd.form
 have hb3z := hb3.size
 have hz3 : w.heap.size + 1 + 1 + 1 < w1.heap.size := by omega
 obtain ⟨W4, hW4⟩ : ∃ W4, W4 = ((w3.setCell ⟨w.heap.size + 1 + 1, 0, none⟩ (.bool s4)).setCell ⟨w.heap.size + 1 + 1, 1, none⟩ (.slice A4 n4 c4)).setCell ⟨w.heap.size + 1 + 1, 2, none⟩ (.slice B4 m4 d4) := ⟨_, rfl⟩
 have e0 := (below_at hb3 (w.heap.size + 1 + 1) 0 (by omega)).trans t0
 have e1 := (below_at hb3 (w.heap.size + 1 + 1) 1 (by omega)).trans t1
 have e2 := (below_at hb3 (w.heap.size + 1 + 1) 2 (by omega)).trans t2
 have xx1 := (below_at hb3 w.heap.size 1 (by omega)).trans x1
 have l0 := (below_fr hb3 (w.heap.size + 1 + 1) 0 (by omega)).trans d0
 have l1 := (below_fr hb3 (w.heap.size + 1 + 1) 1 (by omega)).trans d1
 have l2 := (below_fr hb3 (w.heap.size + 1 + 1) 2 (by omega)).trans d2
 have own4 : OwQ W4 (w.heap.size + 1 + 1 + 1 + 1) (rv s4 A4 n4 c4 B4 m4 d4) (RT 0) := by
   rw [hW4]
   exact (OwQ.far (OwQ.far (OwQ.far own3 (by omega)) (by omega)) (by omega)).base_ (by omega)
 have k0 : W4.cell? ⟨w.heap.size + 1 + 1, 0, none⟩ = some (.bool s4) := by rw [hW4]; simp [go_sem, e0]
 have k1 : W4.cell? ⟨w.heap.size + 1 + 1, 1, none⟩ = some (.slice A4 n4 c4) := by rw [hW4]; simp [go_sem, e1]
 have k2 : W4.cell? ⟨w.heap.size + 1 + 1, 2, none⟩ = some (.slice B4 m4 d4) := by rw [hW4]; simp [go_sem, e2]
 have r0 : W4.frozen? ⟨w.heap.size + 1 + 1, 0, none⟩ = false := by rw [hW4]; simp [go_sem]; exact (below_fr hb3 (w.heap.size + 1 + 1) 0 (by omega)).trans d0
 have r1 : W4.frozen? ⟨w.heap.size + 1 + 1, 1, none⟩ = false := by rw [hW4]; simp [go_sem]; exact (below_fr hb3 (w.heap.size + 1 + 1) 1 (by omega)).trans d1
 have r2 : W4.frozen? ⟨w.heap.size + 1 + 1, 2, none⟩ = false := by rw [hW4]; simp [go_sem]; exact (below_fr hb3 (w.heap.size + 1 + 1) 2 (by omega)).trans d2
 have j1 : W4.cell? ⟨w.heap.size, 1, none⟩ = some (.slice AG r.ng cg) := by rw [hW4]; simp [go_sem]; exact (below_at hb3 w.heap.size 1 (by omega)).trans x1
 have i1 : W4.cell? ⟨w.heap.size + 1, 1, none⟩ = some (.slice Am r.ng cm) := by rw [hW4]; simp [go_sem]; exact (below_at hb3 (w.heap.size + 1) 1 (by omega)).trans y1
 have q0 : W4.cell? ⟨w.heap.size + 1 + 1 + 1, 0, none⟩ = some (.bool false) := by rw [hW4]; simp [go_sem]; exact (below_at hb3 (w.heap.size + 1 + 1 + 1) 0 (by omega)).trans u0
 have q1 : W4.cell? ⟨w.heap.size + 1 + 1 + 1, 1, none⟩ = some (.slice none 0 0) := by rw [hW4]; simp [go_sem]; exact (below_at hb3 (w.heap.size + 1 + 1 + 1) 1 (by omega)).trans u1
 have q2 : W4.cell? ⟨w.heap.size + 1 + 1 + 1, 2, none⟩ = some (.slice none 0 0) := by rw [hW4]; simp [go_sem]; exact (below_at hb3 (w.heap.size + 1 + 1 + 1) 2 (by omega)).trans u2
 have h0 : W4.frozen? ⟨w.heap.size + 1 + 1 + 1, 0, none⟩ = false := by rw [hW4]; simp [go_sem]; exact (below_fr hb3 (w.heap.size + 1 + 1 + 1) 0 (by omega)).trans g0
 have h1 : W4.frozen? ⟨w.heap.size + 1 + 1 + 1, 1, none⟩ = false := by rw [hW4]; simp [go_sem]; exact (below_fr hb3 (w.heap.size + 1 + 1 + 1) 1 (by omega)).trans g1
 have h2 : W4.frozen? ⟨w.heap.size + 1 + 1 + 1, 2, none⟩ = false := by rw [hW4]; simp [go_sem]; exact (below_fr hb3 (w.heap.size + 1 + 1 + 1) 2 (by omega)).trans g2
 have hbD : Below w.heap.size w W4 := by rw [hW4]; exact (by have z0 := Below.size hbA; have z1 := Below.size hb3; (try simp only [ZZ] at z0 z1 ⊢; skip); repeat' (first | (with_reducible first | exact BlR _ _ | assumption | refine BlA ?_ ?_ _ | refine BlD ?_ | refine BlN ?_ _ | refine BlS ?_ ?_ _ | refine BlT ?_ (BlM (by assumption) ?_)) | omega | (simp only [ZZ]; omega) | go_size))
 have hz4 : w.heap.size + 1 + 1 + 1 < W4.heap.size := by rw [hW4]; simp; omega
 have HW4 := Lib.hid hW4
 clear hW4 t0 t1 t2 u0 u1 u2 d0 d1 d2 g0 g1 g2 x0 x1 x2 x3 x4 y0 y1 p0 p1 p2 p0' p1' p2' hb3 own3 K
 go_wp2_with fail
 rw [← HW4.out]
 clear HW4 e0 e1 e2 l0 l1 l2 xx1
 go_loopw [60] (fun i wr => ∃ (k : Nat) (s : Bool) (A : Option Addr) (a c : Nat) (B : Option Addr) (b d : Nat), k ≤ r.ng ∧ i = .int .i64 (k : Int) ∧ wr.cell? ⟨w.heap.size + 1 + 1, 0, none⟩ = some (.bool s) ∧ wr.cell? ⟨w.heap.size + 1 + 1, 1, none⟩ = some (.slice A a c) ∧ wr.cell? ⟨w.heap.size + 1 + 1, 2, none⟩ = some (.slice B b d)
   ∧ (∀ o, wr.frozen? ⟨w.heap.size + 1 + 1, o, none⟩ = W4.frozen? ⟨w.heap.size + 1 + 1, o, none⟩) ∧ OwQ wr (w.heap.size + 1 + 1 + 1 + 1) (rv s A a c B b d) (RT k) ∧ W4.grownBy wr (some (w.heap.size + 1 + 1))) (fun i _ => r.ng - (intOf i).toNat)
 case atStart => exact ⟨0, s4, A4, n4, c4, B4, m4, d4, Nat.zero_le _, rfl, k0, k1, k2, fun o => rfl, own4, World.grownBy.refl _ _⟩
 case round =>
   obtain ⟨k, sx, Ax, ax, cx, Bx, bx, dx, hk, rfl, f0, f1, f2, ff, own, hg⟩ := hrel
   obtain ⟨wo, rfl⟩ : ∃ wo : World, wo = wr := ⟨_, rfl⟩
   have keep : ∀ b o, b < W4.heap.size → b ≠ w.heap.size + 1 + 1 → wo.cell? ⟨b, o, none⟩ = W4.cell? ⟨b, o, none⟩ := fun b o hb hne => World.cell?_of_block (a := ⟨b, o, none⟩) (hg.block b hb (fun e => hne (by injection e)))
   have frz0 := (ff 0).trans r0
   have frz1 := (ff 1).trans r1
   have frz2 := (ff 2).trans r2
   have hgz := hg.size
   have hbo : Below w.heap.size w wo := hbD.trans ((Below.refl _ _).grown hg (by omega) (fun q hq => by injection hq with hq; omega))
   have J1 := (keep w.heap.size 1 (by omega) (by omega)).trans j1
   have I1 := (keep (w.heap.size + 1) 1 (by omega) (by omega)).trans i1
   by_cases hkn : k < r.ng
   · obtain ⟨b, off, A1, c1, sg, A2, n2, c2, A3, n3, c3, rfl, hbb, z0, z1, z2, z3, z4, z5, ra, rs, hlc⟩ := HH.out.at_ hkn
     obtain ⟨bo, offo, rfl, hbo2, m0⟩ := HRJ.out.later hbo hkn
     have hl := HL.out k hkn
     have hsd := HSD.out k hkn
     obtain ⟨hi3, hst⟩ := HSTEP.out k hkn
     have hsz := HSZ.out k hk
     have HI := Lib.hid (fun X (hX : Below w.heap.size w X) => dindexR (w := X) (c := c1) (ra.on hX hX.size) hl.1 (by omega) (e : Int))
     have HQ := Lib.hid (fun X (hX : Below w.heap.size w X) => ((rs.kp (Kp.of_below hX)).rdq (L := 70000) (by omega) (by omega) : RdQ X 70000 (rv sg A2 n2 c2 A3 n3 c3) (valR (r.dor k))))
     have y0 := (below_at hbo b _ hbb).trans z0
     have y1 := (below_at hbo b _ hbb).trans z1
     have y2 := (below_at hbo b _ hbb).trans z2
     have y3 := (below_at hbo b _ hbb).trans z3
     have y4 := (below_at hbo b _ hbb).trans z4
     have y5 := (below_at hbo b _ hbb).trans z5
     generalize valR (r.dor k) = qd at *
     generalize r.dor k = rd at *
     generalize Lib.idxOf (r.ar k) (e : Int) = ix at *
     generalize M.getD k 0 = m at *
     generalize r.kd k = kd at *
     generalize r.kk k = kk at *
     generalize (r.ar k).length = ll at *
     obtain ⟨W, hW⟩ : ∃ W, W = wo.alloc (.cells #[.int .i64 kd, .int .i64 kk, .slice A1 ll c1, .bool sg, .slice A2 n2 c2, .slice A3 n3 c3] 88) := ⟨_, rfl⟩
     have q0 : W.cell? ⟨wo.heap.size, 0, none⟩ = some (.int .i64 kd) := by rw [hW]; simp [go_sem]
     have q2 : W.cell? ⟨wo.heap.size, 2, none⟩ = some (.slice A1 ll c1) := by rw [hW]; simp [go_sem]
     have q3 : W.cell? ⟨wo.heap.size, 3, none⟩ = some (.bool sg) := by rw [hW]; simp [go_sem]
     have q4 : W.cell? ⟨wo.heap.size, 4, none⟩ = some (.slice A2 n2 c2) := by rw [hW]; simp [go_sem]
     have q5 : W.cell? ⟨wo.heap.size, 5, none⟩ = some (.slice A3 n3 c3) := by rw [hW]; simp [go_sem]
     have hbo3 : Below wo.heap.size wo W := by rw [hW]; exact (Below.refl _ _).alloc (Nat.le_refl _) _
     have hWz : wo.heap.size < W.heap.size := by rw [hW]; simp
     have hbW : Below w.heap.size w W := hbo.trans (hbo3.mono (by omega))
     have K := Lib.hid (HI.out W hbW)
     have HW := Lib.hid hW
     have HST := Lib.hid hst
     have HO := Lib.hid own
     have i2 : (k : Int) < (r.ng : Int) := by omega
     have i3 : (0 : Int) ≤ (k : Int) := by omega
     clear hW hst ra rs z0 z1 z2 z3 z4 z5 HI hsd
     go_wp2_with fail
     rw [← HW.out]
     refine K.out.mono ?_
     rintro x w5 ⟨rfl, hb5⟩
     have hbw5 : Below wo.heap.size wo w5 := hbo3.trans (hb5.mono (by omega))
     have v0 := (below_at hbw5 (w.heap.size + 1 + 1) 0 (by omega)).trans f0
     have v1 := (below_at hbw5 (w.heap.size + 1 + 1) 1 (by omega)).trans f1
     have v2 := (below_at hbw5 (w.heap.size + 1 + 1) 2 (by omega)).trans f2
     have e0 := (below_fr hbw5 (w.heap.size + 1 + 1) 0 (by omega)).trans frz0
     have e1 := (below_fr hbw5 (w.heap.size + 1 + 1) 1 (by omega)).trans frz1
     have e2 := (below_fr hbw5 (w.heap.size + 1 + 1) 2 (by omega)).trans frz2
     have HFF : Hid (∀ o, w5.frozen? ⟨w.heap.size + 1 + 1, o, none⟩ = W4.frozen? ⟨w.heap.size + 1 + 1, o, none⟩) := fun o => (below_fr hbw5 (w.heap.size + 1 + 1) o (by omega)).trans (ff o)
     have HO5 : Hid (OwQ w5 (w.heap.size + 1 + 1 + 1 + 1) (rv sx Ax ax cx Bx bx dx) (RT k)) := HO.out.below hbw5
     have HG5 : Hid (W4.grownBy w5 (some (w.heap.size + 1 + 1))) := hg.trans (grown_none0 hbw5 _)
     have w0 := (below_at hb5 wo.heap.size 0 hWz).trans q0
     have w3' := (below_at hb5 wo.heap.size 3 hWz).trans q3
     have w4' := (below_at hb5 wo.heap.size 4 hWz).trans q4
     have w5' := (below_at hb5 wo.heap.size 5 hWz).trans q5
     have I5 := (below_at hbw5 (w.heap.size + 1) 1 (by omega)).trans I1
     have m5 := (below_at hbw5 bo (offo + k) (by omega)).trans m0
     have hbW5 : Below w.heap.size w w5 := hbW.trans (hb5.mono (by omega))
     have hz5 := hbw5.size
     clear q0 q2 q3 q4 q5 y0 y1 y2 y3 y4 y5 f0 f1 f2 ff frz0 frz1 frz2 own hg keep J1 I1 m0 hb5 HW K hbo3 HO hbW
     by_cases c7 : kd = 7
     · subst c7
       by_cases ci : 0 ≤ ix
       · by_cases cm : ix = m
         · subst cm
           have HE : Hid (RT (k + 1) = RT k) := by show _ = _; rw [HST.out, if_neg (fun h => h.2.2 rfl)]
           clear HST HQ
           go_wp2_with fail
           go_roundw
           case rel => exact ⟨k + 1, sx, Ax, ax, cx, Bx, bx, dx, by omega, by go_num, v0, v1, v2, HFF.out, by rw [HE.out]; exact HO5.out, HG5.out⟩
           case measure => simp [intOf]; omega
         · have HE : Hid (RT (k + 1) = RT k * qd) := by show _ = _; rw [HST.out, if_pos ⟨rfl, ci, cm⟩]
           have KM := Lib.hid (mulQ (HO5.out.rq hsz) (HQ.out w5 hbW5) (by omega) (by omega))
           clear HST HQ
           go_wp2_with fail
           refine KM.out.mono ?_
           rintro x w6 ⟨⟨v6, rfl, own6⟩, hb6⟩
           obtain ⟨s7, A7, n7, c7, B7, m7, d7, rfl⟩ := own6.rd.form
           have x0 := (below_at hb6 (w.heap.size + 1 + 1) 0 (by omega)).trans v0
           have x1 := (below_at hb6 (w.heap.size + 1 + 1) 1 (by omega)).trans v1
           have x2 := (below_at hb6 (w.heap.size + 1 + 1) 2 (by omega)).trans v2
           have y0 := (below_fr hb6 (w.heap.size + 1 + 1) 0 (by omega)).trans e0
           have y1 := (below_fr hb6 (w.heap.size + 1 + 1) 1 (by omega)).trans e1
           have y2 := (below_fr hb6 (w.heap.size + 1 + 1) 2 (by omega)).trans e2
           obtain ⟨W7, hW7⟩ : ∃ W7, W7 = ((w6.setCell ⟨w.heap.size + 1 + 1, 0, none⟩ (.bool s7)).setCell ⟨w.heap.size + 1 + 1, 1, none⟩ (.slice A7 n7 c7)).setCell ⟨w.heap.size + 1 + 1, 2, none⟩ (.slice B7 m7 d7) := ⟨_, rfl⟩
           have HO7 : Hid (OwQ W7 (w.heap.size + 1 + 1 + 1 + 1) (rv s7 A7 n7 c7 B7 m7 d7) (RT (k + 1))) := by
             show OwQ _ _ _ _
             rw [hW7, HE.out]
             exact (OwQ.far (OwQ.far (OwQ.far own6 (by omega)) (by omega)) (by omega)).base_ (by omega)
           have p0 : W7.cell? ⟨w.heap.size + 1 + 1, 0, none⟩ = some (.bool s7) := by rw [hW7]; simp [go_sem, x0]
           have p1 : W7.cell? ⟨w.heap.size + 1 + 1, 1, none⟩ = some (.slice A7 n7 c7) := by rw [hW7]; simp [go_sem, x1]
           have p2 : W7.cell? ⟨w.heap.size + 1 + 1, 2, none⟩ = some (.slice B7 m7 d7) := by rw [hW7]; simp [go_sem, x2]
           have HF7 : Hid (∀ o, W7.frozen? ⟨w.heap.size + 1 + 1, o, none⟩ = W4.frozen? ⟨w.heap.size + 1 + 1, o, none⟩) := fun o => by
             rw [hW7]
             simp only [World.frozen?_setCell]
             exact (below_fr hb6 (w.heap.size + 1 + 1) o (by omega)).trans (HFF.out o)
           have HG7 : Hid (W4.grownBy W7 (some (w.heap.size + 1 + 1))) := by
             show World.grownBy _ _ _
             rw [hW7]
             exact ((HG5.out.trans (grown_none0 hb6 _)).trans (grownBy_setR _ _ _ _)).trans ((grownBy_setR _ _ _ _).trans (grownBy_setR _ _ _ _))
           have HW7 := Lib.hid hW7
           clear hW7 own6
           go_wp2_with fail
           rw [← HW7.out]
           go_roundw
           case rel => exact ⟨k + 1, s7, A7, n7, c7, B7, m7, d7, by omega, by go_num, p0, p1, p2, HF7.out, HO7.out, HG7.out⟩
           case measure => simp [intOf]; omega
       · have HE : Hid (RT (k + 1) = RT k) := by show _ = _; rw [HST.out, if_neg (fun h => ci h.2.1)]
         clear HST HQ
         go_wp2_with fail
         go_roundw
         case rel => exact ⟨k + 1, sx, Ax, ax, cx, Bx, bx, dx, by omega, by go_num, v0, v1, v2, HFF.out, by rw [HE.out]; exact HO5.out, HG5.out⟩
         case measure => simp [intOf]; omega
     · have HE : Hid (RT (k + 1) = RT k) := by show _ = _; rw [HST.out, if_neg (fun h => c7 h.1)]
       clear HST HQ
       go_wp2_with fail
       go_roundw
       case rel => exact ⟨k + 1, sx, Ax, ax, cx, Bx, bx, dx, by omega, by go_num, v0, v1, v2, HFF.out, by rw [HE.out]; exact HO5.out, HG5.out⟩
       case measure => simp [intOf]; omega
   · obtain rfl : k = r.ng := by omega
     have Q0 := (keep (w.heap.size + 1 + 1 + 1) 0 (by omega) (by omega)).trans q0
     have Q1 := (keep (w.heap.size + 1 + 1 + 1) 1 (by omega) (by omega)).trans q1
     have Q2 := (keep (w.heap.size + 1 + 1 + 1) 2 (by omega) (by omega)).trans q2
     have keepf : ∀ o, wo.frozen? ⟨w.heap.size + 1 + 1 + 1, o, none⟩ = W4.frozen? ⟨w.heap.size + 1 + 1 + 1, o, none⟩ := fun o => by
       unfold World.frozen?
       rw [show wo.heap[(⟨w.heap.size + 1 + 1 + 1, o, none⟩ : Addr).block]? = W4.heap[(⟨w.heap.size + 1 + 1 + 1, o, none⟩ : Addr).block]? from hg.block _ (by show w.heap.size + 1 + 1 + 1 < _; omega) (fun e => by injection e with e; have e : w.heap.size + 1 + 1 + 1 = w.heap.size + 1 + 1 := e; omega)]
     have H0 := (keepf 0).trans h0
     have H1 := (keepf 1).trans h1
     have H2 := (keepf 2).trans h2
     have HO := Lib.hid own
     clear own hg keep keepf ff
     go_wp2_with fail
     all_goals
       (try simp only [Exit.inBlock, Exit.then])
       refine bodyPost_ret (v := .tuple #[rv sx Ax ax cx Bx bx dx, rv false none 0 0 none 0 0, .nilIface]) ?_ rfl ⟨⟨_, _, rfl, OwQ.base_ (base := w.heap.size + 1 + 1 + 1 + 1) ?_ (by omega), OwQ.zero _ _⟩, ?_⟩
       · rw [results_cell2 rfl]
         go_simp
       · repeat' (first | (with_reducible exact HO.out) | (with_reducible refine OwQ.far ?_ ?_) | (with_reducible refine OwQ.drew_ ?_) | (show _ < _; omega))
       · exact (by have z0 := Below.size hbo; (try simp only [ZZ] at z0 ⊢; skip); repeat' (first | (with_reducible first | exact BlR _ _ | assumption | refine BlA ?_ ?_ _ | refine BlD ?_ | refine BlN ?_ _ | refine BlS ?_ ?_ _ | refine BlT ?_ (BlM (by assumption) ?_)) | omega | (simp only [ZZ]; omega) | go_size))
end
end Go.Proofs.YtoiopnmphbnjaaaGreatDoor
