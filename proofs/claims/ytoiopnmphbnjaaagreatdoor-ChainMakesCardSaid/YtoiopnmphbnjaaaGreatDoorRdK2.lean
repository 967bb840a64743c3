/- Contracts and lemmas for the given statements. Conditions: those alone that each names. -/
import Derived.Test.YtoiopnmphbnjaaaGreatDoorJRdK
import Derived.Test.YtoiopnmphbnjaaaGreatDoorJDynMk2
import Derived.Deep.CutRange
namespace Go.Proofs.YtoiopnmphbnjaaaGreatDoor
open Go.RowKit
set_option linter.unusedSimpArgs false
set_option linter.unusedVariables false
set_option maxRecDepth 20000
attribute [local irreducible] nv wp win plainB validR valR canR
/-! ## the reference's After -/
def AftRet (b0 b1 ng : Nat) (P : List (DS × Rat)) (e : Ending) (w' : World) : Prop := ∃ As cs Ar cr, e = .returned (.tuple #[.slice As P.length cs, .slice Ar P.length cr]) ∧ OwS w' b0 As cs ng (P.map (·.1)) ∧ OwL w' b0 70000 Ar cr (P.map (·.2)) ∧ (∀ q, (Value.slice As P.length cs).ownBlock = some q → b1 ≤ q) ∧ (∀ q, (Value.slice Ar P.length cr).ownBlock = some q → b1 ≤ q)
section
variable {w0 w : World} {AG AF AR Am : Option Addr} {cg cf cr cm : Nat} {r : DyR} {F : Nat} {M : List Int}
set_option maxHeartbeats 16000000 in
theorem rafter_ok (h0 : DyI w0 AG AF AR r) (hb0 : Below w0.heap.size w0 w) (hs : DyS r) (ok : DyOk r) (ts : TrS r) (st : StOk r F M) (rj : RdJ w Am r.ng (fun i => M.getD i 0)) :
   Calls Tryz.prog 51 #[dyv r AG cg AF cf AR cr, .agg #[.int .i64 (F : Int), .slice Am r.ng cm]] w fun x w' => AftRet w0.heap.size w.heap.size r.ng (r.tr.nx (F, M) r.v.toNat) x w' ∧ Below w.heap.size w w' := by
 have h := h0.below hb0
 have hw0 := hb0.size
 obtain ⟨v, hv⟩ : ∃ v : Nat, r.v = v := ⟨r.v.toNat, by have := ok.v1; omega⟩
 have v24 : v ≤ 24 := by have := ok.v2; omega
 have n64 := ok.ng
 have hvn : r.v.toNat = v := by rw [hv]; rfl
 have KRt := Lib.hid (fun X (i : Nat) (hX : Below w.heap.size w X) (hi : i < v) => rrate_ok (w := X) (e := i) (cg := cg) (cf := cf) (cr := cr) (cm := cm) h0 (hb0.trans (hX.mono hw0)) hs ok st (rj.below hX) (by omega))
 have KFa := Lib.hid (fun X (i : Nat) (hX : Below w.heap.size w X) (hi : i < v) (hp : 0 < r.tr.fr (F, M) i) => rfail_ok (w := X) (e := i) (cg := cg) (cf := cf) (cr := cr) (cm := cm) (h.below hX) ok st (rj.below hX) (by omega) (by
   cases hb : F.testBit i
   · rfl
   · have := Tr.fr_no (t := r.tr) (s := (F, M)) hb
     rw [this] at hp
     exact absurd hp (by decide)))
 have KRe : Hid (∀ X (i : Nat), Below w.heap.size w X → i < v → 0 < r.tr.rr (F, M) i → Calls Tryz.prog 93 #[dyv r AG cg AF cf AR cr, .agg #[.int .i64 (F : Int), .slice Am r.ng cm], .int .i64 (i : Int)] X fun x w' => RSt2 X.heap.size r.ng (stR r.dy (F, M) i) x w' ∧ Below X.heap.size X w') := by
   show ∀ X, _
   intro X i hX hi hp
   have hb : F.testBit i = true := by
     cases hb : F.testBit i
     · have := Tr.rr_no (t := r.tr) (s := (F, M)) hb
       rw [this] at hp
       exact absurd hp (by decide)
     · rfl
   have hh : heldD r.dy (F, M) i = false := by
     cases hh : heldD r.dy (F, M) i
     · rfl
     · have := Tr.rr_held (t := r.tr) (s := (F, M)) hh
       rw [this] at hp
       exact absurd hp (by decide)
   refine (rrepair_ok (w := X) (e := i) (cg := cg) (cf := cf) (cr := cr) (cm := cm) (h.below hX) ok st (rj.below hX) (by omega) hb).mono fun x w' hx => ⟨?_, hx.2⟩
   rcases hx.1 with ⟨h1, -⟩ | ⟨-, h1⟩
   · rw [hh] at h1; cases h1
   · exact h1
 have HZ : Hid (∀ i, i < v → (0 ≤ r.tr.fr (F, M) i ∧ 0 ≤ r.tr.rr (F, M) i) ∧ (0 < r.tr.fr (F, M) i → r.tr.rr (F, M) i = 0)) := fun i hi => ⟨⟨(ts.fr n64 (by omega)).1, (ts.rr (by omega)).1⟩, fun hp => by
   cases hb : F.testBit i
   · exact Tr.rr_no (t := r.tr) (s := (F, M)) hb
   · have := Tr.fr_no (t := r.tr) (s := (F, M)) hb
     rw [this] at hp
     exact absurd hp (by decide)⟩
 have HNX : Hid (∀ i, r.tr.nx (F, M) (i + 1) = r.tr.nx (F, M) i ++ ((if 0 < r.tr.fr (F, M) i then [(stF r.dy (F, M) i, r.tr.fr (F, M) i)] else []) ++ (if 0 < r.tr.rr (F, M) i then [(stR r.dy (F, M) i, r.tr.rr (F, M) i)] else []))) := fun i => rfl
 have HNL : Hid (∀ i, i ≤ v → (r.tr.nx (F, M) i).length ≤ 48) := fun i hi => by
   have := Tr.nx_len r.tr (F, M) i
   omega
 have HN0 : Hid (r.tr.nx (F, M) 0 = []) := rfl
 rw [hvn]
 obtain ⟨P, hP⟩ : ∃ P : Nat → List (DS × Rat), P = fun i => r.tr.nx (F, M) i := ⟨_, rfl⟩
 obtain ⟨fr, hfr⟩ : ∃ fr : Nat → Rat, fr = fun i => r.tr.fr (F, M) i := ⟨_, rfl⟩
 obtain ⟨rr, hrr⟩ : ∃ rr : Nat → Rat, rr = fun i => r.tr.rr (F, M) i := ⟨_, rfl⟩
 obtain ⟨SF, hSF⟩ : ∃ SF : Nat → DS, SF = fun i => stF r.dy (F, M) i := ⟨_, rfl⟩
 obtain ⟨SR, hSR⟩ : ∃ SR : Nat → DS, SR = fun i => stR r.dy (F, M) i := ⟨_, rfl⟩
 have e1 : ∀ i, r.tr.nx (F, M) i = P i := fun i => by rw [hP]
 have e2 : ∀ i, r.tr.fr (F, M) i = fr i := fun i => by rw [hfr]
 have e3 : ∀ i, r.tr.rr (F, M) i = rr i := fun i => by rw [hrr]
 have e4 : ∀ i, stF r.dy (F, M) i = SF i := fun i => by rw [hSF]
 have e5 : ∀ i, stR r.dy (F, M) i = SR i := fun i => by rw [hSR]
 simp only [e1, e2, e3, e4, e5] at *
 unfold dyv at KRt KFa KRe ⊢
 rw [hv] at KRt KFa KRe ⊢
 clear h h0 hs ok ts st rj e1 e2 e3 e4 e5 hP hfr hrr hSF hSR hvn
 obtain ⟨W, hW⟩ : ∃ W, W = ((w.alloc (.cells #[.int .i64 (v : Int), .slice AG r.ng cg, .int .i64 r.top, .slice AF r.nf cf, .slice AR r.nr cr] 25)).alloc (.cells #[.int .i64 (F : Int), .slice Am r.ng cm] 45)) := ⟨_, rfl⟩
 have hbA : Below w.heap.size w W := by rw [hW]; exact (by (skip); repeat' (first | (with_reducible first | exact BlR _ _ | assumption | refine BlA ?_ ?_ _ | refine BlD ?_ | refine BlN ?_ _ | refine BlS ?_ ?_ _ | refine BlT ?_ (BlM (by assumption) ?_)) | omega | (simp only [ZZ]; omega) | go_size))
 have hbAz : W.heap.size = w.heap.size + 2 := by rw [hW]; simp
 have x0 : W.cell? ⟨w.heap.size, 0, none⟩ = some (.int .i64 (v : Int)) := by rw [hW]; simp [go_sem]
 have x1 : W.cell? ⟨w.heap.size, 1, none⟩ = some (.slice AG r.ng cg) := by rw [hW]; simp [go_sem]
 have x2 : W.cell? ⟨w.heap.size, 2, none⟩ = some (.int .i64 r.top) := by rw [hW]; simp [go_sem]
 have x3 : W.cell? ⟨w.heap.size, 3, none⟩ = some (.slice AF r.nf cf) := by rw [hW]; simp [go_sem]
 have x4 : W.cell? ⟨w.heap.size, 4, none⟩ = some (.slice AR r.nr cr) := by rw [hW]; simp [go_sem]
 have y0 : W.cell? ⟨w.heap.size + 1, 0, none⟩ = some (.int .i64 (F : Int)) := by rw [hW]; simp [go_sem]
 have y1 : W.cell? ⟨w.heap.size + 1, 1, none⟩ = some (.slice Am r.ng cm) := by rw [hW]; simp [go_sem]
 have HBA := Lib.hid hbA
 have HW := Lib.hid hW
 clear hW hbA
 go_enter Tryz.func51, Tryz.ntmps51
 go_upto_region 1 with fail
 rw [← HW.out]
 go_wp2_with fail
 clear HW
 go_loopw [6, 7, 18] (fun sv rv' j wr => ∃ (i : Nat) (As : Option Addr) (cs : Nat) (Ar : Option Addr) (cr' : Nat), i ≤ v ∧ sv = .slice As (P i).length cs ∧ rv' = .slice Ar (P i).length cr' ∧ j = .int .i64 (i : Int) ∧ OwS wr w0.heap.size As cs r.ng ((P i).map (·.1)) ∧ OwL wr w0.heap.size 70000 Ar cr' ((P i).map (·.2)) ∧ (∀ k, (Value.slice As (P i).length cs).ownBlock = some k → W.heap.size ≤ k) ∧ (∀ k, (Value.slice Ar (P i).length cr').ownBlock = some k → W.heap.size ≤ k) ∧ Below W.heap.size W wr) (fun _ _ j _ => v - (intOf j).toNat)
 case atStart =>
   refine ⟨0, none, 0, none, 0, Nat.zero_le _, by rw [HN0.out]; rfl, by rw [HN0.out]; rfl, rfl, by rw [HN0.out]; exact ⟨fun _ => .nilIface, fun k hk => by simp at hk, own_nil _ _ _ 2⟩, by rw [HN0.out]; exact OwL.nil_ _ _ _, fun k hk => (by cases hk), fun k hk => (by cases hk), Below.refl _ _⟩
 case round =>
   obtain ⟨i, As, cs, Ar, cr', hi, rfl, rfl, rfl, os, ol, hos, hol, hb⟩ := hrel
   obtain ⟨wo, rfl⟩ : ∃ wo : World, wo = wr := ⟨_, rfl⟩
   have hbz := hb.size
   have hbw : Below w.heap.size w wo := HBA.out.trans (hb.mono (by omega))
   have HOS := Lib.hid os
   have HOL := Lib.hid ol
   have HOSK := Lib.hid hos
   have HOLK := Lib.hid hol
   have HB := Lib.hid hb
   clear os ol hos hol
   by_cases hiv : i < v
   · have v0 := (below_at hb w.heap.size 0 (by omega)).trans x0
     have v1 := (below_at hb w.heap.size 1 (by omega)).trans x1
     have v2 := (below_at hb w.heap.size 2 (by omega)).trans x2
     have v3 := (below_at hb w.heap.size 3 (by omega)).trans x3
     have v4 := (below_at hb w.heap.size 4 (by omega)).trans x4
     have u0 := (below_at hb (w.heap.size + 1) 0 (by omega)).trans y0
     have u1 := (below_at hb (w.heap.size + 1) 1 (by omega)).trans y1
     have K := Lib.hid (KRt.out wo i hbw hiv)
     obtain ⟨⟨hf0, hr0⟩, hfr⟩ := HZ.out i hiv
     have HNXI := Lib.hid (HNX.out i)
     have hnl := HNL.out i hi
     have hiv2 : (i : Int) < (v : Int) := by omega
     clear hb
     go_wp2_with fail
     refine K.out.mono ?_
     rintro x w1 ⟨⟨V1, V2, rfl, hl1, hl2⟩, hb1⟩
     obtain ⟨s5, A5, n5, c5, B5, m5, d5, rfl⟩ := hl1.form
     obtain ⟨s6, A6, n6, c6, B6, m6, d6, rfl⟩ := hl2.form
     have hb1z := hb1.size
     obtain ⟨W1, hW1⟩ : ∃ W1, W1 = w1.alloc (.cells #[.bool s5, .slice A5 n5 c5, .slice B5 m5 d5] 56) := ⟨_, rfl⟩
     obtain ⟨W2, hW2⟩ : ∃ W2, W2 = W1.alloc (.cells #[.bool s6, .slice A6 n6 c6, .slice B6 m6 d6] 56) := ⟨_, rfl⟩
     have hz1 : W1.heap.size = w1.heap.size + 1 := by rw [hW1]; simp
     have hz2 : W2.heap.size = w1.heap.size + 2 := by rw [hW2]; simp; omega
     have b11 : Below w1.heap.size w1 W1 := by rw [hW1]; exact (Below.refl _ _).alloc (Nat.le_refl _) _
     have b12 : Below W1.heap.size W1 W2 := by rw [hW2]; exact (Below.refl _ _).alloc (Nat.le_refl _) _
     have vq1 : VarQ w1.heap.size w0.heap.size 70000 (fr i) W2 := by
       have : VarQ w1.heap.size w0.heap.size 70000 (fr i) W1 := by rw [hW1]; exact VarQ.new_ (by omega) hl1
       exact this.below b12
     have vq2 : VarQ (w1.heap.size + 1) w0.heap.size 70000 (rr i) W2 := by
       rw [hW2, show w1.heap.size + 1 = W1.heap.size by omega]
       exact VarQ.new_ (by omega) (hl2.below b11)
     have hb2 : Below wo.heap.size wo W2 := hb1.trans ((b11.mono (by omega)).trans (b12.mono (by omega)))
     have HB2 := Lib.hid hb2
     have HVQ1 := Lib.hid vq1
     have HVQ2 := Lib.hid vq2
     have HWW : Hid (W2 = (w1.alloc (.cells #[.bool s5, .slice A5 n5 c5, .slice B5 m5 d5] 56)).alloc (.cells #[.bool s6, .slice A6 n6 c6, .slice B6 m6 d6] 56)) := by show _ = _; rw [hW2, hW1]
     obtain ⟨q1, q2, q3, q4, q5, q6, q7, p0, p1, p2, hq, -⟩ := vq1.form3
     have KS1 := Lib.hid (rsignQ hq.rq (by omega) (by omega))
     clear hW1 hW2 b11 b12 vq1 vq2 hb1 hl1 hl2 hq v0 v1 v2 v3 v4 u0 u1 K
     go_upto_region 7 with fail
     rw [← HWW.out]
     clear HWW
     go_wp2_with fail
     refine KS1.out.mono ?_
     rintro x w3 ⟨rfl, hb3⟩
     have hb3z := hb3.size
     have HB3 := Lib.hid (HB2.out.trans (hb3.mono (by omega)))
     have HV1 := Lib.hid (HVQ1.out.below hb3)
     have HV2 := Lib.hid (HVQ2.out.below hb3)
     clear p0 p1 p2 HVQ1 HVQ2 hb3 hb2 HB2 KS1
     have hbW3 : Below W.heap.size W w3 := HB.out.trans (HB3.out.mono (by omega))
     have hbw3 : Below w.heap.size w w3 := HBA.out.trans (hbW3.mono (by omega))
     by_cases hfp : 0 < fr i
     · have hsg : sgnQ (fr i) = 1 := sgn_pos hfp
       rw [hsg]
       have hrz := hfr hfp
       have HPS : Hid (P (i + 1) = P i ++ [(SF i, fr i)]) := by
         show _ = _
         rw [HNXI.out, if_pos hfp, hrz, if_neg (by decide)]
         simp
       rw [hrz] at HV2
       have v0 := (below_at hbW3 w.heap.size 0 (by omega)).trans x0
       have v1 := (below_at hbW3 w.heap.size 1 (by omega)).trans x1
       have v2 := (below_at hbW3 w.heap.size 2 (by omega)).trans x2
       have v3 := (below_at hbW3 w.heap.size 3 (by omega)).trans x3
       have v4 := (below_at hbW3 w.heap.size 4 (by omega)).trans x4
       have u0 := (below_at hbW3 (w.heap.size + 1) 0 (by omega)).trans y0
       have u1 := (below_at hbW3 (w.heap.size + 1) 1 (by omega)).trans y1
       have K := Lib.hid (KFa.out w3 i hbw3 hiv hfp)
       generalize SF i = S at *
       generalize fr i = fq at *
       clear hfr hsg hrz hf0 hr0 HNXI hbw3
       go_wp2_with fail
       refine K.out.mono ?_
       rintro x w4 ⟨⟨A7, c7, rfl, oj⟩, hb4⟩
       have hb4z := hb4.size
       obtain ⟨W5, hW5⟩ : ∃ W5, W5 = w4.alloc (.cells #[.int .i64 (S.1 : Nat), .slice A7 r.ng c7] 45) := ⟨_, rfl⟩
       have hz5 : W5.heap.size = w4.heap.size + 1 := by rw [hW5]; simp
       have b45 : Below w4.heap.size w4 W5 := by rw [hW5]; exact (Below.refl _ _).alloc (Nat.le_refl _) _
       have b35 : Below w3.heap.size w3 W5 := hb4.trans (b45.mono (by omega))
       have t0 : W5.cell? ⟨w4.heap.size, 0, none⟩ = some (.int .i64 (S.1 : Nat)) := by rw [hW5]; exact (World.cell?_alloc_at _ _ _ _ rfl).trans rfl
       have t1 : W5.cell? ⟨w4.heap.size, 1, none⟩ = some (.slice A7 r.ng c7) := by rw [hW5]; exact (World.cell?_alloc_at _ _ _ _ rfl).trans rfl
       have HRK := Lib.hid ((oj.below b45).rg w0.heap.size)
       have HV15 := Lib.hid (HV1.out.below b35)
       have HV25 := Lib.hid (HV2.out.below b35)
       have hb5 : Below W.heap.size W W5 := hbW3.trans (b35.mono (by omega))
       have HB5 := Lib.hid hb5
       have ho5 : Below wo.heap.size wo W5 := HB3.out.trans (b35.mono (by omega))
       have HOS5 := Lib.hid (HOS.out.below ho5)
       have HOL5 := Lib.hid (HOL.out.below ho5)
       have HW5 := Lib.hid hW5
       clear hW5 b45 b35 v0 v1 v2 v3 v4 u0 u1 HV1 HV2 HB3 hb4 oj K hbW3 hb5
       go_upto_region 9 with fail
       rw [← HW5.out]
       clear HW5
       obtain ⟨s8, A8, n8, c8, B8, m8, d8, p0, p1, p2, hq8, -⟩ := HV15.out.form3
       have HQ8 := Lib.hid hq8
       obtain ⟨SL, hSL⟩ : ∃ SL, SL = (P i).map (·.1) := ⟨_, rfl⟩
       obtain ⟨QL, hQL⟩ : ∃ QL, QL = (P i).map (·.2) := ⟨_, rfl⟩
       obtain ⟨n, hn⟩ : ∃ n, n = (P i).length := ⟨_, rfl⟩
       have HSN : Hid (SL.length = n) := by show _ = _; rw [hSL, hn, List.length_map]
       have HQN : Hid (QL.length = n) := by show _ = _; rw [hQL, hn, List.length_map]
       have HNN : Hid ((P (i + 1)).length = n + 1 ∧ (P (i + 1)).map (·.1) = SL ++ [S] ∧ (P (i + 1)).map (·.2) = QL ++ [fq]) := by
         show _ ∧ _
         rw [HPS.out, hSL, hQL, hn]
         simp
       rw [← hSL] at HOS5
       rw [← hQL] at HOL5
       rw [← hn] at HOSK HOLK hnl
       rw [← hn]
       have HLS := Lib.hid (HOS.out.lt (m := n))
       have HLL := Lib.hid (HOL.out.lt (m := n))
       clear hSL hQL hn HOS HOL hq8 HPS
       go_cut [6, 7] from 39 to 46 (fun a b wx => ∃ (As' : Option Addr) (cs' : Nat) (Ar' : Option Addr) (cr'' : Nat), a = .slice As' (n + 1) cs' ∧ b = .slice Ar' (n + 1) cr'' ∧ OwS wx w0.heap.size As' cs' r.ng (SL ++ [S]) ∧ OwL wx w0.heap.size 70000 Ar' cr'' (QL ++ [fq]) ∧ (∀ k, (Value.slice As' (n + 1) cs').ownBlock = some k → W.heap.size ≤ k) ∧ (∀ k, (Value.slice Ar' (n + 1) cr'').ownBlock = some k → W.heap.size ≤ k) ∧ Below W.heap.size W wx ∧ VarQ (w1.heap.size + 1) w0.heap.size 70000 0 wx)
       case first =>
         clear HNN x0 x1 x2 x3 x4 y0 y1
         have HSZ0 : Hid (w0.heap.size ≤ W5.heap.size ∧ W.heap.size ≤ W5.heap.size ∧ w4.heap.size < W5.heap.size ∧ w1.heap.size < W5.heap.size) := ⟨by omega, by omega, by omega, by omega⟩
         have ne1 : ¬ w1.heap.size = W5.heap.size := by omega
         have ne2 : ¬ W5.heap.size = w1.heap.size := by omega
         have aw0 := (World.cell?_alloc_past (w := W5) (.cells #[.int .i64 (S.1 : Nat), .slice A7 r.ng c7] 45) w1.heap.size 0 HSZ0.out.2.2.2).trans p0
         have aw1 := (World.cell?_alloc_past (w := W5) (.cells #[.int .i64 (S.1 : Nat), .slice A7 r.ng c7] 45) w1.heap.size 1 HSZ0.out.2.2.2).trans p1
         have aw2 := (World.cell?_alloc_past (w := W5) (.cells #[.int .i64 (S.1 : Nat), .slice A7 r.ng c7] 45) w1.heap.size 2 HSZ0.out.2.2.2).trans p2
         have ne3 : ¬ w4.heap.size = W5.heap.size := by omega
         have ne4 : ¬ W5.heap.size = w4.heap.size := by omega
         have bw0 := (World.cell?_alloc_past (w := W5) (.cells #[.bool s8, .slice A8 n8 c8, .slice B8 m8 d8] 56) w4.heap.size 0 HSZ0.out.2.2.1).trans t0
         have bw1 := (World.cell?_alloc_past (w := W5) (.cells #[.bool s8, .slice A8 n8 c8, .slice B8 m8 d8] 56) w4.heap.size 1 HSZ0.out.2.2.1).trans t1
         have hwo5 : wo.heap.size ≤ W5.heap.size := by omega
         clear hz5
         go_region_law (first
           | (refine step_appSt (b0 := w0.heap.size) (ng := r.ng) (l := SL) (A := As) (c := cs) rfl (.tmp 39) (.tmp 41) rfl W.heap.size n HSN.out S ?_ ?_ HOSK.out ?_ (.slice A7 r.ng c7) ?_ ?_ ?_ (by omega) ?_ ?_ ?_
              rotate_left 4
              (focus ((first | rfl | (simp [Act.eval]; rfl))))
              (focus ((first | (simp [go_sem]; done) | (simp [go_sem, *]; done) | (refine ⟨(jL _ _ ?_ ?_).trans ?_, (jL _ _ ?_ ?_).trans ?_⟩ <;> (first | (simp; done) | (simp; omega) | (simp [go_sem]; done) | (exact (World.cell?_alloc_at _ _ _ _ (by simp)).trans rfl) | (exact (World.cell?_alloc_at _ _ _ _ rfl).trans rfl))))))
              (focus ((have := HSZ0.out; simp; omega)))
              (focus ((have := HSZ0.out; simp; omega)))
              rotate_left 1
              (focus ((simp [Act.eval]; done)))
              (focus ((repeat' (first | (with_reducible exact HOS5.out) | (with_reducible refine OwS.alloc_ ?_ _) | (with_reducible refine OwS.drew_ ?_) | (with_reducible refine OwS.grL ?_ hgL preL)))))
              (focus ((repeat' (first | (with_reducible exact HRK.out) | (with_reducible refine RdK.alloc_ ?_ _) | (with_reducible refine RdK.drew_ ?_) | (with_reducible refine RdK.grL ?_ hgL preL)))))
              intro gS cS wS preS ownS hgS hS0
              have zS := hgS.size
              (try simp only [World.size_alloc, World.size_drew] at zS)
              have jS := fun b o hb (h : wo.heap.size ≤ b) => (gr_cell (b := b) (i := o) hgS hb (fun e => by have := HLS.out _ e.symm; omega)).1
              (try (have m0' : wS.cell? ⟨W5.heap.size + 1, 0, none⟩ = some (.bool s8) := by
                       refine (jS (W5.heap.size + 1) 0 ?_ (by omega)).trans ?_
                       (focus (first | (simp; done) | (simp; omega)))
                       (first | (refine (World.cell?_alloc_at _ _ _ _ ?_).trans ?_; (focus (simp; done)); (focus rfl)) | (simp [go_sem]; done) | (refine (World.cell?_alloc_past _ _ _ ?_).trans ((World.cell?_alloc_at _ _ _ _ ?_).trans ?_); (focus (simp; done)); (focus (first | rfl | (simp; done))); (focus rfl)) | fail)))
              (try (have m1' : wS.cell? ⟨W5.heap.size + 1, 1, none⟩ = some (.slice A8 n8 c8) := by
                       refine (jS (W5.heap.size + 1) 1 ?_ (by omega)).trans ?_
                       (focus (first | (simp; done) | (simp; omega)))
                       (first | (refine (World.cell?_alloc_at _ _ _ _ ?_).trans ?_; (focus (simp; done)); (focus rfl)) | (simp [go_sem]; done) | (refine (World.cell?_alloc_past _ _ _ ?_).trans ((World.cell?_alloc_at _ _ _ _ ?_).trans ?_); (focus (simp; done)); (focus (first | rfl | (simp; done))); (focus rfl)) | fail)))
              (try (have m2' : wS.cell? ⟨W5.heap.size + 1, 2, none⟩ = some (.slice B8 m8 d8) := by
                       refine (jS (W5.heap.size + 1) 2 ?_ (by omega)).trans ?_
                       (focus (first | (simp; done) | (simp; omega)))
                       (first | (refine (World.cell?_alloc_at _ _ _ _ ?_).trans ?_; (focus (simp; done)); (focus rfl)) | (simp [go_sem]; done) | (refine (World.cell?_alloc_past _ _ _ ?_).trans ((World.cell?_alloc_at _ _ _ _ ?_).trans ?_); (focus (simp; done)); (focus (first | rfl | (simp; done))); (focus rfl)) | fail)))
              (try (have n0' : wS.cell? ⟨W5.heap.size, 0, none⟩ = some (.bool s8) := by
                       refine (jS (W5.heap.size) 0 ?_ (by omega)).trans ?_
                       (focus (first | (simp; done) | (simp; omega)))
                       (first | (refine (World.cell?_alloc_at _ _ _ _ ?_).trans ?_; (focus (simp; done)); (focus rfl)) | (simp [go_sem]; done) | (refine (World.cell?_alloc_past _ _ _ ?_).trans ((World.cell?_alloc_at _ _ _ _ ?_).trans ?_); (focus (simp; done)); (focus (first | rfl | (simp; done))); (focus rfl)) | fail)))
              (try (have n1' : wS.cell? ⟨W5.heap.size, 1, none⟩ = some (.slice A8 n8 c8) := by
                       refine (jS (W5.heap.size) 1 ?_ (by omega)).trans ?_
                       (focus (first | (simp; done) | (simp; omega)))
                       (first | (refine (World.cell?_alloc_at _ _ _ _ ?_).trans ?_; (focus (simp; done)); (focus rfl)) | (simp [go_sem]; done) | (refine (World.cell?_alloc_past _ _ _ ?_).trans ((World.cell?_alloc_at _ _ _ _ ?_).trans ?_); (focus (simp; done)); (focus (first | rfl | (simp; done))); (focus rfl)) | fail)))
              (try (have n2' : wS.cell? ⟨W5.heap.size, 2, none⟩ = some (.slice B8 m8 d8) := by
                       refine (jS (W5.heap.size) 2 ?_ (by omega)).trans ?_
                       (focus (first | (simp; done) | (simp; omega)))
                       (first | (refine (World.cell?_alloc_at _ _ _ _ ?_).trans ?_; (focus (simp; done)); (focus rfl)) | (simp [go_sem]; done) | (refine (World.cell?_alloc_past _ _ _ ?_).trans ((World.cell?_alloc_at _ _ _ _ ?_).trans ?_); (focus (simp; done)); (focus (first | rfl | (simp; done))); (focus rfl)) | fail)))
              (try (have k0 := (jS w1.heap.size 0 (by have := HSZ0.out; simp; omega) (by omega)).trans ((below_at (B := W5.heap.size) (W := W5) (by (skip); repeat' (first | (with_reducible first | exact BlR _ _ | assumption | refine BlA ?_ ?_ _ | refine BlD ?_ | refine BlN ?_ _ | refine BlS ?_ ?_ _ | refine BlT ?_ (BlM (by assumption) ?_)) | omega | (simp only [ZZ]; omega) | go_size)) w1.heap.size 0 (by have := HSZ0.out; omega)).trans p0)))
              (try (have k1 := (jS w1.heap.size 1 (by have := HSZ0.out; simp; omega) (by omega)).trans ((below_at (B := W5.heap.size) (W := W5) (by (skip); repeat' (first | (with_reducible first | exact BlR _ _ | assumption | refine BlA ?_ ?_ _ | refine BlD ?_ | refine BlN ?_ _ | refine BlS ?_ ?_ _ | refine BlT ?_ (BlM (by assumption) ?_)) | omega | (simp only [ZZ]; omega) | go_size)) w1.heap.size 1 (by have := HSZ0.out; omega)).trans p1)))
              (try (have k2 := (jS w1.heap.size 2 (by have := HSZ0.out; simp; omega) (by omega)).trans ((below_at (B := W5.heap.size) (W := W5) (by (skip); repeat' (first | (with_reducible first | exact BlR _ _ | assumption | refine BlA ?_ ?_ _ | refine BlD ?_ | refine BlN ?_ _ | refine BlS ?_ ?_ _ | refine BlT ?_ (BlM (by assumption) ?_)) | omega | (simp only [ZZ]; omega) | go_size)) w1.heap.size 2 (by have := HSZ0.out; omega)).trans p2))))
           | (refine step_appL (b0 := w0.heap.size) (L := 70000) (qs := QL) (A := Ar) (c := cr') rfl (.tmp 43) (.tmp 45) rfl W.heap.size n HQN.out ?_ ?_ HOLK.out ?_ s8 A8 n8 c8 B8 m8 d8 fq ?_ ?_ ?_ (by omega) ?_ ?_ ?_
              rotate_left 4
              (focus ((first | rfl | (simp [Act.eval]; rfl))))
              (focus ((first | (simp [go_sem]; done) | (simp [go_sem, *]; done) | (exact ⟨m0', m1', m2'⟩) | (exact ⟨n0', n1', n2'⟩))))
              (focus ((have := HSZ0.out; simp; omega)))
              (focus ((have := HSZ0.out; simp; omega)))
              rotate_left 1
              (focus ((simp [Act.eval]; done)))
              (focus ((repeat' (first | (with_reducible exact HOL5.out) | (with_reducible refine OwL.alloc_ ?_ _) | (with_reducible refine OwL.drew_ ?_) | (with_reducible refine OwL.grS ?_ hgS preS)))))
              (focus ((repeat' (first | (with_reducible exact HQ8.out) | (with_reducible refine RdL.alloc_ ?_ _) | (with_reducible refine RdL.drew_ ?_) | (with_reducible refine RdL.grS ?_ hgS preS)))))
              intro gL cL wL preL ownL hgL hL0
              have zL := hgL.size
              (try simp only [World.size_alloc, World.size_drew] at zL)
              have jL := fun b o hb (h : wo.heap.size ≤ b) => (gr_cell (b := b) (i := o) hgL hb (fun e => by have := HLL.out _ e.symm; omega)).1)
           | fail)
         all_goals
           have hsz := HSZ0.out
           have bS := (Below.refl W.heap.size _).grown hgS (by simp; omega) (fun k hk => HOSK.out k hk)
           have bL := (Below.refl W.heap.size _).grown hgL (by first | omega | (simp; done) | (simp; omega)) (fun k hk => HOLK.out k hk)
           have hfin : OwS wL w0.heap.size (some ⟨gS, 0, none⟩) cS r.ng (SL ++ [S]) := by
             refine OwS.grL ?_ hgL preL
             repeat' (first | (with_reducible exact ownS) | (with_reducible refine OwS.alloc_ ?_ _) | (with_reducible refine OwS.drew_ ?_))
           have hbel : Below W.heap.size W wL := by
             refine (HB5.out).trans (Below.trans ?_ bL)
             repeat' (first | (with_reducible refine Below.trans ?_ bS) | (with_reducible exact Below.refl _ _) | (with_reducible refine Below.alloc ?_ ?_ _) | (with_reducible refine Below.drew ?_) | omega | (simp; omega))
           have hvar : VarQ (w1.heap.size + 1) w0.heap.size 70000 0 wL := by
             refine VarQ.grown ?_ hgL (preL.notIm n) (fun e => by have := HLL.out _ e.symm; omega)
             repeat' (first | (with_reducible exact HV25.out) | (with_reducible refine VarQ.alloc_ ?_ _) | (with_reducible refine VarQ.drew_ ?_) | (with_reducible refine VarQ.grown ?_ hgS (preS.notIm n) (fun e => by have := HLS.out _ e.symm; omega)))
           have HFIN : Hid (OwS wL w0.heap.size (some ⟨gS, 0, none⟩) cS r.ng (SL ++ [S]) ∧ OwL wL w0.heap.size 70000 (some ⟨gL, 0, none⟩) cL (QL ++ [fq]) ∧ Below W.heap.size W wL ∧ VarQ (w1.heap.size + 1) w0.heap.size 70000 0 wL) := ⟨hfin, ownL, hbel, hvar⟩
           clear hfin hbel hvar bS bL ownS ownL preS preL hgS hgL
           go_wp2_with fail
           go_meet
           case rel => exact ⟨some ⟨gS, 0, none⟩, cS, some ⟨gL, 0, none⟩, cL, rfl, rfl, HFIN.out.1, HFIN.out.2.1, fun k hk => (by injection hk with hk; rw [← hk]; exact hS0), fun k hk => (by injection hk with hk; rw [← hk]; exact hL0), HFIN.out.2.2.1, HFIN.out.2.2.2⟩
       case rest =>
         obtain ⟨As', cs', Ar', cr'', rfl, rfl, os', ol', hos', hol', hbx, hvx⟩ := hcut
         obtain ⟨z1, z2, z3, z4, z5, z6, z7, p0', p1', p2', hz, -⟩ := hvx.form3
         have KS := Lib.hid (rsignQ hz.rq (by omega) (by omega))
         have e0 : sgnQ 0 = 0 := rfl
         rw [e0] at KS
         have HR : Hid (OwS wc w0.heap.size As' cs' r.ng (SL ++ [S]) ∧ OwL wc w0.heap.size 70000 Ar' cr'' (QL ++ [fq])) := ⟨os', ol'⟩
         have HBX := Lib.hid hbx
         have HK1 := Lib.hid hos'
         have HK2 := Lib.hid hol'
         clear os' ol' hos' hol' hbx hvx hz p0 p1 p2 t0 t1 HV15 HV25 HOS5 HOL5 HB5 e0
         go_wp2_with fail
         refine KS.out.mono ?_
         rintro x w6 ⟨rfl, hb6⟩
         have HREL : Hid (OwS w6 w0.heap.size As' cs' r.ng ((P (i + 1)).map (·.1)) ∧ OwL w6 w0.heap.size 70000 Ar' cr'' ((P (i + 1)).map (·.2)) ∧ Below W.heap.size W w6) := by
           show _ ∧ _
           rw [HNN.out.2.1, HNN.out.2.2]
           exact ⟨HR.out.1.below hb6, HR.out.2.below hb6, HBX.out.trans (hb6.mono HBX.out.size)⟩
         have hNN := HNN.out.1
         clear hb6 KS
         go_wp2_with fail
         go_roundw
         case rel => exact ⟨i + 1, As', cs', Ar', cr'', by omega, by rw [HNN.out.1], by rw [HNN.out.1], by go_num, HREL.out.1, HREL.out.2.1, by rw [HNN.out.1]; exact HK1.out, by rw [HNN.out.1]; exact HK2.out, HREL.out.2.2⟩
         case measure => simp [intOf]; omega
     · have hfz : fr i = 0 := Rat.le_antisymm (Rat.not_lt.1 hfp) hf0
       rw [hfz]
       have e0 : sgnQ 0 = 0 := rfl
       rw [e0]
       obtain ⟨z1, z2, z3, z4, z5, z6, z7, p0', p1', p2', hz, -⟩ := HV2.out.form3
       have KS := Lib.hid (rsignQ hz.rq (by omega) (by omega))
       have HNY := Lib.hid (HNXI.out.trans (by rw [if_neg hfp, List.nil_append]))
       clear HNXI hz e0 hfz hbW3 hfr HV1 hbw3
       go_wp2_with fail
       refine KS.out.mono ?_
       rintro x w7 ⟨rfl, hb7⟩
       have hb7z := hb7.size
       have HB7 := Lib.hid (HB3.out.trans (hb7.mono (by omega)))
       have HVB := Lib.hid (HV2.out.below hb7)
       clear p0' p1' p2' hb7 KS HB3 HV2
       have hbW7 : Below W.heap.size W w7 := HB.out.trans (HB7.out.mono (by omega))
       have hbw7 : Below w.heap.size w w7 := HBA.out.trans (hbW7.mono (by omega))
       by_cases hrp : 0 < rr i
       · have hsg : sgnQ (rr i) = 1 := sgn_pos hrp
         rw [hsg]
         have HPS : Hid (P (i + 1) = P i ++ [(SR i, rr i)]) := by
           show _ = _
           rw [HNY.out, if_pos hrp]
         have v0 := (below_at hbW7 w.heap.size 0 (by omega)).trans x0
         have v1 := (below_at hbW7 w.heap.size 1 (by omega)).trans x1
         have v2 := (below_at hbW7 w.heap.size 2 (by omega)).trans x2
         have v3 := (below_at hbW7 w.heap.size 3 (by omega)).trans x3
         have v4 := (below_at hbW7 w.heap.size 4 (by omega)).trans x4
         have u0 := (below_at hbW7 (w.heap.size + 1) 0 (by omega)).trans y0
         have u1 := (below_at hbW7 (w.heap.size + 1) 1 (by omega)).trans y1
         have K := Lib.hid (KRe.out w7 i hbw7 hiv hrp)
         generalize SR i = S at *
         generalize rr i = fq at *
         clear hsg hf0 hr0 HNY hbw7
         go_wp2_with fail
         refine K.out.mono ?_
         rintro x w4 ⟨⟨A7, c7, rfl, oj⟩, hb4⟩
         have hb4z := hb4.size
         obtain ⟨W5, hW5⟩ : ∃ W5, W5 = w4.alloc (.cells #[.int .i64 (S.1 : Nat), .slice A7 r.ng c7] 45) := ⟨_, rfl⟩
         have hz5 : W5.heap.size = w4.heap.size + 1 := by rw [hW5]; simp
         have b45 : Below w4.heap.size w4 W5 := by rw [hW5]; exact (Below.refl _ _).alloc (Nat.le_refl _) _
         have b35 : Below w7.heap.size w7 W5 := hb4.trans (b45.mono (by omega))
         have t0 : W5.cell? ⟨w4.heap.size, 0, none⟩ = some (.int .i64 (S.1 : Nat)) := by rw [hW5]; exact (World.cell?_alloc_at _ _ _ _ rfl).trans rfl
         have t1 : W5.cell? ⟨w4.heap.size, 1, none⟩ = some (.slice A7 r.ng c7) := by rw [hW5]; exact (World.cell?_alloc_at _ _ _ _ rfl).trans rfl
         have HRK := Lib.hid ((oj.below b45).rg w0.heap.size)
         have HVB5 := Lib.hid (HVB.out.below b35)
         have hb5 : Below W.heap.size W W5 := hbW7.trans (b35.mono (by omega))
         have HB5 := Lib.hid hb5
         have ho5 : Below wo.heap.size wo W5 := HB7.out.trans (b35.mono (by omega))
         have HOS5 := Lib.hid (HOS.out.below ho5)
         have HOL5 := Lib.hid (HOL.out.below ho5)
         have HW5 := Lib.hid hW5
         clear hW5 b45 b35 v0 v1 v2 v3 v4 u0 u1 HVB HB7 hb4 oj K hbW7 hb5
         go_upto_region 12 with fail
         rw [← HW5.out]
         clear HW5
         obtain ⟨s8, A8, n8, c8, B8, m8, d8, p0, p1, p2, hq8, -⟩ := HVB5.out.form3
         have HQ8 := Lib.hid hq8
         obtain ⟨SL, hSL⟩ : ∃ SL, SL = (P i).map (·.1) := ⟨_, rfl⟩
         obtain ⟨QL, hQL⟩ : ∃ QL, QL = (P i).map (·.2) := ⟨_, rfl⟩
         obtain ⟨n, hn⟩ : ∃ n, n = (P i).length := ⟨_, rfl⟩
         have HSN : Hid (SL.length = n) := by show _ = _; rw [hSL, hn, List.length_map]
         have HQN : Hid (QL.length = n) := by show _ = _; rw [hQL, hn, List.length_map]
         have HNN : Hid ((P (i + 1)).length = n + 1 ∧ (P (i + 1)).map (·.1) = SL ++ [S] ∧ (P (i + 1)).map (·.2) = QL ++ [fq]) := by
           show _ ∧ _
           rw [HPS.out, hSL, hQL, hn]
           simp
         rw [← hSL] at HOS5
         rw [← hQL] at HOL5
         rw [← hn] at HOSK HOLK hnl
         rw [← hn]
         have HLS := Lib.hid (HOS.out.lt (m := n))
         have HLL := Lib.hid (HOL.out.lt (m := n))
         clear hSL hQL hn HOS HOL hq8 HPS
         clear x0 x1 x2 x3 x4 y0 y1
         have HSZ0 : Hid (w0.heap.size ≤ W5.heap.size ∧ W.heap.size ≤ W5.heap.size ∧ w4.heap.size < W5.heap.size ∧ (w1.heap.size + 1) < W5.heap.size) := ⟨by omega, by omega, by omega, by omega⟩
         have ne1 : ¬ (w1.heap.size + 1) = W5.heap.size := by omega
         have ne2 : ¬ W5.heap.size = (w1.heap.size + 1) := by omega
         have aw0 := (World.cell?_alloc_past (w := W5) (.cells #[.int .i64 (S.1 : Nat), .slice A7 r.ng c7] 45) (w1.heap.size + 1) 0 HSZ0.out.2.2.2).trans p0
         have aw1 := (World.cell?_alloc_past (w := W5) (.cells #[.int .i64 (S.1 : Nat), .slice A7 r.ng c7] 45) (w1.heap.size + 1) 1 HSZ0.out.2.2.2).trans p1
         have aw2 := (World.cell?_alloc_past (w := W5) (.cells #[.int .i64 (S.1 : Nat), .slice A7 r.ng c7] 45) (w1.heap.size + 1) 2 HSZ0.out.2.2.2).trans p2
         have ne3 : ¬ w4.heap.size = W5.heap.size := by omega
         have ne4 : ¬ W5.heap.size = w4.heap.size := by omega
         have bw0 := (World.cell?_alloc_past (w := W5) (.cells #[.bool s8, .slice A8 n8 c8, .slice B8 m8 d8] 56) w4.heap.size 0 HSZ0.out.2.2.1).trans t0
         have bw1 := (World.cell?_alloc_past (w := W5) (.cells #[.bool s8, .slice A8 n8 c8, .slice B8 m8 d8] 56) w4.heap.size 1 HSZ0.out.2.2.1).trans t1
         have hwo5 : wo.heap.size ≤ W5.heap.size := by omega
         clear hz5
         go_region_law (first
           | (refine step_appSt (b0 := w0.heap.size) (ng := r.ng) (l := SL) (A := As) (c := cs) rfl (.tmp 57) (.tmp 59) rfl W.heap.size n HSN.out S ?_ ?_ HOSK.out ?_ (.slice A7 r.ng c7) ?_ ?_ ?_ (by omega) ?_ ?_ ?_
              rotate_left 4
              (focus ((first | rfl | (simp [Act.eval]; rfl))))
              (focus ((first | (simp [go_sem]; done) | (simp [go_sem, *]; done) | (refine ⟨(jL _ _ ?_ ?_).trans ?_, (jL _ _ ?_ ?_).trans ?_⟩ <;> (first | (simp; done) | (simp; omega) | (simp [go_sem]; done) | (exact (World.cell?_alloc_at _ _ _ _ (by simp)).trans rfl) | (exact (World.cell?_alloc_at _ _ _ _ rfl).trans rfl))))))
              (focus ((have := HSZ0.out; simp; omega)))
              (focus ((have := HSZ0.out; simp; omega)))
              rotate_left 1
              (focus ((simp [Act.eval]; done)))
              (focus ((repeat' (first | (with_reducible exact HOS5.out) | (with_reducible refine OwS.alloc_ ?_ _) | (with_reducible refine OwS.drew_ ?_) | (with_reducible refine OwS.grL ?_ hgL preL)))))
              (focus ((repeat' (first | (with_reducible exact HRK.out) | (with_reducible refine RdK.alloc_ ?_ _) | (with_reducible refine RdK.drew_ ?_) | (with_reducible refine RdK.grL ?_ hgL preL)))))
              intro gS cS wS preS ownS hgS hS0
              have zS := hgS.size
              (try simp only [World.size_alloc, World.size_drew] at zS)
              have jS := fun b o hb (h : wo.heap.size ≤ b) => (gr_cell (b := b) (i := o) hgS hb (fun e => by have := HLS.out _ e.symm; omega)).1
              (try (have m0' : wS.cell? ⟨W5.heap.size + 1, 0, none⟩ = some (.bool s8) := by
                       refine (jS (W5.heap.size + 1) 0 ?_ (by omega)).trans ?_
                       (focus (first | (simp; done) | (simp; omega)))
                       (first | (refine (World.cell?_alloc_at _ _ _ _ ?_).trans ?_; (focus (simp; done)); (focus rfl)) | (simp [go_sem]; done) | (refine (World.cell?_alloc_past _ _ _ ?_).trans ((World.cell?_alloc_at _ _ _ _ ?_).trans ?_); (focus (simp; done)); (focus (first | rfl | (simp; done))); (focus rfl)) | fail)))
              (try (have m1' : wS.cell? ⟨W5.heap.size + 1, 1, none⟩ = some (.slice A8 n8 c8) := by
                       refine (jS (W5.heap.size + 1) 1 ?_ (by omega)).trans ?_
                       (focus (first | (simp; done) | (simp; omega)))
                       (first | (refine (World.cell?_alloc_at _ _ _ _ ?_).trans ?_; (focus (simp; done)); (focus rfl)) | (simp [go_sem]; done) | (refine (World.cell?_alloc_past _ _ _ ?_).trans ((World.cell?_alloc_at _ _ _ _ ?_).trans ?_); (focus (simp; done)); (focus (first | rfl | (simp; done))); (focus rfl)) | fail)))
              (try (have m2' : wS.cell? ⟨W5.heap.size + 1, 2, none⟩ = some (.slice B8 m8 d8) := by
                       refine (jS (W5.heap.size + 1) 2 ?_ (by omega)).trans ?_
                       (focus (first | (simp; done) | (simp; omega)))
                       (first | (refine (World.cell?_alloc_at _ _ _ _ ?_).trans ?_; (focus (simp; done)); (focus rfl)) | (simp [go_sem]; done) | (refine (World.cell?_alloc_past _ _ _ ?_).trans ((World.cell?_alloc_at _ _ _ _ ?_).trans ?_); (focus (simp; done)); (focus (first | rfl | (simp; done))); (focus rfl)) | fail)))
              (try (have n0' : wS.cell? ⟨W5.heap.size, 0, none⟩ = some (.bool s8) := by
                       refine (jS (W5.heap.size) 0 ?_ (by omega)).trans ?_
                       (focus (first | (simp; done) | (simp; omega)))
                       (first | (refine (World.cell?_alloc_at _ _ _ _ ?_).trans ?_; (focus (simp; done)); (focus rfl)) | (simp [go_sem]; done) | (refine (World.cell?_alloc_past _ _ _ ?_).trans ((World.cell?_alloc_at _ _ _ _ ?_).trans ?_); (focus (simp; done)); (focus (first | rfl | (simp; done))); (focus rfl)) | fail)))
              (try (have n1' : wS.cell? ⟨W5.heap.size, 1, none⟩ = some (.slice A8 n8 c8) := by
                       refine (jS (W5.heap.size) 1 ?_ (by omega)).trans ?_
                       (focus (first | (simp; done) | (simp; omega)))
                       (first | (refine (World.cell?_alloc_at _ _ _ _ ?_).trans ?_; (focus (simp; done)); (focus rfl)) | (simp [go_sem]; done) | (refine (World.cell?_alloc_past _ _ _ ?_).trans ((World.cell?_alloc_at _ _ _ _ ?_).trans ?_); (focus (simp; done)); (focus (first | rfl | (simp; done))); (focus rfl)) | fail)))
              (try (have n2' : wS.cell? ⟨W5.heap.size, 2, none⟩ = some (.slice B8 m8 d8) := by
                       refine (jS (W5.heap.size) 2 ?_ (by omega)).trans ?_
                       (focus (first | (simp; done) | (simp; omega)))
                       (first | (refine (World.cell?_alloc_at _ _ _ _ ?_).trans ?_; (focus (simp; done)); (focus rfl)) | (simp [go_sem]; done) | (refine (World.cell?_alloc_past _ _ _ ?_).trans ((World.cell?_alloc_at _ _ _ _ ?_).trans ?_); (focus (simp; done)); (focus (first | rfl | (simp; done))); (focus rfl)) | fail)))
              (try (have k0 := (jS (w1.heap.size + 1) 0 (by have := HSZ0.out; simp; omega) (by omega)).trans ((below_at (B := W5.heap.size) (W := W5) (by (skip); repeat' (first | (with_reducible first | exact BlR _ _ | assumption | refine BlA ?_ ?_ _ | refine BlD ?_ | refine BlN ?_ _ | refine BlS ?_ ?_ _ | refine BlT ?_ (BlM (by assumption) ?_)) | omega | (simp only [ZZ]; omega) | go_size)) (w1.heap.size + 1) 0 (by have := HSZ0.out; omega)).trans p0)))
              (try (have k1 := (jS (w1.heap.size + 1) 1 (by have := HSZ0.out; simp; omega) (by omega)).trans ((below_at (B := W5.heap.size) (W := W5) (by (skip); repeat' (first | (with_reducible first | exact BlR _ _ | assumption | refine BlA ?_ ?_ _ | refine BlD ?_ | refine BlN ?_ _ | refine BlS ?_ ?_ _ | refine BlT ?_ (BlM (by assumption) ?_)) | omega | (simp only [ZZ]; omega) | go_size)) (w1.heap.size + 1) 1 (by have := HSZ0.out; omega)).trans p1)))
              (try (have k2 := (jS (w1.heap.size + 1) 2 (by have := HSZ0.out; simp; omega) (by omega)).trans ((below_at (B := W5.heap.size) (W := W5) (by (skip); repeat' (first | (with_reducible first | exact BlR _ _ | assumption | refine BlA ?_ ?_ _ | refine BlD ?_ | refine BlN ?_ _ | refine BlS ?_ ?_ _ | refine BlT ?_ (BlM (by assumption) ?_)) | omega | (simp only [ZZ]; omega) | go_size)) (w1.heap.size + 1) 2 (by have := HSZ0.out; omega)).trans p2))))
           | (refine step_appL (b0 := w0.heap.size) (L := 70000) (qs := QL) (A := Ar) (c := cr') rfl (.tmp 61) (.tmp 63) rfl W.heap.size n HQN.out ?_ ?_ HOLK.out ?_ s8 A8 n8 c8 B8 m8 d8 fq ?_ ?_ ?_ (by omega) ?_ ?_ ?_
              rotate_left 4
              (focus ((first | rfl | (simp [Act.eval]; rfl))))
              (focus ((first | (simp [go_sem]; done) | (simp [go_sem, *]; done) | (exact ⟨m0', m1', m2'⟩) | (exact ⟨n0', n1', n2'⟩))))
              (focus ((have := HSZ0.out; simp; omega)))
              (focus ((have := HSZ0.out; simp; omega)))
              rotate_left 1
              (focus ((simp [Act.eval]; done)))
              (focus ((repeat' (first | (with_reducible exact HOL5.out) | (with_reducible refine OwL.alloc_ ?_ _) | (with_reducible refine OwL.drew_ ?_) | (with_reducible refine OwL.grS ?_ hgS preS)))))
              (focus ((repeat' (first | (with_reducible exact HQ8.out) | (with_reducible refine RdL.alloc_ ?_ _) | (with_reducible refine RdL.drew_ ?_) | (with_reducible refine RdL.grS ?_ hgS preS)))))
              intro gL cL wL preL ownL hgL hL0
              have zL := hgL.size
              (try simp only [World.size_alloc, World.size_drew] at zL)
              have jL := fun b o hb (h : wo.heap.size ≤ b) => (gr_cell (b := b) (i := o) hgL hb (fun e => by have := HLL.out _ e.symm; omega)).1)
           | fail)
         all_goals
           have hsz := HSZ0.out
           have bS := (Below.refl W.heap.size _).grown hgS (by simp; omega) (fun k hk => HOSK.out k hk)
           have bL := (Below.refl W.heap.size _).grown hgL (by first | omega | (simp; done) | (simp; omega)) (fun k hk => HOLK.out k hk)
           have hfin : OwS wL w0.heap.size (some ⟨gS, 0, none⟩) cS r.ng (SL ++ [S]) := by
             refine OwS.grL ?_ hgL preL
             repeat' (first | (with_reducible exact ownS) | (with_reducible refine OwS.alloc_ ?_ _) | (with_reducible refine OwS.drew_ ?_))
           have hbel : Below W.heap.size W wL := by
             refine (HB5.out).trans (Below.trans ?_ bL)
             repeat' (first | (with_reducible refine Below.trans ?_ bS) | (with_reducible exact Below.refl _ _) | (with_reducible refine Below.alloc ?_ ?_ _) | (with_reducible refine Below.drew ?_) | omega | (simp; omega))
           have HFIN : Hid (OwS wL w0.heap.size (some ⟨gS, 0, none⟩) cS r.ng (SL ++ [S]) ∧ OwL wL w0.heap.size 70000 (some ⟨gL, 0, none⟩) cL (QL ++ [fq]) ∧ Below W.heap.size W wL) := ⟨hfin, ownL, hbel⟩
           clear hfin hbel bS bL ownS ownL preS preL hgS hgL
           go_wp2_with fail
           have HREL : Hid (OwS wL w0.heap.size (some ⟨gS, 0, none⟩) cS r.ng ((P (i + 1)).map (·.1)) ∧ OwL wL w0.heap.size 70000 (some ⟨gL, 0, none⟩) cL ((P (i + 1)).map (·.2)) ∧ Below W.heap.size W wL) := by
             show _ ∧ _
             rw [HNN.out.2.1, HNN.out.2.2]
             exact HFIN.out
           go_roundw
           case rel => exact ⟨i + 1, some ⟨gS, 0, none⟩, cS, some ⟨gL, 0, none⟩, cL, by omega, by rw [HNN.out.1], by rw [HNN.out.1], by go_num, HREL.out.1, HREL.out.2.1, fun k hk => (by injection hk with hk; rw [← hk]; exact hS0), fun k hk => (by injection hk with hk; rw [← hk]; exact hL0), HREL.out.2.2⟩
           case measure => simp [intOf]; omega
       · have hrz : rr i = 0 := Rat.le_antisymm (Rat.not_lt.1 hrp) hr0
         rw [hrz]
         have e0 : sgnQ 0 = 0 := rfl
         rw [e0]
         have HPS : Hid (P (i + 1) = P i) := by
           show _ = _
           rw [HNY.out, if_neg hrp, List.append_nil]
         have HREL : Hid (OwS w7 w0.heap.size As cs r.ng ((P (i + 1)).map (·.1)) ∧ OwL w7 w0.heap.size 70000 Ar cr' ((P (i + 1)).map (·.2)) ∧ Below W.heap.size W w7) := by
           show _ ∧ _
           rw [HPS.out]
           exact ⟨HOS.out.below HB7.out, HOL.out.below HB7.out, hbW7⟩
         clear e0 hrz hbW7 hbw7 HNY
         go_wp2_with fail
         go_roundw
         case rel => exact ⟨i + 1, As, cs, Ar, cr', by omega, by rw [HPS.out], by rw [HPS.out], by go_num, HREL.out.1, HREL.out.2.1, by rw [HPS.out]; exact HOSK.out, by rw [HPS.out]; exact HOLK.out, HREL.out.2.2⟩
         case measure => simp [intOf]; omega
   · obtain rfl : i = v := by omega
     have HF : Hid (AftRet w0.heap.size w.heap.size r.ng (P i) (.returned (.tuple #[.slice As (P i).length cs, .slice Ar (P i).length cr'])) wo) := ⟨As, cs, Ar, cr', rfl, HOS.out, HOL.out, fun q hq => by have := HOSK.out q hq; omega, fun q hq => by have := HOLK.out q hq; omega⟩
     go_wp2_with fail
     go_returns
     exact ⟨HF.out, hbw⟩
end
end Go.Proofs.YtoiopnmphbnjaaaGreatDoor
