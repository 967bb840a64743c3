/- Contracts and lemmas for the given statements. Conditions: those alone that each names. -/
import Derived.Test.YtoiopnmphbnjaaaGreatDoorJShelfD
set_option maxHeartbeats 16000000
namespace Go.Proofs.YtoiopnmphbnjaaaGreatDoor
open Go.RowKit
set_option linter.unusedSimpArgs false
set_option linter.unusedVariables false
set_option maxRecDepth 20000
/-! ## package dynamic: Check -/
/-- no number is longer than a thousand words -/
structure DyS (r : DyR) : Prop where
 dor : Short r.ng r.dor
 fl : Short r.nf r.fl
 rp : Short r.nr r.rp
 ng : r.ng ≤ 1000000
 nf : r.nf ≤ 1000000
 nr : r.nr ≤ 1000000
theorem spL_len {r : DyR} : ∀ {i : Nat}, gsE r i = 0 → (spL r i).length ≤ 16 * i
 | 0, _ => by simp [spL]
 | i + 1, h => by
   rw [gsE] at h
   by_cases h1 : gsE r i = 0
   · rw [if_pos h1] at h
     have ih := spL_len h1
     have hl := (dgAg_len (gaE_ok h).ln).2
     rw [spL]
     split
     · rw [List.length_append]; omega
     · omega
   · rw [if_neg h1] at h; exact absurd h h1
section
variable {w : World} {AG AF AR : Option Addr} {cg cf cr : Nat} {r : DyR}
theorem dcheck_any (h : DyI w AG AF AR r) (hs : DyS r) :
   Calls Tryz.prog 62 #[dyv r AG cg AF cf AR cr] w fun e w' => e = .returned (errM (codeD r)) ∧ Below w.heap.size w w' := by
 obtain ⟨W0, hW0⟩ : ∃ W0, W0 = w.alloc (.cells #[.int .i64 r.v, .slice AG r.ng cg, .int .i64 r.top, .slice AF r.nf cf, .slice AR r.nr cr] 25) := ⟨_, rfl⟩
 have hb0 : Below w.heap.size w W0 := by rw [hW0]; exact (by (skip); repeat' (first | (with_reducible first | exact BlR _ _ | assumption | refine BlA ?_ ?_ _ | refine BlD ?_ | refine BlN ?_ _ | refine BlS ?_ ?_ _ | refine BlT ?_ (BlM (by assumption) ?_)) | omega | (simp only [ZZ]; omega) | go_size))
 have hz0 : W0.heap.size = w.heap.size + 1 := by rw [hW0]; simp
 have x0 : W0.cell? ⟨w.heap.size, 0, none⟩ = some (.int .i64 r.v) := by rw [hW0]; simp [go_sem]
 have x1 : W0.cell? ⟨w.heap.size, 1, none⟩ = some (.slice AG r.ng cg) := by rw [hW0]; simp [go_sem]
 have x2 : W0.cell? ⟨w.heap.size, 2, none⟩ = some (.int .i64 r.top) := by rw [hW0]; simp [go_sem]
 have x3 : W0.cell? ⟨w.heap.size, 3, none⟩ = some (.slice AF r.nf cf) := by rw [hW0]; simp [go_sem]
 have x4 : W0.cell? ⟨w.heap.size, 4, none⟩ = some (.slice AR r.nr cr) := by rw [hW0]; simp [go_sem]
 have HW := Lib.hid hW0
 clear hW0
 have HS := Lib.hid hs
 have HH := Lib.hid (h.below hb0)
 obtain ⟨code, hcode⟩ : ∃ code, codeD r = code := ⟨_, rfl⟩
 have n1 := hs.ng
 have n2 := hs.nf
 have n3 := hs.nr
 rw [hcode]
 by_cases hv1 : r.v < 1
 · have HC : Hid (code = 3) := by show _ = _; rw [← hcode]; unfold codeD; rw [if_pos (by omega)]
   clear hcode
   unfold dyv
   generalize r.v = v at *
   go_enter Tryz.func62, Tryz.ntmps62
   go_wp2_with fail
   rw [← HW.out]
   go_returns
   exact ⟨by rw [HC.out]; rfl, hb0⟩
 by_cases hv2 : 24 < r.v
 · have HC : Hid (code = 3) := by show _ = _; rw [← hcode]; unfold codeD; rw [if_pos (by omega)]
   clear hcode
   unfold dyv
   generalize r.v = v at *
   go_enter Tryz.func62, Tryz.ntmps62
   go_wp2_with fail
   rw [← HW.out]
   go_returns
   exact ⟨by rw [HC.out]; rfl, hb0⟩
 have hv0 : ¬ ¬ (1 ≤ r.v ∧ r.v ≤ 24) := by omega
 by_cases hg : 64 < r.ng
 · have HC : Hid (code = 4) := by show _ = _; rw [← hcode]; unfold codeD; rw [if_neg hv0, if_pos hg]
   clear hcode
   unfold dyv
   generalize r.v = v at *
   generalize r.ng = nn at *
   go_enter Tryz.func62, Tryz.ntmps62
   go_wp2_with fail
   rw [← HW.out]
   go_returns
   exact ⟨by rw [HC.out]; rfl, hb0⟩
 by_cases hf : (r.nf : Int) ≠ r.v
 · have HC : Hid (code = 11) := by show _ = _; rw [← hcode]; unfold codeD; rw [if_neg hv0, if_neg hg, if_pos (by omega)]
   have e1 : ((r.nf : Int) != r.v) = true := by rw [bne_iff_ne]; exact hf
   clear hcode
   unfold dyv
   generalize r.v = v at *
   generalize r.ng = nn at *
   go_enter Tryz.func62, Tryz.ntmps62
   go_wp2_with fail
   rw [← HW.out]
   go_returns
   exact ⟨by rw [HC.out]; rfl, hb0⟩
 replace hf : (r.nf : Int) = r.v := by omega
 by_cases hr : (r.nr : Int) ≠ r.v
 · have HC : Hid (code = 11) := by show _ = _; rw [← hcode]; unfold codeD; rw [if_neg hv0, if_neg hg, if_pos (by omega)]
   have e1 : ((r.nf : Int) != r.v) = false := by rw [bne_eq_false_iff_eq]; exact hf
   have e2 : ((r.nr : Int) != r.v) = true := by rw [bne_iff_ne]; exact hr
   clear hcode
   unfold dyv
   generalize r.v = v at *
   generalize r.ng = nn at *
   go_enter Tryz.func62, Tryz.ntmps62
   go_wp2_with fail
   rw [← HW.out]
   go_returns
   exact ⟨by rw [HC.out]; rfl, hb0⟩
 replace hr : (r.nr : Int) = r.v := by omega
 have HD : Hid (code = if rtsOk r.fl r.nf = false then 3 else if rtsOk r.rp r.nr = false then 3 else if gsE r r.ng ≠ 0 then gsE r r.ng else if ¬ (0 ≤ r.top ∧ r.top < r.v + r.ng) then 10 else 0) := by
   show _ = _
   rw [← hcode]; unfold codeD
   rw [if_neg hv0, if_neg hg, if_neg (by omega)]
 have e1 : ((r.nf : Int) != r.v) = false := by rw [bne_eq_false_iff_eq]; exact hf
 have e2 : ((r.nr : Int) != r.v) = false := by rw [bne_eq_false_iff_eq]; exact hr
 obtain ⟨v, hv⟩ : ∃ v : Nat, r.v = v := ⟨r.v.toNat, by omega⟩
 clear hcode
 have HW2 : Hid (W0 = w.alloc (.cells #[.int .i64 (v : Int), .slice AG r.ng cg, .int .i64 r.top, .slice AF r.nf cf, .slice AR r.nr cr] 25)) := by
   show _ = _
   rw [← hv]; exact HW.out
 rw [hv] at x0
 have hnf : r.nf = v := by omega
 have hnr : r.nr = v := by omega
 obtain ⟨W1, hW1⟩ : ∃ W1, W1 = W0.alloc (.cells #[.slice AF r.nf cf, .slice AR r.nr cr] 23) := ⟨_, rfl⟩
 have hb1 : Below W0.heap.size W0 W1 := by rw [hW1]; exact (Below.refl _ _).alloc (Nat.le_refl _) _
 have hz1 : W1.heap.size = w.heap.size + 2 := by rw [hW1]; simp; omega
 have r0 : W1.cell? ⟨w.heap.size + 1, 0, none⟩ = some (.slice AF r.nf cf) := by rw [hW1, ← hz0]; simp [go_sem]
 have r1 : W1.cell? ⟨w.heap.size + 1, 1, none⟩ = some (.slice AR r.nr cr) := by rw [hW1, ← hz0]; simp [go_sem]
 have HW1 := Lib.hid hW1
 have HI1 := Lib.hid (h.below (hb0.trans (hb1.mono (by omega))))
 clear HW h hs hW1 e1 e2 hf hr
 have KG := Lib.hid (fun (wr : World) (j : Nat) (A : Option Addr) (c : Nat) (hw : Below W0.heap.size W0 wr) (hj : j < r.ng) (own : OwJ wr W0.heap.size A c (spL r j).length (fun i => (spL r j).getD i 0)) (hl : (spL r j).length ≤ 100000) => dgate_any (cg := cg) (cf := cf) (cr := cr) HH.out hw hj (by omega) hv (by omega) (by omega) (HS.out.dor j hj) own hl)
 unfold dyv at KG ⊢
 rw [hv] at KG ⊢
 rw [hnf] at r0
 rw [hnr] at r1
 rw [hnf, hnr] at KG HW1 HW2 HD ⊢
 go_enter Tryz.func62, Tryz.ntmps62
 go_wp2_with fail
 rw [← HW2.out, ← HW1.out]
 go_loopw [46] (fun i wr => ∃ j : Nat, j ≤ 2 ∧ i = .int .i64 j ∧ (0 < j → rtsOk r.fl v = true) ∧ (1 < j → rtsOk r.rp v = true) ∧ Below W1.heap.size W1 wr) (fun i _ => 2 - (intOf i).toNat)
 case atStart => exact ⟨0, by omega, rfl, fun h => by omega, fun h => by omega, Below.refl _ _⟩
 case round =>
   obtain ⟨j, hj, rfl, g1, g2, hbj⟩ := hrel
   obtain ⟨wo, rfl⟩ : ∃ wo : World, wo = wr := ⟨_, rfl⟩
   have HG1 := Lib.hid g1
   have HG2 := Lib.hid g2
   clear g1 g2
   have hbjz := hbj.size
   have hbW : Below w.heap.size w wo := hb0.trans ((hb1.mono (by omega)).trans (hbj.mono (by omega)))
   by_cases hj2 : j < 2
   · obtain ⟨A, n, cc, R, hcell, hrow, hsh, hnv, hbad, hgood⟩ : ∃ A n cc R, W1.cell? ⟨w.heap.size + 1, j, none⟩ = some (.slice A n cc) ∧ RowA W1 W1.heap.size A n R ∧ Short n R ∧ n = v ∧ (rtsOk R n = false → code = 3) ∧ (rtsOk R n = true → (0 < j + 1 → rtsOk r.fl v = true) ∧ (1 < j + 1 → rtsOk r.rp v = true)) := by
       have hi := HI1.out
       rcases (show j = 0 ∨ j = 1 by omega) with rfl | rfl
       · refine ⟨AF, v, cf, r.fl, r0, by rw [← hnf]; exact hi.fa, by rw [← hnf]; exact HS.out.fl, rfl, fun hx => by rw [HD.out, if_pos hx], fun hx => ⟨fun _ => hx, fun hh => by omega⟩⟩
       · have hx1 := HG1.out (by omega)
         refine ⟨AR, v, cr, r.rp, r1, by rw [← hnr]; exact hi.ra, by rw [← hnr]; exact HS.out.rp, rfl, fun hx => by rw [HD.out, if_neg (by rw [hx1]; decide), if_pos hx], fun hx => ⟨fun _ => hx1, fun _ => hx⟩⟩
     have u0 := (below_at hbj (w.heap.size + 1) j (by omega)).trans hcell
     have HBAD := Lib.hid hbad
     have HGOOD := Lib.hid hgood
     have HR := Lib.hid hrow
     have HSH := Lib.hid hsh
     clear hbad hgood hcell hrow hsh HG1 HG2 HD KG
     have j0 : (0 : Int) ≤ (j : Int) := by omega
     have j2 : (j : Int) < 2 := by omega
     go_wp2_with fail
     go_loopw [52] (fun i w3 => ∃ t : Nat, t ≤ n ∧ i = .int .i64 t ∧ (∀ u, u < t → rtOk R u = true) ∧ Below wo.heap.size wo w3) (fun i _ => n - (intOf i).toNat)
     case atStart => exact ⟨0, Nat.zero_le _, rfl, fun u hu => by omega, Below.refl _ _⟩
     case round =>
       obtain ⟨t, ht, rfl, hall, hb3⟩ := hrel
       obtain ⟨w3, rfl⟩ : ∃ w3 : World, w3 = wr := ⟨_, rfl⟩
       have HALL := Lib.hid hall
       clear hall u0
       have hb3z := hb3.size
       have hbX : Below W1.heap.size W1 w3 := hbj.trans (hb3.mono hbjz)
       by_cases htn : t < n
       · obtain ⟨b, off, s, A1, n1', c1, B1, m1, d1, rfl, hbb, z0, z1, z2, rs⟩ := (HR.out.belowS hbX).at_ htn
         have hshort := HSH.out t htn
         have KV := Lib.hid (fun X (hX : Below w3.heap.size w3 X) => validS (rs.belowS hX) hshort.1 hshort.2)
         have KS := Lib.hid (fun X z (hX : Below w3.heap.size w3 X) (hz : sgnQ (valR (R t)) = z) => signS (rs.belowS hX) hshort.1 hshort.2 hz)
         have HB0 : Hid (rtOk R t = false → code = 3) := fun hx => HBAD.out (rtsOk_f htn hx)
         have HN0 : Hid (rtOk R t = true → ∀ u, u < t + 1 → rtOk R u = true) := fun hx u hu => by
           rcases Nat.lt_or_ge u t with h | h
           · exact HALL.out u h
           · have : u = t := by omega
             subst this
             exact hx
         have HRT : Hid (rtOk R t = (validR (R t) && decide (0 ≤ valR (R t)))) := rfl
         clear rs hshort
         have hbB : Below w.heap.size w w3 := hbW.trans (hb3.mono (by omega))
         cases hvR : validR (R t)
         · have HC := Lib.hid (HB0.out (by rw [HRT.out, hvR]; rfl))
           rw [hvR] at KV
           clear HB0 HN0 HRT hvR KS
           go_wp2_with fail
           refine (KV.out _ (by (skip); repeat' (first | (with_reducible first | exact BlR _ _ | assumption | refine BlA ?_ ?_ _ | refine BlD ?_ | refine BlN ?_ _ | refine BlS ?_ ?_ _ | refine BlT ?_ (BlM (by assumption) ?_)) | omega | (simp only [ZZ]; omega) | go_size))).mono ?_
           rintro e w5 ⟨rfl, hb5⟩
           go_wp2_with fail
           go_returns
           exact ⟨by rw [HC.out]; rfl, (by have z0 := Below.size hbB; have z1 := Below.size hb5; (try simp only [ZZ] at z0 z1 ⊢; skip); repeat' (first | (with_reducible first | exact BlR _ _ | assumption | refine BlA ?_ ?_ _ | refine BlD ?_ | refine BlN ?_ _ | refine BlS ?_ ?_ _ | refine BlT ?_ (BlM (by assumption) ?_)) | omega | (simp only [ZZ]; omega) | go_size))⟩
         · rw [hvR] at KV
           by_cases hq : 0 ≤ valR (R t)
           · obtain ⟨z, hz, hz0⟩ : ∃ z : Int, sgnQ (valR (R t)) = z ∧ 0 ≤ z := by
               refine ⟨_, rfl, ?_⟩
               unfold sgnQ
               split
               · omega
               · rw [if_neg (Rat.not_lt.2 hq)]; omega
             have K2 := Lib.hid (fun X hX => KS.out X z hX hz)
             have HN := Lib.hid (HN0.out (by rw [HRT.out, hvR]; simpa using hq))
             have hz1' : ¬ z < 0 := by omega
             clear HB0 HN0 HRT hvR KS hq hz
             go_wp2_with fail
             refine (KV.out _ (by (skip); repeat' (first | (with_reducible first | exact BlR _ _ | assumption | refine BlA ?_ ?_ _ | refine BlD ?_ | refine BlN ?_ _ | refine BlS ?_ ?_ _ | refine BlT ?_ (BlM (by assumption) ?_)) | omega | (simp only [ZZ]; omega) | go_size))).mono ?_
             rintro e w5 ⟨rfl, hb5⟩
             have hb5z := hb5.size
             simp only [World.size_alloc] at hb5z
             have y0 : w5.cell? ⟨w3.heap.size, 0, none⟩ = some (.bool s) := (below_at hb5 w3.heap.size 0 (by simp)).trans (by simp [go_sem])
             have y1 : w5.cell? ⟨w3.heap.size, 1, none⟩ = some (.slice A1 n1' c1) := (below_at hb5 w3.heap.size 1 (by simp)).trans (by simp [go_sem])
             have y2 : w5.cell? ⟨w3.heap.size, 2, none⟩ = some (.slice B1 m1 d1) := (below_at hb5 w3.heap.size 2 (by simp)).trans (by simp [go_sem])
             have hb35 : Below w3.heap.size w3 w5 := (by have z0 := Below.size hb5; (try simp only [ZZ] at z0 ⊢; skip); repeat' (first | (with_reducible first | exact BlR _ _ | assumption | refine BlA ?_ ?_ _ | refine BlD ?_ | refine BlN ?_ _ | refine BlS ?_ ?_ _ | refine BlT ?_ (BlM (by assumption) ?_)) | omega | (simp only [ZZ]; omega) | go_size))
             clear hb5
             go_wp2_with fail
             refine (K2.out _ hb35).mono ?_
             rintro e w6 ⟨rfl, hb6⟩
             go_wp2_with fail
             go_roundw
             case rel => exact ⟨t + 1, by omega, by go_num, HN.out, (by have z0 := Below.size hb3; have z1 := Below.size hb35; have z2 := Below.size hb6; (try simp only [ZZ] at z0 z1 z2 ⊢; skip); repeat' (first | (with_reducible first | exact BlR _ _ | assumption | refine BlA ?_ ?_ _ | refine BlD ?_ | refine BlN ?_ _ | refine BlS ?_ ?_ _ | refine BlT ?_ (BlM (by assumption) ?_)) | omega | (simp only [ZZ]; omega) | go_size))⟩
             case measure => simp [intOf]; omega
           · have K2 := Lib.hid (fun X hX => KS.out X (-1) hX (sgn_neg (Rat.not_le.1 hq)))
             have HC := Lib.hid (HB0.out (by rw [HRT.out, hvR]; simpa using hq))
             clear HB0 HN0 HRT hvR KS hq
             go_wp2_with fail
             refine (KV.out _ (by (skip); repeat' (first | (with_reducible first | exact BlR _ _ | assumption | refine BlA ?_ ?_ _ | refine BlD ?_ | refine BlN ?_ _ | refine BlS ?_ ?_ _ | refine BlT ?_ (BlM (by assumption) ?_)) | omega | (simp only [ZZ]; omega) | go_size))).mono ?_
             rintro e w5 ⟨rfl, hb5⟩
             have hb5z := hb5.size
             simp only [World.size_alloc] at hb5z
             have y0 : w5.cell? ⟨w3.heap.size, 0, none⟩ = some (.bool s) := (below_at hb5 w3.heap.size 0 (by simp)).trans (by simp [go_sem])
             have y1 : w5.cell? ⟨w3.heap.size, 1, none⟩ = some (.slice A1 n1' c1) := (below_at hb5 w3.heap.size 1 (by simp)).trans (by simp [go_sem])
             have y2 : w5.cell? ⟨w3.heap.size, 2, none⟩ = some (.slice B1 m1 d1) := (below_at hb5 w3.heap.size 2 (by simp)).trans (by simp [go_sem])
             have hb35 : Below w3.heap.size w3 w5 := (by have z0 := Below.size hb5; (try simp only [ZZ] at z0 ⊢; skip); repeat' (first | (with_reducible first | exact BlR _ _ | assumption | refine BlA ?_ ?_ _ | refine BlD ?_ | refine BlN ?_ _ | refine BlS ?_ ?_ _ | refine BlT ?_ (BlM (by assumption) ?_)) | omega | (simp only [ZZ]; omega) | go_size))
             clear hb5
             go_wp2_with fail
             refine (K2.out _ hb35).mono ?_
             rintro e w6 ⟨rfl, hb6⟩
             go_wp2_with fail
             go_returns
             exact ⟨by rw [HC.out]; rfl, (by have z0 := Below.size hbB; have z1 := Below.size hb35; have z2 := Below.size hb6; (try simp only [ZZ] at z0 z1 z2 ⊢; skip); repeat' (first | (with_reducible first | exact BlR _ _ | assumption | refine BlA ?_ ?_ _ | refine BlD ?_ | refine BlN ?_ _ | refine BlS ?_ ?_ _ | refine BlT ?_ (BlM (by assumption) ?_)) | omega | (simp only [ZZ]; omega) | go_size))⟩
       · have HN := Lib.hid (HGOOD.out (rtsOk_t fun u hu => HALL.out u (by omega)))
         have htn' : ¬ (t : Int) < (n : Int) := by omega
         clear HBAD HGOOD HALL
         go_wp2_with fail
         go_roundw
         case rel => exact ⟨j + 1, by omega, by go_num, HN.out.1, HN.out.2, hbX⟩
         case measure => simp [intOf]; omega
   · have h1 := HG1.out (by omega)
     have h2 := HG2.out (by omega)
     have HD2 : Hid (code = if gsE r r.ng ≠ 0 then gsE r r.ng else if ¬ (0 ≤ r.top ∧ r.top < r.v + r.ng) then 10 else 0) := by
       show _ = _
       rw [HD.out, if_neg (by rw [h1]; decide), if_neg (by rw [h2]; decide)]
     have hj2' : ¬ (j : Int) < 2 := by omega
     have hb0o : Below W0.heap.size W0 wo := hb1.trans (hbj.mono (by omega))
     have v1 := (below_at hb0o w.heap.size 1 (by omega)).trans x1
     clear HD HG1 HG2 h1 h2 HI1 r0 r1 hb1
     go_wp2_with fail
     go_loopw [7, 70] (fun sv i wr => ∃ (j : Nat) (A : Option Addr) (c : Nat), j ≤ r.ng ∧ sv = .slice A (spL r j).length c ∧ i = .int .i64 j ∧ gsE r j = 0 ∧ OwJ wr W0.heap.size A c (spL r j).length (fun i => (spL r j).getD i 0) ∧ Below W0.heap.size W0 wr) (fun _ i _ => r.ng - (intOf i).toNat)
     case atStart => exact ⟨0, none, 0, Nat.zero_le _, rfl, rfl, rfl, OwJ.nil_ _ _ _, hb0o⟩
     case round =>
       obtain ⟨k, A, c, hk, rfl, rfl, hge, own, hb3⟩ := hrel
       obtain ⟨w3, rfl⟩ : ∃ w3 : World, w3 = wr := ⟨_, rfl⟩
       have HGE := Lib.hid hge
       clear hge v1
       have X := fun o => below_at hb3 w.heap.size o (by omega)
       have y0 := (X 0).trans x0
       have y1 := (X 1).trans x1
       have y2 := (X 2).trans x2
       have y3 := (X 3).trans x3
       have y4 := (X 4).trans x4
       rw [hnf] at y3
       rw [hnr] at y4
       have hb3z := hb3.size
       have hbB : Below w.heap.size w w3 := hb0.trans (hb3.mono (by omega))
       clear X
       by_cases hkn : k < r.ng
       · have hl := spL_len HGE.out
         have KG1 := Lib.hid (KG.out w3 k A c hb3 hkn own (by omega))
         clear own hl
         go_wp2_with fail
         refine KG1.out.mono ?_
         rintro e w6 ⟨hgr, hb6⟩
         by_cases hga : r.ga k = 0
         · unfold GaRet at hgr
           rw [if_pos hga] at hgr
           obtain ⟨A', c', rfl, own'⟩ := hgr
           have HN := Lib.hid (gsE_next HGE.out hga)
           clear hga
           go_wp2_with fail
           go_roundw
           case rel => exact ⟨k + 1, A', c', by omega, rfl, by go_num, HN.out, own', hb6⟩
           case measure => simp [intOf]; omega
         · have HC : Hid (code = r.ga k) := by
             show _ = _
             have := gsE_err HGE.out hga hkn
             rw [HD2.out, this, if_pos hga]
           have hgr2 : e = .returned (.tuple #[.slice none 0 0, .iface 80 (.int .i64 (r.ga k))]) := by
             unfold GaRet at hgr
             rw [if_neg hga] at hgr
             rw [hgr]
             unfold errM
             rw [if_neg hga]
           have HE : Hid (errM code = .iface 80 (.int .i64 (r.ga k))) := by
             show _ = _
             rw [HC.out]; unfold errM; rw [if_neg hga]
           subst hgr2
           clear hgr
           generalize r.ga k = ga at *
           go_wp2_with fail
           go_returns
           exact ⟨by rw [HE.out]; rfl, hb0.trans (hb6.mono (by omega))⟩
       · obtain rfl : k = r.ng := by omega
         have HD3 : Hid (code = if ¬ (0 ≤ r.top ∧ r.top < (v : Int) + r.ng) then 10 else 0) := by
           show _ = _
           rw [HD2.out, if_neg (by rw [HGE.out]; decide), hv]
         have e5 : IntKind.i64.wrap ((v : Int) + (r.ng : Int)) = (v : Int) + (r.ng : Int) := by rw [IntKind.wrap_i64]; omega
         clear HD2 own KG
         generalize r.top = tp at *
         by_cases ht0 : tp < 0
         · have HC : Hid (code = 10) := by show _ = _; rw [HD3.out, if_pos (by omega)]
           clear HD3
           go_wp2_with fail
           go_returns
           exact ⟨by rw [HC.out]; rfl, hbB⟩
         by_cases ht1 : (v : Int) + r.ng ≤ tp
         · have HC : Hid (code = 10) := by show _ = _; rw [HD3.out, if_pos (by omega)]
           clear HD3
           go_wp2_with fail
           go_returns
           exact ⟨by rw [HC.out]; rfl, hbB⟩
         have HC : Hid (code = 0) := by show _ = _; rw [HD3.out, if_neg (by omega)]
         clear HD3
         go_wp2_with fail
         go_returns
         exact ⟨by rw [HC.out]; rfl, hbB⟩
end
end Go.Proofs.YtoiopnmphbnjaaaGreatDoor
namespace Go.Proofs.YtoiopnmphbnjaaaGreatDoor
open Go.RowKit
set_option linter.unusedSimpArgs false
set_option linter.unusedVariables false
set_option maxRecDepth 20000
/-! ## package dynamic: check of a state that is one -/
structure MemOk (kd : Int) (len : Nat) (m : Int) : Prop where
 k6 : kd = 6 → 0 ≤ m ∧ m ≤ 1
 k7 : kd = 7 → -1 ≤ m ∧ m < len
 k0 : kd ≠ 6 → kd ≠ 7 → m = 0
/-- a state of the tree -/
structure StOk (r : DyR) (F : Nat) (M : List Int) : Prop where
 f : F < 2 ^ r.v.toNat
 l : M.length = r.ng
 m : ∀ i, i < r.ng → MemOk (r.kd i) (r.ar i).length (M.getD i 0)
section
variable {w : World} {AG AF AR Am : Option Addr} {cg cf cr cm : Nat} {r : DyR} {F : Nat} {M : List Int}
theorem dchk_ok (h : DyI w AG AF AR r) (hs : DyS r) (hc : codeD r = 0) (st : StOk r F M) (rj : RdJ w Am r.ng (fun i => M.getD i 0)) :
   Calls Tryz.prog 60 #[dyv r AG cg AF cf AR cr, .agg #[.int .i64 (F : Int), .slice Am r.ng cm]] w fun e w' => e = .returned .nilIface ∧ Below w.heap.size w w' := by
 have ok := codeD_ok hc
 have KC := Lib.hid (fun X (hX : Below w.heap.size w X) => (by
   have := dcheck_any (cg := cg) (cf := cf) (cr := cr) (h.below hX) hs
   rw [hc] at this
   exact this : Calls Tryz.prog 62 #[dyv r AG cg AF cf AR cr] X fun e w' => e = .returned .nilIface ∧ Below X.heap.size X w'))
 obtain ⟨v, hv⟩ : ∃ v : Nat, r.v = v := ⟨r.v.toNat, by have := ok.v1; omega⟩
 have v24 : v ≤ 24 := by have := ok.v2; omega
 have n64 := ok.ng
 have hF : F < 2 ^ v := by have := st.f; rw [hv] at this; simpa using this
 have hp : 2 ^ v ≤ 16777216 := Nat.pow_le_pow_right (n := 2) (by omega) v24
 have s1 := yshl (k := v) (by omega)
 have HM := Lib.hid st.m
 have HOK := Lib.hid ok
 unfold dyv at KC ⊢
 rw [hv] at KC ⊢
 clear ok st hs hc
 go_enter Tryz.func60, Tryz.ntmps60
 go_wp2_with fail
 refine (KC.out _ (by (skip); repeat' (first | (with_reducible first | exact BlR _ _ | assumption | refine BlA ?_ ?_ _ | refine BlD ?_ | refine BlN ?_ _ | refine BlS ?_ ?_ _ | refine BlT ?_ (BlM (by assumption) ?_)) | omega | (simp only [ZZ]; omega) | go_size))).mono ?_
 rintro e w1 ⟨rfl, hb1⟩
 have hb1z := hb1.size
 simp only [World.size_alloc] at hb1z
 have x0 : w1.cell? ⟨w.heap.size, 0, none⟩ = some (.int .i64 (v : Int)) := (below_at hb1 w.heap.size 0 (by simp; omega)).trans (by simp [go_sem])
 have x1 : w1.cell? ⟨w.heap.size, 1, none⟩ = some (.slice AG r.ng cg) := (below_at hb1 w.heap.size 1 (by simp; omega)).trans (by simp [go_sem])
 have t0 : w1.cell? ⟨w.heap.size + 1, 0, none⟩ = some (.int .i64 (F : Int)) := (below_at hb1 (w.heap.size + 1) 0 (by simp)).trans (by simp [go_sem])
 have t1 : w1.cell? ⟨w.heap.size + 1, 1, none⟩ = some (.slice Am r.ng cm) := (below_at hb1 (w.heap.size + 1) 1 (by simp)).trans (by simp [go_sem])
 have hbA : Below w.heap.size w w1 := (by have z0 := Below.size hb1; (try simp only [ZZ] at z0 ⊢; skip); repeat' (first | (with_reducible first | exact BlR _ _ | assumption | refine BlA ?_ ?_ _ | refine BlD ?_ | refine BlN ?_ _ | refine BlS ?_ ?_ _ | refine BlT ?_ (BlM (by assumption) ?_)) | omega | (simp only [ZZ]; omega) | go_size))
 clear hb1
 have f0 := fun y : Sub w1 => y.cell x0
 have f1 := fun y : Sub w1 => y.cell t0
 have g0 : decide ((F : Int) < 0) = false := by simp
 have g1 : ¬ ((2 ^ v : Nat) : Int) ≤ (F : Int) := by omega
 generalize 2 ^ v = pv at *
 go_wp2_with fail
 ((refine wp_region_quiet_bel (by kernel_rfl) (by kernel_rfl) ?_); (repeat (go_big_quiet_step (fail))); (refine wpQuiet_nil ?_); rintro w2 ⟨⟨_, hb2⟩, rfl⟩; (try dsimp only))
 have g9 : decide (pv ≤ F) = false := by simp; omega
 simp only [s1, g9]
 have hb2z := hb2.size
 clear f0 f1
 have y1 := (below_at hb2 w.heap.size 1 (by omega)).trans x1
 have u0 := (below_at hb2 (w.heap.size + 1) 0 (by omega)).trans t0
 have u1 := (below_at hb2 (w.heap.size + 1) 1 (by omega)).trans t1
 have hbB : Below w.heap.size w w2 := hbA.trans (hb2.mono (by omega))
 clear x0 x1 t0 t1 hbA hb2
 go_wp2_with fail
 go_loopw [38] (fun i wr => ∃ k : Nat, k ≤ r.ng ∧ i = .int .i64 k ∧ Below w2.heap.size w2 wr) (fun i _ => r.ng - (intOf i).toNat)
 case atStart => exact ⟨0, Nat.zero_le _, rfl, Below.refl _ _⟩
 case round =>
   obtain ⟨k, hk, rfl, hb3⟩ := hrel
   obtain ⟨w3, rfl⟩ : ∃ w3 : World, w3 = wr := ⟨_, rfl⟩
   have hb3z := hb3.size
   have hbX : Below w.heap.size w w3 := hbB.trans (hb3.mono (by omega))
   have m1 := (below_at hb3 (w.heap.size + 1) 1 (by omega)).trans u1
   have hz3 : w.heap.size + 1 < w3.heap.size := by omega
   clear y1 u0 u1
   by_cases hkn : k < r.ng
   · obtain ⟨b, off, A1, c1, s, A2, n2, c2, A3, n3, c3, rfl, hbb, z0, z1, z2, z3, z4, z5, ra, rs, hlc⟩ := h.at_ hkn
     have y0 := (below_at hbX b _ hbb).trans z0
     have y1 := (below_at hbX b _ hbb).trans z1
     have y2 := (below_at hbX b _ hbb).trans z2
     have y3 := (below_at hbX b _ hbb).trans z3
     have y4 := (below_at hbX b _ hbb).trans z4
     have y5 := (below_at hbX b _ hbb).trans z5
     obtain ⟨bm, offm, rfl, hbm, mc⟩ := rj.later hbX hkn
     have hm := HM.out k hkn
     have hln := (dgAg_len (HOK.out.gate hkn).ln).2
     generalize M.getD k 0 = m at *
     generalize r.kd k = kd at *
     generalize r.kk k = kk at *
     generalize r.ar k = l at *
     clear z0 z1 z2 z3 z4 z5 ra rs
     have hbb3 : b < w3.heap.size := by have := hbX.size; omega
     have hbm3 : bm < w3.heap.size := by have := hbX.size; omega
     have k1 : (k : Int) < (r.ng : Int) := by omega
     by_cases h6 : kd = 6
     · subst h6
       have := hm.k6 rfl
       have g2 : ¬ m < 0 := by omega
       have g3 : ¬ 1 < m := by omega
       clear hm this
       go_wp2_with fail
       go_roundw
       case rel => exact ⟨k + 1, by omega, by go_num, (by have z0 := Below.size hb3; (try simp only [ZZ] at z0 ⊢; skip); repeat' (first | (with_reducible first | exact BlR _ _ | assumption | refine BlA ?_ ?_ _ | refine BlD ?_ | refine BlN ?_ _ | refine BlS ?_ ?_ _ | refine BlT ?_ (BlM (by assumption) ?_)) | omega | (simp only [ZZ]; omega) | go_size))⟩
       case measure => simp [intOf]; omega
     by_cases h7 : kd = 7
     · subst h7
       have := hm.k7 rfl
       have g2 : ¬ m < -1 := by omega
       have e1 : IntKind.i64.wrap ((l.length : Int) - 1) = (l.length : Int) - 1 := by rw [IntKind.wrap_i64]; omega
       have g3 : ¬ (l.length : Int) - 1 < m := by omega
       obtain ⟨W3, hW3⟩ : ∃ W3, W3 = w3.alloc (.cells #[.int .i64 7, .int .i64 kk, .slice A1 l.length c1, .bool s, .slice A2 n2 c2, .slice A3 n3 c3] 88) := ⟨_, rfl⟩
       have q2 : W3.cell? ⟨w3.heap.size, 2, none⟩ = some (.slice A1 l.length c1) := by rw [hW3]; simp [go_sem]
       have m2 : W3.cell? ⟨w.heap.size + 1, 1, none⟩ = some (.slice (some ⟨bm, offm, none⟩) r.ng cm) := by rw [hW3]; exact (below_at ((Below.refl w3.heap.size w3).alloc (Nat.le_refl _) _) _ _ (by omega)).trans m1
       have m3 : W3.cell? ⟨bm, offm + k, none⟩ = some (.int .i64 m) := by rw [hW3]; exact (below_at ((Below.refl w3.heap.size w3).alloc (Nat.le_refl _) _) _ _ hbm3).trans mc
       have hb4 : Below w3.heap.size w3 W3 := by rw [hW3]; exact (Below.refl _ _).alloc (Nat.le_refl _) _
       have hz4 : W3.heap.size = w3.heap.size + 1 := by rw [hW3]; simp
       have HW3 := Lib.hid hW3
       have f2 := fun y : Sub W3 => y.cell q2
       clear hm this hW3
       go_wp2_with fail
       rw [← HW3.out]
       ((refine wp_region_quiet_bel (by kernel_rfl) (by kernel_rfl) ?_); (repeat (go_big_quiet_step (fail))); (refine wpQuiet_nil ?_); rintro w5 ⟨⟨_, hb5⟩, rfl⟩; (try dsimp only))
       have m4 := (below_at hb5 (w.heap.size + 1) 1 (by omega)).trans m2
       have m5 := (below_at hb5 bm (offm + k) (by omega)).trans m3
       clear f2 m2 m3
       go_wp2_with fail
       go_roundw
       case rel => exact ⟨k + 1, by omega, by go_num, (by have z0 := Below.size hb3; have z1 := Below.size hb4; have z2 := Below.size hb5; (try simp only [ZZ] at z0 z1 z2 ⊢; skip); repeat' (first | (with_reducible first | exact BlR _ _ | assumption | refine BlA ?_ ?_ _ | refine BlD ?_ | refine BlN ?_ _ | refine BlS ?_ ?_ _ | refine BlT ?_ (BlM (by assumption) ?_)) | omega | (simp only [ZZ]; omega) | go_size))⟩
       case measure => simp [intOf]; omega
     obtain rfl : m = 0 := hm.k0 h6 h7
     clear hm
     go_wp2_with fail
     go_roundw
     case rel => exact ⟨k + 1, by omega, by go_num, (by have z0 := Below.size hb3; (try simp only [ZZ] at z0 ⊢; skip); repeat' (first | (with_reducible first | exact BlR _ _ | assumption | refine BlA ?_ ?_ _ | refine BlD ?_ | refine BlN ?_ _ | refine BlS ?_ ?_ _ | refine BlT ?_ (BlM (by assumption) ?_)) | omega | (simp only [ZZ]; omega) | go_size))⟩
     case measure => simp [intOf]; omega
   · have hkn' : ¬ (k : Int) < (r.ng : Int) := by omega
     go_wp2_with fail
     go_returns
     exact ⟨rfl, hbX⟩
end
end Go.Proofs.YtoiopnmphbnjaaaGreatDoor
