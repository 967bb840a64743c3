/- Contracts of functions and lemmas, used by the proofs of the given statements. No condition beyond those that each lemma names. -/
import Derived.Test.YtlncafhgmbhocaaGreatDoorTrL2
import Derived.Test.YtlncafhgmbhocaaGreatDoorJTextC
namespace Go.Proofs.YtlncafhgmbhocaaGreatDoor
open Go.RowKit
set_option linter.unusedSimpArgs false
set_option linter.unusedVariables false
set_option maxRecDepth 20000
/-! ## law53: awake -/
/-- the document's example -/
def exC : Chn := ⟨2, 0, 2, fun k => if k = 0 then 0 else 1, fun k => if k = 0 then 1 else 0, fun k => canR (if k = 0 then 1 else 3), 2, fun k => k == 1⟩
theorem exC_q : exC.q = fun k => if k = 0 then 1 else 3 := by
  funext k
  show valR (canR (if k = 0 then 1 else 3)) = _
  rw [valR_canR]
theorem exC_f : exC.f = fun k => if k = 0 then 0 else 1 := by
  funext k
  show (if k = 0 then (0 : Int) else 1).toNat = _
  split <;> rfl
theorem exC_t : exC.t = fun k => if k = 0 then 1 else 0 := by
  funext k
  show (if k = 0 then (1 : Int) else 0).toNat = _
  split <;> rfl
theorem two {P : Nat → Prop} (h0 : P 0) (h1 : P 1) : ∀ k, k < 2 → P k := fun k hk => by
  rcases (show k = 0 ∨ k = 1 by omega) with rfl | rfl
  · exact h0
  · exact h1
theorem exC_ok : exC.Ok := by
  refine ⟨by decide, by decide, rfl, by decide, by decide, two ?_ ?_⟩
  · rw [exC_q]; refine ⟨by decide, by decide, by decide, by decide, by decide, by decide, fun h => absurd h (by decide)⟩
  · rw [exC_q]; refine ⟨by decide, by decide, by decide, by decide, by decide, by decide, fun _ => by decide⟩
theorem sz1_1 : Sz 1 (1 : Rat) := by refine ⟨?_, ?_⟩ <;> rw [wp_one] <;> decide
theorem sz1_3 : Sz 1 (3 : Rat) := by refine ⟨?_, ?_⟩ <;> rw [wp_one] <;> decide
theorem sz1_4 : Sz 1 (4 : Rat) := by refine ⟨?_, ?_⟩ <;> rw [wp_one] <;> decide
theorem exC_small : Small exC :=
  ⟨by decide, two (Sz_canR sz1_1) (Sz_canR sz1_3), fun k _ => canR_ok _, fun h => absurd h (by decide), fun _ => by decide⟩
theorem exC_fast : exC.fast ≤ 4 := by
  show maxF exC.ex 1 ≤ 4
  have h0 : exC.ex 0 = 1 := by show exK exC.f exC.q 0 2 = 1; rw [exC_q, exC_f]; decide +kernel
  have h1 : exC.ex 1 = 3 := by show exK exC.f exC.q 1 2 = 3; rw [exC_q, exC_f]; decide +kernel
  refine maxF_le fun j hj => ?_
  rcases (show j = 0 ∨ j = 1 by omega) with rfl | rfl
  · rw [h0]; decide
  · rw [h1]; decide
theorem exC_code (n : Int) (h0 : 0 ≤ n) (h1 : n ≤ 48) : exC.codeN (canR 4) n = 0 := by
  have hc : exC.code = 0 := Chn.ok_iff.2 exC_ok
  have hr : exC.codeR (canR 4) = 0 := by
    unfold Chn.codeR
    rw [valR_canR, if_neg (by omega), if_neg]
    rintro (h | h)
    · exact h (by decide)
    · exact absurd exC_fast (Rat.not_le.2 h)
  unfold Chn.codeN
  rw [if_neg (by omega), if_neg (by omega)]
theorem exC_run1 : exC.run false 4 1 0 = 3/4 := by
  show runV (exC.act false) exC.f exC.t exC.q 4 2 exC.v0 1 0 = _
  have ha : exC.act false = fun _ => true := by funext k; rfl
  rw [ha, exC_q, exC_f, exC_t]
  decide +kernel
theorem exC_run2 : dsum exC.D (exC.run true 4 2) 2 = 7/16 := by
  show dsum exC.D (runV (exC.act true) exC.f exC.t exC.q 4 2 exC.v0 2) 2 = _
  have ha : exC.act true = fun k => if k = 0 then true else false := by funext k; show (!(true && ((exC.f k) == 1))) = _; rw [exC_f]; by_cases h : k = 0 <;> simp [h]
  rw [ha, exC_q, exC_f, exC_t]
  decide +kernel
attribute [local irreducible] nv wp
theorem ex_text34 {w : World} {v : Value} (h : RdR w v (canR (3/4))) : Calls Tryz.prog 37 #[v] w fun e w' => e = .returned (.string ⟨#[51, 47, 52]⟩) ∧ Below w.heap.size w w' :=
  (text_can h (by decide +kernel) (by decide +kernel) (by decide +kernel) [51] [52] (by decide +kernel) (by decide +kernel) (by simp) (by simp) (by simp) (by simp)).mono fun e w' h => ⟨h.1.trans (congrArg (fun x => Ending.returned (.string x)) (by decide +kernel)), h.2⟩
theorem ex_text716 {w : World} {v : Value} (h : RdR w v (canR (7/16))) : Calls Tryz.prog 37 #[v] w fun e w' => e = .returned (.string ⟨#[55, 47, 49, 54]⟩) ∧ Below w.heap.size w w' :=
  (text_can h (by decide +kernel) (by decide +kernel) (by decide +kernel) [55] [49, 54] (by decide +kernel) (by decide +kernel) (by simp) (by simp) (by simp) (by simp)).mono fun e w' h => ⟨h.1.trans (congrArg (fun x => Ending.returned (.string x)) (by decide +kernel)), h.2⟩
end Go.Proofs.YtlncafhgmbhocaaGreatDoor
namespace Go.Proofs.YtlncafhgmbhocaaGreatDoor
open Go.RowKit
set_option linter.unusedSimpArgs false
set_option linter.unusedVariables false
set_option maxRecDepth 20000
attribute [local irreducible] nv wp win plainB validR valR canR mvE chkM codeC exK maxF dsum
/-! ## law53: awake -/
theorem rofN (n : Nat) (hn : n < 1000) (z : Int) (hz : z = (n : Int)) (W : World) : Calls Tryz.prog 72 #[.int .i64 z] W fun e w' => RetQ W.heap.size (n : Rat) e w' ∧ Below W.heap.size W w' := by subst hz; exact rofQ n W (by omega)
/-- the example, as it lies there -/
theorem exC_in {W : World} {gM gB : Nat} {s1 s2 : Bool} {A1 A2 B1 B2 : Option Addr} {n1 c1 m1 d1 n2 c2 m2 d2 : Nat} (hM : gM < W.heap.size) (hB : gB < W.heap.size)
    (h1 : RdS W W.heap.size (rv s1 A1 n1 c1 B1 m1 d1) (canR 1)) (h2 : RdS W W.heap.size (rv s2 A2 n2 c2 B2 m2 d2) (canR 3))
    (hc : ∀ j u, [Value.int .i64 0, .int .i64 1, .bool s1, .slice A1 n1 c1, .slice B1 m1 d1, .int .i64 1, .int .i64 0, .bool s2, .slice A2 n2 c2, .slice B2 m2 d2][j]? = some u → W.cell? ⟨gM, j, none⟩ = some u)
    (hd : ∀ j u, [Value.bool false, .bool true][j]? = some u → W.cell? ⟨gB, j, none⟩ = some u) : ChI W W.heap.size (some ⟨gM, 0, none⟩) 2 (some ⟨gB, 0, none⟩) 2 exC := by
  refine ⟨⟨⟨fun k => if k = 0 then rv s1 A1 n1 c1 B1 m1 d1 else rv s2 A2 n2 c2 B2 m2 d2, two h1 h2, rfl, fun _ => ⟨gM, 0, rfl, hM, fun j u hu => ?_⟩⟩, ?_⟩, ⟨rfl, fun _ => ⟨gB, 0, rfl, hB, fun j u hu => ?_⟩⟩, ?_, by decide, by decide⟩
  · rw [Nat.zero_add]; exact hc j u hu
  · intro _ a ha; injection ha with ha; subst ha; exact hM
  · rw [Nat.zero_add]; exact hd j u hu
  · intro _ a ha; injection ha with ha; subst ha; exact hB
set_option maxHeartbeats 4000000 in
theorem awake_any (w : World) : Calls Tryz.prog 34 #[] w fun e w' => e = .returned (.bool true) ∧ Below w.heap.size w w' := by
  have K1 : Hid (∀ W, Calls Tryz.prog 72 #[.int .i64 1] W fun e w' => RetQ W.heap.size 1 e w' ∧ Below W.heap.size W w') := fun W => rofN 1 (by omega) 1 rfl W
  have K3 : Hid (∀ W, Calls Tryz.prog 72 #[.int .i64 3] W fun e w' => RetQ W.heap.size 3 e w' ∧ Below W.heap.size W w') := fun W => rofN 3 (by omega) 3 rfl W
  have K4 : Hid (∀ W, Calls Tryz.prog 72 #[.int .i64 4] W fun e w' => RetQ W.heap.size 4 e w' ∧ Below W.heap.size W w') := fun W => rofN 4 (by omega) 4 rfl W
  have l4 := Sz_canR (sz1_4.more (show 1 ≤ 4 by omega))
  have KA : Hid (∀ W gM gB b v, ChI W W.heap.size (some ⟨gM, 0, none⟩) 2 (some ⟨gB, 0, none⟩) 2 exC → OwQ W b v 4 → Calls Tryz.prog 35 #[cv 2 0 (some ⟨gM, 0, none⟩) 2 2 (some ⟨gB, 0, none⟩) 2 2, v, .int .i64 1] W fun e w' => (∃ A c b, e = .returned (.tuple #[.slice A 2 c, .nilIface]) ∧ b ≤ w'.heap.size ∧ OwR w' b A c 2 (can (exC.run false 4 1))) ∧ Below W.heap.size W w') := by
    show ∀ _, _
    intro W gM gB b v hi hv
    have := after_any (n := 1) hi exC_small.chS hv.rs l4.1 l4.2 (exC_small.st (canR_ok 4) l4.1 l4.2 (by omega) false)
    rw [exC_code 1 (by omega) (by omega), valR_canR] at this
    refine this.mono fun e w' ⟨h1, h2⟩ => ⟨?_, h2⟩
    unfold RetVx at h1
    rw [if_pos rfl] at h1
    exact h1
  have KF : Hid (∀ W gM gB b v, ChI W W.heap.size (some ⟨gM, 0, none⟩) 2 (some ⟨gB, 0, none⟩) 2 exC → OwQ W b v 4 → Calls Tryz.prog 73 #[cv 2 0 (some ⟨gM, 0, none⟩) 2 2 (some ⟨gB, 0, none⟩) 2 2, v, .int .i64 2] W fun e w' => (∃ A c b, e = .returned (.tuple #[.slice A 3 c, .nilIface]) ∧ b ≤ w'.heap.size ∧ OwR w' b A c 3 (can fun k => dsum exC.D (exC.run true 4 k) 2)) ∧ Below W.heap.size W w') := by
    show ∀ _, _
    intro W gM gB b v hi hv
    have := First_any (n := 2) hi exC_small.chS hv.rs l4.1 l4.2 (exC_small.dn (canR_ok 4) l4.1 l4.2 (by omega) true)
    rw [exC_code 2 (by omega) (by omega), valR_canR] at this
    refine this.mono fun e w' ⟨h1, h2⟩ => ⟨?_, h2⟩
    unfold RetVx at h1
    rw [if_pos rfl] at h1
    exact h1
  clear l4
  go_enter Tryz.func34, Tryz.ntmps34
  (go_wp2_with fail; (with_reducible refine (K1.out _).mono ?_); rintro e w1 ⟨⟨v1, rfl, own1⟩, hb1⟩; have hb1z := Below.size hb1; (try simp only [ZA, ZS, ZD, ZN] at hb1z); have hb1c0 := fun o => below_at hb1 (w.heap.size) o (by first | omega | (simp only [ZA, ZS, ZD, ZN]; omega)); have hb1f0 := fun o => below_fr hb1 (w.heap.size) o (by first | omega | (simp only [ZA, ZS, ZD, ZN]; omega)))
  obtain ⟨s1, A1, n1, c1, B1, m1, d1, rfl⟩ := own1.form
  (go_wp2_with fail; (with_reducible refine (K3.out _).mono ?_); rintro e w2 ⟨⟨v2, rfl, own2⟩, hb2⟩; have hb2z := Below.size hb2; (try simp only [ZA, ZS, ZD, ZN] at hb2z); have hb2c0 := fun o => below_at hb2 (w.heap.size) o (by first | omega | (simp only [ZA, ZS, ZD, ZN]; omega)); have hb2f0 := fun o => below_fr hb2 (w.heap.size) o (by first | omega | (simp only [ZA, ZS, ZD, ZN]; omega)))
  obtain ⟨s2, A2, n2, c2, B2, m2, d2, rfl⟩ := own2.form
  have hw2 : w.heap.size < w2.heap.size := by have := hb1.size; have := hb2.size; simp at *; omega
  obtain ⟨WC, hWC⟩ : ∃ WC, WC = (w2.alloc (.cells #[.int .i64 0, .int .i64 1, .bool s1, .slice A1 n1 c1, .slice B1 m1 d1, .int .i64 1, .int .i64 0, .bool s2, .slice A2 n2 c2, .slice B2 m2 d2] 46)).alloc (.cells #[.int .i64 2, .int .i64 0, .slice (some ⟨w2.heap.size, 0, none⟩) 2 2, .slice (some ⟨w.heap.size, 0, none⟩) 2 2] 25) := ⟨_, rfl⟩
  have hbC : Below w2.heap.size w2 WC := by rw [hWC]; exact ((Below.refl _ _).alloc (Nat.le_refl _) _).alloc (by simp) _
  have hzC : WC.heap.size = w2.heap.size + 2 := by rw [hWC]; simp
  have hbw : Below w.heap.size w WC := ((by have z0 := Below.size hb1; have z1 := Below.size hb2; (try simp only [ZA, ZS, ZD, ZN] at z0 z1 ⊢; skip); repeat' (first | (with_reducible exact Below.refl _ _) | (with_reducible assumption) | (with_reducible refine Below.alloc ?_ ?_ _) | (with_reducible refine Below.drew ?_) | (with_reducible refine below_drewN ?_ _) | (with_reducible refine Below.setCell ?_ ?_ _) | (with_reducible refine Below.trans ?_ (Below.mono (by with_reducible assumption) ?_)) | omega | (simp only [ZA, ZS, ZD, ZN]; omega) | go_size)) : Below w.heap.size w w2).trans (hbC.mono (by omega))
  have hin : ChI WC WC.heap.size (some ⟨w2.heap.size, 0, none⟩) 2 (some ⟨w.heap.size, 0, none⟩) 2 exC := by
    refine exC_in (by omega) (by omega) ((own1.below hb2).rs.kp (Kp.of_below hbC)) (own2.rs.kp (Kp.of_below hbC)) (fun j u hu => ?_) (fun j u hu => ?_)
    · rw [hWC]
      refine Lib.cell?_alloc_some _ ((World.cell?_alloc_at _ _ _ _ rfl).trans ?_)
      rw [← hu]
      simp
    · refine ((hbC.cell (p := ⟨w.heap.size, j, none⟩) hw2).trans ?_)
      rw [hb2c0, hb1c0]
      refine (World.cell?_alloc_at _ _ _ _ rfl).trans ?_
      rw [← hu]
      simp
  have HIN := Lib.hid (fun W (hb : Below WC.heap.size WC W) => hin.below hb)
  have f0 : WC.cell? ⟨w2.heap.size + 1, 0, none⟩ = some (.int .i64 2) := by rw [hWC]; exact (World.cell?_alloc_at _ _ _ _ (by simp)).trans rfl
  have f1 : WC.cell? ⟨w2.heap.size + 1, 1, none⟩ = some (.int .i64 0) := by rw [hWC]; exact (World.cell?_alloc_at _ _ _ _ (by simp)).trans rfl
  have f2 : WC.cell? ⟨w2.heap.size + 1, 2, none⟩ = some (.slice (some ⟨w2.heap.size, 0, none⟩) 2 2) := by rw [hWC]; exact (World.cell?_alloc_at _ _ _ _ (by simp)).trans rfl
  have f3 : WC.cell? ⟨w2.heap.size + 1, 3, none⟩ = some (.slice (some ⟨w.heap.size, 0, none⟩) 2 2) := by rw [hWC]; exact (World.cell?_alloc_at _ _ _ _ (by simp)).trans rfl
  have HWC := Lib.hid hWC
  have hwc9 : w2.heap.size + 1 < WC.heap.size := by omega
  clear hin hWC own1 own2 hbC K1 K3
  go_wp2
  rw [← HWC.out]
  go_region_held3 (fun W => W.cell? ⟨w2.heap.size + 1, 0, none⟩ = some (.int .i64 2) ∧ W.cell? ⟨w2.heap.size + 1, 1, none⟩ = some (.int .i64 0) ∧ W.cell? ⟨w2.heap.size + 1, 2, none⟩ = some (.slice (some ⟨w2.heap.size, 0, none⟩) 2 2) ∧ W.cell? ⟨w2.heap.size + 1, 3, none⟩ = some (.slice (some ⟨w.heap.size, 0, none⟩) 2 2)) (go_keep)
    (first | ((go_at_call 72; (with_reducible refine (K4.out _).mono ?_); rintro e w3 ⟨⟨v3, rfl, own3⟩, hb3⟩; have hb3z := Below.size hb3; (try simp only [ZA, ZS, ZD] at hb3z); have hb3c0 := fun o => below_at hb3 (w2.heap.size + 1) o (by first | omega | (simp only [ZA, ZS, ZD]; omega)); have hb3f0 := fun o => below_fr hb3 (w2.heap.size + 1) o (by first | omega | (simp only [ZA, ZS, ZD]; omega)); have hb3l0 : w2.heap.size + 1 < (w3).heap.size := (by omega)); obtain ⟨s3, A3, n3, c3', B3, m3, d3, rfl⟩ := own3.form) | ((go_at_call 35; (with_reducible refine (KA.out _ _ _ _ _ (HIN.out _ (by have z0 := Below.size hb3; (try simp only [ZA, ZS, ZD, ZN] at z0 ⊢; skip); repeat' (first | (with_reducible exact Below.refl _ _) | (with_reducible assumption) | (with_reducible refine Below.alloc ?_ ?_ _) | (with_reducible refine Below.drew ?_) | (with_reducible refine below_drewN ?_ _) | (with_reducible refine Below.setCell ?_ ?_ _) | (with_reducible refine Below.trans ?_ (Below.mono (by with_reducible assumption) ?_)) | omega | (simp only [ZA, ZS, ZD, ZN]; omega) | go_size))) own3).mono ?_); rintro e w4 ⟨⟨A4, c4, b4, rfl, hb4', ow4⟩, hb4⟩; have hb4z := Below.size hb4; (try simp only [ZA, ZS, ZD] at hb4z); have hb4c0 := fun o => below_at hb4 (w2.heap.size + 1) o (by first | omega | (simp only [ZA, ZS, ZD]; omega)); have hb4f0 := fun o => below_fr hb4 (w2.heap.size + 1) o (by first | omega | (simp only [ZA, ZS, ZD]; omega)); have hb4l0 : w2.heap.size + 1 < (w4).heap.size := (by omega))) | fail)
  all_goals
    have hb34 : Below WC.heap.size WC w4 := (by have z0 := Below.size hb3; have z1 := Below.size hb4; (try simp only [ZA, ZS, ZD, ZN] at z0 z1 ⊢; skip); repeat' (first | (with_reducible exact Below.refl _ _) | (with_reducible assumption) | (with_reducible refine Below.alloc ?_ ?_ _) | (with_reducible refine Below.drew ?_) | (with_reducible refine below_drewN ?_ _) | (with_reducible refine Below.setCell ?_ ?_ _) | (with_reducible refine Below.trans ?_ (Below.mono (by with_reducible assumption) ?_)) | omega | (simp only [ZA, ZS, ZD, ZN]; omega) | go_size))
    have HB34 := Lib.hid hb34
    have hz34 := hb34.size
    obtain ⟨g4, rfl⟩ := ow4.head (by omega)
    obtain ⟨s5, A5, n5, c5, B5, m5, d5, p0, p1, p2, r5⟩ := ow4.at_ (show 0 < 2 by omega)
    have hg4 := ow4.lt
    rw [show can (exC.run false 4 1) 0 = canR (3/4) from congrArg canR exC_run1] at r5
    simp only [Nat.zero_mul, Nat.zero_add] at p0 p1 p2
    have KT1 := Lib.hid (fun W (hb : Below w4.heap.size w4 W) => ex_text34 (r5.kp (Kp.of_below hb)).rdr)
    clear ow4 r5 own3 hb34
    go_wp2
    go_region_held3 (fun W => W.cell? ⟨w2.heap.size + 1, 0, none⟩ = some (.int .i64 2) ∧ W.cell? ⟨w2.heap.size + 1, 1, none⟩ = some (.int .i64 0) ∧ W.cell? ⟨w2.heap.size + 1, 2, none⟩ = some (.slice (some ⟨w2.heap.size, 0, none⟩) 2 2) ∧ W.cell? ⟨w2.heap.size + 1, 3, none⟩ = some (.slice (some ⟨w.heap.size, 0, none⟩) 2 2)) (go_keep)
      (first | ((go_at_call 72; (with_reducible refine (K4.out _).mono ?_); rintro e w5 ⟨⟨v5, rfl, own5⟩, hb5⟩; have hb5z := Below.size hb5; (try simp only [ZA, ZS, ZD] at hb5z); have hb5c0 := fun o => below_at hb5 (w2.heap.size + 1) o (by first | omega | (simp only [ZA, ZS, ZD]; omega)); have hb5f0 := fun o => below_fr hb5 (w2.heap.size + 1) o (by first | omega | (simp only [ZA, ZS, ZD]; omega)); have hb5l0 : w2.heap.size + 1 < (w5).heap.size := (by omega)); obtain ⟨s7, A7, n7, c7, B7, m7, d7, rfl⟩ := own5.form) | ((go_at_call 73; (with_reducible refine (KF.out _ _ _ _ _ (HIN.out _ (HB34.out.trans (Below.mono ((by have z0 := Below.size hb5; (try simp only [ZA, ZS, ZD, ZN] at z0 ⊢; skip); repeat' (first | (with_reducible exact Below.refl _ _) | (with_reducible assumption) | (with_reducible refine Below.alloc ?_ ?_ _) | (with_reducible refine Below.drew ?_) | (with_reducible refine below_drewN ?_ _) | (with_reducible refine Below.setCell ?_ ?_ _) | (with_reducible refine Below.trans ?_ (Below.mono (by with_reducible assumption) ?_)) | omega | (simp only [ZA, ZS, ZD, ZN]; omega) | go_size)) : Below w4.heap.size w4 w5) (by omega)))) own5).mono ?_); rintro e w6 ⟨⟨A6, c6, b6, rfl, hb6', ow6⟩, hb6⟩; have hb6z := Below.size hb6; (try simp only [ZA, ZS, ZD] at hb6z); have hb6c0 := fun o => below_at hb6 (w2.heap.size + 1) o (by first | omega | (simp only [ZA, ZS, ZD]; omega)); have hb6f0 := fun o => below_fr hb6 (w2.heap.size + 1) o (by first | omega | (simp only [ZA, ZS, ZD]; omega)); have hb6l0 : w2.heap.size + 1 < (w6).heap.size := (by omega))) | fail)
    all_goals
      have hb46 : Below w4.heap.size w4 w6 := (by have z0 := Below.size hb5; have z1 := Below.size hb6; (try simp only [ZA, ZS, ZD, ZN] at z0 z1 ⊢; skip); repeat' (first | (with_reducible exact Below.refl _ _) | (with_reducible assumption) | (with_reducible refine Below.alloc ?_ ?_ _) | (with_reducible refine Below.drew ?_) | (with_reducible refine below_drewN ?_ _) | (with_reducible refine Below.setCell ?_ ?_ _) | (with_reducible refine Below.trans ?_ (Below.mono (by with_reducible assumption) ?_)) | omega | (simp only [ZA, ZS, ZD, ZN]; omega) | go_size))
      obtain ⟨g6, rfl⟩ := ow6.head (by omega)
      obtain ⟨s8, A8, n8, c8, B8, m8, d8, q0, q1, q2, r8⟩ := ow6.at_ (show 2 < 3 by omega)
      have hg6 := ow6.lt
      rw [show (can fun k => dsum exC.D (exC.run true 4 k) 2) 2 = canR (7/16) from congrArg canR exC_run2] at r8
      simp only [show 2 * 3 = 6 from rfl] at q0 q1 q2
      have KT2 := Lib.hid (fun W (hb : Below w6.heap.size w6 W) => ex_text716 (r8.kp (Kp.of_below hb)).rdr)
      have p0' := (hb46.cell (p := ⟨g4, 0, none⟩) hg4).trans p0
      have p1' := (hb46.cell (p := ⟨g4, 1, none⟩) hg4).trans p1
      have p2' := (hb46.cell (p := ⟨g4, 2, none⟩) hg4).trans p2
      have HB46 := Lib.hid hb46
      clear ow6 r8 own5 hb46 p0 p1 p2
      (go_wp2_with fail; (with_reducible refine (KT1.out _ HB46.out).mono ?_); rintro e w7 ⟨rfl, hb7⟩; have hb7z := Below.size hb7; (try simp only [ZA, ZS, ZD, ZN] at hb7z); have hb7c0 := fun o => below_at hb7 (g6) o (by first | omega | (simp only [ZA, ZS, ZD, ZN]; omega)); have hb7f0 := fun o => below_fr hb7 (g6) o (by first | omega | (simp only [ZA, ZS, ZD, ZN]; omega)))
      (go_wp2_with fail; (with_reducible refine (KT2.out _ hb7).mono ?_); rintro e w8 ⟨rfl, hb8⟩; have hb8z := Below.size hb8; (try simp only [ZA, ZS, ZD, ZN] at hb8z))
      go_wp2
      go_ret
      exact ⟨rfl, hbw.trans ((HB34.out.mono (by omega)).trans ((HB46.out.mono (by omega)).trans ((hb7.mono (by have := HB46.out.size; omega)).trans (hb8.mono (by have := HB46.out.size; have := hb7.size; omega)))))⟩
end Go.Proofs.YtlncafhgmbhocaaGreatDoor
