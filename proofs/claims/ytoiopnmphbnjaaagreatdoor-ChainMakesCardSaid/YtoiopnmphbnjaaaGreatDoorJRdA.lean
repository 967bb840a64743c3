/- Contracts and lemmas for the given statements. Conditions: those alone that each names. -/
import Derived.Test.YtoiopnmphbnjaaaGreatDoorJDynW8
import Derived.Test.YtoiopnmphbnjaaaGreatDoorJRatK
set_option maxHeartbeats 16000000
namespace Go.Proofs.YtoiopnmphbnjaaaGreatDoor
open Go.RowKit
set_option linter.unusedSimpArgs false
set_option linter.unusedVariables false
set_option maxRecDepth 20000
/-! ## reference 48: bounds, zero, rates; reference 02: Prob -/
theorem ieq_f {a b : Int} (h : a ≠ b) : (a == b) = false := by simpa using h
def bdL (kd : Int) : Int := if kd = 0 ∨ kd = 1 ∨ kd = 4 ∨ kd = 2 ∨ kd = 3 then 1 else if kd = 5 ∨ kd = 6 ∨ kd = 7 ∨ kd = 8 then 2 else 0
def bdM (kd : Int) : Int := if kd = 0 ∨ kd = 1 ∨ kd = 4 ∨ kd = 2 then 16 else if kd = 3 then 1 else if kd = 5 then 2 else if kd = 6 ∨ kd = 7 ∨ kd = 8 then 16 else 0
theorem rbounds_any (kd : Int) (w : World) : Calls Tryz.prog 82 #[.int .i64 kd] w fun e w' => e = .returned (.tuple #[.int .i64 (bdL kd), .int .i64 (bdM kd)]) ∧ w = w' := by
 by_cases hk : kd = 0 ∨ kd = 1 ∨ kd = 4 ∨ kd = 2 ∨ kd = 3 ∨ kd = 5 ∨ kd = 6 ∨ kd = 7 ∨ kd = 8
 · rcases hk with rfl | rfl | rfl | rfl | rfl | rfl | rfl | rfl | rfl
   all_goals
     go_enter Tryz.func82, Tryz.ntmps82
     go_wp2
     go_returns
     exact ⟨rfl, rfl⟩
 · have e0 := ieq_f (a := kd) (b := 0) (by omega)
   have e1 := ieq_f (a := kd) (b := 1) (by omega)
   have e2 := ieq_f (a := kd) (b := 2) (by omega)
   have e3 := ieq_f (a := kd) (b := 3) (by omega)
   have e4 := ieq_f (a := kd) (b := 4) (by omega)
   have e5 := ieq_f (a := kd) (b := 5) (by omega)
   have e6 := ieq_f (a := kd) (b := 6) (by omega)
   have e7 := ieq_f (a := kd) (b := 7) (by omega)
   have e8 := ieq_f (a := kd) (b := 8) (by omega)
   have HL : Hid (bdL kd = 0) := by show _ = _; unfold bdL; rw [if_neg (by omega), if_neg (by omega)]
   have HM : Hid (bdM kd = 0) := by show _ = _; unfold bdM; rw [if_neg (by omega), if_neg (by omega), if_neg (by omega), if_neg (by omega)]
   clear hk
   go_enter Tryz.func82, Tryz.ntmps82
   go_wp2
   go_returns
   exact ⟨by rw [HL.out, HM.out]; rfl, rfl⟩
theorem rzero48 (s : Bool) (A B : Option Addr) (n c m d : Nat) (w : World) : Calls Tryz.prog 85 #[rv s A n c B m d] w fun e w' => e = .returned (.bool (!s && (n == 0 && m == 0))) ∧ Below w.heap.size w w' := by
 have e2 : ((m : Int) == 0) = (m == 0) := by rw [Bool.eq_iff_iff]; simp
 cases s
 · by_cases h1 : n = 0
   · subst h1
     go_enter Tryz.func85, Tryz.ntmps85
     go_wp2
     go_returns
     exact ⟨by simp [e2], (by (skip); repeat' (first | (with_reducible first | exact BlR _ _ | assumption | refine BlA ?_ ?_ _ | refine BlD ?_ | refine BlN ?_ _ | refine BlS ?_ ?_ _ | refine BlT ?_ (BlM (by assumption) ?_)) | omega | (simp only [ZZ]; omega) | go_size))⟩
   · have e1 : ((n : Int) == 0) = false := by simp; omega
     go_enter Tryz.func85, Tryz.ntmps85
     go_wp2
     go_returns
     exact ⟨by simp [h1], (by (skip); repeat' (first | (with_reducible first | exact BlR _ _ | assumption | refine BlA ?_ ?_ _ | refine BlD ?_ | refine BlN ?_ _ | refine BlS ?_ ?_ _ | refine BlT ?_ (BlM (by assumption) ?_)) | omega | (simp only [ZZ]; omega) | go_size))⟩
 · go_enter Tryz.func85, Tryz.ntmps85
   go_wp2
   go_returns
   exact ⟨by simp, (by (skip); repeat' (first | (with_reducible first | exact BlR _ _ | assumption | refine BlA ?_ ?_ _ | refine BlD ?_ | refine BlN ?_ _ | refine BlS ?_ ?_ _ | refine BlT ?_ (BlM (by assumption) ?_)) | omega | (simp only [ZZ]; omega) | go_size))⟩
theorem rzeroS {w : World} {b0 : Nat} {v : Value} {r : Rw} (h : RdS w b0 v r) : Calls Tryz.prog 85 #[v] w fun e w' => e = .returned (.bool (zeR r)) ∧ Below w.heap.size w w' := by
 obtain ⟨A, c, B, d, rfl, -, -, -, -, -, -, -⟩ := h
 exact rzero48 _ _ _ _ _ _ _ _
theorem sz_oneN {L : Nat} (hL : 1 ≤ L) : Sz L ((1 : Nat) : Rat) := Sz.more (L := 1) ⟨show ((1 : Nat) : Rat).num.natAbs < wp 1 by decide, show ((1 : Nat) : Rat).den < wp 1 by decide⟩ hL
theorem sgn_le0 {q : Rat} : decide (sgnQ q ≤ 0) = decide (q ≤ 0) := by
 unfold sgnQ
 by_cases h0 : q = 0
 · rw [if_pos h0, h0]; decide
 · rw [if_neg h0]
   by_cases h1 : q < 0
   · rw [if_pos h1]
     have : q ≤ 0 := Rat.le_of_lt h1
     simp [this]
   · rw [if_neg h1]
     have : ¬ q ≤ 0 := fun h => h0 (Rat.le_antisymm h (Rat.not_lt.1 h1))
     simp [this]
theorem sgn_ge0 {q : Rat} : decide (0 ≤ sgnQ q) = decide (0 ≤ q) := by
 unfold sgnQ
 by_cases h0 : q = 0
 · rw [if_pos h0, h0]; decide
 · rw [if_neg h0]
   by_cases h1 : q < 0
   · rw [if_pos h1]
     have : ¬ 0 ≤ q := Rat.not_le.2 h1
     simp [this]
   · rw [if_neg h1]
     have : 0 ≤ q := Rat.not_lt.1 h1
     simp [this]
theorem sub_le0 {a b : Rat} : decide (a - b ≤ 0) = decide (a ≤ b) := by
 rw [decide_eq_decide]
 constructor <;> intro h <;> grind
theorem rprobS {w : World} {b0 : Nat} {v : Value} {r : Rw} (h : RdS w b0 v r) (h1 : r.2.1.length ≤ 1000) (h2 : r.2.2.length ≤ 1000) : Calls Tryz.prog 84 #[v] w fun e w' => e = .returned (.bool (prR r)) ∧ Below w.heap.size w w' := by
 have KV := Lib.hid (fun W (hb : Below w.heap.size w W) => rvalidS (h.kp (Kp.of_below hb)) h1 h2)
 have KS := Lib.hid (fun W (hb : Below w.heap.size w W) => rsignQ (h.kp (Kp.of_below hb) |>.rdq (L := 1000) h1 h2) (by omega) (by omega))
 have KC := Lib.hid (fun W base u (hb : Below w.heap.size w W) (ho : OwQ W base u ((1 : Nat) : Rat)) => rcmpQ (h.kp (Kp.of_below hb) |>.rdq (L := 1000) h1 h2) (ho.rq (L := 1000) (sz_oneN (by omega))) (by omega) (by omega))
 have KO : Hid (∀ W : World, Calls Tryz.prog 81 #[.int .i64 1] W fun e w' => RetQ W.heap.size ((1 : Nat) : Rat) e w' ∧ Below W.heap.size W w') := fun W => rofQ 1 W (by omega)
 have HP : Hid (prR r = (validR r && decide (0 ≤ valR r ∧ valR r ≤ 1))) := rfl
 obtain ⟨s, A, n, c, B, m, d, rfl⟩ := h.form
 have HS := Lib.hid (sgn_ge0 (q := valR r))
 have HL := Lib.hid ((sgn_le0 (q := valR r - ((1 : Nat) : Rat))).trans sub_le0)
 generalize prR r = res at *
 cases hv : validR r
 · have HR : Hid (res = false) := by show _ = _; rw [HP.out, hv]; rfl
   rw [hv] at KV
   clear h hv HP KS KC KO HS HL h1 h2
   go_enter Tryz.func84, Tryz.ntmps84
   go_upto_region 1 with fail
   have x0 : (w.alloc (.cells #[.bool s, .slice A n c, .slice B m d] 56)).cell? ⟨w.heap.size, 0, none⟩ = some (.bool s) := by simp
   have x1 : (w.alloc (.cells #[.bool s, .slice A n c, .slice B m d] 56)).cell? ⟨w.heap.size, 1, none⟩ = some (.slice A n c) := by simp
   have x2 : (w.alloc (.cells #[.bool s, .slice A n c, .slice B m d] 56)).cell? ⟨w.heap.size, 2, none⟩ = some (.slice B m d) := by simp
   have hAL : Below w.heap.size w (w.alloc (.cells #[.bool s, .slice A n c, .slice B m d] 56)) := (Below.refl _ _).alloc (Nat.le_refl _) _
   have hWz : w.heap.size < (w.alloc (.cells #[.bool s, .slice A n c, .slice B m d] 56)).heap.size := by simp
   generalize w.alloc (.cells #[.bool s, .slice A n c, .slice B m d] 56) = W0 at *
   have q0 := fun y : Sub W0 => y.cell x0
   have q1 := fun y : Sub W0 => y.cell x1
   have q2 := fun y : Sub W0 => y.cell x2
   clear x0 x1 x2
   ((refine wp_region_quiet_bel (by kernel_rfl) (by kernel_rfl) ?_); (repeat (go_big_quiet_step ((go_at_call 78; with_reducible exact Calls.quiet_bel (KV.out _ (hAL.trans ((Sub.bel _).mono (by omega)))))))); (refine wpQuiet_nil ?_); rintro w5 ⟨⟨_, hb5⟩, rfl⟩; (try dsimp only))
   clear q0 q1 q2
   go_wp2_with fail
   go_returns
   exact ⟨by rw [HR.out]; rfl, (by have z0 := Below.size hAL; have z1 := Below.size hb5; (try simp only [ZZ] at z0 z1 ⊢; skip); repeat' (first | (with_reducible first | exact BlR _ _ | assumption | refine BlA ?_ ?_ _ | refine BlD ?_ | refine BlN ?_ _ | refine BlS ?_ ?_ _ | refine BlT ?_ (BlM (by assumption) ?_)) | omega | (simp only [ZZ]; omega) | go_size))⟩
 · rw [hv] at KV
   have HR : Hid (res = (decide (0 ≤ sgnQ (valR r)) && decide (sgnQ (valR r - ((1 : Nat) : Rat)) ≤ 0))) := by
     show _ = _
     rw [HP.out, hv, HS.out, HL.out, Bool.true_and, Bool.eq_iff_iff]
     simp
   generalize sgnQ (valR r) = z at *
   generalize sgnQ (valR r - ((1 : Nat) : Rat)) = y at *
   clear h hv HP HS HL h1 h2
   by_cases hz : 0 ≤ z
   · have e1 : decide (0 ≤ z) = true := by simpa using hz
     rw [e1] at HR
     clear hz
     go_enter Tryz.func84, Tryz.ntmps84
     go_upto_region 1 with fail
     have x0 : (w.alloc (.cells #[.bool s, .slice A n c, .slice B m d] 56)).cell? ⟨w.heap.size, 0, none⟩ = some (.bool s) := by simp
     have x1 : (w.alloc (.cells #[.bool s, .slice A n c, .slice B m d] 56)).cell? ⟨w.heap.size, 1, none⟩ = some (.slice A n c) := by simp
     have x2 : (w.alloc (.cells #[.bool s, .slice A n c, .slice B m d] 56)).cell? ⟨w.heap.size, 2, none⟩ = some (.slice B m d) := by simp
     have hAL : Below w.heap.size w (w.alloc (.cells #[.bool s, .slice A n c, .slice B m d] 56)) := (Below.refl _ _).alloc (Nat.le_refl _) _
     have hWz : w.heap.size < (w.alloc (.cells #[.bool s, .slice A n c, .slice B m d] 56)).heap.size := by simp
     generalize w.alloc (.cells #[.bool s, .slice A n c, .slice B m d] 56) = W0 at *
     go_region_held3 (fun W => W.cell? ⟨w.heap.size, 0, none⟩ = some (.bool s) ∧ W.cell? ⟨w.heap.size, 1, none⟩ = some (.slice A n c) ∧ W.cell? ⟨w.heap.size, 2, none⟩ = some (.slice B m d)) (go_keep)
       (first | ((go_at_call 78; (with_reducible refine (KV.out _ (by have z0 := Below.size hAL; (try simp only [ZZ] at z0 ⊢; skip); repeat' (first | (with_reducible first | exact BlR _ _ | assumption | refine BlA ?_ ?_ _ | refine BlD ?_ | refine BlN ?_ _ | refine BlS ?_ ?_ _ | refine BlT ?_ (BlM (by assumption) ?_)) | omega | (simp only [ZZ]; omega) | go_size))).mono ?_); rintro e w1 ⟨rfl, hb1⟩; have hb1z := Below.size hb1; (try simp only [ZZ] at hb1z); obtain ⟨hb1c0, hb1f0⟩ := bbo hb1 (w.heap.size) (by first | omega | (simp only [ZZ]; omega)); have hb1l0 : w.heap.size < (w1).heap.size := (by omega))) | ((go_at_call 54; (with_reducible refine (KS.out _ (by have z0 := Below.size hAL; have z1 := Below.size hb1; (try simp only [ZZ] at z0 z1 ⊢; skip); repeat' (first | (with_reducible first | exact BlR _ _ | assumption | refine BlA ?_ ?_ _ | refine BlD ?_ | refine BlN ?_ _ | refine BlS ?_ ?_ _ | refine BlT ?_ (BlM (by assumption) ?_)) | omega | (simp only [ZZ]; omega) | go_size))).mono ?_); rintro e w2 ⟨rfl, hb2⟩; have hb2z := Below.size hb2; (try simp only [ZZ] at hb2z); obtain ⟨hb2c0, hb2f0⟩ := bbo hb2 (w.heap.size) (by first | omega | (simp only [ZZ]; omega)); have hb2l0 : w.heap.size < (w2).heap.size := (by omega))) | ((go_at_call 81; (with_reducible refine (KO.out _).mono ?_); rintro e w3 ⟨⟨v3, rfl, own3⟩, hb3⟩; have hb3z := Below.size hb3; (try simp only [ZZ] at hb3z); obtain ⟨hb3c0, hb3f0⟩ := bbo hb3 (w.heap.size) (by first | omega | (simp only [ZZ]; omega)); have hb3l0 : w.heap.size < (w3).heap.size := (by omega))) | ((go_at_call 80; (with_reducible refine (KC.out _ _ _ (by have z0 := Below.size hAL; have z1 := Below.size hb1; have z2 := Below.size hb2; have z3 := Below.size hb3; (try simp only [ZZ] at z0 z1 z2 z3 ⊢; skip); repeat' (first | (with_reducible first | exact BlR _ _ | assumption | refine BlA ?_ ?_ _ | refine BlD ?_ | refine BlN ?_ _ | refine BlS ?_ ?_ _ | refine BlT ?_ (BlM (by assumption) ?_)) | omega | (simp only [ZZ]; omega) | go_size)) own3).mono ?_); rintro e w4 ⟨rfl, hb4⟩; have hb4z := Below.size hb4; (try simp only [ZZ] at hb4z); obtain ⟨hb4c0, hb4f0⟩ := bbo hb4 (w.heap.size) (by first | omega | (simp only [ZZ]; omega)); have hb4l0 : w.heap.size < (w4).heap.size := (by omega))) | fail)
     all_goals
       go_wp2_with fail
       go_returns
       exact ⟨by rw [HR.out]; simp, (by have z0 := Below.size hAL; have z1 := Below.size hb1; have z2 := Below.size hb2; have z3 := Below.size hb3; have z4 := Below.size hb4; (try simp only [ZZ] at z0 z1 z2 z3 z4 ⊢; skip); repeat' (first | (with_reducible first | exact BlR _ _ | assumption | refine BlA ?_ ?_ _ | refine BlD ?_ | refine BlN ?_ _ | refine BlS ?_ ?_ _ | refine BlT ?_ (BlM (by assumption) ?_)) | omega | (simp only [ZZ]; omega) | go_size))⟩
   · have e1 : decide (0 ≤ z) = false := by simpa using hz
     rw [e1] at HR
     clear hz
     go_enter Tryz.func84, Tryz.ntmps84
     go_upto_region 1 with fail
     have x0 : (w.alloc (.cells #[.bool s, .slice A n c, .slice B m d] 56)).cell? ⟨w.heap.size, 0, none⟩ = some (.bool s) := by simp
     have x1 : (w.alloc (.cells #[.bool s, .slice A n c, .slice B m d] 56)).cell? ⟨w.heap.size, 1, none⟩ = some (.slice A n c) := by simp
     have x2 : (w.alloc (.cells #[.bool s, .slice A n c, .slice B m d] 56)).cell? ⟨w.heap.size, 2, none⟩ = some (.slice B m d) := by simp
     have hAL : Below w.heap.size w (w.alloc (.cells #[.bool s, .slice A n c, .slice B m d] 56)) := (Below.refl _ _).alloc (Nat.le_refl _) _
     have hWz : w.heap.size < (w.alloc (.cells #[.bool s, .slice A n c, .slice B m d] 56)).heap.size := by simp
     generalize w.alloc (.cells #[.bool s, .slice A n c, .slice B m d] 56) = W0 at *
     have q0 := fun y : Sub W0 => y.cell x0
     have q1 := fun y : Sub W0 => y.cell x1
     have q2 := fun y : Sub W0 => y.cell x2
     clear x0 x1 x2
     ((refine wp_region_quiet_bel (by kernel_rfl) (by kernel_rfl) ?_); (repeat (go_big_quiet_step ((first | (go_at_call 78; with_reducible exact Calls.quiet_bel (KV.out _ (hAL.trans ((Sub.bel _).mono (by omega))))) | (go_at_call 54; with_reducible exact Calls.quiet_bel (KS.out _ (hAL.trans ((Sub.bel _).mono (by omega))))) | fail)))); (refine wpQuiet_nil ?_); rintro w5 ⟨⟨_, hb5⟩, rfl⟩; (try dsimp only))
     clear q0 q1 q2
     go_wp2_with fail
     go_returns
     exact ⟨by rw [HR.out]; rfl, (by have z0 := Below.size hAL; have z1 := Below.size hb5; (try simp only [ZZ] at z0 z1 ⊢; skip); repeat' (first | (with_reducible first | exact BlR _ _ | assumption | refine BlA ?_ ?_ _ | refine BlD ?_ | refine BlN ?_ _ | refine BlS ?_ ?_ _ | refine BlT ?_ (BlM (by assumption) ?_)) | omega | (simp only [ZZ]; omega) | go_size))⟩
theorem rrates_any {w : World} {A : Option Addr} {b0 n c : Nat} {R : Nat → Rw} (h : RowA w b0 A n R) (hs : Short n R) (hn : n ≤ 1000000) :
   Calls Tryz.prog 43 #[.slice A n c] w fun e w' => e = .returned (.int .i64 (if rtsOk R n = true then 0 else 3)) ∧ Below w.heap.size w w' := by
 have HR := Lib.hid h
 have HSH := Lib.hid hs
 have HBAD : Hid (rtsOk R n = false → (if rtsOk R n = true then (0 : Int) else 3) = 3) := fun h => by rw [h]; rfl
 have HGOOD : Hid (rtsOk R n = true → (if rtsOk R n = true then (0 : Int) else 3) = 0) := fun h => by rw [h]; rfl
 generalize (if rtsOk R n = true then (0 : Int) else 3) = code at *
 clear h hs
 go_enter Tryz.func43, Tryz.ntmps43
 go_wp2_with fail
 go_loopw [7] (fun i w3 => ∃ t : Nat, t ≤ n ∧ i = .int .i64 t ∧ (∀ u, u < t → rtOk R u = true) ∧ Below w.heap.size w w3) (fun i _ => n - (intOf i).toNat)
 case atStart => exact ⟨0, Nat.zero_le _, rfl, fun u hu => by omega, Below.refl _ _⟩
 case round =>
   obtain ⟨t, ht, rfl, hall, hb3⟩ := hrel
   obtain ⟨w3, rfl⟩ : ∃ w3 : World, w3 = wr := ⟨_, rfl⟩
   have HALL := Lib.hid hall
   clear hall
   have hb3z := hb3.size
   by_cases htn : t < n
   · obtain ⟨b, off, s, A1, n1', c1, B1, m1, d1, rfl, hbb, z0, z1, z2, rs⟩ := (HR.out.below hb3).at_ htn
     have hshort := HSH.out t htn
     have KV := Lib.hid (fun X (hX : Below w3.heap.size w3 X) => rvalidS (rs.kp (Kp.of_below hX)) hshort.1 hshort.2)
     have KS := Lib.hid (fun X z (hX : Below w3.heap.size w3 X) (hz : sgnQ (valR (R t)) = z) => rsignS (rs.kp (Kp.of_below hX)) hshort.1 hshort.2 hz)
     have HB0 : Hid (rtOk R t = false → code = 3) := fun hx => HBAD.out (rtsOk_f htn hx)
     have HN0 : Hid (rtOk R t = true → ∀ u, u < t + 1 → rtOk R u = true) := fun hx u hu => by
       rcases Nat.lt_or_ge u t with h | h
       · exact HALL.out u h
       · have : u = t := by omega
         subst this
         exact hx
     have HRT : Hid (rtOk R t = (validR (R t) && decide (0 ≤ valR (R t)))) := rfl
     have k0 : (0 : Int) ≤ (t : Int) := by omega
     have k1 : (t : Int) < (n : Int) := by omega
     clear rs hshort
     cases hvR : validR (R t)
     · have HC := Lib.hid (HB0.out (by rw [HRT.out, hvR]; rfl))
       rw [hvR] at KV
       clear HB0 HN0 HRT hvR KS
       go_wp2_with fail
       refine (KV.out _ (by (skip); repeat' (first | (with_reducible first | exact BlR _ _ | assumption | refine BlA ?_ ?_ _ | refine BlD ?_ | refine BlN ?_ _ | refine BlS ?_ ?_ _ | refine BlT ?_ (BlM (by assumption) ?_)) | omega | (simp only [ZZ]; omega) | go_size))).mono ?_
       rintro e w5 ⟨rfl, hb5⟩
       go_wp2_with fail
       go_returns
       exact ⟨by rw [HC.out]; rfl, (by have z0 := Below.size hb3; have z1 := Below.size hb5; (try simp only [ZZ] at z0 z1 ⊢; skip); repeat' (first | (with_reducible first | exact BlR _ _ | assumption | refine BlA ?_ ?_ _ | refine BlD ?_ | refine BlN ?_ _ | refine BlS ?_ ?_ _ | refine BlT ?_ (BlM (by assumption) ?_)) | omega | (simp only [ZZ]; omega) | go_size))⟩
     · rw [hvR] at KV
       obtain ⟨z, hz⟩ : ∃ z : Int, sgnQ (valR (R t)) = z := ⟨_, rfl⟩
       have K2 := Lib.hid (fun X hX => KS.out X z hX hz)
       have hzq := sgn_ge0 (q := valR (R t))
       rw [hz] at hzq
       by_cases hq : 0 ≤ valR (R t)
       · have HN := Lib.hid (HN0.out (by rw [HRT.out, hvR]; simpa using hq))
         have hz0 : 0 ≤ z := by simpa [hq] using hzq
         have hz1' : ¬ z < 0 := by omega
         have hz2 : decide (z < 0) = false := by simpa using hz0
         clear HB0 HN0 HRT hvR KS hq hz hzq hz0
         go_wp2_with fail
         refine (KV.out _ (by (skip); repeat' (first | (with_reducible first | exact BlR _ _ | assumption | refine BlA ?_ ?_ _ | refine BlD ?_ | refine BlN ?_ _ | refine BlS ?_ ?_ _ | refine BlT ?_ (BlM (by assumption) ?_)) | omega | (simp only [ZZ]; omega) | go_size))).mono ?_
         rintro e w5 ⟨rfl, hb5⟩
         have hb5z := hb5.size
         simp only [World.size_alloc] at hb5z
         have y0 : w5.cell? ⟨w3.heap.size, 0, none⟩ = some (.bool s) := (below_at hb5 w3.heap.size 0 (by simp)).trans (by simp [go_sem])
         have y1 : w5.cell? ⟨w3.heap.size, 1, none⟩ = some (.slice A1 n1' c1) := (below_at hb5 w3.heap.size 1 (by simp)).trans (by simp [go_sem])
         have y2 : w5.cell? ⟨w3.heap.size, 2, none⟩ = some (.slice B1 m1 d1) := (below_at hb5 w3.heap.size 2 (by simp)).trans (by simp [go_sem])
         have hb35 : Below w3.heap.size w3 w5 := (by have z0 := Below.size hb5; (try simp only [ZZ] at z0 ⊢; skip); repeat' (first | (with_reducible first | exact BlR _ _ | assumption | refine BlA ?_ ?_ _ | refine BlD ?_ | refine BlN ?_ _ | refine BlS ?_ ?_ _ | refine BlT ?_ (BlM (by assumption) ?_)) | omega | (simp only [ZZ]; omega) | go_size))
         clear hb5
         go_wp2_with fail
         refine (K2.out _ hb35).mono ?_
         rintro e w6 ⟨rfl, hb6⟩
         go_wp2_with fail
         go_roundw
         case rel => exact ⟨t + 1, by omega, by go_num, HN.out, (by have z0 := Below.size hb3; have z1 := Below.size hb35; have z2 := Below.size hb6; (try simp only [ZZ] at z0 z1 z2 ⊢; skip); repeat' (first | (with_reducible first | exact BlR _ _ | assumption | refine BlA ?_ ?_ _ | refine BlD ?_ | refine BlN ?_ _ | refine BlS ?_ ?_ _ | refine BlT ?_ (BlM (by assumption) ?_)) | omega | (simp only [ZZ]; omega) | go_size))⟩
         case measure => simp [intOf]; omega
       · have HC := Lib.hid (HB0.out (by rw [HRT.out, hvR]; simpa using hq))
         have hz0 : ¬ 0 ≤ z := by simpa [hq] using hzq
         have hz1' : z < 0 := by omega
         have hz2 : decide (z < 0) = true := by simpa using hz1'
         clear HB0 HN0 HRT hvR KS hq hz hzq hz0
         go_wp2_with fail
         refine (KV.out _ (by (skip); repeat' (first | (with_reducible first | exact BlR _ _ | assumption | refine BlA ?_ ?_ _ | refine BlD ?_ | refine BlN ?_ _ | refine BlS ?_ ?_ _ | refine BlT ?_ (BlM (by assumption) ?_)) | omega | (simp only [ZZ]; omega) | go_size))).mono ?_
         rintro e w5 ⟨rfl, hb5⟩
         have hb5z := hb5.size
         simp only [World.size_alloc] at hb5z
         have y0 : w5.cell? ⟨w3.heap.size, 0, none⟩ = some (.bool s) := (below_at hb5 w3.heap.size 0 (by simp)).trans (by simp [go_sem])
         have y1 : w5.cell? ⟨w3.heap.size, 1, none⟩ = some (.slice A1 n1' c1) := (below_at hb5 w3.heap.size 1 (by simp)).trans (by simp [go_sem])
         have y2 : w5.cell? ⟨w3.heap.size, 2, none⟩ = some (.slice B1 m1 d1) := (below_at hb5 w3.heap.size 2 (by simp)).trans (by simp [go_sem])
         have hb35 : Below w3.heap.size w3 w5 := (by have z0 := Below.size hb5; (try simp only [ZZ] at z0 ⊢; skip); repeat' (first | (with_reducible first | exact BlR _ _ | assumption | refine BlA ?_ ?_ _ | refine BlD ?_ | refine BlN ?_ _ | refine BlS ?_ ?_ _ | refine BlT ?_ (BlM (by assumption) ?_)) | omega | (simp only [ZZ]; omega) | go_size))
         clear hb5
         go_wp2_with fail
         refine (K2.out _ hb35).mono ?_
         rintro e w6 ⟨rfl, hb6⟩
         go_wp2_with fail
         go_returns
         exact ⟨by rw [HC.out]; rfl, (by have z0 := Below.size hb3; have z1 := Below.size hb35; have z2 := Below.size hb6; (try simp only [ZZ] at z0 z1 z2 ⊢; skip); repeat' (first | (with_reducible first | exact BlR _ _ | assumption | refine BlA ?_ ?_ _ | refine BlD ?_ | refine BlN ?_ _ | refine BlS ?_ ?_ _ | refine BlT ?_ (BlM (by assumption) ?_)) | omega | (simp only [ZZ]; omega) | go_size))⟩
   · have HN := Lib.hid (HGOOD.out (rtsOk_t fun u hu => HALL.out u (by omega)))
     have htn' : ¬ (t : Int) < (n : Int) := by omega
     clear HBAD HGOOD HALL
     go_wp2_with fail
     go_returns
     exact ⟨by rw [HN.out]; rfl, hb3⟩
end Go.Proofs.YtoiopnmphbnjaaaGreatDoor
namespace Go.Proofs.YtoiopnmphbnjaaaGreatDoor
open Go.RowKit
set_option linter.unusedSimpArgs false
set_option linter.unusedVariables false
set_option maxRecDepth 20000
/-! ## reference 48: twice -/
section
variable {r : DyR}
theorem spL_pre {n m : Nat} (h : n ≤ m) : spL r n <+: spL r m := by
 induction m with
 | zero => rw [show n = 0 by omega]; exact List.prefix_refl _
 | succ m ih =>
   by_cases e : n = m + 1
   · rw [e]; exact List.prefix_refl _
   · refine (ih (by omega)).trans ?_
     rw [spL]
     split
     · exact List.prefix_append _ _
     · exact List.prefix_refl _
theorem spL_le {n m : Nat} (h : n ≤ m) : (spL r n).length ≤ (spL r m).length := (spL_pre h).length_le
theorem spL_get {k n j : Nat} (hk : k < n) (h7 : r.kd k = 7) (hj : j < (r.ar k).length) : (spL r n).getD ((spL r k).length + j) 0 = (r.ar k)[j] ∧ (spL r k).length + j < (spL r n).length := by
 have e : spL r (k + 1) = spL r k ++ r.ar k := by rw [spL, if_pos h7]
 obtain ⟨m, hm⟩ := spL_pre (r := r) (show k + 1 ≤ n by omega)
 rw [e] at hm
 rw [← hm]
 refine ⟨?_, by rw [List.length_append, List.length_append]; omega⟩
 rw [List.getD_eq_getElem?_getD, List.getElem?_append_left (by rw [List.length_append]; omega), List.getElem?_append_right (by omega), show (spL r k).length + j - (spL r k).length = j by omega, List.getElem?_eq_getElem hj]
 rfl
theorem spL_nx7 {k : Nat} (h7 : r.kd k = 7) : (spL r (k + 1)).length = (spL r k).length + (r.ar k).length := by rw [spL, if_pos h7, List.length_append]
theorem spL_nx0 {k : Nat} (h7 : r.kd k ≠ 7) : (spL r (k + 1)).length = (spL r k).length := by rw [spL, if_neg h7]
theorem dup_nx {L : List Int} {p : Nat} (hp : p < L.length) (h : dupB [] (L.take p) = false) (hn : ∀ t, t < p → L.getD t 0 ≠ L.getD p 0) : dupB [] (L.take (p + 1)) = false := by
 rw [dupB_take hp, h, Bool.false_or, List.nil_append]
 have e : L[p] = L.getD p 0 := by rw [List.getD_eq_getElem?_getD, List.getElem?_eq_getElem hp]; rfl
 rw [e]
 cases hc : (L.take p).contains (L.getD p 0)
 · rfl
 · rw [List.contains_iff_mem] at hc
   obtain ⟨t, ht, e2⟩ := List.getElem_of_mem hc
   rw [List.length_take] at ht
   rw [List.getElem_take] at e2
   refine absurd ?_ (hn t (by omega))
   rw [← e2, List.getD_eq_getElem?_getD, List.getElem?_eq_getElem (by omega)]
   rfl
theorem dup_yes {L : List Int} {p t : Nat} (hp : p < L.length) (ht : t < p) (h : L.getD t 0 = L.getD p 0) : dupB [] L = true := by
 refine dupB_more (k := p + 1) ?_
 rw [dupB_take hp, List.nil_append, Bool.or_eq_true]
 right
 rw [List.contains_iff_mem]
 have e : L[p] = L[t] := by
   rw [List.getD_eq_getElem?_getD, List.getD_eq_getElem?_getD, List.getElem?_eq_getElem hp, List.getElem?_eq_getElem (by omega : t < L.length)] at h
   exact h.symm
 rw [e]
 exact List.mem_iff_getElem.2 ⟨t, by rw [List.length_take]; omega, by rw [List.getElem_take]⟩
end
section
variable {w : World} {AG AF AR : Option Addr} {cg cf cr : Nat} {r : DyR}
theorem rtwice_any {i : Nat} (h : DyI w AG AF AR r) (hi : i < r.ng) (h64 : r.ng ≤ 64) (hsp : (spL r (i + 1)).length ≤ 100000) :
   Calls Tryz.prog 83 #[dyv r AG cg AF cf AR cr, .int .i64 (i : Int)] w fun e w' => e = .returned (.bool (dupB [] (spL r (i + 1)))) ∧ Below w.heap.size w w' := by
 have HH := Lib.hid h
 obtain ⟨L, hL⟩ : ∃ L, L = spL r (i + 1) := ⟨_, rfl⟩
 obtain ⟨P, hP⟩ : ∃ P : Nat → Nat, P = fun k => (spL r k).length := ⟨_, rfl⟩
 have HPE : Hid (P (i + 1) = L.length) := by show _ = _; rw [hP, hL]
 have HP0 : Hid (P 0 = 0) := by show _ = _; rw [hP]; rfl
 have HPL : Hid (∀ k, k ≤ i + 1 → P k ≤ L.length) := fun k hk => by rw [hP, hL]; exact spL_le hk
 have HP7 : Hid (∀ k, r.kd k = 7 → P (k + 1) = P k + (r.ar k).length) := fun k hk => by rw [hP]; exact spL_nx7 hk
 have HPN : Hid (∀ k, r.kd k ≠ 7 → P (k + 1) = P k) := fun k hk => by rw [hP]; exact spL_nx0 hk
 have HGET : Hid (∀ k j (hk : k < i + 1) (h7 : r.kd k = 7) (hj : j < (r.ar k).length), L.getD (P k + j) 0 = (r.ar k)[j] ∧ P k + j < L.length) := fun k j hk h7 hj => by rw [hP, hL]; exact spL_get hk h7 hj
 rw [← hL] at hsp ⊢
 have HYES : Hid (∀ p t, p < L.length → t < p → L.getD t 0 = L.getD p 0 → dupB [] L = true) := fun p t hp ht h => dup_yes hp ht h
 have HNX : Hid (∀ p, p < L.length → dupB [] (L.take p) = false → (∀ t, t < p → L.getD t 0 ≠ L.getD p 0) → dupB [] (L.take (p + 1)) = false) := fun p hp h hn => dup_nx hp h hn
 have HEND : Hid (dupB [] (L.take L.length) = false → dupB [] L = false) := fun h => by rwa [List.take_of_length_le (Nat.le_refl _)] at h
 have HD0 : Hid (dupB [] (L.take 0) = false) := rfl
 have hAL : Below w.heap.size w (w.alloc (.cells #[.int .i64 r.v, .slice AG r.ng cg, .int .i64 r.top, .slice AF r.nf cf, .slice AR r.nr cr] 25)) := (Below.refl _ _).alloc (Nat.le_refl _) _
 have hWz : (w.alloc (.cells #[.int .i64 r.v, .slice AG r.ng cg, .int .i64 r.top, .slice AF r.nf cf, .slice AR r.nr cr] 25)).heap.size = w.heap.size + 1 := by simp
 have x1 : (w.alloc (.cells #[.int .i64 r.v, .slice AG r.ng cg, .int .i64 r.top, .slice AF r.nf cf, .slice AR r.nr cr] 25)).cell? ⟨w.heap.size, 1, none⟩ = some (.slice AG r.ng cg) := by simp
 generalize dupB [] L = res at *
 clear h hL hP
 unfold dyv
 go_enter Tryz.func83, Tryz.ntmps83
 go_wp2_with fail
 generalize w.alloc (.cells #[.int .i64 r.v, .slice AG r.ng cg, .int .i64 r.top, .slice AF r.nf cf, .slice AR r.nr cr] 25) = W0 at *
 have HAL := Lib.hid hAL
 clear hAL
 go_loopw [5, 6] (fun sv iv wr => ∃ (k : Nat) (A : Option Addr) (c : Nat), k ≤ i + 1 ∧ sv = .slice A (P k) c ∧ iv = .int .i64 (k : Int) ∧ dupB [] (L.take (P k)) = false ∧ OwJ wr (w.heap.size + 1) A c (P k) (fun t => L.getD t 0) ∧ Below (w.heap.size + 1) W0 wr) (fun _ iv _ => i + 1 - (intOf iv).toNat)
 case atStart => exact ⟨0, none, 0, Nat.zero_le _, by rw [HP0.out], rfl, by rw [HP0.out]; exact HD0.out, by rw [HP0.out]; exact OwJ.nil_ _ _ _, Below.refl _ _⟩
 case round =>
   obtain ⟨k, A, c, hk, rfl, rfl, hdu, own, hb⟩ := hrel
   obtain ⟨wo, rfl⟩ : ∃ wo : World, wo = wr := ⟨_, rfl⟩
   have hbz := hb.size
   have hbW : Below w.heap.size w wo := HAL.out.trans (hb.mono (by omega))
   have HDU := Lib.hid hdu
   clear hdu
   by_cases hki : k ≤ i
   · obtain ⟨b, off, A1, c1, s, A2, n2, c2, A3, n3, c3, rfl, hbb, z0, z1, z2, z3, z4, z5, ra0, rs0, hlc⟩ := HH.out.at_ (k := k) (by omega)
     have y0 := (below_at hbW b _ hbb).trans z0
     have y2 := (below_at hbW b _ hbb).trans z2
     have y1 := (below_at hb w.heap.size 1 (by omega)).trans x1
     have k0 : (0 : Int) ≤ (k : Int) := by omega
     have k1 : (k : Int) < (r.ng : Int) := by omega
     have k2 : (k : Int) ≤ (i : Int) := by omega
     have HRA := Lib.hid ra0
     clear z0 z1 z2 z3 z4 z5 rs0 ra0
     by_cases h7 : r.kd k = 7
     · have e7 : (r.kd k != 7) = false := by rw [h7]; rfl
       have HG := Lib.hid (fun j hj => HGET.out k j (by omega) h7 hj)
       have HPk := Lib.hid (HP7.out k h7)
       have HO := Lib.hid own
       have HB := Lib.hid hb
       have hPL := HPL.out (k + 1) (by omega)
       rw [HPk.out] at hPL
       clear h7 own hb hbW
       generalize r.ar k = l at *
       generalize r.kd k = kd at *
       go_wp2_with fail
       go_loopw [5, 30] (fun sv iv wr => ∃ (j : Nat) (A : Option Addr) (c : Nat), j ≤ l.length ∧ sv = .slice A (P k + j) c ∧ iv = .int .i64 (j : Int) ∧ dupB [] (L.take (P k + j)) = false ∧ OwJ wr (w.heap.size + 1) A c (P k + j) (fun t => L.getD t 0) ∧ Below (w.heap.size + 1) W0 wr) (fun _ iv _ => l.length - (intOf iv).toNat)
       case atStart => exact ⟨0, A, c, Nat.zero_le _, rfl, rfl, HDU.out, HO.out, HB.out⟩
       case round =>
         clear HO HB HDU y0 y1 y2
         obtain ⟨j, A', c', hj, rfl, rfl, hdu, own, hb⟩ := hrel
         obtain ⟨wi, rfl⟩ : ∃ wi : World, wi = wr := ⟨_, rfl⟩
         have hbz := hb.size
         have hbW : Below w.heap.size w wi := HAL.out.trans (hb.mono (by omega))
         by_cases hjl : j < l.length
         · obtain ⟨b1, off1, rfl, hb1, za⟩ := zsD_at HRA.out hbW hjl
           obtain ⟨hga, hgl⟩ := HG.out j hjl
           have HNX1 : Hid ((∀ t, t < P k + j → L.getD t 0 ≠ l[j]) → dupB [] (L.take (P k + j + 1)) = false) := fun hn => HNX.out _ hgl hdu (fun t ht => by rw [hga]; exact hn t ht)
           have HY1 : Hid (∀ t, t < P k + j → L.getD t 0 = l[j] → res = true) := fun t ht h => HYES.out _ t hgl ht (by rw [hga]; exact h)
           have HCG : Hid (∀ t, t < P k + j + 1 → (if t = P k + j then l[j] else L.getD t 0) = L.getD t 0) := fun t ht => by
             split
             · rename_i e; rw [e, hga]
             · rfl
           generalize l[j] = a at *
           have j0 : (0 : Int) ≤ (j : Int) := by omega
           have j1 : (j : Int) < (l.length : Int) := by omega
           have HO := Lib.hid own
           have HB := Lib.hid hb
           have HBW := Lib.hid hbW
           obtain ⟨q, hq⟩ : ∃ q, q = P k + j := ⟨_, rfl⟩
           have HQ : Hid (P k + (j + 1) = q + 1) := by show _ = _; omega
           rw [← hq] at HNX1 HY1 HCG HO hgl ⊢
           have hq1 : q ≤ 100000 := by omega
           clear hga hdu own hb hq hbW
           go_wp2_with fail
           go_loopw [36] (fun iv wr => ∃ t : Nat, t ≤ q ∧ iv = .int .i64 (t : Int) ∧ (∀ u, u < t → L.getD u 0 ≠ a) ∧ wi = wr) (fun iv _ => q - (intOf iv).toNat)
           case atStart => exact ⟨0, Nat.zero_le _, rfl, fun u hu => by omega, rfl⟩
           case round =>
             obtain ⟨t, ht, rfl, hall, rfl⟩ := hrel
             have HALL := Lib.hid hall
             clear hall
             by_cases htq : t < q
             · obtain ⟨g, rfl, -, -⟩ := HO.out.form (by omega)
               have ct := HO.out.at_ htq
               have t0 : (0 : Int) ≤ (t : Int) := by omega
               have t1 : (t : Int) < (q : Int) := by omega
               have HY2 := Lib.hid (HY1.out t htq)
               have HN2 : Hid (L.getD t 0 ≠ a → ∀ u, u < t + 1 → L.getD u 0 ≠ a) := fun hn u hu => by
                 by_cases e : u = t
                 · rw [e]; exact hn
                 · exact HALL.out u (by omega)
               generalize L.getD t 0 = x at *
               by_cases e : x = a
               · have HC := Lib.hid (HY2.out e)
                 subst e
                 have e1 : (x == x) = true := by simp
                 clear HY2 HN2
                 go_wp2_with fail
                 go_returns
                 exact ⟨by rw [HC.out]; rfl, HBW.out⟩
               · have HC := Lib.hid (HN2.out e)
                 have e1 : (a == x) = false := by simp; exact fun h => e h.symm
                 clear HY2 HN2 e
                 go_wp2_with fail
                 go_roundw
                 case rel => exact ⟨t + 1, by omega, by go_num, HC.out, (by first | trivial | rfl)⟩
                 case measure => simp [intOf]; omega
             · obtain rfl : t = q := by omega
               have HD2 := Lib.hid (HNX1.out HALL.out)
               clear HALL HNX1 HY1
               go_wp2_with (first | (at_builtin; refine wpList_appJ rfl (.tmp 44) (.tmp 46) rfl (w.heap.size + 1) A' c' t (fun t => L.getD t 0) (by first | rfl | simp [Act.eval]) (HO.out.below ((Below.refl _ _).alloc (Nat.le_refl _) _)) wi.heap.size a (by first | rfl | simp [Act.eval]) (by simp) (by omega) (by simp; omega) ?_; intro g7 c7 w7 own7 hb7 hlt7) | fail)
               have HO7 := Lib.hid (own7.congr (fun i hi => HCG.out i hi))
               have HB7 := Lib.hid (HB.out.trans ((((Below.refl wi.heap.size wi).alloc (Nat.le_refl _) _).mono (by omega)).trans hb7))
               clear own7 hb7
               go_wp2_with fail
               go_roundw
               case rel => exact ⟨j + 1, some ⟨g7, 0, none⟩, c7, by omega, by rw [HQ.out], by go_num, by rw [HQ.out]; exact HD2.out, by rw [HQ.out]; exact HO7.out, HB7.out⟩
               case measure => simp [intOf]; omega
         · obtain rfl : j = l.length := by omega
           have HDE := Lib.hid hdu
           have HO := Lib.hid own
           have HB := Lib.hid hb
           clear hdu own hb hbW
           go_wp2_with fail
           go_roundw
           case rel => exact ⟨k + 1, A', c', by omega, by rw [HPk.out], by go_num, by rw [HPk.out]; exact HDE.out, by rw [HPk.out]; exact HO.out, HB.out⟩
           case measure => simp [intOf]; omega
     · have e7 : (r.kd k != 7) = true := by simpa using h7
       have HPk := Lib.hid (HPN.out k h7)
       have HO := Lib.hid own
       have HB := Lib.hid hb
       clear h7 own hb hbW
       generalize r.kd k = kd at *
       go_wp2_with fail
       go_roundw
       case rel => exact ⟨k + 1, A, c, by omega, by rw [HPk.out], by go_num, by rw [HPk.out]; exact HDU.out, by rw [HPk.out]; exact HO.out, HB.out⟩
       case measure => simp [intOf]; omega
   · obtain rfl : k = i + 1 := by omega
     have HF := Lib.hid (HEND.out (by rw [← HPE.out]; exact HDU.out))
     have k2 : ¬ ((i : Int) + 1 ≤ (i : Int)) := by omega
     go_wp2_with fail
     go_returns
     exact ⟨by rw [HF.out]; rfl, hbW⟩
end
end Go.Proofs.YtoiopnmphbnjaaaGreatDoor
namespace Go.Proofs.YtoiopnmphbnjaaaGreatDoor
open Go.RowKit
set_option linter.unusedSimpArgs false
set_option linter.unusedVariables false
set_option maxRecDepth 20000
/-! ## reference 48: gate -/
theorem dupB_app : ∀ {l sp m : List Int}, dupB sp (l ++ m) = (dupB sp l || dupB (sp ++ l) m)
 | [], sp, m => by simp [dupB]
 | a :: l, sp, m => by
   rw [List.cons_append, dupB, dupB, dupB_app, Bool.or_assoc]
   simp
theorem gsE_lt {r : DyR} {i : Nat} : ∀ {n : Nat}, gsE r n = 0 → i < n → r.ga i = 0 ∧ gsE r i = 0
 | n + 1, h, hi => by
   rw [gsE] at h
   by_cases h1 : gsE r n = 0
   · rw [if_pos h1] at h
     by_cases e : i = n
     · rw [e]; exact ⟨h, h1⟩
     · exact gsE_lt h1 (by omega)
   · rw [if_neg h1] at h; exact absurd h h1
theorem spL_dup {r : DyR} : ∀ {k : Nat}, gsE r k = 0 → dupB [] (spL r k) = false
 | 0, _ => rfl
 | k + 1, h => by
   have h1 := gsE_lt h (Nat.lt_succ_self k)
   have ih := spL_dup h1.2
   rw [spL]
   split
   · rename_i h7
     rw [dupB_app, ih, Bool.false_or, List.nil_append]
     exact (gaE_ok h1.1).dup h7
   · exact ih
theorem dgAg_bd {kd : Int} {n : Nat} (h : 0 ≤ kd ∧ kd ≤ 8) : dgAg kd n = decide (bdL kd ≤ (n : Int) ∧ (n : Int) ≤ bdM kd) ∧ bdM kd ≠ 0 := by
 rcases (show kd = 0 ∨ kd = 1 ∨ kd = 2 ∨ kd = 3 ∨ kd = 4 ∨ kd = 5 ∨ kd = 6 ∨ kd = 7 ∨ kd = 8 by omega) with rfl | rfl | rfl | rfl | rfl | rfl | rfl | rfl | rfl <;> (refine ⟨?_, by decide⟩; unfold dgAg bdL bdM; simp <;> (rw [Bool.eq_iff_iff]; simp; try omega))
section
variable {w : World} {AG AF AR : Option Addr} {cg cf cr : Nat} {r : DyR}
theorem rgate_any {k v : Nat} (h : DyI w AG AF AR r) (hk : k < r.ng) (h64 : r.ng ≤ 64) (hv : r.v = v) (v1 : 1 ≤ v) (v24 : v ≤ 24) (hsz : (r.dor k).2.1.length ≤ 1000 ∧ (r.dor k).2.2.length ≤ 1000)
   (hg0 : gsE r k = 0) (hsp : (spL r k).length ≤ 10000) :
   Calls Tryz.prog 44 #[dyv r AG cg AF cf AR cr, .int .i64 (k : Int)] w fun e w' => e = .returned (.int .i64 (r.ga k)) ∧ Below w.heap.size w w' := by
 have KT := Lib.hid (fun W (hb : Below w.heap.size w W) (hs : (spL r (k + 1)).length ≤ 100000) => rtwice_any (cg := cg) (cf := cf) (cr := cr) (i := k) (h.below hb) hk h64 hs)
 have HSP : Hid (r.kd k = 7 → dupB [] (spL r (k + 1)) = dupB (spL r k) (r.ar k) ∧ (spL r (k + 1)).length = (spL r k).length + (r.ar k).length) := fun h7 => by
   rw [spL, if_pos h7, dupB_app, spL_dup hg0, Bool.false_or, List.nil_append, List.length_append]
   exact ⟨rfl, rfl⟩
 have HGA : Hid (r.ga k = gaE (v : Int) ((v : Int) + k) (spL r k) (r.kd k) (r.kk k) (r.ar k) (r.dor k)) := by
   show _ = _
   rw [← hv]; rfl
 obtain ⟨b, off, A1, c1, s, A2, n2, c2, A3, n3, c3, rfl, hbb, z0, z1, z2, z3, z4, z5, ra0, rs0, hlc⟩ := h.at_ hk
 obtain ⟨code, hcode⟩ : ∃ code, r.ga k = code := ⟨_, rfl⟩
 rw [hcode] at HGA ⊢
 clear hcode hg0
 generalize spL r (k + 1) = sp' at *
 generalize spL r k = sp at *
 unfold dyv at KT ⊢
 rw [hv] at KT ⊢
 generalize r.kd k = kd at *
 generalize r.kk k = kk at *
 generalize r.ar k = l at *
 generalize r.dor k = q at *
 have kz : (k : Int) < (r.ng : Int) := by omega
 have k0 : (0 : Int) ≤ (k : Int) := by omega
 generalize r.ng = nn at *
 generalize r.top = tp at *
 generalize r.nf = nf at *
 generalize r.nr = nr at *
 clear h hv
 obtain ⟨W, hW⟩ : ∃ W, W = ((w.alloc (.cells #[.int .i64 (v : Int), .slice (some ⟨b, off, none⟩) nn cg, .int .i64 tp, .slice AF nf cf, .slice AR nr cr] 25)).alloc (.cells #[.int .i64 kd, .int .i64 kk, .slice A1 l.length c1, .bool s, .slice A2 n2 c2, .slice A3 n3 c3] 88)) := ⟨_, rfl⟩
 have x0 : W.cell? ⟨w.heap.size, 0, none⟩ = some (.int .i64 (v : Int)) := by rw [hW]; simp [go_sem]
 have x1 : W.cell? ⟨w.heap.size, 1, none⟩ = some (.slice (some ⟨b, off, none⟩) nn cg) := by rw [hW]; simp [go_sem]
 have x2 : W.cell? ⟨w.heap.size, 2, none⟩ = some (.int .i64 tp) := by rw [hW]; simp [go_sem]
 have x3 : W.cell? ⟨w.heap.size, 3, none⟩ = some (.slice AF nf cf) := by rw [hW]; simp [go_sem]
 have x4 : W.cell? ⟨w.heap.size, 4, none⟩ = some (.slice AR nr cr) := by rw [hW]; simp [go_sem]
 have q0 : W.cell? ⟨w.heap.size + 1, 0, none⟩ = some (.int .i64 kd) := by rw [hW]; simp [go_sem]
 have q1 : W.cell? ⟨w.heap.size + 1, 1, none⟩ = some (.int .i64 kk) := by rw [hW]; simp [go_sem]
 have q2 : W.cell? ⟨w.heap.size + 1, 2, none⟩ = some (.slice A1 l.length c1) := by rw [hW]; simp [go_sem]
 have q3 : W.cell? ⟨w.heap.size + 1, 3, none⟩ = some (.bool s) := by rw [hW]; simp [go_sem]
 have q4 : W.cell? ⟨w.heap.size + 1, 4, none⟩ = some (.slice A2 n2 c2) := by rw [hW]; simp [go_sem]
 have q5 : W.cell? ⟨w.heap.size + 1, 5, none⟩ = some (.slice A3 n3 c3) := by rw [hW]; simp [go_sem]
 have hbW : Below w.heap.size w W := by rw [hW]; exact (by (skip); repeat' (first | (with_reducible first | exact BlR _ _ | assumption | refine BlA ?_ ?_ _ | refine BlD ?_ | refine BlN ?_ _ | refine BlS ?_ ?_ _ | refine BlT ?_ (BlM (by assumption) ?_)) | omega | (simp only [ZZ]; omega) | go_size))
 have hWz : w.heap.size + 1 < W.heap.size := by rw [hW]; simp
 have HW := Lib.hid hW
 have HBW := Lib.hid hbW
 clear hW
 go_enter Tryz.func44, Tryz.ntmps44
 go_upto_region 2 with fail
 rw [← HW.out]
 clear z0 z1 z2 z3 z4 z5 HW
 go_wp2_with fail
 refine (rbounds_any kd _).mono ?_
 rintro e w2 ⟨rfl, rfl⟩
 by_cases hkd : ¬ (0 ≤ kd ∧ kd ≤ 8)
 · have HC : Hid (code = 7) := by show _ = _; rw [HGA.out]; unfold gaE; rw [if_pos hkd]
   have hM : bdM kd = 0 := by unfold bdM; rw [if_neg (by omega), if_neg (by omega), if_neg (by omega), if_neg (by omega)]
   rw [hM]
   clear HGA HSP KT hkd hM
   go_wp2_with fail
   go_returns
   exact ⟨by rw [HC.out]; rfl, HBW.out⟩
 replace hkd : 0 ≤ kd ∧ kd ≤ 8 := Classical.not_not.1 hkd
 obtain ⟨hag, hM0⟩ := dgAg_bd (n := l.length) hkd
 have eM := ieq_f hM0
 have HAG := Lib.hid hag
 have HG1 : Hid (code = if dgAg kd l.length = false then 11 else if dgIx ((v : Int) + k) l = false then 10 else if tyB kd v l = false then 7 else if kd = 7 ∧ dupB sp l = true then 6 else gkE kd kk l.length q) := by
   show _ = _
   rw [HGA.out]; unfold gaE; rw [if_neg (by omega)]
 clear HGA hM0 hag
 generalize bdM kd = bM at *
 generalize bdL kd = bL at *
 by_cases hlo : (l.length : Int) < bL
 · have HC : Hid (code = 11) := by
     show _ = _
     rw [HG1.out, if_pos]
     rw [HAG.out]; simp; omega
   clear HG1 HAG HSP KT
   go_wp2_with fail
   go_returns
   exact ⟨by rw [HC.out]; rfl, HBW.out⟩
 by_cases hhi : bM < (l.length : Int)
 · have HC : Hid (code = 11) := by
     show _ = _
     rw [HG1.out, if_pos]
     rw [HAG.out]; simp; omega
   clear HG1 HAG HSP KT
   go_wp2_with fail
   go_returns
   exact ⟨by rw [HC.out]; rfl, HBW.out⟩
 have hag' : dgAg kd l.length = true := by rw [HAG.out]; simp; omega
 have hln := dgAg_len hag'
 have HG2 : Hid (code = if dgIx ((v : Int) + k) l = false then 10 else if tyB kd v l = false then 7 else if kd = 7 ∧ dupB sp l = true then 6 else gkE kd kk l.length q) := by
   show _ = _
   rw [HG1.out, if_neg (by rw [hag']; decide)]
 have e1 : IntKind.i64.wrap ((v : Int) + (k : Int)) = (v : Int) + (k : Int) := by rw [IntKind.wrap_i64]; omega
 have ra : Rds W W.heap.size 1 A1 l.length (zsD l) := ra0.on hbW hbW.size
 have HRS := Lib.hid rs0
 clear HG1 HAG hag' ra0 rs0 hbW
 go_wp2_with fail
 go_loopw [40] (fun i wr => ∃ j : Nat, j ≤ l.length ∧ i = .int .i64 j ∧ (∀ t (ht : t < l.length), t < j → 0 ≤ l[t] ∧ l[t] < (v : Int) + k) ∧ W = wr) (fun i _ => l.length - (intOf i).toNat)
 case atStart => exact ⟨0, Nat.zero_le _, rfl, fun t _ h => by omega, rfl⟩
 case round =>
   obtain ⟨j, hj, rfl, hall, rfl⟩ := hrel
   have HALL := Lib.hid hall
   clear hall
   by_cases hjl : j < l.length
   · obtain ⟨b1, off1, rfl, hb1, za⟩ := zsD_at ra (Below.refl _ _) hjl
     have HF : Hid (¬ (0 ≤ l[j] ∧ l[j] < (v : Int) + k) → code = 10) := fun hn => by rw [HG2.out, if_pos (dgIx_f hjl hn)]
     have HY : Hid ((0 ≤ l[j] ∧ l[j] < (v : Int) + k) → ∀ t (ht : t < l.length), t < j + 1 → 0 ≤ l[t] ∧ l[t] < (v : Int) + k) := fun hn t ht htj => by
       rcases Nat.lt_or_ge t j with h | h
       · exact HALL.out t ht h
       · have : t = j := by omega
         subst this
         exact hn
     generalize l[j] = a at *
     clear HG2 HALL
     by_cases ha0 : a < 0
     · have HC := Lib.hid (HF.out (by omega))
       clear HF HY
       go_wp2_with fail
       go_returns
       exact ⟨by rw [HC.out]; rfl, HBW.out⟩
     by_cases ham : (v : Int) + k ≤ a
     · have HC := Lib.hid (HF.out (by omega))
       clear HF HY
       go_wp2_with fail
       go_returns
       exact ⟨by rw [HC.out]; rfl, HBW.out⟩
     have HN := Lib.hid (HY.out (by omega))
     clear HF HY
     go_wp2_with fail
     go_roundw
     case rel => exact ⟨j + 1, by omega, by go_num, HN.out, (by first | trivial | rfl)⟩
     case measure => simp [intOf]; omega
   have hix : dgIx ((v : Int) + k) l = true := dgIx_t fun t ht => HALL.out t ht (by omega)
   have HG3 : Hid (code = if tyB kd v l = false then 7 else if kd = 7 ∧ dupB sp l = true then 6 else gkE kd kk l.length q) := by show _ = _; rw [HG2.out, if_neg (by rw [hix]; decide)]
   have hjl2 : ¬ (j : Int) < (l.length : Int) := by omega
   clear HG2 HALL hix
   go_wp2_with fail
   go_loopw [58] (fun i wr => ∃ j : Nat, j ≤ l.length ∧ i = .int .i64 j ∧ (∀ t, t < j → tyK kd v l t = true) ∧ W = wr) (fun i _ => l.length - (intOf i).toNat)
   case atStart => exact ⟨0, Nat.zero_le _, rfl, fun t h => by omega, rfl⟩
   case round =>
     obtain ⟨j, hj, rfl, hall, rfl⟩ := hrel
     have HALL := Lib.hid hall
     clear hall
     by_cases hjl : j < l.length
     · obtain ⟨b1, off1, rfl, hb1, za⟩ := zsD_at ra (Below.refl _ _) hjl
       have HGD : Hid (l.getD j 0 = l[j]) := by show _ = _; rw [List.getD_eq_getElem?_getD, List.getElem?_eq_getElem hjl]; rfl
       have HF : Hid (¬ (l[j] < (v : Int) ∨ ¬ (kd = 7 ∨ kd = 8 ∧ 0 < j)) → code = 7) := fun hn => by rw [HG3.out, if_pos (tyB_f hjl (by unfold tyK; rw [HGD.out]; exact decide_eq_false hn))]
       have HY : Hid ((l[j] < (v : Int) ∨ ¬ (kd = 7 ∨ kd = 8 ∧ 0 < j)) → ∀ t, t < j + 1 → tyK kd v l t = true) := fun hn t htj => by
         rcases Nat.lt_or_ge t j with h | h
         · exact HALL.out t h
         · have : t = j := by omega
           subst this
           unfold tyK
           rw [HGD.out]
           exact decide_eq_true hn
       clear HGD
       generalize l[j] = a at *
       clear HG3 HALL
       by_cases hav : a < (v : Int)
       · have HN := Lib.hid (HY.out (.inl hav))
         clear HF HY
         go_wp2_with fail
         go_roundw
         case rel => exact ⟨j + 1, by omega, by go_num, HN.out, (by first | trivial | rfl)⟩
         case measure => simp [intOf]; omega
       by_cases h7 : kd = 7
       · have HC := Lib.hid (HF.out (by omega))
         subst h7
         clear HF HY
         go_wp2_with fail
         go_returns
         exact ⟨by rw [HC.out]; rfl, HBW.out⟩
       have e7 := ieq_f h7
       by_cases h8' : kd = 8
       · subst h8'
         by_cases hj0 : 0 < j
         · have HC := Lib.hid (HF.out (by omega))
           clear HF HY
           go_wp2_with fail
           go_returns
           exact ⟨by rw [HC.out]; rfl, HBW.out⟩
         have HN := Lib.hid (HY.out (by omega))
         have i9 : ¬ (0 : Int) < (j : Int) := by omega
         clear HF HY
         go_wp2_with fail
         go_roundw
         case rel => exact ⟨j + 1, by omega, by go_num, HN.out, (by first | trivial | rfl)⟩
         case measure => simp [intOf]; omega
       have e8 := ieq_f h8'
       have HN := Lib.hid (HY.out (by omega))
       clear HF HY
       go_wp2_with fail
       go_roundw
       case rel => exact ⟨j + 1, by omega, by go_num, HN.out, (by first | trivial | rfl)⟩
       case measure => simp [intOf]; omega
     have hty : tyB kd v l = true := tyB_t fun t ht => HALL.out t (by omega)
     have HG4 : Hid (code = if kd = 7 ∧ dupB sp l = true then 6 else gkE kd kk l.length q) := by show _ = _; rw [HG3.out, if_neg (by rw [hty]; decide)]
     clear HG3 HALL hty ra
     have hjl' : ¬ (j : Int) < (l.length : Int) := by omega
     have KP := Lib.hid (fun W2 (hb : Below W.heap.size W W2) => rprobS (HRS.out.kp (Kp.of_below (HBW.out.trans (hb.mono (by omega))))) hsz.1 hsz.2)
     have KZ := Lib.hid (fun W2 (hb : Below W.heap.size W W2) => rzeroS (HRS.out.kp (Kp.of_below (HBW.out.trans (hb.mono (by omega))))))
     by_cases h7 : kd = 7
     · subst h7
       obtain ⟨hd1, hd2⟩ := HSP.out rfl
       have KT2 := Lib.hid (KT.out W HBW.out (by omega))
       rw [hd1] at KT2
       clear HSP KT hd1 hd2 KZ
       cases hd : dupB sp l
       · rw [hd] at KT2
         have HG5 : Hid (code = gkE 7 kk l.length q) := by show _ = _; rw [HG4.out, if_neg (by rw [hd]; simp)]
         clear HG4 hd
         go_wp2_with fail
         refine KT2.out.mono ?_
         rintro e w3 ⟨rfl, hb3⟩
         have hz3 := hb3.size
         have r0 := (below_at hb3 (w.heap.size + 1) 0 hWz).trans q0
         have r1 := (below_at hb3 (w.heap.size + 1) 1 hWz).trans q1
         have r3 := (below_at hb3 (w.heap.size + 1) 3 hWz).trans q3
         have r4 := (below_at hb3 (w.heap.size + 1) 4 hWz).trans q4
         have r5 := (below_at hb3 (w.heap.size + 1) 5 hWz).trans q5
         have KP3 := Lib.hid (KP.out w3 hb3)
         have HB3 := Lib.hid (HBW.out.trans (hb3.mono (by omega)))
         clear hb3 KT2 KP q0 q1 q2 q3 q4 q5 x0 x1 x2 x3 x4
         by_cases hk0 : kk = 0
         · have HG6 : Hid (code = if prR q = false then 3 else 0) := by show _ = _; rw [HG5.out]; unfold gkE; simp [hk0]
           subst hk0
           cases hp : prR q
           · have HC : Hid (code = 3) := by show _ = _; rw [HG6.out, hp]; rfl
             rw [hp] at KP3
             clear HG5 HG6 hp
             go_wp2_with fail
             refine KP3.out.mono ?_
             rintro e w4 ⟨rfl, hb4⟩
             have HB4 := Lib.hid (HB3.out.trans (hb4.mono (by omega)))
             clear hb4
             go_wp2_with fail
             go_returns
             exact ⟨by rw [HC.out]; rfl, HB4.out⟩
           · have HC : Hid (code = 0) := by show _ = _; rw [HG6.out, hp]; rfl
             rw [hp] at KP3
             clear HG5 HG6 hp
             go_wp2_with fail
             refine KP3.out.mono ?_
             rintro e w4 ⟨rfl, hb4⟩
             have HB4 := Lib.hid (HB3.out.trans (hb4.mono (by omega)))
             have t0 := (below_at hb4 (w.heap.size + 1) 0 (by omega)).trans r0
             clear hb4
             go_wp2_with fail
             go_returns
             exact ⟨by rw [HC.out]; rfl, HB4.out⟩
         · have HC : Hid (code = 2) := by show _ = _; rw [HG5.out]; unfold gkE; simp [hk0]
           have ek : (kk != 0) = true := by simpa using hk0
           clear HG5 hk0
           go_wp2_with fail
           go_returns
           exact ⟨by rw [HC.out]; rfl, HB3.out⟩
       · rw [hd] at KT2
         have HC : Hid (code = 6) := by show _ = _; rw [HG4.out, if_pos ⟨rfl, hd⟩]
         clear HG4 hd
         go_wp2_with fail
         refine KT2.out.mono ?_
         rintro e w3 ⟨rfl, hb3⟩
         have HB3 := Lib.hid (HBW.out.trans (hb3.mono (by omega)))
         clear hb3
         go_wp2_with fail
         go_returns
         exact ⟨by rw [HC.out]; rfl, HB3.out⟩
     · have e7 := ieq_f h7
       have n7 : (kd != 7) = true := by simpa using h7
       have HG5 : Hid (code = gkE kd kk l.length q) := by show _ = _; rw [HG4.out, if_neg (fun h => h7 h.1)]
       have KZ3 := Lib.hid (KZ.out W (Below.refl _ _))
       clear HG4 HSP KT KP KZ
       by_cases h2 : kd = 2
       · subst h2
         by_cases hk1 : kk < 1
         · have HC : Hid (code = 3) := by show _ = _; rw [HG5.out]; unfold gkE; rw [if_pos ⟨rfl, by omega⟩]
           have d1 : decide (kk < 1) = true := by simpa using hk1
           clear HG5
           go_wp2_with fail
           go_returns
           exact ⟨by rw [HC.out]; rfl, HBW.out⟩
         by_cases hk2 : (l.length : Int) < kk
         · have HC : Hid (code = 3) := by show _ = _; rw [HG5.out]; unfold gkE; rw [if_pos ⟨rfl, by omega⟩]
           have d1 : decide (kk < 1) = false := by simpa using hk1
           have d2 : decide ((l.length : Int) < kk) = true := by simpa using hk2
           clear HG5
           go_wp2_with fail
           go_returns
           exact ⟨by rw [HC.out]; rfl, HBW.out⟩
         have d1 : decide (kk < 1) = false := by simpa using hk1
         have d2 : decide ((l.length : Int) < kk) = false := by simpa using hk2
         have HG6 : Hid (code = if zeR q = false then 2 else 0) := by
           show _ = _
           rw [HG5.out]
           unfold gkE
           rw [if_neg (fun h => h.2 (by omega)), if_neg (fun h => h.1 rfl), if_neg (fun h => h7 h.1)]
           by_cases hz : zeR q = false
           · rw [if_pos ⟨h7, hz⟩, if_pos hz]
           · rw [if_neg (fun h => hz h.2), if_neg hz]
         cases hz : zeR q
         · have HC : Hid (code = 2) := by show _ = _; rw [HG6.out, hz]; rfl
           rw [hz] at KZ3
           clear HG5 HG6 hz h7
           go_wp2_with fail
           refine KZ3.out.mono ?_
           rintro e w4 ⟨rfl, hb4⟩
           have HB4 := Lib.hid (HBW.out.trans (hb4.mono (by omega)))
           clear hb4
           go_wp2_with fail
           go_returns
           exact ⟨by rw [HC.out]; rfl, HB4.out⟩
         · have HC : Hid (code = 0) := by show _ = _; rw [HG6.out, hz]; rfl
           rw [hz] at KZ3
           clear HG5 HG6 hz h7
           go_wp2_with fail
           refine KZ3.out.mono ?_
           rintro e w4 ⟨rfl, hb4⟩
           have HB4 := Lib.hid (HBW.out.trans (hb4.mono (by omega)))
           clear hb4
           go_wp2_with fail
           go_returns
           exact ⟨by rw [HC.out]; rfl, HB4.out⟩
       · have e2 := ieq_f h2
         have n2' : (kd != 2) = true := by simpa using h2
         by_cases hk0 : kk = 0
         · have HG6 : Hid (code = if zeR q = false then 2 else 0) := by
             show _ = _
             rw [HG5.out]
             unfold gkE
             rw [if_neg (fun h => h2 h.1), if_neg (fun h => h.2 hk0), if_neg (fun h => h7 h.1)]
             by_cases hz : zeR q = false
             · rw [if_pos ⟨h7, hz⟩, if_pos hz]
             · rw [if_neg (fun h => hz h.2), if_neg hz]
           subst hk0
           cases hz : zeR q
           · have HC : Hid (code = 2) := by show _ = _; rw [HG6.out, hz]; rfl
             rw [hz] at KZ3
             clear HG5 HG6 hz h7 h2
             go_wp2_with fail
             refine KZ3.out.mono ?_
             rintro e w4 ⟨rfl, hb4⟩
             have HB4 := Lib.hid (HBW.out.trans (hb4.mono (by omega)))
             clear hb4
             go_wp2_with fail
             go_returns
             exact ⟨by rw [HC.out]; rfl, HB4.out⟩
           · have HC : Hid (code = 0) := by show _ = _; rw [HG6.out, hz]; rfl
             rw [hz] at KZ3
             clear HG5 HG6 hz h7 h2
             go_wp2_with fail
             refine KZ3.out.mono ?_
             rintro e w4 ⟨rfl, hb4⟩
             have HB4 := Lib.hid (HBW.out.trans (hb4.mono (by omega)))
             clear hb4
             go_wp2_with fail
             go_returns
             exact ⟨by rw [HC.out]; rfl, HB4.out⟩
         · have HC : Hid (code = 2) := by show _ = _; rw [HG5.out]; unfold gkE; rw [if_neg (fun h => h2 h.1), if_pos ⟨h2, hk0⟩]
           have ek : (kk != 0) = true := by simpa using hk0
           clear HG5 hk0 h7 h2
           go_wp2_with fail
           go_returns
           exact ⟨by rw [HC.out]; rfl, HBW.out⟩
end
end Go.Proofs.YtoiopnmphbnjaaaGreatDoor
namespace Go.Proofs.YtoiopnmphbnjaaaGreatDoor
open Go.RowKit
set_option linter.unusedSimpArgs false
set_option linter.unusedVariables false
set_option maxRecDepth 20000
/-! ## reference 48: Check -/
section
variable {w : World} {AG AF AR : Option Addr} {cg cf cr : Nat} {r : DyR}
theorem rcheck48_any (h : DyI w AG AF AR r) (hs : DyS r) :
   Calls Tryz.prog 11 #[dyv r AG cg AF cf AR cr] w fun e w' => e = .returned (.int .i64 (codeD r)) ∧ Below w.heap.size w w' := by
 obtain ⟨W0, hW0⟩ : ∃ W0, W0 = w.alloc (.cells #[.int .i64 r.v, .slice AG r.ng cg, .int .i64 r.top, .slice AF r.nf cf, .slice AR r.nr cr] 25) := ⟨_, rfl⟩
 have hb0 : Below w.heap.size w W0 := by rw [hW0]; exact (by (skip); repeat' (first | (with_reducible first | exact BlR _ _ | assumption | refine BlA ?_ ?_ _ | refine BlD ?_ | refine BlN ?_ _ | refine BlS ?_ ?_ _ | refine BlT ?_ (BlM (by assumption) ?_)) | omega | (simp only [ZZ]; omega) | go_size))
 have hz0 : W0.heap.size = w.heap.size + 1 := by rw [hW0]; simp
 have x0 : W0.cell? ⟨w.heap.size, 0, none⟩ = some (.int .i64 r.v) := by rw [hW0]; simp [go_sem]
 have x1 : W0.cell? ⟨w.heap.size, 1, none⟩ = some (.slice AG r.ng cg) := by rw [hW0]; simp [go_sem]
 have x2 : W0.cell? ⟨w.heap.size, 2, none⟩ = some (.int .i64 r.top) := by rw [hW0]; simp [go_sem]
 have x3 : W0.cell? ⟨w.heap.size, 3, none⟩ = some (.slice AF r.nf cf) := by rw [hW0]; simp [go_sem]
 have x4 : W0.cell? ⟨w.heap.size, 4, none⟩ = some (.slice AR r.nr cr) := by rw [hW0]; simp [go_sem]
 have HW := Lib.hid hW0
 clear hW0
 have HS := Lib.hid hs
 have HH := Lib.hid (h.below hb0)
 obtain ⟨code, hcode⟩ : ∃ code, codeD r = code := ⟨_, rfl⟩
 have n1 := hs.ng
 have n2 := hs.nf
 have n3 := hs.nr
 rw [hcode]
 by_cases hv1 : r.v < 1
 · have HC : Hid (code = 3) := by show _ = _; rw [← hcode]; unfold codeD; rw [if_pos (by omega)]
   clear hcode
   unfold dyv
   generalize r.v = v at *
   go_enter Tryz.func11, Tryz.ntmps11
   go_wp2_with fail
   rw [← HW.out]
   go_returns
   exact ⟨by rw [HC.out]; rfl, hb0⟩
 by_cases hv2 : 24 < r.v
 · have HC : Hid (code = 3) := by show _ = _; rw [← hcode]; unfold codeD; rw [if_pos (by omega)]
   clear hcode
   unfold dyv
   generalize r.v = v at *
   go_enter Tryz.func11, Tryz.ntmps11
   go_wp2_with fail
   rw [← HW.out]
   go_returns
   exact ⟨by rw [HC.out]; rfl, hb0⟩
 have hv0 : ¬ ¬ (1 ≤ r.v ∧ r.v ≤ 24) := by omega
 by_cases hg : 64 < r.ng
 · have HC : Hid (code = 4) := by show _ = _; rw [← hcode]; unfold codeD; rw [if_neg hv0, if_pos hg]
   clear hcode
   unfold dyv
   generalize r.v = v at *
   generalize r.ng = nn at *
   go_enter Tryz.func11, Tryz.ntmps11
   go_wp2_with fail
   rw [← HW.out]
   go_returns
   exact ⟨by rw [HC.out]; rfl, hb0⟩
 by_cases hf : (r.nf : Int) ≠ r.v
 · have HC : Hid (code = 11) := by show _ = _; rw [← hcode]; unfold codeD; rw [if_neg hv0, if_neg hg, if_pos (by omega)]
   have e1 : ((r.nf : Int) != r.v) = true := by rw [bne_iff_ne]; exact hf
   clear hcode
   unfold dyv
   generalize r.v = v at *
   generalize r.ng = nn at *
   go_enter Tryz.func11, Tryz.ntmps11
   go_wp2_with fail
   rw [← HW.out]
   go_returns
   exact ⟨by rw [HC.out]; rfl, hb0⟩
 replace hf : (r.nf : Int) = r.v := by omega
 by_cases hr : (r.nr : Int) ≠ r.v
 · have HC : Hid (code = 11) := by show _ = _; rw [← hcode]; unfold codeD; rw [if_neg hv0, if_neg hg, if_pos (by omega)]
   have e1 : ((r.nf : Int) != r.v) = false := by rw [bne_eq_false_iff_eq]; exact hf
   have e2 : ((r.nr : Int) != r.v) = true := by rw [bne_iff_ne]; exact hr
   clear hcode
   unfold dyv
   generalize r.v = v at *
   generalize r.ng = nn at *
   go_enter Tryz.func11, Tryz.ntmps11
   go_wp2_with fail
   rw [← HW.out]
   go_returns
   exact ⟨by rw [HC.out]; rfl, hb0⟩
 replace hr : (r.nr : Int) = r.v := by omega
 have HD : Hid (code = if rtsOk r.fl r.nf = false then 3 else if rtsOk r.rp r.nr = false then 3 else if gsE r r.ng ≠ 0 then gsE r r.ng else if ¬ (0 ≤ r.top ∧ r.top < r.v + r.ng) then 10 else 0) := by
   show _ = _
   rw [← hcode]; unfold codeD
   rw [if_neg hv0, if_neg hg, if_neg (by omega)]
 have e1 : ((r.nf : Int) != r.v) = false := by rw [bne_eq_false_iff_eq]; exact hf
 have e2 : ((r.nr : Int) != r.v) = false := by rw [bne_eq_false_iff_eq]; exact hr
 obtain ⟨v, hv⟩ : ∃ v : Nat, r.v = v := ⟨r.v.toNat, by omega⟩
 clear hcode
 have HW2 : Hid (W0 = w.alloc (.cells #[.int .i64 (v : Int), .slice AG r.ng cg, .int .i64 r.top, .slice AF r.nf cf, .slice AR r.nr cr] 25)) := by
   show _ = _
   rw [← hv]; exact HW.out
 rw [hv] at x0
 have hnf : r.nf = v := by omega
 have hnr : r.nr = v := by omega
 obtain ⟨W1, hW1⟩ : ∃ W1, W1 = W0.alloc (.cells #[.slice AF r.nf cf, .slice AR r.nr cr] 23) := ⟨_, rfl⟩
 have hb1 : Below W0.heap.size W0 W1 := by rw [hW1]; exact (Below.refl _ _).alloc (Nat.le_refl _) _
 have hz1 : W1.heap.size = w.heap.size + 2 := by rw [hW1]; simp; omega
 have r0 : W1.cell? ⟨w.heap.size + 1, 0, none⟩ = some (.slice AF r.nf cf) := by rw [hW1, ← hz0]; simp [go_sem]
 have r1 : W1.cell? ⟨w.heap.size + 1, 1, none⟩ = some (.slice AR r.nr cr) := by rw [hW1, ← hz0]; simp [go_sem]
 have HW1 := Lib.hid hW1
 have HI1 := Lib.hid (h.below (hb0.trans (hb1.mono (by omega))))
 clear HW h hs hW1 e1 e2 hf hr
 have KG := Lib.hid (fun (wr : World) (j : Nat) (hw : Below W0.heap.size W0 wr) (hj : j < r.ng) (hge : gsE r j = 0) => rgate_any (cg := cg) (cf := cf) (cr := cr) (HH.out.below hw) hj (by omega) hv (by omega) (by omega) (HS.out.dor j hj) hge (by have := spL_len hge; omega))
 have KF := Lib.hid (fun (wr : World) (hw : Below W1.heap.size W1 wr) => rrates_any (c := cf) (HI1.out.below hw).fa HS.out.fl (by omega))
 have KR := Lib.hid (fun (wr : World) (hw : Below W1.heap.size W1 wr) => rrates_any (c := cr) (HI1.out.below hw).ra HS.out.rp (by omega))
 unfold dyv at KG ⊢
 rw [hv] at KG ⊢
 rw [hnf] at r0 KF
 rw [hnr] at r1 KR
 rw [hnf, hnr] at KG HW1 HW2 HD ⊢
 have x3' := x3
 have x4' := x4
 rw [hnf] at x3'
 rw [hnr] at x4'
 have hb0o' : Below W0.heap.size W0 W1 := hb1
 go_enter Tryz.func11, Tryz.ntmps11
 go_wp2_with fail
 rw [← HW2.out, ← HW1.out]
 go_loopw [43] (fun i wr => ∃ j : Nat, j ≤ 2 ∧ i = .int .i64 j ∧ (0 < j → rtsOk r.fl v = true) ∧ (1 < j → rtsOk r.rp v = true) ∧ Below W1.heap.size W1 wr) (fun i _ => 2 - (intOf i).toNat)
 case atStart => exact ⟨0, by omega, rfl, fun h => by omega, fun h => by omega, Below.refl _ _⟩
 case round =>
   obtain ⟨j, hj, rfl, g1, g2, hbj⟩ := hrel
   obtain ⟨wo, rfl⟩ : ∃ wo : World, wo = wr := ⟨_, rfl⟩
   have HG1 := Lib.hid g1
   have HG2 := Lib.hid g2
   clear g1 g2
   have hbjz := hbj.size
   have hbW : Below w.heap.size w wo := hb0.trans ((hb1.mono (by omega)).trans (hbj.mono (by omega)))
   by_cases hj2 : j < 2
   · obtain ⟨A, cc, R, hcell, K, hbad, hgood⟩ : ∃ A cc R, W1.cell? ⟨w.heap.size + 1, j, none⟩ = some (.slice A v cc) ∧ Hid (Calls Tryz.prog 43 #[.slice A v cc] wo fun e w' => e = .returned (.int .i64 (if rtsOk R v = true then 0 else 3)) ∧ Below wo.heap.size wo w') ∧ (rtsOk R v = false → code = 3) ∧ (rtsOk R v = true → (0 < j + 1 → rtsOk r.fl v = true) ∧ (1 < j + 1 → rtsOk r.rp v = true)) := by
       rcases (show j = 0 ∨ j = 1 by omega) with rfl | rfl
       · exact ⟨AF, cf, r.fl, r0, KF.out wo hbj, fun hx => by rw [HD.out, if_pos hx], fun hx => ⟨fun _ => hx, fun hh => by omega⟩⟩
       · have hx1 := HG1.out (by omega)
         exact ⟨AR, cr, r.rp, r1, KR.out wo hbj, fun hx => by rw [HD.out, if_neg (by rw [hx1]; decide), if_pos hx], fun hx => ⟨fun _ => hx1, fun _ => hx⟩⟩
     have u0 := (below_at hbj (w.heap.size + 1) j (by omega)).trans hcell
     have j0 : (0 : Int) ≤ (j : Int) := by omega
     have j2 : (j : Int) < 2 := by omega
     cases hrt : rtsOk R v
     · have HC := Lib.hid (hbad hrt)
       rw [hrt] at K
       clear hbad hgood hcell HG1 HG2 HD KG KF KR hrt
       simp only [Bool.false_eq_true, if_false] at K
       go_wp2_with fail
       refine K.out.mono ?_
       rintro e w3 ⟨rfl, hb3⟩
       go_wp2_with fail
       go_returns
       exact ⟨by rw [HC.out]; rfl, (by have z0 := Below.size hbW; have z1 := Below.size hb3; (try simp only [ZZ] at z0 z1 ⊢; skip); repeat' (first | (with_reducible first | exact BlR _ _ | assumption | refine BlA ?_ ?_ _ | refine BlD ?_ | refine BlN ?_ _ | refine BlS ?_ ?_ _ | refine BlT ?_ (BlM (by assumption) ?_)) | omega | (simp only [ZZ]; omega) | go_size))⟩
     · have HN := Lib.hid (hgood hrt)
       rw [hrt] at K
       clear hbad hgood hcell HG1 HG2 hrt
       simp only [if_true] at K
       go_wp2_with fail
       refine K.out.mono ?_
       rintro e w3 ⟨rfl, hb3⟩
       have hbX : Below W1.heap.size W1 w3 := hbj.trans (hb3.mono hbjz)
       clear hb3
       go_wp2_with fail
       go_roundw
       case rel => exact ⟨j + 1, by omega, by go_num, HN.out.1, HN.out.2, hbX⟩
       case measure => simp [intOf]; omega
   · have h1 := HG1.out (by omega)
     have h2 := HG2.out (by omega)
     have HD2 : Hid (code = if gsE r r.ng ≠ 0 then gsE r r.ng else if ¬ (0 ≤ r.top ∧ r.top < r.v + r.ng) then 10 else 0) := by
       show _ = _
       rw [HD.out, if_neg (by rw [h1]; decide), if_neg (by rw [h2]; decide)]
     have hj2' : ¬ (j : Int) < 2 := by omega
     have hb0o : Below W0.heap.size W0 wo := hb1.trans (hbj.mono (by omega))
     have v1 := (below_at hb0o w.heap.size 1 (by omega)).trans x1
     clear HD HG1 HG2 h1 h2 HI1 r0 r1 hb1 KF KR
     go_wp2_with fail
     go_loopw [56] (fun i wr => ∃ j : Nat, j ≤ r.ng ∧ i = .int .i64 j ∧ gsE r j = 0 ∧ Below W0.heap.size W0 wr) (fun i _ => r.ng - (intOf i).toNat)
     case atStart => exact ⟨0, Nat.zero_le _, rfl, rfl, hb0o⟩
     case round =>
       obtain ⟨k, hk, rfl, hge, hb3⟩ := hrel
       obtain ⟨w3, rfl⟩ : ∃ w3 : World, w3 = wr := ⟨_, rfl⟩
       have HGE := Lib.hid hge
       clear hge v1
       have X := fun o => below_at hb3 w.heap.size o (by omega)
       have y0 := (X 0).trans x0
       have y1 := (X 1).trans x1
       have y2 := (X 2).trans x2
       have y3 := (X 3).trans x3'
       have y4 := (X 4).trans x4'
       have hb3z := hb3.size
       have hbB : Below w.heap.size w w3 := hb0.trans (hb3.mono (by omega))
       clear X
       by_cases hkn : k < r.ng
       · have KG1 := Lib.hid (KG.out w3 k hb3 hkn HGE.out)
         by_cases hga : r.ga k = 0
         · have HN := Lib.hid (gsE_next HGE.out hga)
           rw [hga] at KG1
           clear hga
           go_wp2_with fail
           refine KG1.out.mono ?_
           rintro e w6 ⟨rfl, hb6⟩
           have hbX : Below W0.heap.size W0 w6 := hb3.trans (hb6.mono hb3z)
           clear hb6
           go_wp2_with fail
           go_roundw
           case rel => exact ⟨k + 1, by omega, by go_num, HN.out, hbX⟩
           case measure => simp [intOf]; omega
         · have HC : Hid (code = r.ga k) := by
             show _ = _
             have := gsE_err HGE.out hga hkn
             rw [HD2.out, this, if_pos hga]
           have n0 : (r.ga k != 0) = true := by simpa using hga
           clear hga
           generalize r.ga k = ga at *
           go_wp2_with fail
           refine KG1.out.mono ?_
           rintro e w6 ⟨rfl, hb6⟩
           have hbX : Below w.heap.size w w6 := hbB.trans (hb6.mono (by omega))
           clear hb6
           go_wp2_with fail
           go_returns
           exact ⟨by rw [HC.out]; rfl, hbX⟩
       · obtain rfl : k = r.ng := by omega
         have HD3 : Hid (code = if ¬ (0 ≤ r.top ∧ r.top < (v : Int) + r.ng) then 10 else 0) := by
           show _ = _
           rw [HD2.out, if_neg (by rw [HGE.out]; decide), hv]
         have e5 : IntKind.i64.wrap ((v : Int) + (r.ng : Int)) = (v : Int) + (r.ng : Int) := by rw [IntKind.wrap_i64]; omega
         clear HD2 KG
         generalize r.top = tp at *
         by_cases ht0 : tp < 0
         · have HC : Hid (code = 10) := by show _ = _; rw [HD3.out, if_pos (by omega)]
           clear HD3
           go_wp2_with fail
           go_returns
           exact ⟨by rw [HC.out]; rfl, hbB⟩
         by_cases ht1 : (v : Int) + r.ng ≤ tp
         · have HC : Hid (code = 10) := by show _ = _; rw [HD3.out, if_pos (by omega)]
           clear HD3
           go_wp2_with fail
           go_returns
           exact ⟨by rw [HC.out]; rfl, hbB⟩
         have HC : Hid (code = 0) := by show _ = _; rw [HD3.out, if_neg (by omega)]
         clear HD3
         go_wp2_with fail
         go_returns
         exact ⟨by rw [HC.out]; rfl, hbB⟩
end
end Go.Proofs.YtoiopnmphbnjaaaGreatDoor
