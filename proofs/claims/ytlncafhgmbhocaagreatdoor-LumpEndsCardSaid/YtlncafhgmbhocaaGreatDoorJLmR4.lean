/- Contracts of functions and lemmas, used by the proofs of the given statements. No condition beyond those that each lemma names. -/
import Derived.Test.YtlncafhgmbhocaaGreatDoorLmR3
import Derived.Test.YtlncafhgmbhocaaGreatDoorJLmW5
namespace Go.Proofs.YtlncafhgmbhocaaGreatDoor
open Go.RowKit
set_option linter.unusedSimpArgs false
set_option linter.unusedVariables false
set_option maxRecDepth 20000
attribute [local irreducible] nv wp win plainB validR valR canR mvE chkM codeC intoQ
/-! ## the reference of law51: alike -/
theorem alk_no {F T : Nat → Nat} {q : Nat → Rat} {nm n a b d : Nat} {p : Nat → Nat} (hd : d < n) (hne : d ≠ p a) (h : intoQ F T q nm p a d ≠ intoQ F T q nm p b d) : alk F T q nm n p a b = false := by
  cases e : alk F T q nm n p a b
  · rfl
  · exact absurd (alk_iff.1 e d hd hne) h
set_option maxHeartbeats 8000000 in
theorem ralike_any {w : World} {AM AD AV : Option Addr} {cm cd ca a b : Nat} {c : Chn} {P : Nat → Int} {p : Nat → Nat} (h : ChI w w.heap.size AM cm AD cd c) (ok : c.Ok) (hs : ChS c 400) (hv : PaI w AV c.nd P) (hp : ∀ i, i < c.nd → P i = (p i : Int)) (ha : a < c.nd) (hsz : ∀ s d k, k ≤ c.nm → Sz 400 (intoQ c.f c.t c.q k p s d)) :
    Calls Tryz.prog 65 #[cv c.st c.sr AM c.nm cm AD c.nd cd, .slice AV c.nd ca, .int .i64 (a : Int), .int .i64 (b : Int)] w fun e w' => e = .returned (.bool (alk c.f c.t c.q c.nm c.nd p a b)) ∧ Below w.heap.size w w' := by
  have hst := ok.st
  have hn1 := ok.lo
  have hn2 := ok.hi
  have HV := Lib.hid (hv.congr hp)
  obtain ⟨I, hI⟩ : ∃ I : Nat → Nat → Rat, I = fun s d => intoQ c.f c.t c.q c.nm p s d := ⟨_, rfl⟩
  have KI : Hid (∀ s d W, Below w.heap.size w W → Calls Tryz.prog 47 #[cv c.st c.sr AM c.nm cm AD c.nd cd, .slice AV c.nd ca, .int .i64 ((s : Nat) : Int), .int .i64 ((d : Nat) : Int)] W fun e w' => (∃ v, e = .returned v ∧ RdQ w' 400 v (I s d)) ∧ Below W.heap.size W w') := fun s d W hb => by
    rw [hI]
    exact rinto_any (h.below hb) ok hs (hv.below hb) hp (hsz s d)
  have HIS : Hid (∀ s d, Sz 400 (I s d)) := fun s d => by rw [hI]; exact hsz s d c.nm (Nat.le_refl _)
  obtain ⟨ans, hans⟩ : ∃ ans, ans = alk c.f c.t c.q c.nm c.nd p a b := ⟨_, rfl⟩
  have HAY : Hid ((∀ d, d < c.nd → d ≠ p a → I a d = I b d) → ans = true) := fun hx => by rw [hans]; rw [hI] at hx; exact alk_iff.2 hx
  have HAN : Hid (∀ d, d < c.nd → d ≠ p a → I a d ≠ I b d → ans = false) := fun d h1 h2 h3 => by rw [hans]; rw [hI] at h3; exact alk_no h1 h2 h3
  rw [← hans]
  obtain ⟨bp, op, rfl, hbp, -⟩ := HV.out.later (k := 0) (Below.refl _ _) (by omega)
  have hmk := fun W (hb : Below w.heap.size w W) => (by
    obtain ⟨bd, od, e, -, x⟩ := HV.out.later hb ha
    cases e
    exact x : W.cell? ⟨bp, op + a, none⟩ = some (.int .i64 ((p a : Nat) : Int)))
  have HL := Lib.hid hmk
  obtain ⟨pa, hpa⟩ : ∃ pa, pa = p a := ⟨_, rfl⟩
  rw [← hpa] at HL HAY HAN
  obtain ⟨sr, hsr⟩ : ∃ sr, sr = c.sr := ⟨_, rfl⟩
  rw [← hsr, hst] at KI ⊢
  have HPC := Lib.hid (fun W hb => par_cells (W := W) (w := w) (a := .int .i64 (c.nd : Int)) (b := .int .i64 sr) (d := .slice AM c.nm cm) (e := .slice AD c.nd cd) (t := 25) hb)
  have HPB := Lib.hid (fun W hb => par_below (W := W) (w := w) (o := .cells #[.int .i64 (c.nd : Int), .int .i64 sr, .slice AM c.nm cm, .slice AD c.nd cd] 25) hb)
  have HW0 := Lib.hid (Below.refl (w.heap.size + 1) (w.alloc (.cells #[.int .i64 (c.nd : Int), .int .i64 sr, .slice AM c.nm cm, .slice AD c.nd cd] 25)))
  have HZ0 := Lib.hid (show (w.alloc (.cells #[.int .i64 (c.nd : Int), .int .i64 sr, .slice AM c.nm cm, .slice AD c.nd cd] 25)).heap.size = w.heap.size + 1 by simp)
  clear h ok hs hv hp hsz hst hsr hI hans hmk HV hpa
  go_enter Tryz.func65, Tryz.ntmps65
  go_wp2
  generalize w.alloc (.cells #[.int .i64 (c.nd : Int), .int .i64 sr, .slice AM c.nm cm, .slice AD c.nd cd] 25) = W0 at *
  go_loopw [12] (fun i wr => ∃ k : Nat, k ≤ c.nd ∧ i = .int .i64 (k : Int) ∧ (∀ d, d < k → d ≠ pa → I a d = I b d) ∧ Below (w.heap.size + 1) W0 wr) (fun i _ => c.nd - (intOf i).toNat)
  case atStart => exact ⟨0, Nat.zero_le _, rfl, fun d hd => by omega, HW0.out⟩
  case round =>
    obtain ⟨k, hk, rfl, hv, hb⟩ := hrel
    have HVV := Lib.hid hv
    clear hv
    have hz := hb.size
    have hz0 := HZ0.out
    have hbw := HPB.out _ hb
    by_cases hlt : k < c.nd
    · obtain ⟨y0, y1, y2, y3⟩ := HPC.out _ hb
      have x0 := HL.out wr hbw
      have hki : (k : Int) < (c.nd : Int) := by omega
      have hk0 : (0 : Int) ≤ (k : Int) := by omega
      have hai : (a : Int) < (c.nd : Int) := by omega
      have ha0 : (0 : Int) ≤ (a : Int) := by omega
      have hww : w.heap.size < wr.heap.size := by omega
      have hbp2 : bp < wr.heap.size := by have := hbw.size; omega
      have HB := Lib.hid hb
      have HBW := Lib.hid hbw
      have K1 := Lib.hid (fun W (hb' : Below wr.heap.size wr W) => KI.out a k W (hbw.trans (hb'.mono hbw.size)))
      have K2 := Lib.hid (fun W (hb' : Below wr.heap.size wr W) => KI.out b k W (hbw.trans (hb'.mono hbw.size)))
      have hAN := HAN.out k hlt
      have hS1 := HIS.out a k
      have hS2 := HIS.out b k
      obtain ⟨p1, hp1⟩ : ∃ x, x = I a k := ⟨_, rfl⟩
      obtain ⟨p2, hp2⟩ : ∃ x, x = I b k := ⟨_, rfl⟩
      have HP12 := Lib.hid (And.intro hp1 hp2)
      rw [← hp1] at K1 hAN hS1
      rw [← hp2] at K2 hAN hS2
      clear hb hbw hp1 hp2 hz0
      by_cases hkp : k = pa
      · have e1 : ((k : Int) != (pa : Int)) = false := by simp [hkp]
        have HKP := Lib.hid hkp
        have a0 := fun z : Sub wr => z.cell x0
        clear hkp hAN y0 y1 y2 y3
        go_wp2
        ((refine wp_region_quiet_bel (by kernel_rfl) (by kernel_rfl) ?_); (repeat (go_big_quiet_step (fail))); (refine wpQuiet_nil ?_); rintro w8 ⟨⟨_, hb8⟩, rfl⟩; (try dsimp only))
        have HB8 := Lib.hid (HB.out.trans (hb8.mono (by omega)))
        clear hb8
        go_wp2
        go_roundw
        case rel =>
          refine ⟨k + 1, by omega, by go_num, fun d hd hne => ?_, HB8.out⟩
          by_cases e : d = k
          · exact absurd (by rw [e, HKP.out]) hne
          · exact HVV.out d (by omega) hne
        case measure => simp [intOf]; omega
      · have e1 : ((k : Int) != (pa : Int)) = true := by simp; omega
        have hAN2 := hAN hkp
        clear hAN
        by_cases he : p1 = p2
        · have KC : Hid (∀ W v v', RdQ W 400 v p1 → RdQ W 400 v' p2 → Calls Tryz.prog 71 #[v, v'] W fun e w' => e = .returned (.int .i64 0) ∧ Below W.heap.size W w') := by
            show ∀ _, _
            intro W v v' h1 h2
            have := rcmpQ h1 h2 (by omega) (by omega)
            rw [he, Rat.sub_self] at this
            exact this
          have HEQ := Lib.hid (show I a k = I b k from by rw [← HP12.out.1, ← HP12.out.2, he])
          clear he hAN2 hkp
          go_wp2
          go_region_held3 (fun W => W.cell? ⟨w.heap.size, 0, none⟩ = some (.int .i64 (c.nd : Int)) ∧ W.cell? ⟨w.heap.size, 1, none⟩ = some (.int .i64 sr) ∧ W.cell? ⟨w.heap.size, 2, none⟩ = some (.slice AM c.nm cm) ∧ W.cell? ⟨w.heap.size, 3, none⟩ = some (.slice AD c.nd cd) ∧ W.cell? ⟨bp, op + a, none⟩ = some (.int .i64 (pa : Int))) (go_keep)
            (first | ((go_at_call 47; (with_reducible refine (K1.out _ (by (skip); repeat' (first | (with_reducible exact Below.refl _ _) | (with_reducible assumption) | (with_reducible refine Below.alloc ?_ ?_ _) | (with_reducible refine Below.drew ?_) | (with_reducible refine below_drewN ?_ _) | (with_reducible refine Below.setCell ?_ ?_ _) | (with_reducible refine Below.trans ?_ (Below.mono (by with_reducible assumption) ?_)) | omega | (simp only [ZA, ZS, ZD, ZN]; omega) | go_size))).mono ?_); rintro e w2 ⟨⟨va, rfl, qa⟩, hb2⟩; have hb2z := Below.size hb2; (try simp only [ZA, ZS, ZD] at hb2z); have hb2c0 := fun o => below_at hb2 (w.heap.size) o (by first | omega | (simp only [ZA, ZS, ZD]; omega)); have hb2f0 := fun o => below_fr hb2 (w.heap.size) o (by first | omega | (simp only [ZA, ZS, ZD]; omega)); have hb2l0 : w.heap.size < (w2).heap.size := (by omega); have hb2c1 := fun o => below_at hb2 (bp) o (by first | omega | (simp only [ZA, ZS, ZD]; omega)); have hb2f1 := fun o => below_fr hb2 (bp) o (by first | omega | (simp only [ZA, ZS, ZD]; omega)); have hb2l1 : bp < (w2).heap.size := (by omega)); (have q2' := Lib.hid qa); obtain ⟨ra, hra, -⟩ := qa; obtain ⟨s7, A7, n7, c7, B7, m7, d7, rfl⟩ := hra.form; clear hra) | ((go_at_call 47; (with_reducible refine (K2.out _ (by have z0 := Below.size hb2; (try simp only [ZA, ZS, ZD, ZN] at z0 ⊢; skip); repeat' (first | (with_reducible exact Below.refl _ _) | (with_reducible assumption) | (with_reducible refine Below.alloc ?_ ?_ _) | (with_reducible refine Below.drew ?_) | (with_reducible refine below_drewN ?_ _) | (with_reducible refine Below.setCell ?_ ?_ _) | (with_reducible refine Below.trans ?_ (Below.mono (by with_reducible assumption) ?_)) | omega | (simp only [ZA, ZS, ZD, ZN]; omega) | go_size))).mono ?_); rintro e w4 ⟨⟨vc, rfl, qc⟩, hb4⟩; have hb4z := Below.size hb4; (try simp only [ZA, ZS, ZD] at hb4z); have hb4c0 := fun o => below_at hb4 (w.heap.size) o (by first | omega | (simp only [ZA, ZS, ZD]; omega)); have hb4f0 := fun o => below_fr hb4 (w.heap.size) o (by first | omega | (simp only [ZA, ZS, ZD]; omega)); have hb4l0 : w.heap.size < (w4).heap.size := (by omega); have hb4c1 := fun o => below_at hb4 (bp) o (by first | omega | (simp only [ZA, ZS, ZD]; omega)); have hb4f1 := fun o => below_fr hb4 (bp) o (by first | omega | (simp only [ZA, ZS, ZD]; omega)); have hb4l1 : bp < (w4).heap.size := (by omega)); (have q4' := Lib.hid qc); obtain ⟨rc, hrc, -⟩ := qc; obtain ⟨s9, A9, n9, c9, B9, m9, d9, rfl⟩ := hrc.form; clear hrc) | ((go_at_call 71; (with_reducible refine (KC.out _ _ _ (q2'.out.below hb4) q4'.out).mono ?_); rintro e w6 ⟨rfl, hb6⟩; have hb6z := Below.size hb6; (try simp only [ZA, ZS, ZD] at hb6z); have hb6c0 := fun o => below_at hb6 (w.heap.size) o (by first | omega | (simp only [ZA, ZS, ZD]; omega)); have hb6f0 := fun o => below_fr hb6 (w.heap.size) o (by first | omega | (simp only [ZA, ZS, ZD]; omega)); have hb6l0 : w.heap.size < (w6).heap.size := (by omega); have hb6c1 := fun o => below_at hb6 (bp) o (by first | omega | (simp only [ZA, ZS, ZD]; omega)); have hb6f1 := fun o => below_fr hb6 (bp) o (by first | omega | (simp only [ZA, ZS, ZD]; omega)); have hb6l1 : bp < (w6).heap.size := (by omega))) | fail)
          all_goals
            have hBz : Below wr.heap.size wr w6 := (by have z0 := Below.size hb2; have z1 := Below.size hb4; have z2 := Below.size hb6; (try simp only [ZA, ZS, ZD, ZN] at z0 z1 z2 ⊢; skip); repeat' (first | (with_reducible exact Below.refl _ _) | (with_reducible assumption) | (with_reducible refine Below.alloc ?_ ?_ _) | (with_reducible refine Below.drew ?_) | (with_reducible refine below_drewN ?_ _) | (with_reducible refine Below.setCell ?_ ?_ _) | (with_reducible refine Below.trans ?_ (Below.mono (by with_reducible assumption) ?_)) | omega | (simp only [ZA, ZS, ZD, ZN]; omega) | go_size))
            have HBz := Lib.hid (HB.out.trans (hBz.mono (by omega)))
            clear hBz hb2 hb4 hb6 q2' q4'
            go_wp2
            go_roundw
            case rel =>
              refine ⟨k + 1, by omega, by go_num, fun d hd hne => ?_, HBz.out⟩
              by_cases e : d = k
              · rw [e]; exact HEQ.out
              · exact HVV.out d (by omega) hne
            case measure => simp [intOf]; omega
        · obtain ⟨z, hz'⟩ : ∃ z, z = sgnQ (p1 - p2) := ⟨_, rfl⟩
          have ez : (z != 0) = true := by
            rw [hz', bne_iff_ne]
            exact fun e => he (by have := sgnQ_zero.1 e; grind)
          have KC : Hid (∀ W v v', RdQ W 400 v p1 → RdQ W 400 v' p2 → Calls Tryz.prog 71 #[v, v'] W fun e w' => e = .returned (.int .i64 z) ∧ Below W.heap.size W w') := by
            show ∀ _, _
            intro W v v' h1 h2
            rw [hz']
            exact rcmpQ h1 h2 (by omega) (by omega)
          have HN2 := Lib.hid (hAN2 he)
          clear he hz' hAN2 hkp
          go_wp2
          go_region_held3 (fun W => W.cell? ⟨w.heap.size, 0, none⟩ = some (.int .i64 (c.nd : Int)) ∧ W.cell? ⟨w.heap.size, 1, none⟩ = some (.int .i64 sr) ∧ W.cell? ⟨w.heap.size, 2, none⟩ = some (.slice AM c.nm cm) ∧ W.cell? ⟨w.heap.size, 3, none⟩ = some (.slice AD c.nd cd) ∧ W.cell? ⟨bp, op + a, none⟩ = some (.int .i64 (pa : Int))) (go_keep)
            (first | ((go_at_call 47; (with_reducible refine (K1.out _ (by (skip); repeat' (first | (with_reducible exact Below.refl _ _) | (with_reducible assumption) | (with_reducible refine Below.alloc ?_ ?_ _) | (with_reducible refine Below.drew ?_) | (with_reducible refine below_drewN ?_ _) | (with_reducible refine Below.setCell ?_ ?_ _) | (with_reducible refine Below.trans ?_ (Below.mono (by with_reducible assumption) ?_)) | omega | (simp only [ZA, ZS, ZD, ZN]; omega) | go_size))).mono ?_); rintro e w2 ⟨⟨va, rfl, qa⟩, hb2⟩; have hb2z := Below.size hb2; (try simp only [ZA, ZS, ZD] at hb2z); have hb2c0 := fun o => below_at hb2 (w.heap.size) o (by first | omega | (simp only [ZA, ZS, ZD]; omega)); have hb2f0 := fun o => below_fr hb2 (w.heap.size) o (by first | omega | (simp only [ZA, ZS, ZD]; omega)); have hb2l0 : w.heap.size < (w2).heap.size := (by omega); have hb2c1 := fun o => below_at hb2 (bp) o (by first | omega | (simp only [ZA, ZS, ZD]; omega)); have hb2f1 := fun o => below_fr hb2 (bp) o (by first | omega | (simp only [ZA, ZS, ZD]; omega)); have hb2l1 : bp < (w2).heap.size := (by omega)); (have q2' := Lib.hid qa); obtain ⟨ra, hra, -⟩ := qa; obtain ⟨s7, A7, n7, c7, B7, m7, d7, rfl⟩ := hra.form; clear hra) | ((go_at_call 47; (with_reducible refine (K2.out _ (by have z0 := Below.size hb2; (try simp only [ZA, ZS, ZD, ZN] at z0 ⊢; skip); repeat' (first | (with_reducible exact Below.refl _ _) | (with_reducible assumption) | (with_reducible refine Below.alloc ?_ ?_ _) | (with_reducible refine Below.drew ?_) | (with_reducible refine below_drewN ?_ _) | (with_reducible refine Below.setCell ?_ ?_ _) | (with_reducible refine Below.trans ?_ (Below.mono (by with_reducible assumption) ?_)) | omega | (simp only [ZA, ZS, ZD, ZN]; omega) | go_size))).mono ?_); rintro e w4 ⟨⟨vc, rfl, qc⟩, hb4⟩; have hb4z := Below.size hb4; (try simp only [ZA, ZS, ZD] at hb4z); have hb4c0 := fun o => below_at hb4 (w.heap.size) o (by first | omega | (simp only [ZA, ZS, ZD]; omega)); have hb4f0 := fun o => below_fr hb4 (w.heap.size) o (by first | omega | (simp only [ZA, ZS, ZD]; omega)); have hb4l0 : w.heap.size < (w4).heap.size := (by omega); have hb4c1 := fun o => below_at hb4 (bp) o (by first | omega | (simp only [ZA, ZS, ZD]; omega)); have hb4f1 := fun o => below_fr hb4 (bp) o (by first | omega | (simp only [ZA, ZS, ZD]; omega)); have hb4l1 : bp < (w4).heap.size := (by omega)); (have q4' := Lib.hid qc); obtain ⟨rc, hrc, -⟩ := qc; obtain ⟨s9, A9, n9, c9, B9, m9, d9, rfl⟩ := hrc.form; clear hrc) | ((go_at_call 71; (with_reducible refine (KC.out _ _ _ (q2'.out.below hb4) q4'.out).mono ?_); rintro e w6 ⟨rfl, hb6⟩; have hb6z := Below.size hb6; (try simp only [ZA, ZS, ZD] at hb6z); have hb6c0 := fun o => below_at hb6 (w.heap.size) o (by first | omega | (simp only [ZA, ZS, ZD]; omega)); have hb6f0 := fun o => below_fr hb6 (w.heap.size) o (by first | omega | (simp only [ZA, ZS, ZD]; omega)); have hb6l0 : w.heap.size < (w6).heap.size := (by omega); have hb6c1 := fun o => below_at hb6 (bp) o (by first | omega | (simp only [ZA, ZS, ZD]; omega)); have hb6f1 := fun o => below_fr hb6 (bp) o (by first | omega | (simp only [ZA, ZS, ZD]; omega)); have hb6l1 : bp < (w6).heap.size := (by omega))) | fail)
          all_goals
            have hBz : Below wr.heap.size wr w6 := (by have z0 := Below.size hb2; have z1 := Below.size hb4; have z2 := Below.size hb6; (try simp only [ZA, ZS, ZD, ZN] at z0 z1 z2 ⊢; skip); repeat' (first | (with_reducible exact Below.refl _ _) | (with_reducible assumption) | (with_reducible refine Below.alloc ?_ ?_ _) | (with_reducible refine Below.drew ?_) | (with_reducible refine below_drewN ?_ _) | (with_reducible refine Below.setCell ?_ ?_ _) | (with_reducible refine Below.trans ?_ (Below.mono (by with_reducible assumption) ?_)) | omega | (simp only [ZA, ZS, ZD, ZN]; omega) | go_size))
            have HBz := Lib.hid (HBW.out.trans (hBz.mono HBW.out.size))
            clear hBz hb2 hb4 hb6 q2' q4'
            go_wp2
            go_ret
            exact ⟨by rw [HN2.out]; rfl, HBz.out⟩
    · have hkn : k = c.nd := by omega
      have HN := Lib.hid (HAY.out (fun d hd hne => HVV.out d (by omega) hne))
      have HBW := Lib.hid hbw
      clear hb hbw
      go_wp2
      go_ret
      exact ⟨by rw [HN.out]; rfl, HBW.out⟩
end Go.Proofs.YtlncafhgmbhocaaGreatDoor
namespace Go.Proofs.YtlncafhgmbhocaaGreatDoor
open Go.RowKit
set_option linter.unusedSimpArgs false
set_option linter.unusedVariables false
set_option maxRecDepth 20000
attribute [local irreducible] nv wp win plainB validR valR canR mvE chkM codeC smK alk badP intoQ
/-! ## the reference of law51: Stable -/
set_option maxHeartbeats 16000000 in
theorem lrStable_any {w : World} {AM AD AV : Option Addr} {cm cd n ca : Nat} {c : Chn} {P : Nat → Int} (h : ChI w w.heap.size AM cm AD cd c) (hs : ChS c 400) (hv : PaI w AV n P) (hn : n ≤ 1000000)
    (hsz : c.Ok → ∀ p s d k, k ≤ c.nm → Sz 400 (intoQ c.f c.t c.q k p s d)) :
    Calls Tryz.prog 26 #[cv c.st c.sr AM c.nm cm AD c.nd cd, .slice AV n ca] w fun e w' => AnsSt (.int .i64) c n P e ∧ Below w.heap.size w w' := by
  have K1 := Lib.hid (fun W (hb : Below w.heap.size w W) => lrErr_any (ca := ca) (h.below hb) hs (hv.below hb) hn)
  by_cases h0 : c.codeL n P = 0
  · obtain ⟨hc0, hnn, hin⟩ := Chn.codeL_0 h0
    have ok := Chn.ok_iff.1 hc0
    subst hnn
    have hpp := prt_is hin
    rw [h0] at K1
    have hn1 := ok.lo
    have hn2 := ok.hi
    have hst := ok.st
    obtain ⟨p, hp⟩ : ∃ p, p = prt P := ⟨_, rfl⟩
    rw [← hp] at hpp
    have hszp := hsz ok p
    have KA := Lib.hid (fun W (hb : Below w.heap.size w W) a (ha : a < c.nd) b => ralike_any (ca := ca) (p := p) (a := a) (b := b) (h.below hb) ok hs (hv.below hb) (fun i hi => (hpp i hi).1) ha hszp)
    obtain ⟨S, hS⟩ : ∃ S : Nat → Nat → Bool, S = fun a b => alk c.f c.t c.q c.nm c.nd p a b := ⟨_, rfl⟩
    have KS : Hid (∀ a b W, a < c.nd → Below w.heap.size w W → Calls Tryz.prog 65 #[cv c.st c.sr AM c.nm cm AD c.nd cd, .slice AV c.nd ca, .int .i64 ((a : Nat) : Int), .int .i64 ((b : Nat) : Int)] W fun e w' => e = .returned (.bool (S a b)) ∧ Below W.heap.size W w') := fun a b W ha hb => by rw [hS]; exact KA.out W hb a ha b
    obtain ⟨B, hB⟩ : ∃ B : Nat → Nat → Bool, B = badP c.f c.t c.q c.nm c.nd p := ⟨_, rfl⟩
    have HBN : Hid (∀ a b, p a ≠ p b → B a b = false) := fun a b e => by rw [hB]; unfold badP; rw [beq_eq_false_iff_ne.2 e]; rfl
    have HBE : Hid (∀ a b, p a = p b → B a b = !S a b) := fun a b e => by rw [hB, hS]; unfold badP; rw [e]; simp
    have HFN : Hid (∀ ok x y, IsPr B c.nd ok x y → AnsSt (.int .i64) c c.nd P (.returned (.tuple #[.bool ok, .agg #[.int .i64 ((x : Nat) : Int), .int .i64 ((y : Nat) : Int)], .int .i64 0]))) := fun ok x y hx => ⟨ok, x, y, by rw [h0], fun _ => by rw [← hp, ← hB]; exact hx, fun e => absurd h0 e⟩
    have HV := Lib.hid (hv.congr (P' := fun i => ((p i : Nat) : Int)) (fun i hi => (hpp i hi).1))
    obtain ⟨bp, op, rfl, hbp, -⟩ := HV.out.later (k := 0) (Below.refl _ _) (by omega)
    have hmk := fun W (hb : Below w.heap.size w W) i (hi : i < c.nd) => (by
      obtain ⟨bd, od, e, -, x⟩ := HV.out.later hb hi
      cases e
      exact x : W.cell? ⟨bp, op + i, none⟩ = some (.int .i64 ((p i : Nat) : Int)))
    have HL := Lib.hid hmk
    obtain ⟨sr, hsr⟩ : ∃ sr, sr = c.sr := ⟨_, rfl⟩
    rw [← hsr, hst] at K1 KS ⊢
    clear hS hB hp hpp hmk HV h hs hv h0 hc0 hin ok hsz hszp hsr hst KA
    go_enter Tryz.func26, Tryz.ntmps26
    (go_wp2_with fail; (with_reducible refine (K1.out _ (by (skip); repeat' (first | (with_reducible exact Below.refl _ _) | (with_reducible assumption) | (with_reducible refine Below.alloc ?_ ?_ _) | (with_reducible refine Below.drew ?_) | (with_reducible refine below_drewN ?_ _) | (with_reducible refine Below.setCell ?_ ?_ _) | (with_reducible refine Below.trans ?_ (Below.mono (by with_reducible assumption) ?_)) | omega | (simp only [ZA, ZS, ZD, ZN]; omega) | go_size))).mono ?_); rintro e w1 ⟨rfl, hb1⟩; have hb1z := Below.size hb1; (try simp only [ZA, ZS, ZD, ZN] at hb1z); have hb1c0 := fun o => below_at hb1 (w.heap.size) o (by first | omega | (simp only [ZA, ZS, ZD, ZN]; omega)); have hb1f0 := fun o => below_fr hb1 (w.heap.size) o (by first | omega | (simp only [ZA, ZS, ZD, ZN]; omega)); have hb1c1 := fun o => below_at hb1 (w.heap.size + 1) o (by first | omega | (simp only [ZA, ZS, ZD, ZN]; omega)); have hb1f1 := fun o => below_fr hb1 (w.heap.size + 1) o (by first | omega | (simp only [ZA, ZS, ZD, ZN]; omega)))
    have hB1 : Below w.heap.size w w1 := (((Below.refl _ _).alloc (Nat.le_refl _) _).alloc (by simp) _).trans (hb1.mono (by simp; omega))
    have u0 : w1.cell? ⟨w.heap.size + 1, 0, none⟩ = some (.int .i64 0) := by rw [hb1c1, World.cell?_alloc_at _ _ _ _ (by simp)]; rfl
    have u1 : w1.cell? ⟨w.heap.size + 1, 1, none⟩ = some (.int .i64 0) := by rw [hb1c1, World.cell?_alloc_at _ _ _ _ (by simp)]; rfl
    have uf : ∀ i, w1.frozen? ⟨w.heap.size + 1, i, none⟩ = false := fun i => by rw [hb1f1]; simp
    have y0 : w1.cell? ⟨w.heap.size, 0, none⟩ = some (.int .i64 (c.nd : Int)) := by rw [hb1c0]; simp
    have y1 : w1.cell? ⟨w.heap.size, 1, none⟩ = some (.int .i64 sr) := by rw [hb1c0]; simp
    have y2 : w1.cell? ⟨w.heap.size, 2, none⟩ = some (.slice AM c.nm cm) := by rw [hb1c0]; simp
    have y3 : w1.cell? ⟨w.heap.size, 3, none⟩ = some (.slice AD c.nd cd) := by rw [hb1c0]; simp
    have HB4 := Lib.hid hB1
    have hw4 : w.heap.size + 1 < w1.heap.size := by omega
    have hw5 : w.heap.size < w1.heap.size := by omega
    have HYS : Hid (∀ W, Below w1.heap.size w1 W → W.cell? ⟨w.heap.size, 0, none⟩ = some (.int .i64 (c.nd : Int)) ∧ W.cell? ⟨w.heap.size, 1, none⟩ = some (.int .i64 sr) ∧ W.cell? ⟨w.heap.size, 2, none⟩ = some (.slice AM c.nm cm) ∧ W.cell? ⟨w.heap.size, 3, none⟩ = some (.slice AD c.nd cd)) := fun W hb => ⟨(hb.cell (p := ⟨w.heap.size, 0, none⟩) hw5).trans y0, (hb.cell (p := ⟨w.heap.size, 1, none⟩) hw5).trans y1, (hb.cell (p := ⟨w.heap.size, 2, none⟩) hw5).trans y2, (hb.cell (p := ⟨w.heap.size, 3, none⟩) hw5).trans y3⟩
    clear y1 y2 y3 hb1 hb1c0 hb1f0 hb1c1 hb1f1 hB1 K1
    go_wp2
    clear y0
    go_loopw [19] (fun i wr => ∃ k : Nat, k ≤ c.nd ∧ i = .int .i64 (k : Int) ∧ (∀ a b, a < k → a < b → b < c.nd → B a b = false) ∧ Below w1.heap.size w1 wr) (fun i _ => c.nd - (intOf i).toNat)
    case atStart => exact ⟨0, Nat.zero_le _, rfl, fun a b h1 => by omega, Below.refl _ _⟩
    case round =>
      obtain ⟨k, hk, rfl, hv, hb⟩ := hrel
      have HV := Lib.hid hv
      clear hv
      have hz := hb.size
      by_cases hlt : k < c.nd
      · have hki : (k : Int) < (c.nd : Int) := by omega
        have hk0 : (0 : Int) ≤ (k : Int) := by omega
        have HB := Lib.hid hb
        clear hb
        obtain ⟨wo, hwo⟩ : ∃ wo, wo = wr := ⟨_, rfl⟩
        subst hwo
        go_wp2
        go_loopw [9] (fun j wr => ∃ m : Nat, k < m ∧ m ≤ c.nd ∧ j = .int .i64 (m : Int) ∧ (∀ b, k < b → b < m → B k b = false) ∧ Below w1.heap.size w1 wr) (fun j _ => c.nd - (intOf j).toNat)
        case atStart => exact ⟨k + 1, by omega, by omega, by go_num, fun b h1 h2 => by omega, HB.out⟩
        case round =>
          clear HB hz
          obtain ⟨m, hkm, hm, rfl, hv, hb⟩ := hrel
          have HW := Lib.hid hv
          clear hv
          have hz := hb.size
          obtain ⟨y0, y1, y2, y3⟩ := HYS.out _ hb
          by_cases hml : m < c.nd
          · have hmi : (m : Int) < (c.nd : Int) := by omega
            have hm0 : (0 : Int) ≤ (m : Int) := by omega
            have hbw := HB4.out.trans (hb.mono HB4.out.size)
            have pk := HL.out wr hbw k hlt
            have pm := HL.out wr hbw m hml
            have hBN := HBN.out k m
            have hBE := HBE.out k m
            have KE2 := Lib.hid (fun W (hb' : Below wr.heap.size wr W) => KS.out k m W hlt (hbw.trans (hb'.mono hbw.size)))
            obtain ⟨ans, hans⟩ : ∃ ans, ans = S k m := ⟨_, rfl⟩
            rw [← hans] at KE2 hBE
            obtain ⟨x, hx⟩ : ∃ x, x = p k := ⟨_, rfl⟩
            obtain ⟨y, hy⟩ : ∃ y, y = p m := ⟨_, rfl⟩
            rw [← hx] at pk hBN hBE
            rw [← hy] at pm hBN hBE
            have HB := Lib.hid hb
            have HBW := Lib.hid hbw
            clear hans hx hy hb hbw
            by_cases hxy : x = y
            · have hb9 := hBE hxy
              subst hxy
              have a0 := fun z : Sub wr => z.cell pk
              have a1 := fun z : Sub wr => z.cell pm
              have a2 := fun z : Sub wr => z.cell y0
              have a3 := fun z : Sub wr => z.cell y1
              have a4 := fun z : Sub wr => z.cell y2
              have a5 := fun z : Sub wr => z.cell y3
              cases ans
              · have HBAD := Lib.hid (show B k m = true from by rw [hb9]; rfl)
                clear hb9 hBN hBE
                go_wp2
                ((refine wp_region_quiet_bel (by kernel_rfl) (by kernel_rfl) ?_); (repeat (go_big_quiet_step ((go_at_call 65; with_reducible exact Calls.quiet_bel (KE2.out _ (Sub.bel _)))))); (refine wpQuiet_nil ?_); rintro w8 ⟨⟨_, hb8⟩, rfl⟩; (try dsimp only))
                have v0 := (hb8.cell (p := ⟨w.heap.size + 1, 0, none⟩) (by show w.heap.size + 1 < _; omega)).trans ((HB.out.cell (p := ⟨w.heap.size + 1, 0, none⟩) hw4).trans u0)
                have v1 := (hb8.cell (p := ⟨w.heap.size + 1, 1, none⟩) (by show w.heap.size + 1 < _; omega)).trans ((HB.out.cell (p := ⟨w.heap.size + 1, 1, none⟩) hw4).trans u1)
                have vf : ∀ i, w8.frozen? ⟨w.heap.size + 1, i, none⟩ = false := fun i => (hb8.frozen (p := ⟨w.heap.size + 1, i, none⟩) (by show w.heap.size + 1 < _; omega)).trans ((HB.out.frozen (p := ⟨w.heap.size + 1, i, none⟩) hw4).trans (uf i))
                have HB8 := Lib.hid (HBW.out.trans (hb8.mono HBW.out.size))
                clear hb8 a0 a1 a2 a3 a4 a5 pk pm y0 y1 y2 y3 KE2
                go_wp2
                (try simp only [Exit.inBlock, Exit.then])
                refine bodyPost_ret (v := .tuple #[.bool false, .agg #[.int .i64 (k : Int), .int .i64 (m : Int)], .int .i64 0]) ?_ rfl ⟨HFN.out false k m (.inr ⟨rfl, hkm, hml, HBAD.out, fun a b h1 h2 h3 => ?_⟩), ?_⟩
                · rw [results_tct rfl]
                  go_simp
                · rcases h3 with h3 | ⟨h3, h4⟩
                  · exact HV.out a b h3 h1 h2
                  · subst h3; exact HW.out b h1 h4
                · exact (HB8.out.setCell (by show _ ≤ _; simp) _).setCell (by show _ ≤ _; simp) _
              · have HOK := Lib.hid (show B k m = false from by rw [hb9]; rfl)
                clear hb9 hBN hBE
                go_wp2
                ((refine wp_region_quiet_bel (by kernel_rfl) (by kernel_rfl) ?_); (repeat (go_big_quiet_step ((go_at_call 65; with_reducible exact Calls.quiet_bel (KE2.out _ (Sub.bel _)))))); (refine wpQuiet_nil ?_); rintro w8 ⟨⟨_, hb8⟩, rfl⟩; (try dsimp only))
                have HB8 := Lib.hid (HB.out.trans (hb8.mono (by omega)))
                clear hb8
                go_wp2
                go_roundw
                case rel =>
                  refine ⟨m + 1, by omega, by omega, by go_num, fun b h1 h2 => ?_, HB8.out⟩
                  by_cases e : b = m
                  · rw [e]; exact HOK.out
                  · exact HW.out b h1 (by omega)
                case measure => simp [intOf]; omega
            · have HOK := Lib.hid (hBN hxy)
              have a0 := fun z : Sub wr => z.cell pk
              have a1 := fun z : Sub wr => z.cell pm
              have e3 : ((x : Int) == (y : Int)) = false := by simp; omega
              clear hBN hBE hxy
              go_wp2
              ((refine wp_region_quiet_bel (by kernel_rfl) (by kernel_rfl) ?_); (repeat (go_big_quiet_step (fail))); (refine wpQuiet_nil ?_); rintro w8 ⟨⟨_, hb8⟩, rfl⟩; (try dsimp only))
              have HB8 := Lib.hid (HB.out.trans (hb8.mono (by omega)))
              clear hb8
              go_wp2
              go_roundw
              case rel =>
                refine ⟨m + 1, by omega, by omega, by go_num, fun b h1 h2 => ?_, HB8.out⟩
                by_cases e : b = m
                · rw [e]; exact HOK.out
                · exact HW.out b h1 (by omega)
              case measure => simp [intOf]; omega
          · have hmn : m = c.nd := by omega
            have HB := Lib.hid hb
            have HMN := Lib.hid hmn
            clear hb hmn
            go_wp2
            go_roundw
            case rel =>
              refine ⟨k + 1, by omega, by go_num, fun a b h1 h2 h3 => ?_, HB.out⟩
              by_cases e : a = k
              · rw [e]; exact HW.out b (by omega) (by rw [HMN.out]; exact h3)
              · exact HV.out a b (by omega) h2 h3
            case measure => simp [intOf]; omega
      · have HK := Lib.hid (show k = c.nd by omega)
        have v0 := (hb.cell (p := ⟨w.heap.size + 1, 0, none⟩) hw4).trans u0
        have v1 := (hb.cell (p := ⟨w.heap.size + 1, 1, none⟩) hw4).trans u1
        have vf : ∀ i, wr.frozen? ⟨w.heap.size + 1, i, none⟩ = false := fun i => (hb.frozen (p := ⟨w.heap.size + 1, i, none⟩) hw4).trans (uf i)
        have HB8 := Lib.hid (HB4.out.trans (hb.mono HB4.out.size))
        clear hb
        go_wp2
        (try simp only [Exit.inBlock, Exit.then])
        refine bodyPost_ret (v := .tuple #[.bool true, .agg #[.int .i64 0, .int .i64 0], .int .i64 0]) ?_ rfl ⟨HFN.out true 0 0 (.inl ⟨rfl, rfl, rfl, fun a b h1 h2 => HV.out a b (by rw [HK.out]; omega) h1 h2⟩), ?_⟩
        · rw [results_tct rfl]
          go_simp
        · exact (HB8.out.setCell (by show _ ≤ _; simp) _).setCell (by show _ ≤ _; simp) _
  · obtain ⟨cc, hcc⟩ : ∃ cc, cc = c.codeL n P := ⟨_, rfl⟩
    have HCC := Lib.hid hcc
    rw [← hcc] at K1 h0
    have H0 := Lib.hid h0
    have e1 : (cc != 0) = true := by simpa using h0
    clear h hs hv h0 hsz hcc
    go_enter Tryz.func26, Tryz.ntmps26
    (go_wp2_with fail; (with_reducible refine (K1.out _ (by (skip); repeat' (first | (with_reducible exact Below.refl _ _) | (with_reducible assumption) | (with_reducible refine Below.alloc ?_ ?_ _) | (with_reducible refine Below.drew ?_) | (with_reducible refine below_drewN ?_ _) | (with_reducible refine Below.setCell ?_ ?_ _) | (with_reducible refine Below.trans ?_ (Below.mono (by with_reducible assumption) ?_)) | omega | (simp only [ZA, ZS, ZD, ZN]; omega) | go_size))).mono ?_); rintro e w1 ⟨rfl, hb1⟩; have hb1z := Below.size hb1; (try simp only [ZA, ZS, ZD, ZN] at hb1z); have hb1c0 := fun o => below_at hb1 (w.heap.size) o (by first | omega | (simp only [ZA, ZS, ZD, ZN]; omega)); have hb1f0 := fun o => below_fr hb1 (w.heap.size) o (by first | omega | (simp only [ZA, ZS, ZD, ZN]; omega)); have hb1c1 := fun o => below_at hb1 (w.heap.size + 1) o (by first | omega | (simp only [ZA, ZS, ZD, ZN]; omega)); have hb1f1 := fun o => below_fr hb1 (w.heap.size + 1) o (by first | omega | (simp only [ZA, ZS, ZD, ZN]; omega)))
    have hB1 : Below w.heap.size w w1 := (((Below.refl _ _).alloc (Nat.le_refl _) _).alloc (by simp) _).trans (hb1.mono (by simp; omega))
    have v0 : w1.cell? ⟨w.heap.size + 1, 0, none⟩ = some (.int .i64 0) := by rw [hb1c1, World.cell?_alloc_at _ _ _ _ (by simp)]; rfl
    have v1 : w1.cell? ⟨w.heap.size + 1, 1, none⟩ = some (.int .i64 0) := by rw [hb1c1, World.cell?_alloc_at _ _ _ _ (by simp)]; rfl
    have HB1 := Lib.hid hB1
    clear hB1 hb1
    go_wp2
    (try simp only [Exit.inBlock, Exit.then])
    refine bodyPost_ret (v := .tuple #[.bool false, .agg #[.int .i64 0, .int .i64 0], .int .i64 cc]) ?_ rfl ⟨⟨false, 0, 0, by rw [← HCC.out]; rfl, fun e => absurd (HCC.out.trans e) H0.out, fun _ => ⟨rfl, rfl, rfl⟩⟩, ?_⟩
    · rw [results_tct rfl]
      go_simp
    · exact (HB1.out.setCell (by show _ ≤ _; simp) _).setCell (by show _ ≤ _; simp) _
end Go.Proofs.YtlncafhgmbhocaaGreatDoor
