/- Contracts of functions and lemmas, used by the proofs of the given statements. No condition beyond those that each lemma names. -/
import Derived.Test.YtlncafhgmbhocaaGreatDoorLmR2
import Derived.Test.YtlncafhgmbhocaaGreatDoorJLmW3
import Derived.Test.YtlncafhgmbhocaaGreatDoorJLinC
namespace Go.Proofs.YtlncafhgmbhocaaGreatDoor
open Go.RowKit
set_option linter.unusedSimpArgs false
set_option linter.unusedVariables false
set_option maxRecDepth 20000
/-! ## the reference of law51: into -/
theorem into_fz {nm n P : Nat} {q : Nat → Rat} {F T p : Nat → Nat} (h : Rts nm q P) (s d : Nat) : ∀ k, k ≤ nm → Fz P (k * (4294967296 * P)) (intoQ F T q k p s d)
  | 0, _ => by
    show Fz P _ (sumN _ 0)
    rw [sumN]
    exact (Fz.zero P).le (by omega)
  | k + 1, hk => by
    have ih := into_fz h s d k (by omega) (n := n) (F := F) (T := T) (p := p)
    have hq := h.fz k (by omega)
    have e : (k + 1) * (4294967296 * P) = k * (4294967296 * P) + 4294967296 * P := by rw [Nat.add_mul]; omega
    rw [e]
    show Fz P _ (sumN _ (k + 1))
    rw [sumN]
    refine ih.add ?_
    split
    · exact hq
    · exact (Fz.zero P).le (by omega)
theorem into_sz {nm P : Nat} {q : Nat → Rat} {F T p : Nat → Nat} (h : Rts nm q P) (s d : Nat) {k : Nat} (hk : k ≤ nm) : Sz 20 (intoQ F T q k p s d) := by
  refine (into_fz (n := 0) h s d k hk).sz h.ne (by omega) (lt_wp_more h.lt (by omega)) ?_
  have h1 : k * 4294967296 < wp 2 := Nat.lt_of_le_of_lt (Nat.mul_le_mul_right _ (by have := h.few; omega)) wp2b
  have := wp_mul_lt h1 h.lt
  rw [Nat.mul_assoc] at this
  exact lt_wp_more this (by omega)
theorem into_yes {F T p : Nat → Nat} {q : Nat → Rat} {s d k : Nat} (h1 : F k = s) (h2 : p (T k) = d) : intoQ F T q (k + 1) p s d = intoQ F T q k p s d + q k := by
  show sumN _ (k + 1) = _
  rw [sumN, if_pos ⟨h1, h2⟩]
  rfl
theorem into_no {F T p : Nat → Nat} {q : Nat → Rat} {s d k : Nat} (h : ¬ (F k = s ∧ p (T k) = d)) : intoQ F T q (k + 1) p s d = intoQ F T q k p s d := by
  show sumN _ (k + 1) = _
  rw [sumN, if_neg h]
  show sumN _ k + 0 = sumN _ k
  grind
attribute [local irreducible] nv wp win plainB validR valR canR mvE chkM codeC intoQ
set_option maxHeartbeats 8000000 in
theorem rintoS_any {w : World} {AM AD AV : Option Addr} {cm cd ca s d : Nat} {c : Chn} {P : Nat → Int} {p : Nat → Nat} (h : ChI w w.heap.size AM cm AD cd c) (ok : c.Ok) (hs : ChS c 400) (hv : PaI w AV c.nd P) (hp : ∀ i, i < c.nd → P i = (p i : Int)) (hsz : ∀ k, k ≤ c.nm → Sz 400 (intoQ c.f c.t c.q k p s d)) :
    Calls Tryz.prog 47 #[cv c.st c.sr AM c.nm cm AD c.nd cd, .slice AV c.nd ca, .int .i64 (s : Int), .int .i64 (d : Int)] w fun e w' => (∃ v, e = .returned v ∧ RdS w' 0 v (canR (intoQ c.f c.t c.q c.nm p s d))) ∧ Below w.heap.size w w' := by
  have HMV := Lib.hid (fun W hb k hk => h.mv_later (W := W) ok hb (k := k) hk)
  have HSQ := Lib.hid (fun k hk => (hs.siz ok).raw k hk)
  have HV := Lib.hid (hv.congr hp)
  have hn1 := ok.lo
  have hn2 := ok.hi
  obtain ⟨S, hS⟩ : ∃ S : Nat → Rat, S = fun k => intoQ c.f c.t c.q k p s d := ⟨_, rfl⟩
  have HS0 : Hid (S 0 = 0) := by show S 0 = 0; rw [hS]; unfold intoQ; rfl
  have HSY : Hid (∀ k, c.f k = s → p (c.t k) = d → S (k + 1) = S k + c.q k) := fun k h1 h2 => by rw [hS]; exact into_yes h1 h2
  have HSN : Hid (∀ k, ¬ (c.f k = s ∧ p (c.t k) = d) → S (k + 1) = S k) := fun k h1 => by rw [hS]; exact into_no h1
  have HSZ : Hid (∀ k, k ≤ c.nm → Sz 400 (S k)) := by rw [hS]; exact hsz
  have hSe : intoQ c.f c.t c.q c.nm p s d = S c.nm := by rw [hS]
  rw [hSe]
  obtain ⟨bp, op, rfl, hbp, -⟩ := HV.out.later (k := 0) (Below.refl _ _) (by omega)
  have hmk := fun W (hb : Below w.heap.size w W) i (hi : i < c.nd) => (by
    obtain ⟨bd, od, e, -, x⟩ := HV.out.later hb hi
    cases e
    exact x : W.cell? ⟨bp, op + i, none⟩ = some (.int .i64 ((p i : Nat) : Int)))
  have HL := Lib.hid hmk
  have HPB := Lib.hid (fun W hb => par_below (W := W) (w := w) (o := .cells #[.int .i64 c.st, .int .i64 c.sr, .slice AM c.nm cm, .slice AD c.nd cd] 25) hb)
  have HPC := Lib.hid (fun W hb => par_cells (W := W) (w := w) (a := .int .i64 c.st) (b := .int .i64 c.sr) (d := .slice AM c.nm cm) (e := .slice AD c.nd cd) (t := 25) hb)
  have hW0z : (w.alloc (.cells #[.int .i64 c.st, .int .i64 c.sr, .slice AM c.nm cm, .slice AD c.nd cd] 25)).heap.size = w.heap.size + 1 := by simp
  have HAL0 : Hid (Below (w.heap.size + 1) (w.alloc (.cells #[.int .i64 c.st, .int .i64 c.sr, .slice AM c.nm cm, .slice AD c.nd cd] 25)) ((w.alloc (.cells #[.int .i64 c.st, .int .i64 c.sr, .slice AM c.nm cm, .slice AD c.nd cd] 25)).alloc (.cells #[.bool false, .slice none 0 0, .slice none 0 0] 44))) := (Below.refl _ _).alloc (by simp) _
  have HVR : Hid (VarR (w.heap.size + 1) 0 ((w.alloc (.cells #[.int .i64 c.st, .int .i64 c.sr, .slice AM c.nm cm, .slice AD c.nd cd] 25)).alloc (.cells #[.bool false, .slice none 0 0, .slice none 0 0] 44))) := by
    have h1 := VarR.new (w.alloc (.cells #[.int .i64 c.st, .int .i64 c.sr, .slice AM c.nm cm, .slice AD c.nd cd] 25))
    rw [hW0z] at h1
    exact h1
  have hW1z : ((w.alloc (.cells #[.int .i64 c.st, .int .i64 c.sr, .slice AM c.nm cm, .slice AD c.nd cd] 25)).alloc (.cells #[.bool false, .slice none 0 0, .slice none 0 0] 44)).heap.size = w.heap.size + 1 + 1 := by simp
  have HVS0 : Hid (VarR (w.heap.size + 1 + 1) (S 0) (((w.alloc (.cells #[.int .i64 c.st, .int .i64 c.sr, .slice AM c.nm cm, .slice AD c.nd cd] 25)).alloc (.cells #[.bool false, .slice none 0 0, .slice none 0 0] 44)).alloc (.cells #[.bool false, .slice none 0 0, .slice none 0 0] 44))) := by
    have h1 := VarR.new ((w.alloc (.cells #[.int .i64 c.st, .int .i64 c.sr, .slice AM c.nm cm, .slice AD c.nd cd] 25)).alloc (.cells #[.bool false, .slice none 0 0, .slice none 0 0] 44))
    rw [hW1z] at h1
    rw [HS0.out]
    exact h1
  have hnm := hs.nm
  clear h ok hs hv hp hsz hS hSe hmk HV
  go_enter Tryz.func47, Tryz.ntmps47
  go_wp2
  obtain ⟨W1, hW1⟩ : ∃ W1, W1 = ((w.alloc (.cells #[.int .i64 c.st, .int .i64 c.sr, .slice AM c.nm cm, .slice AD c.nd cd] 25)).alloc (.cells #[.bool false, .slice none 0 0, .slice none 0 0] 44)) := ⟨_, rfl⟩
  rw [← hW1] at HAL0 HVR HVS0 hW1z
  rw [← hW1]
  clear hW1
  generalize w.alloc (.cells #[.int .i64 c.st, .int .i64 c.sr, .slice AM c.nm cm, .slice AD c.nd cd] 25) = W0 at *
  have HW1z := Lib.hid hW1z
  have hz1 : w.heap.size + 1 < W1.heap.size := by omega
  clear hW1z
  go_loopw [15] (fun i wr => ∃ k : Nat, k ≤ c.nm ∧ i = .int .i64 (k : Int) ∧ VarR (w.heap.size + 1 + 1) (S k) wr ∧ Below W1.heap.size W1 wr) (fun i _ => c.nm - (intOf i).toNat)
  case atStart => exact ⟨0, Nat.zero_le _, rfl, HVS0.out, (Below.refl _ _).alloc (Nat.le_refl _) _⟩
  case round =>
    obtain ⟨k, hk, rfl, vS, hb⟩ := hrel
    have hz := hb.size
    have hbr := HAL0.out.trans (hb.mono (by omega))
    have hbw := HPB.out _ hbr
    have hvz := vS.2.2.1
    by_cases hlt : k < c.nm
    · obtain ⟨bm, om, s1, A1, n1, c1, B1, m1, d1, rfl, hbm, g0, g1, g2, g3, g4, r1, hfn, htn, hft⟩ := HMV.out wr hbw k hlt
      have pt := HL.out wr hbw _ htn
      obtain ⟨q1, q2⟩ := HSQ.out k hlt
      have qm : RdQ wr 400 (rv s1 A1 n1 c1 B1 m1 d1) (c.q k) := r1.rdq (L := 400) q1 q2
      have hSY := HSY.out k
      have hSN := HSN.out k
      have hSk := HSZ.out k hk
      obtain ⟨f, hf⟩ : ∃ f, f = c.f k := ⟨_, rfl⟩
      obtain ⟨tt, ht⟩ : ∃ tt, tt = c.t k := ⟨_, rfl⟩
      obtain ⟨q, hq⟩ : ∃ q, q = c.q k := ⟨_, rfl⟩
      rw [← hf] at g0 hSY hSN
      rw [← ht] at g1 htn hSY hSN pt
      rw [← hq] at hSY qm
      obtain ⟨y, hy⟩ : ∃ y, y = p tt := ⟨_, rfl⟩
      rw [← hy] at pt hSY hSN
      have hki : (k : Int) < (c.nm : Int) := by omega
      have hk0 : (0 : Int) ≤ (k : Int) := by omega
      have hti : (tt : Int) < (c.nd : Int) := by omega
      have ht0 : (0 : Int) ≤ (tt : Int) := by omega
      have hbp2 : bp < wr.heap.size := by have := hbw.size; omega
      have HB := Lib.hid hb
      have HVS := Lib.hid vS
      have HQM := Lib.hid qm
      have hal : Below wr.heap.size wr (wr.alloc (.cells #[.int .i64 (f : Int), .int .i64 (tt : Int), .bool s1, .slice A1 n1 c1, .slice B1 m1 d1] 46)) := (Below.refl _ _).alloc (Nat.le_refl _) _
      have HAL := Lib.hid hal
      clear hf ht hq hy hft hfn r1 hb hbw hbr hal q1 q2 vS qm
      (have occ := fun o i => below_at ((Below.refl wr.heap.size wr).alloc (Nat.le_refl _) o) (bp) i (by omega)); (have ocf := fun o i => below_fr ((Below.refl wr.heap.size wr).alloc (Nat.le_refl _) o) (bp) i (by omega))
      by_cases h12 : f = s ∧ y = d
      · obtain ⟨h1, h2⟩ := h12
        have HE := Lib.hid (hSY h1 h2)
        subst h1
        subst h2
        have e1 : ((f : Int) == (f : Int)) = true := by simp
        have e2 : ((y : Int) == (y : Int)) = true := by simp
        clear hSY hSN
        have vq := HVS.out.below HAL.out
        have HVQ := Lib.hid vq
        obtain ⟨⟨s8, A8, n8, c8, B8, m8, d8, o0, o1, o2, r0⟩, hRB, hgz, hgf⟩ := vq
        have qd := r0.canQ hSk
        have KA := Lib.hid (fun W (hb : Below (wr.alloc (.cells #[.int .i64 (f : Int), .int .i64 (tt : Int), .bool s1, .slice A1 n1 c1, .slice B1 m1 d1] 46)).heap.size (wr.alloc (.cells #[.int .i64 (f : Int), .int .i64 (tt : Int), .bool s1, .slice A1 n1 c1, .slice B1 m1 d1] 46)) W) => raddQ (qd.below hb) (HQM.out.below (HAL.out.trans (hb.mono (by simp)))) (by omega) (by omega))
        clear r0 qd hRB
        (go_wp2_with fail; (with_reducible refine (KA.out _ (by (skip); repeat' (first | (with_reducible exact Below.refl _ _) | (with_reducible assumption) | (with_reducible refine Below.alloc ?_ ?_ _) | (with_reducible refine Below.drew ?_) | (with_reducible refine below_drewN ?_ _) | (with_reducible refine Below.setCell ?_ ?_ _) | (with_reducible refine Below.trans ?_ (Below.mono (by with_reducible assumption) ?_)) | omega | (simp only [ZA, ZS, ZD, ZN]; omega) | go_size))).mono ?_); rintro e w4 ⟨⟨v4, rfl, own4⟩, hb4⟩; have hb4z := Below.size hb4; (try simp only [ZA, ZS, ZD, ZN] at hb4z); have hb4c0 := fun o => below_at hb4 (w.heap.size + 1 + 1) o (by first | omega | (simp only [ZA, ZS, ZD, ZN]; omega)); have hb4f0 := fun o => below_fr hb4 (w.heap.size + 1 + 1) o (by first | omega | (simp only [ZA, ZS, ZD, ZN]; omega)))
        obtain ⟨s9, A9, n9, c9, B9, m9, d9, rfl⟩ := own4.form
        have hgf4 : ∀ i, w4.frozen? ⟨w.heap.size + 1 + 1, i, none⟩ = false := fun i => by rw [hb4f0]; exact hgf i
        have hVP := (HVQ.out.below hb4).put (own4.rs (b0 := 0))
        rw [← HE.out] at hVP
        have HVP := Lib.hid hVP
        have HBP := Lib.hid (below_set3 (g := w.heap.size + 1 + 1) ((HB.out.trans (HAL.out.mono (by omega))).trans (hb4.mono (by simp; omega))) (by have := HW1z.out; omega) (.bool s9) (.slice A9 n9 c9) (.slice B9 m9 d9))
        have p0 : w4.cell? ⟨w.heap.size + 1 + 1, 0, none⟩ = some (.bool s8) := by rw [hb4c0]; exact o0
        have p1 : w4.cell? ⟨w.heap.size + 1 + 1, 1, none⟩ = some (.slice A8 n8 c8) := by rw [hb4c0]; exact o1
        have p2 : w4.cell? ⟨w.heap.size + 1 + 1, 2, none⟩ = some (.slice B8 m8 d8) := by rw [hb4c0]; exact o2
        clear hVP hb4 hb4c0 hb4f0 own4 o0 o1 o2
        go_wp2
        go_roundw
        case rel => exact ⟨k + 1, by omega, by go_num, HVP.out, HBP.out⟩
        case measure => simp [intOf]; omega
      · have HE := Lib.hid (hSN h12)
        have H12 := Lib.hid h12
        clear hSY hSN h12
        by_cases h1 : f = s
        · have e1 : ((f : Int) == (s : Int)) = true := by simp [h1]
          have e2 : ((y : Int) == (d : Int)) = false := by
            have : y ≠ d := fun e => H12.out ⟨h1, e⟩
            simp; omega
          clear h1
          go_wp2
          go_roundw
          case rel => exact ⟨k + 1, by omega, by go_num, by rw [HE.out]; exact HVS.out.below HAL.out, HB.out.trans (HAL.out.mono (by omega))⟩
          case measure => simp [intOf]; omega
        · have e1 : ((f : Int) == (s : Int)) = false := by simp; omega
          clear h1
          go_wp2
          go_roundw
          case rel => exact ⟨k + 1, by omega, by go_num, by rw [HE.out]; exact HVS.out.below HAL.out, HB.out.trans (HAL.out.mono (by omega))⟩
          case measure => simp [intOf]; omega
    · have hkm : k = c.nm := by omega
      have HKM := Lib.hid hkm
      have hSk := HSZ.out k hk
      have vr := HVR.out.below hb
      have HVR2 := Lib.hid vr
      obtain ⟨⟨s8, A8, n8, c8, B8, m8, d8, o0, o1, o2, r0⟩, -, -, -⟩ := vS
      obtain ⟨⟨s7, A7, n7, c7, B7, m7, d7, p0, p1, p2, -⟩, -, hrz2, hrf⟩ := vr
      have hbf := below_set3 hbw (show w.heap.size ≤ w.heap.size + 1 by omega) (.bool s8) (.slice A8 n8 c8) (.slice B8 m8 d8)
      have s9 := set3 (w := wr) (g := w.heap.size + 1) (o := 0) (a := .bool s8) (b := .slice A8 n8 c8) (d := .slice B8 m8 d8) p0 p1 p2
      have hrs := r0.kp (Kp.store3 HVR2.out.2.1 (Nat.zero_le _) (.bool s8) (.slice A8 n8 c8) (.slice B8 m8 d8))
      have HRS := Lib.hid hrs
      have HBF := Lib.hid hbf
      clear r0 hbf hrs hb hbr hbw hkm
      go_wp2
      obtain ⟨t0, t1, t2⟩ := s9
      refine bodyPost_ret (v := (rv s8 A8 n8 c8 B8 m8 d8)) (by simp [results, Tryz.results47, go_sem, t0, t1, t2]) rfl ?_
      exact ⟨⟨_, rfl, by rw [← HKM.out]; exact HRS.out⟩, HBF.out⟩
theorem rinto_any {w : World} {AM AD AV : Option Addr} {cm cd ca s d : Nat} {c : Chn} {P : Nat → Int} {p : Nat → Nat} (h : ChI w w.heap.size AM cm AD cd c) (ok : c.Ok) (hs : ChS c 400) (hv : PaI w AV c.nd P) (hp : ∀ i, i < c.nd → P i = (p i : Int)) (hsz : ∀ k, k ≤ c.nm → Sz 400 (intoQ c.f c.t c.q k p s d)) :
    Calls Tryz.prog 47 #[cv c.st c.sr AM c.nm cm AD c.nd cd, .slice AV c.nd ca, .int .i64 (s : Int), .int .i64 (d : Int)] w fun e w' => (∃ v, e = .returned v ∧ RdQ w' 400 v (intoQ c.f c.t c.q c.nm p s d)) ∧ Below w.heap.size w w' :=
  (rintoS_any h ok hs hv hp hsz).mono fun _ _ ⟨⟨v, e, r⟩, hb⟩ => ⟨⟨v, e, r.canQ (hsz c.nm (Nat.le_refl _))⟩, hb⟩
end Go.Proofs.YtlncafhgmbhocaaGreatDoor
