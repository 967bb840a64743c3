/- Contracts of functions and lemmas, used by the proofs of the given statements. No condition beyond those that each lemma names. -/
import Derived.Test.YtlncafhgmbhocaaGreatDoorJMcP
import Derived.Test.YtlncafhgmbhocaaGreatDoorLmQ7
import Derived.Test.YtlncafhgmbhocaaGreatDoorLmW9
import Derived.Test.YtlncafhgmbhocaaGreatDoorAbK
import Derived.Test.YtlncafhgmbhocaaGreatDoorBaseEq
import Derived.Test.YtlncafhgmbhocaaGreatDoorBaseBig
namespace Go.Proofs.YtlncafhgmbhocaaGreatDoor
open Go.RowKit
set_option linter.unusedSimpArgs false
set_option linter.unusedVariables false
set_option maxRecDepth 20000
attribute [local irreducible] nv wp win plainB validR valR canR mvE chkM codeC smK alk badP nrm eqN eqZ blks memZ crsP itP rfn mcC
/-! ## faultlinebase.Ints at two equal lists; law51: awake -/
set_option maxHeartbeats 4000000 in
theorem ints_same {w : World} {A B : Option Addr} {n c d : Nat} {P : Nat → Int} (h : PaI w A n P) (h' : PaI w B n P) (hn : n ≤ 1000000) :
    Calls Tryz.prog 29 #[.slice A n c, .slice B n d] w fun e w' => e = .returned (.bool true) ∧ Below w.heap.size w w' := by
  have HA := Lib.hid h
  have HB := Lib.hid h'
  have e0 : ((n : Int) != (n : Int)) = false := by simp
  clear h h'
  go_enter Tryz.func29, Tryz.ntmps29
  go_wp2
  go_loopw [13] (fun i wr => ∃ k : Nat, k ≤ n ∧ i = .int .i64 (k : Int) ∧ Below w.heap.size w wr) (fun i _ => n - (intOf i).toNat)
  case atStart => exact ⟨0, Nat.zero_le _, rfl, Below.refl _ _⟩
  case round =>
    obtain ⟨k, hk, rfl, hb⟩ := hrel
    by_cases hlt : k < n
    · obtain ⟨ba, oa, rfl, hba, g0⟩ := HA.out.later hb hlt
      obtain ⟨bb, ob, rfl, hbb, g1⟩ := HB.out.later hb hlt
      generalize P k = x at *
      have e1 : (x != x) = false := by simp
      have x0 := fun y : Sub wr => y.cell g0
      have x1 := fun y : Sub wr => y.cell g1
      have hk0 : (0 : Int) ≤ (k : Int) := by omega
      have hki : (k : Int) < (n : Int) := by omega
      clear g0 g1
      go_wp2
      ((refine wp_region_quiet_bel (by kernel_rfl) (by kernel_rfl) ?_); (repeat (go_big_quiet_step (fail))); (refine wpQuiet_nil ?_); rintro w5 ⟨⟨_, hb5⟩, rfl⟩; (try dsimp only))
      go_wp2
      go_roundw
      case rel => exact ⟨k + 1, by omega, by go_num, hb.trans (hb5.mono hb.size)⟩
      case measure => simp [intOf]; omega
    · go_wp2
      go_ret
      exact ⟨rfl, hb⟩
set_option maxHeartbeats 8000000 in
/-- two chains with the same fields -/
theorem chain_same {w : World} {A A' B B' : Option Addr} {a a' b b' : Nat} {c : Chn} (h : ChI w w.heap.size A a B b c) (h' : ChI w w.heap.size A' a' B' b' c) (hnm : c.nm ≤ 1000000) (hnd : c.nd ≤ 1000000) (hr : ∀ k, k < c.nm → (c.R k).2.1.length ≤ 1000000 ∧ (c.R k).2.2.length ≤ 1000000) :
    Calls Tryz.prog 15 #[cv c.st c.sr A c.nm a B c.nd b, cv c.st c.sr A' c.nm a' B' c.nd b'] w fun e w' => e = .returned (.bool true) ∧ Below w.heap.size w w' := by
  have HM := Lib.hid (fun W (hb : Below w.heap.size w W) => (h.below hb).mv.1)
  have HM' := Lib.hid (fun W (hb : Below w.heap.size w W) => (h'.below hb).mv.1)
  have KB := Lib.hid (fun W (hb : Below w.heap.size w W) => bools_same (c := b) (d := b') (f := c.D) (show MkI W B c.nd c.D from (h.below hb).dn) (show MkI W B' c.nd c.D from (h'.below hb).dn) hnd)
  have HR := Lib.hid hr
  have e1 : (c.st != c.st) = false := by simp
  have e2 : (c.sr != c.sr) = false := by simp
  have e3 : ((c.nm : Int) != (c.nm : Int)) = false := by simp
  obtain ⟨st, hst⟩ : ∃ st, st = c.st := ⟨_, rfl⟩
  obtain ⟨sr, hsr⟩ : ∃ sr, sr = c.sr := ⟨_, rfl⟩
  rw [← hst] at e1
  rw [← hsr] at e2
  rw [← hst, ← hsr]
  clear h h' hr hst hsr
  go_enter Tryz.func15, Tryz.ntmps15
  (go_wp2_with fail; (with_reducible refine (KB.out _ (by (skip); repeat' (first | (with_reducible exact Below.refl _ _) | (with_reducible assumption) | (with_reducible refine Below.alloc ?_ ?_ _) | (with_reducible refine Below.drew ?_) | (with_reducible refine below_drewN ?_ _) | (with_reducible refine Below.setCell ?_ ?_ _) | (with_reducible refine Below.trans ?_ (Below.mono (by with_reducible assumption) ?_)) | omega | (simp only [ZA, ZS, ZD, ZN]; omega) | go_size))).mono ?_); rintro e w1 ⟨rfl, hb1⟩; have hb1z := Below.size hb1; (try simp only [ZA, ZS, ZD, ZN] at hb1z); have hb1c0 := fun o => below_at hb1 (w.heap.size) o (by first | omega | (simp only [ZA, ZS, ZD, ZN]; omega)); have hb1f0 := fun o => below_fr hb1 (w.heap.size) o (by first | omega | (simp only [ZA, ZS, ZD, ZN]; omega)); have hb1c1 := fun o => below_at hb1 (w.heap.size + 1) o (by first | omega | (simp only [ZA, ZS, ZD, ZN]; omega)); have hb1f1 := fun o => below_fr hb1 (w.heap.size + 1) o (by first | omega | (simp only [ZA, ZS, ZD, ZN]; omega)))
  have y2 : w1.cell? ⟨w.heap.size, 2, none⟩ = some (.slice A c.nm a) := by rw [hb1c0, World.cell?_alloc_past _ _ _ (by simp), World.cell?_alloc_at _ _ _ _ rfl]; rfl
  have z2 : w1.cell? ⟨w.heap.size + 1, 2, none⟩ = some (.slice A' c.nm a') := by rw [hb1c1, World.cell?_alloc_at _ _ _ _ (by simp)]; rfl
  have hB1 : Below w.heap.size w w1 := (((Below.refl _ _).alloc (Nat.le_refl _) _).alloc (by simp) _).trans (hb1.mono (by simp; omega))
  have hz1 : w.heap.size + 1 < w1.heap.size := by omega
  have HB1 := Lib.hid hB1
  clear hb1 hb1c0 hb1c1 hb1f0 hb1f1 hB1 KB
  go_wp2
  go_loopw [38] (fun i wr => ∃ k : Nat, k ≤ c.nm ∧ i = .int .i64 (k : Int) ∧ Below w1.heap.size w1 wr) (fun i _ => c.nm - (intOf i).toNat)
  case atStart => exact ⟨0, Nat.zero_le _, rfl, Below.refl _ _⟩
  case round =>
    obtain ⟨k, hk, rfl, hb⟩ := hrel
    have hbw := HB1.out.trans (hb.mono HB1.out.size)
    by_cases hlt : k < c.nm
    · obtain ⟨bm, om, s1, A1, n1, c1, B1, m1, d1, rfl, hbm, g0, g1, g2, g3, g4, r1⟩ := (HM.out wr hbw).at_ hlt
      obtain ⟨bm', om', s1', A1', n1', c1', B1', m1', d1', rfl, hbm', g0', g1', g2', g3', g4', r1'⟩ := (HM'.out wr hbw).at_ hlt
      obtain ⟨h1, h2⟩ := HR.out k hlt
      have KR := Lib.hid (fun W (hb : Below wr.heap.size wr W) => rat_same (r1.kp (Kp.of_below hb)) (r1'.kp (Kp.of_below hb)) h1 h2)
      have q2 := (hb.cell (p := ⟨w.heap.size, 2, none⟩) (by show w.heap.size < _; omega)).trans y2
      have q2' := (hb.cell (p := ⟨w.heap.size + 1, 2, none⟩) hz1).trans z2
      generalize c.F k = f at *
      generalize c.T k = t at *
      have e4 : (f != f) = false := by simp
      have e5 : (t != t) = false := by simp
      have x0 := fun y : Sub wr => y.cell g0
      have x1 := fun y : Sub wr => y.cell g1
      have x2 := fun y : Sub wr => y.cell g2
      have x3 := fun y : Sub wr => y.cell g3
      have x4 := fun y : Sub wr => y.cell g4
      have x5 := fun y : Sub wr => y.cell g0'
      have x6 := fun y : Sub wr => y.cell g1'
      have x7 := fun y : Sub wr => y.cell g2'
      have x8 := fun y : Sub wr => y.cell g3'
      have x9 := fun y : Sub wr => y.cell g4'
      have u0 := fun y : Sub wr => y.cell q2
      have u1 := fun y : Sub wr => y.cell q2'
      have hk0 : (0 : Int) ≤ (k : Int) := by omega
      have hki : (k : Int) < (c.nm : Int) := by omega
      have HBB := Lib.hid hb
      clear g0 g1 g2 g3 g4 g0' g1' g2' g3' g4' q2 q2' r1 r1' h1 h2 hb hbw
      go_wp2
      ((refine wp_region_quiet_bel (by kernel_rfl) (by kernel_rfl) ?_); (repeat (go_big_quiet_step ((go_at_call 50; with_reducible exact Calls.quiet_bel (KR.out _ (Sub.bel _)))))); (refine wpQuiet_nil ?_); rintro w5 ⟨⟨_, hb5⟩, rfl⟩; (try dsimp only))
      go_wp2
      go_roundw
      case rel => exact ⟨k + 1, by omega, by go_num, HBB.out.trans (hb5.mono HBB.out.size)⟩
      case measure => simp [intOf]; omega
    · go_wp2
      go_ret
      exact ⟨rfl, hbw⟩
theorem Small.smS {c : Chn} (hS : Small c) : c.Ok → ∀ p k, k ≤ c.nm → ∀ i j, Sz 400 (smK c.f c.t c.q p k i j) := fun ok p k hk i j => (smK_sz (hS.rts ok) i j hk).more (by omega)
end Go.Proofs.YtlncafhgmbhocaaGreatDoor
namespace Go.Proofs.YtlncafhgmbhocaaGreatDoor
open Go.RowKit
set_option linter.unusedSimpArgs false
set_option linter.unusedVariables false
set_option maxRecDepth 20000
attribute [local irreducible] nv wp win plainB validR valR canR mvE chkM codeC smK alk badP nrm eqN eqZ blks memZ crsP itP rfn mcC movB rateB
/-! ## law51: awake -/
theorem mcC_en : mcC.nd = 4 := by with_unfolding_all rfl
theorem mcC_es : mcC.st = 4 := by with_unfolding_all rfl
theorem mcC_er : mcC.sr = 0 := by with_unfolding_all rfl
theorem mcC_em : mcC.nm = 8 := by with_unfolding_all rfl
theorem mcC_D (s : Nat) : mcC.D s = (s == 3) := by with_unfolding_all rfl
theorem mcC_c0 : mcC.code = 0 := Chn.ok_iff.2 mcC_ok
def mcDZ (i : Nat) : Int := ((mcD i : Nat) : Int)
def mcPZ (i : Nat) : Int := ((mcP i : Nat) : Int)
theorem mcDZ_lt : ∀ j, j < 4 → mcD j < 4 := fun j _ => by unfold mcD; split <;> omega
theorem mcPZ_lt : ∀ j, j < 4 → mcP j < 4 := fun j _ => by unfold mcP; (split <;> (try split)) <;> omega
theorem mc_codeL {P : Nat → Int} (h : ∀ j, j < 4 → 0 ≤ P j ∧ P j < 4) : mcC.codeL 4 P = 0 := Chn.codeL_z mcC_c0 mcC_en.symm (by rw [mcC_en]; exact inP_iff.2 h)
theorem mc_byd : ∀ i, i < 4 → bydF mcC.D i = mcD i := fun i hi => by
  unfold bydF mcD
  rw [mcC_D, mcC_D]
  rcases (show i = 0 ∨ i = 1 ∨ i = 2 ∨ i = 3 by omega) with rfl | rfl | rfl | rfl <;> rfl
theorem mc_cr {P : Nat → Int} (h : ∀ j, j < 4 → P j = mcDZ j) : ∀ i, i < 4 → crsP mcC.f mcC.t mcC.q mcC.nm mcC.nd (prt P) i = mcP i := fun i hi => by
  rw [mcC_f, mcC_t, mcC_qq, mcC_em, mcC_en]
  refine mc_crs (fun s hs => ?_) i hi
  unfold prt
  rw [h s hs]
  unfold mcDZ
  omega
/-- what awake sees of the quotient -/
def AwQ (w : World) (A : Option Addr) : Prop := ∃ b off s A1 n1 c1 B1 m1 d1, A = some ⟨b, off, none⟩ ∧ b < w.heap.size ∧ w.cell? ⟨b, off + 15 + 2, none⟩ = some (.bool s) ∧ w.cell? ⟨b, off + 15 + 3, none⟩ = some (.slice A1 n1 c1) ∧ w.cell? ⟨b, off + 15 + 4, none⟩ = some (.slice B1 m1 d1) ∧ RdS w w.heap.size (rv s A1 n1 c1 B1 m1 d1) (canR 10)
theorem mc_quo {P : Nat → Int} (h : ∀ j, j < 4 → P j = mcPZ j) : mcC.codeQ 4 P = 0 ∧ (mcC.quoE 4 P).st = 3 ∧ (mcC.quoE 4 P).nm = 4 ∧ (mcC.quoE 4 P).nd = 3 ∧ (mcC.quoE 4 P).R 3 = canR 10 := by
  have e : ∀ s, s < 4 → prt P s = mcP s := fun s hs => by
    unfold prt
    rw [h s hs]
    unfold mcPZ
    omega
  have hT : ∀ k, k < mcC.nm → mcC.t k < 4 := by rw [mcC_em, mcC_t]; exact mct_lt
  have h0 : mcC.codeL 4 P = 0 := mc_codeL fun j hj => by
    rw [h j hj]
    have := mcPZ_lt j hj
    unfold mcPZ
    omega
  have hst : StaB mcC.f mcC.t mcC.q mcC.nm mcC.nd (prt P) := by
    rw [mcC_en]
    refine StaB_congr hT (fun s hs => (e s hs).symm) ?_
    rw [mcC_f, mcC_t, mcC_qq, mcC_em]
    exact mc_sta
  have hone : mcC.oneD (prt P) := fun i hi => by
    rw [mcC_en] at hi
    have hf := firS_spec (relP_eqv (prt P)) i
    have h1 : mcP (firS (relP (prt P)) i) = mcP i := by
      rw [← e _ (by omega), ← e i hi]
      have h9 : (prt P (firS (relP (prt P)) i) == prt P i) = true := hf.2.1
      exact beq_iff_eq.1 h9
    rw [mcC_D, mcC_D]
    have h2 := hf.1
    generalize firS (relP (prt P)) i = j at *
    rcases (show i = 0 ∨ i = 1 ∨ i = 2 ∨ i = 3 by omega) with rfl | rfl | rfl | rfl <;> rcases (show j = 0 ∨ j = 1 ∨ j = 2 ∨ j = 3 by omega) with rfl | rfl | rfl | rfl <;> first | rfl | (exfalso; revert h1; decide)
  have hq := Chn.codeQ_z h0 hst hone
  have en : ∀ s, s < 4 → nrm (relP (prt P)) s = mcP s := fun s hs => (nrm_congr2 e s hs).trans (mc_nm s hs)
  have hb : blks mcC.nd (prt P) = 3 := by rw [mcC_en, blks_congr e]; exact mc_blk
  rw [Chn.quoE_0 hq]
  refine ⟨hq, ?_, ?_, hb, ?_⟩
  · show ((blks mcC.nd (prt P) : Nat) : Int) = 3
    rw [hb]; rfl
  · show quN mcC.f mcC.t mcC.q mcC.nm mcC.nd (nrm (relP (prt P))) (blks mcC.nd (prt P)) = 4
    rw [hb, mcC_en, quN_congr hT en, mcC_f, mcC_t, mcC_qq, mcC_em]
    unfold quN
    rw [mc_mov]
    rfl
  · show canR (quQ mcC.f mcC.t mcC.q mcC.nm mcC.nd (nrm (relP (prt P))) (blks mcC.nd (prt P)) 3) = canR 10
    rw [hb, mcC_en, quQ_congr hT en, mcC_f, mcC_t, mcC_qq, mcC_em]
    unfold quQ quF quT
    rw [mc_mov]
    show canR (rateB mcf mct mcq 8 4 mcP 2 1) = _
    rw [mc_rate]
set_option maxHeartbeats 8000000 in
theorem awake51_any (w : World) : Calls Tryz.prog 11 #[] w fun e w' => e = .returned (.bool true) ∧ Below w.heap.size w w' := by
  have KB : Hid (∀ W AM cm AD cd, ChI W W.heap.size AM cm AD cd mcC → Calls Tryz.prog 22 #[cv 4 0 AM 8 cm AD 4 cd] W fun e w' => (∃ A d, e = .returned (.tuple #[.slice A 4 d, .nilIface]) ∧ PaI w' A 4 mcDZ) ∧ Below W.heap.size W w') := by
    show ∀ _, _
    intro W AM cm AD cd h
    have := lByDown_any h mcC_small.chS
    rw [mcC_es, mcC_er, mcC_em, mcC_en, mcC_c0, lenC_0] at this
    exact this.mono fun e w' ⟨⟨A, d, e1, h1⟩, h2⟩ => ⟨⟨A, d, e1, h1.congr fun i hi => by rw [mc_byd i hi]; rfl⟩, h2⟩
  have KC : Hid (∀ W AM cm AD cd A d, ChI W W.heap.size AM cm AD cd mcC → PaI W A 4 mcDZ → Calls Tryz.prog 23 #[cv 4 0 AM 8 cm AD 4 cd, .slice A 4 d] W fun e w' => (∃ A d, e = .returned (.tuple #[.slice A 4 d, .nilIface]) ∧ PaI w' A 4 mcPZ) ∧ Below W.heap.size W w') := by
    show ∀ _, _
    intro W AM cm AD cd A d h hA
    have := lCoarsest_any (ca := d) h mcC_small.chS hA (by omega) mcC_small.smS
    rw [mc_codeL (P := mcDZ) (fun j hj => by have := mcDZ_lt j hj; unfold mcDZ; omega), lenC_0, mcC_es, mcC_er, mcC_em, mcC_en] at this
    exact this.mono fun e w' ⟨⟨A, d, e1, h1⟩, h2⟩ => ⟨⟨A, d, e1, h1.congr fun i hi => by
      have := mc_cr (P := mcDZ) (fun _ _ => rfl) i hi
      rw [mcC_em, mcC_en] at this
      rw [this]
      rfl⟩, h2⟩
  have KQ : Hid (∀ W AM cm AD cd A d, ChI W W.heap.size AM cm AD cd mcC → PaI W A 4 mcPZ → Calls Tryz.prog 12 #[cv 4 0 AM 8 cm AD 4 cd, .slice A 4 d] W fun e w' => (∃ sr A a B b, e = .returned (.tuple #[cv 3 sr A 4 a B 3 b, .nilIface]) ∧ AwQ w' A) ∧ Below W.heap.size W w') := by
    show ∀ _, _
    intro W AM cm AD cd A d h hA
    have := lQuotient_any (ca := d) h mcC_small.chS hA (by omega) mcC_small.smS
    obtain ⟨q0, q1, q2, q3, q4⟩ := mc_quo (P := mcPZ) fun _ _ => rfl
    rw [q0, mcC_es, mcC_er, mcC_em, mcC_en] at this
    refine this.mono fun e w' ⟨⟨A, a, B, b, e1, h1⟩, h2⟩ => ⟨⟨(mcC.quoE 4 mcPZ).sr, A, a, B, b, by rw [e1, q1, q2, q3, errM_0], ?_⟩, h2⟩
    obtain ⟨bm, om, s1, A1, n1, c1, B1, m1, d1, e, hbm, g0, g1, g2, g3, g4, r1⟩ := h1.mv.1.at_ (k := 3) (by rw [q2]; omega)
    rw [q4] at r1
    exact ⟨bm, om, s1, A1, n1, c1, B1, m1, d1, e, hbm, g2, g3, g4, r1⟩
  go_enter Tryz.func11, Tryz.ntmps11
  (go_wp2_with fail; (with_reducible refine (machines_any _).mono ?_); rintro e w1 ⟨⟨AM, cm, AD, cd, rfl, hch⟩, hb1⟩; have hb1z := Below.size hb1; (try simp only [ZA, ZS, ZD, ZN] at hb1z))
  have hB1 : Below w.heap.size w w1 := (by have z0 := Below.size hb1; (try simp only [ZA, ZS, ZD, ZN] at z0 ⊢; skip); repeat' (first | (with_reducible exact Below.refl _ _) | (with_reducible assumption) | (with_reducible refine Below.alloc ?_ ?_ _) | (with_reducible refine Below.drew ?_) | (with_reducible refine below_drewN ?_ _) | (with_reducible refine Below.setCell ?_ ?_ _) | (with_reducible refine Below.trans ?_ (Below.mono (by with_reducible assumption) ?_)) | omega | (simp only [ZA, ZS, ZD, ZN]; omega) | go_size))
  (go_wp2_with fail; (with_reducible refine (KB.out _ _ _ _ _ hch).mono ?_); rintro e w2 ⟨⟨A2, c2, rfl, p2⟩, hb2⟩; have hb2z := Below.size hb2; (try simp only [ZA, ZS, ZD, ZN] at hb2z))
  have hB2 := hB1.trans (hb2.mono hB1.size)
  clear hch
  (go_wp2_with fail; (with_reducible refine (machines_any _).mono ?_); rintro e w3 ⟨⟨AM3, cm3, AD3, cd3, rfl, hch3⟩, hb3⟩; have hb3z := Below.size hb3; (try simp only [ZA, ZS, ZD, ZN] at hb3z))
  have hB3 := hB2.trans (hb3.mono hB2.size)
  have p3 := p2.below hb3
  (go_wp2_with fail; (with_reducible refine (KC.out _ _ _ _ _ _ _ hch3 p3).mono ?_); rintro e w4 ⟨⟨A4, c4, rfl, p4⟩, hb4⟩; have hb4z := Below.size hb4; (try simp only [ZA, ZS, ZD, ZN] at hb4z))
  have hB4 := hB3.trans (hb4.mono hB3.size)
  have pE : PaI (w4.alloc (.cells #[.int .i64 0, .int .i64 1, .int .i64 1, .int .i64 2] 3)) (some ⟨w4.heap.size, 0, none⟩) 4 mcPZ := by
    refine ⟨by simp [zis], fun _ => ⟨w4.heap.size, 0, rfl, by simp, fun j u hu => ?_⟩⟩
    have hj : j < 4 := by
      have := (List.getElem?_eq_some_iff.1 hu).1
      rwa [zis_length] at this
    rw [zis_get hj] at hu
    rw [Nat.zero_add, World.cell?_alloc_at _ _ _ _ rfl, ← hu]
    rcases (show j = 0 ∨ j = 1 ∨ j = 2 ∨ j = 3 by omega) with rfl | rfl | rfl | rfl <;> rfl
  have h45 : Below w4.heap.size w4 (w4.alloc (.cells #[.int .i64 0, .int .i64 1, .int .i64 1, .int .i64 2] 3)) := (Below.refl _ _).alloc (Nat.le_refl _) _
  have KI := Lib.hid (ints_same (c := c4) (d := 4) (p4.below h45) pE (by omega))
  have P4 := Lib.hid p4
  have H45 := Lib.hid h45
  have HB4 := Lib.hid hB4
  clear p2 p3 p4 pE h45 hch3 KB KC hb1 hb2 hb3 hb4 hB1 hB2 hB3 hB4
  (go_wp2_with fail; (with_reducible refine (KI.out).mono ?_); rintro e w5 ⟨rfl, hb5⟩; have hb5z := Below.size hb5; (try simp only [ZA, ZS, ZD, ZN] at hb5z))
  have h5 : Below w4.heap.size w4 w5 := H45.out.trans (hb5.mono (by simp))
  have p5 := P4.out.below h5
  have hB5 := HB4.out.trans (h5.mono HB4.out.size)
  clear hb5
  (go_wp2_with fail; (with_reducible refine (machines_any _).mono ?_); rintro e w6 ⟨⟨AM6, cm6, AD6, cd6, rfl, hch6⟩, hb6⟩; have hb6z := Below.size hb6; (try simp only [ZA, ZS, ZD, ZN] at hb6z))
  have hB6 := hB5.trans (hb6.mono hB5.size)
  have p6 := p5.below hb6
  (go_wp2_with fail; (with_reducible refine (KQ.out _ _ _ _ _ _ _ hch6 p6).mono ?_); rintro e w7 ⟨⟨sr, A7, a7, B7, b7, rfl, aw⟩, hb7⟩; have hb7z := Below.size hb7; (try simp only [ZA, ZS, ZD, ZN] at hb7z))
  have HB7 := Lib.hid (hB6.trans (hb7.mono hB6.size))
  clear hb7 hb6 hB5 hB6 p5 p6 hch6 h5
  obtain ⟨bm, om, s1, A1, n1, c1, B1, m1, d1, rfl, hbm, g0, g1, g2, r1⟩ := aw
  have h78 : Below w7.heap.size w7 (w7.alloc (.cells #[.int .i64 3, .int .i64 sr, .slice (some ⟨bm, om, none⟩) 4 a7, .slice B7 3 b7] 25)) := (Below.refl _ _).alloc (Nat.le_refl _) _
  have KT := Lib.hid (ex_text10 ((r1.kp (Kp.of_below h78)).rdr))
  (have ooc := fun o i => below_at ((Below.refl w7.heap.size w7).alloc (Nat.le_refl _) o) (bm) i (by omega)); (have oof := fun o i => below_fr ((Below.refl w7.heap.size w7).alloc (Nat.le_refl _) o) (bm) i (by omega))
  clear r1
  (go_wp2_with fail; (with_reducible refine (KT.out).mono ?_); rintro e w8 ⟨rfl, hb8⟩; have hb8z := Below.size hb8; (try simp only [ZA, ZS, ZD, ZN] at hb8z))
  go_wp2
  go_ret
  have := HB7.out
  exact ⟨rfl, (by have z0 := Below.size this; have z1 := Below.size hb8; (try simp only [ZA, ZS, ZD, ZN] at z0 z1 ⊢; skip); repeat' (first | (with_reducible exact Below.refl _ _) | (with_reducible assumption) | (with_reducible refine Below.alloc ?_ ?_ _) | (with_reducible refine Below.drew ?_) | (with_reducible refine below_drewN ?_ _) | (with_reducible refine Below.setCell ?_ ?_ _) | (with_reducible refine Below.trans ?_ (Below.mono (by with_reducible assumption) ?_)) | omega | (simp only [ZA, ZS, ZD, ZN]; omega) | go_size))⟩
end Go.Proofs.YtlncafhgmbhocaaGreatDoor
