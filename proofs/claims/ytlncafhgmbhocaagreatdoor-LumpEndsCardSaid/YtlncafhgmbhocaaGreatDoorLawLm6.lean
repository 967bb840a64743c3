/- Contracts of functions and lemmas, used by the proofs of the given statements. No condition beyond those that each lemma names. -/
import Derived.Test.YtlncafhgmbhocaaGreatDoorJLawLm0
namespace Go.Proofs.YtlncafhgmbhocaaGreatDoor
open Go.RowKit
set_option linter.unusedSimpArgs false
set_option linter.unusedVariables false
set_option maxRecDepth 20000
attribute [local irreducible] nv wp win plainB validR valR canR mvE chkM codeC smK alk badP nrm eqN eqZ blks memZ crsP itP rfn movB rateB bydF Chn.crD
/-! ## LumpEnds -/
/-- ByDown, Coarsest, Quotient, one behind the other -/
theorem byd_ok {w : World} {AM AD : Option Addr} {cm cd : Nat} {c : Chn} (h : ChI w w.heap.size AM cm AD cd c) (hs : ChS c 400) (ok : c.Ok) :
    Calls Tryz.prog 22 #[cv c.st c.sr AM c.nm cm AD c.nd cd] w fun e w' => (∃ A d, e = .returned (.tuple #[.slice A c.nd d, .nilIface]) ∧ PaI w' A c.nd (fun i => ((bydF c.D i : Nat) : Int))) ∧ Below w.heap.size w w' := by
  have := lByDown_any h hs
  rw [Chn.ok_iff.2 ok, lenC_0] at this
  exact this
theorem codeL_byd {c : Chn} (ok : c.Ok) : c.codeL c.nd (fun i => ((bydF c.D i : Nat) : Int)) = 0 := Chn.codeL_z (Chn.ok_iff.2 ok) rfl (inP_iff.2 fun j hj => by have := byd_lt ok.lo j hj; omega)
theorem codeL_crD {c : Chn} (ok : c.Ok) : c.codeL c.nd (fun i => ((c.crD i : Nat) : Int)) = 0 := Chn.codeL_z (Chn.ok_iff.2 ok) rfl (inP_iff.2 fun j hj => by have := Chn.crD_lt ok j hj; omega)
theorem crs_ok {w : World} {AM AD A : Option Addr} {cm cd d : Nat} {c : Chn} (h : ChI w w.heap.size AM cm AD cd c) (hs : ChS c 400) (hsm : c.Ok → ∀ p k, k ≤ c.nm → ∀ i j, Sz 400 (smK c.f c.t c.q p k i j)) (ok : c.Ok) (hA : PaI w A c.nd (fun i => ((bydF c.D i : Nat) : Int))) :
    Calls Tryz.prog 23 #[cv c.st c.sr AM c.nm cm AD c.nd cd, .slice A c.nd d] w fun e w' => (∃ A d, e = .returned (.tuple #[.slice A c.nd d, .nilIface]) ∧ PaI w' A c.nd (fun i => ((c.crD i : Nat) : Int))) ∧ Below w.heap.size w w' := by
  have hn := ok.hi
  have := lCoarsest_any (ca := d) h hs hA (by omega) hsm
  rw [codeL_byd ok, lenC_0, prt_cast] at this
  unfold Chn.crD
  exact this
theorem quo_ok {w : World} {AM AD A : Option Addr} {cm cd d : Nat} {c : Chn} (h : ChI w w.heap.size AM cm AD cd c) (hs : ChS c 400) (hsm : c.Ok → ∀ p k, k ≤ c.nm → ∀ i j, Sz 400 (smK c.f c.t c.q p k i j)) (ok : c.Ok) (hA : PaI w A c.nd (fun i => ((c.crD i : Nat) : Int))) :
    Calls Tryz.prog 12 #[cv c.st c.sr AM c.nm cm AD c.nd cd, .slice A c.nd d] w fun e w' => AnsC errM 0 (c.quo c.crD) e w' ∧ Below w.heap.size w w' := by
  have hn := ok.hi
  have := lQuotient_any (ca := d) h hs hA (by omega) hsm
  have hq : c.codeQ c.nd (fun i => ((c.crD i : Nat) : Int)) = 0 := Chn.codeQ_z (codeL_crD ok) (by rw [prt_cast]; exact Chn.crD_sta ok) (by rw [prt_cast]; exact Chn.crD_one ok)
  rw [Chn.quoE_0 hq, hq, prt_cast] at this
  exact this
set_option maxHeartbeats 16000000 in
theorem lumpEnds_law {w : World} {AM AD : Option Addr} {cm cd : Nat} {c : Chn} (h : ChI w w.heap.size AM cm AD cd c) :
    Calls Tryz.prog 5 #[cv c.st c.sr AM c.nm cm AD c.nd cd] w fun e w' => e = .returned (.bool true) ∧ Below w.heap.size w w' := by
  have KF := Lib.hid (fun W (hb : Below w.heap.size w W) => few_any (h.below hb))
  have HI := Lib.hid (fun W (hb : Below w.heap.size w W) => h.below hb)
  have HSm := Lib.hid (fun (hf : FewP c) => hf.small h)
  have KE := Lib.hid (fun W (hb : Below w.heap.size w W) (hf : FewP c) => rchCheck (h.below hb) (hf.small h).chS.nm (hf.small h).chS.short)
  have hbA : Below w.heap.size w (w.alloc (.cells #[.int .i64 c.st, .int .i64 c.sr, .slice AM c.nm cm, .slice AD c.nd cd] 25)) := (Below.refl _ _).alloc (Nat.le_refl _) _
  have HBA := Lib.hid hbA
  clear h hbA
  go_enter Tryz.func5, Tryz.ntmps5
  (go_wp2_with fail; (with_reducible refine (KF.out _ HBA.out).mono ?_); rintro e w1 ⟨⟨bb, rfl, hbb⟩, hb1⟩; have hb1z := Below.size hb1; (try simp only [ZA, ZS, ZD, ZN] at hb1z); have hb1c0 := fun o => below_at hb1 (w.heap.size) o (by first | omega | (simp only [ZA, ZS, ZD, ZN]; omega)); have hb1f0 := fun o => below_fr hb1 (w.heap.size) o (by first | omega | (simp only [ZA, ZS, ZD, ZN]; omega)))
  have hB1 : Below w.heap.size w w1 := HBA.out.trans (hb1.mono (by simp))
  have hw1 : w.heap.size < w1.heap.size := by omega
  cases bb with
  | false =>
    clear hbb
    (go_wp2_with fail; (with_reducible refine (awake51_any _).mono ?_); rintro e w2 ⟨rfl, hb2⟩; have hb2z := Below.size hb2; (try simp only [ZA, ZS, ZD, ZN] at hb2z))
    go_wp2
    go_ret
    exact ⟨rfl, hB1.trans (hb2.mono hB1.size)⟩
  | true =>
    have HF := Lib.hid (hbb rfl)
    clear hbb
    have KE2 := Lib.hid (fun W hb => KE.out W hb HF.out)
    obtain ⟨cc, hcc⟩ : ∃ cc, cc = c.code := ⟨_, rfl⟩
    rw [← hcc] at KE2
    have HCC := Lib.hid hcc
    clear hcc KE
    by_cases h0 : cc = 0
    · subst h0
      have ok : c.Ok := Chn.ok_iff.1 HCC.out.symm
      have hS := HSm.out HF.out
      have KB : Hid (∀ W, Below w.heap.size w W → Calls Tryz.prog 22 #[cv c.st c.sr AM c.nm cm AD c.nd cd] W fun e w' => (∃ A d, e = .returned (.tuple #[.slice A c.nd d, .nilIface]) ∧ PaI w' A c.nd (fun i => ((bydF c.D i : Nat) : Int))) ∧ Below W.heap.size W w') := fun W hb => byd_ok (HI.out W hb) hS.chS ok
      have KC : Hid (∀ W A d, Below w.heap.size w W → PaI W A c.nd (fun i => ((bydF c.D i : Nat) : Int)) → Calls Tryz.prog 23 #[cv c.st c.sr AM c.nm cm AD c.nd cd, .slice A c.nd d] W fun e w' => (∃ A d, e = .returned (.tuple #[.slice A c.nd d, .nilIface]) ∧ PaI w' A c.nd (fun i => ((c.crD i : Nat) : Int))) ∧ Below W.heap.size W w') := fun W A d hb hA => crs_ok (HI.out W hb) hS.chS hS.smS ok hA
      have KQ : Hid (∀ W A d, Below w.heap.size w W → PaI W A c.nd (fun i => ((c.crD i : Nat) : Int)) → Calls Tryz.prog 12 #[cv c.st c.sr AM c.nm cm AD c.nd cd, .slice A c.nd d] W fun e w' => AnsC errM 0 (c.quo c.crD) e w' ∧ Below W.heap.size W w') := fun W A d hb hA => quo_ok (HI.out W hb) hS.chS hS.smS ok hA
      obtain ⟨X, hX⟩ : ∃ X, X = c.quo c.crD := ⟨_, rfl⟩
      have hXo : X.Ok := by rw [hX]; exact Chn.quo_ok ok _
      have hXs : ChS X 400 := by rw [hX]; exact hS.quo_chS ok _
      have hXm : X.Ok → ∀ r k, k ≤ X.nm → ∀ i j, Sz 400 (smK X.f X.t X.q r k i j) := by rw [hX]; exact hS.quo_smS ok _
      have HLAST : Hid (∀ i, i < X.nd → X.crD i = i) := by rw [hX]; exact Chn.ends_last ok
      have hXst : X.st = (X.nd : Int) := hXo.st
      have KB2 : Hid (∀ W A a B b, ChI W W.heap.size A a B b X → Calls Tryz.prog 22 #[cv X.st X.sr A X.nm a B X.nd b] W fun e w' => (∃ A d, e = .returned (.tuple #[.slice A X.nd d, .nilIface]) ∧ PaI w' A X.nd (fun i => ((bydF X.D i : Nat) : Int))) ∧ Below W.heap.size W w') := fun W A a B b hi => byd_ok hi hXs hXo
      have KC2 : Hid (∀ W A a B b P d, ChI W W.heap.size A a B b X → PaI W P X.nd (fun i => ((bydF X.D i : Nat) : Int)) → Calls Tryz.prog 23 #[cv X.st X.sr A X.nm a B X.nd b, .slice P X.nd d] W fun e w' => (∃ A d, e = .returned (.tuple #[.slice A X.nd d, .nilIface]) ∧ PaI w' A X.nd (fun i => (i : Int))) ∧ Below W.heap.size W w') := fun W A a B b P d hi hA => (crs_ok hi hXs hXm hXo hA).mono fun e w' ⟨⟨A, d, e1, h1⟩, h2⟩ => ⟨⟨A, d, e1, h1.congr fun i hi => by rw [HLAST.out i hi]⟩, h2⟩
      rw [← hX] at KQ
      have hxn : X.nd ≤ 256 := hXo.hi
      have hst := ok.st
      rw [hXst] at KB2 KC2
      have eX : ((X.nd : Int) != (X.nd : Int)) = false := by simp
      clear hX hXo hXs hXm ok hS HSm HF HCC HI KF hst
      (go_wp2_with fail; (with_reducible refine (KE2.out _ hB1).mono ?_); rintro e w2 ⟨rfl, hb2⟩; have hb2z := Below.size hb2; (try simp only [ZA, ZS, ZD, ZN] at hb2z); have hb2c0 := fun o => below_at hb2 (w.heap.size) o (by first | omega | (simp only [ZA, ZS, ZD, ZN]; omega)); have hb2f0 := fun o => below_fr hb2 (w.heap.size) o (by first | omega | (simp only [ZA, ZS, ZD, ZN]; omega)))
      have hB2 : Below w.heap.size w w2 := hB1.trans (hb2.mono hB1.size)
      (go_wp2_with fail; (with_reducible refine (awake51_any _).mono ?_); rintro e w3 ⟨rfl, hb3⟩; have hb3z := Below.size hb3; (try simp only [ZA, ZS, ZD, ZN] at hb3z); have hb3c0 := fun o => below_at hb3 (w.heap.size) o (by first | omega | (simp only [ZA, ZS, ZD, ZN]; omega)); have hb3f0 := fun o => below_fr hb3 (w.heap.size) o (by first | omega | (simp only [ZA, ZS, ZD, ZN]; omega)))
      have hB3 : Below w.heap.size w w3 := hB2.trans (hb3.mono hB2.size)
      (go_wp2_with fail; (with_reducible refine (KB.out _ hB3).mono ?_); rintro e w4 ⟨⟨A4, c4, rfl, r4⟩, hb4⟩; have hb4z := Below.size hb4; (try simp only [ZA, ZS, ZD, ZN] at hb4z); have hb4c0 := fun o => below_at hb4 (w.heap.size) o (by first | omega | (simp only [ZA, ZS, ZD, ZN]; omega)); have hb4f0 := fun o => below_fr hb4 (w.heap.size) o (by first | omega | (simp only [ZA, ZS, ZD, ZN]; omega)))
      have hB4 : Below w.heap.size w w4 := hB3.trans (hb4.mono hB3.size)
      (go_wp2_with fail; (with_reducible refine (KC.out _ _ _ hB4 r4).mono ?_); rintro e w5 ⟨⟨A5, c5, rfl, r5⟩, hb5⟩; have hb5z := Below.size hb5; (try simp only [ZA, ZS, ZD, ZN] at hb5z); have hb5c0 := fun o => below_at hb5 (w.heap.size) o (by first | omega | (simp only [ZA, ZS, ZD, ZN]; omega)); have hb5f0 := fun o => below_fr hb5 (w.heap.size) o (by first | omega | (simp only [ZA, ZS, ZD, ZN]; omega)))
      have hB5 : Below w.heap.size w w5 := hB4.trans (hb5.mono hB4.size)
      (go_wp2_with fail; (with_reducible refine (KQ.out _ _ _ hB5 r5).mono ?_); rintro e w6 ⟨⟨A6, a6, B6, b6, rfl, i6⟩, hb6⟩; have hb6z := Below.size hb6; (try simp only [ZA, ZS, ZD, ZN] at hb6z))
      rw [errM_0]
      have hB6 : Below w.heap.size w w6 := hB5.trans (hb6.mono hB5.size)
      have h67 : Below w6.heap.size w6 (w6.alloc (.cells #[.int .i64 X.st, .int .i64 X.sr, .slice A6 X.nm a6, .slice B6 X.nd b6] 25)) := (Below.refl _ _).alloc (Nat.le_refl _) _
      have HI6 := Lib.hid (fun W (hb : Below w6.heap.size w6 W) => i6.below hb)
      have H67 := Lib.hid h67
      have HB6 := Lib.hid hB6
      rw [hXst] at *
      clear i6 h67 hB6 hB5 hB4 hB3 hB2 hB1 hb1 hb2 hb3 hb4 hb5 hb6 r4 r5 KB KC KQ KE2
      (go_wp2_with fail; (with_reducible refine (KB2.out _ _ _ _ _ (HI6.out _ H67.out)).mono ?_); rintro e w7 ⟨⟨A7, c7, rfl, r7⟩, hb7⟩; have hb7z := Below.size hb7; (try simp only [ZA, ZS, ZD, ZN] at hb7z); have hb7c0 := fun o => below_at hb7 (w6.heap.size) o (by first | omega | (simp only [ZA, ZS, ZD, ZN]; omega)); have hb7f0 := fun o => below_fr hb7 (w6.heap.size) o (by first | omega | (simp only [ZA, ZS, ZD, ZN]; omega)))
      have h67 : Below w6.heap.size w6 w7 := H67.out.trans (hb7.mono (by simp))
      have H67' := Lib.hid h67
      have q0 : w7.cell? ⟨w6.heap.size, 0, none⟩ = some (.int .i64 (X.nd : Int)) := by rw [hb7c0]; simp
      (go_wp2_with fail; (with_reducible refine (KC2.out _ _ _ _ _ _ _ (HI6.out _ H67'.out) r7).mono ?_); rintro e w8 ⟨⟨A8, c8, rfl, r8⟩, hb8⟩; have hb8z := Below.size hb8; (try simp only [ZA, ZS, ZD, ZN] at hb8z); have hb8c0 := fun o => below_at hb8 (w6.heap.size) o (by first | omega | (simp only [ZA, ZS, ZD, ZN]; omega)); have hb8f0 := fun o => below_fr hb8 (w6.heap.size) o (by first | omega | (simp only [ZA, ZS, ZD, ZN]; omega)))
      have HB8 := Lib.hid (HB6.out.trans ((h67.trans (hb8.mono h67.size)).mono HB6.out.size))
      have R8 := Lib.hid r8
      clear hb7 hb8 h67 r7 r8 KB2 KC2 hb7c0
      go_wp2
      go_loopw [75] (fun i wr => ∃ k : Nat, k ≤ X.nd ∧ i = .int .i64 (k : Int) ∧ Below w8.heap.size w8 wr) (fun i _ => X.nd - (intOf i).toNat)
      case atStart => exact ⟨0, Nat.zero_le _, rfl, Below.refl _ _⟩
      case round =>
        obtain ⟨k, hk, rfl, hb⟩ := hrel
        by_cases hlt : k < X.nd
        · obtain ⟨b9, o9, rfl, -, x1⟩ := R8.out.later hb hlt
          have hki : (k : Int) < (X.nd : Int) := by omega
          have hk0 : (0 : Int) ≤ (k : Int) := by omega
          have e1 : ((k : Int) != (k : Int)) = false := by simp
          go_wp2
          go_roundw
          case rel => exact ⟨k + 1, by omega, by go_num, hb⟩
          case measure => simp [intOf]; omega
        · go_wp2
          go_ret
          exact ⟨rfl, HB8.out.trans (hb.mono HB8.out.size)⟩
    · have e1 : (cc != 0) = true := by simpa using h0
      (go_wp2_with fail; (with_reducible refine (KE2.out _ hB1).mono ?_); rintro e w2 ⟨rfl, hb2⟩; have hb2z := Below.size hb2; (try simp only [ZA, ZS, ZD, ZN] at hb2z))
      (go_wp2_with fail; (with_reducible refine (awake51_any _).mono ?_); rintro e w3 ⟨rfl, hb3⟩; have hb3z := Below.size hb3; (try simp only [ZA, ZS, ZD, ZN] at hb3z))
      go_wp2
      go_ret
      exact ⟨rfl, (by have z0 := Below.size hB1; have z1 := Below.size hb2; have z2 := Below.size hb3; (try simp only [ZA, ZS, ZD, ZN] at z0 z1 z2 ⊢; skip); repeat' (first | (with_reducible exact Below.refl _ _) | (with_reducible assumption) | (with_reducible refine Below.alloc ?_ ?_ _) | (with_reducible refine Below.drew ?_) | (with_reducible refine below_drewN ?_ _) | (with_reducible refine Below.setCell ?_ ?_ _) | (with_reducible refine Below.trans ?_ (Below.mono (by with_reducible assumption) ?_)) | omega | (simp only [ZA, ZS, ZD, ZN]; omega) | go_size))⟩
end Go.Proofs.YtlncafhgmbhocaaGreatDoor
