/- Contracts of functions and lemmas, used by the proofs of the given statements. No condition beyond those that each lemma names. -/
import Derived.Test.YtlncafhgmbhocaaGreatDoorJAbQ
import Derived.Test.YtlncafhgmbhocaaGreatDoorJOpenNum
namespace Go.Proofs.YtlncafhgmbhocaaGreatDoor
open Go.RowKit
set_option linter.unusedSimpArgs false
set_option linter.unusedVariables false
set_option maxRecDepth 20000
attribute [local irreducible] nv wp win plainB validR valR canR mvE chkM codeC exK maxF
/-! ## package transient: run -/
def Chn.codeN (c : Chn) (r : Rw) (n : Int) : Int := if c.codeR r ≠ 0 then c.codeR r else if n < 0 ∨ 48 < n then 3 else 0
/-- the distribution after k steps -/
def Chn.run (c : Chn) (ab : Bool) (r : Rat) : Nat → Nat → Rat := runV (c.act ab) c.f c.t c.q r c.nm c.v0
theorem MatO.one {w : World} {b n c : Nat} {A : Option Addr} {M : Nat → Nat → Rat} (h : OwR w b A c n (can (M 0))) (hb : b ≤ w.heap.size) :
    MatO (w.alloc (.cells #[.slice A n c] 41)) b (some ⟨w.heap.size, 0, none⟩) 1 1 (fun _ => n) M := by
  refine ⟨fun _ => A, fun _ => c, ?_, fun j hj => ?_⟩
  · exact World.ownsRow_lit w #[.slice A n c] 1 hb (by unfold maxLen; omega) (by simp)
  · rw [show j = 0 by omega]; exact h.alloc _
def RetRun (b m nd : Nat) (X : Nat → Nat → Rat) (code : Int) (e : Ending) (w' : World) : Prop := if code = 0 then ∃ A c, e = .returned (.tuple #[.slice A (m + 1) c, .nilIface]) ∧ MatO w' b A c (m + 1) (fun _ => nd) X else e = .returned (.tuple #[.slice none 0 0, errM code])
theorem retRun_0 {b m nd : Nat} {X : Nat → Nat → Rat} {code : Int} {A : Option Addr} {c : Nat} {w' : World} (h : code = 0) (hr : MatO w' b A c (m + 1) (fun _ => nd) X) : RetRun b m nd X code (.returned (.tuple #[.slice A (m + 1) c, .nilIface])) w' := by
  unfold RetRun; rw [if_pos h]; exact ⟨A, c, rfl, hr⟩
theorem retRun_n {b m nd : Nat} {X : Nat → Nat → Rat} {code : Int} {w' : World} {z : Value} (h : code ≠ 0) (hz : errM code = z) : RetRun b m nd X code (.returned (.tuple #[.slice none 0 0, z])) w' := by
  unfold RetRun; rw [if_neg h, hz]
set_option maxHeartbeats 4000000 in
theorem run_any {w : World} {AM AD : Option Addr} {cm cd L : Nat} {c : Chn} {v : Value} {r : Rw} {n : Int} (ab : Bool) (h : ChI w w.heap.size AM cm AD cd c) (hs : ChS c L) (hr : RdS w w.heap.size v r) (hr1 : r.2.1.length ≤ 4) (hr2 : r.2.2.length ≤ 4)
    (hst : c.codeN r n = 0 → ∀ k : Nat, (k : Int) < n → StS c (valR r) (c.run ab (valR r) k) L) :
    Calls Tryz.prog 74 #[cv c.st c.sr AM c.nm cm AD c.nd cd, v, .int .i64 n, .bool ab] w fun e w' => RetRun (w.heap.size + 2) n.toNat c.nd (c.run ab (valR r)) (c.codeN r n) e w' ∧ Below w.heap.size w w' := by
  have K1 := Lib.hid (fun W (hb : Below w.heap.size w W) => check_tr (h.below hb) hs ((hr.kp (Kp.of_below hb)).base hb.size) hr1 hr2)
  have K2 := Lib.hid (fun W (hb : Below w.heap.size w W) => start_any (h.below hb) hs)
  have hT : c.codeN r n = if c.codeR r ≠ 0 then c.codeR r else if n < 0 ∨ 48 < n then 3 else 0 := rfl
  have hR0 := Chn.codeR_0 (c := c) (r := r)
  have hok := Chn.ok_iff (c := c)
  obtain ⟨cr, hcr⟩ : ∃ cr, cr = c.codeR r := ⟨_, rfl⟩
  obtain ⟨ct, hct⟩ : ∃ ct, ct = c.codeN r n := ⟨_, rfl⟩
  obtain ⟨X, hX⟩ : ∃ X, X = c.run ab (valR r) := ⟨_, rfl⟩
  rw [← hcr] at K1 hT hR0
  rw [← hct] at hT hst ⊢
  rw [← hX] at hst ⊢
  obtain ⟨s0, A0, n0, c0, B0, m0, d0, rfl⟩ := hr.form
  by_cases h0 : cr = 0
  · obtain ⟨k1, k2, k3⟩ := hR0 h0
    have ok := hok.1 k1
    rw [if_neg (by omega)] at hT
    rw [h0, errM_0] at K1
    by_cases h1 : n < 0 ∨ 48 < n
    · rw [if_pos h1] at hT
      have HT := Lib.hid hT
      by_cases h2 : n < 0
      · have e1 : decide (n < 0) = true := by simpa using h2
        clear hT hR0 hok hcr hct hX k1 k2 k3 ok h0 h1 h2 h hs hr hst K2
        obtain ⟨st, sr, nm, F, T, R', nd, D⟩ := c
        simp only at *
        go_enter Tryz.func74, Tryz.ntmps74
        (go_wp2_with fail; (with_reducible refine (K1.out _ (by (skip); repeat' (first | (with_reducible exact Below.refl _ _) | (with_reducible assumption) | (with_reducible refine Below.alloc ?_ ?_ _) | (with_reducible refine Below.drew ?_) | (with_reducible refine below_drewN ?_ _) | (with_reducible refine Below.setCell ?_ ?_ _) | (with_reducible refine Below.trans ?_ (Below.mono (by with_reducible assumption) ?_)) | omega | (simp only [ZA, ZS, ZD, ZN]; omega) | go_size))).mono ?_); rintro e w1 ⟨rfl, hb1⟩; have hb1z := Below.size hb1; (try simp only [ZA, ZS, ZD, ZN] at hb1z); have hb1c0 := fun o => below_at hb1 (w.heap.size) o (by first | omega | (simp only [ZA, ZS, ZD, ZN]; omega)); have hb1f0 := fun o => below_fr hb1 (w.heap.size) o (by first | omega | (simp only [ZA, ZS, ZD, ZN]; omega)); have hb1c1 := fun o => below_at hb1 (w.heap.size + 1) o (by first | omega | (simp only [ZA, ZS, ZD, ZN]; omega)); have hb1f1 := fun o => below_fr hb1 (w.heap.size + 1) o (by first | omega | (simp only [ZA, ZS, ZD, ZN]; omega)))
        go_wp2
        go_ret2
        exact ⟨retRun_n (by rw [HT.out]; decide) (by rw [HT.out]; rfl), (by have z0 := Below.size hb1; (try simp only [ZA, ZS, ZD, ZN] at z0 ⊢; skip); repeat' (first | (with_reducible exact Below.refl _ _) | (with_reducible assumption) | (with_reducible refine Below.alloc ?_ ?_ _) | (with_reducible refine Below.drew ?_) | (with_reducible refine below_drewN ?_ _) | (with_reducible refine Below.setCell ?_ ?_ _) | (with_reducible refine Below.trans ?_ (Below.mono (by with_reducible assumption) ?_)) | omega | (simp only [ZA, ZS, ZD, ZN]; omega) | go_size))⟩
      · have e1 : decide (n < 0) = false := by simpa using h2
        have e2 : decide (48 < n) = true := by simp; omega
        clear hT hR0 hok hcr hct hX k1 k2 k3 ok h0 h1 h2 h hs hr hst K2
        obtain ⟨st, sr, nm, F, T, R', nd, D⟩ := c
        simp only at *
        go_enter Tryz.func74, Tryz.ntmps74
        (go_wp2_with fail; (with_reducible refine (K1.out _ (by (skip); repeat' (first | (with_reducible exact Below.refl _ _) | (with_reducible assumption) | (with_reducible refine Below.alloc ?_ ?_ _) | (with_reducible refine Below.drew ?_) | (with_reducible refine below_drewN ?_ _) | (with_reducible refine Below.setCell ?_ ?_ _) | (with_reducible refine Below.trans ?_ (Below.mono (by with_reducible assumption) ?_)) | omega | (simp only [ZA, ZS, ZD, ZN]; omega) | go_size))).mono ?_); rintro e w1 ⟨rfl, hb1⟩; have hb1z := Below.size hb1; (try simp only [ZA, ZS, ZD, ZN] at hb1z); have hb1c0 := fun o => below_at hb1 (w.heap.size) o (by first | omega | (simp only [ZA, ZS, ZD, ZN]; omega)); have hb1f0 := fun o => below_fr hb1 (w.heap.size) o (by first | omega | (simp only [ZA, ZS, ZD, ZN]; omega)); have hb1c1 := fun o => below_at hb1 (w.heap.size + 1) o (by first | omega | (simp only [ZA, ZS, ZD, ZN]; omega)); have hb1f1 := fun o => below_fr hb1 (w.heap.size + 1) o (by first | omega | (simp only [ZA, ZS, ZD, ZN]; omega)))
        go_wp2
        go_ret2
        exact ⟨retRun_n (by rw [HT.out]; decide) (by rw [HT.out]; rfl), (by have z0 := Below.size hb1; (try simp only [ZA, ZS, ZD, ZN] at z0 ⊢; skip); repeat' (first | (with_reducible exact Below.refl _ _) | (with_reducible assumption) | (with_reducible refine Below.alloc ?_ ?_ _) | (with_reducible refine Below.drew ?_) | (with_reducible refine below_drewN ?_ _) | (with_reducible refine Below.setCell ?_ ?_ _) | (with_reducible refine Below.trans ?_ (Below.mono (by with_reducible assumption) ?_)) | omega | (simp only [ZA, ZS, ZD, ZN]; omega) | go_size))⟩
    · rw [if_neg h1] at hT
      have e1 : decide (n < 0) = false := by simp; omega
      have e2 : decide (48 < n) = false := by simp; omega
      obtain ⟨m, rfl⟩ : ∃ m : Nat, n = (m : Int) := ⟨n.toNat, by omega⟩
      have hm : m ≤ 48 := by omega
      have hst3 := hst hT
      have hrc : RdS w w.heap.size (rv s0 A0 n0 c0 B0 m0 d0) (canR (valR r)) := by rw [valR_pos_can hr.ok k2]; exact hr
      have K3 : Hid (∀ W (k : Nat) AV ca, k < m → Below w.heap.size w W → w.heap.size + 2 ≤ W.heap.size → OwR W (w.heap.size + 2) AV ca c.nd (can (X k)) → Calls Tryz.prog 103 #[cv c.st c.sr AM c.nm cm AD c.nd cd, rv s0 A0 n0 c0 B0 m0 d0, .slice AV c.nd ca, .bool ab] W fun e w' => RetF (w.heap.size + 2) W.heap.size c.nd (X (k + 1)) e w' ∧ Below W.heap.size W w') := by
        show ∀ _, _
        intro W k AV ca hk hb hw9 hv
        have := step_any (ca := ca) ab (h.below hb) ok ((hrc.kp (Kp.of_below hb)).base hb.size) (fun e => by rw [e] at k2; exact absurd k2 (by decide)) hv.ra hw9 (hst3 k (by omega))
        rw [hX] at this ⊢
        exact this
      rw [k1] at K2
      have hX0 : c.v0 = X 0 := by rw [hX]; rfl
      rw [hX0] at K2
      have HT := Lib.hid hT
      rw [Int.toNat_natCast]
      clear hT hR0 hok hcr hct hX k1 k2 k3 ok h0 h1 h hs hr hst hst3 hrc hX0
      obtain ⟨st, sr, nm, F, T, R', nd, D⟩ := c
      simp only at *
      go_enter Tryz.func74, Tryz.ntmps74
      (go_wp2_with fail; (with_reducible refine (K1.out _ (by (skip); repeat' (first | (with_reducible exact Below.refl _ _) | (with_reducible assumption) | (with_reducible refine Below.alloc ?_ ?_ _) | (with_reducible refine Below.drew ?_) | (with_reducible refine below_drewN ?_ _) | (with_reducible refine Below.setCell ?_ ?_ _) | (with_reducible refine Below.trans ?_ (Below.mono (by with_reducible assumption) ?_)) | omega | (simp only [ZA, ZS, ZD, ZN]; omega) | go_size))).mono ?_); rintro e w1 ⟨rfl, hb1⟩; have hb1z := Below.size hb1; (try simp only [ZA, ZS, ZD, ZN] at hb1z); have hb1c0 := fun o => below_at hb1 (w.heap.size) o (by first | omega | (simp only [ZA, ZS, ZD, ZN]; omega)); have hb1f0 := fun o => below_fr hb1 (w.heap.size) o (by first | omega | (simp only [ZA, ZS, ZD, ZN]; omega)); have hb1c1 := fun o => below_at hb1 (w.heap.size + 1) o (by first | omega | (simp only [ZA, ZS, ZD, ZN]; omega)); have hb1f1 := fun o => below_fr hb1 (w.heap.size + 1) o (by first | omega | (simp only [ZA, ZS, ZD, ZN]; omega)))
      (go_wp2_with fail; (with_reducible refine (K2.out _ (by have z0 := Below.size hb1; (try simp only [ZA, ZS, ZD, ZN] at z0 ⊢; skip); repeat' (first | (with_reducible exact Below.refl _ _) | (with_reducible assumption) | (with_reducible refine Below.alloc ?_ ?_ _) | (with_reducible refine Below.drew ?_) | (with_reducible refine below_drewN ?_ _) | (with_reducible refine Below.setCell ?_ ?_ _) | (with_reducible refine Below.trans ?_ (Below.mono (by with_reducible assumption) ?_)) | omega | (simp only [ZA, ZS, ZD, ZN]; omega) | go_size))).mono ?_); rintro e w2 ⟨hR, hb2⟩; have hb2z := Below.size hb2; (try simp only [ZA, ZS, ZD, ZN] at hb2z); have hb2c0 := fun o => below_at hb2 (w.heap.size) o (by first | omega | (simp only [ZA, ZS, ZD, ZN]; omega)); have hb2f0 := fun o => below_fr hb2 (w.heap.size) o (by first | omega | (simp only [ZA, ZS, ZD, ZN]; omega)); have hb2c1 := fun o => below_at hb2 (w.heap.size + 1) o (by first | omega | (simp only [ZA, ZS, ZD, ZN]; omega)); have hb2f1 := fun o => below_fr hb2 (w.heap.size + 1) o (by first | omega | (simp only [ZA, ZS, ZD, ZN]; omega)))
      unfold RetVe at hR
      rw [if_pos rfl] at hR
      obtain ⟨A2, c2, rfl, own2⟩ := hR
      have hw2 : w.heap.size + 1 < w2.heap.size := by have := hb1.size; have := hb2.size; simp at *; omega
      have ow2 : OwR w2 (w.heap.size + 2) A2 c2 nd (can (X 0)) := OwV.rs own2 (by have := hb1.size; simp at *; omega)
      have y0 : w2.cell? ⟨w.heap.size, 0, none⟩ = some (.int .i64 st) := by rw [hb2c0, hb1c0]; simp
      have y1 : w2.cell? ⟨w.heap.size, 1, none⟩ = some (.int .i64 sr) := by rw [hb2c0, hb1c0]; simp
      have y2 : w2.cell? ⟨w.heap.size, 2, none⟩ = some (.slice AM nm cm) := by rw [hb2c0, hb1c0]; simp
      have y3 : w2.cell? ⟨w.heap.size, 3, none⟩ = some (.slice AD nd cd) := by rw [hb2c0, hb1c0]; simp
      have y4 : w2.cell? ⟨w.heap.size + 1, 0, none⟩ = some (.bool s0) := by rw [hb2c1, hb1c1]; simp
      have y5 : w2.cell? ⟨w.heap.size + 1, 1, none⟩ = some (.slice A0 n0 c0) := by rw [hb2c1, hb1c1]; simp
      have y6 : w2.cell? ⟨w.heap.size + 1, 2, none⟩ = some (.slice B0 m0 d0) := by rw [hb2c1, hb1c1]; simp
      have hbw2 : Below w.heap.size w w2 := (by have z0 := Below.size hb1; have z1 := Below.size hb2; (try simp only [ZA, ZS, ZD, ZN] at z0 z1 ⊢; skip); repeat' (first | (with_reducible exact Below.refl _ _) | (with_reducible assumption) | (with_reducible refine Below.alloc ?_ ?_ _) | (with_reducible refine Below.drew ?_) | (with_reducible refine below_drewN ?_ _) | (with_reducible refine Below.setCell ?_ ?_ _) | (with_reducible refine Below.trans ?_ (Below.mono (by with_reducible assumption) ?_)) | omega | (simp only [ZA, ZS, ZD, ZN]; omega) | go_size))
      have hmo : MatO (w2.alloc (.cells #[.slice A2 nd c2] 41)) (w.heap.size + 2) (some ⟨w2.heap.size, 0, none⟩) 1 1 (fun _ => nd) X := MatO.one ow2 (by omega)
      clear hb1c0 hb1c1 hb1f0 hb1f1 hb2c0 hb2c1 hb2f0 hb2f1 own2
      go_wp2
      go_loopw [11, 13, 38] (fun vv oo i wr => ∃ (k : Nat) (A9 : Option Addr) (c9 : Nat) (Ao : Option Addr) (co : Nat), k ≤ m ∧ i = .int .i64 (k : Int) ∧ vv = .slice A9 nd c9 ∧ oo = .slice Ao (k + 1) co ∧ OwR wr (w.heap.size + 2) A9 c9 nd (can (X k)) ∧ MatO wr (w.heap.size + 2) Ao co (k + 1) (fun _ => nd) X ∧ Below (w.heap.size + 2) w2 wr) (fun _ _ i _ => m - (intOf i).toNat)
      case atStart => exact ⟨0, A2, c2, _, 1, Nat.zero_le _, rfl, rfl, rfl, ow2.alloc _, hmo, (by (skip); repeat' (first | (with_reducible exact Below.refl _ _) | (with_reducible assumption) | (with_reducible refine Below.alloc ?_ ?_ _) | (with_reducible refine Below.drew ?_) | (with_reducible refine below_drewN ?_ _) | (with_reducible refine Below.setCell ?_ ?_ _) | (with_reducible refine Below.trans ?_ (Below.mono (by with_reducible assumption) ?_)) | omega | (simp only [ZA, ZS, ZD, ZN]; omega) | go_size))⟩
      case round =>
        obtain ⟨k, A9, c9, Ao, co, hk, rfl, rfl, rfl, ow9, mo9, hb⟩ := hrel
        have hbz := hb.size
        have hbw : Below w.heap.size w wr := hbw2.trans (hb.mono (by omega))
        by_cases hlt : k < m
        · have tv : ∀ {b o : Nat} {v : Value}, b < w.heap.size + 2 → w2.cell? ⟨b, o, none⟩ = some v → wr.cell? ⟨b, o, none⟩ = some v := fun hb9 h => (hb.cell (p := ⟨_, _, none⟩) hb9).trans h
          have z0 := tv (by omega) y0
          have z1 := tv (by omega) y1
          have z2 := tv (by omega) y2
          have z3 := tv (by omega) y3
          have z4 := tv (by omega) y4
          have z5 := tv (by omega) y5
          have z6 := tv (by omega) y6
          have hki : (k : Int) < (m : Int) := by omega
          have KS := Lib.hid (K3.out wr k A9 c9 hlt hbw (by omega) ow9)
          have HMO := Lib.hid mo9
          have HBW := Lib.hid hbw
          clear mo9 ow9 tv hbw
          (go_wp2_with fail; (with_reducible refine (KS.out).mono ?_); rintro e w7 ⟨⟨A7, c7, rfl, own7⟩, hb7⟩; have hb7z := Below.size hb7; (try simp only [ZA, ZS, ZD, ZN] at hb7z); have hb7c0 := fun o => below_at hb7 (w.heap.size) o (by first | omega | (simp only [ZA, ZS, ZD, ZN]; omega)); have hb7f0 := fun o => below_fr hb7 (w.heap.size) o (by first | omega | (simp only [ZA, ZS, ZD, ZN]; omega)); have hb7c1 := fun o => below_at hb7 (w.heap.size + 1) o (by first | omega | (simp only [ZA, ZS, ZD, ZN]; omega)); have hb7f1 := fun o => below_fr hb7 (w.heap.size + 1) o (by first | omega | (simp only [ZA, ZS, ZD, ZN]; omega)))
          have ow7 : OwR w7 (w.heap.size + 2) A7 c7 nd (can (X (k + 1))) := own7.1
          have HO7 := Lib.hid ow7
          clear own7 ow7
          have hal : Below w7.heap.size w7 (w7.alloc (.cells #[.slice A7 nd c7] 41)) := (Below.refl _ _).alloc (Nat.le_refl _) _
          go_wp2_with (first | (at_builtin; refine wpList_appMk rfl (.tmp 51) (.tmp 53) rfl (w.heap.size + 2) Ao co (k + 1) (fun _ => nd) X (by simp [Act.eval]) ((HMO.out.below hb7).below hal) w7.heap.size (by simp [Act.eval]) A7 c7 (by simp) (HO7.out.below hal) (by omega) (by simp; omega) ?_; intro A5 c5 w5 own5 hb5 hkeep5) | fail)
          have ow5 := hkeep5 _ _ _ _ (HO7.out.below hal)
          have hb9 : Below (w.heap.size + 2) wr w5 := (hb7.mono (by omega)).trans (((Below.refl _ w7).alloc (by omega) (.cells #[.slice A7 nd c7] 41)).trans hb5)
          go_wp2
          go_roundw
          case rel => exact ⟨k + 1, A7, c7, A5, c5, by omega, by go_num, rfl, rfl, ow5, own5, hb.trans hb9⟩
          case measure => simp [intOf]; omega
        · have hkm : k = m := by omega
          subst hkm
          have HMO := Lib.hid mo9
          clear mo9 ow9
          go_wp2
          go_ret2
          exact ⟨retRun_0 HT.out HMO.out, hbw⟩
  · have hE := errM_n h0
    rw [if_pos h0] at hT
    rw [hE] at K1
    have HT := Lib.hid hT
    have H0 := Lib.hid h0
    have HE := Lib.hid hE
    clear hT hR0 hok hcr hct hX h0 h hs hr hst hE K2
    obtain ⟨st, sr, nm, F, T, R', nd, D⟩ := c
    simp only at *
    go_enter Tryz.func74, Tryz.ntmps74
    (go_wp2_with fail; (with_reducible refine (K1.out _ (by (skip); repeat' (first | (with_reducible exact Below.refl _ _) | (with_reducible assumption) | (with_reducible refine Below.alloc ?_ ?_ _) | (with_reducible refine Below.drew ?_) | (with_reducible refine below_drewN ?_ _) | (with_reducible refine Below.setCell ?_ ?_ _) | (with_reducible refine Below.trans ?_ (Below.mono (by with_reducible assumption) ?_)) | omega | (simp only [ZA, ZS, ZD, ZN]; omega) | go_size))).mono ?_); rintro e w1 ⟨rfl, hb1⟩; have hb1z := Below.size hb1; (try simp only [ZA, ZS, ZD, ZN] at hb1z); have hb1c0 := fun o => below_at hb1 (w.heap.size) o (by first | omega | (simp only [ZA, ZS, ZD, ZN]; omega)); have hb1f0 := fun o => below_fr hb1 (w.heap.size) o (by first | omega | (simp only [ZA, ZS, ZD, ZN]; omega)); have hb1c1 := fun o => below_at hb1 (w.heap.size + 1) o (by first | omega | (simp only [ZA, ZS, ZD, ZN]; omega)); have hb1f1 := fun o => below_fr hb1 (w.heap.size + 1) o (by first | omega | (simp only [ZA, ZS, ZD, ZN]; omega)))
    go_wp2
    go_ret2
    exact ⟨retRun_n (by rw [HT.out]; exact H0.out) (by rw [HT.out, HE.out]; rfl), (by have z0 := Below.size hb1; (try simp only [ZA, ZS, ZD, ZN] at z0 ⊢; skip); repeat' (first | (with_reducible exact Below.refl _ _) | (with_reducible assumption) | (with_reducible refine Below.alloc ?_ ?_ _) | (with_reducible refine Below.drew ?_) | (with_reducible refine below_drewN ?_ _) | (with_reducible refine Below.setCell ?_ ?_ _) | (with_reducible refine Below.trans ?_ (Below.mono (by with_reducible assumption) ?_)) | omega | (simp only [ZA, ZS, ZD, ZN]; omega) | go_size))⟩
end Go.Proofs.YtlncafhgmbhocaaGreatDoor
namespace Go.Proofs.YtlncafhgmbhocaaGreatDoor
open Go.RowKit
set_option linter.unusedSimpArgs false
set_option linter.unusedVariables false
set_option maxRecDepth 20000
attribute [local irreducible] nv wp win plainB validR valR canR mvE chkM codeC exK maxF dsum
/-! ## package transient: After -/
theorem MatO.at_ {w : World} {b c n j : Nat} {A : Option Addr} {len : Nat → Nat} {M : Nat → Nat → Rat} (h : MatO w b A c n len M) (hj : j < n) : ∃ g Aj cj, A = some ⟨g, 0, none⟩ ∧ b ≤ g ∧ g < w.heap.size ∧ w.cell? ⟨g, j, none⟩ = some (.slice Aj (len j) cj) ∧ OwR w b Aj cj (len j) (can (M j)) := by
  obtain ⟨Ar, cp, h1, h2⟩ := h
  obtain ⟨g, cap, hv, hb, hlt⟩ := h1.form (by omega)
  have hA : A = some ⟨g, 0, none⟩ := by injection hv
  subst hA
  refine ⟨g, Ar j, cp j, rfl, hb, hlt, ?_, h2 j hj⟩
  rw [World.ownsRow.cellAt h1 j (by omega), rowsC_get hj]
/-- a row, and an error's number -/
def RetVx (n : Nat) (x : Nat → Rat) (code : Int) (e : Ending) (w' : World) : Prop := if code = 0 then ∃ A c b, e = .returned (.tuple #[.slice A n c, .nilIface]) ∧ b ≤ w'.heap.size ∧ OwR w' b A c n (can x) else e = .returned (.tuple #[.slice none 0 0, errM code])
theorem retVx_0 {n : Nat} {x : Nat → Rat} {code : Int} {A : Option Addr} {c b : Nat} {w' : World} (h : code = 0) (hb : b ≤ w'.heap.size) (hr : OwR w' b A c n (can x)) : RetVx n x code (.returned (.tuple #[.slice A n c, .nilIface])) w' := by
  unfold RetVx; rw [if_pos h]; exact ⟨A, c, b, rfl, hb, hr⟩
theorem retVx_n {n : Nat} {x : Nat → Rat} {code : Int} {w' : World} {z : Value} (h : code ≠ 0) (hz : errM code = z) : RetVx n x code (.returned (.tuple #[.slice none 0 0, z])) w' := by
  unfold RetVx; rw [if_neg h, hz]
theorem Chn.codeN_0 {c : Chn} {r : Rw} {n : Int} (h : c.codeN r n = 0) : c.codeR r = 0 ∧ 0 ≤ n ∧ n ≤ 48 := by
  unfold Chn.codeN at h
  split at h
  · contradiction
  · rename_i h1
    split at h
    · omega
    · omega
set_option maxHeartbeats 4000000 in
theorem after_any {w : World} {AM AD : Option Addr} {cm cd L : Nat} {c : Chn} {v : Value} {r : Rw} {n : Int} (h : ChI w w.heap.size AM cm AD cd c) (hs : ChS c L) (hr : RdS w w.heap.size v r) (hr1 : r.2.1.length ≤ 4) (hr2 : r.2.2.length ≤ 4)
    (hst : c.codeN r n = 0 → ∀ k : Nat, (k : Int) < n → StS c (valR r) (c.run false (valR r) k) L) :
    Calls Tryz.prog 35 #[cv c.st c.sr AM c.nm cm AD c.nd cd, v, .int .i64 n] w fun e w' => RetVx c.nd (c.run false (valR r) n.toNat) (c.codeN r n) e w' ∧ Below w.heap.size w w' := by
  have K1 := Lib.hid (fun W (hb : Below w.heap.size w W) => run_any false (h.below hb) hs ((hr.kp (Kp.of_below hb)).base hb.size) hr1 hr2 hst)
  have hN := Chn.codeN_0 (c := c) (r := r) (n := n)
  obtain ⟨ct, hct⟩ : ∃ ct, ct = c.codeN r n := ⟨_, rfl⟩
  obtain ⟨X, hX⟩ : ∃ X, X = c.run false (valR r) := ⟨_, rfl⟩
  rw [← hct, ← hX] at K1 ⊢
  rw [← hct] at hN
  obtain ⟨s0, A0, n0, c0, B0, m0, d0, rfl⟩ := hr.form
  by_cases h0 : ct = 0
  · obtain ⟨-, h1, h2⟩ := hN h0
    obtain ⟨m, rfl⟩ : ∃ m : Nat, n = (m : Int) := ⟨n.toNat, by omega⟩
    rw [Int.toNat_natCast] at K1 ⊢
    have H0 := Lib.hid h0
    have hm9 : m ≤ 48 := by omega
    clear hN hct hX h0 h1 h2 h hs hr hst
    obtain ⟨st, sr, nm, F, T, R', nd, D⟩ := c
    simp only at *
    go_enter Tryz.func35, Tryz.ntmps35
    (go_wp2_with fail; (with_reducible refine (K1.out _ (by (skip); repeat' (first | (with_reducible exact Below.refl _ _) | (with_reducible assumption) | (with_reducible refine Below.alloc ?_ ?_ _) | (with_reducible refine Below.drew ?_) | (with_reducible refine below_drewN ?_ _) | (with_reducible refine Below.setCell ?_ ?_ _) | (with_reducible refine Below.trans ?_ (Below.mono (by with_reducible assumption) ?_)) | omega | (simp only [ZA, ZS, ZD, ZN]; omega) | go_size))).mono ?_); rintro e w1 ⟨hR, hb1⟩; have hb1z := Below.size hb1; (try simp only [ZA, ZS, ZD, ZN] at hb1z); have hb1c0 := fun o => below_at hb1 (w.heap.size) o (by first | omega | (simp only [ZA, ZS, ZD, ZN]; omega)); have hb1f0 := fun o => below_fr hb1 (w.heap.size) o (by first | omega | (simp only [ZA, ZS, ZD, ZN]; omega)); have hb1c1 := fun o => below_at hb1 (w.heap.size + 1) o (by first | omega | (simp only [ZA, ZS, ZD, ZN]; omega)); have hb1f1 := fun o => below_fr hb1 (w.heap.size + 1) o (by first | omega | (simp only [ZA, ZS, ZD, ZN]; omega)))
    unfold RetRun at hR
    rw [if_pos H0.out] at hR
    obtain ⟨A1, c1, rfl, mo⟩ := hR
    obtain ⟨g, Aj, cj, rfl, hbg, hg, hcg, ow⟩ := mo.at_ (show m < m + 1 by omega)
    try simp only at hcg ow
    have HO := Lib.hid ow
    clear mo ow
    have hmi : (m : Int) < (m : Int) + 1 := by omega
    go_wp2
    go_ret2
    exact ⟨retVx_0 H0.out (by have := hb1.size; simp at *; omega) HO.out, (by have z0 := Below.size hb1; (try simp only [ZA, ZS, ZD, ZN] at z0 ⊢; skip); repeat' (first | (with_reducible exact Below.refl _ _) | (with_reducible assumption) | (with_reducible refine Below.alloc ?_ ?_ _) | (with_reducible refine Below.drew ?_) | (with_reducible refine below_drewN ?_ _) | (with_reducible refine Below.setCell ?_ ?_ _) | (with_reducible refine Below.trans ?_ (Below.mono (by with_reducible assumption) ?_)) | omega | (simp only [ZA, ZS, ZD, ZN]; omega) | go_size))⟩
  · have hE := errM_n h0
    have H0 := Lib.hid h0
    have HE := Lib.hid hE
    clear hN hct hX h0 h hs hr hst hE
    obtain ⟨st, sr, nm, F, T, R', nd, D⟩ := c
    simp only at *
    go_enter Tryz.func35, Tryz.ntmps35
    (go_wp2_with fail; (with_reducible refine (K1.out _ (by (skip); repeat' (first | (with_reducible exact Below.refl _ _) | (with_reducible assumption) | (with_reducible refine Below.alloc ?_ ?_ _) | (with_reducible refine Below.drew ?_) | (with_reducible refine below_drewN ?_ _) | (with_reducible refine Below.setCell ?_ ?_ _) | (with_reducible refine Below.trans ?_ (Below.mono (by with_reducible assumption) ?_)) | omega | (simp only [ZA, ZS, ZD, ZN]; omega) | go_size))).mono ?_); rintro e w1 ⟨hR, hb1⟩; have hb1z := Below.size hb1; (try simp only [ZA, ZS, ZD, ZN] at hb1z); have hb1c0 := fun o => below_at hb1 (w.heap.size) o (by first | omega | (simp only [ZA, ZS, ZD, ZN]; omega)); have hb1f0 := fun o => below_fr hb1 (w.heap.size) o (by first | omega | (simp only [ZA, ZS, ZD, ZN]; omega)); have hb1c1 := fun o => below_at hb1 (w.heap.size + 1) o (by first | omega | (simp only [ZA, ZS, ZD, ZN]; omega)); have hb1f1 := fun o => below_fr hb1 (w.heap.size + 1) o (by first | omega | (simp only [ZA, ZS, ZD, ZN]; omega)))
    unfold RetRun at hR
    rw [if_neg H0.out, HE.out] at hR
    subst hR
    go_wp2
    go_ret2
    exact ⟨retVx_n H0.out (by rw [HE.out]; rfl), (by have z0 := Below.size hb1; (try simp only [ZA, ZS, ZD, ZN] at z0 ⊢; skip); repeat' (first | (with_reducible exact Below.refl _ _) | (with_reducible assumption) | (with_reducible refine Below.alloc ?_ ?_ _) | (with_reducible refine Below.drew ?_) | (with_reducible refine below_drewN ?_ _) | (with_reducible refine Below.setCell ?_ ?_ _) | (with_reducible refine Below.trans ?_ (Below.mono (by with_reducible assumption) ?_)) | omega | (simp only [ZA, ZS, ZD, ZN]; omega) | go_size))⟩
end Go.Proofs.YtlncafhgmbhocaaGreatDoor
namespace Go.Proofs.YtlncafhgmbhocaaGreatDoor
open Go.RowKit
set_option linter.unusedSimpArgs false
set_option linter.unusedVariables false
set_option maxRecDepth 20000
attribute [local irreducible] nv wp win plainB validR valR canR mvE chkM codeC exK maxF dsum
/-! ## package transient: downs, Downs, First -/
def SumR (g : Nat) (q : Rat) (wr : World) : Prop :=
  ∃ s A1 n1 c1 B1 m1 d1, wr.cell? ⟨g, 0, none⟩ = some (.bool s) ∧ wr.cell? ⟨g, 1, none⟩ = some (.slice A1 n1 c1) ∧ wr.cell? ⟨g, 2, none⟩ = some (.slice B1 m1 d1) ∧ RdS wr 0 (rv s A1 n1 c1 B1 m1 d1) (canR q)
theorem own_of {w : World} {b0 c n : Nat} {A : Option Addr} {R : Nat → Rw} (h : OwR w b0 A c n R) : ∀ q, (Value.slice A n c).ownBlock = some q → b0 ≤ q := fun q hq => (by
  obtain ⟨V, h1, h2⟩ := h
  exact (World.ownsRow.lt h2 q hq).1)
set_option maxHeartbeats 8000000 in
theorem downs_any {w : World} {AM AD : Option Addr} {cm cd L : Nat} {c : Chn} {v : Value} {r : Rw} {n : Int} (ab : Bool) (h : ChI w w.heap.size AM cm AD cd c) (hs : ChS c L) (hr : RdS w w.heap.size v r) (hr1 : r.2.1.length ≤ 4) (hr2 : r.2.2.length ≤ 4)
    (hst : c.codeN r n = 0 → ∀ k : Nat, (k : Int) < n → StS c (valR r) (c.run ab (valR r) k) L) (hL : 1 ≤ L) (hL2 : L ≤ 1000000)
    (hds : c.codeN r n = 0 → ∀ k : Nat, (k : Int) ≤ n → (∀ j, j ≤ c.nd → Sz L (dsum c.D (c.run ab (valR r) k) j)) ∧ ∀ s, s < c.nd → Sz L (c.run ab (valR r) k s)) :
    Calls Tryz.prog 100 #[cv c.st c.sr AM c.nm cm AD c.nd cd, v, .int .i64 n, .bool ab] w fun e w' => RetVx (n.toNat + 1) (fun k => dsum c.D (c.run ab (valR r) k) c.nd) (c.codeN r n) e w' ∧ Below w.heap.size w w' := by
  have K1 := Lib.hid (fun W (hb : Below w.heap.size w W) => run_any ab (h.below hb) hs ((hr.kp (Kp.of_below hb)).base hb.size) hr1 hr2 hst)
  have hN := Chn.codeN_0 (c := c) (r := r) (n := n)
  have hR0 := Chn.codeR_0 (c := c) (r := r)
  have hok := Chn.ok_iff (c := c)
  obtain ⟨ct, hct⟩ : ∃ ct, ct = c.codeN r n := ⟨_, rfl⟩
  obtain ⟨X, hX⟩ : ∃ X, X = c.run ab (valR r) := ⟨_, rfl⟩
  rw [← hct, ← hX] at K1 hds ⊢
  rw [← hct] at hN
  obtain ⟨s0, A0, n0, c0, B0, m0, d0, rfl⟩ := hr.form
  by_cases h0 : ct = 0
  · obtain ⟨hN1, h1, h2⟩ := hN h0
    have ok := hok.1 (hR0 hN1).1
    have hnd := ok.hi
    obtain ⟨m, rfl⟩ : ∃ m : Nat, n = (m : Int) := ⟨n.toNat, by omega⟩
    rw [Int.toNat_natCast] at K1 ⊢
    have H0 := Lib.hid h0
    have hm9 : m ≤ 48 := by omega
    have HDS := Lib.hid (fun k (hk : k ≤ m) => hds h0 k (by omega))
    have HDN := Lib.hid (fun k (hk : k < c.nd) => h.down hk)
    clear hN hR0 hok hN1 ok hct hX h0 h1 h2 h hs hr hst hds
    obtain ⟨st, sr, nm, F, T, R', nd, D⟩ := c
    simp only at *
    have HD0 := Lib.hid (fun x => (by unfold dsum; rfl : dsum D x 0 = 0))
    have HD1 := Lib.hid (fun x j => (by conv => lhs; unfold dsum : dsum D x (j + 1) = if D j = true then dsum D x j + x j else dsum D x j))
    go_enter Tryz.func100, Tryz.ntmps100
    (go_wp2_with fail; (with_reducible refine (K1.out _ (by (skip); repeat' (first | (with_reducible exact Below.refl _ _) | (with_reducible assumption) | (with_reducible refine Below.alloc ?_ ?_ _) | (with_reducible refine Below.drew ?_) | (with_reducible refine below_drewN ?_ _) | (with_reducible refine Below.setCell ?_ ?_ _) | (with_reducible refine Below.trans ?_ (Below.mono (by with_reducible assumption) ?_)) | omega | (simp only [ZA, ZS, ZD, ZN]; omega) | go_size))).mono ?_); rintro e w1 ⟨hR, hb1⟩; have hb1z := Below.size hb1; (try simp only [ZA, ZS, ZD, ZN] at hb1z); have hb1c0 := fun o => below_at hb1 (w.heap.size) o (by first | omega | (simp only [ZA, ZS, ZD, ZN]; omega)); have hb1f0 := fun o => below_fr hb1 (w.heap.size) o (by first | omega | (simp only [ZA, ZS, ZD, ZN]; omega)); have hb1c1 := fun o => below_at hb1 (w.heap.size + 1) o (by first | omega | (simp only [ZA, ZS, ZD, ZN]; omega)); have hb1f1 := fun o => below_fr hb1 (w.heap.size + 1) o (by first | omega | (simp only [ZA, ZS, ZD, ZN]; omega)))
    unfold RetRun at hR
    rw [if_pos H0.out] at hR
    obtain ⟨A1, c1, rfl, mo⟩ := hR
    have hw1 : w.heap.size + 1 < w1.heap.size := by have := hb1.size; simp at this; omega
    have y3 : w1.cell? ⟨w.heap.size, 3, none⟩ = some (.slice AD nd cd) := by rw [hb1c0]; simp
    have hbw1 : Below w.heap.size w w1 := (by have z0 := Below.size hb1; (try simp only [ZA, ZS, ZD, ZN] at z0 ⊢; skip); repeat' (first | (with_reducible exact Below.refl _ _) | (with_reducible assumption) | (with_reducible refine Below.alloc ?_ ?_ _) | (with_reducible refine Below.drew ?_) | (with_reducible refine below_drewN ?_ _) | (with_reducible refine Below.setCell ?_ ?_ _) | (with_reducible refine Below.trans ?_ (Below.mono (by with_reducible assumption) ?_)) | omega | (simp only [ZA, ZS, ZD, ZN]; omega) | go_size))
    have HMO := Lib.hid mo
    clear mo hb1c0 hb1c1 hb1f0 hb1f1
    go_wp2
    go_loopw [31, 12] (fun i oo wr => ∃ (k : Nat) (Ao : Option Addr) (co : Nat), k ≤ m + 1 ∧ i = .int .i64 (k : Int) ∧ oo = .slice Ao k co ∧ OwR wr w1.heap.size Ao co k (can fun k => dsum D (X k) nd) ∧ Below w1.heap.size w1 wr) (fun i _ _ => m + 1 - (intOf i).toNat)
    case atStart => exact ⟨0, none, 0, Nat.zero_le _, rfl, rfl, OwR.nil_ _ _ _, Below.refl _ _⟩
    case round =>
      obtain ⟨k, Ao, co, hk, rfl, rfl, own, hb⟩ := hrel
      have hbz := hb.size
      have HO := Lib.hid own
      clear own
      by_cases hlt : k < m + 1
      · obtain ⟨g, Aj, cj, rfl, hbg, hg, hcg, ow⟩ := HMO.out.at_ hlt
        try simp only at hcg ow
        have x0 := (hb.cell (p := ⟨g, k, none⟩) hg).trans hcg
        obtain ⟨hd1, hd2⟩ := HDS.out k (by omega)
        have hki : (k : Int) < (m : Int) + 1 := by omega
        have hk0 : (0 : Int) ≤ (k : Int) := by omega
        obtain ⟨Xk, hXk⟩ : ∃ Xk, Xk = X k := ⟨_, rfl⟩
        rw [← hXk] at ow hd1 hd2
        have HOW := Lib.hid ow
        have HXK := Lib.hid hXk
        have HD2 := Lib.hid hd1
        have HD3 := Lib.hid hd2
        clear hcg ow hXk hd1 hd2
        obtain ⟨wo, hwo⟩ : ∃ wo, wo = wr := ⟨_, rfl⟩
        subst hwo
        go_wp2
        go_loopw [37] (fun j wr => ∃ i : Nat, i ≤ nd ∧ j = .int .i64 (i : Int) ∧ SumR wo.heap.size (dsum D Xk i) wr ∧ Below wo.heap.size wo wr ∧ wo.heap.size < wr.heap.size ∧ RatB wr wo.heap.size ∧ ∀ i, wr.frozen? ⟨wo.heap.size, i, none⟩ = false) (fun j _ => nd - (intOf j).toNat)
        case atStart =>
          refine ⟨0, Nat.zero_le _, rfl, ⟨false, none, 0, 0, none, 0, 0, by simp, by simp, by simp, by rw [HD0.out]; exact (OwQ.zero _ 0).rs⟩, (Below.refl _ _).alloc (Nat.le_refl _) _, by simp, RatB.new _ _, fun i => by simp⟩
        case round =>
          obtain ⟨i, hi, rfl, ⟨s3, A3, n3, c3', B3, m3, d3, g0, g1, g2, r3⟩, hb2, hz2, hrb, hfz⟩ := hrel
          by_cases hin : i < nd
          · obtain ⟨bx, ox, s1, A1', n1, c1', B1, m1, d1, rfl, hbx, f0, f1, f2, r1⟩ := HOW.out.ra.at_ hin
            obtain ⟨bd, od, rfl, hbd, -, p0⟩ := HDN.out i hin
            have hb12 : Below w1.heap.size w1 wr := hb.trans (hb2.mono hbz)
            have e0 := (hb12.cell (lt_of_cell f0)).trans f0
            have e1 := (hb12.cell (lt_of_cell f1)).trans f1
            have e2 := (hb12.cell (lt_of_cell f2)).trans f2
            have e3 := (hb12.cell (p := ⟨bd, od + i, none⟩) (by have := hbw1.size; show bd < _; omega)).trans ((hbw1.cell (p := ⟨bd, od + i, none⟩) hbd).trans p0)
            have e4 := (hb12.cell (p := ⟨w.heap.size, 3, none⟩) (by show w.heap.size < _; omega)).trans y3
            have hii : (i : Int) < (nd : Int) := by omega
            have hi0 : (0 : Int) ≤ (i : Int) := by omega
            have hz12 := hb12.size
            have qs := r3.canQ (HD2.out i hi)
            have qx := (r1.kp (Kp.of_below hb12)).canQ (HD3.out i hin)
            have K2 := Lib.hid (fun W (hb : Below wr.heap.size wr W) => addQ (qs.below hb) (qx.below hb) hL (by omega))
            have HR3 := Lib.hid r3
            have HB2 := Lib.hid hb2
            have HRB := Lib.hid hrb
            have HD9 := Lib.hid (HD1.out Xk i)
            have hbd9 : bd < wr.heap.size := by have := hbw1.size; omega
            have hbx9 : bx < wr.heap.size := by omega
            have hw9 : w.heap.size < wr.heap.size := by omega
            clear f0 f1 f2 p0 qs qx r3 r1 hb2 hrb hb12
            (have oddc := fun o i => below_at ((Below.refl wr.heap.size wr).alloc (Nat.le_refl _) o) (bd) i (by omega)); (have oddf := fun o i => below_fr ((Below.refl wr.heap.size wr).alloc (Nat.le_refl _) o) (bd) i (by omega))
            (have owwc := fun o i => below_at ((Below.refl wr.heap.size wr).alloc (Nat.le_refl _) o) (w.heap.size) i (by omega)); (have owwf := fun o i => below_fr ((Below.refl wr.heap.size wr).alloc (Nat.le_refl _) o) (w.heap.size) i (by omega))
            (have ossc := fun o i => below_at ((Below.refl wr.heap.size wr).alloc (Nat.le_refl _) o) (wo.heap.size) i (by omega)); (have ossf := fun o i => below_fr ((Below.refl wr.heap.size wr).alloc (Nat.le_refl _) o) (wo.heap.size) i (by omega))
            cases hD : D i
            · rw [hD] at e3
              have HE := Lib.hid (HD9.out.trans (by rw [hD]; simp : _ = dsum D Xk i))
              clear hD HD9
              go_wp2
              go_roundw
              case rel =>
                refine ⟨i + 1, by omega, by go_num, ⟨s3, A3, n3, c3', B3, m3, d3, by rw [ossc]; exact g0, by rw [ossc]; exact g1, by rw [ossc]; exact g2, by rw [HE.out]; exact HR3.out.kp ((Kp.refl 0 wr).alloc _)⟩, HB2.out.trans (by (skip); repeat' (first | (with_reducible exact Below.refl _ _) | (with_reducible assumption) | (with_reducible refine Below.alloc ?_ ?_ _) | (with_reducible refine Below.drew ?_) | (with_reducible refine below_drewN ?_ _) | (with_reducible refine Below.setCell ?_ ?_ _) | (with_reducible refine Below.trans ?_ (Below.mono (by with_reducible assumption) ?_)) | omega | (simp only [ZA, ZS, ZD, ZN]; omega) | go_size)), by simp; omega, HRB.out.below ((Below.refl wr.heap.size _).alloc (Nat.le_refl _) _) hz2, fun i => by rw [ossf]; exact hfz i⟩
              case measure => simp [intOf]; omega
            · rw [hD] at e3
              have HE := Lib.hid (HD9.out.trans (by rw [hD]; simp : _ = dsum D Xk i + Xk i))
              clear hD HD9
              (go_wp2_with fail; (with_reducible refine (K2.out _ (by (skip); repeat' (first | (with_reducible exact Below.refl _ _) | (with_reducible assumption) | (with_reducible refine Below.alloc ?_ ?_ _) | (with_reducible refine Below.drew ?_) | (with_reducible refine below_drewN ?_ _) | (with_reducible refine Below.setCell ?_ ?_ _) | (with_reducible refine Below.trans ?_ (Below.mono (by with_reducible assumption) ?_)) | omega | (simp only [ZA, ZS, ZD, ZN]; omega) | go_size))).mono ?_); rintro e w4 ⟨⟨v4, rfl, own4⟩, hb4⟩; have hb4z := Below.size hb4; (try simp only [ZA, ZS, ZD, ZN] at hb4z); have hb4c0 := fun o => below_at hb4 (wo.heap.size) o (by first | omega | (simp only [ZA, ZS, ZD, ZN]; omega)); have hb4f0 := fun o => below_fr hb4 (wo.heap.size) o (by first | omega | (simp only [ZA, ZS, ZD, ZN]; omega)))
              obtain ⟨s4, A4, n4, c4, B4, m4, d4, rfl⟩ := own4.form
              have HO4 := Lib.hid own4
              clear own4
              go_wp2
              go_roundw
              case rel =>
                have hrb4 : RatB w4 wo.heap.size := (HRB.out.below (w' := w4) (B := wr.heap.size) (by have z0 := Below.size hb4; (try simp only [ZA, ZS, ZD, ZN] at z0 ⊢; skip); repeat' (first | (with_reducible exact Below.refl _ _) | (with_reducible assumption) | (with_reducible refine Below.alloc ?_ ?_ _) | (with_reducible refine Below.drew ?_) | (with_reducible refine below_drewN ?_ _) | (with_reducible refine Below.setCell ?_ ?_ _) | (with_reducible refine Below.trans ?_ (Below.mono (by with_reducible assumption) ?_)) | omega | (simp only [ZA, ZS, ZD, ZN]; omega) | go_size)) hz2)
                have s9 := set3 (w := w4) (g := wo.heap.size) (o := 0) (a := .bool s4) (b := .slice A4 n4 c4) (d := .slice B4 m4 d4) (by rw [hb4c0, ossc]; exact g0) (by rw [hb4c0, ossc]; exact g1) (by rw [hb4c0, ossc]; exact g2)
                refine ⟨i + 1, by omega, by go_num, ⟨s4, A4, n4, c4, B4, m4, d4, s9.1, s9.2.1, s9.2.2, by rw [HE.out]; exact HO4.out.rs.kp (Kp.store3 hrb4 (Nat.zero_le _) _ _ _)⟩, ?_, by simp; omega, ((hrb4.set _ _).set _ _).set _ _, fun i => ?_⟩
                · exact (((HB2.out.trans ((by have z0 := Below.size hb4; (try simp only [ZA, ZS, ZD, ZN] at z0 ⊢; skip); repeat' (first | (with_reducible exact Below.refl _ _) | (with_reducible assumption) | (with_reducible refine Below.alloc ?_ ?_ _) | (with_reducible refine Below.drew ?_) | (with_reducible refine below_drewN ?_ _) | (with_reducible refine Below.setCell ?_ ?_ _) | (with_reducible refine Below.trans ?_ (Below.mono (by with_reducible assumption) ?_)) | omega | (simp only [ZA, ZS, ZD, ZN]; omega) | go_size)))).setCell (Nat.le_refl _) _).setCell (Nat.le_refl _) _).setCell (Nat.le_refl _) _
                · rw [World.frozen?_setCell, World.frozen?_setCell, World.frozen?_setCell, hb4f0, ossf]; exact hfz i
              case measure => simp [intOf]; omega
          · have hin2 : i = nd := by omega
            subst hin2
            have hal : Below wr.heap.size wr (wr.alloc (.cells #[.bool s3, .slice A3 n3 c3', .slice B3 m3 d3] 44)) := (Below.refl _ _).alloc (Nat.le_refl _) _
            have hr9 := (r3.kp (Kp.of_below (b0 := 0) hal)).base (Nat.zero_le w1.heap.size)
            have hb12 : Below w1.heap.size w1 wr := hb.trans (hb2.mono hbz)
            have HR9 := Lib.hid hr9
            have HB2 := Lib.hid hb2
            have HB12 := Lib.hid hb12
            clear r3 hr9 hb2 hb12 hrb
            go_wp2_with (first | (at_builtin; refine wpList_appR1 rfl (.tmp 51) (.tmp 53) rfl w1.heap.size Ao co k (can fun k => dsum D (X k) i) (by simp [Act.eval]) ((HO.out.below HB2.out).below hal) wr.heap.size s3 A3 n3 c3' B3 m3 d3 (canR (dsum D Xk i)) (by simp [Act.eval]) (by simp) (by simp) (by simp) HR9.out (by omega) (by simp; omega) ?_; intro A5 c5 w5 own5 hgr5 hfr5) | fail)
            have hb15 : Below w1.heap.size w1 w5 := (HB12.out.trans (hal.mono (by omega))).trans (below_of_row hgr5 (own_of HO.out) (by simp; omega))
            have own6 := own5
            rw [HXK.out, upd_can (f := fun k => dsum D (X k) i), upd_self] at own6
            have HO6 := Lib.hid own6
            have HB15 := Lib.hid hb15
            clear own5 own6 hb15
            go_wp2
            go_roundw
            case rel => exact ⟨k + 1, A5, c5, by omega, by go_num, rfl, HO6.out, HB15.out⟩
            case measure => simp [intOf]; omega
      · have hkm : k = m + 1 := by omega
        subst hkm
        go_wp2
        go_ret2
        exact ⟨retVx_0 H0.out hbz HO.out, hbw1.trans (hb.mono (by omega))⟩
  · have hE := errM_n h0
    have H0 := Lib.hid h0
    have HE := Lib.hid hE
    clear hN hR0 hok hct hX h0 h hs hr hst hE hds
    obtain ⟨st, sr, nm, F, T, R', nd, D⟩ := c
    simp only at *
    go_enter Tryz.func100, Tryz.ntmps100
    (go_wp2_with fail; (with_reducible refine (K1.out _ (by (skip); repeat' (first | (with_reducible exact Below.refl _ _) | (with_reducible assumption) | (with_reducible refine Below.alloc ?_ ?_ _) | (with_reducible refine Below.drew ?_) | (with_reducible refine below_drewN ?_ _) | (with_reducible refine Below.setCell ?_ ?_ _) | (with_reducible refine Below.trans ?_ (Below.mono (by with_reducible assumption) ?_)) | omega | (simp only [ZA, ZS, ZD, ZN]; omega) | go_size))).mono ?_); rintro e w1 ⟨hR, hb1⟩; have hb1z := Below.size hb1; (try simp only [ZA, ZS, ZD, ZN] at hb1z); have hb1c0 := fun o => below_at hb1 (w.heap.size) o (by first | omega | (simp only [ZA, ZS, ZD, ZN]; omega)); have hb1f0 := fun o => below_fr hb1 (w.heap.size) o (by first | omega | (simp only [ZA, ZS, ZD, ZN]; omega)); have hb1c1 := fun o => below_at hb1 (w.heap.size + 1) o (by first | omega | (simp only [ZA, ZS, ZD, ZN]; omega)); have hb1f1 := fun o => below_fr hb1 (w.heap.size + 1) o (by first | omega | (simp only [ZA, ZS, ZD, ZN]; omega)))
    unfold RetRun at hR
    rw [if_neg H0.out, HE.out] at hR
    subst hR
    go_wp2
    go_ret2
    exact ⟨retVx_n H0.out (by rw [HE.out]; rfl), (by have z0 := Below.size hb1; (try simp only [ZA, ZS, ZD, ZN] at z0 ⊢; skip); repeat' (first | (with_reducible exact Below.refl _ _) | (with_reducible assumption) | (with_reducible refine Below.alloc ?_ ?_ _) | (with_reducible refine Below.drew ?_) | (with_reducible refine below_drewN ?_ _) | (with_reducible refine Below.setCell ?_ ?_ _) | (with_reducible refine Below.trans ?_ (Below.mono (by with_reducible assumption) ?_)) | omega | (simp only [ZA, ZS, ZD, ZN]; omega) | go_size))⟩
section
variable {w : World} {AM AD : Option Addr} {cm cd L : Nat} {c : Chn} {v : Value} {r : Rw} {n : Int}
/-- what Downs and First need of the numbers -/
structure DnS (c : Chn) (ab : Bool) (r : Rw) (n : Int) (L : Nat) : Prop where
  L1 : 1 ≤ L
  L2 : L ≤ 1000000
  st : c.codeN r n = 0 → ∀ k : Nat, (k : Int) < n → StS c (valR r) (c.run ab (valR r) k) L
  ds : c.codeN r n = 0 → ∀ k : Nat, (k : Int) ≤ n → (∀ j, j ≤ c.nd → Sz L (dsum c.D (c.run ab (valR r) k) j)) ∧ ∀ s, s < c.nd → Sz L (c.run ab (valR r) k s)
theorem retVx_pass {n : Nat} {x : Nat → Rat} {code : Int} {e : Ending} {w1 : World} (hR : RetVx n x code e w1) : ∃ v z, e = .returned (.tuple #[v, z]) ∧ ∀ w2, Below w1.heap.size w1 w2 → RetVx n x code (.returned (.tuple #[v, z])) w2 := by
  unfold RetVx at hR
  by_cases h0 : code = 0
  · rw [if_pos h0] at hR
    obtain ⟨A, c, b, rfl, hb, ow⟩ := hR
    exact ⟨_, _, rfl, fun w2 h => retVx_0 h0 (Nat.le_trans hb h.size) (ow.below h)⟩
  · rw [if_neg h0] at hR
    exact ⟨_, _, hR, fun w2 h => retVx_n h0 rfl⟩
set_option maxHeartbeats 2000000 in
theorem First_any (h : ChI w w.heap.size AM cm AD cd c) (hs : ChS c L) (hr : RdS w w.heap.size v r) (hr1 : r.2.1.length ≤ 4) (hr2 : r.2.2.length ≤ 4) (hd : DnS c true r n L) :
    Calls Tryz.prog 73 #[cv c.st c.sr AM c.nm cm AD c.nd cd, v, .int .i64 n] w fun e w' => RetVx (n.toNat + 1) (fun k => dsum c.D (c.run true (valR r) k) c.nd) (c.codeN r n) e w' ∧ Below w.heap.size w w' := by
  have K1 := Lib.hid (fun W (hb : Below w.heap.size w W) => downs_any true (h.below hb) hs ((hr.kp (Kp.of_below hb)).base hb.size) hr1 hr2 hd.st hd.L1 hd.L2 hd.ds)
  obtain ⟨ct, hct⟩ : ∃ ct, ct = c.codeN r n := ⟨_, rfl⟩
  obtain ⟨X, hX⟩ : ∃ X, X = fun k => dsum c.D (c.run true (valR r) k) c.nd := ⟨_, rfl⟩
  rw [← hct, ← hX] at K1 ⊢
  obtain ⟨s0, A0, n0, c0, B0, m0, d0, rfl⟩ := hr.form
  clear hct hX h hs hr hd
  obtain ⟨st, sr, nm, F, T, R', nd, D⟩ := c
  simp only at *
  go_enter Tryz.func73, Tryz.ntmps73
  (go_wp2_with fail; (with_reducible refine (K1.out _ (by (skip); repeat' (first | (with_reducible exact Below.refl _ _) | (with_reducible assumption) | (with_reducible refine Below.alloc ?_ ?_ _) | (with_reducible refine Below.drew ?_) | (with_reducible refine below_drewN ?_ _) | (with_reducible refine Below.setCell ?_ ?_ _) | (with_reducible refine Below.trans ?_ (Below.mono (by with_reducible assumption) ?_)) | omega | (simp only [ZA, ZS, ZD, ZN]; omega) | go_size))).mono ?_); rintro e w1 ⟨hR, hb1⟩; have hb1z := Below.size hb1; (try simp only [ZA, ZS, ZD, ZN] at hb1z); have hb1c0 := fun o => below_at hb1 (w.heap.size) o (by first | omega | (simp only [ZA, ZS, ZD, ZN]; omega)); have hb1f0 := fun o => below_fr hb1 (w.heap.size) o (by first | omega | (simp only [ZA, ZS, ZD, ZN]; omega)); have hb1c1 := fun o => below_at hb1 (w.heap.size + 1) o (by first | omega | (simp only [ZA, ZS, ZD, ZN]; omega)); have hb1f1 := fun o => below_fr hb1 (w.heap.size + 1) o (by first | omega | (simp only [ZA, ZS, ZD, ZN]; omega)))
  obtain ⟨v1, z1, rfl, hp⟩ := retVx_pass hR
  have HP := Lib.hid hp
  clear hp hR
  go_wp2
  go_ret2
  exact ⟨HP.out _ (Below.refl _ _), (by have z0 := Below.size hb1; (try simp only [ZA, ZS, ZD, ZN] at z0 ⊢; skip); repeat' (first | (with_reducible exact Below.refl _ _) | (with_reducible assumption) | (with_reducible refine Below.alloc ?_ ?_ _) | (with_reducible refine Below.drew ?_) | (with_reducible refine below_drewN ?_ _) | (with_reducible refine Below.setCell ?_ ?_ _) | (with_reducible refine Below.trans ?_ (Below.mono (by with_reducible assumption) ?_)) | omega | (simp only [ZA, ZS, ZD, ZN]; omega) | go_size))⟩
end
end Go.Proofs.YtlncafhgmbhocaaGreatDoor
