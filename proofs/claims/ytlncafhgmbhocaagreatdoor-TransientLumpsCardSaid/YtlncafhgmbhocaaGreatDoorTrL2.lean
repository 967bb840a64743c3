/- Contracts of functions and lemmas, used by the proofs of the given statements. No condition beyond those that each lemma names. -/
import Derived.Test.YtlncafhgmbhocaaGreatDoorTrL1
import Derived.Test.YtlncafhgmbhocaaGreatDoorJTrR1
namespace Go.Proofs.YtlncafhgmbhocaaGreatDoor
open Go.RowKit
set_option linter.unusedSimpArgs false
set_option linter.unusedVariables false
set_option maxRecDepth 20000
attribute [local irreducible] nv wp win plainB validR valR canR mvE chkM codeC exK maxF dsum
/-! ## law51: Few -/
structure FewP (c : Chn) : Prop where
  nm : c.nm ≤ 120
  nd : c.nd ≤ 300
  raw : ∀ k, k < c.nm → (c.R k).2.1.length ≤ 1 ∧ (c.R k).2.2.length ≤ 1
  den : 6 < c.nm → ∀ k, k < c.nm → (c.R k).2.2.length = 1 → nv (c.R k).2.2 < 16
  st : c.code = 0 → c.st ≤ 9
theorem ChI.okR {w : World} {b0 cm cd : Nat} {AM AD : Option Addr} {c : Chn} (h : ChI w b0 AM cm AD cd c) {k : Nat} (hk : k < c.nm) : okR (c.R k) := by
  obtain ⟨V, h1, h2⟩ := h.mv.1
  exact (h1 k hk).ok
theorem FewP.small {w : World} {b0 cm cd : Nat} {AM AD : Option Addr} {c : Chn} (h : FewP c) (hi : ChI w b0 AM cm AD cd c) : Small c :=
  ⟨h.nm, h.raw, fun k hk => hi.okR hk, h.den, fun ok => by have := h.st (Chn.ok_iff.2 ok); have := ok.st; omega⟩
theorem len1 {l : List Nat} (h : l.length = 1) : ∃ d, l = [d] := by
  match l, h with
  | [d], _ => exact ⟨d, rfl⟩
set_option maxHeartbeats 4000000 in
theorem few_any {w : World} {AM AD : Option Addr} {cm cd : Nat} {c : Chn} (h : ChI w w.heap.size AM cm AD cd c) :
    Calls Tryz.prog 10 #[cv c.st c.sr AM c.nm cm AD c.nd cd] w fun e w' => RetB (FewP c) e ∧ Below w.heap.size w w' := by
  have hM := h.mv.1
  have KC : c.nm ≤ 120 → Short c.nm c.R → Hid (∀ W, Below w.heap.size w W → Calls Tryz.prog 21 #[cv c.st c.sr AM c.nm cm AD c.nd cd] W fun e w' => e = .returned (.int .i64 c.code) ∧ Below W.heap.size W w') := fun h1 h2 => Lib.hid fun W hb => rchCheck (h.below hb) (by omega) h2
  have hP : c.nm ≤ 120 → c.nd ≤ 300 → (∀ k, k < c.nm → (c.R k).2.1.length ≤ 1 ∧ (c.R k).2.2.length ≤ 1) → (6 < c.nm → ∀ k, k < c.nm → (c.R k).2.2.length = 1 → nv (c.R k).2.2 < 16) → (c.code = 0 → c.st ≤ 9) → FewP c := fun h1 h2 h3 h4 h5 => ⟨h1, h2, h3, h4, h5⟩
  obtain ⟨cc, hcc⟩ : ∃ cc, cc = c.code := ⟨_, rfl⟩
  obtain ⟨PP, hPP⟩ : ∃ PP, PP = FewP c := ⟨_, rfl⟩
  rw [← hcc] at KC
  rw [← hcc, ← hPP] at hP
  rw [← hPP]
  clear hPP hcc h
  obtain ⟨st, sr, nm, F, T, R, nd, D⟩ := c
  simp only at *
  have HM := Lib.hid hM
  have HP := Lib.hid hP
  have HK := Lib.hid KC
  clear hM hP KC
  have hbA : ∀ o, Below w.heap.size w (w.alloc o) := fun o => (Below.refl _ _).alloc (Nat.le_refl _) o
  by_cases h1 : 120 < nm
  · have e1 : decide ((120 : Int) < (nm : Int)) = true := by simp; omega
    go_enter Tryz.func10, Tryz.ntmps10
    go_wp2
    go_ret
    exact ⟨retB_f, hbA _⟩
  · have e1 : decide ((120 : Int) < (nm : Int)) = false := by simp; omega
    by_cases h2 : 300 < nd
    · have e2 : decide ((300 : Int) < (nd : Int)) = true := by simp; omega
      go_enter Tryz.func10, Tryz.ntmps10
      go_wp2
      go_ret
      exact ⟨retB_f, hbA _⟩
    · have e2 : decide ((300 : Int) < (nd : Int)) = false := by simp; omega
      have hnm : nm ≤ 120 := by omega
      have hnd : nd ≤ 300 := by omega
      clear h1 h2
      obtain ⟨W0, hW0⟩ : ∃ W0, W0 = w.alloc (.cells #[.int .i64 st, .int .i64 sr, .slice AM nm cm, .slice AD nd cd] 25) := ⟨_, rfl⟩
      have hbW : Below w.heap.size w W0 := by rw [hW0]; exact hbA _
      have hWz : W0.heap.size = w.heap.size + 1 := by rw [hW0]; simp
      have g0 : W0.cell? ⟨w.heap.size, 0, none⟩ = some (.int .i64 st) := by rw [hW0]; simp
      have g1 : W0.cell? ⟨w.heap.size, 1, none⟩ = some (.int .i64 sr) := by rw [hW0]; simp
      have g2 : W0.cell? ⟨w.heap.size, 2, none⟩ = some (.slice AM nm cm) := by rw [hW0]; simp
      have g3 : W0.cell? ⟨w.heap.size, 3, none⟩ = some (.slice AD nd cd) := by rw [hW0]; simp
      have HW := Lib.hid hW0
      clear hW0
      go_enter Tryz.func10, Tryz.ntmps10
      go_wp2
      rw [← HW.out]
      go_loopw [18] (fun i wr => ∃ k : Nat, k ≤ nm ∧ i = .int .i64 (k : Int) ∧ (∀ j, j < k → ((R j).2.1.length ≤ 1 ∧ (R j).2.2.length ≤ 1) ∧ (6 < nm → (R j).2.2.length = 1 → nv (R j).2.2 < 16)) ∧ Below (w.heap.size + 1) W0 wr) (fun i _ => nm - (intOf i).toNat)
      case atStart => exact ⟨0, Nat.zero_le _, rfl, fun j hj => by omega, Below.refl _ _⟩
      case round =>
        obtain ⟨k, hk, rfl, hv, hb⟩ := hrel
        have HV := Lib.hid hv
        clear hv
        have hbz := hb.size
        have hbw : Below w.heap.size w wr := hbW.trans (hb.mono (by omega))
        have tv : ∀ {o : Nat} {v : Value}, W0.cell? ⟨w.heap.size, o, none⟩ = some v → wr.cell? ⟨w.heap.size, o, none⟩ = some v := fun h => (hb.cell (p := ⟨w.heap.size, _, none⟩) (by show w.heap.size < _; omega)).trans h
        have y0 := tv g0
        have y1 := tv g1
        have y2 := tv g2
        have y3 := tv g3
        by_cases hlt : k < nm
        · obtain ⟨b, off, s, A1, n1, c1, B1, m1, d1, rfl, hbb, f0, f1, f2, f3, f4, r0⟩ := HM.out.at_ hlt
          obtain ⟨l1, l2, -, -, hden⟩ := r0.lens'
          have tc : ∀ {b o : Nat} {v : Value}, w.cell? ⟨b, o, none⟩ = some v → wr.cell? ⟨b, o, none⟩ = some v := fun h => (hbw.cell (lt_of_cell h)).trans h
          have x0 := tc f0
          have x1 := tc f1
          have x2 := tc f2
          have x3 := tc f3
          have x4 := tc f4
          have hk0 : (0 : Int) ≤ (k : Int) := by omega
          have hk1 : (k : Int) < (nm : Int) := by omega
          have hwl : w.heap.size < wr.heap.size := by omega
          have HL1 := Lib.hid l1
          have HL2 := Lib.hid l2
          have HD := Lib.hid hden
          have hb9 : ∀ o, Below w.heap.size w (wr.alloc o) := fun o => hbw.trans ((Below.refl _ _).alloc hbw.size o)
          have hb8 : ∀ o, Below (w.heap.size + 1) W0 (wr.alloc o) := fun o => hb.trans ((Below.refl _ _).alloc (by omega) o)
          (have olc := fun o i => below_at ((Below.refl wr.heap.size wr).alloc (Nat.le_refl _) o) (w.heap.size) i (by omega)); (have olf := fun o i => below_fr ((Below.refl wr.heap.size wr).alloc (Nat.le_refl _) o) (w.heap.size) i (by omega))
          clear f0 f1 f2 f3 f4 r0 l1 l2 hden
          by_cases hn1 : 1 < n1
          · have a1 : decide ((1 : Int) < (n1 : Int)) = true := by simp; omega
            go_wp2
            go_ret
            exact ⟨retB_f, hb9 _⟩
          · have a1 : decide ((1 : Int) < (n1 : Int)) = false := by simp; omega
            by_cases hn2 : 1 < m1
            · have a2 : decide ((1 : Int) < (m1 : Int)) = true := by simp; omega
              go_wp2
              go_ret
              exact ⟨retB_f, hb9 _⟩
            · have a2 : decide ((1 : Int) < (m1 : Int)) = false := by simp; omega
              by_cases hn3 : 6 < nm
              · have a3 : decide ((6 : Int) < (nm : Int)) = true := by simp; omega
                by_cases hn4 : m1 = 1
                · have a4 : ((m1 : Int) == 1) = true := by simp [hn4]
                  obtain ⟨d, hd⟩ := len1 (HL2.out.trans hn4)
                  have hdc : ∃ bd od, B1 = some ⟨bd, od, none⟩ ∧ bd < w.heap.size ∧ w.cell? ⟨bd, od, none⟩ = some (.int .u32 (d : Int)) := by
                    obtain ⟨bd, od, e, h1, h2⟩ := HD.out.at_ (k := 0) (by rw [HL2.out]; omega)
                    refine ⟨bd, od, e, h1, ?_⟩
                    simp only [Nat.add_zero] at h2
                    rw [h2]
                    simp [hd]
                  obtain ⟨bd, od, rfl, hbd, h9⟩ := hdc
                  have z9 := tc h9
                  have hbd9 : bd < wr.heap.size := by have := hbw.size; omega
                  have HDD := Lib.hid hd
                  clear h9 hd
                  subst hn4
                  (have oddc := fun o i => below_at ((Below.refl wr.heap.size wr).alloc (Nat.le_refl _) o) (bd) i (by omega)); (have oddf := fun o i => below_fr ((Below.refl wr.heap.size wr).alloc (Nat.le_refl _) o) (bd) i (by omega))
                  by_cases hn5 : d < 16
                  · have a5 : decide ((16 : Int) ≤ (d : Int)) = false := by simp; omega
                    go_wp2
                    go_roundw
                    case rel =>
                      refine ⟨k + 1, by omega, by go_num, fun j hj => ?_, hb8 _⟩
                      by_cases e : j = k
                      · rw [e, HL1.out, HL2.out]
                        exact ⟨by omega, fun _ _ => by rw [HDD.out, nv_one]; exact hn5⟩
                      · exact HV.out j (by omega)
                    case measure => simp [intOf]; omega
                  · have a5 : decide ((16 : Int) ≤ (d : Int)) = true := by simp; omega
                    go_wp2
                    go_ret
                    exact ⟨retB_f, hb9 _⟩
                · have a4 : ((m1 : Int) == 1) = false := beq_eq_false_iff_ne.2 (by omega)
                  go_wp2
                  go_roundw
                  case rel =>
                    refine ⟨k + 1, by omega, by go_num, fun j hj => ?_, hb8 _⟩
                    by_cases e : j = k
                    · rw [e, HL1.out, HL2.out]
                      exact ⟨by omega, fun _ h => absurd h hn4⟩
                    · exact HV.out j (by omega)
                  case measure => simp [intOf]; omega
              · have a3 : decide ((6 : Int) < (nm : Int)) = false := by simp; omega
                go_wp2
                go_roundw
                case rel =>
                  refine ⟨k + 1, by omega, by go_num, fun j hj => ?_, hb8 _⟩
                  by_cases e : j = k
                  · rw [e, HL1.out, HL2.out]
                    exact ⟨by omega, fun h => absurd h hn3⟩
                  · exact HV.out j (by omega)
                case measure => simp [intOf]; omega
        · have hkn : k = nm := by omega
          subst hkn
          have KCh := HK.out hnm (fun k hk => by have := (HV.out k hk).1; omega)
          by_cases hc0 : cc = 0
          · have q1 : (cc != 0) = false := by simp [hc0]
            by_cases hs9 : st ≤ 9
            · have q2 : decide (st ≤ 9) = true := by simpa using hs9
              have HPP := Lib.hid (HP.out hnm hnd (fun k hk => (HV.out k hk).1) (fun h6 k hk => (HV.out k hk).2 h6) (fun _ => hs9))
              clear hs9 hc0
              (go_wp2_with fail; (with_reducible refine (KCh.out _ hbw).mono ?_); rintro e w2 ⟨rfl, hb2⟩; have hb2z := Below.size hb2; (try simp only [ZA, ZS, ZD, ZN] at hb2z); have hb2c0 := fun o => below_at hb2 (w.heap.size) o (by first | omega | (simp only [ZA, ZS, ZD, ZN]; omega)); have hb2f0 := fun o => below_fr hb2 (w.heap.size) o (by first | omega | (simp only [ZA, ZS, ZD, ZN]; omega)))
              go_wp2
              go_ret
              exact ⟨retB_t HPP.out, hbw.trans (hb2.mono hbw.size)⟩
            · have q2 : decide (st ≤ 9) = false := by simpa using hs9
              clear hs9 hc0
              (go_wp2_with fail; (with_reducible refine (KCh.out _ hbw).mono ?_); rintro e w2 ⟨rfl, hb2⟩; have hb2z := Below.size hb2; (try simp only [ZA, ZS, ZD, ZN] at hb2z); have hb2c0 := fun o => below_at hb2 (w.heap.size) o (by first | omega | (simp only [ZA, ZS, ZD, ZN]; omega)); have hb2f0 := fun o => below_fr hb2 (w.heap.size) o (by first | omega | (simp only [ZA, ZS, ZD, ZN]; omega)))
              go_wp2
              go_ret
              exact ⟨retB_f, hbw.trans (hb2.mono hbw.size)⟩
          · have q1 : (cc != 0) = true := by simpa using hc0
            have HPP := Lib.hid (HP.out hnm hnd (fun k hk => (HV.out k hk).1) (fun h6 k hk => (HV.out k hk).2 h6) (fun h => absurd h hc0))
            clear hc0
            (go_wp2_with fail; (with_reducible refine (KCh.out _ hbw).mono ?_); rintro e w2 ⟨rfl, hb2⟩; have hb2z := Below.size hb2; (try simp only [ZA, ZS, ZD, ZN] at hb2z); have hb2c0 := fun o => below_at hb2 (w.heap.size) o (by first | omega | (simp only [ZA, ZS, ZD, ZN]; omega)); have hb2f0 := fun o => below_fr hb2 (w.heap.size) o (by first | omega | (simp only [ZA, ZS, ZD, ZN]; omega)))
            go_wp2
            go_ret
            exact ⟨retB_t HPP.out, hbw.trans (hb2.mono hbw.size)⟩
end Go.Proofs.YtlncafhgmbhocaaGreatDoor
