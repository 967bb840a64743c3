/- Contracts of functions and lemmas, used by the proofs of the given statements. No condition beyond those that each lemma names. -/
import Derived.Test.YtoiopnmphbnjaaaGreatDoorJDynW8
import Derived.Test.YtoiopnmphbnjaaaGreatDoorJChX
namespace Go.Proofs.YtoiopnmphbnjaaaGreatDoor
open Go.RowKit
set_option linter.unusedSimpArgs false
set_option linter.unusedVariables false
set_option maxRecDepth 20000
attribute [local irreducible] nv wp win plainB validR valR canR
/-! ## law22: Short; law48: Light -/
def Sh (L : Nat) (r : Rw) : Prop := r.2.1.length ≤ L ∧ r.2.2.length ≤ L
set_option maxHeartbeats 4000000 in
theorem short22_any {w : World} {b0 : Nat} {v : Value} {r : Rw} (h : RdS w b0 v r) :
    Calls Tryz.prog 42 #[v] w fun e w' => RetBi (Sh 40 r) e ∧ Below w.heap.size w w' := by
  obtain ⟨A, c, B, d, rfl, c1, c2, ok, rA, rB, _, _⟩ := h
  obtain ⟨s, l, m⟩ := r
  dsimp only at *
  have HB : Hid (l.length ≤ 40 → m.length ≤ 40 → Sh 40 (s, l, m)) := fun h1 h2 => ⟨h1, h2⟩
  generalize Sh 40 (s, l, m) = P at *
  have hbA : ∀ o, Below w.heap.size w (w.alloc o) := fun o => (Below.refl _ _).alloc (Nat.le_refl _) o
  by_cases h1 : l.length ≤ 40
  · have e2 : decide ((l.length : Int) ≤ 40) = true := by simp; omega
    by_cases h2 : m.length ≤ 40
    · have e3 : decide ((m.length : Int) ≤ 40) = true := by simp; omega
      go_enter Tryz.func42, Tryz.ntmps42
      go_wp2
      go_ret
      exact ⟨retBi_t (HB.out h1 h2), hbA _⟩
    · have e3 : decide ((m.length : Int) ≤ 40) = false := by simp; omega
      go_enter Tryz.func42, Tryz.ntmps42
      go_wp2
      go_ret
      exact ⟨retBi_f, hbA _⟩
  · have e2 : decide ((l.length : Int) ≤ 40) = false := by simp; omega
    go_enter Tryz.func42, Tryz.ntmps42
    go_wp2
    go_ret
    exact ⟨retBi_f, hbA _⟩
structure Lt48 (r : DyR) : Prop where
  ng : r.ng ≤ 100
  ar : ∀ k, k < r.ng → (r.ar k).length ≤ 40
  dor : ∀ k, k < r.ng → Sh 40 (r.dor k)
  nf : r.nf ≤ 60
  fl : ∀ k, k < r.nf → Sh 40 (r.fl k)
  nr : r.nr ≤ 60
  rp : ∀ k, k < r.nr → Sh 40 (r.rp k)
theorem Lt48.s {r : DyR} (h : Lt48 r) : DyS r := ⟨fun k hk => by have := h.dor k hk; unfold Sh at this; omega, fun k hk => by have := h.fl k hk; unfold Sh at this; omega, fun k hk => by have := h.rp k hk; unfold Sh at this; omega, by have := h.ng; omega, by have := h.nf; omega, by have := h.nr; omega⟩
/-- the first k lists are short -/
def lsK (r : DyR) (k : Nat) : Prop := (0 < k → r.nf ≤ 60 ∧ ∀ j, j < r.nf → Sh 40 (r.fl j)) ∧ (1 < k → r.nr ≤ 60 ∧ ∀ j, j < r.nr → Sh 40 (r.rp j))
set_option maxHeartbeats 8000000 in
theorem light48_any {w : World} {AG AF AR : Option Addr} {cg cf cr : Nat} {r : DyR} (h : DyI w AG AF AR r) (hmx : r.ng ≤ maxLen) :
    Calls Tryz.prog 9 #[dyv r AG cg AF cf AR cr] w fun e w' => RetBi (Lt48 r) e ∧ Below w.heap.size w w' := by
  have hmx2 : r.ng ≤ 9223372036854775807 := hmx
  have HFIN : Hid ((∀ j, j < r.ng → (r.ar j).length ≤ 40 ∧ Sh 40 (r.dor j)) → lsK r 2 → r.ng ≤ 100 → Lt48 r) := fun h1 h2 h3 => ⟨h3, fun k hk => (h1 k hk).1, fun k hk => (h1 k hk).2, (h2.1 (by omega)).1, (h2.1 (by omega)).2, (h2.2 (by omega)).1, (h2.2 (by omega)).2⟩
  have HL0 : Hid (lsK r 0) := ⟨fun h => absurd h (by omega), fun h => absurd h (by omega)⟩
  have HLK : Hid (∀ k, k < 2 → ∃ A n c R, (k = 0 → (A, n, c) = (AF, r.nf, cf)) ∧ (k = 1 → (A, n, c) = (AR, r.nr, cr)) ∧ RowA w w.heap.size A n R ∧ (lsK r k → n ≤ 60 → (∀ j, j < n → Sh 40 (R j)) → lsK r (k + 1))) := fun k hk => by
    rcases (show k = 0 ∨ k = 1 by omega) with rfl | rfl
    · exact ⟨AF, r.nf, cf, r.fl, fun _ => rfl, fun h => absurd h (by omega), h.fa, fun _ h1 h2 => ⟨fun _ => ⟨h1, h2⟩, fun h => absurd h (by omega)⟩⟩
    · exact ⟨AR, r.nr, cr, r.rp, fun h => absurd h (by omega), fun _ => rfl, h.ra, fun h0 h1 h2 => ⟨fun _ => h0.1 (by omega), fun _ => ⟨h1, h2⟩⟩⟩
  have HAT := Lib.hid (fun k hk => h.at_ (k := k) hk)
  generalize Lt48 r = P at *
  generalize lsK r = LK at *
  clear h hmx
  unfold dyv
  obtain ⟨v, ng, kd, kk, ar, dor, top, nf, fl, nr, rp⟩ := r
  simp only at *
  go_enter Tryz.func9, Tryz.ntmps9
  go_wp2_with fail
  go_loopw [12] (fun i wr => ∃ k : Nat, k ≤ ng ∧ i = .int .i64 (k : Int) ∧ (∀ j, j < k → (ar j).length ≤ 40 ∧ Sh 40 (dor j)) ∧ Below w.heap.size w wr ∧ wr.cell? ⟨w.heap.size, 1, none⟩ = some (.slice AG ng cg) ∧ wr.cell? ⟨w.heap.size, 3, none⟩ = some (.slice AF nf cf) ∧ wr.cell? ⟨w.heap.size, 4, none⟩ = some (.slice AR nr cr) ∧ w.heap.size < wr.heap.size) (fun i _ => ng - (intOf i).toNat)
  case atStart => exact ⟨0, Nat.zero_le _, rfl, fun j hj => by omega, (Below.refl _ _).alloc (Nat.le_refl _) _, by simp [go_sem], by simp [go_sem], by simp [go_sem], by simp⟩
  case round =>
    obtain ⟨k, hk, rfl, hv, hb, y1, y3, y4, hz⟩ := hrel
    obtain ⟨wo, rfl⟩ : ∃ wo : World, wo = wr := ⟨_, rfl⟩
    have HV := Lib.hid hv
    clear hv
    by_cases hlt : k < ng
    · obtain ⟨b, off, A1, c1, sg, A2, n2, c2, A3, n3, c3, rfl, hbb, f0, f1, f2, f3, f4, f5, -, r0, -⟩ := HAT.out k hlt
      have x0 := (hb.cell (lt_of_cell f0)).trans f0
      have x1 := (hb.cell (lt_of_cell f1)).trans f1
      have x2 := (hb.cell (lt_of_cell f2)).trans f2
      have x3 := (hb.cell (lt_of_cell f3)).trans f3
      have x4 := (hb.cell (lt_of_cell f4)).trans f4
      have x5 := (hb.cell (lt_of_cell f5)).trans f5
      have r1 := r0.kp (Kp.of_below hb)
      have K1 := Lib.hid (fun W (hX : Below wo.heap.size wo W) => short22_any (r1.kp (Kp.of_below hX)))
      have hk0 : (0 : Int) ≤ (k : Int) := by omega
      have hki : (k : Int) < (ng : Int) := by omega
      have hAL : ∀ ob, Below wo.heap.size wo (wo.alloc ob) := fun ob => (Below.refl _ _).alloc (Nat.le_refl _) ob
      clear f0 f1 f2 f3 f4 f5 r0 r1
      generalize hln : (ar k).length = ln at *
      by_cases h40 : 40 < ln
      · have e1 : decide ((40 : Int) < (ln : Int)) = true := by simp; omega
        go_wp2_with fail
        go_ret
        exact ⟨retBi_f, hb.trans ((hAL _).mono hb.size)⟩
      · have e1 : decide ((40 : Int) < (ln : Int)) = false := by simp; omega
        go_wp2_with fail
        refine (K1.out _ (by (skip); repeat' (first | (with_reducible exact Below.refl _ _) | (with_reducible assumption) | (with_reducible refine Below.alloc ?_ ?_ _) | (with_reducible refine Below.drew ?_) | (with_reducible refine below_drewN ?_ _) | (with_reducible refine Below.setCell ?_ ?_ _) | (with_reducible refine Below.trans ?_ (Below.mono (by with_reducible assumption) ?_)) | omega | (simp only [ZA, ZS, ZD, ZN]; omega) | go_size))).mono ?_
        rintro e w5 ⟨⟨bb, rfl, hbb5⟩, hb5⟩
        have hbF : Below w.heap.size w w5 := (by have z0 := Below.size hb; have z1 := Below.size hb5; (try simp only [ZA, ZS, ZD, ZN] at z0 z1 ⊢; skip); repeat' (first | (with_reducible exact Below.refl _ _) | (with_reducible assumption) | (with_reducible refine Below.alloc ?_ ?_ _) | (with_reducible refine Below.drew ?_) | (with_reducible refine below_drewN ?_ _) | (with_reducible refine Below.setCell ?_ ?_ _) | (with_reducible refine Below.trans ?_ (Below.mono (by with_reducible assumption) ?_)) | omega | (simp only [ZA, ZS, ZD, ZN]; omega) | go_size))
        have z1 := (below_at hb5 w.heap.size 1 (by simp; omega)).trans ((below_at (hAL _) w.heap.size 1 hz).trans y1)
        have z3 := (below_at hb5 w.heap.size 3 (by simp; omega)).trans ((below_at (hAL _) w.heap.size 3 hz).trans y3)
        have z4 := (below_at hb5 w.heap.size 4 (by simp; omega)).trans ((below_at (hAL _) w.heap.size 4 hz).trans y4)
        have hz5 := hb5.size
        simp only [World.size_alloc] at hz5
        clear hb5 y1 y3 y4
        cases bb with
        | true =>
          have hsh := hbb5 (by trivial)
          clear hbb5
          go_wp2_with fail
          go_roundw
          case rel =>
            refine ⟨k + 1, by omega, by go_num, fun j hj => ?_, hbF, z1, z3, z4, by omega⟩
            by_cases e : j = k
            · subst e; exact ⟨by omega, hsh⟩
            · exact HV.out j (by omega)
          case measure => simp [intOf]; omega
        | false =>
          go_wp2_with fail
          go_ret
          exact ⟨retBi_f, hbF⟩
    · obtain rfl : k = ng := by omega
      have hB9 := Lib.hid hb
      have hv1 : ∀ o, (wo.alloc (.cells #[.slice AF nf cf, .slice AR nr cr] o)).heap.size = wo.heap.size + 1 := fun o => by simp
      clear hb
      go_wp2_with fail
      go_loopw [33] (fun i wr => ∃ q : Nat, q ≤ 2 ∧ i = .int .i64 (q : Int) ∧ LK q ∧ Below w.heap.size w wr ∧ wr.cell? ⟨w.heap.size, 1, none⟩ = some (.slice AG k cg) ∧ (wr.cell? ⟨wo.heap.size, 0, none⟩ = some (.slice AF nf cf) ∧ wr.cell? ⟨wo.heap.size, 1, none⟩ = some (.slice AR nr cr)) ∧ wo.heap.size < wr.heap.size) (fun i _ => 2 - (intOf i).toNat)
      case atStart => exact ⟨0, Nat.zero_le _, rfl, HL0.out, hB9.out.trans (((Below.refl wo.heap.size wo).alloc (Nat.le_refl _) _).mono hB9.out.size), (below_at ((Below.refl wo.heap.size wo).alloc (Nat.le_refl _) _) w.heap.size 1 hz).trans y1, ⟨by simp [go_sem], by simp [go_sem]⟩, by simp⟩
      case round =>
        obtain ⟨q, hq, rfl, hlk, hb, u1, ⟨u3, u4⟩, hzo⟩ := hrel
        clear y1 y3 y4 hB9
        obtain ⟨wp, rfl⟩ : ∃ wp : World, wp = wr := ⟨_, rfl⟩
        have HLQ := Lib.hid hlk
        clear hlk
        by_cases hq2 : q < 2
        · obtain ⟨A, n, cn, R, he0, he1, hrow, hnx⟩ := HLK.out q hq2
          have uq : wp.cell? ⟨wo.heap.size, q, none⟩ = some (.slice A n cn) := by
            rcases (show q = 0 ∨ q = 1 by omega) with rfl | rfl
            · have := he0 rfl
              injection this with e1 e2
              injection e2 with e2 e3
              rw [e1, e2, e3]; exact u3
            · have := he1 rfl
              injection this with e1 e2
              injection e2 with e2 e3
              rw [e1, e2, e3]; exact u4
          have HRow := Lib.hid hrow
          have HNX := Lib.hid (hnx HLQ.out)
          have HB := Lib.hid hb
          have hq0 : (0 : Int) ≤ (q : Int) := by omega
          have hqi : (q : Int) < 2 := by omega
          clear he0 he1 hrow hnx hb
          by_cases h60 : 60 < n
          · have e1 : decide ((60 : Int) < (n : Int)) = true := by simp; omega
            go_wp2_with fail
            go_ret
            exact ⟨retBi_f, HB.out⟩
          · have e1 : decide ((60 : Int) < (n : Int)) = false := by simp; omega
            go_wp2_with fail
            go_loopw [42] (fun i wr => ∃ j : Nat, j ≤ n ∧ i = .int .i64 (j : Int) ∧ (∀ i, i < j → Sh 40 (R i)) ∧ Below wp.heap.size wp wr) (fun i _ => n - (intOf i).toNat)
            case atStart => exact ⟨0, Nat.zero_le _, rfl, fun j hj => by omega, Below.refl _ _⟩
            case round =>
              obtain ⟨j, hj, rfl, hv, hb⟩ := hrel
              have HV2 := Lib.hid hv
              clear hv
              have hbz := hb.size
              have hbw := HB.out.trans (hb.mono HB.out.size)
              by_cases hjn : j < n
              · obtain ⟨bx, ox, s1, A1, n1, c1, B1, m1, d1, rfl, hbx, f0, f1, f2, r1⟩ := HRow.out.at_ hjn
                have x0 := (hbw.cell (lt_of_cell f0)).trans f0
                have x1 := (hbw.cell (lt_of_cell f1)).trans f1
                have x2 := (hbw.cell (lt_of_cell f2)).trans f2
                have r2 := r1.kp (Kp.of_below hbw)
                have K1 := Lib.hid (fun W (hX : Below wr.heap.size wr W) => short22_any (r2.kp (Kp.of_below hX)))
                have hj0 : (0 : Int) ≤ (j : Int) := by omega
                have hji : (j : Int) < (n : Int) := by omega
                clear f0 f1 f2 r1 r2
                go_wp2_with fail
                refine (K1.out _ (by (skip); repeat' (first | (with_reducible exact Below.refl _ _) | (with_reducible assumption) | (with_reducible refine Below.alloc ?_ ?_ _) | (with_reducible refine Below.drew ?_) | (with_reducible refine below_drewN ?_ _) | (with_reducible refine Below.setCell ?_ ?_ _) | (with_reducible refine Below.trans ?_ (Below.mono (by with_reducible assumption) ?_)) | omega | (simp only [ZA, ZS, ZD, ZN]; omega) | go_size))).mono ?_
                rintro e w5 ⟨⟨bb, rfl, hbb5⟩, hb5⟩
                have hbF : Below wp.heap.size wp w5 := (by have z0 := Below.size hb; have z1 := Below.size hb5; (try simp only [ZA, ZS, ZD, ZN] at z0 z1 ⊢; skip); repeat' (first | (with_reducible exact Below.refl _ _) | (with_reducible assumption) | (with_reducible refine Below.alloc ?_ ?_ _) | (with_reducible refine Below.drew ?_) | (with_reducible refine below_drewN ?_ _) | (with_reducible refine Below.setCell ?_ ?_ _) | (with_reducible refine Below.trans ?_ (Below.mono (by with_reducible assumption) ?_)) | omega | (simp only [ZA, ZS, ZD, ZN]; omega) | go_size))
                clear hb5
                cases bb with
                | true =>
                  have hsh := hbb5 (by trivial)
                  clear hbb5
                  go_wp2_with fail
                  go_roundw
                  case rel =>
                    refine ⟨j + 1, by omega, by go_num, fun i hi => ?_, hbF⟩
                    by_cases e : i = j
                    · subst e; exact hsh
                    · exact HV2.out i (by omega)
                  case measure => simp [intOf]; omega
                | false =>
                  go_wp2_with fail
                  go_ret
                  exact ⟨retBi_f, HB.out.trans (hbF.mono HB.out.size)⟩
              · obtain rfl : j = n := by omega
                have hN := HNX.out (by omega) HV2.out
                have z1 := (below_at hb w.heap.size 1 (by omega)).trans u1
                have z3 := (below_at hb wo.heap.size 0 hzo).trans u3
                have z4 := (below_at hb wo.heap.size 1 hzo).trans u4
                go_wp2_with fail
                go_roundw
                case rel => exact ⟨q + 1, by omega, by go_num, hN, hbw, z1, ⟨z3, z4⟩, by omega⟩
                case measure => simp [intOf]; omega
        · obtain rfl : q = 2 := by omega
          by_cases h1 : k ≤ 100
          · have e1 : decide ((k : Int) ≤ 100) = true := by simp; omega
            have HP := Lib.hid (HFIN.out HV.out HLQ.out h1)
            clear HV HFIN
            go_wp2_with fail
            go_ret
            exact ⟨retBi_t HP.out, hb⟩
          · have e1 : decide ((k : Int) ≤ 100) = false := by simp; omega
            go_wp2_with fail
            go_ret
            exact ⟨retBi_f, hb⟩
end Go.Proofs.YtoiopnmphbnjaaaGreatDoor
