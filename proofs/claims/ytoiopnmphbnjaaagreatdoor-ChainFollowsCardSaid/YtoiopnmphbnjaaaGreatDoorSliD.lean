/- Contracts of functions and lemmas, used by the proofs of the given statements. No condition beyond those that each lemma names. -/
import Derived.Test.YtoiopnmphbnjaaaGreatDoorJDynMk2
namespace Go.Proofs.YtoiopnmphbnjaaaGreatDoor
open Go.RowKit
set_option linter.unusedSimpArgs false
set_option linter.unusedVariables false
set_option maxRecDepth 20000
attribute [local irreducible] nv wp win plainB validR valR canR
/-! ## law49: slight -/
theorem OwR.lit0 (W : World) {b0 : Nat} (hb : b0 ≤ W.heap.size) (R : Nat → Rw) : OwR (W.alloc (.cells #[] 56)) b0 (some ⟨W.heap.size, 0, none⟩) 0 0 R :=
  ⟨fun _ => .nilIface, fun k hk => absurd hk (Nat.not_lt_zero _), World.ownsRow_lit W #[] 0 hb (Nat.zero_le _) rfl⟩
theorem OwR.gr9 {w w' : World} {b0 c n B : Nat} {A : Option Addr} {R : Nat → Rw} (h : OwR w b0 A c n R) (hg : w.grownBy w' (Value.slice A n c).ownBlock) (hb : B ≤ w.heap.size) (hB : B ≤ b0) : Below B w w' := by
  refine (Below.refl _ _).grown hg hb fun k hk => ?_
  cases e : A with
  | none => rw [e] at hk; cases hk
  | some a =>
    rw [e] at hk
    injection hk with hk
    subst hk
    exact Nat.le_trans hB (h.blockA e).1
theorem RowA.later9 {w w' : World} {b0 n : Nat} {A : Option Addr} {R : Nat → Rw} (h : RowA w b0 A n R) (hb : Below w.heap.size w w') : RowA w' b0 A n R := by
  obtain ⟨V, h1, h2⟩ := h
  exact ⟨V, fun k hk => (h1 k hk).kp (Kp.of_below hb), Rds.more (Rds.below h2 hb) hb.size⟩
theorem RowA.up9 {w : World} {b0 b1 n : Nat} {A : Option Addr} {R : Nat → Rw} (h : RowA w b0 A n R) (hb : b0 ≤ b1) : RowA w b1 A n R := by
  obtain ⟨V, h1, h2⟩ := h
  exact ⟨V, fun k hk => (h1 k hk).base hb, h2⟩
theorem RowA.one9 (W : World) {b0 : Nat} {s : Bool} {A : Option Addr} {n c : Nat} {B : Option Addr} {m d : Nat} {r : Rw} (hr : RdS W b0 (rv s A n c B m d) r) : RowA (W.alloc (.cells #[.bool s, .slice A n c, .slice B m d] 56)) b0 (some ⟨W.heap.size, 0, none⟩) 1 (fun _ => r) := by
  have hb : Below W.heap.size W (W.alloc (.cells #[.bool s, .slice A n c, .slice B m d] 56)) := (Below.refl _ _).alloc (Nat.le_refl _) _
  refine ⟨fun _ => rv s A n c B m d, fun k hk => hr.kp (Kp.of_below hb), by simp [cellsV, c3], fun _ => ⟨W.heap.size, 0, rfl, by simp, fun j u hu => ?_⟩⟩
  rw [World.cell?_alloc_at _ _ _ _ rfl, Nat.zero_add]
  match j, hu with
  | 0, hu => exact hu
  | 1, hu => exact hu
  | 2, hu => exact hu
  | j + 3, hu => simp [cellsV, c3] at hu
theorem RdS.lens9 {w : World} {b0 : Nat} {s : Bool} {A : Option Addr} {n c : Nat} {B : Option Addr} {m d : Nat} {r : Rw} (h : RdS w b0 (rv s A n c B m d) r) : r.2.1.length = n ∧ r.2.2.length = m := by
  obtain ⟨A', c', B', d', e, _⟩ := h
  injection e with e
  have e1 := congrArg (·[1]?) e
  have e2 := congrArg (·[2]?) e
  simp at e1 e2
  exact ⟨e1.2.1.symm, e2.2.1.symm⟩
structure Sl49 (r : DyR) : Prop where
  fl : ∀ k, k < r.nf → Sh 4 (r.fl k)
  rp : ∀ k, k < r.nr → Sh 4 (r.rp k)
  dor : ∀ k, k < r.ng → Sh 4 (r.dor k)
/-- the list that is looked through -/
def slL (r : DyR) (k : Nat) : Rw := if k < r.nf then r.fl k else if k < r.nf + r.nr then r.rp (k - r.nf) else r.dor (k - (r.nf + r.nr))
theorem Sl49.of {r : DyR} (h : ∀ k, k < r.nf + r.nr + r.ng → Sh 4 (slL r k)) : Sl49 r := by
  refine ⟨fun k hk => ?_, fun k hk => ?_, fun k hk => ?_⟩
  · have := h k (by omega)
    unfold slL at this
    rwa [if_pos hk] at this
  · have := h (r.nf + k) (by omega)
    unfold slL at this
    rwa [if_neg (by omega), if_pos (by omega), show r.nf + k - r.nf = k by omega] at this
  · have := h (r.nf + r.nr + k) (by omega)
    unfold slL at this
    rwa [if_neg (by omega), if_neg (by omega), show r.nf + r.nr + k - (r.nf + r.nr) = k by omega] at this
set_option maxHeartbeats 8000000 in
theorem slight_any {w : World} {AG AF AR : Option Addr} {cg cf cr : Nat} {r : DyR} (h : DyI w AG AF AR r) (hl : Lt48 r) :
    Calls Tryz.prog 10 #[dyv r AG cg AF cf AR cr] w fun e w' => RetBi (Sl49 r) e ∧ Below w.heap.size w w' := by
  have hng := hl.ng
  have hnf := hl.nf
  have hnr := hl.nr
  have HFIN : Hid ((∀ k, k < r.nf + r.nr + r.ng → Sh 4 (slL r k)) → Sl49 r) := Sl49.of
  have HS1 : Hid (∀ k, k < r.nf + r.nr → slL r k = if k < r.nf then r.fl k else r.rp (k - r.nf)) := fun k hk => by
    unfold slL
    by_cases h : k < r.nf
    · rw [if_pos h, if_pos h]
    · rw [if_neg h, if_neg h, if_pos hk]
  have HS2 : Hid (∀ k, slL r (r.nf + r.nr + k) = r.dor k) := fun k => by
    unfold slL
    rw [if_neg (by omega), if_neg (by omega), show r.nf + r.nr + k - (r.nf + r.nr) = k by omega]
  have HF := Lib.hid (fun W hb => h.fa.later9 (w' := W) hb)
  have HR := Lib.hid (fun W hb => h.ra.later9 (w' := W) hb)
  have HAT := Lib.hid (fun k hk => h.at_ (k := k) hk)
  generalize Sl49 r = P at *
  generalize slL r = S at *
  clear h hl
  unfold dyv
  obtain ⟨v, ng, kd, kk, ar, dor, top, nf, fl, nr, rp⟩ := r
  simp only at *
  go_enter Tryz.func10, Tryz.ntmps10
  go_wp2_with fail
  obtain ⟨w1, hw1⟩ : ∃ w1, w1 = w.alloc (.cells #[.int .i64 v, .slice AG ng cg, .int .i64 top, .slice AF nf cf, .slice AR nr cr] 25) := ⟨_, rfl⟩
  have y1 : w1.cell? ⟨w.heap.size, 1, none⟩ = some (.slice AG ng cg) := by rw [hw1]; simp
  have y3 : w1.cell? ⟨w.heap.size, 3, none⟩ = some (.slice AF nf cf) := by rw [hw1]; simp
  have y4 : w1.cell? ⟨w.heap.size, 4, none⟩ = some (.slice AR nr cr) := by rw [hw1]; simp
  have hb1 : Below w.heap.size w w1 := by rw [hw1]; exact (Below.refl _ _).alloc (Nat.le_refl _) _
  have hz1 : w1.heap.size = w.heap.size + 1 := by rw [hw1]; simp
  rw [← hw1]
  have hlit : OwR (w1.drew.alloc (.cells #[] 56)) (w.heap.size + 1) (some ⟨w1.heap.size, 0, none⟩) 0 0 (fun _ => canR 0) := OwR.lit0 w1.drew (by simp; omega) _
  have hfr : RowA (w1.drew.alloc (.cells #[] 56)) (w.heap.size + 1) AF nf fl := by
    obtain ⟨V, h1, h2⟩ := HF.out (w1.drew.alloc (.cells #[] 56)) (by have z0 := Below.size hb1; (try simp only [ZA, ZS, ZD, ZN] at z0 ⊢; skip); repeat' (first | (with_reducible exact Below.refl _ _) | (with_reducible assumption) | (with_reducible refine Below.alloc ?_ ?_ _) | (with_reducible refine Below.drew ?_) | (with_reducible refine below_drewN ?_ _) | (with_reducible refine Below.setCell ?_ ?_ _) | (with_reducible refine Below.trans ?_ (Below.mono (by with_reducible assumption) ?_)) | omega | (simp only [ZA, ZS, ZD, ZN]; omega) | go_size))
    exact ⟨V, fun k hk => (h1 k hk).base (by omega), h2⟩
  have y4l : (w1.drew.alloc (.cells #[] 56)).cell? ⟨w.heap.size, 4, none⟩ = some (.slice AR nr cr) := (below_at (((Below.refl w1.heap.size w1).drew).alloc (Nat.le_refl _) _) w.heap.size 4 (by omega)).trans y4
  have y1l : (w1.drew.alloc (.cells #[] 56)).cell? ⟨w.heap.size, 1, none⟩ = some (.slice AG ng cg) := (below_at (((Below.refl w1.heap.size w1).drew).alloc (Nat.le_refl _) _) w.heap.size 1 (by omega)).trans y1
  have hbl : Below w.heap.size w (w1.drew.alloc (.cells #[] 56)) := (by have z0 := Below.size hb1; (try simp only [ZA, ZS, ZD, ZN] at z0 ⊢; skip); repeat' (first | (with_reducible exact Below.refl _ _) | (with_reducible assumption) | (with_reducible refine Below.alloc ?_ ?_ _) | (with_reducible refine Below.drew ?_) | (with_reducible refine below_drewN ?_ _) | (with_reducible refine Below.setCell ?_ ?_ _) | (with_reducible refine Below.trans ?_ (Below.mono (by with_reducible assumption) ?_)) | omega | (simp only [ZA, ZS, ZD, ZN]; omega) | go_size))
  clear hw1
  go_cut [3] from 8 to 14 (fun v wx => ∃ (A : Option Addr) (c : Nat), v = .slice A (nf + nr) c ∧ OwR wx (w.heap.size + 1) A c (nf + nr) S ∧ Below w.heap.size w wx ∧ w.heap.size + 1 ≤ wx.heap.size ∧ wx.cell? ⟨w.heap.size, 1, none⟩ = some (.slice AG ng cg))
  case first =>
    go_region_law (first | (refine step_appRs rfl (.tmp 8) (.tmp 10) rfl (w.heap.size + 1) (some ⟨w1.heap.size, 0, none⟩) 0 0 (fun _ => canR 0) (by simp [Act.eval]; done) hlit AF nf cf fl (by simp [Act.eval]; done) hfr (by omega) (by simp; omega) ?_; intro A5 c5 w5 own5 hg5; (have hb5 := hlit.gr9 hg5 (B := w.heap.size + 1) (by simp; omega) (Nat.le_refl _)); (have y5 := (below_at hb5 w.heap.size 4 (by omega)).trans y4l); (have y51 := (below_at hb5 w.heap.size 1 (by omega)).trans y1l); (have hbw5 : Below w.heap.size w w5 := hbl.trans (hb5.mono (by omega))); (have hz5 : w.heap.size + 1 ≤ w5.heap.size := (by have := hb5.size; simp at this; omega)); (have har5 := (HR.out w5 hbw5).up9 (b1 := w.heap.size + 1) (by omega))) | (refine step_appRs rfl (.tmp 11) (.tmp 13) rfl (w.heap.size + 1) A5 c5 (0 + nf) _ (by simp [Act.eval]; done) own5 AR nr cr rp (by simp [Act.eval]; done) har5 (by omega) hz5 ?_; intro A6 c6 w6 own6 hg6) | go_simp)
    all_goals
      have hb6 := own5.gr9 hg6 (B := w.heap.size + 1) hz5 (Nat.le_refl _)
      have hbF : Below w.heap.size w w6 := hbw5.trans (hb6.mono (by omega))
      have z1 := (below_at hb6 w.heap.size 1 (by omega)).trans y51
      have hz6 : w.heap.size + 1 ≤ w6.heap.size := by have := hb6.size; omega
      have HO6 : Hid (OwR w6 (w.heap.size + 1) A6 c6 (nf + nr) S) := by
        show OwR _ _ _ _ _ _
        have := own6.congr (U := S) (fun k hk => by
          rw [HS1.out k (by omega)]
          simp)
        rw [Nat.zero_add] at this
        exact this
      clear own5 own6 hg5 hg6 hb5 hb6 y5 y51 har5 hlit hfr y4l y1l hbl y1 y3 y4 hb1 HR HF hbw5 hz5
      go_wp2_with fail
      go_meet
      case rel => exact ⟨A6, c6, rfl, HO6.out, hbF, hz6, z1⟩
  case rest =>
    obtain ⟨A6, c6, rfl, ho6, hbF, hz6, z1⟩ := hcut
    have HO6 := Lib.hid ho6
    clear ho6 hlit hfr y4l y1l hbl y1 y3 y4 hb1 HR HF
    go_wp2_with fail
    go_loopw [3, 18] (fun vs i wr => ∃ (k : Nat) (A : Option Addr) (c : Nat), k ≤ ng ∧ vs = .slice A (nf + nr + k) c ∧ i = .int .i64 (k : Int) ∧ OwR wr (w.heap.size + 1) A c (nf + nr + k) S ∧ Below w.heap.size w wr ∧ w.heap.size + 1 ≤ wr.heap.size) (fun _ i _ => ng - (intOf i).toNat)
    case atStart => exact ⟨0, A6, c6, Nat.zero_le _, rfl, rfl, HO6.out, hbF, hz6⟩
    case round =>
      obtain ⟨k, A, c, hk, rfl, rfl, own, hb, hz⟩ := hrel
      obtain ⟨wo, rfl⟩ : ∃ wo : World, wo = wr := ⟨_, rfl⟩
      clear HO6 hbF z1 hz6
      by_cases hlt : k < ng
      · obtain ⟨b, off, A1, c1, sg, A2, n2, c2, A3, n3, c3', rfl, hbb, f0, f1, f2, f3, f4, f5, -, r0, -⟩ := HAT.out k hlt
        have x0 := (hb.cell (lt_of_cell f0)).trans f0
        have x1 := (hb.cell (lt_of_cell f1)).trans f1
        have x2 := (hb.cell (lt_of_cell f2)).trans f2
        have x3 := (hb.cell (lt_of_cell f3)).trans f3
        have x4 := (hb.cell (lt_of_cell f4)).trans f4
        have x5 := (hb.cell (lt_of_cell f5)).trans f5
        have hk0 : (0 : Int) ≤ (k : Int) := by omega
        have hki : (k : Int) < (ng : Int) := by omega
        obtain ⟨W1, hW1⟩ : ∃ W1, W1 = wo.alloc (.cells #[.int .i64 (kd k), .int .i64 (kk k), .slice A1 (ar k).length c1, .bool sg, .slice A2 n2 c2, .slice A3 n3 c3'] 88) := ⟨_, rfl⟩
        have hbo : Below wo.heap.size wo W1 := by rw [hW1]; exact (Below.refl _ _).alloc (Nat.le_refl _) _
        have hz1' : W1.heap.size = wo.heap.size + 1 := by rw [hW1]; simp
        have r1 := ((r0.kp (Kp.of_below hb)).kp (Kp.of_below hbo)).base (b1 := w.heap.size + 1) (by omega)
        have hone := RowA.one9 W1 r1
        have hal : Below W1.heap.size W1 (W1.alloc (.cells #[.bool sg, .slice A2 n2 c2, .slice A3 n3 c3'] 56)) := (Below.refl _ _).alloc (Nat.le_refl _) _
        have hown := (own.below hbo).below hal
        rw [hW1] at hone hown hal
        simp only [World.size_alloc] at hone
        have HS2k := HS2.out k
        have hbo2 := hbo
        rw [hW1] at hbo2
        clear f0 f1 f2 f3 f4 f5 r0 r1 hW1 hbo own
        go_wp2_with (first | (at_builtin; refine wpList_appRs rfl (.tmp 22) (.tmp 25) rfl (w.heap.size + 1) A c (nf + nr + k) S (by simp [Act.eval]; done) hown (some ⟨wo.heap.size + 1, 0, none⟩) 1 1 (fun _ => dor k) (by simp [Act.eval]; done) hone (by omega) (by simp; omega) ?_; intro A7 c7 w7 own7 hg7) | fail)
        have hbw7 := hown.gr9 hg7 (B := w.heap.size + 1) (by simp; omega) (Nat.le_refl _)
        have hbF : Below w.heap.size w w7 := (hb.trans ((hbo2.mono hb.size).trans (hal.mono (by simp; have := hb.size; omega)))).trans (hbw7.mono (by omega))
        have hz7 : w.heap.size + 1 ≤ w7.heap.size := by have := hbw7.size; simp at this; omega
        have HO7 : Hid (OwR w7 (w.heap.size + 1) A7 c7 (nf + nr + (k + 1)) S) := by
          show OwR _ _ _ _ _ _
          exact own7.congr (U := S) (fun q hq => by
            by_cases e : q < nf + nr + k
            · rw [if_pos e]
            · rw [if_neg e, ← HS2k]
              congr 1
              omega)
        clear own7 hg7 hown hone hal hbo2 hbw7 x0 x1 x2 x3 x4 x5
        go_wp2_with fail
        go_roundw
        case rel => exact ⟨k + 1, A7, c7, by omega, rfl, by go_num, HO7.out, hbF, hz7⟩
        case measure => simp [intOf]; omega
      · obtain rfl : k = ng := by omega
        have HRow := Lib.hid own.ra
        have HB := Lib.hid hb
        have hbz := hb.size
        clear own hb
        go_wp2_with fail
        go_loopw [30] (fun i wr => ∃ j : Nat, j ≤ nf + nr + k ∧ i = .int .i64 (j : Int) ∧ (∀ i, i < j → Sh 4 (S i)) ∧ Below wo.heap.size wo wr) (fun i _ => nf + nr + k - (intOf i).toNat)
        case atStart => exact ⟨0, Nat.zero_le _, rfl, fun j hj => by omega, Below.refl _ _⟩
        case round =>
          obtain ⟨j, hj, rfl, hv, hb⟩ := hrel
          have HV2 := Lib.hid hv
          clear hv
          have hbz2 := hb.size
          have hbw := HB.out.trans (hb.mono hbz)
          by_cases hjn : j < nf + nr + k
          · obtain ⟨bx, ox, s1, A1, n1, c1, B1, m1, d1, rfl, hbx, f0, f1, f2, r1⟩ := HRow.out.at_ hjn
            obtain ⟨l1, l2⟩ := r1.lens9
            have x0 := (hb.cell (lt_of_cell f0)).trans f0
            have x1 := (hb.cell (lt_of_cell f1)).trans f1
            have x2 := (hb.cell (lt_of_cell f2)).trans f2
            have hj0 : (0 : Int) ≤ (j : Int) := by omega
            have hji : (j : Int) < ((nf + nr + k : Nat) : Int) := by omega
            have hAL : ∀ ob, Below wr.heap.size wr (wr.alloc ob) := fun ob => (Below.refl _ _).alloc (Nat.le_refl _) ob
            have HSj : Hid (n1 ≤ 4 → m1 ≤ 4 → Sh 4 (S j)) := fun h1 h2 => ⟨by omega, by omega⟩
            clear f0 f1 f2 r1 l1 l2
            by_cases h1 : 4 < n1
            · have e1 : decide ((4 : Int) < (n1 : Int)) = true := by simp; omega
              go_wp2_with fail
              go_ret
              exact ⟨retBi_f, hbw.trans ((hAL _).mono (by omega))⟩
            · have e1 : decide ((4 : Int) < (n1 : Int)) = false := by simp; omega
              by_cases h2 : 4 < m1
              · have e2 : decide ((4 : Int) < (m1 : Int)) = true := by simp; omega
                go_wp2_with fail
                go_ret
                exact ⟨retBi_f, hbw.trans ((hAL _).mono (by omega))⟩
              · have e2 : decide ((4 : Int) < (m1 : Int)) = false := by simp; omega
                have hsh := HSj.out (by omega) (by omega)
                go_wp2_with fail
                go_roundw
                case rel =>
                  refine ⟨j + 1, by omega, by go_num, fun i hi => ?_, hb.trans ((hAL _).mono hbz2)⟩
                  by_cases e : i = j
                  · subst e; exact hsh
                  · exact HV2.out i (by omega)
                case measure => simp [intOf]; omega
          · obtain rfl : j = nf + nr + k := by omega
            have HP := Lib.hid (HFIN.out HV2.out)
            clear HV2 HFIN
            go_wp2_with fail
            go_ret
            exact ⟨retBi_t HP.out, hbw⟩
end Go.Proofs.YtoiopnmphbnjaaaGreatDoor
