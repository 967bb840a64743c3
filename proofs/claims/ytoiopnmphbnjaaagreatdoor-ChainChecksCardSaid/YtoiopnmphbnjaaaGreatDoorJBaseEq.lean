/- Contracts of functions and lemmas, used by the proofs of the given statements. No condition beyond those that each lemma names. -/
import Derived.Test.YtoiopnmphbnjaaaGreatDoorJSumP
import Derived.Test.YtoiopnmphbnjaaaGreatDoorJRetW
import Derived.Test.YtoiopnmphbnjaaaGreatDoorJBase
namespace Go.Proofs.YtoiopnmphbnjaaaGreatDoor
open Go.RowKit
set_option linter.unusedSimpArgs false
set_option linter.unusedVariables false
set_option maxRecDepth 20000
attribute [local irreducible] nv wp win plainB validR valR canR mvE chkM codeC exK
/-! ## law49: Brief, Light -/
def RetBi (P : Prop) (e : Ending) : Prop := ∃ b : Bool, e = .returned (.bool b) ∧ (b = true → P)
theorem retBi_f {P : Prop} : RetBi P (.returned (.bool false)) := ⟨false, rfl, fun h => by cases h⟩
theorem retBi_t {P : Prop} (h : P) : RetBi P (.returned (.bool true)) := ⟨true, rfl, fun _ => h⟩
set_option maxHeartbeats 4000000 in
theorem brief49_any {w : World} {v : Value} {r : Rw} {n : Nat} (h : RdS w w.heap.size v r) :
    Calls Tryz.prog 76 #[v, .int .i64 (n : Int)] w fun e w' => RetBi (Br r n) e ∧ Below w.heap.size w w' := by
  obtain ⟨A, c, B, d, rfl, c1, c2, ok, rA, rB, _, _⟩ := h
  obtain ⟨s, l, m⟩ := r
  dsimp only at *
  have HB : Hid (Br (s, l, m) n ↔ if n ≤ 64 then l.length ≤ 2 ∧ m.length ≤ 2 else l.length ≤ 1 ∧ (m.length = 0 ∨ m.length = 1 ∧ m.getD 0 0 < 1024)) := by
    show _ ↔ _
    unfold Br
    exact Iff.rfl
  generalize Br (s, l, m) n = P at *
  have hbA : ∀ o, Below w.heap.size w (w.alloc o) := fun o => (Below.refl _ _).alloc (Nat.le_refl _) o
  by_cases h64 : n ≤ 64
  · have e1 : decide ((n : Int) ≤ 64) = true := by simp; omega
    have HB2 : Hid (l.length ≤ 2 → m.length ≤ 2 → P) := fun h1 h2 => HB.out.2 (by rw [if_pos h64]; exact ⟨h1, h2⟩)
    clear HB
    by_cases h1 : l.length ≤ 2
    · have e2 : decide ((l.length : Int) ≤ 2) = true := by simp; omega
      by_cases h2 : m.length ≤ 2
      · have e3 : decide ((m.length : Int) ≤ 2) = true := by simp; omega
        go_enter Tryz.func76, Tryz.ntmps76
        go_wp2
        go_ret
        exact ⟨retBi_t (HB2.out h1 h2), hbA _⟩
      · have e3 : decide ((m.length : Int) ≤ 2) = false := by simp; omega
        go_enter Tryz.func76, Tryz.ntmps76
        go_wp2
        go_ret
        exact ⟨retBi_f, hbA _⟩
    · have e2 : decide ((l.length : Int) ≤ 2) = false := by simp; omega
      go_enter Tryz.func76, Tryz.ntmps76
      go_wp2
      go_ret
      exact ⟨retBi_f, hbA _⟩
  · have e1 : decide ((n : Int) ≤ 64) = false := by simp; omega
    have HB2 : Hid (l.length ≤ 1 → (m.length = 0 ∨ m.length = 1 ∧ m.getD 0 0 < 1024) → P) := fun h1 h2 => HB.out.2 (by rw [if_neg h64]; exact ⟨h1, h2⟩)
    clear HB
    by_cases h1 : l.length ≤ 1
    · have e2 : decide ((l.length : Int) ≤ 1) = true := by simp; omega
      by_cases h2 : m.length = 0
      · have e3 : ((m.length : Int) == 0) = true := by rw [h2]; rfl
        go_enter Tryz.func76, Tryz.ntmps76
        go_wp2
        go_ret
        exact ⟨retBi_t (HB2.out h1 (.inl h2)), hbA _⟩
      · have e3 : ((m.length : Int) == 0) = false := by (cases e : ((m.length : Int) == 0) with | false => rfl | true => (have := eq_of_beq e; omega))
        by_cases h3 : m.length = 1
        · have e4 : ((m.length : Int) == 1) = true := by rw [h3]; rfl
          obtain ⟨b, off, rfl, hb, hc⟩ := rB.2 (by omega)
          obtain ⟨x, hx⟩ : ∃ x, m = [x] := List.length_eq_one_iff.1 h3
          have c0 := hc 0 (.int .u32 (x : Int)) (by rw [hx]; rfl)
          rw [Nat.add_zero] at c0
          have i0 : (0 : Int) < (m.length : Int) := by omega
          by_cases h4 : x < 1024
          · have e5 : decide ((x : Int) < 1024) = true := by simp; omega
            have HP := Lib.hid (HB2.out h1 (.inr ⟨h3, by rw [hx]; exact h4⟩))
            clear HB2 hc hx
            go_enter Tryz.func76, Tryz.ntmps76
            go_wp2
            go_ret
            exact ⟨retBi_t HP.out, hbA _⟩
          · have e5 : decide ((x : Int) < 1024) = false := by simp; omega
            clear HB2 hc hx
            go_enter Tryz.func76, Tryz.ntmps76
            go_wp2
            go_ret
            exact ⟨retBi_f, hbA _⟩
        · have e4 : ((m.length : Int) == 1) = false := by (cases e : ((m.length : Int) == 1) with | false => rfl | true => (have := eq_of_beq e; omega))
          go_enter Tryz.func76, Tryz.ntmps76
          go_wp2
          go_ret
          exact ⟨retBi_f, hbA _⟩
    · have e2 : decide ((l.length : Int) ≤ 1) = false := by simp; omega
      go_enter Tryz.func76, Tryz.ntmps76
      go_wp2
      go_ret
      exact ⟨retBi_f, hbA _⟩
set_option maxHeartbeats 4000000 in
theorem light49_any {w : World} {AM AD : Option Addr} {cm cd : Nat} {c : Chn} (h : ChI w w.heap.size AM cm AD cd c) (hmx : c.nm ≤ maxLen) :
    Calls Tryz.prog 28 #[cv c.st c.sr AM c.nm cm AD c.nd cd] w fun e w' => RetBi (Lt49 c) e ∧ Below w.heap.size w w' := by
  have HM := Lib.hid h.mv.1
  have HLt : Hid (c.nm ≤ 2000 → c.nd ≤ 600 → (∀ k, k < c.nm → Br (c.R k) c.nm) → Lt49 c) := fun h1 h2 h3 => ⟨h1, h2, h3⟩
  generalize Lt49 c = P at *
  clear h
  obtain ⟨st, sr, nm, F, T, R, nd, D⟩ := c
  simp only at *
  have hmx2 : nm ≤ 9223372036854775807 := hmx
  clear hmx
  go_enter Tryz.func28, Tryz.ntmps28
  go_wp2
  go_loopw [8] (fun i wr => ∃ k : Nat, k ≤ nm ∧ i = .int .i64 (k : Int) ∧ (∀ j, j < k → Br (R j) nm) ∧ Below w.heap.size w wr ∧ wr.cell? ⟨w.heap.size, 2, none⟩ = some (.slice AM nm cm) ∧ wr.cell? ⟨w.heap.size, 3, none⟩ = some (.slice AD nd cd) ∧ w.heap.size < wr.heap.size) (fun i _ => nm - (intOf i).toNat)
  case atStart => exact ⟨0, Nat.zero_le _, rfl, fun j hj => by omega, (Below.refl _ _).alloc (Nat.le_refl _) _, by simp [go_sem], by simp [go_sem], by simp⟩
  case round =>
    obtain ⟨k, hk, rfl, hv, hb, y2, y3, hz⟩ := hrel
    obtain ⟨wo, rfl⟩ : ∃ wo : World, wo = wr := ⟨_, rfl⟩
    have HV := Lib.hid hv
    clear hv
    by_cases hlt : k < nm
    · obtain ⟨b, off, s, A1, n1, c1, B1, m1, d1, rfl, hbb, f0, f1, f2, f3, f4, r0⟩ := HM.out.at_ hlt
      have x0 := (hb.cell (lt_of_cell f0)).trans f0
      have x1 := (hb.cell (lt_of_cell f1)).trans f1
      have x2 := (hb.cell (lt_of_cell f2)).trans f2
      have x3 := (hb.cell (lt_of_cell f3)).trans f3
      have x4 := (hb.cell (lt_of_cell f4)).trans f4
      have r1 := r0.kp (Kp.of_below hb)
      have K1 := Lib.hid (fun W (hX : Below wo.heap.size wo W) => brief49_any (n := nm) ((r1.kp (Kp.of_below hX)).base (b1 := W.heap.size) (by have := hX.size; omega)))
      have hk0 : (0 : Int) ≤ (k : Int) := by omega
      have hki : (k : Int) < (nm : Int) := by omega
      clear f0 f1 f2 f3 f4 r0 r1
      go_wp2_with fail
      refine (K1.out _ (by (skip); repeat' (first | (with_reducible exact Below.refl _ _) | (with_reducible assumption) | (with_reducible refine Below.alloc ?_ ?_ _) | (with_reducible refine Below.drew ?_) | (with_reducible refine below_drewN ?_ _) | (with_reducible refine Below.setCell ?_ ?_ _) | (with_reducible refine Below.trans ?_ (Below.mono (by with_reducible assumption) ?_)) | omega | (simp only [ZA, ZS, ZD, ZN]; omega) | go_size))).mono ?_
      rintro e w5 ⟨⟨bb, rfl, hbb5⟩, hb5⟩
      have hbF : Below w.heap.size w w5 := (by have z0 := Below.size hb; have z1 := Below.size hb5; (try simp only [ZA, ZS, ZD, ZN] at z0 z1 ⊢; skip); repeat' (first | (with_reducible exact Below.refl _ _) | (with_reducible assumption) | (with_reducible refine Below.alloc ?_ ?_ _) | (with_reducible refine Below.drew ?_) | (with_reducible refine below_drewN ?_ _) | (with_reducible refine Below.setCell ?_ ?_ _) | (with_reducible refine Below.trans ?_ (Below.mono (by with_reducible assumption) ?_)) | omega | (simp only [ZA, ZS, ZD, ZN]; omega) | go_size))
      have z2 := (below_at hb5 w.heap.size 2 (by simp; omega)).trans ((below_at ((Below.refl wo.heap.size wo).alloc (Nat.le_refl _) _) w.heap.size 2 hz).trans y2)
      have z3 := (below_at hb5 w.heap.size 3 (by simp; omega)).trans ((below_at ((Below.refl wo.heap.size wo).alloc (Nat.le_refl _) _) w.heap.size 3 hz).trans y3)
      have hz5 := hb5.size
      simp only [World.size_alloc] at hz5
      clear hb5 y2 y3
      cases bb with
      | true =>
        go_wp2
        go_roundw
        case rel =>
          refine ⟨k + 1, by omega, by go_num, fun j hj => ?_, hbF, z2, z3, by omega⟩
          by_cases e : j = k
          · subst e; exact hbb5 (by trivial)
          · exact HV.out j (by omega)
        case measure => simp [intOf]; omega
      | false =>
        go_wp2
        go_ret
        exact ⟨retBi_f, hbF⟩
    · obtain rfl : k = nm := by omega
      by_cases h1 : k ≤ 2000
      · have e1 : decide ((k : Int) ≤ 2000) = true := by simp; omega
        by_cases h2 : nd ≤ 600
        · have e2 : decide ((nd : Int) ≤ 600) = true := by simp; omega
          have HP := Lib.hid (HLt.out h1 h2 HV.out)
          clear HV HLt
          go_wp2
          go_ret
          exact ⟨retBi_t HP.out, hb⟩
        · have e2 : decide ((nd : Int) ≤ 600) = false := by simp; omega
          go_wp2
          go_ret
          exact ⟨retBi_f, hb⟩
      · have e1 : decide ((k : Int) ≤ 2000) = false := by simp; omega
        go_wp2
        go_ret
        exact ⟨retBi_f, hb⟩
end Go.Proofs.YtoiopnmphbnjaaaGreatDoor
namespace Go.Proofs.YtoiopnmphbnjaaaGreatDoor
open Go.RowKit
set_option linter.unusedSimpArgs false
set_option linter.unusedVariables false
set_option maxRecDepth 20000
attribute [local irreducible] nv wp win plainB validR valR canR
/-! ## faultlinebase: Num, Words, Rat, Rats -/
theorem bnum_0 (w : World) : Calls Tryz.prog 13 #[.nilIface] w fun e w' => e = .returned (.int .i64 0) ∧ w = w' := by
  go_enter Tryz.func13, Tryz.ntmps13
  go_wp2
  go_ret
  exact ⟨rfl, rfl⟩
theorem bnum_n (n : Int) (w : World) : Calls Tryz.prog 13 #[.iface 80 (.int .i64 n)] w fun e w' => e = .returned (.int .i64 n) ∧ w = w' := by
  have hta : ∀ (x : Value) (w : World), (Instr.typeAssert (.iface 80 x) 35 80 true).run Tryz.prog w = .ok (.tuple #[x, .bool true]) w := fun _ _ => by kernel_rfl
  go_enter Tryz.func13, Tryz.ntmps13
  go_wp2
  go_ret
  exact ⟨rfl, rfl⟩
set_option maxHeartbeats 2000000 in
theorem words_same {w : World} {A B : Option Addr} {n c d : Nat} {l : List Nat} (h : RdW w w.heap.size A l) (h' : RdW w w.heap.size B l) (hl : l.length = n) (hn : n ≤ 1000000) :
    Calls Tryz.prog 89 #[.slice A n c, .slice B n d] w fun e w' => e = .returned (.bool true) ∧ Below w.heap.size w w' := by
  have HA := Lib.hid h
  have HB := Lib.hid h'
  have HL := Lib.hid hl
  have e0 : ((n : Int) != (n : Int)) = false := by simp
  clear h h' hl
  go_enter Tryz.func89, Tryz.ntmps89
  go_wp2
  go_loopw [13] (fun i wr => ∃ k : Nat, k ≤ n ∧ i = .int .i64 (k : Int) ∧ Below w.heap.size w wr) (fun i _ => n - (intOf i).toNat)
  case atStart => exact ⟨0, Nat.zero_le _, rfl, Below.refl _ _⟩
  case round =>
    obtain ⟨k, hk, rfl, hb⟩ := hrel
    by_cases hlt : k < n
    · obtain ⟨ba, oa, rfl, hba, f0⟩ := HA.out.at_ (show k < l.length by rw [HL.out]; exact hlt)
      obtain ⟨bb, ob, rfl, hbb, f1⟩ := HB.out.at_ (show k < l.length by rw [HL.out]; exact hlt)
      have g0 := (hb.cell (p := ⟨ba, oa + k, none⟩) hba).trans f0
      have g1 := (hb.cell (p := ⟨bb, ob + k, none⟩) hbb).trans f1
      generalize l[k]'(by rw [HL.out]; exact hlt) = x at *
      have e1 : ((x : Int) != (x : Int)) = false := by simp
      have x0 := fun y : Sub wr => y.cell g0
      have x1 := fun y : Sub wr => y.cell g1
      have hk0 : (0 : Int) ≤ (k : Int) := by omega
      have hki : (k : Int) < (n : Int) := by omega
      clear f0 f1 g0 g1
      go_wp2
      ((refine wp_region_quiet_bel (by kernel_rfl) (by kernel_rfl) ?_); (repeat (go_big_quiet_step (fail))); (refine wpQuiet_nil ?_); rintro w5 ⟨⟨_, hb5⟩, rfl⟩; (try dsimp only))
      go_wp2
      go_roundw
      case rel => exact ⟨k + 1, by omega, by go_num, hb.trans (hb5.mono hb.size)⟩
      case measure => simp [intOf]; omega
    · go_wp2
      go_ret
      exact ⟨rfl, hb⟩
theorem RdS.parts {w : World} {b0 : Nat} {v : Value} {r : Rw} (h : RdS w b0 v r) : ∃ A c B d, v = rv r.1 A r.2.1.length c B r.2.2.length d ∧ RdW w w.heap.size A r.2.1 ∧ RdW w w.heap.size B r.2.2 := by
  obtain ⟨A, c, B, d, e, _, _, _, hA, hB, _⟩ := h
  exact ⟨A, c, B, d, e, hA, hB⟩
set_option maxHeartbeats 2000000 in
theorem rat_same {w : World} {b0 b1 : Nat} {v u : Value} {r : Rw} (h : RdS w b0 v r) (h' : RdS w b1 u r) (h1 : r.2.1.length ≤ 1000000) (h2 : r.2.2.length ≤ 1000000) :
    Calls Tryz.prog 49 #[v, u] w fun e w' => e = .returned (.bool true) ∧ Below w.heap.size w w' := by
  obtain ⟨A, c, B, d, rfl, hA, hB⟩ := h.parts
  obtain ⟨A', c', B', d', rfl, hA', hB'⟩ := h'.parts
  have K1 := Lib.hid (fun W (hb : Below w.heap.size w W) => words_same (c := c) (d := c') (hA.on hb hb.size) (hA'.on hb hb.size) rfl h1)
  have K2 := Lib.hid (fun W (hb : Below w.heap.size w W) => words_same (c := d) (d := d') (hB.on hb hb.size) (hB'.on hb hb.size) rfl h2)
  clear h h' hA hA' hB hB'
  obtain ⟨s, l, m⟩ := r
  simp only at *
  generalize l.length = n at *
  generalize m.length = n' at *
  have e0 : (s == s) = true := by simp
  go_enter Tryz.func49, Tryz.ntmps49
  (go_wp2_with fail; (with_reducible refine (K1.out _ (by (skip); repeat' (first | (with_reducible exact Below.refl _ _) | (with_reducible assumption) | (with_reducible refine Below.alloc ?_ ?_ _) | (with_reducible refine Below.drew ?_) | (with_reducible refine below_drewN ?_ _) | (with_reducible refine Below.setCell ?_ ?_ _) | (with_reducible refine Below.trans ?_ (Below.mono (by with_reducible assumption) ?_)) | omega | (simp only [ZA, ZS, ZD, ZN]; omega) | go_size))).mono ?_); rintro e w1 ⟨rfl, hb1⟩; have hb1z := Below.size hb1; (try simp only [ZA, ZS, ZD, ZN] at hb1z); have hb1c0 := fun o => below_at hb1 (w.heap.size) o (by first | omega | (simp only [ZA, ZS, ZD, ZN]; omega)); have hb1f0 := fun o => below_fr hb1 (w.heap.size) o (by first | omega | (simp only [ZA, ZS, ZD, ZN]; omega)); have hb1c1 := fun o => below_at hb1 (w.heap.size + 1) o (by first | omega | (simp only [ZA, ZS, ZD, ZN]; omega)); have hb1f1 := fun o => below_fr hb1 (w.heap.size + 1) o (by first | omega | (simp only [ZA, ZS, ZD, ZN]; omega)))
  (go_wp2_with fail; (with_reducible refine (K2.out _ (by have z0 := Below.size hb1; (try simp only [ZA, ZS, ZD, ZN] at z0 ⊢; skip); repeat' (first | (with_reducible exact Below.refl _ _) | (with_reducible assumption) | (with_reducible refine Below.alloc ?_ ?_ _) | (with_reducible refine Below.drew ?_) | (with_reducible refine below_drewN ?_ _) | (with_reducible refine Below.setCell ?_ ?_ _) | (with_reducible refine Below.trans ?_ (Below.mono (by with_reducible assumption) ?_)) | omega | (simp only [ZA, ZS, ZD, ZN]; omega) | go_size))).mono ?_); rintro e w2 ⟨rfl, hb2⟩; have hb2z := Below.size hb2; (try simp only [ZA, ZS, ZD, ZN] at hb2z))
  go_wp2
  go_ret
  exact ⟨rfl, (by have z0 := Below.size hb1; have z1 := Below.size hb2; (try simp only [ZA, ZS, ZD, ZN] at z0 z1 ⊢; skip); repeat' (first | (with_reducible exact Below.refl _ _) | (with_reducible assumption) | (with_reducible refine Below.alloc ?_ ?_ _) | (with_reducible refine Below.drew ?_) | (with_reducible refine below_drewN ?_ _) | (with_reducible refine Below.setCell ?_ ?_ _) | (with_reducible refine Below.trans ?_ (Below.mono (by with_reducible assumption) ?_)) | omega | (simp only [ZA, ZS, ZD, ZN]; omega) | go_size))⟩
set_option maxHeartbeats 2000000 in
theorem rats_same {w : World} {b0 b1 n c d : Nat} {A B : Option Addr} {R : Nat → Rw} (h : RowA w b0 A n R) (h' : RowA w b1 B n R) (hn : n ≤ 1000000) (hs : ∀ k, k < n → (R k).2.1.length ≤ 1000000 ∧ (R k).2.2.length ≤ 1000000) :
    Calls Tryz.prog 34 #[.slice A n c, .slice B n d] w fun e w' => e = .returned (.bool true) ∧ Below w.heap.size w w' := by
  have HA := Lib.hid h
  have HB := Lib.hid h'
  have HS := Lib.hid hs
  have e0 : ((n : Int) != (n : Int)) = false := by simp
  clear h h' hs
  go_enter Tryz.func34, Tryz.ntmps34
  go_wp2
  go_loopw [13] (fun i wr => ∃ k : Nat, k ≤ n ∧ i = .int .i64 (k : Int) ∧ Below w.heap.size w wr) (fun i _ => n - (intOf i).toNat)
  case atStart => exact ⟨0, Nat.zero_le _, rfl, Below.refl _ _⟩
  case round =>
    obtain ⟨k, hk, rfl, hb⟩ := hrel
    by_cases hlt : k < n
    · obtain ⟨ba, oa, s1, A1, n1, c1, B1, m1, d1, rfl, hba, f0, f1, f2, r1⟩ := HA.out.at_ hlt
      obtain ⟨bb, ob, s2, A2, n2, c2, B2, m2, d2, rfl, hbb, g0, g1, g2, r2⟩ := HB.out.at_ hlt
      obtain ⟨z1, z2⟩ := HS.out k hlt
      have K := Lib.hid (fun W (hb' : Below wr.heap.size wr W) => rat_same (r1.kp (Kp.of_below (hb.trans (hb'.mono hb.size)))) (r2.kp (Kp.of_below (hb.trans (hb'.mono hb.size)))) z1 z2)
      have x0 := fun y : Sub wr => y.cell ((hb.cell (lt_of_cell f0)).trans f0)
      have x1 := fun y : Sub wr => y.cell ((hb.cell (lt_of_cell f1)).trans f1)
      have x2 := fun y : Sub wr => y.cell ((hb.cell (lt_of_cell f2)).trans f2)
      have y0 := fun y : Sub wr => y.cell ((hb.cell (lt_of_cell g0)).trans g0)
      have y1 := fun y : Sub wr => y.cell ((hb.cell (lt_of_cell g1)).trans g1)
      have y2 := fun y : Sub wr => y.cell ((hb.cell (lt_of_cell g2)).trans g2)
      have hk0 : (0 : Int) ≤ (k : Int) := by omega
      have hki : (k : Int) < (n : Int) := by omega
      clear f0 f1 f2 g0 g1 g2 r1 r2
      go_wp2
      ((refine wp_region_quiet_bel (by kernel_rfl) (by kernel_rfl) ?_); (repeat (go_big_quiet_step ((go_at_call 49; with_reducible exact Calls.quiet_bel (K.out _ (Sub.bel _)))))); (refine wpQuiet_nil ?_); rintro w5 ⟨⟨_, hb5⟩, rfl⟩; (try dsimp only))
      go_wp2
      go_roundw
      case rel => exact ⟨k + 1, by omega, by go_num, hb.trans (hb5.mono hb.size)⟩
      case measure => simp [intOf]; omega
    · go_wp2
      go_ret
      exact ⟨rfl, hb⟩
end Go.Proofs.YtoiopnmphbnjaaaGreatDoor
