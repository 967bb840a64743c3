/- Contracts of functions and lemmas, used by the proofs of the given statements. No condition beyond those that each lemma names. -/
import Derived.Test.YtlncafhgmbhocaaGreatDoorLmR1
namespace Go.Proofs.YtlncafhgmbhocaaGreatDoor
open Go.RowKit
set_option linter.unusedSimpArgs false
set_option linter.unusedVariables false
set_option maxRecDepth 20000
attribute [local irreducible] cntB ixB kept nrm isF firS
/-! ## the reference of law51: norm -/
set_option maxHeartbeats 8000000 in
theorem lrNorm_any {w : World} {A : Option Addr} {n c : Nat} {P : Nat → Int} {p : Nat → Nat} (h : PaI w A n P) (hp : ∀ i, i < n → P i = (p i : Int)) (hn : n ≤ 1000) (hc : n ≤ c) :
    Calls Tryz.prog 46 #[.slice A n c] w fun e w' => (∃ A' c', e = .returned (.slice A' n c') ∧ n ≤ c' ∧ OwZ w' w.heap.size A' c' n (fun i => ((nrm (relP p) i : Nat) : Int))) ∧ Below w.heap.size w w' := by
  have HA := Lib.hid h
  obtain ⟨R, hR⟩ : ∃ R, R = relP p := ⟨_, rfl⟩
  have hE : Eqv R := by rw [hR]; exact relP_eqv p
  obtain ⟨N, hN⟩ : ∃ N : Nat → Int, N = fun i => ((nrm R i : Nat) : Int) := ⟨_, rfl⟩
  obtain ⟨cs, hcs⟩ : ∃ cs : Nat → Nat, cs = cntB (isF R) := ⟨_, rfl⟩
  have hRP : ∀ i j, i < n → j < n → (R i j = true ↔ P i = P j) := fun i j hi hj => by
    rw [hR, hp i hi, hp j hj]
    show (p i == p j) = true ↔ _
    rw [beq_iff_eq]
    omega
  have HSM : Hid (∀ j k, j < k → k < n → P k = P j → N j = N k) := fun j k hj hk e => by
    rw [hN]
    show ((nrm R j : Nat) : Int) = ((nrm R k : Nat) : Int)
    rw [nrm_same hE ((hRP j k (by omega) hk).2 e.symm)]
  have HNW : Hid (∀ k, k < n → (∀ j, j < k → P k ≠ P j) → N k = (cs k : Int) ∧ cs (k + 1) = cs k + 1) := fun k hk hv => by
    have h1 := nrm_new hE (i := k) (fun j hj => by
      cases e : R j k
      · rfl
      · exact absurd ((hRP j k (by omega) hk).1 e).symm (hv j hj))
    refine ⟨?_, ?_⟩
    · rw [hN, hcs]; show ((nrm R k : Nat) : Int) = _; rw [h1.1]
    · rw [hcs]; exact cntB_yes h1.2
  have HOL : Hid (∀ k j, k < n → j < k → P k = P j → cs (k + 1) = cs k) := fun k j hk hj e => by
    rw [hcs]
    exact cntB_no (isF_old hE hj ((hRP j k (by omega) hk).2 e.symm))
  have HN0 : Hid (∀ k, 0 ≤ N k) := fun k => by rw [hN]; show (0 : Int) ≤ ((nrm R k : Nat) : Int); omega
  have HC0 : Hid (cs 0 = 0) := by show cs 0 = 0; rw [hcs]; exact cntB_zero
  have HCL : Hid (∀ k, cs k ≤ k) := fun k => by rw [hcs]; exact cntB_le
  rw [← hR, ← hN]
  clear h hp hR hE hN hcs hRP
  go_enter Tryz.func46, Tryz.ntmps46
  go_wp2_with (first | (at_make; refine wpList_makeZ rfl (.tmp 10) (.tmp 10) rfl w.heap.size n (n : Int) (n : Int) (by first | rfl | simp [Act.eval]) (by first | rfl | simp [Act.eval]) rfl rfl (by omega) (Nat.le_refl _) ?_; intro w1 own1 hb1) | fail)
  have HO1 := Lib.hid own1
  have HB1 := Lib.hid hb1
  clear own1 hb1
  go_loopw [14, 4] (fun i nx wr => ∃ k : Nat, k ≤ n ∧ i = .int .i64 (k : Int) ∧ nx = .int .i64 ((cs k : Nat) : Int) ∧ OwZ wr w.heap.size (some ⟨w.heap.size, 0, none⟩) n n (fun j => if j < k then N j else 0) ∧ Below w.heap.size w wr) (fun i _ _ => n - (intOf i).toNat)
  case atStart => exact ⟨0, Nat.zero_le _, rfl, by rw [HC0.out]; rfl, HO1.out.congr (fun j hj => by simp), HB1.out⟩
  case round =>
    clear HO1 HB1
    obtain ⟨k, hk, rfl, rfl, own, hb⟩ := hrel
    have hbz := hb.size
    have hgl := (World.ownsRow.lt own w.heap.size rfl).2
    by_cases hlt : k < n
    · obtain ⟨b, off, rfl, hbb, x0⟩ := HA.out.later hb hlt
      have hk0 : (0 : Int) ≤ (k : Int) := by omega
      have hki : (k : Int) < (n : Int) := by omega
      have hkc : (k : Int) ≤ (c : Int) := by omega
      have hkc2 : k ≤ c := by omega
      have hcl := HCL.out k
      have hz0 := own.at_ hlt
      have hfz := own.frozen
      have st := own.set k (-1)
      have hb2 := hb.trans (below_of_row st.2 (fun q hq => by injection hq with hq; omega) hbz)
      have HST := Lib.hid st.1
      have HB2 := Lib.hid hb2
      have hbne : b ≠ w.heap.size := by omega
      have hbne2 : ¬ (w.heap.size = b) := by omega
      have HX0 := Lib.hid x0
      obtain ⟨v, hv⟩ : ∃ v, v = P k := ⟨_, rfl⟩
      rw [← hv] at x0
      have HVK := Lib.hid hv
      clear own hb st hb2 hv
      go_wp2
      clear x0
      go_loopw [26] (fun i wx => ∃ (j : Nat) (x : Int), j ≤ k ∧ i = .int .i64 (j : Int) ∧ ((x = -1 ∧ ∀ i, i < j → P k ≠ P i) ∨ (x = N k ∧ ∃ i, i < j ∧ P k = P i)) ∧ OwZ wx w.heap.size (some ⟨w.heap.size, 0, none⟩) n n (upd (fun j => if j < k then N j else 0) k x) ∧ Below w.heap.size w wx) (fun i _ => k - (intOf i).toNat)
      case atStart => exact ⟨0, -1, Nat.zero_le _, rfl, .inl ⟨rfl, fun i hi => by omega⟩, HST.out, HB2.out⟩
      case round =>
        clear HST HB2 hz0 hfz hgl hbz
        obtain ⟨j, x, hj, rfl, hx, own, hb⟩ := hrel
        have hbz := hb.size
        have hgl := (World.ownsRow.lt own w.heap.size rfl).2
        have hfz := own.frozen
        have zk : wr.cell? ⟨w.heap.size, k, none⟩ = some (.int .i64 x) := by rw [own.at_ hlt]; simp [upd]
        have HX := Lib.hid hx
        by_cases hjk : j < k
        · obtain ⟨b', off', ee, -, x1⟩ := HA.out.later hb (show j < n by omega)
          cases ee
          have zj : wr.cell? ⟨w.heap.size, j, none⟩ = some (.int .i64 (N j)) := by rw [own.at_ (show j < n by omega)]; simp [upd, show ¬ j = k by omega, hjk]
          have hji : (j : Int) < (k : Int) := by omega
          have hj0 : (0 : Int) ≤ (j : Int) := by omega
          have hjn : (j : Int) < (n : Int) := by omega
          have HO := Lib.hid own
          have HB := Lib.hid hb
          by_cases hpe : P k = P j
          · have HPE := Lib.hid hpe
            have HNE := Lib.hid (HSM.out j k hjk hlt hpe)
            have st := own.set k (N j)
            have hb2 := hb.trans (below_of_row st.2 (fun q hq => by injection hq with hq; omega) hbz)
            have HST := Lib.hid st.1
            have HB2 := Lib.hid hb2
            obtain ⟨y, hy⟩ : ∃ y, y = P j := ⟨_, rfl⟩
            have hvy : v = y := by rw [HVK.out, hy, hpe]
            rw [← hy] at x1
            subst hvy
            have e1 : (v == v) = true := by simp
            clear hy hpe hx own hb st hb2
            go_wp2
            go_roundw
            case rel =>
              refine ⟨j + 1, N j, by omega, by go_num, .inr ⟨HNE.out, j, by omega, HPE.out⟩, HST.out.congr (fun i hi => ?_), HB2.out⟩
              unfold upd
              by_cases e : i = k
              · rw [if_pos e, if_pos e]
              · rw [if_neg e, if_neg e, if_neg e]
            case measure => simp [intOf]; omega
          · have HPE := Lib.hid hpe
            obtain ⟨y, hy⟩ : ∃ y, y = P j := ⟨_, rfl⟩
            have hvy : v ≠ y := by rw [HVK.out, hy]; exact hpe
            rw [← hy] at x1
            have e1 : (v == y) = false := beq_eq_false_iff_ne.2 hvy
            clear hy hpe hx own hb hvy
            go_wp2
            go_roundw
            case rel =>
              refine ⟨j + 1, x, by omega, by go_num, ?_, HO.out, HB.out⟩
              rcases HX.out with ⟨h1, h2⟩ | ⟨h1, i, h2, h3⟩
              · exact .inl ⟨h1, fun i hi => by
                  by_cases e : i = j
                  · rw [e]; exact HPE.out
                  · exact h2 i (by omega)⟩
              · exact .inr ⟨h1, i, by omega, h3⟩
            case measure => simp [intOf]; omega
        · have hjk2 : j = k := by omega
          have HJK := Lib.hid hjk2
          have HO := Lib.hid own
          have HB := Lib.hid hb
          have hcl := HCL.out k
          rcases hx with ⟨hx1, hx2⟩ | ⟨hx1, i0, hx2, hx3⟩
          · obtain ⟨hN, hC⟩ := HNW.out k hlt (fun i hi => hx2 i (by omega))
            have st := own.set k ((cs k : Nat) : Int)
            have hb2 := hb.trans (below_of_row st.2 (fun q hq => by injection hq with hq; omega) hbz)
            have HST := Lib.hid st.1
            have HB2 := Lib.hid hb2
            have HN := Lib.hid hN
            have HC := Lib.hid hC
            subst hx1
            clear hx2 hN hC own hb st hb2 hjk2
            go_wp2
            go_roundw
            case rel =>
              refine ⟨k + 1, by omega, by go_num, by rw [HC.out]; go_num, HST.out.congr (fun i hi => ?_), HB2.out⟩
              unfold upd
              by_cases e : i = k
              · rw [if_pos e, if_pos (by omega), e, HN.out]
              · rw [if_neg e, if_neg e]
                show (if i < k then N i else 0) = if i < k + 1 then N i else 0
                by_cases e2 : i < k
                · rw [if_pos e2, if_pos (by omega)]
                · rw [if_neg e2, if_neg (by omega)]
            case measure => simp [intOf]; omega
          · have HC := Lib.hid (HOL.out k i0 hlt (by omega) hx3)
            have HN := Lib.hid hx1
            have e3 : decide (x < 0) = false := by have := HN0.out k; rw [← hx1] at this; simp; omega
            clear hx2 hx1 hx3 own hb hjk2
            go_wp2
            go_roundw
            case rel =>
              refine ⟨k + 1, by omega, by go_num, by rw [HC.out], HO.out.congr (fun i hi => ?_), HB.out⟩
              unfold upd
              by_cases e : i = k
              · rw [if_pos e, if_pos (by omega), e, HN.out]
              · rw [if_neg e]
                show (if i < k then N i else 0) = if i < k + 1 then N i else 0
                by_cases e2 : i < k
                · rw [if_pos e2, if_pos (by omega)]
                · rw [if_neg e2, if_neg (by omega)]
            case measure => simp [intOf]; omega
    · have hkn : k = n := by omega
      subst hkn
      have HB := Lib.hid hb
      have HO := Lib.hid (own.congr (f' := N) (fun j hj => by simp [hj]))
      clear own hb
      go_wp2
      go_ret
      exact ⟨⟨_, _, rfl, Nat.le_refl _, HO.out⟩, HB.out⟩
end Go.Proofs.YtlncafhgmbhocaaGreatDoor
