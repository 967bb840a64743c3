/- Contracts of functions and lemmas, used by the proofs of the given statements. No condition beyond those that each lemma names. -/
import Derived.Test.YtnljncncnohncaaDoorLinK
import Derived.Test.YtnljncncnohncaaDoorAwA
namespace Go.Proofs.YtnljncncnohncaaDoor
open Go.RowKit
set_option linter.unusedSimpArgs false
set_option linter.unusedVariables false
set_option maxRecDepth 20000
attribute [local irreducible] nv wp win plainB validR valR canR
/-! ## reference: Apply -/
def RetRA (b0 n : Nat) (f : Nat → Rat) (e : Ending) (w' : World) : Prop := ∃ A d, e = .returned (.tuple #[.slice A n d, .int .i64 0]) ∧ OwR w' b0 A d n (can f)
set_option maxHeartbeats 4000000 in
theorem rapply_any {w : World} {n m ca cb L : Nat} {A B : Option Addr} {len : Nat → Nat} {R : Nat → Nat → Rw} {Rx : Nat → Rw} (h : MatI w w.heap.size A n len R) (hB : RowI w w.heap.size B m Rx) (hcode : codeM n len = 0) (hc : len 0 = m)
    (hz : ∀ i k, i < n → k < m → (R i k).2.1.length ≤ L ∧ (R i k).2.2.length ≤ L) (hok : ∀ i k, i < n → k < m → okR (R i k)) (hzb : ∀ i, i < m → (Rx i).2.1.length ≤ L ∧ (Rx i).2.2.length ≤ L) (hokb : ∀ i, i < m → okR (Rx i)) (hL : 1 ≤ L) (hL2 : L ≤ 1000000) :
    Calls Tryd.prog 35 #[.slice A n ca, .slice B m cb] w fun e w' => RetRA w.heap.size n (fun i => dotS (fun k => valR (R i k)) (fun k => valR (Rx k)) m) e w' ∧ Below w.heap.size w w' := by
  obtain ⟨hn0, hl0, hn, hl, hall⟩ := codeM_zero hcode
  obtain ⟨F, hF⟩ : ∃ F : Nat → Rat, F = fun i => dotS (fun k => valR (R i k)) (fun k => valR (Rx k)) m := ⟨_, rfl⟩
  have HL := Lib.hid (fun i hi => (hall i hi).trans hc)
  have HA := Lib.hid h
  have hm : m ≤ 256 := by omega
  obtain ⟨b, off, A0, c0, rfl, hc0, hrows⟩ := h.at0 hn0
  rw [hc] at hc0
  have K0 := Lib.hid (rcheck_any (ca := ca) h (by omega) (fun i hi => by rw [hall i hi]; omega))
  rw [hcode] at K0
  have KD := Lib.hid (fun (i : Nat) (hi : i < n) (W : World) (Ai : Option Addr) (ci : Nat) (hb : Below w.heap.size w W) (hr : RowI w w.heap.size Ai m (R i)) => (by
    have := dot_any (ca := ci) (cb := cb) (hr.kp (Kp.of_below hb)).ra (hB.kp (Kp.of_below hb)).ra (fun k hk => hz i k hi hk) (fun k hk => hok i k hi hk) hzb hokb hm hL hL2
    rw [hF]
    exact this : Calls Tryd.prog 62 #[.slice Ai m ci, .slice B m cb] W fun e w' => RetE (F i) e w' ∧ Below W.heap.size W w'))
  rw [← hF]
  clear hF hz hok hzb hokb h hB hcode hc hrows hall
  go_enter Tryd.func35, Tryd.ntmps35
  go_wp2_with (first | (go_at_call 19; (with_reducible refine (K0.out).mono ?_); rintro e _ ⟨rfl, rfl⟩) | fail)
  go_loopw [7, 24] (fun a i wr => ∃ k A c, k ≤ n ∧ i = .int .i64 (k : Int) ∧ a = .slice A k c ∧ OwR wr w.heap.size A c k (can F) ∧ Below w.heap.size w wr) (fun _ i _ => n - (intOf i).toNat)
  case atStart => exact ⟨0, none, 0, Nat.zero_le _, rfl, rfl, OwR.nil_ _ _ _, Below.refl _ _⟩
  case round =>
    obtain ⟨i, A1, c1, hi, rfl, rfl, own, hb⟩ := hrel
    have hbz := hb.size
    by_cases hlt : i < n
    · obtain ⟨b1, off1, Ai, ci, e1, hbb, hcell0, hlc, hrow⟩ := HA.out.at_ hlt
      obtain ⟨rfl, rfl⟩ : b1 = b ∧ off1 = off := by injection e1 with e1; injection e1 with e1 e2; exact ⟨e1.symm, e2.symm⟩
      rw [HL.out i hlt] at hcell0 hlc hrow
      have hcell := (hb.cell (lt_of_cell hcell0)).trans hcell0
      have K := Lib.hid (KD.out i hlt wr Ai ci hb hrow)
      have HO := Lib.hid own
      clear hcell0 hrow e1 own
      go_wp2_with (first | ((go_at_call 62; (with_reducible refine (K.out).mono ?_); rintro e w3 ⟨⟨v3, rfl, rd3⟩, hb3⟩; have hb3z := Below.size hb3; (try simp only [World.size_alloc, World.size_setCell, World.size_drew] at hb3z)); obtain ⟨s3, A3, n3, c3', B3, m3, d3, rfl⟩ := rd3.form) | (at_builtin; refine wpList_appR1 rfl (.tmp 28) (.tmp 32) rfl w.heap.size A1 c1 i (can F) (by simp [Act.eval]) ((HO.out.below hb3).below ((Below.refl _ _).alloc (Nat.le_refl _) _)) w3.heap.size s3 A3 n3 c3' B3 m3 d3 (canR (F i)) (by simp [Act.eval]) (by simp) (by simp) (by simp) ((rd3.kp (Kp.of_below ((Below.refl _ _).alloc (Nat.le_refl _) _))).base (Nat.zero_le _)) (by omega) (by simp; omega) ?_; intro A5 c5 w5 own5 hg5 hf5) | fail)
      rw [upd_can, upd_self] at own5
      have hw : Below w.heap.size w w5 := by
        refine hb.trans (((hb3.mono hbz).alloc (by omega) _).trans (below_of_row hg5 (fun q hq => (own_lt HO.out q hq).1) (by simp; omega)))
      exact ⟨⟨i + 1, A5, c5, by omega, by go_num, rfl, own5, hw⟩, by simp [intOf]; omega⟩
    · have : i = n := by omega
      subst this
      go_wp2
      go_ret2
      exact ⟨⟨_, _, rfl, own⟩, hb⟩
end Go.Proofs.YtnljncncnohncaaDoor
namespace Go.Proofs.YtnljncncnohncaaDoor
open Go.RowKit
set_option linter.unusedSimpArgs false
set_option linter.unusedVariables false
set_option maxRecDepth 20000
attribute [local irreducible] nv wp win plainB validR valR canR
/-! ## reference: Mul -/
def RetRM (b0 n p : Nat) (F : Mf) (e : Ending) (w' : World) : Prop := ∃ A d, e = .returned (.tuple #[.slice A n d, .int .i64 0]) ∧ MatO w' b0 A d n (fun _ => p) F
set_option maxHeartbeats 4000000 in
theorem rmulM_any {w : World} {n l p ca cb L : Nat} {A B : Option Addr} {len len' : Nat → Nat} {R R' : Nat → Nat → Rw} (h : MatI w w.heap.size A n len R) (hB : MatI w w.heap.size B l len' R') (hcode : codeM n len = 0) (hcode' : codeM l len' = 0) (hc : len 0 = l) (hc' : len' 0 = p)
    (hz : ∀ i k, i < n → k < l → (R i k).2.1.length ≤ L ∧ (R i k).2.2.length ≤ L) (hok : ∀ i k, i < n → k < l → okR (R i k)) (hz' : ∀ i k, i < l → k < p → (R' i k).2.1.length ≤ L ∧ (R' i k).2.2.length ≤ L) (hok' : ∀ i k, i < l → k < p → okR (R' i k)) (hL : 1 ≤ L) (hL2 : L ≤ 1000000) :
    Calls Tryd.prog 36 #[.slice A n ca, .slice B l cb] w fun e w' => RetRM w.heap.size n p (mulF (fun i k => valR (R i k)) (fun i k => valR (R' i k)) l) e w' ∧ Below w.heap.size w w' := by
  obtain ⟨hn0, hl0, hn, hl, hall⟩ := codeM_zero hcode
  obtain ⟨hn0', hl0', hn', hl', hall'⟩ := codeM_zero hcode'
  obtain ⟨F, hF⟩ : ∃ F : Mf, F = mulF (fun i k => valR (R i k)) (fun i k => valR (R' i k)) l := ⟨_, rfl⟩
  have HL := Lib.hid (fun i hi => (hall i hi).trans hc)
  have HL' := Lib.hid (fun i hi => (hall' i hi).trans hc')
  have HA := Lib.hid h
  have HB := Lib.hid hB
  have hl2 : l ≤ 256 := by omega
  have hp2 : p ≤ 256 := by omega
  obtain ⟨ba, offa, A0, c0, rfl, hc0, hrows⟩ := h.at0 hn0
  obtain ⟨bb, offb, B0, d0, rfl, hd0, hrows'⟩ := hB.at0 hn0'
  rw [hc] at hc0
  rw [hc'] at hd0
  have hbb := lt_of_cell hd0
  have K0 := Lib.hid (rcheck_any (ca := ca) h (by omega) (fun i hi => by rw [hall i hi]; omega))
  have K1 := Lib.hid (rcheck_any (ca := cb) hB (by omega) (fun i hi => by rw [hall' i hi]; omega))
  rw [hcode] at K0
  rw [hcode'] at K1
  have KD := Lib.hid (fun (i k : Nat) (hi : i < n) (hk : k < p) (W : World) (Ai : Option Addr) (ci : Nat) (Aj : Option Addr) (cj : Nat) (hb : Below w.heap.size w W) (hr : RowI w w.heap.size Ai l (R i)) (hcol : OwR W w.heap.size Aj cj l (fun t => R' t k)) => (by
    have := dot_any (ca := ci) (cb := cj) (hr.kp (Kp.of_below hb)).ra hcol.ra (fun t ht => hz i t hi ht) (fun t ht => hok i t hi ht) (fun t ht => hz' t k ht hk) (fun t ht => hok' t k ht hk) hl2 hL hL2
    rw [hF]
    exact this : Calls Tryd.prog 62 #[.slice Ai l ci, .slice Aj l cj] W fun e w' => RetE (F i k) e w' ∧ Below W.heap.size W w'))
  rw [← hF]
  clear hF hz hok hz' hok' h hB hcode hcode' hc hc' hrows hrows' hall hall'
  go_enter Tryd.func36, Tryd.ntmps36
  go_wp2_with (first | (go_at_call 19; (with_reducible refine (K0.out).mono ?_); rintro e _ ⟨rfl, rfl⟩) | (go_at_call 19; (with_reducible refine (K1.out).mono ?_); rintro e _ ⟨rfl, rfl⟩) | fail)
  clear K0 K1
  go_loopw [8, 34] (fun a i wr => ∃ k A c, k ≤ n ∧ i = .int .i64 (k : Int) ∧ a = .slice A k c ∧ MatO wr w.heap.size A c k (fun _ => p) F ∧ Below w.heap.size w wr) (fun _ i _ => n - (intOf i).toNat)
  case atStart => exact ⟨0, none, 0, Nat.zero_le _, rfl, rfl, MatO.nil_ _ _ _ _, Below.refl _ _⟩
  case round =>
    obtain ⟨i, A1, c1, hi, rfl, rfl, own, hb⟩ := hrel
    have hbz := hb.size
    by_cases hlt : i < n
    · obtain ⟨x1, x2, Ai, ci, e1, _, ha0, hlc, hrow⟩ := HA.out.at_ hlt
      obtain ⟨rfl, rfl⟩ : x1 = ba ∧ x2 = offa := by injection e1 with e1; injection e1 with e1 e2; exact ⟨e1.symm, e2.symm⟩
      rw [HL.out i hlt] at ha0 hlc hrow
      have ha1 := (hb.cell (lt_of_cell ha0)).trans ha0
      have hd1 := (hb.cell (p := ⟨bb, offb, none⟩) hbb).trans hd0
      have HROW := Lib.hid hrow
      have HM := Lib.hid own
      clear hrow own ha0 e1
      obtain ⟨wq, hwq⟩ : ∃ wq, wq = wr := ⟨_, rfl⟩
      subst hwq
      go_wp2
      clear ha1 hd1
      go_loopw [11, 42] (fun a i2 wr => ∃ k A c, k ≤ p ∧ i2 = .int .i64 (k : Int) ∧ a = .slice A k c ∧ OwR wr w.heap.size A c k (can (F i)) ∧ (∀ q, (Value.slice A k c).ownBlock = some q → wq.heap.size ≤ q) ∧ Below wq.heap.size wq wr) (fun _ i _ => p - (intOf i).toNat)
      case atStart => exact ⟨0, none, 0, Nat.zero_le _, rfl, rfl, OwR.nil_ _ _ _, (fun q hq => nomatch hq), Below.refl _ _⟩
      case round =>
        obtain ⟨k, A2, c2, hk, rfl, rfl, own2, hfar2, hb2⟩ := hrel
        have HF2 := Lib.hid hfar2
        have hb2z := hb2.size
        clear hfar2
        by_cases hlt2 : k < p
        · have HO2 := Lib.hid own2
          clear own2
          obtain ⟨wp', hwp⟩ : ∃ wp', wp' = wr := ⟨_, rfl⟩
          subst hwp
          go_wp2
          go_loopw [13, 47] (fun a i3 wr => ∃ j A c, j ≤ l ∧ i3 = .int .i64 (j : Int) ∧ a = .slice A j c ∧ OwR wr w.heap.size A c j (fun t => R' t k) ∧ (∀ q, (Value.slice A j c).ownBlock = some q → wp'.heap.size ≤ q) ∧ Below wp'.heap.size wp' wr) (fun _ i _ => l - (intOf i).toNat)
          case atStart => exact ⟨0, none, 0, Nat.zero_le _, rfl, rfl, OwR.nil_ _ _ _, (fun q hq => nomatch hq), Below.refl _ _⟩
          case round =>
            obtain ⟨j, A3, c3, hj, rfl, rfl, own3, hfar3, hb3⟩ := hrel
            have HF3 := Lib.hid hfar3
            have hb3z := hb3.size
            clear hfar3
            have hbw : Below w.heap.size w wr := hb.trans ((hb2.mono hbz).trans (hb3.mono (by omega)))
            by_cases hlt3 : j < l
            · obtain ⟨y1, y2, Bj, dj, e2, _, hb0, hld, hrow'⟩ := HB.out.at_ hlt3
              obtain ⟨rfl, rfl⟩ : y1 = bb ∧ y2 = offb := by injection e2 with e2; injection e2 with e2 e3; exact ⟨e2.symm, e3.symm⟩
              rw [HL'.out j hlt3] at hb0 hld hrow'
              obtain ⟨bx, py, s2, X2, n2, k2, Y2, m2, d2, rfl, hbx, g0, g1, g2, r2⟩ := hrow'.ra.at_ hlt2
              have tc : ∀ {b o : Nat} {v : Value}, w.cell? ⟨b, o, none⟩ = some v → wr.cell? ⟨b, o, none⟩ = some v := fun h => (hbw.cell (lt_of_cell h)).trans h
              have hh0 := tc hb0
              have hg0 := tc g0
              have hg1 := tc g1
              have hg2 := tc g2
              have R2 := Lib.hid (r2.kp (Kp.of_below hbw))
              have HO3 := Lib.hid own3
              clear hb0 g0 g1 g2 r2 hrow' own3 tc e2
              go_wp2_with (first | (at_builtin; refine wpList_appR1 rfl (.tmp 50) (.tmp 58) rfl w.heap.size A3 c3 j (fun t => R' t k) (by simp [Act.eval]) (HO3.out.below ((Below.refl _ _).alloc (Nat.le_refl _) _)) wr.heap.size s2 X2 n2 k2 Y2 m2 d2 (R' j k) (by simp [Act.eval]) (by simp) (by simp) (by simp) (R2.out.kp (Kp.of_below ((Below.refl _ _).alloc (Nat.le_refl _) _))) (by omega) (by simp; omega) ?_; intro A5 c5 w5 own5 hg5 hf5) | fail)
              have own6 := own5.congr (U := fun t => R' t k) (fun t _ => by unfold upd; by_cases e : t = j <;> simp [e])
              have hw : Below wp'.heap.size wp' w5 := hb3.trans ((((Below.refl wp'.heap.size wr).alloc hb3z _)).trans (below_of_row hg5 (fun q hq => HF3.out q hq) (by simp; omega)))
              refine ⟨⟨j + 1, A5, c5, by omega, by go_num, rfl, own6, fun q hq => ?_, hw⟩, by simp [intOf]; omega⟩
              rcases hf5 q hq with h | h
              · exact HF3.out q h
              · simp at h; omega
            · have : j = l := by omega
              subst this
              have K := Lib.hid (KD.out i k hlt hlt2 wr Ai ci A3 c3 hbw HROW.out own3)
              clear own3
              go_wp2_with (first | ((go_at_call 62; (with_reducible refine (K.out).mono ?_); rintro e w4 ⟨⟨v4, rfl, rd4⟩, hb4⟩; have hb4z := Below.size hb4; (try simp only [World.size_alloc, World.size_setCell, World.size_drew] at hb4z)); obtain ⟨s4, A4, n4, c4', B4, m4, d4, rfl⟩ := rd4.form) | (at_builtin; refine wpList_appR1 rfl (.tmp 61) (.tmp 65) rfl w.heap.size A2 c2 k (can (F i)) (by simp [Act.eval]) (((HO2.out.below hb3).below hb4).below ((Below.refl _ _).alloc (Nat.le_refl _) _)) w4.heap.size s4 A4 n4 c4' B4 m4 d4 (canR (F i k)) (by simp [Act.eval]) (by simp) (by simp) (by simp) ((rd4.kp (Kp.of_below ((Below.refl _ _).alloc (Nat.le_refl _) _))).base (Nat.zero_le _)) (by omega) (by simp; omega) ?_; intro A5 c5 w5 own5 hg5 hf5) | fail)
              rw [upd_can, upd_self] at own5
              have hw : Below wq.heap.size wq w5 := hb2.trans ((hb3.mono hb2z).trans (((hb4.mono (by omega)).alloc (by omega) _).trans (below_of_row hg5 (fun q hq => HF2.out q hq) (by simp; omega))))
              refine ⟨⟨k + 1, A5, c5, by omega, by go_num, rfl, own5, fun q hq => ?_, hw⟩, by simp [intOf]; omega⟩
              rcases hf5 q hq with h | h
              · exact HF2.out q h
              · simp at h; omega
        · have : k = p := by omega
          subst this
          go_wp2_with (first | (at_builtin; refine wpList_appM rfl (.tmp 68) (.tmp 70) rfl w.heap.size A1 c1 i (fun _ => k) F (by simp [Act.eval]) ((HM.out.below hb2).below ((Below.refl _ _).alloc (Nat.le_refl _) _)) wr.heap.size (by simp [Act.eval]) A2 c2 (by simp) (own2.below ((Below.refl _ _).alloc (Nat.le_refl _) _)) (by omega) (by simp; omega) ?_; intro A5 c5 w5 own5 hb5) | fail)
          exact ⟨⟨i + 1, A5, c5, by omega, by go_num, rfl, own5, hb.trans (((hb2.mono hbz).alloc (by omega) _).trans hb5)⟩, by simp [intOf]; omega⟩
    · have : i = n := by omega
      subst this
      go_wp2
      go_ret2
      exact ⟨⟨_, _, rfl, own⟩, hb⟩
end Go.Proofs.YtnljncncnohncaaDoor
