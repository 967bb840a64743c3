/- Contracts of functions and lemmas, used by the proofs of the given statements. No condition beyond those that each lemma names. -/
import Derived.Test.YtnljncncnohncaaDoorLinK
import Derived.Test.YtnljncncnohncaaDoorAwA
namespace Go.Proofs.YtnljncncnohncaaDoor
open Go.RowKit
set_option linter.unusedSimpArgs false
set_option linter.unusedVariables false
set_option maxRecDepth 20000
attribute [local irreducible] nv wp win plainB validR valR canR
/-! ## reference: Apply -/
def RetRA (b0 n : Nat) (f : Nat → Rat) (e : Ending) (w' : World) : Prop := ∃ A d, e = .returned (.tuple #[.slice A n d, .int .i64 0]) ∧ OwR w' b0 A d n (can f)
set_option maxHeartbeats 4000000 in
theorem rapply_any {w : World} {n m ca cb L : Nat} {A B : Option Addr} {len : Nat → Nat} {R : Nat → Nat → Rw} {Rx : Nat → Rw} (h : MatI w w.heap.size A n len R) (hB : RowI w w.heap.size B m Rx) (hcode : codeM n len = 0) (hc : len 0 = m)
    (hz : ∀ i k, i < n → k < m → (R i k).2.1.length ≤ L ∧ (R i k).2.2.length ≤ L) (hok : ∀ i k, i < n → k < m → okR (R i k)) (hzb : ∀ i, i < m → (Rx i).2.1.length ≤ L ∧ (Rx i).2.2.length ≤ L) (hokb : ∀ i, i < m → okR (Rx i)) (hL : 1 ≤ L) (hL2 : L ≤ 1000000) :
    Calls Tryd.prog 35 #[.slice A n ca, .slice B m cb] w fun e w' => RetRA w.heap.size n (fun i => dotS (fun k => valR (R i k)) (fun k => valR (Rx k)) m) e w' ∧ Below w.heap.size w w' := by
  obtain ⟨hn0, hl0, hn, hl, hall⟩ := codeM_zero hcode
  obtain ⟨F, hF⟩ : ∃ F : Nat → Rat, F = fun i => dotS (fun k => valR (R i k)) (fun k => valR (Rx k)) m := ⟨_, rfl⟩
  have HL := Lib.hid (fun i hi => (hall i hi).trans hc)
  have HA := Lib.hid h
  have hm : m ≤ 256 := by omega
  obtain ⟨b, off, A0, c0, rfl, hc0, hrows⟩ := h.at0 hn0
  rw [hc] at hc0
  have K0 := Lib.hid (rcheck_any (ca := ca) h (by omega) (fun i hi => by rw [hall i hi]; omega))
  rw [hcode] at K0
  have KD := Lib.hid (fun (i : Nat) (hi : i < n) (W : World) (Ai : Option Addr) (ci : Nat) (hb : Below w.heap.size w W) (hr : RowI w w.heap.size Ai m (R i)) => (by
    have := dot_any (ca := ci) (cb := cb) (hr.kp (Kp.of_below hb)).ra (hB.kp (Kp.of_below hb)).ra (fun k hk => hz i k hi hk) (fun k hk => hok i k hi hk) hzb hokb hm hL hL2
    rw [hF]
    exact this : Calls Tryd.prog 62 #[.slice Ai m ci, .slice B m cb] W fun e w' => RetE (F i) e w' ∧ Below W.heap.size W w'))
  rw [← hF]
  clear hF hz hok hzb hokb h hB hcode hc hrows hall
  go_enter Tryd.func35, Tryd.ntmps35
  go_wp2_with (first | (go_at_call 19; (with_reducible refine (K0.out).mono ?_); rintro e _ ⟨rfl, rfl⟩) | fail)
  go_loopw [7, 24] (fun a i wr => ∃ k A c, k ≤ n ∧ i = .int .i64 (k : Int) ∧ a = .slice A k c ∧ OwR wr w.heap.size A c k (can F) ∧ Below w.heap.size w wr) (fun _ i _ => n - (intOf i).toNat)
  case atStart => exact ⟨0, none, 0, Nat.zero_le _, rfl, rfl, OwR.nil_ _ _ _, Below.refl _ _⟩
  case round =>
    obtain ⟨i, A1, c1, hi, rfl, rfl, own, hb⟩ := hrel
    have hbz := hb.size
    by_cases hlt : i < n
    · obtain ⟨b1, off1, Ai, ci, e1, hbb, hcell0, hlc, hrow⟩ := HA.out.at_ hlt
      obtain ⟨rfl, rfl⟩ : b1 = b ∧ off1 = off := by injection e1 with e1; injection e1 with e1 e2; exact ⟨e1.symm, e2.symm⟩
      rw [HL.out i hlt] at hcell0 hlc hrow
      have hcell := (hb.cell (lt_of_cell hcell0)).trans hcell0
      have K := Lib.hid (KD.out i hlt wr Ai ci hb hrow)
      have HO := Lib.hid own
      clear hcell0 hrow e1 own
      go_wp2_with (first | ((go_at_call 62; (with_reducible refine (K.out).mono ?_); rintro e w3 ⟨⟨v3, rfl, rd3⟩, hb3⟩; have hb3z := Below.size hb3; (try simp only [World.size_alloc, World.size_setCell, World.size_drew] at hb3z)); obtain ⟨s3, A3, n3, c3', B3, m3, d3, rfl⟩ := rd3.form) | (at_builtin; refine wpList_appR1 rfl (.tmp 28) (.tmp 32) rfl w.heap.size A1 c1 i (can F) (by simp [Act.eval]) ((HO.out.below hb3).below ((Below.refl _ _).alloc (Nat.le_refl _) _)) w3.heap.size s3 A3 n3 c3' B3 m3 d3 (canR (F i)) (by simp [Act.eval]) (by simp) (by simp) (by simp) ((rd3.kp (Kp.of_below ((Below.refl _ _).alloc (Nat.le_refl _) _))).base (Nat.zero_le _)) (by omega) (by simp; omega) ?_; intro A5 c5 w5 own5 hg5 hf5) | fail)
      rw [upd_can, upd_self] at own5
      have hw : Below w.heap.size w w5 := by
        refine hb.trans (((hb3.mono hbz).alloc (by omega) _).trans (below_of_row hg5 (fun q hq => (own_lt HO.out q hq).1) (by simp; omega)))
      exact ⟨⟨i + 1, A5, c5, by omega, by go_num, rfl, own5, hw⟩, by simp [intOf]; omega⟩
    · have : i = n := by omega
      subst this
      go_wp2
      go_ret2
      exact ⟨⟨_, _, rfl, own⟩, hb⟩
end Go.Proofs.YtnljncncnohncaaDoor
