/- Contracts of functions and lemmas, used by the proofs of the given statements. No condition beyond those that each lemma names. -/
import Derived.Test.YtlncafhgmbhocaaGreatDoorTextB
import Derived.Test.YtlncafhgmbhocaaGreatDoorJRatC
import Derived.Test.YtlncafhgmbhocaaGreatDoorJRatK
namespace Go.Proofs.YtlncafhgmbhocaaGreatDoor
open Go.RowKit
set_option linter.unusedSimpArgs false
set_option linter.unusedVariables false
set_option maxRecDepth 20000
attribute [local irreducible] nv wp win
/-! ## package natural: Text of a number of one group -/
def sliceLen : Value → Nat
  | .slice _ n _ => n
  | _ => 0
/-- ahead of the group, and behind it -/
def TextI (w wr : World) (x : Nat) (s9 : ByteArray) (a g : Value) : Prop :=
  ((∃ A1 c1, a = .slice A1 1 c1 ∧ OwN wr w.heap.size A1 1 c1 x) ∧ g = .slice none 0 0) ∨ (∃ A1 c1 G cG, a = .slice A1 0 c1 ∧ g = .slice (some ⟨G, 0, none⟩) 1 cG ∧ wr.cell? ⟨G, 0, none⟩ = some (.string s9))
def TextJ (w wr : World) (b G : Nat) (s9 : ByteArray) (k : Nat) : Prop :=
  (k = 1 ∧ Lib.BuilderAt 137 5 w.heap.size b (.pointer none) [] wr ∧ wr.cell? ⟨G, 0, none⟩ = some (.string s9)) ∨ (k = 0 ∧ Lib.IsBuilder 137 5 w.heap.size b (Lib.strCells s9) wr)
theorem trimN {A : Option Addr} {n c x : Nat} {w : World} (h : RdN w A n c x) (hn : n ≤ 274877906900) :
    Calls Tryz.prog 88 #[.slice A n c] w fun e w' => RetN w.heap.size x e w' ∧ Below w.heap.size w w' := by
  have := trim_any A (dig x) n c w h.1.symm (by omega) h.2.1 (dig_W32 x) h.2.2
  rw [nv_dig] at this
  exact this.mono fun _ _ => ret3
theorem trimLeft0 (s : ByteArray) (w : World) (hs : s.size ≠ 0) :
    Calls Tryz.prog 107 #[.string s, .string ⟨#[48]⟩] w fun e w' => e = .returned (.string ⟨(Lib.trimLeftB s.data.toList 48).toArray⟩) ∧ w' = w := by
  have KL := Lib.hid (Tryz.strings_trimLeftByte s 48 w)
  have HS := Lib.hid hs
  clear hs
  go_enter Tryz.func107, Tryz.ntmps107
  have hne : s.toList ≠ [] := fun h0 => HS.out (by
    have h1 : s.toList = s.data.toList := Lib.toList_data s
    rw [h1] at h0
    have h2 : s.data.toList.length = 0 := by rw [h0]; rfl
    rw [Array.length_toList] at h2
    exact h2)
  go_wp2_with (first | (go_at_call 141; (refine (KL.out).mono ?_); rintro e w6 ⟨rfl, rfl⟩) | fail)
  all_goals first | (exfalso; rename_i h; exact hne (by simpa using h)) | go_ret
  all_goals exact ⟨rfl, rfl⟩
set_option maxHeartbeats 4000000 in
theorem text_small {A : Option Addr} {n c x : Nat} {w : World} (h : RdN w A n c x) (hx0 : x ≠ 0) (hx : x < 1000000000) (t : List UInt8) (ht : Lib.trimLeftB (strOfNums (nineL x)).data.toList 48 = t) (htn : t ≠ []) :
    Calls Tryz.prog 75 #[.slice A n c] w fun e w' => e = .returned (.string ⟨t.toArray⟩) ∧ Below w.heap.size w w' := by
  have hd : dig x = [x] := dig_small hx0 (by omega)
  have hn1 : n = 1 := by rw [h.1, hd]; rfl
  subst hn1
  have K1 := Lib.hid (trimN h (by omega))
  have K9 := Lib.hid (fun W => nine_any x W hx)
  obtain ⟨s9, hs9⟩ : ∃ s9, s9 = strOfNums (nineL x) := ⟨_, rfl⟩
  rw [← hs9] at K9 ht
  have hs9n : s9.size = 9 := by rw [hs9, strOfNums_size]; rfl
  have H9 := Lib.hid hs9n
  have HT := Lib.hid ht
  have HTN := Lib.hid htn
  have HX0 := Lib.hid hx0
  have HX := Lib.hid hx
  have KS := Lib.hid (fun W (A1 : Option Addr) (c1 : Nat) (ho : OwN W w.heap.size A1 1 c1 x) => (by
    have := small_any A1 (dig x) 1 c1 1000000000 W (by rw [hd]; rfl) (by omega) (dig_W32 x) (by omega) (by omega) ho.2.2.rd
    rw [nv_dig, Nat.div_eq_of_lt hx, Nat.mod_eq_of_lt hx, dig_zero] at this
    exact this : Calls Tryz.prog 104 #[.slice A1 1 c1, .int .u32 1000000000] W fun e w' => ∃ A' c'', e = .returned (.tuple #[.slice A' 0 c'', .int .u32 (x : Int)]) ∧ OwW w' W.heap.size A' c'' [] ∧ Below W.heap.size W w'))
  clear h hx hx0 hs9 ht htn hs9n hd
  go_enter Tryz.func75, Tryz.ntmps75
  (go_wp2_with fail; (with_reducible refine (K1.out).mono ?_); rintro e w1 ⟨⟨A1, n1, c1, rfl, own1⟩, hb1⟩; have hb1z := Below.size hb1; (try simp only [ZA, ZS, ZD, ZN] at hb1z))
  have hn1 : n1 = 1 := by rw [own1.1, dig_small HX0.out (by have := HX.out; omega)]; rfl
  subst hn1
  go_wp2
  go_loopw [0, 3] (fun a g wr => TextI w wr x s9 a g ∧ Below w.heap.size w wr) (fun a _ _ => sliceLen a)
  case atStart => exact ⟨.inl ⟨⟨A1, c1, rfl, own1⟩, rfl⟩, hb1⟩
  case round =>
    obtain ⟨hI, hb⟩ := hrel
    have hbz := hb.size
    unfold TextI at hI
    rcases hI with ⟨⟨A2, c2, rfl, own2⟩, rfl⟩ | ⟨A2, c2, G, cG, rfl, rfl, hG⟩
    · have K2 := Lib.hid (KS.out wr A2 c2 own2)
      go_wp2_with (first | (go_at_call 104; (with_reducible refine (K2.out).mono ?_); rintro e w3 ⟨A3, c3, rfl, own3, hb3⟩) | (go_at_call 105; (with_reducible refine (K9.out _).mono ?_); rintro e w4 ⟨rfl, hb4⟩) | fail)
      refine ⟨⟨.inr ⟨A3, c3, _, _, rfl, rfl, by simp [Array.getElem?_append_left]⟩, (by have z0 := Below.size hb; have z1 := Below.size hb3; have z2 := Below.size hb4; (try simp only [ZA, ZS, ZD, ZN] at z0 z1 z2 ⊢; skip); repeat' (first | (with_reducible exact Below.refl _ _) | (with_reducible assumption) | (with_reducible refine Below.alloc ?_ ?_ _) | (with_reducible refine Below.drew ?_) | (with_reducible refine below_drewN ?_ _) | (with_reducible refine Below.setCell ?_ ?_ _) | (with_reducible refine Below.trans ?_ (Below.mono (by with_reducible assumption) ?_)) | omega | (simp only [ZA, ZS, ZD, ZN]; omega) | go_size))⟩, by simp [sliceLen]⟩
    · have hGl := lt_of_cell hG
      obtain ⟨wq, hwq⟩ : ∃ wq, wq = wr := ⟨_, rfl⟩
      subst hwq
      go_wp2
      go_loopw [7] (fun i wr2 => ∃ k : Nat, k ≤ 1 ∧ i = .int .i64 ((k : Int) - 1) ∧ TextJ w wr2 wq.heap.size G s9 k ∧ Below w.heap.size w wr2) (fun i _ => (intOf i + 1).toNat)
      case atStart =>
        refine ⟨1, Nat.le_refl _, rfl, .inl ⟨rfl, ?_, ?_⟩, (by have z0 := Below.size hb; (try simp only [ZA, ZS, ZD, ZN] at z0 ⊢; skip); repeat' (first | (with_reducible exact Below.refl _ _) | (with_reducible assumption) | (with_reducible refine Below.alloc ?_ ?_ _) | (with_reducible refine Below.drew ?_) | (with_reducible refine below_drewN ?_ _) | (with_reducible refine Below.setCell ?_ ?_ _) | (with_reducible refine Below.trans ?_ (Below.mono (by with_reducible assumption) ?_)) | omega | (simp only [ZA, ZS, ZD, ZN]; omega) | go_size))⟩
        · exact ⟨by omega, .slice none 0 0, heap_alloc_new wq _, World.ownsRow_nil _ _ _ _, by simp [Value.ownBlock]⟩
        · exact Lib.cell?_alloc_some _ hG
      case round =>
        obtain ⟨k, hk, hi, hJ, hb2⟩ := hrel
        unfold TextJ at hJ
        have hb2z := hb2.size
        rcases hJ with ⟨rfl, hB, hG2⟩ | ⟨rfl, hB⟩
        · obtain rfl := hi
          have KW := Lib.hid (ws_fresh w.heap.size wq.heap.size s9 wr hB (by rw [H9.out]; omega) (by omega))

          go_wp2_with (first | (go_at_call 106; (with_reducible refine (KW.out).mono ?_); rintro e w5 ⟨rfl, hB5, hb5⟩) | fail)

          exact ⟨⟨0, by omega, rfl, .inr ⟨rfl, hB5⟩, (by have z0 := Below.size hb2; have z1 := Below.size hb5; (try simp only [ZA, ZS, ZD, ZN] at z0 z1 ⊢; skip); repeat' (first | (with_reducible exact Below.refl _ _) | (with_reducible assumption) | (with_reducible refine Below.alloc ?_ ?_ _) | (with_reducible refine Below.drew ?_) | (with_reducible refine below_drewN ?_ _) | (with_reducible refine Below.setCell ?_ ?_ _) | (with_reducible refine Below.trans ?_ (Below.mono (by with_reducible assumption) ?_)) | omega | (simp only [ZA, ZS, ZD, ZN]; omega) | go_size))⟩, by simp [intOf]⟩
        · obtain rfl := hi
          have KB := Lib.hid (Tryz.Builder_String w.heap.size wq.heap.size s9.data.toList wr hB (by intro h0; have h9 := H9.out; have h10 : s9.data.size = 9 := h9; rw [← Array.length_toList, h0] at h10; simp at h10))
          have KL := Lib.hid (fun W => trimLeft0 s9 W (by rw [H9.out]; omega))
          go_wp2_with (first | (go_at_call 108; (with_reducible refine (KB.out).mono ?_); rintro e w5 ⟨rfl, hb5⟩) | (go_at_call 107; (with_reducible refine (KL.out _).mono ?_); rintro e w6 ⟨rfl, rfl⟩) | fail)
          trace_state
          all_goals first | (exfalso; rename_i h; exact HTN.out (by rw [← HT.out]; simpa using h)) | skip
          all_goals go_ret
          all_goals exact ⟨by rw [← HT.out]; rfl, (by have z0 := Below.size hb2; have z1 := Below.size hb5; (try simp only [ZA, ZS, ZD, ZN] at z0 z1 ⊢; skip); repeat' (first | (with_reducible exact Below.refl _ _) | (with_reducible assumption) | (with_reducible refine Below.alloc ?_ ?_ _) | (with_reducible refine Below.drew ?_) | (with_reducible refine below_drewN ?_ _) | (with_reducible refine Below.setCell ?_ ?_ _) | (with_reducible refine Below.trans ?_ (Below.mono (by with_reducible assumption) ?_)) | omega | (simp only [ZA, ZS, ZD, ZN]; omega) | go_size))⟩
end Go.Proofs.YtlncafhgmbhocaaGreatDoor
namespace Go.Proofs.YtlncafhgmbhocaaGreatDoor
open Go.RowKit
set_option linter.unusedSimpArgs false
set_option linter.unusedVariables false
set_option maxRecDepth 20000
attribute [local irreducible] nv wp win
/-! ## package rational: Text of a valid number other than 0, of one group either side -/
def RetPC (s : Bool) (x y : Nat) (e : Ending) (w' : World) : Prop :=
  ∃ A n c B n' d, e = .returned (.tuple #[.bool s, .slice A n c, .slice B n' d]) ∧ RdN w' A n c x ∧ RdN w' B n' d y
set_option maxHeartbeats 1000000 in
theorem parts_can {w : World} {v : Value} {q : Rat} (h : RdR w v (canR q)) (hq : q ≠ 0) (hs : Sz 100000000000 q) :
    Calls Tryz.prog 54 #[v] w fun e w' => RetPC (decide (q < 0)) q.num.natAbs q.den e w' ∧ Below w.heap.size w w' := by
  have hz0 := Sz_canR hs
  have hval := canR_valid q
  have hcan : canR q = (decide (q < 0), dig q.num.natAbs, dig q.den) := by unfold canR; rw [if_neg hq]
  rw [hcan] at h hz0 hval
  obtain ⟨A, c, B, d, rfl, hc, hd, hok, hA, hB⟩ := h
  simp only at hc hd hA hB hz0 ⊢
  have hbA : ∀ o, Below w.heap.size w (w.alloc o) := fun o => (Below.refl _ _).alloc (Nat.le_refl _) o
  have hnz : (dig q.num.natAbs).length ≠ 0 := fun h => by
    have := dig_len_zero.1 h
    exact hq (Rat.num_eq_zero.1 (Int.natAbs_eq_zero.1 this))
  have K := Lib.hid (fun W (hb : Below w.heap.size w W) => valid_any (decide (q < 0)) A B (dig q.num.natAbs) (dig q.den) _ c _ d W rfl rfl (by omega) (by omega) hc hd hok.1 hok.2 (hA.on hb hb.size) (hB.on hb hb.size))
  rw [hval] at K
  have HR := Lib.hid (fun W (hb : Below w.heap.size w W) => (⟨A, _, c, B, _, d, rfl, ⟨rfl, hc, hA.on hb hb.size⟩, ⟨rfl, hd, hB.on hb hb.size⟩⟩ : RetPC (decide (q < 0)) q.num.natAbs q.den (.returned (.tuple #[.bool (decide (q < 0)), .slice A (dig q.num.natAbs).length c, .slice B (dig q.den).length d])) W))
  clear hval hok hA hB hcan hz0
  generalize (dig q.num.natAbs).length = n at *
  generalize (dig q.den).length = n' at *
  generalize decide (q < 0) = s at *
  have hz : ((n : Int) == 0) = false := by simpa using hnz
  go_enter Tryz.func54, Tryz.ntmps54
  go_wp2_with (first | (go_at_call 67; (with_reducible refine (K.out _ (hbA _)).mono ?_); rintro e w1 ⟨rfl, hb1⟩; have hb1z := Below.size hb1; (try simp only [ZA, ZS, ZD] at hb1z); have hb1c0 := fun o => below_at hb1 (w.heap.size) o (by first | omega | (simp only [ZA, ZS, ZD]; omega)); have hb1f0 := fun o => below_fr hb1 (w.heap.size) o (by first | omega | (simp only [ZA, ZS, ZD]; omega)); have hb1l0 : w.heap.size < (w1).heap.size := (by omega)) | fail)
  go_quiet (fail)
  go_wp2
  refine bodyPost_ret (v := (.tuple #[.bool s, .slice A n c, .slice B n' d])) (by simp [results, Tryz.results54, go_sem]) rfl ?_
  have hb9 := (hbA (.cells #[.bool s, .slice A n c, .slice B n' d] 44)).trans (hb1.mono (by simp))
  exact ⟨HR.out _ (by have z0 := Below.size hb9; (try simp only [ZA, ZS, ZD, ZN] at z0 ⊢; skip); repeat' (first | (with_reducible exact Below.refl _ _) | (with_reducible assumption) | (with_reducible refine Below.alloc ?_ ?_ _) | (with_reducible refine Below.drew ?_) | (with_reducible refine below_drewN ?_ _) | (with_reducible refine Below.setCell ?_ ?_ _) | (with_reducible refine Below.trans ?_ (Below.mono (by with_reducible assumption) ?_)) | omega | (simp only [ZA, ZS, ZD, ZN]; omega) | go_size)), (by have z0 := Below.size hb9; (try simp only [ZA, ZS, ZD, ZN] at z0 ⊢; skip); repeat' (first | (with_reducible exact Below.refl _ _) | (with_reducible assumption) | (with_reducible refine Below.alloc ?_ ?_ _) | (with_reducible refine Below.drew ?_) | (with_reducible refine below_drewN ?_ _) | (with_reducible refine Below.setCell ?_ ?_ _) | (with_reducible refine Below.trans ?_ (Below.mono (by with_reducible assumption) ?_)) | omega | (simp only [ZA, ZS, ZD, ZN]; omega) | go_size))⟩
def signTx (s : Bool) : ByteArray := if s then ⟨#[45]⟩ else .empty
set_option maxHeartbeats 2000000 in
theorem text_can {w : World} {v : Value} {q : Rat} (h : RdR w v (canR q)) (hq : q ≠ 0) (hx : q.num.natAbs < 1000000000) (hy : q.den < 1000000000) (t t' : List UInt8)
    (ht : Lib.trimLeftB (strOfNums (nineL q.num.natAbs)).data.toList 48 = t) (ht' : Lib.trimLeftB (strOfNums (nineL q.den)).data.toList 48 = t') (hn : t ≠ []) (hn' : t' ≠ []) (hl : t.length ≤ 9) (hl' : t'.length ≤ 9) :
    Calls Tryz.prog 37 #[v] w fun e w' => e = .returned (.string (if q.den = 1 then signTx (decide (q < 0)) ++ ⟨t.toArray⟩ else signTx (decide (q < 0)) ++ ⟨t.toArray⟩ ++ (⟨#[47]⟩ ++ ⟨t'.toArray⟩))) ∧ Below w.heap.size w w' := by
  have h32 : wp 100000000000 > 1000000000 := by
    have h1 : wp 1 = 4294967296 := wp_one
    have := wp_le (show 1 ≤ 100000000000 by omega)
    omega
  have K := Lib.hid (fun W (hb : Below w.heap.size w W) => parts_can (w := W) (h.below hb) hq ⟨by omega, by omega⟩)
  have hx0 : q.num.natAbs ≠ 0 := fun h => hq (Rat.num_eq_zero.1 (Int.natAbs_eq_zero.1 h))
  have hy0 : q.den ≠ 0 := q.den_nz
  obtain ⟨A0, c0, B0, d0, rfl, _⟩ := h
  clear hq h32
  generalize (canR q).1 = s0 at *
  generalize (canR q).2.1.length = n0 at *
  generalize (canR q).2.2.length = m0 at *
  generalize q.num.natAbs = x at *
  generalize q.den = y at *
  generalize decide (q < 0) = s at *
  have KX := Lib.hid (fun (A : Option Addr) (n c : Nat) (W : World) (h : RdN W A n c x) => text_small h hx0 hx t ht hn)
  have KY := Lib.hid (fun (A : Option Addr) (n c : Nat) (W : World) (h : RdN W A n c y) => text_small h hy0 hy t' ht' hn')
  have HL := Lib.hid (fun (A : Option Addr) (n c : Nat) (W : World) (h : RdN W A n c y) => (by rw [h.1, dig_small hy0 (by omega)]; simp : n ≤ 274877906900))
  have HC := Lib.hid (fun (h : y = 1) => (by rw [h]; rfl : cmpN y 1 = 0))
  have HC2 := Lib.hid (fun (h : y ≠ 1) => (by unfold cmpN; rw [if_neg (by omega), if_neg h] : cmpN y 1 = 1))
  clear hx hy ht ht' hn hn' hx0 hy0
  go_enter Tryz.func37, Tryz.ntmps37
  (go_wp2_with fail; (with_reducible refine (K.out _ (by (skip); repeat' (first | (with_reducible exact Below.refl _ _) | (with_reducible assumption) | (with_reducible refine Below.alloc ?_ ?_ _) | (with_reducible refine Below.drew ?_) | (with_reducible refine below_drewN ?_ _) | (with_reducible refine Below.setCell ?_ ?_ _) | (with_reducible refine Below.trans ?_ (Below.mono (by with_reducible assumption) ?_)) | omega | (simp only [ZA, ZS, ZD, ZN]; omega) | go_size))).mono ?_); rintro e w1 ⟨⟨A1, n1, c1, B1, m1, d1, rfl, rx, ry⟩, hb1⟩; have hb1z := Below.size hb1; (try simp only [ZA, ZS, ZD, ZN] at hb1z); have hb1c0 := fun o => below_at hb1 (w.heap.size) o (by first | omega | (simp only [ZA, ZS, ZD, ZN]; omega)); have hb1f0 := fun o => below_fr hb1 (w.heap.size) o (by first | omega | (simp only [ZA, ZS, ZD, ZN]; omega)))
  (go_wp2_with fail; (with_reducible refine (KX.out _ _ _ _ rx).mono ?_); rintro e w2 ⟨rfl, hb2⟩; have hb2z := Below.size hb2; (try simp only [ZA, ZS, ZD, ZN] at hb2z); have hb2c0 := fun o => below_at hb2 (w.heap.size) o (by first | omega | (simp only [ZA, ZS, ZD, ZN]; omega)); have hb2f0 := fun o => below_fr hb2 (w.heap.size) o (by first | omega | (simp only [ZA, ZS, ZD, ZN]; omega)))
  have ry2 := ry.below hb2
  have h60 := HL.out _ _ _ _ ry
  by_cases hy1 : y = 1
  · have hc0 := HC.out hy1
    cases s
    all_goals
      go_wp2_with (first | ((go_at_call 76; (with_reducible refine (oneN _).mono ?_); rintro e w3 ⟨⟨A3, n3, c3, rfl, own3⟩, hb3⟩; have hb3z := Below.size hb3; (try simp only [ZA, ZS, ZD] at hb3z); have hb3c0 := fun o => below_at hb3 (w.heap.size) o (by first | omega | (simp only [ZA, ZS, ZD]; omega)); have hb3f0 := fun o => below_fr hb3 (w.heap.size) o (by first | omega | (simp only [ZA, ZS, ZD]; omega)); have hb3l0 : w.heap.size < (w3).heap.size := (by omega)); have h61 : n3 ≤ 274877906900 := (by rw [own3.1, dig_one]; simp); have ry3 := ry2.below hb3) | (go_at_call 58; (with_reducible refine (cmpNN ry3 own3.rd h60 h61).mono ?_); rintro e w4 ⟨rfl, hb4⟩; have hb4z := Below.size hb4; (try simp only [ZA, ZS, ZD] at hb4z); have hb4c0 := fun o => below_at hb4 (w.heap.size) o (by first | omega | (simp only [ZA, ZS, ZD]; omega)); have hb4f0 := fun o => below_fr hb4 (w.heap.size) o (by first | omega | (simp only [ZA, ZS, ZD]; omega)); have hb4l0 : w.heap.size < (w4).heap.size := (by omega)) | fail)
      go_ret
      exact ⟨by first | rfl | (unfold signTx; simp), (by have z0 := Below.size hb1; have z1 := Below.size hb2; have z2 := Below.size hb3; have z3 := Below.size hb4; (try simp only [ZA, ZS, ZD, ZN] at z0 z1 z2 z3 ⊢; skip); repeat' (first | (with_reducible exact Below.refl _ _) | (with_reducible assumption) | (with_reducible refine Below.alloc ?_ ?_ _) | (with_reducible refine Below.drew ?_) | (with_reducible refine below_drewN ?_ _) | (with_reducible refine Below.setCell ?_ ?_ _) | (with_reducible refine Below.trans ?_ (Below.mono (by with_reducible assumption) ?_)) | omega | (simp only [ZA, ZS, ZD, ZN]; omega) | go_size))⟩
  · have hc0 := HC2.out hy1
    cases s
    all_goals
      go_wp2_with (first | ((go_at_call 76; (with_reducible refine (oneN _).mono ?_); rintro e w3 ⟨⟨A3, n3, c3, rfl, own3⟩, hb3⟩; have hb3z := Below.size hb3; (try simp only [ZA, ZS, ZD] at hb3z); have hb3c0 := fun o => below_at hb3 (w.heap.size) o (by first | omega | (simp only [ZA, ZS, ZD]; omega)); have hb3f0 := fun o => below_fr hb3 (w.heap.size) o (by first | omega | (simp only [ZA, ZS, ZD]; omega)); have hb3l0 : w.heap.size < (w3).heap.size := (by omega)); have h61 : n3 ≤ 274877906900 := (by rw [own3.1, dig_one]; simp); have ry3 := ry2.below hb3) | (go_at_call 58; (with_reducible refine (cmpNN ry3 own3.rd h60 h61).mono ?_); rintro e w4 ⟨rfl, hb4⟩; have hb4z := Below.size hb4; (try simp only [ZA, ZS, ZD] at hb4z); have hb4c0 := fun o => below_at hb4 (w.heap.size) o (by first | omega | (simp only [ZA, ZS, ZD]; omega)); have hb4f0 := fun o => below_fr hb4 (w.heap.size) o (by first | omega | (simp only [ZA, ZS, ZD]; omega)); have hb4l0 : w.heap.size < (w4).heap.size := (by omega)) | (go_at_call 75; (with_reducible refine (KY.out _ _ _ _ (ry3.below hb4)).mono ?_); rintro e w5 ⟨rfl, hb5⟩; have hb5z := Below.size hb5; (try simp only [ZA, ZS, ZD] at hb5z); have hb5c0 := fun o => below_at hb5 (w.heap.size) o (by first | omega | (simp only [ZA, ZS, ZD]; omega)); have hb5f0 := fun o => below_fr hb5 (w.heap.size) o (by first | omega | (simp only [ZA, ZS, ZD]; omega)); have hb5l0 : w.heap.size < (w5).heap.size := (by omega)) | fail)
      go_ret
      exact ⟨by first | rfl | (unfold signTx; simp), (by have z0 := Below.size hb1; have z1 := Below.size hb2; have z2 := Below.size hb3; have z3 := Below.size hb4; have z4 := Below.size hb5; (try simp only [ZA, ZS, ZD, ZN] at z0 z1 z2 z3 z4 ⊢; skip); repeat' (first | (with_reducible exact Below.refl _ _) | (with_reducible assumption) | (with_reducible refine Below.alloc ?_ ?_ _) | (with_reducible refine Below.drew ?_) | (with_reducible refine below_drewN ?_ _) | (with_reducible refine Below.setCell ?_ ?_ _) | (with_reducible refine Below.trans ?_ (Below.mono (by with_reducible assumption) ?_)) | omega | (simp only [ZA, ZS, ZD, ZN]; omega) | go_size))⟩
end Go.Proofs.YtlncafhgmbhocaaGreatDoor
