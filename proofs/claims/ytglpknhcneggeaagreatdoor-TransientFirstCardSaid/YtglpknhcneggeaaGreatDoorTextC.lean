/- Contracts of functions and lemmas, used by the proofs of the given statements. No condition beyond those that each lemma names. -/
import Derived.Test.YtglpknhcneggeaaGreatDoorTextB
import Derived.Test.YtglpknhcneggeaaGreatDoorJRatC
namespace Go.Proofs.YtglpknhcneggeaaGreatDoor
open Go.RowKit
set_option linter.unusedSimpArgs false
set_option linter.unusedVariables false
set_option maxRecDepth 20000
attribute [local irreducible] nv wp win
/-! ## package natural: Text of a number of one group -/
def sliceLen : Value → Nat
  | .slice _ n _ => n
  | _ => 0
theorem stringInfo : (Tryz.prog.info? 9).map (fun i => (i.zero, i.size, i.bytes)) = some (some (.string .empty), 1, 16) := by kernel_rfl
/-- ahead of the group, and behind it -/
def TextI (w wr : World) (x : Nat) (s9 : ByteArray) (a g : Value) : Prop :=
  ((∃ A1 c1, a = .slice A1 1 c1 ∧ OwN wr w.heap.size A1 1 c1 x) ∧ g = .slice none 0 0) ∨ (∃ A1 c1 G cG, a = .slice A1 0 c1 ∧ g = .slice (some ⟨G, 0, none⟩) 1 cG ∧ wr.cell? ⟨G, 0, none⟩ = some (.string s9))
def TextJ (w wr : World) (b G : Nat) (s9 : ByteArray) (k : Nat) : Prop :=
  (k = 1 ∧ Lib.BuilderAt 153 5 w.heap.size b (.pointer none) [] wr ∧ wr.cell? ⟨G, 0, none⟩ = some (.string s9)) ∨ (k = 0 ∧ Lib.IsBuilder 153 5 w.heap.size b (Lib.strCells s9) wr)
theorem trimN {A : Option Addr} {n c x : Nat} {w : World} (h : RdN w A n c x) (hn : n ≤ 274877906900) :
    Calls Tryz.prog 112 #[.slice A n c] w fun e w' => RetN w.heap.size x e w' ∧ Below w.heap.size w w' := by
  have := trim_any A (dig x) n c w h.1.symm (by omega) h.2.1 (dig_W32 x) h.2.2
  rw [nv_dig] at this
  exact this.mono fun _ _ => ret3
theorem trimLeft0 (s : ByteArray) (w : World) (hs : s.size ≠ 0) :
    Calls Tryz.prog 136 #[.string s, .string ⟨#[48]⟩] w fun e w' => e = .returned (.string ⟨(Lib.trimLeftB s.data.toList 48).toArray⟩) ∧ w' = w := by
  have KL := Lib.hid (Tryz.strings_trimLeftByte s 48 w)
  have HS := Lib.hid hs
  clear hs
  go_enter Tryz.func136, Tryz.ntmps136
  have hne : s.toList ≠ [] := fun h0 => HS.out (by
    have h1 : s.toList = s.data.toList := Lib.toList_data s
    rw [h1] at h0
    have h2 : s.data.toList.length = 0 := by rw [h0]; rfl
    rw [Array.length_toList] at h2
    exact h2)
  go_wp2_with (first | (go_at_call 153; (refine (KL.out).mono ?_); rintro e w6 ⟨rfl, rfl⟩) | fail)
  all_goals first | (exfalso; rename_i h; exact hne (by simpa using h)) | go_ret
  all_goals exact ⟨rfl, rfl⟩
set_option maxHeartbeats 4000000 in
theorem text_small {A : Option Addr} {n c x : Nat} {w : World} (h : RdN w A n c x) (hx0 : x ≠ 0) (hx : x < 1000000000) (t : List UInt8) (ht : Lib.trimLeftB (strOfNums (nineL x)).data.toList 48 = t) (htn : t ≠ []) :
    Calls Tryz.prog 93 #[.slice A n c] w fun e w' => e = .returned (.string ⟨t.toArray⟩) ∧ Below w.heap.size w w' := by
  have hd : dig x = [x] := dig_small hx0 (by omega)
  have hn1 : n = 1 := by rw [h.1, hd]; rfl
  subst hn1
  have K1 := Lib.hid (trimN h (by omega))
  have K9 := Lib.hid (fun W => nine_any x W hx)
  obtain ⟨s9, hs9⟩ : ∃ s9, s9 = strOfNums (nineL x) := ⟨_, rfl⟩
  rw [← hs9] at K9 ht
  have hs9n : s9.size = 9 := by rw [hs9, strOfNums_size]; rfl
  have H9 := Lib.hid hs9n
  have HT := Lib.hid ht
  have HTN := Lib.hid htn
  have HX0 := Lib.hid hx0
  have HX := Lib.hid hx
  have KS := Lib.hid (fun W (A1 : Option Addr) (c1 : Nat) (ho : OwN W w.heap.size A1 1 c1 x) => (by
    have := small_any A1 (dig x) 1 c1 1000000000 W (by rw [hd]; rfl) (by omega) (dig_W32 x) (by omega) (by omega) ho.2.2.rd
    rw [nv_dig, Nat.div_eq_of_lt hx, Nat.mod_eq_of_lt hx, dig_zero] at this
    exact this : Calls Tryz.prog 133 #[.slice A1 1 c1, .int .u32 1000000000] W fun e w' => ∃ A' c'', e = .returned (.tuple #[.slice A' 0 c'', .int .u32 (x : Int)]) ∧ OwW w' W.heap.size A' c'' [] ∧ Below W.heap.size W w'))
  clear h hx hx0 hs9 ht htn hs9n hd
  go_enter Tryz.func93, Tryz.ntmps93
  (go_wp2_with fail; (with_reducible refine (K1.out).mono ?_); rintro e w1 ⟨⟨A1, n1, c1, rfl, own1⟩, hb1⟩; have hb1z := Below.size hb1; (try simp only [World.size_alloc, World.size_setCell, World.size_drew, size_drewN'] at hb1z))
  have hn1 : n1 = 1 := by rw [own1.1, dig_small HX0.out (by have := HX.out; omega)]; rfl
  subst hn1
  go_wp2
  go_loopw [0, 3] (fun a g wr => TextI w wr x s9 a g ∧ Below w.heap.size w wr) (fun a _ _ => sliceLen a)
  case atStart => exact ⟨.inl ⟨⟨A1, c1, rfl, own1⟩, rfl⟩, hb1⟩
  case round =>
    obtain ⟨hI, hb⟩ := hrel
    have hbz := hb.size
    unfold TextI at hI
    rcases hI with ⟨⟨A2, c2, rfl, own2⟩, rfl⟩ | ⟨A2, c2, G, cG, rfl, rfl, hG⟩
    · have K2 := Lib.hid (KS.out wr A2 c2 own2)
      go_wp2_with (first | (go_at_call 133; (with_reducible refine (K2.out).mono ?_); rintro e w3 ⟨A3, c3, rfl, own3, hb3⟩) | (go_at_call 134; (with_reducible refine (K9.out _).mono ?_); rintro e w4 ⟨rfl, hb4⟩) | fail)
      refine ⟨⟨.inr ⟨A3, c3, _, _, rfl, rfl, by simp [Array.getElem?_append_left]⟩, (by have z0 := Below.size hb; have z1 := Below.size hb3; have z2 := Below.size hb4; (try simp only [World.size_alloc, World.size_setCell, World.size_drew, size_drewN'] at z0 z1 z2 ⊢; skip); repeat' (first | (with_reducible exact Below.refl _ _) | (with_reducible assumption) | (with_reducible refine Below.alloc ?_ ?_ _) | (with_reducible refine Below.drew ?_) | (with_reducible refine below_drewN ?_ _) | (with_reducible refine Below.setCell ?_ ?_ _) | (with_reducible refine Below.trans ?_ (Below.mono (by with_reducible assumption) ?_)) | omega | (simp only [World.size_alloc, World.size_setCell, World.size_drew, size_drewN']; omega) | go_size))⟩, by simp [sliceLen]⟩
    · have hGl := lt_of_cell hG
      obtain ⟨wq, hwq⟩ : ∃ wq, wq = wr := ⟨_, rfl⟩
      subst hwq
      go_wp2
      go_loopw [7] (fun i wr2 => ∃ k : Nat, k ≤ 1 ∧ i = .int .i64 ((k : Int) - 1) ∧ TextJ w wr2 wq.heap.size G s9 k ∧ Below w.heap.size w wr2) (fun i _ => (intOf i + 1).toNat)
      case atStart =>
        refine ⟨1, Nat.le_refl _, rfl, .inl ⟨rfl, ?_, ?_⟩, (by have z0 := Below.size hb; (try simp only [World.size_alloc, World.size_setCell, World.size_drew, size_drewN'] at z0 ⊢; skip); repeat' (first | (with_reducible exact Below.refl _ _) | (with_reducible assumption) | (with_reducible refine Below.alloc ?_ ?_ _) | (with_reducible refine Below.drew ?_) | (with_reducible refine below_drewN ?_ _) | (with_reducible refine Below.setCell ?_ ?_ _) | (with_reducible refine Below.trans ?_ (Below.mono (by with_reducible assumption) ?_)) | omega | (simp only [World.size_alloc, World.size_setCell, World.size_drew, size_drewN']; omega) | go_size))⟩
        · exact ⟨by omega, .slice none 0 0, heap_alloc_new wq _, World.ownsRow_nil _ _ _ _, by simp [Value.ownBlock]⟩
        · exact Lib.cell?_alloc_some _ hG
      case round =>
        obtain ⟨k, hk, hi, hJ, hb2⟩ := hrel
        unfold TextJ at hJ
        have hb2z := hb2.size
        rcases hJ with ⟨rfl, hB, hG2⟩ | ⟨rfl, hB⟩
        · obtain rfl := hi
          have KW := Lib.hid (ws_fresh w.heap.size wq.heap.size s9 wr hB (by rw [H9.out]; omega) (by omega))

          go_wp2_with (first | (go_at_call 135; (with_reducible refine (KW.out).mono ?_); rintro e w5 ⟨rfl, hB5, hb5⟩) | fail)

          exact ⟨⟨0, by omega, rfl, .inr ⟨rfl, hB5⟩, (by have z0 := Below.size hb2; have z1 := Below.size hb5; (try simp only [World.size_alloc, World.size_setCell, World.size_drew, size_drewN'] at z0 z1 ⊢; skip); repeat' (first | (with_reducible exact Below.refl _ _) | (with_reducible assumption) | (with_reducible refine Below.alloc ?_ ?_ _) | (with_reducible refine Below.drew ?_) | (with_reducible refine below_drewN ?_ _) | (with_reducible refine Below.setCell ?_ ?_ _) | (with_reducible refine Below.trans ?_ (Below.mono (by with_reducible assumption) ?_)) | omega | (simp only [World.size_alloc, World.size_setCell, World.size_drew, size_drewN']; omega) | go_size))⟩, by simp [intOf]⟩
        · obtain rfl := hi
          have KB := Lib.hid (Tryz.Builder_String w.heap.size wq.heap.size s9.data.toList wr hB (by intro h0; have h9 := H9.out; have h10 : s9.data.size = 9 := h9; rw [← Array.length_toList, h0] at h10; simp at h10))
          have KL := Lib.hid (fun W => trimLeft0 s9 W (by rw [H9.out]; omega))
          go_wp2_with (first | (go_at_call 137; (with_reducible refine (KB.out).mono ?_); rintro e w5 ⟨rfl, hb5⟩) | (go_at_call 136; (with_reducible refine (KL.out _).mono ?_); rintro e w6 ⟨rfl, rfl⟩) | fail)
          trace_state
          all_goals first | (exfalso; rename_i h; exact HTN.out (by rw [← HT.out]; simpa using h)) | skip
          all_goals go_ret
          all_goals exact ⟨by rw [← HT.out]; rfl, (by have z0 := Below.size hb2; have z1 := Below.size hb5; (try simp only [World.size_alloc, World.size_setCell, World.size_drew, size_drewN'] at z0 z1 ⊢; skip); repeat' (first | (with_reducible exact Below.refl _ _) | (with_reducible assumption) | (with_reducible refine Below.alloc ?_ ?_ _) | (with_reducible refine Below.drew ?_) | (with_reducible refine below_drewN ?_ _) | (with_reducible refine Below.setCell ?_ ?_ _) | (with_reducible refine Below.trans ?_ (Below.mono (by with_reducible assumption) ?_)) | omega | (simp only [World.size_alloc, World.size_setCell, World.size_drew, size_drewN']; omega) | go_size))⟩
end Go.Proofs.YtglpknhcneggeaaGreatDoor
