/- Contracts of functions and lemmas, used by the proofs of the given statements. No condition beyond those that each lemma names. -/
import Derived.Test.YtedopalmfakeaaaPrW1
import Derived.RangeFuncBox
namespace Go.Proofs.Ytedopalmfakeaaa
open Go.RowKit
set_option linter.unusedSimpArgs false
set_option linter.unusedVariables false
set_option maxRecDepth 20000
/-! ## package prime: tableOf -/
/-- the events of a mask below k, ascending -/
def evL (S k : Nat) : List Nat := (List.range k).filter fun i => S.testBit i
theorem evL_succ (S k : Nat) : evL S (k + 1) = if S.testBit k then evL S k ++ [k] else evL S k := by
  unfold evL
  rw [List.range_succ, List.filter_append]
  cases h : S.testBit k <;> simp [h]
theorem evL_pop : ∀ (k S : Nat), (evL S k).length = pop k S
  | 0, S => rfl
  | k + 1, S => by
    have ih := evL_pop k (S / 2)
    unfold evL at ih ⊢
    rw [List.range_succ_eq_map, List.filter_cons, List.filter_map]
    have e : ((fun i => S.testBit i) ∘ Nat.succ) = fun i => (S / 2).testBit i := by
      funext i
      show S.testBit (i + 1) = _
      rw [Nat.testBit_succ]
    rw [e]
    show _ = S % 2 + pop k (S / 2)
    rw [← ih]
    cases h : S.testBit 0
    · rw [Nat.testBit_zero] at h
      have : S % 2 = 0 := by simp at h; omega
      simp [this]
    · rw [Nat.testBit_zero] at h
      have : S % 2 = 1 := by simpa using h
      simp [this]; omega
theorem evL_mem {S k i : Nat} : i ∈ evL S k ↔ i < k ∧ S.testBit i = true := by
  unfold evL
  rw [List.mem_filter, List.mem_range]
def evF (S : Nat) (j : Nat) : Nat := (evL S 24).getD j 0
theorem evF_get {S j : Nat} (h : j < (evL S 24).length) : evF S j = (evL S 24)[j] := by unfold evF; rw [List.getD_eq_getElem?_getD, List.getElem?_eq_getElem h]; rfl
theorem evL_nodup (S k : Nat) : (evL S k).Nodup := List.Nodup.sublist List.filter_sublist List.nodup_range
theorem evL_evs {S : Nat} (hS : S < 16777216) : Evs S (evL S 24).length (evF S) where
  lt k hk := by
    rw [evF_get hk]
    exact (evL_mem.1 (List.getElem_mem hk)).1
  inj j k hj hk e := by
    rw [evF_get hj, evF_get hk] at e
    have hp := List.pairwise_iff_getElem.1 (evL_nodup S 24)
    rcases Nat.lt_trichotomy j k with h1 | h1 | h1
    · exact absurd e (hp j k hj hk h1)
    · exact h1
    · exact absurd e.symm (hp k j hk hj h1)
  iff i := by
    constructor
    · intro h
      have hi : i ∈ evL S 24 := evL_mem.2 ⟨lt24_bit hS h, h⟩
      obtain ⟨k, hk, e⟩ := List.mem_iff_getElem.1 hi
      exact ⟨k, hk, by rw [evF_get hk]; exact e⟩
    · rintro ⟨k, hk, e⟩
      rw [evF_get hk] at e
      rw [← e]
      exact (evL_mem.1 (List.getElem_mem hk)).2
theorem set_grown (w : World) (b o : Nat) (v : Value) : w.grownBy (w.setCell ⟨b, o, none⟩ v) (some b) :=
  ⟨rfl, rfl, rfl, (KeepsWalks.setCell w _ v).size, fun k _ hk => Below.heap_setCell _ _ _ k (fun e => hk (by rw [e]))⟩
theorem own_set_far {w : World} {b0 b o : Nat} {e : TypeId} {sz n : Nat} {u : Value} {xs : List Value} (v : Value) (h : w.ownsRow b0 e sz u n xs) (hb : b < b0) : (w.setCell ⟨b, o, none⟩ v).ownsRow b0 e sz u n xs := by
  refine h.kept (set_grown w b o v) ?_
  cases hu : u.ownBlock with
  | none => exact .inl rfl
  | some k => exact .inr (fun e2 => by
      injection e2 with e2
      have := (h.lt k hu).1
      omega)
theorem own_set_ne {w : World} {b0 b o : Nat} {e : TypeId} {sz n : Nat} {u : Value} {xs : List Value} (v : Value) (h : w.ownsRow b0 e sz u n xs) (hb : ∀ k, u.ownBlock = some k → k ≠ b) : (w.setCell ⟨b, o, none⟩ v).ownsRow b0 e sz u n xs := by
  refine h.kept (set_grown w b o v) ?_
  cases hu : u.ownBlock with
  | none => exact .inl rfl
  | some k => exact .inr (fun e2 => by
      injection e2 with e2
      exact hb k hu e2)
theorem wid_lt {S n v : Nat} {ev : Nat → Nat} (h : Evs S n ev) (hS : S < 2 ^ v) (s : Nat) : widN n ev s < 2 ^ v := by
  refine Nat.lt_pow_two_of_testBit _ fun i hi => ?_
  cases hb : (widN n ev s).testBit i
  · rfl
  · have := widN_sub h s i hb
    have h2 : S.testBit i = false := Nat.testBit_lt_two_pow (Nat.lt_of_lt_of_le hS (Nat.pow_le_pow_right (by omega) hi))
    rw [this] at h2
    cases h2
section
variable {w : World} {A : Option Addr} {c : Nat} {f : FrR}
set_option maxHeartbeats 8000000 in
theorem tableOf_ok {v : Nat} (h : FrI w A f) (ok : FrOk f) (hv : f.vars = v) (h7 : popc (supF f.fr) ≤ 12) :
    Calls Try.prog 86 #[fv (v : Int) A f.nn c f.top] w fun e w' => (∃ p, e = .returned (.tuple #[.pointer (some ⟨p, 0, none⟩), .nilIface]) ∧ TabI w' p (evL (supF f.fr) 24).length (evF (supF f.fr)) (fun s => f.fr.val (widN (evL (supF f.fr) 24).length (evF (supF f.fr)) s))) ∧ Below w.heap.size w w' := by
  have v1 : v ≤ 24 := by have := ok.v1; omega
  have n1 := ok.n1
  have hSv : supF f.fr < 2 ^ v := by
    have := msk_lt f.fr.mark v
    unfold supF
    rw [vlF_nat f hv]
    exact this
  have hS : supF f.fr < 16777216 := Nat.lt_of_lt_of_le hSv (Nat.pow_le_pow_right (n := 2) (by omega) v1)
  have K1 := Lib.hid (fun W (hW : Below w.heap.size w W) => support_ok (c := c) (h.below hW) ok hv)
  have K4 := Lib.hid (fun W (hW : Below w.heap.size w W) (t : Nat) (ht : t < 2 ^ v) => fvalue_ok (c := c) (t := t) (h.below hW) ok hv ht)
  have HE := Lib.hid (evL_evs hS)
  have HW := Lib.hid (fun s => wid_lt (evL_evs hS) hSv s)
  have hn12 : (evL (supF f.fr) 24).length ≤ 12 := by rw [evL_pop]; exact h7
  have K2 := Lib.hid (fun W => oc_any _ hS W)
  generalize supF f.fr = S at *
  generalize f.fr.val = val at *
  generalize f.nn = nn at *
  generalize f.top = tp at *
  clear ok hv h
  have hp : popc S ≤ 12 := h7
  generalize popc S = pc at *
  have hw64 : IntKind.u64.wrap (S : Int) = (S : Int) := by rw [IntKind.wrap_u64]; omega
  go_enter Try.func86, Try.ntmps86
  go_wp2_with (first | ((go_at_call 76; (with_reducible refine (K2.out _).mono ?_); rintro e _ ⟨rfl, rfl⟩)) | fail)
  refine (K1.out _ (by (skip); repeat' (first | (with_reducible exact Below.refl _ _) | (with_reducible assumption) | (with_reducible refine Below.alloc ?_ ?_ _) | (with_reducible refine Below.drew ?_) | (with_reducible refine below_drewN ?_ _) | (with_reducible refine Below.setCell ?_ ?_ _) | (with_reducible refine Below.trans ?_ (Below.mono (by with_reducible assumption) ?_)) | omega | (simp only [World.size_alloc, World.size_setCell, World.size_drew, size_drewN']; omega) | go_size))).mono ?_
  rintro e w1 ⟨rfl, hb1⟩
  have hb1z := hb1.size
  simp only [World.size_alloc] at hb1z
  have x0 : w1.cell? ⟨w.heap.size, 0, none⟩ = some (.int .i64 (v : Int)) := (below_at hb1 w.heap.size 0 (by simp)).trans (by simp [go_sem])
  have x1 : w1.cell? ⟨w.heap.size, 1, none⟩ = some (.slice A nn c) := (below_at hb1 w.heap.size 1 (by simp)).trans (by simp [go_sem])
  have x2 : w1.cell? ⟨w.heap.size, 2, none⟩ = some (.int .i64 tp) := (below_at hb1 w.heap.size 2 (by simp)).trans (by simp [go_sem])
  have hbA : Below w.heap.size w w1 := (by have z0 := Below.size hb1; (try simp only [World.size_alloc, World.size_setCell, World.size_drew, size_drewN'] at z0 ⊢; skip); repeat' (first | (with_reducible exact Below.refl _ _) | (with_reducible assumption) | (with_reducible refine Below.alloc ?_ ?_ _) | (with_reducible refine Below.drew ?_) | (with_reducible refine below_drewN ?_ _) | (with_reducible refine Below.setCell ?_ ?_ _) | (with_reducible refine Below.trans ?_ (Below.mono (by with_reducible assumption) ?_)) | omega | (simp only [World.size_alloc, World.size_setCell, World.size_drew, size_drewN']; omega) | go_size))
  clear hb1
  go_wp2_with (first | ((go_at_call 76; (with_reducible refine (K2.out _).mono ?_); rintro e _ ⟨rfl, rfl⟩)) | fail)
  have hbB : Below w.heap.size w (w1.alloc (.cells #[.slice none 0 0, .slice none 0 0] 124)) := (by have z0 := Below.size hbA; (try simp only [World.size_alloc, World.size_setCell, World.size_drew, size_drewN'] at z0 ⊢; skip); repeat' (first | (with_reducible exact Below.refl _ _) | (with_reducible assumption) | (with_reducible refine Below.alloc ?_ ?_ _) | (with_reducible refine Below.drew ?_) | (with_reducible refine below_drewN ?_ _) | (with_reducible refine Below.setCell ?_ ?_ _) | (with_reducible refine Below.trans ?_ (Below.mono (by with_reducible assumption) ?_)) | omega | (simp only [World.size_alloc, World.size_setCell, World.size_drew, size_drewN']; omega) | go_size))
  have q0 : (w1.alloc (.cells #[.slice none 0 0, .slice none 0 0] 124)).cell? ⟨w1.heap.size, 0, none⟩ = some (.slice none 0 0) := by simp [go_sem]
  have q1 : (w1.alloc (.cells #[.slice none 0 0, .slice none 0 0] 124)).cell? ⟨w1.heap.size, 1, none⟩ = some (.slice none 0 0) := by simp [go_sem]
  have g0 : (w1.alloc (.cells #[.slice none 0 0, .slice none 0 0] 124)).frozen? ⟨w1.heap.size, 0, none⟩ = false := by simp [go_sem]
  have g1 : (w1.alloc (.cells #[.slice none 0 0, .slice none 0 0] 124)).frozen? ⟨w1.heap.size, 1, none⟩ = false := by simp [go_sem]
  have x0' : (w1.alloc (.cells #[.slice none 0 0, .slice none 0 0] 124)).cell? ⟨w.heap.size, 0, none⟩ = some (.int .i64 (v : Int)) := (below_at ((Below.refl w1.heap.size w1).alloc (Nat.le_refl _) _) w.heap.size 0 (by omega)).trans x0
  have x1' : (w1.alloc (.cells #[.slice none 0 0, .slice none 0 0] 124)).cell? ⟨w.heap.size, 1, none⟩ = some (.slice A nn c) := (below_at ((Below.refl w1.heap.size w1).alloc (Nat.le_refl _) _) w.heap.size 1 (by omega)).trans x1
  have x2' : (w1.alloc (.cells #[.slice none 0 0, .slice none 0 0] 124)).cell? ⟨w.heap.size, 2, none⟩ = some (.int .i64 tp) := (below_at ((Below.refl w1.heap.size w1).alloc (Nat.le_refl _) _) w.heap.size 2 (by omega)).trans x2
  have hz2 : w1.heap.size + 1 ≤ (w1.alloc (.cells #[.slice none 0 0, .slice none 0 0] 124)).heap.size := by simp
  obtain ⟨Wt, hWt⟩ : ∃ Wt, Wt = w1.alloc (.cells #[.slice none 0 0, .slice none 0 0] 124) := ⟨_, rfl⟩
  rw [← hWt] at hbB q0 q1 g0 g1 x0' x1' x2' hz2 ⊢
  clear hWt x0 x1 x2 hbA
  generalize w1.heap.size = Bt at *
  go_loopw [24] (fun i wr => ∃ k : Nat, k ≤ 24 ∧ i = .int .i64 k ∧ (∃ Ae ce, wr.cell? ⟨Bt, 0, none⟩ = some (.slice Ae (evL S k).length ce) ∧ OwJ wr (Bt + 1) Ae ce (evL S k).length (fun j => ((evL S k).getD j 0 : Nat))) ∧ wr.cell? ⟨Bt, 1, none⟩ = some (.slice none 0 0) ∧ wr.frozen? ⟨Bt, 0, none⟩ = false ∧ wr.frozen? ⟨Bt, 1, none⟩ = false ∧ Below w.heap.size w wr ∧ Bt + 1 ≤ wr.heap.size ∧ wr.cell? ⟨w.heap.size, 0, none⟩ = some (.int .i64 (v : Int)) ∧ wr.cell? ⟨w.heap.size, 1, none⟩ = some (.slice A nn c) ∧ wr.cell? ⟨w.heap.size, 2, none⟩ = some (.int .i64 tp)) (fun i _ => 24 - (intOf i).toNat)
  case atStart => exact ⟨0, Nat.zero_le _, rfl, ⟨none, 0, q0, OwJ.nil_ _ _ _⟩, q1, g0, g1, hbB, hz2, x0', x1', x2'⟩
  case round =>
    obtain ⟨k, hk, rfl, ⟨Ae, ce, c0, own⟩, c1, g0, g1, hb, hz, x0, x1, x2⟩ := hrel
    clear q0 q1 hbB hz2 x0' x1' x2'
    obtain ⟨wo, rfl⟩ : ∃ wo : World, wo = wr := ⟨_, rfl⟩
    by_cases hk24 : k < 24
    · have t1 := shr_eq S k
      have hq : S / 2 ^ k < 16777216 := Nat.lt_of_le_of_lt (Nat.div_le_self _ _) hS
      have t2 : bits .and .i64 ((S / 2 ^ k : Nat) : Int) 1 = ((S / 2 ^ k % 2 : Nat) : Int) := by
        have := i64_and (S / 2 ^ k) 1 (by omega) (by omega)
        rw [Nat.and_one_is_mod] at this
        exact this
      rw [bit_div] at t2
      have HS1 := Lib.hid (evL_succ S k)
      have hle : (evL S k).length ≤ k := by
        unfold evL
        exact Nat.le_trans (List.length_filter_le _ _) (by simp)
      cases hbk : S.testBit k
      · rw [hbk] at t2 HS1
        have t3 : bits .and .i64 ((S / 2 ^ k : Nat) : Int) 1 = 0 := t2
        have HX : Hid (evL S (k + 1) = evL S k) := HS1.out
        clear hbk t2 HS1
        generalize S / 2 ^ k = r1 at *
        go_wp2
        go_roundw
        case rel => exact ⟨k + 1, by omega, by go_num, ⟨Ae, ce, by rw [HX.out]; exact c0, by rw [HX.out]; exact own⟩, c1, g0, g1, hb, hz, x0, x1, x2⟩
        case measure => simp [intOf]; omega
      · rw [hbk] at t2 HS1
        have t3 : bits .and .i64 ((S / 2 ^ k : Nat) : Int) 1 = 1 := t2
        have HX : Hid (evL S (k + 1) = evL S k ++ [k]) := HS1.out
        clear hbk t2 HS1
        generalize S / 2 ^ k = r1 at *
        obtain ⟨m, hm⟩ : ∃ m, m = (evL S k).length := ⟨_, rfl⟩
        rw [← hm] at c0 own hle
        have HM := Lib.hid hm
        clear hm
        go_wp2_with (first | (at_builtin; refine wpList_appJ rfl (.tmp 36) (.tmp 38) rfl (Bt + 1) Ae ce m (fun j => ((evL S k).getD j 0 : Nat)) (by simp [Act.eval]) (own.below ((Below.refl _ _).alloc (Nat.le_refl _) _)) wo.heap.size (k : Int) rfl (by simp [go_sem]) (by omega) (by simp; omega) ?_; intro g4 c4 w4 own4 hb4 hg4; have yb := fun o => (below_at hb4 Bt o (by omega)).trans (below_at ((Below.refl wo.heap.size wo).alloc (Nat.le_refl _) _) Bt o (by omega)); have yf := fun o => (below_fr hb4 Bt o (by omega)).trans (below_fr ((Below.refl wo.heap.size wo).alloc (Nat.le_refl _) _) Bt o (by omega)); have yc0 := (yb 0).trans c0; have yg0 := (yf 0).trans g0) | fail)
        have yw := fun o => (below_at hb4 w.heap.size o (by omega)).trans (below_at ((Below.refl wo.heap.size wo).alloc (Nat.le_refl _) _) w.heap.size o (by omega))
        have hb4z := hb4.size
        simp only [World.size_alloc] at hb4z
        have own5 : OwJ w4 (Bt + 1) (some ⟨g4, 0, none⟩) c4 (evL S (k + 1)).length (fun j => ((evL S (k + 1)).getD j 0 : Nat)) := by
          rw [HX.out, List.length_append, ← HM.out]
          refine own4.congr fun j hj => ?_
          by_cases e : j = m
          · subst e
            rw [if_pos rfl, List.getD_eq_getElem?_getD, List.getElem?_append_right (by rw [HM.out]; exact Nat.le_refl _), HM.out]
            simp
          · rw [if_neg e, List.getD_eq_getElem?_getD, List.getD_eq_getElem?_getD, List.getElem?_append_left (by rw [← HM.out]; have : [k].length = 1 := rfl; omega)]
        have HL : Hid ((evL S (k + 1)).length = m + 1) := by show _ = _; rw [HX.out, List.length_append, ← HM.out]; rfl
        go_roundw
        case rel => exact ⟨k + 1, by omega, by go_num, ⟨some ⟨g4, 0, none⟩, c4, by rw [HL.out]; exact World.cell?_setCell_same' _ _ _ (by rw [yc0]; rfl), own_set_far _ own5 (by omega)⟩, (World.cell?_setCell_other _ _ _ _ (by simp)).trans ((yb 1).trans c1), by rw [World.frozen?_setCell]; exact yg0, by rw [World.frozen?_setCell]; exact (yf 1).trans g1, Below.setCell (by have z0 := Below.size hb; have z1 := Below.size hb4; (try simp only [World.size_alloc, World.size_setCell, World.size_drew, size_drewN'] at z0 z1 ⊢; skip); repeat' (first | (with_reducible exact Below.refl _ _) | (with_reducible assumption) | (with_reducible refine Below.alloc ?_ ?_ _) | (with_reducible refine Below.drew ?_) | (with_reducible refine below_drewN ?_ _) | (with_reducible refine Below.setCell ?_ ?_ _) | (with_reducible refine Below.trans ?_ (Below.mono (by with_reducible assumption) ?_)) | omega | (simp only [World.size_alloc, World.size_setCell, World.size_drew, size_drewN']; omega) | go_size)) (p := ⟨Bt, _, none⟩) (by show w.heap.size ≤ Bt; omega) _, by simp; omega, set_far (by omega) ((yw 0).trans x0), set_far (by omega) ((yw 1).trans x1), set_far (by omega) ((yw 2).trans x2)⟩
        case measure => simp [intOf]; omega
    · obtain rfl : k = 24 := by omega
      have hAe : ∀ k, (Value.slice Ae (evL S 24).length ce).ownBlock = some k → k < wo.heap.size := fun k e => (World.ownsRow.lt own k e).2
      have ownE : OwJ wo (Bt + 1) Ae ce (evL S 24).length (fun k => ((evF S k : Nat) : Int)) := own
      clear own K1 K2 hw64 hp hSv hS
      generalize hgn : (evL S 24).length = n at *
      generalize hge : evF S = ev at *
      have HNE := Lib.hid hgn
      have HEE := Lib.hid hge
      clear hgn hge
      have HEV : Hid (∀ k, k < n → ev k < 24) := HE.out.lt
      have HAE := Lib.hid hAe
      clear hAe
      have hP : 2 ^ n ≤ 4096 := Nat.pow_le_pow_right (n := 2) (by omega) hn12
      have s1 := shl_eq (k := n) (by omega)
      have hsh : IntKind.i64.wrap ((2 : Int) ^ n) = ((2 ^ n : Nat) : Int) := by
        rw [show (2 : Int) ^ n = ((2 ^ n : Nat) : Int) from by simp]
        generalize 2 ^ n = p at *
        rw [IntKind.wrap_i64]; omega
      obtain ⟨P, hPe⟩ : ∃ P, 2 ^ n = P := ⟨_, rfl⟩
      rw [hPe] at s1 hP hsh
      have HP := Lib.hid hPe
      clear hPe
      go_wp2_with (first | (at_make; refine wpList_makeV rfl (.tmp 49) (.tmp 49) rfl (Bt + 1) P (P : Int) (P : Int) (by first | rfl | simp [Act.eval]) (by first | rfl | simp [Act.eval]) rfl rfl (by omega) (by omega) ?_; intro w4 own4 hb4; have yb1 := (below_at hb4 Bt 1 (by omega)).trans c1; have yf1 := (below_fr hb4 Bt 1 (by omega)).trans g1) | fail)
      have ownE4 := own_set_far (o := 1) (.slice (some ⟨wo.heap.size, 0, none⟩) P P) (World.ownsRow.kept ownE (row := none) ⟨hb4.os, hb4.tape, hb4.output, hb4.size, fun k hk _ => hb4.block k hk⟩ (by cases (Value.slice Ae n ce).ownBlock <;> simp)) (show Bt < Bt + 1 by omega)
      have own5 := own_set_far (o := 1) (.slice (some ⟨wo.heap.size, 0, none⟩) P P) own4 (show Bt < Bt + 1 by omega)
      have c0' : (w4.setCell ⟨Bt, 1, none⟩ (.slice (some ⟨wo.heap.size, 0, none⟩) P P)).cell? ⟨Bt, 0, none⟩ = some (.slice Ae n ce) := (World.cell?_setCell_other _ _ _ _ (by simp)).trans ((below_at hb4 Bt 0 (by omega)).trans c0)
      have c1' : (w4.setCell ⟨Bt, 1, none⟩ (.slice (some ⟨wo.heap.size, 0, none⟩) P P)).cell? ⟨Bt, 1, none⟩ = some (.slice (some ⟨wo.heap.size, 0, none⟩) P P) := World.cell?_setCell_same' _ _ _ (by rw [yb1]; rfl)
      have hbC : Below w.heap.size w (w4.setCell ⟨Bt, 1, none⟩ (.slice (some ⟨wo.heap.size, 0, none⟩) P P)) := Below.setCell (by have z0 := Below.size hb; have z1 := Below.size hb4; (try simp only [World.size_alloc, World.size_setCell, World.size_drew, size_drewN'] at z0 z1 ⊢; skip); repeat' (first | (with_reducible exact Below.refl _ _) | (with_reducible assumption) | (with_reducible refine Below.alloc ?_ ?_ _) | (with_reducible refine Below.drew ?_) | (with_reducible refine below_drewN ?_ _) | (with_reducible refine Below.setCell ?_ ?_ _) | (with_reducible refine Below.trans ?_ (Below.mono (by with_reducible assumption) ?_)) | omega | (simp only [World.size_alloc, World.size_setCell, World.size_drew, size_drewN']; omega) | go_size)) (p := ⟨Bt, _, none⟩) (by show w.heap.size ≤ Bt; omega) _
      have x0' : (w4.setCell ⟨Bt, 1, none⟩ (.slice (some ⟨wo.heap.size, 0, none⟩) P P)).cell? ⟨w.heap.size, 0, none⟩ = some (.int .i64 (v : Int)) := set_far (by omega) ((below_at hb4 w.heap.size 0 (by omega)).trans x0)
      have x1' : (w4.setCell ⟨Bt, 1, none⟩ (.slice (some ⟨wo.heap.size, 0, none⟩) P P)).cell? ⟨w.heap.size, 1, none⟩ = some (.slice A nn c) := set_far (by omega) ((below_at hb4 w.heap.size 1 (by omega)).trans x1)
      have x2' : (w4.setCell ⟨Bt, 1, none⟩ (.slice (some ⟨wo.heap.size, 0, none⟩) P P)).cell? ⟨w.heap.size, 2, none⟩ = some (.int .i64 tp) := set_far (by omega) ((below_at hb4 w.heap.size 2 (by omega)).trans x2)
      have hz5 : wo.heap.size ≤ (w4.setCell ⟨Bt, 1, none⟩ (.slice (some ⟨wo.heap.size, 0, none⟩) P P)).heap.size := by simp; exact hb4.size
      obtain ⟨w5, hw5⟩ : ∃ w5, w5 = w4.setCell ⟨Bt, 1, none⟩ (.slice (some ⟨wo.heap.size, 0, none⟩) P P) := ⟨_, rfl⟩
      rw [← hw5] at ownE4 own5 c0' c1' hbC x0' x1' x2' hz5 ⊢
      obtain ⟨gT, hgT⟩ : ∃ gT, gT = wo.heap.size := ⟨_, rfl⟩
      rw [← hgT] at own5 c1' hz5 HAE ⊢
      have hgB : Bt + 1 ≤ gT := by omega
      clear hw5 hb4 own4 ownE yb1 yf1 c0 c1 g0 g1 x0 x1 x2 hb hz hgT
      go_wp2
      go_loopw [58] (fun i wr => ∃ s : Nat, s ≤ P ∧ i = .int .i64 s ∧ OwV wr (Bt + 1) (some ⟨gT, 0, none⟩) P P (fun x => decide (x < s) && val (widN n ev x)) ∧ OwJ wr (Bt + 1) Ae ce n (fun k => ((ev k : Nat) : Int)) ∧ wr.cell? ⟨Bt, 0, none⟩ = some (.slice Ae n ce) ∧ wr.cell? ⟨Bt, 1, none⟩ = some (.slice (some ⟨gT, 0, none⟩) P P) ∧ Below w.heap.size w wr ∧ gT ≤ wr.heap.size ∧ wr.cell? ⟨w.heap.size, 0, none⟩ = some (.int .i64 (v : Int)) ∧ wr.cell? ⟨w.heap.size, 1, none⟩ = some (.slice A nn c) ∧ wr.cell? ⟨w.heap.size, 2, none⟩ = some (.int .i64 tp)) (fun i _ => P - (intOf i).toNat)
      case atStart => exact ⟨0, Nat.zero_le _, rfl, OwV.congr own5 fun j _ => by simp, ownE4, c0', c1', hbC, hz5, x0', x1', x2'⟩
      case round =>
        obtain ⟨s, hs, rfl, own, ownE, c0, c1, hb, hz, x0, x1, x2⟩ := hrel
        clear own5 ownE4 c0' c1' hbC hz5 x0' x1' x2'
        obtain ⟨wu, rfl⟩ : ∃ wu : World, wu = wr := ⟨_, rfl⟩
        by_cases hsP : s < P
        · have cs := own.at_ hsP
          have fs := own.frozen s
          have hgl : gT < wu.heap.size := lt_of_cell cs
          have ne1 : ¬ gT = Bt := by omega
          have ne2 : ¬ gT = w.heap.size := by omega
          have ne3 : ¬ Bt = gT := by omega
          have ne4 : ¬ w.heap.size = gT := by omega
          have HX := Lib.hid (HW.out s)
          have KW := Lib.hid (fun W (hW : Below wu.heap.size wu W) => wide_any (s := s) ((show EvI wu Bt n ev from ⟨Ae, ce, c0, ownE.rd⟩).below hW) (by omega) HEV.out (by omega))
          have HO : Hid (∀ (W : World) (bv : Bool), bv = val (widN n ev s) → OwV W (Bt + 1) (some ⟨gT, 0, none⟩) P P (fun x => decide (x < s) && val (widN n ev x)) → OwV (W.setCell ⟨gT, s, none⟩ (.bool bv)) (Bt + 1) (some ⟨gT, 0, none⟩) P P (fun x => decide (x < s + 1) && val (widN n ev x))) := fun W bv hbv h1 => (h1.set s bv).1.congr fun j _ => by
            by_cases e : j = s
            · subst e; simp [hbv]
            · have e1 : decide (j < s + 1) = decide (j < s) := by rw [decide_eq_decide]; omega
              rw [if_neg e, e1]
          have HOWN := Lib.hid own
          generalize widN n ev s = x at *
          have KV := Lib.hid (fun W hW => K4.out W hW x HX.out)
          generalize hbv : val x = bv at *
          clear HX own
          go_wp2
          go_region_held3 (fun W => W.cell? ⟨Bt, 1, none⟩ = some (.slice (some ⟨gT, 0, none⟩) P P) ∧ W.cell? ⟨w.heap.size, 0, none⟩ = some (.int .i64 (v : Int)) ∧ W.cell? ⟨w.heap.size, 1, none⟩ = some (.slice A nn c) ∧ W.cell? ⟨w.heap.size, 2, none⟩ = some (.int .i64 tp)) (go_keep)
            (first | ((go_at_call 118; (with_reducible refine (KW.out _ (by (skip); repeat' (first | (with_reducible exact Below.refl _ _) | (with_reducible assumption) | (with_reducible refine Below.alloc ?_ ?_ _) | (with_reducible refine Below.drew ?_) | (with_reducible refine below_drewN ?_ _) | (with_reducible refine Below.setCell ?_ ?_ _) | (with_reducible refine Below.trans ?_ (Below.mono (by with_reducible assumption) ?_)) | omega | (simp only [World.size_alloc, World.size_setCell, World.size_drew, size_drewN']; omega) | go_size))).mono ?_); rintro e _ ⟨rfl, rfl⟩)) | ((go_at_call 55; (with_reducible refine (KV.out _ (by have z0 := Below.size hb; (try simp only [World.size_alloc, World.size_setCell, World.size_drew, size_drewN'] at z0 ⊢; skip); repeat' (first | (with_reducible exact Below.refl _ _) | (with_reducible assumption) | (with_reducible refine Below.alloc ?_ ?_ _) | (with_reducible refine Below.drew ?_) | (with_reducible refine below_drewN ?_ _) | (with_reducible refine Below.setCell ?_ ?_ _) | (with_reducible refine Below.trans ?_ (Below.mono (by with_reducible assumption) ?_)) | omega | (simp only [World.size_alloc, World.size_setCell, World.size_drew, size_drewN']; omega) | go_size))).mono ?_); rintro e w6 ⟨rfl, hb6⟩; have hb6z := Below.size hb6; (try simp only [World.size_alloc, World.size_setCell, World.size_drew] at hb6z); have hb6c0 := fun o => below_at hb6 (w.heap.size) o (by first | omega | (simp only [World.size_alloc, World.size_setCell, World.size_drew]; omega)); have hb6f0 := fun o => below_fr hb6 (w.heap.size) o (by first | omega | (simp only [World.size_alloc, World.size_setCell, World.size_drew]; omega)); have hb6l0 : w.heap.size < (w6).heap.size := (by omega); have hb6c1 := fun o => below_at hb6 (Bt) o (by first | omega | (simp only [World.size_alloc, World.size_setCell, World.size_drew]; omega)); have hb6f1 := fun o => below_fr hb6 (Bt) o (by first | omega | (simp only [World.size_alloc, World.size_setCell, World.size_drew]; omega)); have hb6l1 : Bt < (w6).heap.size := (by omega); have hb6c2 := fun o => below_at hb6 (gT) o (by first | omega | (simp only [World.size_alloc, World.size_setCell, World.size_drew]; omega)); have hb6f2 := fun o => below_fr hb6 (gT) o (by first | omega | (simp only [World.size_alloc, World.size_setCell, World.size_drew]; omega)); have hb6l2 : gT < (w6).heap.size := (by omega))) | fail)
          all_goals
            have hb6' : Below wu.heap.size wu w6 := (by have z0 := Below.size hb6; (try simp only [World.size_alloc, World.size_setCell, World.size_drew, size_drewN'] at z0 ⊢; skip); repeat' (first | (with_reducible exact Below.refl _ _) | (with_reducible assumption) | (with_reducible refine Below.alloc ?_ ?_ _) | (with_reducible refine Below.drew ?_) | (with_reducible refine below_drewN ?_ _) | (with_reducible refine Below.setCell ?_ ?_ _) | (with_reducible refine Below.trans ?_ (Below.mono (by with_reducible assumption) ?_)) | omega | (simp only [World.size_alloc, World.size_setCell, World.size_drew, size_drewN']; omega) | go_size))
            have hb6q := hb6'.size
            have hne7 : ∀ k, (Value.slice Ae n ce).ownBlock = some k → k ≠ gT := fun k e => by have := HAE.out k e; omega
            have own7 := HO.out w6 bv rfl (OwV.below HOWN.out hb6')
            have ownE7 := own_set_ne (o := s) (.bool bv) (World.ownsRow.kept ownE (row := none) ⟨hb6'.os, hb6'.tape, hb6'.output, hb6'.size, fun k hk _ => hb6'.block k hk⟩ (by cases (Value.slice Ae n ce).ownBlock <;> simp)) hne7
            have y0 := set_far (w := w6) (o := s) (v := .bool bv) ne1 ((below_at hb6' Bt 0 (by omega)).trans c0)
            have y1 := set_far (w := w6) (o := s) (v := .bool bv) ne1 ((below_at hb6' Bt 1 (by omega)).trans c1)
            have z0 := set_far (w := w6) (o := s) (v := .bool bv) ne2 ((below_at hb6' w.heap.size 0 (by omega)).trans x0)
            have z1 := set_far (w := w6) (o := s) (v := .bool bv) ne2 ((below_at hb6' w.heap.size 1 (by omega)).trans x1)
            have z2 := set_far (w := w6) (o := s) (v := .bool bv) ne2 ((below_at hb6' w.heap.size 2 (by omega)).trans x2)
            have hbZ : Below w.heap.size w (w6.setCell ⟨gT, s, none⟩ (.bool bv)) := Below.setCell (hb.trans (hb6'.mono (by omega))) (p := ⟨gT, _, none⟩) (by show w.heap.size ≤ gT; omega) _
            have hzz : gT ≤ (w6.setCell ⟨gT, s, none⟩ (.bool bv)).heap.size := by simp; omega
            clear hb6 hb6'
            go_wp2
            go_roundw
            case rel => exact ⟨s + 1, by omega, by go_num, own7, ownE7, y0, y1, hbZ, hzz, z0, z1, z2⟩
            case measure => simp [intOf]; omega
        · have hsE : s = P := by omega
          subst hsE
          have ht : TabI wu Bt n ev (fun x => val (widN n ev x)) := ⟨⟨Ae, ce, c0, ownE.rd⟩, some ⟨gT, 0, none⟩, s, by rw [HP.out]; exact c1, by
            rw [HP.out]
            exact own.rd.congr fun j hj => by rw [show decide (j < s) = true by simpa using hj, Bool.true_and]⟩
          go_wp2
          go_returns
          exact ⟨⟨Bt, rfl, by rw [HNE.out, HEE.out]; exact ht⟩, hb⟩
end
end Go.Proofs.Ytedopalmfakeaaa
