/- Contracts of functions and lemmas, used by the proofs of the given statements. No condition beyond those that each lemma names. -/
import Derived.Test.YtedopalmfakeaaaJCubeCnt
namespace Go.Proofs.Ytedopalmfakeaaa
open Go.RowKit
set_option linter.unusedSimpArgs false
set_option linter.unusedVariables false
set_option maxRecDepth 20000
theorem keep_f (c : Cn) (j : Nat) : c.1 &&& 2 ^ j = (if keepB j false c then 0 else 2 ^ j) := by
  rw [and_pow]; unfold keepB; cases c.1.testBit j <;> simp
theorem keep_t (c : Cn) (j : Nat) : c.2 &&& 2 ^ j = (if keepB j true c then 0 else 2 ^ j) := by
  rw [and_pow]; unfold keepB; cases c.2.testBit j <;> simp
set_option maxHeartbeats 1000000 in
theorem split_any (A : Option Addr) (l : List Cn) (n c j : Nat) (f : Bool) (w : World) (hn : l.length = n) (hl : l.length ≤ 1048576) (hj : j < 24) (hok : ∀ a ∈ l, okN a) (h : RdC w w.heap.size A (l.map zc)) :
    Calls Try.prog 110 #[.slice A n c, .int .i64 ((2 ^ j : Nat) : Int), .bool f] w fun e w' => ∃ A' c', e = .returned (.slice A' (spN l j f).length c') ∧ OwC w' w.heap.size A' c' ((spN l j f).map zc) ∧ Below w.heap.size w w' := by
  subst hn
  have hp := pow_lt24 hj
  have hpos : 0 < 2 ^ j := Nat.two_pow_pos j
  obtain ⟨p, hpe⟩ : ∃ p, p = 2 ^ j := ⟨_, rfl⟩
  rw [← hpe] at hp hpos ⊢
  have HP := Lib.hid hpe
  clear hpe
  have hne : ((p : Int) != 0) = true := by rw [bne_iff_ne]; omega
  go_enter Try.func110, Try.ntmps110
  go_wp2
  go_loopw [7, 12] (fun o i wr => ∃ (k : Nat) (A' : Option Addr) (c' : Nat) (m : List Cn), k ≤ l.length ∧ m = spN (l.take k) j f ∧ i = .int .i64 k ∧ o = .slice A' m.length c' ∧ OwC wr w.heap.size A' c' (m.map zc) ∧ Below w.heap.size w wr) (fun _ i _ => l.length - (intOf i).toNat)
  case atStart => exact ⟨0, none, 0, [], Nat.zero_le _, by simp [spN], rfl, rfl, OwC.nil_ _ _, Below.refl _ _⟩
  case round =>
    obtain ⟨k, A', c', m, hk, hm, rfl, rfl, own, hb⟩ := hrel
    have hml : m.length ≤ k := by
      have := spN_le (l.take k) j f
      rw [hm]; simp at this; omega
    have HM := Lib.hid hm
    clear hm
    have hbz := hb.size
    by_cases hlt : k < l.length
    · obtain ⟨b, off, rfl, hbb, c0, c1⟩ := (h.below hb).at_ (k := k) (c := zc l[k]) (by simp [hlt])
      have HS := Lib.hid (spN_succ l j f k hlt)
      have hd := hok l[k] (List.getElem_mem _)
      generalize l[k] = d at *
      have e1 := i64_and d.1 p (by have := hd.1; omega) (by omega)
      have e2 := i64_and d.2 p (by have := hd.2.1; omega) (by omega)
      have e3 := i64_andNot d.1 p (by have := hd.1; omega) (by omega)
      have e4 := i64_andNot d.2 p (by have := hd.2.1; omega) (by omega)
      have k1 := keep_f d j
      have k2 := keep_t d j
      rw [← HP.out] at k1 k2
      rw [k1] at e1
      rw [k2] at e2
      clear k1 k2
      obtain ⟨x, hx⟩ : ∃ x, x = ndiff d.1 p := ⟨_, rfl⟩
      obtain ⟨y, hy⟩ : ∃ y, y = ndiff d.2 p := ⟨_, rfl⟩
      rw [← hx] at e3
      rw [← hy] at e4
      have HX : Hid (cutN j d = (x, y)) := by show (ndiff d.1 (2 ^ j), ndiff d.2 (2 ^ j)) = _; rw [hx, hy, HP.out]
      clear hx hy
      cases f
      · by_cases hkp : keepB j false d = true
        · rw [if_pos hkp] at e1
          clear e2
          have hnew : Hid (spN (l.take (k + 1)) j false = m ++ [(x, y)]) := by
            show spN (l.take (k + 1)) j false = _
            rw [HS.out, if_pos hkp, HX.out, ← HM.out]
          clear HS hkp HX HM
          go_wp2_with (at_builtin; refine wpList_appC1 rfl (.tmp 35) (.tmp 45) rfl w.heap.size A' c' (m.map zc) (by simp [Act.eval]) ((own.alloc _).alloc _) (zc (x, y)) (wr.heap.size + 1) rfl (by simp [go_sem]) (by simp [go_sem]) (by simp; omega) (by simp; omega) ?_; intro A2 c2 w2 own2 hb2 hg2)
          go_roundw
          case rel => exact ⟨k + 1, A2, c2, m ++ [(x, y)], by omega, hnew.out.symm, by go_num, by simp, by simpa using own2, (((hb.alloc hbz _).alloc (by simp; omega) _).trans hb2)⟩
          case measure => simp [intOf]; omega
        · rw [if_neg hkp] at e1
          clear e2
          have hnew : Hid (spN (l.take (k + 1)) j false = m) := by
            show spN (l.take (k + 1)) j false = _
            rw [HS.out, if_neg hkp, ← HM.out]; simp
          clear HS hkp HX HM
          go_wp2
          go_roundw
          case rel => exact ⟨k + 1, A', c', m, by omega, hnew.out.symm, by go_num, rfl, own.alloc _, hb.alloc hbz _⟩
          case measure => simp [intOf]; omega
      · by_cases hkp : keepB j true d = true
        · rw [if_pos hkp] at e2
          clear e1
          have hnew : Hid (spN (l.take (k + 1)) j true = m ++ [(x, y)]) := by
            show spN (l.take (k + 1)) j true = _
            rw [HS.out, if_pos hkp, HX.out, ← HM.out]
          clear HS hkp HX HM
          go_wp2_with (at_builtin; refine wpList_appC1 rfl (.tmp 35) (.tmp 45) rfl w.heap.size A' c' (m.map zc) (by simp [Act.eval]) ((own.alloc _).alloc _) (zc (x, y)) (wr.heap.size + 1) rfl (by simp [go_sem]) (by simp [go_sem]) (by simp; omega) (by simp; omega) ?_; intro A2 c2 w2 own2 hb2 hg2)
          go_roundw
          case rel => exact ⟨k + 1, A2, c2, m ++ [(x, y)], by omega, hnew.out.symm, by go_num, by simp, by simpa using own2, (((hb.alloc hbz _).alloc (by simp; omega) _).trans hb2)⟩
          case measure => simp [intOf]; omega
        · rw [if_neg hkp] at e2
          clear e1
          have hnew : Hid (spN (l.take (k + 1)) j true = m) := by
            show spN (l.take (k + 1)) j true = _
            rw [HS.out, if_neg hkp, ← HM.out]; simp
          clear HS hkp HX HM
          go_wp2
          go_roundw
          case rel => exact ⟨k + 1, A', c', m, by omega, hnew.out.symm, by go_num, rfl, own.alloc _, hb.alloc hbz _⟩
          case measure => simp [intOf]; omega
    · have HE : Hid (spN l j f = m) := by
        show spN l j f = m
        rw [HM.out, List.take_of_length_le (by omega)]
      clear HM
      go_wp2
      go_ret
      rw [HE.out]
      exact ⟨A', c', rfl, own, hb⟩
/-! ## count -/
structure CntPre (n S : Nat) (l : List Cn) : Prop where
  hS : popc S = n
  lt : S < 16777216
  ok : ∀ a ∈ l, okN a
  ins : ∀ a ∈ l, inS S a
  len : l.length ≤ 1048576
theorem CntPre.cut {n S j : Nat} {l : List Cn} (h : CntPre (n + 1) S l) (hj : j < 24) (hS : S.testBit j = true) (f : Bool) : CntPre n (ndiff S (2 ^ j)) (spN l j f) :=
  ⟨by have := popc_cut hj hS; have := h.hS; omega, ndiff_lt24 h.lt, spN_ok h.ok j f, spN_inS h.ins j f, Nat.le_trans (spN_le l j f) h.len⟩
theorem pair_ne {c : Cn} (h : c ≠ (0, 0)) : 0 < c.1 ||| c.2 := by
  rcases Nat.eq_zero_or_pos (c.1 ||| c.2) with h0 | h0
  · have := Nat.or_eq_zero_iff.1 h0
    exact absurd (Prod.ext this.1 this.2) h
  · exact h0
theorem split_at (A : Option Addr) (l : List Cn) (n c j p : Nat) (f : Bool) (w : World) (hpe : p = 2 ^ j) (hn : l.length = n) (hl : l.length ≤ 1048576) (hj : j < 24) (hok : ∀ a ∈ l, okN a) (h : RdC w w.heap.size A (l.map zc)) :
    Calls Try.prog 110 #[.slice A n c, .int .i64 (p : Int), .bool f] w fun e w' => ∃ A' c', e = .returned (.slice A' (spN l j f).length c') ∧ OwC w' w.heap.size A' c' ((spN l j f).map zc) ∧ Below w.heap.size w w' := by
  subst hpe
  exact split_any A l n c j f w hn hl hj hok h
def CountSaid (n : Nat) : Prop := ∀ (S : Nat) (A : Option Addr) (l : List Cn) (nl c : Nat) (w : World), CntPre n S l → l.length = nl → RdC w w.heap.size A (l.map zc) →
    Calls Try.prog 80 #[.slice A nl c, .int .i64 (n : Int)] w fun e w' => e = .returned (.int .i64 (cnt 24 S (anyN l) : Nat)) ∧ Below w.heap.size w w'
set_option maxHeartbeats 2000000 in
theorem count_step (n : Nat) (ih : ∀ m, n = m + 1 → CountSaid m) : CountSaid n := by
  intro S A l nl c w hp hl h
  subst hl
  have hlen := hp.len
  have hn24 : n ≤ 24 := by have := popc_le S; have := hp.hS; omega
  have HP := Lib.hid hp
  have IH := Lib.hid ih
  clear hp ih
  by_cases h0 : l.length = 0
  · have hnil : l = [] := List.eq_nil_of_length_eq_zero h0
    subst hnil
    have HC : Hid (cnt 24 S (anyN []) = 0) := cnt_false
    clear h0
    go_enter Try.func80, Try.ntmps80
    go_wp2
    go_ret
    exact ⟨by rw [HC.out]; rfl, Below.refl _ _⟩
  · have hz : ((l.length : Int) == 0) = false := by simpa using h0
    have hpos : 0 < l.length := by omega
    clear h0
    go_enter Try.func80, Try.ntmps80
    go_wp2
    go_loopw [13] (fun i wr => ∃ k : Nat, k ≤ l.length ∧ i = .int .i64 k ∧ (∀ d ∈ l.take k, d ≠ (0, 0)) ∧ Below w.heap.size w wr) (fun i _ => l.length - (intOf i).toNat)
    case atStart => exact ⟨0, Nat.zero_le _, rfl, by simp, Below.refl _ _⟩
    case round =>
      obtain ⟨k, hk, rfl, hne, hb⟩ := hrel
      have HN := Lib.hid hne
      clear hne
      have hbz := hb.size
      by_cases hlt : k < l.length
      · obtain ⟨b, off, rfl, hbb, c0, c1⟩ := (h.below hb).at_ (k := k) (c := zc l[k]) (by simp [hlt])
        have HT := Lib.hid (List.take_succ_eq_append_getElem hlt)
        have HM : Hid (l[k] ∈ l) := List.getElem_mem _
        generalize l[k] = d at *
        obtain ⟨x, y⟩ := d
        dsimp only at c0 c1
        have hstep : ((x, y) : Cn) ≠ (0, 0) → ∀ d ∈ l.take (k + 1), d ≠ (0, 0) := by
          intro hd d hm
          rw [HT.out, List.mem_append, List.mem_singleton] at hm
          rcases hm with hm | hm
          · exact HN.out d hm
          · rw [hm]; exact hd
        have HS := Lib.hid hstep
        clear hstep HT
        by_cases hx : x = 0
        · subst hx
          by_cases hy : y = 0
          · subst hy
            have HC : Hid (cnt 24 S (anyN l) = 2 ^ n) := by show cnt 24 S (anyN l) = 2 ^ n; rw [cnt_one HM.out, HP.out.hS]
            have s1 := shl_eq (k := n) (by omega)
            clear HM HS
            go_wp2
            go_ret
            exact ⟨by rw [HC.out]; exact ret_int s1, (by have z0 := Below.size hb; (try simp only [World.size_alloc, World.size_setCell, World.size_drew, size_drewN'] at z0 ⊢; skip); repeat' (first | (with_reducible exact Below.refl _ _) | (with_reducible assumption) | (with_reducible refine Below.alloc ?_ ?_ _) | (with_reducible refine Below.drew ?_) | (with_reducible refine below_drewN ?_ _) | (with_reducible refine Below.setCell ?_ ?_ _) | (with_reducible refine Below.trans ?_ (Below.mono (by with_reducible assumption) ?_)) | omega | (simp only [World.size_alloc, World.size_setCell, World.size_drew, size_drewN']; omega) | go_size))⟩
          · have hy' : ((y : Int) == 0) = false := by simpa using hy
            have HX : Hid (∀ d ∈ l.take (k + 1), d ≠ (0, 0)) := HS.out (by intro he; exact hy (congrArg Prod.snd he))
            clear HM HS hy
            go_wp2
            go_roundw
            case rel => exact ⟨k + 1, by omega, by go_num, HX.out, hb.alloc hbz _⟩
            case measure => simp [intOf]; omega
        · have hx' : ((x : Int) == 0) = false := by simpa using hx
          have HX : Hid (∀ d ∈ l.take (k + 1), d ≠ (0, 0)) := HS.out (by intro he; exact hx (congrArg Prod.fst he))
          clear HM HS hx
          go_wp2
          go_roundw
          case rel => exact ⟨k + 1, by omega, by go_num, HX.out, hb.alloc hbz _⟩
          case measure => simp [intOf]; omega
      · have hall : ∀ d ∈ l, d ≠ (0, 0) := by have := HN.out; rwa [List.take_of_length_le (by omega)] at this
        have hm0 : l[0] ∈ l := List.getElem_mem _
        have hd0 := pair_ne (hall _ hm0)
        have hok0 := HP.out.ok _ hm0
        have hin0 := HP.out.ins _ hm0
        obtain ⟨b, off, rfl, hbb, c0, c1⟩ := (h.below hb).at_ (k := 0) (c := zc l[0]) (by simp [hpos])
        simp only [Nat.zero_mul, Nat.add_zero] at c0 c1
        obtain ⟨p, hj⟩ : ∃ (p j : Nat), j < 24 ∧ S.testBit j = true ∧ p = 2 ^ j ∧ bits .and .i64 ((l[0].1 ||| l[0].2 : Nat) : Int) (-((l[0].1 ||| l[0].2 : Nat) : Int)) = (p : Int) := by
          obtain ⟨j, h1, h2, h3⟩ := i64_lowbit (l[0].1 ||| l[0].2) hd0 (or_lt24 hok0.1 hok0.2.1)
          exact ⟨2 ^ j, j, h1, hin0 j (by rw [Nat.testBit_or, Bool.or_eq_true] at h2; exact h2), rfl, h3⟩
        obtain ⟨j, hj24, hSj, hpj, e2⟩ := hj
        have e1 := i64_or l[0].1 l[0].2 (by have := hok0.1; omega) (by have := hok0.2.1; omega)
        have hx24 := or_lt24 hok0.1 hok0.2.1
        generalize l[0].1 ||| l[0].2 = x at *
        have e3 : IntKind.i64.wrap (-(x : Int)) = -(x : Int) := by rw [IntKind.wrap_i64]; omega
        obtain ⟨m, hm⟩ : ∃ m, n = m + 1 := ⟨n - 1, by have := popc_cut hj24 hSj; have := HP.out.hS; omega⟩
        have P1 : Hid (CntPre m (ndiff S (2 ^ j)) (spN l j false)) := by subst hm; exact HP.out.cut hj24 hSj false
        have P2 : Hid (CntPre m (ndiff S (2 ^ j)) (spN l j true)) := by subst hm; exact HP.out.cut hj24 hSj true
        have HC := Lib.hid (cnt_step (l := l) hj24 hSj)
        have l1 := cnt_le24 (ndiff S (2 ^ j)) (anyN (spN l j false))
        have l2 := cnt_le24 (ndiff S (2 ^ j)) (anyN (spN l j true))
        have HI := Lib.hid (IH.out m hm)
        have HJ : Hid (p = 2 ^ j ∧ S.testBit j = true) := ⟨hpj, hSj⟩
        have HO := Lib.hid HP.out.ok
        subst hm
        clear hall hm0 hd0 hok0 hin0 hpj hSj HN IH
        generalize hg1 : cnt 24 (ndiff S (2 ^ j)) (anyN (spN l j false)) = q1 at *
        generalize hg2 : cnt 24 (ndiff S (2 ^ j)) (anyN (spN l j true)) = q2 at *
        have G1 := Lib.hid hg1
        have G2 := Lib.hid hg2
        clear hg1 hg2
        go_wp2
        go_quiet (fail)
        go_wp2_with fail
        refine (split_at _ l _ _ j p false _ HJ.out.1 rfl hlen hj24 HO.out (h.on (by have z0 := Below.size hb; (try simp only [World.size_alloc, World.size_setCell, World.size_drew, size_drewN'] at z0 ⊢; skip); repeat' (first | (with_reducible exact Below.refl _ _) | (with_reducible assumption) | (with_reducible refine Below.alloc ?_ ?_ _) | (with_reducible refine Below.drew ?_) | (with_reducible refine below_drewN ?_ _) | (with_reducible refine Below.setCell ?_ ?_ _) | (with_reducible refine Below.trans ?_ (Below.mono (by with_reducible assumption) ?_)) | omega | (simp only [World.size_alloc, World.size_setCell, World.size_drew, size_drewN']; omega) | go_size)) (by simp; omega))).mono ?_
        rintro e w1 ⟨A1, d1, rfl, own1, hb1⟩
        go_wp2_with fail
        refine (HI.out _ A1 _ _ d1 _ P1.out rfl own1.rd).mono ?_
        rintro e w2 ⟨rfl, hb2⟩
        have G1' := G1.out
        rw [G1']
        clear G1'
        go_wp2_with fail
        refine (split_at _ l _ _ j p true _ HJ.out.1 rfl hlen hj24 HO.out (h.on (by have z0 := Below.size hb; have z1 := Below.size hb1; have z2 := Below.size hb2; (try simp only [World.size_alloc, World.size_setCell, World.size_drew, size_drewN'] at z0 z1 z2 ⊢; skip); repeat' (first | (with_reducible exact Below.refl _ _) | (with_reducible assumption) | (with_reducible refine Below.alloc ?_ ?_ _) | (with_reducible refine Below.drew ?_) | (with_reducible refine below_drewN ?_ _) | (with_reducible refine Below.setCell ?_ ?_ _) | (with_reducible refine Below.trans ?_ (Below.mono (by with_reducible assumption) ?_)) | omega | (simp only [World.size_alloc, World.size_setCell, World.size_drew, size_drewN']; omega) | go_size)) (by have z1 := hb1.size; have z2 := hb2.size; simp at z1 z2 ⊢; omega))).mono ?_
        rintro e w3 ⟨A3, d3, rfl, own3, hb3⟩
        go_wp2_with fail
        refine (HI.out _ A3 _ _ d3 _ P2.out rfl own3.rd).mono ?_
        rintro e w4 ⟨rfl, hb4⟩
        have G2' := G2.out
        rw [G2']
        clear G2'
        go_wp2
        go_ret
        exact ⟨by rw [HC.out]; exact ret_int (by show (q1 : Int) + (q2 : Int) = _; omega), (by have z0 := Below.size hb; have z1 := Below.size hb1; have z2 := Below.size hb2; have z3 := Below.size hb3; have z4 := Below.size hb4; (try simp only [World.size_alloc, World.size_setCell, World.size_drew, size_drewN'] at z0 z1 z2 z3 z4 ⊢; skip); repeat' (first | (with_reducible exact Below.refl _ _) | (with_reducible assumption) | (with_reducible refine Below.alloc ?_ ?_ _) | (with_reducible refine Below.drew ?_) | (with_reducible refine below_drewN ?_ _) | (with_reducible refine Below.setCell ?_ ?_ _) | (with_reducible refine Below.trans ?_ (Below.mono (by with_reducible assumption) ?_)) | omega | (simp only [World.size_alloc, World.size_setCell, World.size_drew, size_drewN']; omega) | go_size))⟩
theorem count_any (n : Nat) : CountSaid n := by
  induction n with
  | zero => exact count_step 0 fun m h => by omega
  | succ n ih =>
    refine count_step (n + 1) fun m h => ?_
    have h1 : n = m := by omega
    rw [← h1]
    exact ih
end Go.Proofs.Ytedopalmfakeaaa
