/- Contracts of functions and lemmas, used by the proofs of the given statements. No condition beyond those that each lemma names. -/
import Derived.Test.YtedopalmfakeaaaPrW4
import Derived.Test.YtedopalmfakeaaaJCubeCnt
import Derived.Test.YtedopalmfakeaaaPrCmp
namespace Go.Proofs.Ytedopalmfakeaaa
open Go.RowKit Go.Sort
set_option linter.unusedSimpArgs false
set_option linter.unusedVariables false
set_option maxRecDepth 20000
/-! ## package prime: primes -/
/-- the last free digit below k, or -1 -/
def lastF (c : Nat) : Nat → Int
  | 0 => -1
  | k + 1 => if dg3 c k = 2 then (k : Int) else lastF c k
theorem lastF_cases (c : Nat) : ∀ n, (lastF c n = -1 ∧ ∀ k, k < n → dg3 c k ≠ 2) ∨ ∃ a, a < n ∧ lastF c n = (a : Int) ∧ dg3 c a = 2
  | 0 => .inl ⟨rfl, fun k hk => by omega⟩
  | n + 1 => by
    by_cases h : dg3 c n = 2
    · exact .inr ⟨n, by omega, by simp [lastF, h], h⟩
    · rcases lastF_cases c n with ⟨h1, h2⟩ | ⟨a, h1, h2, h3⟩
      · refine .inl ⟨by simp [lastF, h, h1], fun k hk => ?_⟩
        rcases Nat.lt_or_ge k n with h4 | h4
        · exact h2 k h4
        · have : k = n := by omega
          rw [this]; exact h
      · exact .inr ⟨a, by omega, by simp [lastF, h, h2], h3⟩
/-- the row of a cube without free events -/
def rowD (c n : Nat) : Nat := mskE idN (fun k => dg3 c k == 1) n
theorem wid_rowD (n : Nat) (ev : Nat → Nat) (c : Nat) : widN n ev (rowD c n) = (cubN n ev c).1 := by
  have : ∀ m, m ≤ n → mskE ev (fun k => (rowD c n).testBit k) m = mskE ev (fun k => dg3 c k == 1) m := by
    intro m
    induction m with
    | zero => intro _; rfl
    | succ m ih =>
      intro hm
      have hb : (rowD c n).testBit m = (dg3 c m == 1) := by
        unfold rowD
        rw [Bool.eq_iff_iff, mskE_bit]
        constructor
        · rintro ⟨k, _, h1, rfl⟩; exact h1
        · exact fun h => ⟨m, by omega, h, rfl⟩
      unfold mskE
      rw [hb, ih (by omega)]
  exact this n (Nat.le_refl n)
theorem rowD_lt (c n : Nat) : rowD c n < 2 ^ n := by
  refine Nat.lt_pow_two_of_testBit _ fun i hi => ?_
  cases h : (rowD c n).testBit i
  · rfl
  · unfold rowD at h
    obtain ⟨k, h1, _, h3⟩ := mskE_bit.1 h
    have : k = i := h3
    omega
/-- a digit that goes up stays in the numbers -/
theorem dg3_room {c a e n : Nat} (hc : c < 3 ^ n) (ha : a < n) (he : dg3 c a + e < 3) : c + e * 3 ^ a < 3 ^ n := by
  have hp : 0 < 3 ^ a := Nat.pow_pos (by omega)
  obtain ⟨m, hm⟩ : ∃ m, n = a + 1 + m := ⟨n - a - 1, by omega⟩
  have e1 : 3 ^ n = 3 ^ m * 3 * 3 ^ a := by rw [hm, Nat.pow_add, Nat.pow_succ]; simp only [Nat.mul_comm, Nat.mul_left_comm, Nat.mul_assoc]
  have h1 : c / 3 ^ a < 3 ^ m * 3 := Nat.div_lt_of_lt_mul (by rw [Nat.mul_comm]; omega)
  have hd : dg3 c a = c / 3 ^ a % 3 := rfl
  have h2 : c / 3 ^ a + e < 3 ^ m * 3 := by omega
  have h3 : c = 3 ^ a * (c / 3 ^ a) + c % 3 ^ a := (Nat.div_add_mod _ _).symm
  have h4 : c % 3 ^ a < 3 ^ a := Nat.mod_lt _ hp
  rw [e1]
  generalize c / 3 ^ a = q at *
  generalize c % 3 ^ a = r at *
  generalize 3 ^ m * 3 = M at *
  generalize 3 ^ a = P at *
  have h5 : (q + e + 1) * P ≤ M * P := Nat.mul_le_mul_right _ h2
  have h6 : (q + e + 1) * P = P * q + e * P + P := by rw [Nat.add_mul, Nat.add_mul, Nat.one_mul, Nat.mul_comm q P]
  omega
set_option maxHeartbeats 4000000 in
theorem digit_any {W : World} {x g m k c : Nat} (hx : W.cell? ⟨x, 0, none⟩ = some (.slice (some ⟨g, 0, none⟩) m m)) (hc : W.cell? ⟨g, k, none⟩ = some (.int .i64 ((3 ^ k : Nat) : Int))) (hk : k < m) (h3 : 3 ^ k ≤ 600000) (hcl : c ≤ 1000000) :
    Calls Try.prog 119 #[.int .i64 (c : Int), .int .i64 (k : Int), .pointer (some ⟨x, 0, none⟩)] W fun e w' => e = .returned (.int .i64 ((dg3 c k : Nat) : Int)) ∧ W = w' := by
  unfold dg3
  have h0 : 0 < 3 ^ k := Nat.pos_of_ne_zero (by simp)
  generalize 3 ^ k = q at *
  have i1 : (0 : Int) ≤ (k : Int) := by omega
  have i2 : (k : Int) < (m : Int) := by omega
  have q0 : ¬ ((q : Int) = 0) := by omega
  have e1 : Int.tdiv (c : Int) (q : Int) = ((c / q : Nat) : Int) := by rw [Int.tdiv_eq_ediv_of_nonneg (by omega)]; rfl
  have e2 : Int.tmod ((c / q : Nat) : Int) 3 = ((c / q % 3 : Nat) : Int) := by rw [Int.tmod_eq_emod_of_nonneg (Int.natCast_nonneg _)]; rfl
  have hq : c / q ≤ c := Nat.div_le_self _ _
  have hm3 : c / q % 3 < 3 := Nat.mod_lt _ (by omega)
  generalize hr : c / q % 3 = r at *
  clear hr
  generalize c / q = d at *
  go_enter Try.func119, Try.ntmps119
  go_wp2
  go_returns
  exact ⟨rfl, rfl⟩
section
variable {w : World} {p n S : Nat} {ev : Nat → Nat} {T V I : Nat → Bool}
set_option maxHeartbeats 16000000 in
theorem primes_any (ht : TabI w p n ev T) (hn : n ≤ 12) (he : Evs S n ev) (hT : ∀ s, s < 2 ^ n → T s = V (widN n ev s)) (hI : IsI S n ev V I) :
    Calls Try.prog 87 #[.pointer (some ⟨p, 0, none⟩)] w fun e w' => ((1024 < (outP I n ev (3 ^ n)).length ∧ e = .returned (.tuple #[.slice none 0 0, .iface 58 (.int .i64 4)])) ∨ ((outP I n ev (3 ^ n)).length ≤ 1024 ∧ ∃ A c s, e = .returned (.tuple #[.slice A (outP I n ev (3 ^ n)).length c, .nilIface]) ∧ srtC (outP I n ev (3 ^ n)) s ∧ OwC w' w.heap.size A c (s.map zc))) ∧ Below w.heap.size w w' := by
  have HFull : Hid (∀ c, (∀ k, k < n → dg3 c k ≠ 2) → I c = T (rowD c n)) := fun c h => by
    rw [hI.full he h, hT _ (rowD_lt c n), wid_rowD]
  have HFree : Hid (∀ c a, a < n → dg3 c a = 2 → I c = (I (c - 3 ^ a) && I (c - 2 * 3 ^ a)) ∧ 2 * 3 ^ a ≤ c) := fun c a ha hd => ⟨hI.free he ha hd, (dg3_sub (by omega)).1⟩
  have HEV : Hid (∀ k, k < n → ev k < 24) := he.lt
  have HPow : Hid (∀ k, k ≤ n → 3 ^ k ≤ 3 ^ n ∧ 0 < 3 ^ k) := fun k hk => ⟨Nat.pow_le_pow_right (by omega) hk, Nat.pos_of_ne_zero (by simp)⟩
  have hN3 : 3 ^ n ≤ 531441 := Nat.pow_le_pow_right (n := 3) (by omega) hn
  have HOut := Lib.hid (fun m => outP_succ (I := I) (n := n) (ev := ev) m)
  have HOk := Lib.hid (fun c => cubN_ok he c)
  have HM24 : Hid (∀ (f : Nat → Bool) k, k ≤ n → mskE ev f k < 16777216) := fun f k hk => by
    refine Nat.lt_pow_two_of_testBit (n := 24) _ fun i hi => ?_
    cases h : (mskE ev f k).testBit i
    · rfl
    · obtain ⟨j, h1, _, h3⟩ := mskE_bit.1 h
      have := he.lt j (by omega)
      omega
  have HRow := Lib.hid (fun c => rowD_lt c n)
  have htB := Lib.hid (fun W (hW : Below w.heap.size w W) => ht.below hW)
  obtain ⟨⟨Ae, ce, ce0, rdE⟩, At, ct, ct1, rdT⟩ := ht
  have hpl := lt_of_cell ce0
  have HRdT := Lib.hid rdT
  have HRdE := Lib.hid rdE
  clear hT hI he rdE rdT
  obtain ⟨N, hNe⟩ : ∃ N, 3 ^ n = N := ⟨_, rfl⟩
  rw [hNe] at hN3 HPow
  rw [hNe]
  have HNE := Lib.hid hNe
  clear hNe
  have hw1 : IntKind.i64.wrap ((n : Int) + 1) = ((n + 1 : Nat) : Int) := by rw [IntKind.wrap_i64]; omega
  go_enter Try.func87, Try.ntmps87
  go_wp2_with (first | (at_make; refine wpList_makeJ rfl (.tmp 27) (.tmp 27) rfl w.heap.size (n + 1) ((n : Int) + 1) ((n : Int) + 1) (by first | rfl | simp [Act.eval]) (by first | rfl | simp [Act.eval]) (by omega) (by omega) (by omega) (by omega) ?_; intro w4 own4 hb4; have c40 := own4.at_ (k := 0) (by omega); have f40 := own4.frozen 0; have l40 := lt_of_cell c40) | fail)
  have hs0 := own4.set 0 1
  have hbA : Below w.heap.size w ((w4.setCell ⟨w.heap.size, 0, none⟩ (.int .i64 1)).alloc (.cells #[.slice (some ⟨w.heap.size, 0, none⟩) (n + 1) (n + 1)] 71)) := Below.alloc (Below.setCell hb4 (p := ⟨w.heap.size, _, none⟩) (by show w.heap.size ≤ w.heap.size; omega) _) (by simp; omega) _
  have own5 : OwJ ((w4.setCell ⟨w.heap.size, 0, none⟩ (.int .i64 1)).alloc (.cells #[.slice (some ⟨w.heap.size, 0, none⟩) (n + 1) (n + 1)] 71)) w.heap.size (some ⟨w.heap.size, 0, none⟩) (n + 1) (n + 1) (fun j => if j ≤ 0 then ((3 ^ j : Nat) : Int) else 0) := (hs0.1.below ((Below.refl _ _).alloc (Nat.le_refl _) _)).congr fun j _ => by
    by_cases h : j = 0
    · subst h; rfl
    · rw [if_neg h, if_neg (by omega)]
  have x5 : ((w4.setCell ⟨w.heap.size, 0, none⟩ (.int .i64 1)).alloc (.cells #[.slice (some ⟨w.heap.size, 0, none⟩) (n + 1) (n + 1)] 71)).cell? ⟨w4.heap.size, 0, none⟩ = some (.slice (some ⟨w.heap.size, 0, none⟩) (n + 1) (n + 1)) := by simp [go_sem]
  obtain ⟨w5, hw5⟩ : ∃ w5, w5 = ((w4.setCell ⟨w.heap.size, 0, none⟩ (.int .i64 1)).alloc (.cells #[.slice (some ⟨w.heap.size, 0, none⟩) (n + 1) (n + 1)] 71)) := ⟨_, rfl⟩
  rw [← hw5] at hbA own5 x5 ⊢
  clear hw5 hb4 own4 c40 f40 hs0
  generalize w4.heap.size = x at *
  clear w4
  have hax := hbA.size
  go_loopw [32] (fun i wr => ∃ k : Nat, k ≤ n ∧ i = .int .i64 k ∧ OwJ wr w.heap.size (some ⟨w.heap.size, 0, none⟩) (n + 1) (n + 1) (fun j => if j ≤ k then ((3 ^ j : Nat) : Int) else 0) ∧ wr.cell? ⟨x, 0, none⟩ = some (.slice (some ⟨w.heap.size, 0, none⟩) (n + 1) (n + 1)) ∧ Below w.heap.size w wr) (fun i _ => n - (intOf i).toNat)
  case atStart => exact ⟨0, Nat.zero_le _, rfl, own5, x5, hbA⟩
  case round =>
    obtain ⟨k, hk, rfl, own, x6, hb⟩ := hrel
    clear own5 x5 hbA
    by_cases hkn : k < n
    · have c1 := own.at_ (k := k) (by omega)
      have c2 := own.at_ (k := k + 1) (by omega)
      rw [if_pos (Nat.le_refl k)] at c1
      rw [if_neg (by omega)] at c2
      have fz := own.frozen (k + 1)
      have hq := HPow.out (k + 1) (by omega)
      have hq0 := HPow.out k (by omega)
      have HO : Hid (∀ v : Int, v = ((3 ^ (k + 1) : Nat) : Int) → OwJ (wr.setCell ⟨w.heap.size, k + 1, none⟩ (.int .i64 v)) w.heap.size (some ⟨w.heap.size, 0, none⟩) (n + 1) (n + 1) (fun j => if j ≤ k + 1 then ((3 ^ j : Nat) : Int) else 0)) := fun v hv => (own.set (k + 1) v).1.congr fun j _ => by
        by_cases h : j = k + 1
        · subst h; rw [if_pos rfl, if_pos (Nat.le_refl _)]; exact hv
        · rw [if_neg h]
          by_cases h2 : j ≤ k
          · rw [if_pos h2, if_pos (by omega)]
          · rw [if_neg h2, if_neg (by omega)]
      have e3 : 3 ^ (k + 1) = 3 ^ k * 3 := Nat.pow_succ ..
      have hbz := hb.size
      have hwk : w.heap.size < wr.heap.size := lt_of_cell c1
      have hxl := lt_of_cell x6
      have HX := Lib.hid (fun v : Value => set_far (w := wr) (o := k + 1) (v := v) (b := w.heap.size) (show ¬ w.heap.size = x by omega) x6)
      generalize 3 ^ k = q at *
      generalize 3 ^ (k + 1) = q2 at *
      have i1 : (0 : Int) ≤ (k : Int) := by omega
      have i2 : (k : Int) < ((n + 1 : Nat) : Int) := by omega
      have i3 : (k : Int) + 1 < ((n + 1 : Nat) : Int) := by omega
      have i4 : (k : Int) < (n : Int) := by omega
      have i5 : (k : Int) < (n : Int) + 1 := by omega
      have i6 : (0 : Int) ≤ (k : Int) + 1 := by omega
      have i7 : (k : Int) + 1 < (n : Int) + 1 := by omega
      have ne1 : ¬ x = w.heap.size := by omega
      have ne2 : ¬ w.heap.size = x := by omega
      have y1 : ∀ v : Value, (wr.setCell ⟨w.heap.size, k + 1, none⟩ v).cell? ⟨w.heap.size, k, none⟩ = some (.int .i64 (q : Int)) := fun v => (World.cell?_setCell_other _ _ _ _ (by simp)).trans c1
      clear own
      go_wp2
      go_region
      all_goals
        go_wp2
        go_roundw
        case rel => exact ⟨k + 1, by omega, by go_num, HO.out _ (by omega), HX.out _, Below.drew (Below.setCell hb (p := ⟨w.heap.size, _, none⟩) (by show w.heap.size ≤ w.heap.size; omega) _)⟩
        case measure => simp [intOf]; omega
    · obtain rfl : n = k := by omega
      obtain ⟨w6, rfl⟩ : ∃ w6 : World, w6 = wr := ⟨_, rfl⟩
      have cN := own.at_ (k := n) (by omega)
      rw [if_pos (Nat.le_refl n), HNE.out] at cN
      have HPl : Hid (∀ j, j ≤ n → w6.cell? ⟨w.heap.size, j, none⟩ = some (.int .i64 ((3 ^ j : Nat) : Int))) := fun j hj => by
        have := own.at_ (k := j) (by omega)
        rwa [if_pos hj] at this
      have i1 : (0 : Int) ≤ (n : Int) := by omega
      have i2 : (n : Int) < ((n + 1 : Nat) : Int) := by omega
      have hbz := hb.size
      have hwk : w.heap.size < w6.heap.size := lt_of_cell cN
      have hxl := lt_of_cell x6
      clear own
      go_wp2_with (first | (at_make; refine wpList_makeV rfl (.tmp 48) (.tmp 48) rfl w6.heap.size N (N : Int) (N : Int) (by first | rfl | simp [Act.eval]) (by first | rfl | simp [Act.eval]) rfl rfl (by omega) (by omega) ?_; intro w8 own8 hb8) | fail)
      clear cN i1 i2
      go_loopw [53] (fun i wr => ∃ c : Nat, c ≤ N ∧ i = .int .i64 c ∧ OwV wr w6.heap.size (some ⟨w6.heap.size, 0, none⟩) N N (fun j => decide (j < c) && I j) ∧ Below w6.heap.size w6 wr) (fun i _ => N - (intOf i).toNat)
      case atStart => exact ⟨0, Nat.zero_le _, rfl, own8.congr fun j _ => by simp, hb8⟩
      case round =>
        obtain ⟨c, hcN, rfl, own, hb2⟩ := hrel
        clear own8 hb8
        obtain ⟨wo, rfl⟩ : ∃ wo : World, wo = wr := ⟨_, rfl⟩
        have hb3 : Below w.heap.size w wo := hb.trans (hb2.mono hbz)
        have x7 := (below_at hb2 x 0 hxl).trans x6
        have HPo : Hid (∀ j, j ≤ n → wo.cell? ⟨w.heap.size, j, none⟩ = some (.int .i64 ((3 ^ j : Nat) : Int))) := fun j hj => (below_at hb2 w.heap.size j hwk).trans (HPl.out j hj)
        by_cases hlt : c < N
        · go_wp2
          go_loopw [10, 11, 57] (fun r a i wr => ∃ k : Nat, k ≤ n ∧ r = .int .i64 (mskE idN (fun k => dg3 c k == 1) k : Nat) ∧ a = .int .i64 (lastF c k) ∧ i = .int .i64 k ∧ wr = wo) (fun _ _ i _ => n - (intOf i).toNat)
          case atStart => exact ⟨0, Nat.zero_le _, rfl, rfl, rfl, rfl⟩
          case round =>
            obtain ⟨k, hk, rfl, rfl, rfl, rfl⟩ := hrel
            by_cases hkn : k < n
            · have hd3 := dg3_lt c k
              have q3 := HPow.out k (by omega)
              have hD := Lib.hid (digit_any (c := c) (k := k) x7 (HPo.out k (by omega)) (by omega) (by omega) (by omega))
              have hp := pow_lt24 (k := k) (by omega)
              have hlr := msk_24 (p := fun k => dg3 c k == 1) (n := k) (by omega)
              have hlk : (-1 : Int) ≤ lastF c k ∧ lastF c k < 24 := by
                rcases lastF_cases c k with ⟨h, _⟩ | ⟨a, h1, h2, _⟩ <;> omega
              have s2 := i64_or (mskE idN (fun k => dg3 c k == 1) k) (2 ^ k) (Nat.lt_trans hlr (by decide)) (Nat.lt_trans hp (by decide))
              have s1 := shl_eq (k := k) (by clear s2 hp hlr q3 hD hlk; omega)
              have HM : Hid (mskE idN (fun k => dg3 c k == 1) (k + 1) = if (dg3 c k == 1) = true then mskE idN (fun k => dg3 c k == 1) k ||| 2 ^ k else mskE idN (fun k => dg3 c k == 1) k) := rfl
              have HL : Hid (lastF c (k + 1) = if dg3 c k = 2 then (k : Int) else lastF c k) := rfl
              generalize mskE idN (fun k => dg3 c k == 1) k ||| 2 ^ k = ror at *
              generalize 2 ^ k = pk at *
              generalize mskE idN (fun k => dg3 c k == 1) k = rk at *
              generalize lastF c k = lk at *
              generalize hdk : dg3 c k = dk at *
              clear hdk
              go_wp2_with fail
              refine hD.out.mono ?_
              rintro e w' ⟨rfl, rfl⟩
              obtain rfl | rfl | rfl : dk = 0 ∨ dk = 1 ∨ dk = 2 := by omega
              · go_wp2_with fail
                go_roundw
                case rel => exact ⟨k + 1, by omega, by rw [HM.out]; rfl, by rw [HL.out]; rfl, by go_num, (by first | trivial | rfl)⟩
                case measure => simp [intOf]; omega
              · go_wp2_with fail
                go_roundw
                case rel => exact ⟨k + 1, by omega, by rw [HM.out]; rfl, by rw [HL.out]; rfl, by go_num, (by first | trivial | rfl)⟩
                case measure => simp [intOf]; omega
              · go_wp2_with fail
                go_roundw
                case rel => exact ⟨k + 1, by omega, by rw [HM.out]; rfl, by rw [HL.out]; rfl, by go_num, (by first | trivial | rfl)⟩
                case measure => simp [intOf]; omega
            · obtain rfl : n = k := by omega
              have hg8 : w6.heap.size < wr.heap.size := by
                have := lt_of_cell (own.at_ hlt)
                exact this
              have cI := own.at_ hlt
              have fI := own.frozen c
              have hcs : (decide (c < c) && I c) = false := by simp
              rw [hcs] at cI
              have HO : Hid (∀ v, v = I c → OwV (wr.setCell ⟨w6.heap.size, c, none⟩ (.bool v)) w6.heap.size (some ⟨w6.heap.size, 0, none⟩) N N (fun j => decide (j < c + 1) && I j)) := fun v hv => (own.set c v).1.congr fun j _ => by
                by_cases e : j = c
                · subst e; simp [hv]
                · have e1 : decide (j < c + 1) = decide (j < c) := by rw [decide_eq_decide]; omega
                  rw [if_neg e, e1]
              have hbN : Hid (∀ v, Below w6.heap.size w6 (wr.setCell ⟨w6.heap.size, c, none⟩ v)) := fun v => Below.setCell hb2 (p := ⟨w6.heap.size, _, none⟩) (by show w6.heap.size ≤ w6.heap.size; omega) _
              have ic1 : (0 : Int) ≤ (c : Int) := by omega
              have ic2 : (c : Int) < (N : Int) := by omega
              have hrr : mskE idN (fun k => dg3 c k == 1) n = rowD c n := rfl
              rw [hrr]
              clear hrr hcs
              rcases lastF_cases c n with ⟨hl, hno⟩ | ⟨a, ha, hl, hda⟩
              · have hIc : T (rowD c n) = I c := (HFull.out c hno).symm
                obtain ⟨b, off, rfl, hbl, cT⟩ := HRdT.out.later hb3 (HRow.out c)
                have hrl := HRow.out c
                have ct2 := (below_at hb3 p 1 hpl).trans ct1
                rw [hIc] at cT
                rw [hl]
                clear own hno hl hIc
                generalize rowD c n = row at *
                have HRw := Lib.hid HRow
                clear HRow
                generalize 2 ^ n = M at *
                have ir1 : (0 : Int) ≤ (row : Int) := by omega
                have ir2 : (row : Int) < (M : Int) := by omega
                go_wp2
                go_roundw
                case rel => exact ⟨c + 1, by omega, by go_num, HO.out _ rfl, hbN.out _⟩
                case measure => simp [intOf]; omega
              · have hF := (HFree.out c a ha hda).1
                have hF2 := (HFree.out c a ha hda).2
                have hq := HPow.out a (by omega)
                have cq := HPo.out a (by omega)
                have d1 := own.at_ (k := c - 3 ^ a) (by omega)
                have d2 := own.at_ (k := c - 2 * 3 ^ a) (by omega)
                rw [hl]
                generalize 3 ^ a = q at *
                have e1 : (c : Int) - (q : Int) = ((c - q : Nat) : Int) := by omega
                have e2 : (c : Int) - 2 * (q : Int) = ((c - 2 * q : Nat) : Int) := by omega
                rw [show decide (c - q < c) = true by simp; omega, Bool.true_and] at d1
                rw [show decide (c - 2 * q < c) = true by simp; omega, Bool.true_and] at d2
                have j1 : c - q < N := by omega
                have j2 : c - 2 * q < N := by omega
                have ha0 : ((a : Int) < 0) = False := by simp
                have ia1 : (0 : Int) ≤ (a : Int) := by omega
                have ia2 : (a : Int) < ((n + 1 : Nat) : Int) := by omega
                generalize c - q = u1 at *
                generalize c - 2 * q = u2 at *
                clear own hda hl hF2
                have iu1 : (0 : Int) ≤ (u1 : Int) := by omega
                have iu2 : (u1 : Int) < (N : Int) := by omega
                have iu3 : (0 : Int) ≤ (u2 : Int) := by omega
                have iu4 : (u2 : Int) < (N : Int) := by omega
                cases hv1 : I u1
                · rw [hv1] at d1 hF
                  have hF3 : Hid (false = I c) := by show _ = _; simpa using hF.symm
                  clear hF hv1
                  go_wp2
                  go_roundw
                  case rel => exact ⟨c + 1, by omega, by go_num, HO.out _ hF3.out, hbN.out _⟩
                  case measure => simp [intOf]; omega
                · rw [hv1] at d1 hF
                  generalize I u2 = v2 at *
                  have hF3 : Hid (v2 = I c) := by show _ = _; simpa using hF.symm
                  clear hF hv1
                  go_wp2
                  go_roundw
                  case rel => exact ⟨c + 1, by omega, by go_num, HO.out _ hF3.out, hbN.out _⟩
                  case measure => simp [intOf]; omega
        · obtain rfl : N = c := by omega
          have ownI : OwV wo w6.heap.size (some ⟨w6.heap.size, 0, none⟩) N N I := own.congr fun j hj => by rw [show decide (j < N) = true by simpa using hj, Bool.true_and]
          have HOI := Lib.hid ownI
          have hN0 : 0 < N := by have := HPow.out 0 (by omega); omega
          have hg8 : w6.heap.size < wo.heap.size := lt_of_cell (ownI.at_ hN0)
          clear own ownI hlt HFull HFree HRow HPl HRdT htB x6 hb2 hN0
          go_wp2
          go_loopw [13, 113] (fun o i wr => ∃ (c : Nat) (A' : Option Addr) (c' : Nat), c ≤ N ∧ o = .slice A' (outP I n ev c).length c' ∧ i = .int .i64 c ∧ OwC wr wo.heap.size A' c' ((outP I n ev c).map zc) ∧ Below wo.heap.size wo wr ∧ (outP I n ev c).length ≤ c) (fun _ i _ => N - (intOf i).toNat)
          case atStart => exact ⟨0, none, 0, Nat.zero_le _, rfl, rfl, OwC.nil_ _ _, Below.refl _ _, Nat.zero_le _⟩
          case round =>
            obtain ⟨c, A', c', hcN, rfl, rfl, own, hb2, hol⟩ := hrel
            obtain ⟨wt, rfl⟩ : ∃ wt : World, wt = wr := ⟨_, rfl⟩
            have hb2z := hb2.size
            by_cases hlt : c < N
            · have cI := (below_at hb2 w6.heap.size c hg8).trans (HOI.out.at_ hlt)
              have HS := Lib.hid (HOut.out c)
              cases hIc : I c
              · rw [hIc] at cI HS
                have HE : Hid (outP I n ev (c + 1) = outP I n ev c) := by show _ = _; rw [HS.out, Bool.false_and, if_neg (by decide), List.append_nil]
                clear HS
                go_wp2
                go_roundw
                case rel => exact ⟨c + 1, A', c', by omega, by rw [HE.out], by go_num, by rw [HE.out]; exact own, hb2, by rw [HE.out]; omega⟩
                case measure => simp [intOf]; omega
              · rw [hIc] at cI HS
                have hidx : ∀ k, k < n → c + (2 - dg3 c k) * 3 ^ k < N := fun k hk => by
                  have := dg3_room (e := 2 - dg3 c k) (show c < 3 ^ n by rw [HNE.out]; exact hlt) hk (by have := dg3_lt c k; omega)
                  rwa [HNE.out] at this
                have HIX := Lib.hid hidx
                have hwtI : Hid (∀ W, Below wt.heap.size wt W → ∀ j, j < N → W.cell? ⟨w6.heap.size, j, none⟩ = some (.bool (I j))) := fun W hW j hj => (below_at hW w6.heap.size j (by omega)).trans ((below_at hb2 w6.heap.size j hg8).trans (HOI.out.at_ hj))
                have hwtE : Hid (∀ W, Below wt.heap.size wt W → ∀ j, j < n → ∃ b off, Ae = some ⟨b, off, none⟩ ∧ b < w.heap.size ∧ W.cell? ⟨b, off + j, none⟩ = some (.int .i64 (ev j : Nat))) := fun W hW j hj => HRdE.out.later ((hb3.trans (hb2.mono (by omega))).trans (hW.mono (by omega))) hj
                have hwtP : Hid (∀ W, Below wt.heap.size wt W → ∀ j, j ≤ n → W.cell? ⟨w.heap.size, j, none⟩ = some (.int .i64 ((3 ^ j : Nat) : Int))) := fun W hW j hj => (below_at hW w.heap.size j (by omega)).trans ((below_at hb2 w.heap.size j (by omega)).trans (HPo.out j hj))
                have hwtX : Hid (∀ W, Below wt.heap.size wt W → W.cell? ⟨x, 0, none⟩ = some (.slice (some ⟨w.heap.size, 0, none⟩) (n + 1) (n + 1))) := fun W hW => (below_at hW x 0 (by omega)).trans ((below_at hb2 x 0 (by omega)).trans x7)
                have hwtT : Hid (∀ W, Below wt.heap.size wt W → W.cell? ⟨p, 0, none⟩ = some (.slice Ae n ce)) := fun W hW => (below_at hW p 0 (by omega)).trans ((below_at hb2 p 0 (by omega)).trans ((below_at hb3 p 0 hpl).trans ce0))
                have hce := hwtT.out wt (Below.refl _ _)
                clear hidx hIc
                have hpw : p < wt.heap.size := lt_of_cell hce
                go_wp2
                go_loopw [17, 125] (fun pr i wr => ∃ k : Nat, k ≤ n ∧ pr = .bool (prT I k c) ∧ i = .int .i64 k ∧ wr.cell? ⟨wt.heap.size, 0, none⟩ = some (.int .i64 (mskE ev (fun k => dg3 c k == 1) k : Nat)) ∧ wr.cell? ⟨wt.heap.size, 1, none⟩ = some (.int .i64 (mskE ev (fun k => dg3 c k == 0) k : Nat)) ∧ wr.frozen? ⟨wt.heap.size, 0, none⟩ = false ∧ wr.frozen? ⟨wt.heap.size, 1, none⟩ = false ∧ Below wt.heap.size wt wr ∧ wt.heap.size < wr.heap.size) (fun _ i _ => n - (intOf i).toNat)
                case atStart => exact ⟨0, Nat.zero_le _, rfl, rfl, by simp [go_sem]; rfl, by simp [go_sem]; rfl, by simp [go_sem], by simp [go_sem], (Below.refl _ _).alloc (Nat.le_refl _) _, by simp⟩
                case round =>
                  obtain ⟨k, hk, rfl, rfl, z0, z1, y0, y1, hb5, hz5⟩ := hrel
                  obtain ⟨wv, rfl⟩ : ∃ wv : World, wv = wr := ⟨_, rfl⟩
                  by_cases hkn : k < n
                  · have hd3 := dg3_lt c k
                    obtain ⟨b, off, rfl, hbl, cE⟩ := hwtE.out wv hb5 k hkn
                    have hev := HEV.out k hkn
                    have x8 := hwtX.out wv hb5
                    have q3 := HPow.out k (by omega)
                    have cP := hwtP.out wv hb5 k (by omega)
                    have hD := Lib.hid (digit_any (c := c) (k := k) x8 cP (by omega) (by omega) (by omega))
                    have hIX := HIX.out k hkn
                    have cIX := hwtI.out wv hb5 _ hIX
                    have HT : Hid (prT I (k + 1) c = (prT I k c && (dg3 c k == 2 || !I (c + (2 - dg3 c k) * 3 ^ k)))) := by
                      show _ = _
                      unfold prT
                      rw [List.range_succ, List.all_append]
                      simp
                    have HM1 : Hid (mskE ev (fun k => dg3 c k == 1) (k + 1) = if (dg3 c k == 1) = true then mskE ev (fun k => dg3 c k == 1) k ||| 2 ^ ev k else mskE ev (fun k => dg3 c k == 1) k) := rfl
                    have HM0 : Hid (mskE ev (fun k => dg3 c k == 0) (k + 1) = if (dg3 c k == 0) = true then mskE ev (fun k => dg3 c k == 0) k ||| 2 ^ ev k else mskE ev (fun k => dg3 c k == 0) k) := rfl
                    have ie1 : (0 : Int) ≤ (k : Int) := by omega
                    have ie2 : (k : Int) < (n : Int) := by omega
                    have hm1 := HM24.out (fun k => dg3 c k == 1) k hk
                    have hm0 := HM24.out (fun k => dg3 c k == 0) k hk
                    have hp := pow_lt24 hev
                    have s2 := i64_or (mskE ev (fun k => dg3 c k == 1) k) (2 ^ ev k) (Nat.lt_trans hm1 (by decide)) (Nat.lt_trans hp (by decide))
                    have s3 := i64_or (mskE ev (fun k => dg3 c k == 0) k) (2 ^ ev k) (Nat.lt_trans hm0 (by decide)) (Nat.lt_trans hp (by decide))
                    have s1 := shl_eq (Nat.lt_trans hev (by decide))
                    generalize mskE ev (fun k => dg3 c k == 1) k = m1 at *
                    generalize mskE ev (fun k => dg3 c k == 0) k = m0 at *
                    generalize prT I k c = pr at *
                    generalize 3 ^ k = q at *
                    generalize dg3 c k = dk at *
                    go_wp2_with fail
                    refine hD.out.mono ?_
                    rintro e w' ⟨rfl, rfl⟩
                    clear hD
                    obtain rfl | rfl | rfl : dk = 0 ∨ dk = 1 ∨ dk = 2 := by clear s1 s2 s3 hp; omega
                    · have hlo : m0 ||| 2 ^ ev k < 16777216 := or_lt24 hm0 hp
                      obtain ⟨mo, hmo⟩ : ∃ mo, m0 ||| 2 ^ ev k = mo := ⟨_, rfl⟩
                      rw [hmo] at s3 hlo
                      have HMO := Lib.hid s3
                      have HS1 := Lib.hid s1
                      generalize 2 ^ ev k = pe at *
                      have HN1 : Hid (mskE ev (fun k => dg3 c k == 1) (k + 1) = m1) := by show _ = _; rw [HM1.out]; rfl
                      have HN0 : Hid (mskE ev (fun k => dg3 c k == 0) (k + 1) = mo) := by show _ = _; rw [HM0.out, hmo]; rfl
                      obtain ⟨u, hu⟩ : ∃ u, u = c + 2 * q := ⟨_, rfl⟩
                      rw [show c + (2 - 0) * q = u by omega] at cIX HT hIX
                      have e1 : (c : Int) + 2 * (q : Int) = (u : Int) := by omega
                      have HT2 : Hid (prT I (k + 1) c = (pr && !I u)) := by show _ = _; rw [HT.out]; rfl
                      have iu1 : (0 : Int) ≤ (u : Int) := by omega
                      have iu2 : (u : Int) < (N : Int) := by omega
                      have HNW : Hid (∀ v : Value, v = .int .i64 (mo : Nat) → ((wv.setCell ⟨wt.heap.size, 1, none⟩ v).drew.cell? ⟨wt.heap.size, 0, none⟩ = some (.int .i64 (mskE ev (fun k => dg3 c k == 1) (k + 1) : Nat)) ∧ (wv.setCell ⟨wt.heap.size, 1, none⟩ v).drew.cell? ⟨wt.heap.size, 1, none⟩ = some (.int .i64 (mskE ev (fun k => dg3 c k == 0) (k + 1) : Nat)) ∧ (wv.setCell ⟨wt.heap.size, 1, none⟩ v).drew.frozen? ⟨wt.heap.size, 0, none⟩ = false ∧ (wv.setCell ⟨wt.heap.size, 1, none⟩ v).drew.frozen? ⟨wt.heap.size, 1, none⟩ = false ∧ Below wt.heap.size wt (wv.setCell ⟨wt.heap.size, 1, none⟩ v).drew ∧ wt.heap.size < (wv.setCell ⟨wt.heap.size, 1, none⟩ v).drew.heap.size)) := fun v hv => by
                        subst hv
                        rw [HN1.out, HN0.out]
                        refine ⟨(World.cell?_setCell_other _ _ _ _ (by simp)).trans z0, World.cell?_setCell_same' _ _ _ (by rw [z1]; rfl), ?_, ?_, Below.drew (Below.setCell hb5 (p := ⟨wt.heap.size, _, none⟩) (by show wt.heap.size ≤ wt.heap.size; omega) _), by simp; omega⟩
                        · show World.frozen? (wv.setCell _ _) _ = false
                          rw [World.frozen?_setCell]; exact y0
                        · show World.frozen? (wv.setCell _ _) _ = false
                          rw [World.frozen?_setCell]; exact y1
                      clear hu HN1 HN0 HM1 HM0 HT
                      cases pr
                      · have HT3 : Hid (prT I (k + 1) c = false) := by show _ = _; rw [HT2.out]; rfl
                        go_wp2_with fail
                        go_region
                        all_goals
                          go_wp2_with fail
                          go_roundw
                          case rel => exact ⟨k + 1, by omega, by rw [HT3.out], by go_num, HNW.out _ (by first | rfl | rw [HS1.out, HMO.out])⟩
                          case measure => simp [intOf]; omega
                      · have HT3 : Hid (prT I (k + 1) c = !I u) := by show _ = _; rw [HT2.out]; rfl
                        generalize I u = vu at *
                        go_wp2_with fail
                        go_region
                        all_goals
                          go_wp2_with fail
                          go_roundw
                          case rel => exact ⟨k + 1, by omega, by rw [HT3.out], by go_num, HNW.out _ (by first | rfl | rw [HS1.out, HMO.out])⟩
                          case measure => simp [intOf]; omega
                    · have hlo : m1 ||| 2 ^ ev k < 16777216 := or_lt24 hm1 hp
                      obtain ⟨mo, hmo⟩ : ∃ mo, m1 ||| 2 ^ ev k = mo := ⟨_, rfl⟩
                      rw [hmo] at s2 hlo
                      have HMO := Lib.hid s2
                      have HS1 := Lib.hid s1
                      generalize 2 ^ ev k = pe at *
                      have HN1 : Hid (mskE ev (fun k => dg3 c k == 1) (k + 1) = mo) := by show _ = _; rw [HM1.out, hmo]; rfl
                      have HN0 : Hid (mskE ev (fun k => dg3 c k == 0) (k + 1) = m0) := by show _ = _; rw [HM0.out]; rfl
                      obtain ⟨u, hu⟩ : ∃ u, u = c + q := ⟨_, rfl⟩
                      rw [show c + (2 - 1) * q = u by omega] at cIX HT hIX
                      have e1 : (c : Int) + (q : Int) = (u : Int) := by omega
                      have HT2 : Hid (prT I (k + 1) c = (pr && !I u)) := by show _ = _; rw [HT.out]; rfl
                      have iu1 : (0 : Int) ≤ (u : Int) := by omega
                      have iu2 : (u : Int) < (N : Int) := by omega
                      have HNW : Hid (∀ v : Value, v = .int .i64 (mo : Nat) → ((wv.setCell ⟨wt.heap.size, 0, none⟩ v).drew.cell? ⟨wt.heap.size, 0, none⟩ = some (.int .i64 (mskE ev (fun k => dg3 c k == 1) (k + 1) : Nat)) ∧ (wv.setCell ⟨wt.heap.size, 0, none⟩ v).drew.cell? ⟨wt.heap.size, 1, none⟩ = some (.int .i64 (mskE ev (fun k => dg3 c k == 0) (k + 1) : Nat)) ∧ (wv.setCell ⟨wt.heap.size, 0, none⟩ v).drew.frozen? ⟨wt.heap.size, 0, none⟩ = false ∧ (wv.setCell ⟨wt.heap.size, 0, none⟩ v).drew.frozen? ⟨wt.heap.size, 1, none⟩ = false ∧ Below wt.heap.size wt (wv.setCell ⟨wt.heap.size, 0, none⟩ v).drew ∧ wt.heap.size < (wv.setCell ⟨wt.heap.size, 0, none⟩ v).drew.heap.size)) := fun v hv => by
                        subst hv
                        rw [HN1.out, HN0.out]
                        refine ⟨World.cell?_setCell_same' _ _ _ (by rw [z0]; rfl), (World.cell?_setCell_other _ _ _ _ (by simp)).trans z1, ?_, ?_, Below.drew (Below.setCell hb5 (p := ⟨wt.heap.size, _, none⟩) (by show wt.heap.size ≤ wt.heap.size; omega) _), by simp; omega⟩
                        · show World.frozen? (wv.setCell _ _) _ = false
                          rw [World.frozen?_setCell]; exact y0
                        · show World.frozen? (wv.setCell _ _) _ = false
                          rw [World.frozen?_setCell]; exact y1
                      clear hu HN1 HN0 HM1 HM0 HT
                      cases pr
                      · have HT3 : Hid (prT I (k + 1) c = false) := by show _ = _; rw [HT2.out]; rfl
                        go_wp2_with fail
                        go_region
                        all_goals
                          go_wp2_with fail
                          go_roundw
                          case rel => exact ⟨k + 1, by omega, by rw [HT3.out], by go_num, HNW.out _ (by first | rfl | rw [HS1.out, HMO.out])⟩
                          case measure => simp [intOf]; omega
                      · have HT3 : Hid (prT I (k + 1) c = !I u) := by show _ = _; rw [HT2.out]; rfl
                        generalize I u = vu at *
                        go_wp2_with fail
                        go_region
                        all_goals
                          go_wp2_with fail
                          go_roundw
                          case rel => exact ⟨k + 1, by omega, by rw [HT3.out], by go_num, HNW.out _ (by first | rfl | rw [HS1.out, HMO.out])⟩
                          case measure => simp [intOf]; omega
                    · have HT3 : Hid (prT I (k + 1) c = pr) := by show _ = _; rw [HT.out]; simp
                      have HN1 : Hid (mskE ev (fun k => dg3 c k == 1) (k + 1) = m1) := by show _ = _; rw [HM1.out]; rfl
                      have HN0 : Hid (mskE ev (fun k => dg3 c k == 0) (k + 1) = m0) := by show _ = _; rw [HM0.out]; rfl
                      clear HT HM1 HM0 s1 s2 s3
                      generalize 2 ^ ev k = pe at *
                      go_wp2_with fail
                      go_roundw
                      case rel => exact ⟨k + 1, by omega, by rw [HT3.out], by go_num, by rw [HN1.out]; exact z0, by rw [HN0.out]; exact z1, y0, y1, hb5, hz5⟩
                      case measure => simp [intOf]; omega
                  · obtain rfl : n = k := by omega
                    have HCU : Hid ((mskE ev (fun k => dg3 c k == 1) n, mskE ev (fun k => dg3 c k == 0) n) = cubN n ev c) := rfl
                    have own5 := own.below hb5
                    clear hwtE hwtI hwtP hwtX hwtT HIX own
                    cases hpr : prT I n c
                    · rw [hpr] at HS
                      have HE : Hid (outP I n ev (c + 1) = outP I n ev c) := by show _ = _; rw [HS.out]; simp
                      clear HS HCU
                      generalize mskE ev (fun k => dg3 c k == 1) n = m1 at *
                      generalize mskE ev (fun k => dg3 c k == 0) n = m0 at *
                      go_wp2
                      go_roundw
                      case rel => exact ⟨c + 1, A', c', by omega, by rw [HE.out], by go_num, by rw [HE.out]; exact own5, hb2.trans (hb5.mono hb2z), by rw [HE.out]; omega⟩
                      case measure => simp [intOf]; omega
                    · rw [hpr] at HS
                      have HE : Hid (outP I n ev (c + 1) = outP I n ev c ++ [cubN n ev c]) := by show _ = _; rw [HS.out]; simp
                      clear HS
                      generalize mskE ev (fun k => dg3 c k == 1) n = m1 at *
                      generalize mskE ev (fun k => dg3 c k == 0) n = m0 at *
                      obtain ⟨L, hL⟩ : ∃ L, L = outP I n ev c := ⟨_, rfl⟩
                      rw [← hL] at HE hol own5 ⊢
                      have HLL := Lib.hid hL
                      clear hL
                      go_wp2_with (at_builtin; refine wpList_appC1 rfl (.tmp 168) (.tmp 170) rfl wo.heap.size A' c' (L.map zc) (by simp [Act.eval]) (own5.alloc _) (zc (m1, m0)) wv.heap.size rfl (by simp [go_sem]) (by simp [go_sem]) (by simp; omega) (by simp; omega) ?_; intro A2 c2 w9 own9 hb9 hg9)
                      have ownF : OwC w9 wo.heap.size A2 c2 ((outP I n ev (c + 1)).map zc) := by
                        rw [HE.out, ← HCU.out, List.map_append]
                        exact own9
                      have HLe : Hid ((outP I n ev (c + 1)).length = L.length + 1) := by show _ = _; rw [HE.out, List.length_append]; rfl
                      go_roundw
                      case rel => exact ⟨c + 1, A2, c2, by omega, by rw [HLe.out], by go_num, ownF, (by have z0 := Below.size hb2; have z1 := Below.size hb5; have z2 := Below.size hb9; (try simp only [World.size_alloc, World.size_setCell, World.size_drew, size_drewN'] at z0 z1 z2 ⊢; skip); repeat' (first | (with_reducible exact Below.refl _ _) | (with_reducible assumption) | (with_reducible refine Below.alloc ?_ ?_ _) | (with_reducible refine Below.drew ?_) | (with_reducible refine below_drewN ?_ _) | (with_reducible refine Below.setCell ?_ ?_ _) | (with_reducible refine Below.trans ?_ (Below.mono (by with_reducible assumption) ?_)) | omega | (simp only [World.size_alloc, World.size_setCell, World.size_drew, size_drewN']; omega) | go_size)), by rw [HLe.out]; omega⟩
                      case measure => simp [intOf]; omega
            · obtain rfl : N = c := by omega
              have HOL : Hid (∀ a ∈ outP I n ev N, okN a) := fun a ha => by
                obtain ⟨m, _, e⟩ := List.mem_map.1 ha
                rw [← e]
                exact HOk.out m
              have hb6 : Below w.heap.size w wt := hb3.trans (hb2.mono (by omega))
              have ownW := own.base_ (base' := w.heap.size) (by omega)
              clear HOI HOut HOk HM24 own
              obtain ⟨L, hL⟩ : ∃ L, L = outP I n ev N := ⟨_, rfl⟩
              rw [← hL] at HOL ownW hol ⊢
              have HLE := Lib.hid hL
              clear hL
              by_cases h1024 : 1024 < L.length
              · go_wp2
                go_returns
                rw [← HLE.out]
                exact ⟨.inl ⟨h1024, rfl⟩, hb6⟩
              · have hK := Lib.hid (sort_any 120 cmpP (fun _ _ => rfl) HOL.out ownW (by omega))
                go_wp2_with fail
                refine hK.out.mono ?_
                rintro e w9 ⟨rfl, s, hs, ownS, hbS⟩
                have HSS := Lib.hid hs
                clear hs hK
                go_wp2_with fail
                go_returns
                rw [← HLE.out]
                exact ⟨.inr ⟨by omega, A', c', s, rfl, HSS.out, ownS⟩, hb6.trans hbS⟩
end
end Go.Proofs.Ytedopalmfakeaaa
