/- Contracts of functions and lemmas, used by the proofs of the given statements. No condition beyond those that each lemma names. -/
import Derived.Test.YtedopalmfakeaaaCubeC2
namespace Go.Proofs.Ytedopalmfakeaaa
open Go.RowKit
set_option linter.unusedSimpArgs false
set_option linter.unusedVariables false
set_option maxRecDepth 20000
/-! ## Within, Count -/
/-- the error of a list over some events, the list being accepted -/
def wthL (v : Nat) : List Cn → Int
  | [] => 0
  | c :: l => if (c.1 ||| c.2) / 2 ^ v = 0 then wthL v l else 10
def wthN (l : List Cn) (v : Int) : Int := if v < 0 ∨ 24 < v then 3 else wthL v.toNat l
theorem wthL_drop (v : Nat) (l : List Cn) (k : Nat) (hk : k < l.length) : wthL v (l.drop k) = if (l[k].1 ||| l[k].2) / 2 ^ v = 0 then wthL v (l.drop (k + 1)) else 10 := by
  rw [List.drop_eq_getElem_cons hk, wthL]
theorem wthL_nil (v : Nat) (l : List Cn) (k : Nat) (hk : l.length ≤ k) : wthL v (l.drop k) = 0 := by
  rw [List.drop_eq_nil_of_le hk]; rfl
theorem div_zero_inS {c : Cn} {v : Nat} (h : (c.1 ||| c.2) / 2 ^ v = 0) : inS (2 ^ v - 1) c := by
  intro i hi
  have hlt : c.1 ||| c.2 < 2 ^ v := by
    rcases Nat.lt_or_ge (c.1 ||| c.2) (2 ^ v) with h1 | h1
    · exact h1
    · have := Nat.div_pos h1 (Nat.two_pow_pos v); omega
  have hb : (c.1 ||| c.2).testBit i = true := by rw [Nat.testBit_or, Bool.or_eq_true]; exact hi
  rw [Nat.testBit_two_pow_sub_one]
  rcases Nat.lt_or_ge i v with h1 | h1
  · simpa using h1
  · have := Nat.testBit_lt_two_pow (Nat.lt_of_lt_of_le hlt (Nat.pow_le_pow_right (n := 2) (by omega) h1))
    rw [this] at hb; cases hb
theorem wthL_inS {v : Nat} {l : List Cn} (h : wthL v l = 0) : ∀ c ∈ l, inS (2 ^ v - 1) c := by
  induction l with
  | nil => intro c hc; cases hc
  | cons d l ih =>
    unfold wthL at h
    split at h
    · rename_i h1
      intro c hc
      rcases List.mem_cons.1 hc with h2 | h2
      · rw [h2]; exact div_zero_inS h1
      · exact ih h c h2
    · cases h
theorem popc_mask (v : Nat) (h : v ≤ 24) : popc (2 ^ v - 1) = v := by
  have : ∀ v, v < 25 → popc (2 ^ v - 1) = v := by decide +kernel
  exact this v (by omega)
theorem mask_lt (v : Nat) (h : v ≤ 24) : 2 ^ v - 1 < 16777216 := by
  have := Nat.pow_le_pow_right (n := 2) (by omega) h
  have := Nat.two_pow_pos v
  omega
theorem shr_eq (x v : Nat) : (x : Int) / 2 ^ v = ((x / 2 ^ v : Nat) : Int) := by
  rw [show (2 : Int) ^ v = ((2 ^ v : Nat) : Int) from by simp]
  rfl
set_option maxHeartbeats 1000000 in
theorem within_walk (A : Option Addr) (l : List Cn) (nl c v : Nat) (w : World) (hl : l.length = nl) (hn : nl ≤ 1024) (hv : v ≤ 24) (hok : ∀ a ∈ l, okN a) (h : RdC w w.heap.size A (l.map zc)) :
    Calls Try.prog 39 #[.slice A nl c, .int .i64 (v : Int)] w fun e w' => e = .returned (.int .i64 (wthL v l)) ∧ Below w.heap.size w w' := by
  subst hl
  go_enter Try.func39, Try.ntmps39
  go_wp2
  go_loopw [5] (fun i wr => ∃ k : Nat, k ≤ l.length ∧ i = .int .i64 k ∧ wthL v l = wthL v (l.drop k) ∧ Below w.heap.size w wr) (fun i _ => l.length - (intOf i).toNat)
  case atStart => exact ⟨0, Nat.zero_le _, rfl, rfl, Below.refl _ _⟩
  case round =>
    obtain ⟨k, hk, rfl, heq, hb⟩ := hrel
    have HE := Lib.hid heq
    clear heq
    by_cases hlt : k < l.length
    · obtain ⟨b, off, rfl, hbb, c0, c1⟩ := (h.below hb).at_ (k := k) (c := zc l[k]) (by simp [hlt])
      have HD := Lib.hid (wthL_drop v l k hlt)
      have hd := hok l[k] (List.getElem_mem _)
      generalize l[k] = d at *
      have e1 := i64_or d.1 d.2 (by have := hd.1; omega) (by have := hd.2.1; omega)
      generalize d.1 ||| d.2 = x at *
      have e2 := shr_eq x v
      generalize hq : x / 2 ^ v = q at *
      have HQ := Lib.hid hq
      clear hq
      by_cases hq0 : q = 0
      · have HX : Hid (wthL v (l.drop k) = wthL v (l.drop (k + 1))) := by show wthL v (l.drop k) = _; rw [HD.out, if_pos hq0]
        subst hq0
        clear HD HQ
        go_wp2
        go_quiet (fail)
        go_wp2
        go_roundw
        case rel => exact ⟨k + 1, by omega, by go_num, by rw [HE.out, HX.out], (by have z0 := Below.size hb; (try simp only [World.size_alloc, World.size_setCell, World.size_drew, size_drewN'] at z0 ⊢; skip); repeat' (first | (with_reducible exact Below.refl _ _) | (with_reducible assumption) | (with_reducible refine Below.alloc ?_ ?_ _) | (with_reducible refine Below.drew ?_) | (with_reducible refine below_drewN ?_ _) | (with_reducible refine Below.setCell ?_ ?_ _) | (with_reducible refine Below.trans ?_ (Below.mono (by with_reducible assumption) ?_)) | omega | (simp only [World.size_alloc, World.size_setCell, World.size_drew, size_drewN']; omega) | go_size))⟩
        case measure => simp [intOf]; omega
      · have HX : Hid (wthL v (l.drop k) = 10) := by show wthL v (l.drop k) = _; rw [HD.out, if_neg hq0]
        have hne : ((q : Int) != 0) = true := by rw [bne_iff_ne]; omega
        clear HD HQ hq0
        go_wp2
        go_quiet (fail)
        go_wp2
        go_ret
        exact ⟨by rw [HE.out, HX.out]; rfl, (by have z0 := Below.size hb; (try simp only [World.size_alloc, World.size_setCell, World.size_drew, size_drewN'] at z0 ⊢; skip); repeat' (first | (with_reducible exact Below.refl _ _) | (with_reducible assumption) | (with_reducible refine Below.alloc ?_ ?_ _) | (with_reducible refine Below.drew ?_) | (with_reducible refine below_drewN ?_ _) | (with_reducible refine Below.setCell ?_ ?_ _) | (with_reducible refine Below.trans ?_ (Below.mono (by with_reducible assumption) ?_)) | omega | (simp only [World.size_alloc, World.size_setCell, World.size_drew, size_drewN']; omega) | go_size))⟩
    · have HH := Lib.hid (wthL_nil v l k (by omega))
      go_wp2
      go_ret
      exact ⟨by rw [HE.out, HH.out]; rfl, hb⟩
theorem within_out (A : Option Addr) (nl c : Nat) (v : Int) (w : World) (hv : v < 0 ∨ 24 < v) :
    Calls Try.prog 39 #[.slice A nl c, .int .i64 v] w fun e w' => e = .returned (.int .i64 3) ∧ Below w.heap.size w w' := by
  rcases hv with hv | hv
  · go_enter Try.func39, Try.ntmps39
    go_wp2
    go_ret
    exact ⟨rfl, Below.refl _ _⟩
  · have h0 : ¬ v < 0 := by omega
    go_enter Try.func39, Try.ntmps39
    go_wp2
    go_ret
    exact ⟨rfl, Below.refl _ _⟩
theorem refWithin_any (A : Option Addr) (l : List Cn) (nl c : Nat) (v : Int) (w : World) (hl : l.length = nl) (hn : nl ≤ 1024) (hok : ∀ a ∈ l, okN a) (h : RdC w w.heap.size A (l.map zc)) :
    Calls Try.prog 39 #[.slice A nl c, .int .i64 v] w fun e w' => e = .returned (.int .i64 (wthN l v)) ∧ Below w.heap.size w w' := by
  by_cases hv : v < 0 ∨ 24 < v
  · exact (within_out A nl c v w hv).mono fun e w' ⟨h1, h2⟩ => ⟨by rw [h1, wthN, if_pos hv], h2⟩
  · obtain ⟨m, rfl⟩ := Int.eq_ofNat_of_zero_le (show 0 ≤ v by omega)
    exact (within_walk A l nl c m w hl hn (by omega) hok h).mono fun e w' ⟨h1, h2⟩ => ⟨by rw [h1, wthN, if_neg hv]; rfl, h2⟩
set_option maxHeartbeats 1000000 in
theorem countX_bad (A : Option Addr) (l : List Cb) (nl c : Nat) (v : Int) (w : World) (hl : l.length = nl) (hn : nl ≤ 9223372036854775807) (h : RdC w w.heap.size A l) (hc : chkLL l ≠ 0) :
    Calls Try.prog 37 #[.slice A nl c, .int .i64 v] w fun e w' => e = .returned (.tuple #[.int .i64 0, erV (chkLL l)]) ∧ Below w.heap.size w w' := by
  have HH := Lib.hid hc
  have HL := Lib.hid hl
  clear hc hl
  go_enter Try.func37, Try.ntmps37
  go_wp2_with ((go_at_call 79; (with_reducible refine (no_case (checkList_any A l nl c _ HL.out hn h) HH.out).mono ?_); rintro e w1 ⟨rfl, hb1⟩))
  go_returns
  exact ⟨rfl, (by have z0 := Below.size hb1; (try simp only [World.size_alloc, World.size_setCell, World.size_drew, size_drewN'] at z0 ⊢; skip); repeat' (first | (with_reducible exact Below.refl _ _) | (with_reducible assumption) | (with_reducible refine Below.alloc ?_ ?_ _) | (with_reducible refine Below.drew ?_) | (with_reducible refine below_drewN ?_ _) | (with_reducible refine Below.setCell ?_ ?_ _) | (with_reducible refine Below.trans ?_ (Below.mono (by with_reducible assumption) ?_)) | omega | (simp only [World.size_alloc, World.size_setCell, World.size_drew, size_drewN']; omega) | go_size))⟩
set_option maxHeartbeats 1000000 in
theorem countX_out (A : Option Addr) (l : List Cn) (nl c : Nat) (v : Int) (w : World) (hl : l.length = nl) (hn : nl ≤ 1024) (hok : ∀ a ∈ l, okN a) (h : RdC w w.heap.size A (l.map zc)) (hv : v < 0 ∨ 24 < v) :
    Calls Try.prog 37 #[.slice A nl c, .int .i64 v] w fun e w' => e = .returned (.tuple #[.int .i64 0, erV 3]) ∧ Below w.heap.size w w' := by
  have HZ : Hid (chkLL (l.map zc) = 0) := chkLL_of_ok hok (by omega)
  have HL : Hid ((l.map zc).length = nl) := by show (l.map zc).length = nl; simp [hl]
  clear hok hl
  rcases hv with hv | hv
  · go_enter Try.func37, Try.ntmps37
    go_wp2_with ((go_at_call 79; (with_reducible refine (ok_case (checkList_any A (l.map zc) nl c _ HL.out (by omega) h) HZ.out).mono ?_); rintro e w1 ⟨rfl, hb1⟩))
    go_returns
    exact ⟨rfl, (by have z0 := Below.size hb1; (try simp only [World.size_alloc, World.size_setCell, World.size_drew, size_drewN'] at z0 ⊢; skip); repeat' (first | (with_reducible exact Below.refl _ _) | (with_reducible assumption) | (with_reducible refine Below.alloc ?_ ?_ _) | (with_reducible refine Below.drew ?_) | (with_reducible refine below_drewN ?_ _) | (with_reducible refine Below.setCell ?_ ?_ _) | (with_reducible refine Below.trans ?_ (Below.mono (by with_reducible assumption) ?_)) | omega | (simp only [World.size_alloc, World.size_setCell, World.size_drew, size_drewN']; omega) | go_size))⟩
  · have h0 : ¬ v < 0 := by omega
    go_enter Try.func37, Try.ntmps37
    go_wp2_with ((go_at_call 79; (with_reducible refine (ok_case (checkList_any A (l.map zc) nl c _ HL.out (by omega) h) HZ.out).mono ?_); rintro e w1 ⟨rfl, hb1⟩))
    go_returns
    exact ⟨rfl, (by have z0 := Below.size hb1; (try simp only [World.size_alloc, World.size_setCell, World.size_drew, size_drewN'] at z0 ⊢; skip); repeat' (first | (with_reducible exact Below.refl _ _) | (with_reducible assumption) | (with_reducible refine Below.alloc ?_ ?_ _) | (with_reducible refine Below.drew ?_) | (with_reducible refine below_drewN ?_ _) | (with_reducible refine Below.setCell ?_ ?_ _) | (with_reducible refine Below.trans ?_ (Below.mono (by with_reducible assumption) ?_)) | omega | (simp only [World.size_alloc, World.size_setCell, World.size_drew, size_drewN']; omega) | go_size))⟩
set_option maxHeartbeats 2000000 in
theorem countX_walk (A : Option Addr) (l : List Cn) (nl c v : Nat) (w : World) (hl : l.length = nl) (hn : nl ≤ 1024) (hv : v ≤ 24) (hok : ∀ a ∈ l, okN a) (h : RdC w w.heap.size A (l.map zc)) :
    (wthL v l = 0 → Calls Try.prog 37 #[.slice A nl c, .int .i64 (v : Int)] w fun e w' => e = .returned (.tuple #[.int .i64 (cnt 24 (2 ^ v - 1) (anyN l) : Nat), .nilIface]) ∧ Below w.heap.size w w') ∧
    (wthL v l ≠ 0 → Calls Try.prog 37 #[.slice A nl c, .int .i64 (v : Int)] w fun e w' => e = .returned (.tuple #[.int .i64 0, erV 10]) ∧ Below w.heap.size w w') := by
  subst hl
  have HZ : Hid (chkLL (l.map zc) = 0) := chkLL_of_ok hok (by omega)
  have HL : Hid ((l.map zc).length = l.length) := by show (l.map zc).length = l.length; simp
  have HO := Lib.hid hok
  clear hok
  have h0 : ¬ (v : Int) < 0 := by omega
  constructor
  · intro hw
    have HW := Lib.hid hw
    clear hw
    have HC : Hid (CntPre v (2 ^ v - 1) l) := ⟨popc_mask v hv, mask_lt v hv, HO.out, wthL_inS HW.out, by omega⟩
    go_enter Try.func37, Try.ntmps37
    go_wp2_with ((go_at_call 79; (with_reducible refine (ok_case (checkList_any A (l.map zc) l.length c _ HL.out (by omega) h) HZ.out).mono ?_); rintro e w1 ⟨rfl, hb1⟩))
    go_loopw [23] (fun i wr => ∃ k : Nat, k ≤ l.length ∧ i = .int .i64 k ∧ wthL v (l.drop k) = 0 ∧ Below w.heap.size w wr) (fun i _ => l.length - (intOf i).toNat)
    case atStart => exact ⟨0, Nat.zero_le _, rfl, HW.out, hb1⟩
    case round =>
      obtain ⟨k, hk, rfl, heq, hb⟩ := hrel
      have HE := Lib.hid heq
      clear heq hb1
      have hbz := hb.size
      by_cases hlt : k < l.length
      · obtain ⟨b, off, rfl, hbb, c0, c1⟩ := (h.below hb).at_ (k := k) (c := zc l[k]) (by simp [hlt])
        have HD := Lib.hid (wthL_drop v l k hlt)
        have hd := HO.out l[k] (List.getElem_mem _)
        generalize l[k] = d at *
        have e1 := i64_or d.1 d.2 (by have := hd.1; omega) (by have := hd.2.1; omega)
        generalize d.1 ||| d.2 = x at *
        have e2 := shr_eq x v
        generalize hq : x / 2 ^ v = q at *
        have hq0 : q = 0 := by
          have a := HD.out
          rw [HE.out] at a
          by_cases h1 : q = 0
          · exact h1
          · rw [if_neg h1] at a; cases a
        have HX : Hid (wthL v (l.drop (k + 1)) = 0) := by
          have a := HD.out
          rw [HE.out, if_pos hq0] at a
          exact a.symm
        subst hq0
        clear HD hq
        go_wp2
        go_roundw
        case rel => exact ⟨k + 1, by omega, by go_num, HX.out, (by have z0 := Below.size hb; (try simp only [World.size_alloc, World.size_setCell, World.size_drew, size_drewN'] at z0 ⊢; skip); repeat' (first | (with_reducible exact Below.refl _ _) | (with_reducible assumption) | (with_reducible refine Below.alloc ?_ ?_ _) | (with_reducible refine Below.drew ?_) | (with_reducible refine below_drewN ?_ _) | (with_reducible refine Below.setCell ?_ ?_ _) | (with_reducible refine Below.trans ?_ (Below.mono (by with_reducible assumption) ?_)) | omega | (simp only [World.size_alloc, World.size_setCell, World.size_drew, size_drewN']; omega) | go_size))⟩
        case measure => simp [intOf]; omega
      · go_wp2_with (go_at_call 80; (with_reducible refine (count_q HC.out rfl (h.on hb hbz) rfl).mono ?_); rintro e w2 ⟨rfl, hb2⟩)
        go_returns
        exact ⟨rfl, (by have z0 := Below.size hb; have z1 := Below.size hb2; (try simp only [World.size_alloc, World.size_setCell, World.size_drew, size_drewN'] at z0 z1 ⊢; skip); repeat' (first | (with_reducible exact Below.refl _ _) | (with_reducible assumption) | (with_reducible refine Below.alloc ?_ ?_ _) | (with_reducible refine Below.drew ?_) | (with_reducible refine below_drewN ?_ _) | (with_reducible refine Below.setCell ?_ ?_ _) | (with_reducible refine Below.trans ?_ (Below.mono (by with_reducible assumption) ?_)) | omega | (simp only [World.size_alloc, World.size_setCell, World.size_drew, size_drewN']; omega) | go_size))⟩
  · intro hw
    have HW := Lib.hid hw
    clear hw
    go_enter Try.func37, Try.ntmps37
    go_wp2_with ((go_at_call 79; (with_reducible refine (ok_case (checkList_any A (l.map zc) l.length c _ HL.out (by omega) h) HZ.out).mono ?_); rintro e w1 ⟨rfl, hb1⟩))
    go_loopw [23] (fun i wr => ∃ k : Nat, k ≤ l.length ∧ i = .int .i64 k ∧ wthL v (l.drop k) ≠ 0 ∧ Below w.heap.size w wr) (fun i _ => l.length - (intOf i).toNat)
    case atStart => exact ⟨0, Nat.zero_le _, rfl, HW.out, hb1⟩
    case round =>
      obtain ⟨k, hk, rfl, heq, hb⟩ := hrel
      have HE := Lib.hid heq
      clear heq hb1
      have hbz := hb.size
      by_cases hlt : k < l.length
      · obtain ⟨b, off, rfl, hbb, c0, c1⟩ := (h.below hb).at_ (k := k) (c := zc l[k]) (by simp [hlt])
        have HD := Lib.hid (wthL_drop v l k hlt)
        have hd := HO.out l[k] (List.getElem_mem _)
        generalize l[k] = d at *
        have e1 := i64_or d.1 d.2 (by have := hd.1; omega) (by have := hd.2.1; omega)
        generalize d.1 ||| d.2 = x at *
        have e2 := shr_eq x v
        generalize hq : x / 2 ^ v = q at *
        by_cases hq0 : q = 0
        · have HX : Hid (wthL v (l.drop (k + 1)) ≠ 0) := by
            show wthL v (l.drop (k + 1)) ≠ 0
            intro h1
            exact HE.out (by rw [HD.out, if_pos hq0, h1])
          subst hq0
          clear HD hq
          go_wp2
          go_roundw
          case rel => exact ⟨k + 1, by omega, by go_num, HX.out, (by have z0 := Below.size hb; (try simp only [World.size_alloc, World.size_setCell, World.size_drew, size_drewN'] at z0 ⊢; skip); repeat' (first | (with_reducible exact Below.refl _ _) | (with_reducible assumption) | (with_reducible refine Below.alloc ?_ ?_ _) | (with_reducible refine Below.drew ?_) | (with_reducible refine below_drewN ?_ _) | (with_reducible refine Below.setCell ?_ ?_ _) | (with_reducible refine Below.trans ?_ (Below.mono (by with_reducible assumption) ?_)) | omega | (simp only [World.size_alloc, World.size_setCell, World.size_drew, size_drewN']; omega) | go_size))⟩
          case measure => simp [intOf]; omega
        · have hne : ((q : Int) != 0) = true := by rw [bne_iff_ne]; omega
          clear HD hq hq0
          go_wp2
          go_returns
          exact ⟨rfl, (by have z0 := Below.size hb; (try simp only [World.size_alloc, World.size_setCell, World.size_drew, size_drewN'] at z0 ⊢; skip); repeat' (first | (with_reducible exact Below.refl _ _) | (with_reducible assumption) | (with_reducible refine Below.alloc ?_ ?_ _) | (with_reducible refine Below.drew ?_) | (with_reducible refine below_drewN ?_ _) | (with_reducible refine Below.setCell ?_ ?_ _) | (with_reducible refine Below.trans ?_ (Below.mono (by with_reducible assumption) ?_)) | omega | (simp only [World.size_alloc, World.size_setCell, World.size_drew, size_drewN']; omega) | go_size))⟩
      · exact absurd (wthL_nil v l k (by omega)) HE.out
end Go.Proofs.Ytedopalmfakeaaa
