/- Contracts of functions and lemmas, used by the proofs of the given statements. No condition beyond those that each lemma names. -/
import Derived.Test.YtedopalmfakeaaaCubeDef
namespace Go.Proofs.Ytedopalmfakeaaa
open Go.RowKit
set_option linter.unusedSimpArgs false
set_option linter.unusedVariables false

theorem mask_any (n : Int) (w : World) : Calls Try.prog 71 #[.int .i64 n] w fun e w' => e = .returned (.bool (maskB n)) ∧ w = w' := by
  by_cases h0 : 0 ≤ n
  · by_cases h1 : n < 16777216
    · rw [maskB_t h0 h1]
      go_enter Try.func71, Try.ntmps71
      go_wp2
      go_ret
      exact ⟨rfl, rfl⟩
    · rw [maskB_f (by omega)]
      go_enter Try.func71, Try.ntmps71
      go_wp2
      go_ret
      exact ⟨rfl, rfl⟩
  · rw [maskB_f (by omega)]
    go_enter Try.func71, Try.ntmps71
    go_wp2
    go_ret
    exact ⟨rfl, rfl⟩
theorem refMask_any (n : Int) (w : World) : Calls Try.prog 23 #[.int .i64 n] w fun e w' => e = .returned (.bool (maskB n)) ∧ w = w' := by
  by_cases h0 : 0 ≤ n
  · by_cases h1 : n < 16777216
    · rw [maskB_t h0 h1]
      have h2 : n ≤ 16777215 := by omega
      go_enter Try.func23, Try.ntmps23
      go_wp2
      go_ret
      exact ⟨rfl, rfl⟩
    · rw [maskB_f (by omega)]
      have h2 : ¬ n ≤ 16777215 := by omega
      go_enter Try.func23, Try.ntmps23
      go_wp2
      go_ret
      exact ⟨rfl, rfl⟩
  · rw [maskB_f (by omega)]
    go_enter Try.func23, Try.ntmps23
    go_wp2
    go_ret
    exact ⟨rfl, rfl⟩
theorem check_any (c : Cb) (w : World) : Calls Try.prog 22 #[cbv c] w fun e w' => e = .returned (err (chk c)) ∧ Below w.heap.size w w' := by
  obtain ⟨y, n⟩ := c
  show Calls _ _ #[.agg #[.int .i64 y, .int .i64 n]] w _
  go_enter Try.func22, Try.ntmps22
  go_wp2_with (go_at_call 71; refine (mask_any _ _).mono ?_; rintro e w' ⟨rfl, rfl⟩)
  all_goals
    go_ret
    exact ⟨by simp_all [err, chk], (by (skip); repeat' (first | (with_reducible exact Below.refl _ _) | (with_reducible assumption) | (with_reducible refine Below.alloc ?_ ?_ _) | (with_reducible refine Below.drew ?_) | (with_reducible refine below_drewN ?_ _) | (with_reducible refine Below.setCell ?_ ?_ _) | (with_reducible refine Below.trans ?_ (Below.mono (by with_reducible assumption) ?_)) | omega | (simp only [World.size_alloc, World.size_setCell, World.size_drew, size_drewN']; omega) | go_size))⟩
theorem refCheck_any (c : Cb) (w : World) : Calls Try.prog 19 #[cbv c] w fun e w' => e = .returned (.int .i64 (chk c)) ∧ Below w.heap.size w w' := by
  obtain ⟨y, n⟩ := c
  show Calls _ _ #[.agg #[.int .i64 y, .int .i64 n]] w _
  go_enter Try.func19, Try.ntmps19
  go_wp2_with (go_at_call 23; refine (refMask_any _ _).mono ?_; rintro e w' ⟨rfl, rfl⟩)
  all_goals
    go_ret
    exact ⟨by simp_all [err, chk], (by (skip); repeat' (first | (with_reducible exact Below.refl _ _) | (with_reducible assumption) | (with_reducible refine Below.alloc ?_ ?_ _) | (with_reducible refine Below.drew ?_) | (with_reducible refine below_drewN ?_ _) | (with_reducible refine Below.setCell ?_ ?_ _) | (with_reducible refine Below.trans ?_ (Below.mono (by with_reducible assumption) ?_)) | omega | (simp only [World.size_alloc, World.size_setCell, World.size_drew, size_drewN']; omega) | go_size))⟩
theorem num_0 (w : World) : Calls Try.prog 21 #[.nilIface] w fun e w' => e = .returned (.int .i64 0) ∧ w = w' := by
  go_enter Try.func21, Try.ntmps21
  go_wp2
  go_ret
  exact ⟨rfl, rfl⟩
theorem num_n (n : Int) (w : World) : Calls Try.prog 21 #[.iface 58 (.int .i64 n)] w fun e w' => e = .returned (.int .i64 n) ∧ w = w' := by
  have hta : ∀ (x : Value) (w : World), (Instr.typeAssert (.iface 58 x) 27 58 true).run Try.prog w = .ok (.tuple #[x, .bool true]) w := fun _ _ => by kernel_rfl
  go_enter Try.func21, Try.ntmps21
  go_wp2
  go_ret
  exact ⟨rfl, rfl⟩
set_option maxHeartbeats 400000 in
theorem checkAll_any (A : Option Addr) (l : List Cb) (n c : Nat) (w : World) (hl : l.length = n) (hn : n ≤ 9223372036854775807) (h : RdC w w.heap.size A l) :
    Calls Try.prog 72 #[.slice A n c] w fun e w' => e = .returned (err (chkL l)) ∧ Below w.heap.size w w' := by
  have H := hl; subst H
  go_enter Try.func72, Try.ntmps72
  go_wp2
  go_loopw [8] (fun i wr => ∃ k : Nat, k ≤ l.length ∧ i = .int .i64 k ∧ chkL l = chkL (l.drop k) ∧ Below w.heap.size w wr) (fun i _ => l.length - (intOf i).toNat)
  case atStart => exact ⟨0, Nat.zero_le _, rfl, rfl, Below.refl _ _⟩
  case round =>
    obtain ⟨k, hk, rfl, heq, hb⟩ := hrel
    have HE := Lib.hid heq
    clear heq
    by_cases hlt : k < l.length
    · obtain ⟨b, off, rfl, hbb, c0, c1⟩ := (h.below hb).at_ (List.getElem?_eq_getElem hlt)
      have HD := Lib.hid (chkL_drop l k hlt)
      obtain ⟨c, hcE⟩ : ∃ c, c = l[k] := ⟨_, rfl⟩
      rw [← hcE] at c0 c1 HD
      clear hcE
      by_cases hc : chk c = 0
      · have hE := err_0 hc
        have HC := Lib.hid hc
        clear hc
        go_wp2_with (go_at_call 22; (with_reducible refine (check_any c _).mono ?_); rintro e w1 ⟨rfl, hb1⟩)
        go_roundw
        case rel => exact ⟨k+1, by omega, by go_num, by rw [HE.out, HD.out, if_pos HC.out], (by have z0 := Below.size hb; have z1 := Below.size hb1; (try simp only [World.size_alloc, World.size_setCell, World.size_drew, size_drewN'] at z0 z1 ⊢; skip); repeat' (first | (with_reducible exact Below.refl _ _) | (with_reducible assumption) | (with_reducible refine Below.alloc ?_ ?_ _) | (with_reducible refine Below.drew ?_) | (with_reducible refine below_drewN ?_ _) | (with_reducible refine Below.setCell ?_ ?_ _) | (with_reducible refine Below.trans ?_ (Below.mono (by with_reducible assumption) ?_)) | omega | (simp only [World.size_alloc, World.size_setCell, World.size_drew, size_drewN']; omega) | go_size))⟩
        case measure => simp [intOf]; omega
      · have hE := err_n hc
        have HC := Lib.hid hc
        clear hc
        go_wp2_with (go_at_call 22; (with_reducible refine (check_any c _).mono ?_); rintro e w1 ⟨rfl, hb1⟩)
        go_ret
        exact ⟨by rw [HE.out, HD.out, if_neg HC.out]; simp [hE], (by have z0 := Below.size hb; have z1 := Below.size hb1; (try simp only [World.size_alloc, World.size_setCell, World.size_drew, size_drewN'] at z0 z1 ⊢; skip); repeat' (first | (with_reducible exact Below.refl _ _) | (with_reducible assumption) | (with_reducible refine Below.alloc ?_ ?_ _) | (with_reducible refine Below.drew ?_) | (with_reducible refine below_drewN ?_ _) | (with_reducible refine Below.setCell ?_ ?_ _) | (with_reducible refine Below.trans ?_ (Below.mono (by with_reducible assumption) ?_)) | omega | (simp only [World.size_alloc, World.size_setCell, World.size_drew, size_drewN']; omega) | go_size))⟩
    · have HH := Lib.hid (chkL_nil l k (by omega))
      go_wp2
      go_ret
      exact ⟨by rw [HE.out, HH.out]; rfl, hb⟩
theorem checkList_any (A : Option Addr) (l : List Cb) (n c : Nat) (w : World) (hl : l.length = n) (hn : n ≤ 9223372036854775807) (h : RdC w w.heap.size A l) :
    Calls Try.prog 79 #[.slice A n c] w fun e w' => e = .returned (err (chkLL l)) ∧ Below w.heap.size w w' := by
  have HL := Lib.hid hl
  clear hl
  by_cases h4 : 1024 < n
  · go_enter Try.func79, Try.ntmps79
    go_wp2
    go_ret
    exact ⟨by rw [chkLL, if_pos (by rw [HL.out]; exact h4)]; rfl, Below.refl _ _⟩
  · go_enter Try.func79, Try.ntmps79
    go_wp2_with (go_at_call 72; (with_reducible refine (checkAll_any A l n c _ HL.out hn h).mono ?_); rintro e w1 ⟨rfl, hb1⟩)
    go_ret
    exact ⟨by rw [chkLL, if_neg (by rw [HL.out]; exact h4)]; rfl, hb1⟩
abbrev erV (n : Int) : Value := .iface 58 (.int .i64 n)
theorem ok_case {P : Program} {f : FuncId} {args : Array Value} {w : World} {n : Int} {R : World → Prop} (h : Calls P f args w fun e w' => e = .returned (err n) ∧ R w') (h0 : n = 0) : Calls P f args w fun e w' => e = .returned .nilIface ∧ R w' :=
  h.mono fun e w' ⟨he, hr⟩ => ⟨by rw [he, err_0 h0], hr⟩
theorem no_case {P : Program} {f : FuncId} {args : Array Value} {w : World} {n : Int} {R : World → Prop} (h : Calls P f args w fun e w' => e = .returned (err n) ∧ R w') (h0 : n ≠ 0) : Calls P f args w fun e w' => e = .returned (erV n) ∧ R w' :=
  h.mono fun e w' ⟨he, hr⟩ => ⟨by rw [he, err_n h0], hr⟩
end Go.Proofs.Ytedopalmfakeaaa
