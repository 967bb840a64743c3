/- Contracts of functions and lemmas, used by the proofs of the given statements. No condition beyond those that each lemma names. -/
import Derived.Test.YtedopalmfakeaaaCubeC1
namespace Go.Proofs.Ytedopalmfakeaaa
open Go.RowKit
set_option linter.unusedSimpArgs false
set_option linter.unusedVariables false
set_option maxRecDepth 20000
/-! ## Covers and Count of the program -/
theorem count_q {n S q : Nat} {A : Option Addr} {l : List Cn} {nl c : Nat} {w : World} (hp : CntPre n S l) (hl : l.length = nl) (h : RdC w w.heap.size A (l.map zc)) (hq : cnt 24 S (anyN l) = q) :
    Calls Try.prog 80 #[.slice A nl c, .int .i64 (n : Int)] w fun e w' => e = .returned (.int .i64 (q : Int)) ∧ Below w.heap.size w w' := by
  subst hq
  exact count_any n S A l nl c w hp hl h
theorem chkLL_of_ok {m : List Cn} (h : ∀ a ∈ m, okN a) (hl : m.length ≤ 1024) : chkLL (m.map zc) = 0 := by
  unfold chkLL
  rw [if_neg (by simp; omega)]
  exact chkL_of_ok h
theorem popc_T24 : popc 16777215 = 24 := by decide +kernel
theorem inS_T {c : Cn} (h : okN c) : inS 16777215 c := by
  intro i hi
  have hlt : i < 24 := hi.elim (lt24_bit h.1) (lt24_bit h.2.1)
  rw [show (16777215 : Nat) = 2 ^ 24 - 1 from rfl, Nat.testBit_two_pow_sub_one]; simpa using hlt
theorem frT_lt {T : Nat} (h : T < 16777216) (c : Cn) : frT T c < 16777216 := ndiff_lt24 h
set_option maxHeartbeats 2000000 in
theorem covers_ok (A : Option Addr) (l : List Cn) (nl c : Nat) (d : Cn) (w : World) (hl : l.length = nl) (hn : nl ≤ 1024) (hok : ∀ a ∈ l, okN a) (hd : okN d) (h : RdC w w.heap.size A (l.map zc)) :
    Calls Try.prog 36 #[.slice A nl c, cbv (zc d)] w fun e w' => e = .returned (.tuple #[.bool (covB l d), .nilIface]) ∧ Below w.heap.size w w' := by
  subst hl
  have HZ : Hid (chkLL (l.map zc) = 0) := chkLL_of_ok hok (by omega)
  have HL : Hid ((l.map zc).length = l.length) := by show (l.map zc).length = l.length; simp
  have HO := Lib.hid hok
  clear hok
  go_enter Try.func36, Try.ntmps36
  go_wp2_with (first | ((go_at_call 79; (with_reducible refine (ok_case (checkList_any A (l.map zc) l.length c _ HL.out (by omega) (h.on (by (skip); repeat' (first | (with_reducible exact Below.refl _ _) | (with_reducible assumption) | (with_reducible refine Below.alloc ?_ ?_ _) | (with_reducible refine Below.drew ?_) | (with_reducible refine below_drewN ?_ _) | (with_reducible refine Below.setCell ?_ ?_ _) | (with_reducible refine Below.trans ?_ (Below.mono (by with_reducible assumption) ?_)) | omega | (simp only [World.size_alloc, World.size_setCell, World.size_drew, size_drewN']; omega) | go_size)) (by simp))) HZ.out).mono ?_); rintro e w1 ⟨rfl, hb1⟩; have c0 := fun o => below_at hb1 w.heap.size o (by simp); have hb1z := Below.size hb1; simp only [World.size_alloc] at hb1z)) | (go_at_call 22; (with_reducible refine (check_ok d hd _).mono ?_); rintro e w2 ⟨rfl, hb2⟩; have hb2z := Below.size hb2; (try simp only [World.size_alloc, World.size_setCell, World.size_drew] at hb2z); have hb2c0 := fun o => below_at hb2 (w.heap.size) o (by first | omega | (simp only [World.size_alloc, World.size_setCell, World.size_drew]; omega)); have hb2f0 := fun o => below_fr hb2 (w.heap.size) o (by first | omega | (simp only [World.size_alloc, World.size_setCell, World.size_drew]; omega)); have hb2l0 : w.heap.size < (w2).heap.size := (by omega)))
  go_loopw [8, 24] (fun o i wr => ∃ (k : Nat) (A' : Option Addr) (c' : Nat) (m : List Cn), k ≤ l.length ∧ m = reN (l.take k) d ∧ i = .int .i64 k ∧ o = .slice A' m.length c' ∧ OwC wr (w.heap.size + 1) A' c' (m.map zc) ∧ Below w.heap.size w wr ∧ w.heap.size + 1 ≤ wr.heap.size ∧ wr.cell? ⟨w.heap.size, 0, none⟩ = some (.int .i64 (d.1 : Nat)) ∧ wr.cell? ⟨w.heap.size, 1, none⟩ = some (.int .i64 (d.2 : Nat))) (fun _ i _ => l.length - (intOf i).toNat)
  case atStart => exact ⟨0, none, 0, [], Nat.zero_le _, by simp [reN], rfl, rfl, OwC.nil_ _ _, (by have z0 := Below.size hb1; have z1 := Below.size hb2; (try simp only [World.size_alloc, World.size_setCell, World.size_drew, size_drewN'] at z0 z1 ⊢; skip); repeat' (first | (with_reducible exact Below.refl _ _) | (with_reducible assumption) | (with_reducible refine Below.alloc ?_ ?_ _) | (with_reducible refine Below.drew ?_) | (with_reducible refine below_drewN ?_ _) | (with_reducible refine Below.setCell ?_ ?_ _) | (with_reducible refine Below.trans ?_ (Below.mono (by with_reducible assumption) ?_)) | omega | (simp only [World.size_alloc, World.size_setCell, World.size_drew, size_drewN']; omega) | go_size)), by omega, by simp [hb2c0, c0, go_sem], by simp [hb2c0, c0, go_sem]⟩
  case round =>
    obtain ⟨k, A', c', m, hk, hm, rfl, rfl, own, hb, hbz, x1, x2⟩ := hrel
    have hml : m.length ≤ k := by
      have := reN_le (l.take k) d
      rw [hm]; simp at this; omega
    have HM := Lib.hid hm
    clear hm hb1 hb2 c0 hb2c0 hb2f0 hb2l0 hb1z hb2z
    have z0 : w.heap.size < wr.heap.size := by omega
    by_cases hlt : k < l.length
    · obtain ⟨b, off, rfl, hbb, y1, y2⟩ := (h.below hb).at_ (k := k) (c := zc l[k]) (by simp [hlt])
      have HS := Lib.hid (reN_succ l d k hlt)
      have hdk := HO.out l[k] (List.getElem_mem _)
      generalize l[k] = g at *
      by_cases hp : apN g d = true
      · have hnew : Hid (reN (l.take (k + 1)) d = m) := by
          show reN (l.take (k + 1)) d = _
          rw [HS.out, if_pos hp, ← HM.out]; simp
        clear HS HM
        go_wp2_with (go_at_call 75; (with_reducible refine (apart_any g d hdk hd _).mono ?_); rintro e w3 ⟨rfl, hb3⟩; have hb3z := Below.size hb3; (try simp only [World.size_alloc, World.size_setCell, World.size_drew] at hb3z); have hb3c0 := fun o => below_at hb3 (w.heap.size) o (by first | omega | (simp only [World.size_alloc, World.size_setCell, World.size_drew]; omega)); have hb3f0 := fun o => below_fr hb3 (w.heap.size) o (by first | omega | (simp only [World.size_alloc, World.size_setCell, World.size_drew]; omega)); have hb3l0 : w.heap.size < (w3).heap.size := (by omega))
        go_roundw
        case rel => exact ⟨k + 1, A', c', m, by omega, hnew.out.symm, by go_num, rfl, (own.alloc _).below hb3, (by have z0 := Below.size hb; have z1 := Below.size hb3; (try simp only [World.size_alloc, World.size_setCell, World.size_drew, size_drewN'] at z0 z1 ⊢; skip); repeat' (first | (with_reducible exact Below.refl _ _) | (with_reducible assumption) | (with_reducible refine Below.alloc ?_ ?_ _) | (with_reducible refine Below.drew ?_) | (with_reducible refine below_drewN ?_ _) | (with_reducible refine Below.setCell ?_ ?_ _) | (with_reducible refine Below.trans ?_ (Below.mono (by with_reducible assumption) ?_)) | omega | (simp only [World.size_alloc, World.size_setCell, World.size_drew, size_drewN']; omega) | go_size)), by omega, by simp [hb3c0, go_sem, z0, x1], by simp [hb3c0, go_sem, z0, x2]⟩
        case measure => simp [intOf]; omega
      · have hp' : apN g d = false := by simpa using hp
        have e1 := i64_andNot g.1 d.1 (by have := hdk.1; omega) (by have := hd.1; omega)
        have e2 := i64_andNot g.2 d.2 (by have := hdk.2.1; omega) (by have := hd.2.1; omega)
        have hnew : Hid (reN (l.take (k + 1)) d = m ++ [(ndiff g.1 d.1, ndiff g.2 d.2)]) := by
          show reN (l.take (k + 1)) d = _
          rw [HS.out, if_neg hp, ← HM.out]
        clear HS HM hp
        generalize ndiff g.1 d.1 = x at *
        generalize ndiff g.2 d.2 = y at *
        go_wp2_with (first | (go_at_call 75; (with_reducible refine (apart_any g d hdk hd _).mono ?_); rintro e w3 ⟨rfl, hb3⟩; have hb3z := Below.size hb3; (try simp only [World.size_alloc, World.size_setCell, World.size_drew] at hb3z); have hb3c0 := fun o => below_at hb3 (w.heap.size) o (by first | omega | (simp only [World.size_alloc, World.size_setCell, World.size_drew]; omega)); have hb3f0 := fun o => below_fr hb3 (w.heap.size) o (by first | omega | (simp only [World.size_alloc, World.size_setCell, World.size_drew]; omega)); have hb3l0 : w.heap.size < (w3).heap.size := (by omega); have hb3c1 := fun o => below_at hb3 (wr.heap.size) o (by first | omega | (simp only [World.size_alloc, World.size_setCell, World.size_drew]; omega)); have hb3f1 := fun o => below_fr hb3 (wr.heap.size) o (by first | omega | (simp only [World.size_alloc, World.size_setCell, World.size_drew]; omega)); have hb3l1 : wr.heap.size < (w3).heap.size := (by omega)) | (at_builtin; refine wpList_appC1 rfl (.tmp 32) (.tmp 44) rfl (w.heap.size + 1) A' c' (m.map zc) (by simp [Act.eval]) (((own.alloc _).below hb3).alloc _) (zc (x, y)) w3.heap.size rfl (by simp [go_sem]) (by simp [go_sem]) (by simp; omega) (by simp; omega) ?_; intro A2 c2 w4 own4 hb4 hg4))
        have q := fun o => below_at hb4 w.heap.size o (by omega)
        go_roundw
        case rel => exact ⟨k + 1, A2, c2, m ++ [(x, y)], by omega, hnew.out.symm, by go_num, by simp, by simpa using own4, (by have z0 := Below.size hb; have z1 := Below.size hb3; have z2 := Below.size hb4; (try simp only [World.size_alloc, World.size_setCell, World.size_drew, size_drewN'] at z0 z1 z2 ⊢; skip); repeat' (first | (with_reducible exact Below.refl _ _) | (with_reducible assumption) | (with_reducible refine Below.alloc ?_ ?_ _) | (with_reducible refine Below.drew ?_) | (with_reducible refine below_drewN ?_ _) | (with_reducible refine Below.setCell ?_ ?_ _) | (with_reducible refine Below.trans ?_ (Below.mono (by with_reducible assumption) ?_)) | omega | (simp only [World.size_alloc, World.size_setCell, World.size_drew, size_drewN']; omega) | go_size)), by have := hb4.size; simp at this; omega, by simp [q, hb3c0, go_sem, z0, x1, hb3l0], by simp [q, hb3c0, go_sem, z0, x2, hb3l0]⟩
        case measure => simp [intOf]; omega
    · have hrest : reN l d = m := by rw [HM.out, List.take_of_length_le (by omega)]
      have hx24 := or_lt24 hd.1 hd.2.1
      have e1 := i64_or d.1 d.2 (by have := hd.1; omega) (by have := hd.2.1; omega)
      have hpo : popc (d.1 ||| d.2) = popc d.1 + popc d.2 := popc_or (fun i => tb0 hd.2.2 i) 24
      have hpf := popc_fr hd (inS_T hd)
      rw [popc_T24] at hpf
      have hP : CntPre (popc (frT 16777215 d)) (frT 16777215 d) m := ⟨rfl, frT_lt (by omega) d, by rw [← hrest]; exact reN_ok HO.out, by rw [← hrest]; exact reN_inS HO.out, by omega⟩
      have hcv : covB l d = (cnt 24 (frT 16777215 d) (anyN m) == 2 ^ popc (frT 16777215 d)) := by
        unfold covB
        rw [← cnt_reN hd, hrest]
      generalize hf : popc (frT 16777215 d) = f at *
      have hf2 : (24 : Int) - ((popc (d.1 ||| d.2) : Nat) : Int) = (f : Int) := by omega
      have hf24 : f ≤ 24 := by omega
      have s1 := shl_eq (k := f) (by omega)
      have HP := Lib.hid hP
      have HC := Lib.hid hcv
      have hpl := popc_le (d.1 ||| d.2)
      clear hP hcv hf hpf hpo HM
      generalize d.1 ||| d.2 = x at *
      generalize hq : cnt 24 (frT 16777215 d) (anyN m) = q at *
      have HQ := Lib.hid hq
      clear hq hrest
      go_wp2_with (go_at_call 76; (with_reducible refine (oc_any x hx24 _).mono ?_); rintro e _ ⟨rfl, rfl⟩)
      have hsh : IntKind.i64.wrap ((2 : Int) ^ f) = ((2 ^ f : Nat) : Int) := by
        have := Nat.pow_le_pow_right (n := 2) (by omega) hf24
        rw [show (2 : Int) ^ f = ((2 ^ f : Nat) : Int) from by simp]
        generalize 2 ^ f = p at *
        rw [IntKind.wrap_i64]; omega
      have hcmp : Hid (((q : Int) == ((2 ^ f : Nat) : Int)) = covB l d) := by show _ = _; rw [HC.out, nat_eqn]
      clear HC
      generalize 2 ^ f = p at *
      ((refine wp_region_quiet_bel (by kernel_rfl) (by kernel_rfl) ?_); (repeat (go_big_quiet_step ((go_at_call 80; with_reducible exact Calls.quiet_bel (count_q HP.out rfl (own.rd.on (Sub.bel _) (Sub.bel _).size) HQ.out))))); (refine wpQuiet_nil ?_); rintro w5 ⟨⟨_, hb5⟩, rfl⟩; (try dsimp only))
      go_wp2
      go_returns
      exact ⟨by rw [← hcmp.out]; rfl, (by have z0 := Below.size hb; have z1 := Below.size hb5; (try simp only [World.size_alloc, World.size_setCell, World.size_drew, size_drewN'] at z0 z1 ⊢; skip); repeat' (first | (with_reducible exact Below.refl _ _) | (with_reducible assumption) | (with_reducible refine Below.alloc ?_ ?_ _) | (with_reducible refine Below.drew ?_) | (with_reducible refine below_drewN ?_ _) | (with_reducible refine Below.setCell ?_ ?_ _) | (with_reducible refine Below.trans ?_ (Below.mono (by with_reducible assumption) ?_)) | omega | (simp only [World.size_alloc, World.size_setCell, World.size_drew, size_drewN']; omega) | go_size))⟩
end Go.Proofs.Ytedopalmfakeaaa
