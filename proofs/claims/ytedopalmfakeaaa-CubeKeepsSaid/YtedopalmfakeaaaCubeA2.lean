/- Contracts of functions and lemmas, used by the proofs of the given statements. No condition beyond those that each lemma names. -/
import Derived.Test.YtedopalmfakeaaaCubeA1
import Derived.Test.YtedopalmfakeaaaCubeC8
namespace Go.Proofs.Ytedopalmfakeaaa
open Go.RowKit
set_option linter.unusedSimpArgs false
set_option linter.unusedVariables false
set_option maxRecDepth 20000
attribute [local irreducible] pop popc
/-! ## the reference's Before; Disjoint of both -/
set_option maxHeartbeats 1000000 in
theorem before_any (a b : Cn) (ha : okN a) (hb : okN b) (w : World) : Calls Try.prog 116 #[cbv (zc a), cbv (zc b)] w fun e w' => e = .returned (.bool (ltN a b)) ∧ Below w.heap.size w w' := by
  have K1 := Lib.hid (size_any a ha)
  have K2 := Lib.hid (size_any b hb)
  have HL : Hid (ltN a b = decide (szN a < szN b ∨ szN a = szN b ∧ (a.1 < b.1 ∨ a.1 = b.1 ∧ a.2 < b.2))) := rfl
  change Hid (∀ W, Calls Try.prog 45 #[cbv (zc a)] W fun e w' => e = .returned (.int .i64 ((szN a : Nat) : Int)) ∧ Below W.heap.size W w') at K1
  change Hid (∀ W, Calls Try.prog 45 #[cbv (zc b)] W fun e w' => e = .returned (.int .i64 ((szN b : Nat) : Int)) ∧ Below W.heap.size W w') at K2
  obtain ⟨a1, a2⟩ := a
  obtain ⟨b1, b2⟩ := b
  simp only at HL
  generalize szN (a1, a2) = s1 at *
  generalize szN (b1, b2) = s2 at *
  go_enter Try.func116, Try.ntmps116
  go_wp2
  have f1 := fun y : Sub ((w.alloc (.cells #[.int .i64 (a1 : Int), .int .i64 (a2 : Int)] 23)).alloc (.cells #[.int .i64 (b1 : Int), .int .i64 (b2 : Int)] 23)) => y.cell (b := w.heap.size) (o := 0) (u := .int .i64 (a1 : Int)) (by simp [go_sem])
  have f2 := fun y : Sub ((w.alloc (.cells #[.int .i64 (a1 : Int), .int .i64 (a2 : Int)] 23)).alloc (.cells #[.int .i64 (b1 : Int), .int .i64 (b2 : Int)] 23)) => y.cell (b := w.heap.size) (o := 1) (u := .int .i64 (a2 : Int)) (by simp [go_sem])
  have f3 := fun y : Sub ((w.alloc (.cells #[.int .i64 (a1 : Int), .int .i64 (a2 : Int)] 23)).alloc (.cells #[.int .i64 (b1 : Int), .int .i64 (b2 : Int)] 23)) => y.cell (b := w.heap.size + 1) (o := 0) (u := .int .i64 (b1 : Int)) (by simp [go_sem])
  have f4 := fun y : Sub ((w.alloc (.cells #[.int .i64 (a1 : Int), .int .i64 (a2 : Int)] 23)).alloc (.cells #[.int .i64 (b1 : Int), .int .i64 (b2 : Int)] 23)) => y.cell (b := w.heap.size + 1) (o := 1) (u := .int .i64 (b2 : Int)) (by simp [go_sem])
  ((refine wp_region_quiet_bel (by kernel_rfl) (by kernel_rfl) ?_); (repeat (go_big_quiet_step (first | (go_at_call 45; with_reducible exact Calls.quiet_bel (K1.out _)) | (go_at_call 45; with_reducible exact Calls.quiet_bel (K2.out _))))); (refine wpQuiet_nil ?_); rintro w5 ⟨⟨_, hb5⟩, rfl⟩; (try dsimp only))
  have hb5z := hb5.size
  simp only [World.size_alloc] at hb5z
  have x1 : w5.cell? ⟨w.heap.size, 0, none⟩ = some (.int .i64 (a1 : Int)) := (below_at hb5 w.heap.size 0 (by simp; omega)).trans (by simp [go_sem])
  have x2 : w5.cell? ⟨w.heap.size, 1, none⟩ = some (.int .i64 (a2 : Int)) := (below_at hb5 w.heap.size 1 (by simp; omega)).trans (by simp [go_sem])
  have x3 : w5.cell? ⟨w.heap.size + 1, 0, none⟩ = some (.int .i64 (b1 : Int)) := (below_at hb5 (w.heap.size + 1) 0 (by simp)).trans (by simp [go_sem])
  have x4 : w5.cell? ⟨w.heap.size + 1, 1, none⟩ = some (.int .i64 (b2 : Int)) := (below_at hb5 (w.heap.size + 1) 1 (by simp)).trans (by simp [go_sem])
  clear f1 f2 f3 f4
  by_cases hs : s1 = s2
  · subst hs
    have e0 : ((s1 : Int) != (s1 : Int)) = false := by simp
    by_cases h1 : a1 = b1
    · subst h1
      have e1 : ((a1 : Int) != (a1 : Int)) = false := by simp
      have HV : Hid (ltN (a1, a2) (a1, b2) = decide (a2 < b2)) := by show _ = _; rw [HL.out]; simp
      clear HL
      go_wp2
      go_ret
      exact ⟨by rw [HV.out]; rfl, (by have z0 := Below.size hb5; (try simp only [World.size_alloc, World.size_setCell, World.size_drew, size_drewN'] at z0 ⊢; skip); repeat' (first | (with_reducible exact Below.refl _ _) | (with_reducible assumption) | (with_reducible refine Below.alloc ?_ ?_ _) | (with_reducible refine Below.drew ?_) | (with_reducible refine below_drewN ?_ _) | (with_reducible refine Below.setCell ?_ ?_ _) | (with_reducible refine Below.trans ?_ (Below.mono (by with_reducible assumption) ?_)) | omega | (simp only [World.size_alloc, World.size_setCell, World.size_drew, size_drewN']; omega) | go_size))⟩
    · have e1 : ((a1 : Int) != (b1 : Int)) = true := by simp; omega
      have HV : Hid (ltN (a1, a2) (b1, b2) = decide (a1 < b1)) := by show _ = _; rw [HL.out]; simp [h1]
      clear HL
      go_wp2
      go_ret
      exact ⟨by rw [HV.out]; rfl, (by have z0 := Below.size hb5; (try simp only [World.size_alloc, World.size_setCell, World.size_drew, size_drewN'] at z0 ⊢; skip); repeat' (first | (with_reducible exact Below.refl _ _) | (with_reducible assumption) | (with_reducible refine Below.alloc ?_ ?_ _) | (with_reducible refine Below.drew ?_) | (with_reducible refine below_drewN ?_ _) | (with_reducible refine Below.setCell ?_ ?_ _) | (with_reducible refine Below.trans ?_ (Below.mono (by with_reducible assumption) ?_)) | omega | (simp only [World.size_alloc, World.size_setCell, World.size_drew, size_drewN']; omega) | go_size))⟩
  · have e0 : ((s1 : Int) != (s2 : Int)) = true := by simp; omega
    have HV : Hid (ltN (a1, a2) (b1, b2) = decide (s1 < s2)) := by show _ = _; rw [HL.out]; simp [hs]
    clear HL
    go_wp2
    have g1 := fun y : Sub w5 => y.cell x1
    have g2 := fun y : Sub w5 => y.cell x2
    have g3 := fun y : Sub w5 => y.cell x3
    have g4 := fun y : Sub w5 => y.cell x4
    ((refine wp_region_quiet_bel (by kernel_rfl) (by kernel_rfl) ?_); (repeat (go_big_quiet_step (first | (go_at_call 45; with_reducible exact Calls.quiet_bel (K1.out _)) | (go_at_call 45; with_reducible exact Calls.quiet_bel (K2.out _))))); (refine wpQuiet_nil ?_); rintro w6 ⟨⟨_, hb6⟩, rfl⟩; (try dsimp only))
    go_wp2
    go_ret
    exact ⟨by rw [HV.out]; rfl, (by have z0 := Below.size hb5; have z1 := Below.size hb6; (try simp only [World.size_alloc, World.size_setCell, World.size_drew, size_drewN'] at z0 z1 ⊢; skip); repeat' (first | (with_reducible exact Below.refl _ _) | (with_reducible assumption) | (with_reducible refine Below.alloc ?_ ?_ _) | (with_reducible refine Below.drew ?_) | (with_reducible refine below_drewN ?_ _) | (with_reducible refine Below.setCell ?_ ?_ _) | (with_reducible refine Below.trans ?_ (Below.mono (by with_reducible assumption) ?_)) | omega | (simp only [World.size_alloc, World.size_setCell, World.size_drew, size_drewN']; omega) | go_size))⟩
/-- no two cubes have a common state -/
def djN (l : List Cn) (n : Nat) : Prop := ∀ i k (hi : i < l.length) (hk : k < i), i < n → apN l[i] (l[k]'(by omega)) = true
def djR (l : List Cn) (i : Nat) (hi : i < l.length) (n : Nat) : Prop := ∀ k (hk : k < i), k < n → apN l[i] (l[k]'(by omega)) = true
theorem djN_succ {l : List Cn} {n : Nat} (hn : n < l.length) (h : djN l n) (hr : djR l n hn n) : djN l (n + 1) := fun i k hi hk hin => by
  rcases Nat.lt_or_ge i n with h1 | h1
  · exact h i k hi hk h1
  · have : i = n := by omega
    subst this
    exact hr k hk hk
set_option maxHeartbeats 2000000 in
theorem disj_any (A : Option Addr) (l : List Cn) (nl c : Nat) (w : World) (hl : l.length = nl) (hn : nl ≤ 1024) (hcap : nl ≤ c) (hok : ∀ a ∈ l, okN a) (h : RdC w w.heap.size A (l.map zc)) :
    Calls Try.prog 46 #[.slice A nl c] w fun e w' => (∃ b, e = .returned (.tuple #[.bool b, .nilIface]) ∧ (b = true ↔ djN l l.length)) ∧ Below w.heap.size w w' := by
  subst hl
  have HZ : Hid (chkLL (l.map zc) = 0) := chkLL_of_ok hok (by omega)
  have HL : Hid ((l.map zc).length = l.length) := by show (l.map zc).length = l.length; simp
  have HO := Lib.hid hok
  clear hok
  go_enter Try.func46, Try.ntmps46
  go_wp2_with ((go_at_call 79; (with_reducible refine (ok_case (checkList_any A (l.map zc) l.length c _ HL.out (by omega) h) HZ.out).mono ?_); rintro e w1 ⟨rfl, hb1⟩))
  go_loopw [16] (fun i wr => ∃ k : Nat, k ≤ l.length ∧ i = .int .i64 k ∧ djN l k ∧ Below w.heap.size w wr) (fun i _ => l.length - (intOf i).toNat)
  case atStart => exact ⟨0, Nat.zero_le _, rfl, fun i k hi hk h0 => by omega, hb1⟩
  case round =>
    obtain ⟨k, hk, rfl, hdj, hb⟩ := hrel
    have HD := Lib.hid hdj
    clear hdj hb1
    have hbz := hb.size
    obtain ⟨wo, rfl⟩ : ∃ wo : World, wo = wr := ⟨_, rfl⟩
    by_cases hlt : k < l.length
    · have hA := (h.below hb).at_ (k := k) (c := zc l[k]) (by simp [hlt])
      obtain ⟨b, off, rfl, hbb, y1, y2⟩ := hA
      have hdk := HO.out l[k] (List.getElem_mem _)
      obtain ⟨g, hg⟩ : ∃ g, g = l[k] := ⟨_, rfl⟩
      rw [← hg] at y1 y2 hdk
      have HG := Lib.hid hg
      clear hg
      go_wp2
      go_loopw [25] (fun j w2 => ∃ jj : Nat, jj ≤ k ∧ j = .int .i64 jj ∧ djR l k hlt jj ∧ Below wo.heap.size wo w2 ∧ wo.heap.size < w2.heap.size ∧ w2.cell? ⟨wo.heap.size, 0, none⟩ = some (.int .i64 (g.1 : Int)) ∧ w2.cell? ⟨wo.heap.size, 1, none⟩ = some (.int .i64 (g.2 : Int))) (fun j _ => k - (intOf j).toNat)
      case atStart => exact ⟨0, Nat.zero_le _, rfl, fun k hk h0 => by omega, (by (skip); repeat' (first | (with_reducible exact Below.refl _ _) | (with_reducible assumption) | (with_reducible refine Below.alloc ?_ ?_ _) | (with_reducible refine Below.drew ?_) | (with_reducible refine below_drewN ?_ _) | (with_reducible refine Below.setCell ?_ ?_ _) | (with_reducible refine Below.trans ?_ (Below.mono (by with_reducible assumption) ?_)) | omega | (simp only [World.size_alloc, World.size_setCell, World.size_drew, size_drewN']; omega) | go_size)), by simp, by simp [go_sem], by simp [go_sem]⟩
      case round =>
        obtain ⟨jj, hj, rfl, hr, hb2, hz2, x1, x2⟩ := hrel
        have HR := Lib.hid hr
        clear hr y1 y2
        have hbt := hb.trans (hb2.mono hbz)
        obtain ⟨wt, rfl⟩ : ∃ wt : World, wt = wr := ⟨_, rfl⟩
        by_cases hjk : jj < k
        · obtain ⟨z1, z2⟩ := (h.below hbt).cells (k := jj) (c := zc (l[jj]'(by omega))) (by simp [show jj < l.length by omega])
          have hd := HO.out (l[jj]'(by omega)) (List.getElem_mem _)
          obtain ⟨d, hd0⟩ : ∃ d, d = l[jj]'(by omega) := ⟨_, rfl⟩
          rw [← hd0] at z1 z2 hd
          have HD0 := Lib.hid hd0
          clear hd0
          by_cases hp : apN g d = true
          · have K := apart_any g d hdk hd
            rw [hp] at K
            have HR' : Hid (djR l k hlt (jj + 1)) := fun k' hk' h1 => by
              rcases Nat.lt_or_ge k' jj with h2 | h2
              · exact HR.out k' hk' h2
              · have : k' = jj := by omega
                subst this
                rw [← HG.out, ← HD0.out]; exact hp
            clear hp HR
            go_wp2_with (go_at_call 75; (with_reducible refine (K _).mono ?_); rintro e w3 ⟨rfl, hb3⟩; have hb3z := Below.size hb3; (try simp only [World.size_alloc, World.size_setCell, World.size_drew] at hb3z); have hb3c0 := fun o => below_at hb3 (wo.heap.size) o (by first | omega | (simp only [World.size_alloc, World.size_setCell, World.size_drew]; omega)); have hb3f0 := fun o => below_fr hb3 (wo.heap.size) o (by first | omega | (simp only [World.size_alloc, World.size_setCell, World.size_drew]; omega)); have hb3l0 : wo.heap.size < (w3).heap.size := (by omega))
            go_roundw
            case rel => exact ⟨jj + 1, by omega, by go_num, HR'.out, (by have z0 := Below.size hb2; have z1 := Below.size hb3; (try simp only [World.size_alloc, World.size_setCell, World.size_drew, size_drewN'] at z0 z1 ⊢; skip); repeat' (first | (with_reducible exact Below.refl _ _) | (with_reducible assumption) | (with_reducible refine Below.alloc ?_ ?_ _) | (with_reducible refine Below.drew ?_) | (with_reducible refine below_drewN ?_ _) | (with_reducible refine Below.setCell ?_ ?_ _) | (with_reducible refine Below.trans ?_ (Below.mono (by with_reducible assumption) ?_)) | omega | (simp only [World.size_alloc, World.size_setCell, World.size_drew, size_drewN']; omega) | go_size)), by omega, by simp [hb3c0, go_sem, hz2, x1], by simp [hb3c0, go_sem, hz2, x2]⟩
            case measure => simp [intOf]; omega
          · have hp' : apN g d = false := by simpa using hp
            have K := apart_any g d hdk hd
            rw [hp'] at K
            have HN : Hid (¬ djN l l.length) := fun h1 => by
              have := h1 k jj hlt hjk hlt
              rw [← HG.out, ← HD0.out, hp'] at this
              cases this
            clear hp hp' HR
            go_wp2_with (go_at_call 75; (with_reducible refine (K _).mono ?_); rintro e w3 ⟨rfl, hb3⟩; have hb3z := Below.size hb3; (try simp only [World.size_alloc, World.size_setCell, World.size_drew] at hb3z); have hb3c0 := fun o => below_at hb3 (wo.heap.size) o (by first | omega | (simp only [World.size_alloc, World.size_setCell, World.size_drew]; omega)); have hb3f0 := fun o => below_fr hb3 (wo.heap.size) o (by first | omega | (simp only [World.size_alloc, World.size_setCell, World.size_drew]; omega)); have hb3l0 : wo.heap.size < (w3).heap.size := (by omega))
            go_returns
            exact ⟨⟨false, rfl, ⟨fun h => (by cases h), fun h => absurd h HN.out⟩⟩, (by have z0 := Below.size hb; have z1 := Below.size hb2; have z2 := Below.size hb3; (try simp only [World.size_alloc, World.size_setCell, World.size_drew, size_drewN'] at z0 z1 z2 ⊢; skip); repeat' (first | (with_reducible exact Below.refl _ _) | (with_reducible assumption) | (with_reducible refine Below.alloc ?_ ?_ _) | (with_reducible refine Below.drew ?_) | (with_reducible refine below_drewN ?_ _) | (with_reducible refine Below.setCell ?_ ?_ _) | (with_reducible refine Below.trans ?_ (Below.mono (by with_reducible assumption) ?_)) | omega | (simp only [World.size_alloc, World.size_setCell, World.size_drew, size_drewN']; omega) | go_size))⟩
        · have HD' : Hid (djN l (k + 1)) := djN_succ hlt HD.out fun k' hk' _ => HR.out k' hk' (by omega)
          clear HD HR
          go_wp2
          go_roundw
          case rel => exact ⟨k + 1, by omega, by go_num, HD'.out, hbt⟩
          case measure => simp [intOf]; omega
    · go_wp2
      go_returns
      exact ⟨⟨true, rfl, ⟨fun _ i k' hi hk' h1 => HD.out i k' hi hk' (by omega), fun _ => rfl⟩⟩, hb⟩
set_option maxHeartbeats 2000000 in
theorem rdisj_any (A : Option Addr) (l : List Cn) (nl c : Nat) (w : World) (hl : l.length = nl) (hn : nl ≤ 1024) (hok : ∀ a ∈ l, okN a) (h : RdC w w.heap.size A (l.map zc)) :
    Calls Try.prog 49 #[.slice A nl c] w fun e w' => (∃ b, e = .returned (.bool b) ∧ (b = true ↔ djN l l.length)) ∧ Below w.heap.size w w' := by
  subst hl
  have HO := Lib.hid hok
  clear hok
  go_enter Try.func49, Try.ntmps49
  go_wp2
  go_loopw [3] (fun i wr => ∃ k : Nat, k ≤ l.length ∧ i = .int .i64 k ∧ djN l k ∧ Below w.heap.size w wr) (fun i _ => l.length - (intOf i).toNat)
  case atStart => exact ⟨0, Nat.zero_le _, rfl, fun i k hi hk h0 => by omega, Below.refl _ _⟩
  case round =>
    obtain ⟨k, hk, rfl, hdj, hb⟩ := hrel
    have HD := Lib.hid hdj
    clear hdj
    have hbz := hb.size
    obtain ⟨wo, rfl⟩ : ∃ wo : World, wo = wr := ⟨_, rfl⟩
    by_cases hlt : k < l.length
    · have hdk := HO.out l[k] (List.getElem_mem _)
      go_wp2
      go_loopw [4] (fun j w2 => ∃ jj : Nat, jj ≤ k ∧ j = .int .i64 jj ∧ djR l k hlt jj ∧ Below wo.heap.size wo w2) (fun j _ => k - (intOf j).toNat)
      case atStart => exact ⟨0, Nat.zero_le _, rfl, fun k hk h0 => by omega, Below.refl _ _⟩
      case round =>
        obtain ⟨jj, hj, rfl, hr, hb2⟩ := hrel
        have HR := Lib.hid hr
        clear hr
        have hbt := hb.trans (hb2.mono hbz)
        obtain ⟨wt, rfl⟩ : ∃ wt : World, wt = wr := ⟨_, rfl⟩
        by_cases hjk : jj < k
        · obtain ⟨b, off, rfl, hbb, y1, y2⟩ := (h.below hbt).at_ (k := k) (c := zc l[k]) (by simp [hlt])
          obtain ⟨z1, z2⟩ := (h.below hbt).cells (k := jj) (c := zc (l[jj]'(by omega))) (by simp [show jj < l.length by omega])
          have hd := HO.out (l[jj]'(by omega)) (List.getElem_mem _)
          obtain ⟨d, hd0⟩ : ∃ d, d = l[jj]'(by omega) := ⟨_, rfl⟩
          obtain ⟨g, hg⟩ : ∃ g, g = l[k] := ⟨_, rfl⟩
          rw [← hd0] at z1 z2 hd
          rw [← hg] at y1 y2 hdk
          have HD0 := Lib.hid hd0
          have HG := Lib.hid hg
          clear hd0 hg
          have f1 := fun y : Sub wt => y.cell y1
          have f2 := fun y : Sub wt => y.cell y2
          have f3 := fun y : Sub wt => y.cell z1
          have f4 := fun y : Sub wt => y.cell z2
          by_cases hp : apN g d = true
          · have K := refMeets_any g d hdk hd
            rw [hp] at K
            have K' := Lib.hid K
            have HR' : Hid (djR l k hlt (jj + 1)) := fun k' hk' h1 => by
              rcases Nat.lt_or_ge k' jj with h2 | h2
              · exact HR.out k' hk' h2
              · have : k' = jj := by omega
                subst this
                rw [← HG.out, ← HD0.out]; exact hp
            clear hp HR K
            go_wp2
            ((refine wp_region_quiet_bel (by kernel_rfl) (by kernel_rfl) ?_); (repeat (go_big_quiet_step ((go_at_call 77; with_reducible exact Calls.quiet_bel (K'.out _))))); (refine wpQuiet_nil ?_); rintro w3 ⟨⟨_, hb3⟩, rfl⟩; (try dsimp only))
            go_wp2
            go_roundw
            case rel => exact ⟨jj + 1, by omega, by go_num, HR'.out, (by have z0 := Below.size hb2; have z1 := Below.size hb3; (try simp only [World.size_alloc, World.size_setCell, World.size_drew, size_drewN'] at z0 z1 ⊢; skip); repeat' (first | (with_reducible exact Below.refl _ _) | (with_reducible assumption) | (with_reducible refine Below.alloc ?_ ?_ _) | (with_reducible refine Below.drew ?_) | (with_reducible refine below_drewN ?_ _) | (with_reducible refine Below.setCell ?_ ?_ _) | (with_reducible refine Below.trans ?_ (Below.mono (by with_reducible assumption) ?_)) | omega | (simp only [World.size_alloc, World.size_setCell, World.size_drew, size_drewN']; omega) | go_size))⟩
            case measure => simp [intOf]; omega
          · have hp' : apN g d = false := by simpa using hp
            have K := refMeets_any g d hdk hd
            rw [hp'] at K
            have K' := Lib.hid K
            have HN : Hid (¬ djN l l.length) := fun h1 => by
              have := h1 k jj hlt hjk hlt
              rw [← HG.out, ← HD0.out, hp'] at this
              cases this
            clear hp hp' HR K
            go_wp2
            ((refine wp_region_quiet_bel (by kernel_rfl) (by kernel_rfl) ?_); (repeat (go_big_quiet_step ((go_at_call 77; with_reducible exact Calls.quiet_bel (K'.out _))))); (refine wpQuiet_nil ?_); rintro w3 ⟨⟨_, hb3⟩, rfl⟩; (try dsimp only))
            go_wp2
            go_ret
            exact ⟨⟨false, rfl, ⟨fun h => (by cases h), fun h => absurd h HN.out⟩⟩, (by have z0 := Below.size hb; have z1 := Below.size hb2; have z2 := Below.size hb3; (try simp only [World.size_alloc, World.size_setCell, World.size_drew, size_drewN'] at z0 z1 z2 ⊢; skip); repeat' (first | (with_reducible exact Below.refl _ _) | (with_reducible assumption) | (with_reducible refine Below.alloc ?_ ?_ _) | (with_reducible refine Below.drew ?_) | (with_reducible refine below_drewN ?_ _) | (with_reducible refine Below.setCell ?_ ?_ _) | (with_reducible refine Below.trans ?_ (Below.mono (by with_reducible assumption) ?_)) | omega | (simp only [World.size_alloc, World.size_setCell, World.size_drew, size_drewN']; omega) | go_size))⟩
        · have HD' : Hid (djN l (k + 1)) := djN_succ hlt HD.out fun k' hk' _ => HR.out k' hk' (by omega)
          clear HD HR
          go_wp2
          go_roundw
          case rel => exact ⟨k + 1, by omega, by go_num, HD'.out, hbt⟩
          case measure => simp [intOf]; omega
    · go_wp2
      go_ret
      exact ⟨⟨true, rfl, ⟨fun _ i k' hi hk' h1 => HD.out i k' hi hk' (by omega), fun _ => rfl⟩⟩, hb⟩
end Go.Proofs.Ytedopalmfakeaaa
