/- Contracts of functions and lemmas, used by the proofs of the given statements. No condition beyond those that each lemma names. -/
import Derived.Test.YtlncafhgmbhocaaGreatDoorJLmW5
namespace Go.Proofs.YtlncafhgmbhocaaGreatDoor
open Go.RowKit
set_option linter.unusedSimpArgs false
set_option linter.unusedVariables false
set_option maxRecDepth 20000
attribute [local irreducible] nv wp win plainB validR valR canR mvE chkM codeC smK alk badP nrm eqN
/-! ## package lump: the function that Coarsest hands to slices.IndexFunc; slices.Equal -/
/-- what that function reads -/
structure CrsE (w : World) (g7 gi g8 n : Nat) (A : Option Addr) (d : Nat) (P : Nat → Int) (i : Nat) (A4 : Option Addr) (c4 : Nat) (S : Mf) : Prop where
  now : w.cell? ⟨g7, 0, none⟩ = some (.slice A n d)
  pa : PaI w A n P
  ix : w.cell? ⟨gi, 0, none⟩ = some (.int .i64 (i : Int))
  sm : w.cell? ⟨g8, 0, none⟩ = some (.slice A4 n c4)
  mt : ∃ w0, Below w0.heap.size w0 w ∧ MatI w0 w0.heap.size A4 n (fun _ => n) (fun i => can (S i))
theorem CrsE.below {w W : World} {g7 gi g8 n d i c4 : Nat} {A A4 : Option Addr} {P : Nat → Int} {S : Mf} (h : CrsE w g7 gi g8 n A d P i A4 c4 S) (hb : Below w.heap.size w W) : CrsE W g7 gi g8 n A d P i A4 c4 S :=
  ⟨(hb.cell (lt_of_cell h.now)).trans h.now, h.pa.below hb, (hb.cell (lt_of_cell h.ix)).trans h.ix, (hb.cell (lt_of_cell h.sm)).trans h.sm, by
    obtain ⟨w0, h1, h2⟩ := h.mt
    exact ⟨w0, h1.trans (hb.mono h1.size), h2⟩⟩
set_option maxHeartbeats 4000000 in
theorem crs1_any {w : World} {g7 gi g8 n d i c4 k : Nat} {A A4 : Option Addr} {P : Nat → Int} {S : Mf} (h : CrsE w g7 gi g8 n A d P i A4 c4 S) (hk : k < n) (hi : i < n) (hS : ∀ i j, Sz 400 (S i j)) (hn : n ≤ 1000) :
    Calls Tryz.prog 63 #[.int .i64 (k : Int), .pointer (some ⟨g7, 0, none⟩), .pointer (some ⟨gi, 0, none⟩), .pointer (some ⟨g8, 0, none⟩)] w fun e w' => e = .returned (.bool (decide (P k = P i) && eqN n (S k) (S i))) ∧ Below w.heap.size w w' := by
  obtain ⟨w0, h01, hM⟩ := h.mt
  have c0 := h.now
  have c1 := h.ix
  have c2 := h.sm
  obtain ⟨b, off, rfl, hb, pk⟩ := h.pa.later (Below.refl _ _) hk
  obtain ⟨b', off', ee, hb', pi⟩ := h.pa.later (Below.refl _ _) hi
  cases ee
  obtain ⟨bx, ox, Ak, ck, rfl, hbx, f0, -, rk⟩ := hM.at_ hk
  obtain ⟨bx', ox', Ai, ci, ee, hbx', f1, -, ri⟩ := hM.at_ hi
  cases ee
  have x0 := (h01.cell (p := ⟨bx, ox + k, none⟩) hbx).trans f0
  have x1 := (h01.cell (p := ⟨bx, ox + i, none⟩) hbx).trans f1
  have KE := Lib.hid (fun W (hb' : Below w.heap.size w W) => lequal_any (c := ck) (d := ci) (rk.ra.below (h01.trans (hb'.mono h01.size))) (ri.ra.below (h01.trans (hb'.mono h01.size))) (fun s _ => hS k s) (fun s _ => hS i s) (by omega) (by omega) (by omega))
  obtain ⟨ans, hans⟩ : ∃ ans, ans = eqN n (S k) (S i) := ⟨_, rfl⟩
  rw [← hans] at KE ⊢
  obtain ⟨x, hx⟩ : ∃ x, x = P k := ⟨_, rfl⟩
  obtain ⟨y, hy⟩ : ∃ y, y = P i := ⟨_, rfl⟩
  rw [← hx] at pk ⊢
  rw [← hy] at pi ⊢
  have hki : (k : Int) < (n : Int) := by omega
  have hk0 : (0 : Int) ≤ (k : Int) := by omega
  have hii : (i : Int) < (n : Int) := by omega
  have hi0 : (0 : Int) ≤ (i : Int) := by omega
  clear h hM f0 f1 rk ri hans hx hy h01 hbx hbx' hb hb'
  have a0 := fun z : Sub w => z.cell c0
  have a1 := fun z : Sub w => z.cell c1
  have a2 := fun z : Sub w => z.cell c2
  have a3 := fun z : Sub w => z.cell pk
  have a4 := fun z : Sub w => z.cell pi
  have a5 := fun z : Sub w => z.cell x0
  have a6 := fun z : Sub w => z.cell x1
  by_cases hxy : x = y
  · subst hxy
    have HR : Hid ((decide (x = x) && ans) = ans) := by show _ = _; simp
    clear c0 c1 c2 pk pi x0 x1
    go_enter Tryz.func63, Tryz.ntmps63
    go_wp2
    ((refine wp_region_quiet_bel (by kernel_rfl) (by kernel_rfl) ?_); (repeat (go_big_quiet_step ((go_at_call 53; with_reducible exact Calls.quiet_bel (KE.out _ (Sub.bel _)))))); (refine wpQuiet_nil ?_); rintro w8 ⟨⟨_, hb8⟩, rfl⟩; (try dsimp only))
    go_wp2
    go_ret
    exact ⟨by rw [HR.out]; rfl, hb8⟩
  · have HR : Hid ((decide (x = y) && ans) = false) := by show _ = _; rw [decide_eq_false hxy]; rfl
    have e3 : (x == y) = false := beq_eq_false_iff_ne.2 hxy
    clear c0 c1 c2 pk pi x0 x1 hxy
    go_enter Tryz.func63, Tryz.ntmps63
    go_wp2
    ((refine wp_region_quiet_bel (by kernel_rfl) (by kernel_rfl) ?_); (repeat (go_big_quiet_step (fail))); (refine wpQuiet_nil ?_); rintro w8 ⟨⟨_, hb8⟩, rfl⟩; (try dsimp only))
    go_wp2
    go_ret
    exact ⟨by rw [HR.out]; rfl, hb8⟩
set_option maxHeartbeats 4000000 in
theorem cindexf_any {w : World} {g7 gi g8 n d i c4 m c1 : Nat} {A A4 A1 : Option Addr} {P G : Nat → Int} {g : Nat → Nat} {S : Mf} (h : CrsE w g7 gi g8 n A d P i A4 c4 S) (hG : PaI w A1 m G) (hg : ∀ j, j < m → G j = (g j : Int) ∧ g j < n) (hi : i < n) (hS : ∀ i j, Sz 400 (S i j)) (hn : n ≤ 1000) (hm : m ≤ 1000) :
    Calls Tryz.prog 62 #[.slice A1 m c1, .func (.func 63) #[] #[.pointer (some ⟨g7, 0, none⟩), .pointer (some ⟨gi, 0, none⟩), .pointer (some ⟨g8, 0, none⟩)]] w fun e w' => (∃ r : Int, e = .returned (.int .i64 r) ∧ IsIdx (fun j => decide (P (g j) = P i) && eqN n (S (g j)) (S i)) m r) ∧ Below w.heap.size w w' := by
  have HA := Lib.hid hG
  have HE := Lib.hid h
  have HS := Lib.hid hS
  have HG := Lib.hid hg
  obtain ⟨B, hB⟩ : ∃ B : Nat → Bool, B = fun j => decide (P (g j) = P i) && eqN n (S (g j)) (S i) := ⟨_, rfl⟩
  have K1 : Hid (∀ j W, j < m → Below w.heap.size w W → Calls Tryz.prog 63 #[.int .i64 (G j), .pointer (some ⟨g7, 0, none⟩), .pointer (some ⟨gi, 0, none⟩), .pointer (some ⟨g8, 0, none⟩)] W fun e w' => e = .returned (.bool (B j)) ∧ Below W.heap.size W w') := fun j W hj hb => by
    rw [(hg j hj).1, hB]
    exact crs1_any (h.below hb) (hg j hj).2 hi hS hn
  rw [← hB]
  clear h hG hS hg hB HE HS HG
  go_enter Tryz.func62, Tryz.ntmps62
  go_wp2
  go_loopw [8] (fun i wr => ∃ k : Nat, k ≤ m ∧ i = .int .i64 (k : Int) ∧ (∀ j, j < k → B j = false) ∧ Below w.heap.size w wr) (fun i _ => m - (intOf i).toNat)
  case atStart => exact ⟨0, Nat.zero_le _, rfl, fun j hj => by omega, Below.refl _ _⟩
  case round =>
    obtain ⟨k, hk, rfl, hv, hb⟩ := hrel
    have HV := Lib.hid hv
    clear hv
    have hbz := hb.size
    by_cases hlt : k < m
    · obtain ⟨b, off, rfl, hbb, x0⟩ := HA.out.later hb hlt
      have K := Lib.hid (fun W (hb' : Below wr.heap.size wr W) => K1.out k W hlt (hb.trans (hb'.mono hbz)))
      obtain ⟨x, hx⟩ : ∃ x, x = G k := ⟨_, rfl⟩
      rw [← hx] at x0 K
      have hk0 : (0 : Int) ≤ (k : Int) := by omega
      have hki : (k : Int) < (m : Int) := by omega
      cases hv : B k
      · have HN := Lib.hid hv
        rw [hv] at K
        clear hv hx
        (go_wp2_with fail; (with_reducible refine (K.out _ (by (skip); repeat' (first | (with_reducible exact Below.refl _ _) | (with_reducible assumption) | (with_reducible refine Below.alloc ?_ ?_ _) | (with_reducible refine Below.drew ?_) | (with_reducible refine below_drewN ?_ _) | (with_reducible refine Below.setCell ?_ ?_ _) | (with_reducible refine Below.trans ?_ (Below.mono (by with_reducible assumption) ?_)) | omega | (simp only [ZA, ZS, ZD, ZN]; omega) | go_size))).mono ?_); rintro e w2 ⟨rfl, hb2⟩; have hb2z := Below.size hb2; (try simp only [ZA, ZS, ZD, ZN] at hb2z))
        go_wp2
        go_roundw
        case rel =>
          refine ⟨k + 1, by omega, by go_num, fun j hj => ?_, hb.trans (by have z0 := Below.size hb2; (try simp only [ZA, ZS, ZD, ZN] at z0 ⊢; skip); repeat' (first | (with_reducible exact Below.refl _ _) | (with_reducible assumption) | (with_reducible refine Below.alloc ?_ ?_ _) | (with_reducible refine Below.drew ?_) | (with_reducible refine below_drewN ?_ _) | (with_reducible refine Below.setCell ?_ ?_ _) | (with_reducible refine Below.trans ?_ (Below.mono (by with_reducible assumption) ?_)) | omega | (simp only [ZA, ZS, ZD, ZN]; omega) | go_size))⟩
          by_cases e : j = k
          · rw [e]; exact HN.out
          · exact HV.out j (by omega)
        case measure => simp [intOf]; omega
      · have HN := Lib.hid (show IsIdx B m (k : Int) from .inr ⟨k, rfl, hlt, hv, HV.out⟩)
        rw [hv] at K
        clear hv hx
        (go_wp2_with fail; (with_reducible refine (K.out _ (by (skip); repeat' (first | (with_reducible exact Below.refl _ _) | (with_reducible assumption) | (with_reducible refine Below.alloc ?_ ?_ _) | (with_reducible refine Below.drew ?_) | (with_reducible refine below_drewN ?_ _) | (with_reducible refine Below.setCell ?_ ?_ _) | (with_reducible refine Below.trans ?_ (Below.mono (by with_reducible assumption) ?_)) | omega | (simp only [ZA, ZS, ZD, ZN]; omega) | go_size))).mono ?_); rintro e w2 ⟨rfl, hb2⟩; have hb2z := Below.size hb2; (try simp only [ZA, ZS, ZD, ZN] at hb2z))
        go_wp2
        go_ret
        exact ⟨⟨k, rfl, HN.out⟩, hb.trans (by have z0 := Below.size hb2; (try simp only [ZA, ZS, ZD, ZN] at z0 ⊢; skip); repeat' (first | (with_reducible exact Below.refl _ _) | (with_reducible assumption) | (with_reducible refine Below.alloc ?_ ?_ _) | (with_reducible refine Below.drew ?_) | (with_reducible refine below_drewN ?_ _) | (with_reducible refine Below.setCell ?_ ?_ _) | (with_reducible refine Below.trans ?_ (Below.mono (by with_reducible assumption) ?_)) | omega | (simp only [ZA, ZS, ZD, ZN]; omega) | go_size))⟩
    · have : k = m := by omega
      subst this
      go_wp2
      go_ret
      exact ⟨⟨-1, rfl, .inl ⟨rfl, HV.out⟩⟩, hb⟩
/-- equal lists of ints -/
def eqZ (n : Nat) (P Q : Nat → Int) : Bool := (List.range n).all fun j => decide (P j = Q j)
theorem eqZ_iff {n : Nat} {P Q : Nat → Int} : eqZ n P Q = true ↔ ∀ j, j < n → P j = Q j := by
  unfold eqZ
  rw [List.all_eq_true]
  exact ⟨fun h b hb => of_decide_eq_true (h b (List.mem_range.2 hb)), fun h b hb => decide_eq_true (h b (List.mem_range.1 hb))⟩
theorem eqZ_no {n k : Nat} {P Q : Nat → Int} (hk : k < n) (h : P k ≠ Q k) : eqZ n P Q = false := by
  cases e : eqZ n P Q
  · rfl
  · exact absurd (eqZ_iff.1 e k hk) h
set_option maxHeartbeats 4000000 in
theorem slEqual_any {w : World} {n c d : Nat} {A B : Option Addr} {P Q : Nat → Int} (h : PaI w A n P) (h' : PaI w B n Q) (hn : n ≤ 1000000) :
    Calls Tryz.prog 64 #[.slice A n c, .slice B n d] w fun e w' => e = .returned (.bool (eqZ n P Q)) ∧ Below w.heap.size w w' := by
  have HA := Lib.hid h
  have HB := Lib.hid h'
  have e0 : ((n : Int) != (n : Int)) = false := by simp
  clear h h'
  go_enter Tryz.func64, Tryz.ntmps64
  go_wp2
  go_loopw [13] (fun i wr => ∃ k : Nat, k ≤ n ∧ i = .int .i64 (k : Int) ∧ (∀ j, j < k → P j = Q j) ∧ Below w.heap.size w wr) (fun i _ => n - (intOf i).toNat)
  case atStart => exact ⟨0, Nat.zero_le _, rfl, fun j hj => by omega, Below.refl _ _⟩
  case round =>
    obtain ⟨k, hk, rfl, hv, hb⟩ := hrel
    have HV := Lib.hid hv
    clear hv
    have hbz := hb.size
    by_cases hlt : k < n
    · obtain ⟨b, off, rfl, hbb, x0⟩ := HA.out.later hb hlt
      obtain ⟨b', off', rfl, hbb', x1⟩ := HB.out.later hb hlt
      have hk0 : (0 : Int) ≤ (k : Int) := by omega
      have hki : (k : Int) < (n : Int) := by omega
      by_cases hv : P k = Q k
      · have HN := Lib.hid hv
        rw [hv] at x0
        obtain ⟨x, hx⟩ : ∃ x, x = Q k := ⟨_, rfl⟩
        rw [← hx] at x0 x1
        have e1 : (x != x) = false := by simp
        have a0 := fun z : Sub wr => z.cell x0
        have a1 := fun z : Sub wr => z.cell x1
        clear hv hx
        go_wp2
        ((refine wp_region_quiet_bel (by kernel_rfl) (by kernel_rfl) ?_); (repeat (go_big_quiet_step (fail))); (refine wpQuiet_nil ?_); rintro w8 ⟨⟨_, hb8⟩, rfl⟩; (try dsimp only))
        have HB8 := Lib.hid (hb.trans (hb8.mono hbz))
        clear hb8
        go_wp2
        go_roundw
        case rel =>
          refine ⟨k + 1, by omega, by go_num, fun j hj => ?_, HB8.out⟩
          by_cases e : j = k
          · rw [e]; exact HN.out
          · exact HV.out j (by omega)
        case measure => simp [intOf]; omega
      · have HN := Lib.hid (eqZ_no hlt hv)
        obtain ⟨x, hx⟩ : ∃ x, x = P k := ⟨_, rfl⟩
        obtain ⟨y, hy⟩ : ∃ y, y = Q k := ⟨_, rfl⟩
        rw [← hx] at x0 hv
        rw [← hy] at x1 hv
        have e1 : (x != y) = true := by simpa using hv
        have a0 := fun z : Sub wr => z.cell x0
        have a1 := fun z : Sub wr => z.cell x1
        clear hv hx hy
        go_wp2
        ((refine wp_region_quiet_bel (by kernel_rfl) (by kernel_rfl) ?_); (repeat (go_big_quiet_step (fail))); (refine wpQuiet_nil ?_); rintro w8 ⟨⟨_, hb8⟩, rfl⟩; (try dsimp only))
        have HB8 := Lib.hid (hb.trans (hb8.mono hbz))
        clear hb8
        go_wp2
        go_ret
        exact ⟨by rw [HN.out]; rfl, HB8.out⟩
    · have : k = n := by omega
      subst this
      have HN := Lib.hid (eqZ_iff.2 HV.out)
      go_wp2
      go_ret
      exact ⟨by rw [HN.out]; rfl, hb⟩
end Go.Proofs.YtlncafhgmbhocaaGreatDoor
