/- Contracts of functions and lemmas, used by the proofs of the given statements. No condition beyond those that each lemma names. -/
import Derived.Test.YtedopalmfakeaaaPrW2
import Derived.Test.YtedopalmfakeaaaJCubeCnt
import Derived.Deep.QuietTactic
namespace Go.Proofs.Ytedopalmfakeaaa
open Go.RowKit
set_option linter.unusedSimpArgs false
set_option linter.unusedVariables false
set_option maxRecDepth 20000
/-! ## package prime: rows -/
/-- the rows of a cube of a table -/
def RowC (n : Nat) (ev : Nat → Nat) (c : Cn) (r : Nat) : Prop := CR n (narN n ev c.1) (narN n ev c.2) r
section
variable {w : World} {p n : Nat} {ev : Nat → Nat} {T : Nat → Bool} {c : Cn}
set_option maxHeartbeats 8000000 in
theorem rows_any (ht : TabI w p n ev T) (hn : n ≤ 12) (hev : ∀ k, k < n → ev k < 24) (hc : okN c) (g : FuncId) (cap : Value) (J : (Nat → Prop) → World → Prop) (Jx : Nat → World → Prop)
    (eg : ∀ args w, (callFunc g args).run Try.prog w = .ok (.enter g args) w)
    (h0 : ∀ W, Below w.heap.size w W → J (fun _ => False) W)
    (hcl : ∀ (P : Nat → Prop) (r : Nat) (W : World), RowC n ev c r → ¬ P r → J P W → Calls Try.prog g #[.int .i64 (r : Int), cap] W fun e w' => (e = .returned (.bool true) ∧ J (fun s => P s ∨ s = r) w') ∨ (e = .returned (.bool false) ∧ Jx r w')) :
    Calls Try.prog 89 #[.pointer (some ⟨p, 0, none⟩), cbv (zc c), .func (.func g) #[] #[cap]] w fun e w' => (e = .returned (.bool true) ∧ J (RowC n ev c) w') ∨ (e = .returned (.bool false) ∧ ∃ r, RowC n ev c r ∧ Jx r w') := by
  have KN := Lib.hid (fun W (hW : Below w.heap.size w W) (m : Nat) (hm : m < 16777216) => narrow_any (s := m) (ht.1.below hW) (by omega) hev hm)
  obtain ⟨c1, c2⟩ := c
  have hc1 : c1 < 16777216 := hc.1
  have hc2 : c2 < 16777216 := hc.2.1
  have HRC : Hid (∀ r, RowC n ev (c1, c2) r = CR n (narN n ev c1) (narN n ev c2) r) := fun r => rfl
  have hy := narN_lt n ev c1
  have hz := narN_lt n ev c2
  have hd : ∀ i, ¬ ((narN n ev c1).testBit i = true ∧ (narN n ev c2).testBit i = true) := fun i => by
    rw [narN_bit, narN_bit]
    rintro ⟨h1, h2⟩
    simp at h1 h2
    exact tb0 hc.2.2 (ev i) ⟨h1.2, h2.2⟩
  have K1 := Lib.hid (fun W (hW : Below w.heap.size w W) => KN.out W hW c1 hc1)
  have K2 := Lib.hid (fun W (hW : Below w.heap.size w W) => KN.out W hW c2 hc2)
  have hRC : RowC n ev (c1, c2) = CR n (narN n ev c1) (narN n ev c2) := rfl
  rw [hRC] at hcl ⊢
  clear hRC HRC KN hc
  generalize narN n ev c1 = y at *
  generalize narN n ev c2 = z at *
  have HSUB := Lib.hid (freN_sub hy hz hd)
  have HFL := Lib.hid (freN_lt (n := n) (y := y) (z := z))
  have HF1 := Lib.hid (seen_first (n := n) (y := y) (z := z) hy)
  have HFS := Lib.hid (fun x (hx : x &&& freN n y z = x) => seen_step hy hd hx)
  have HFN := Lib.hid (fun x (hx : x &&& freN n y z = x) => seen_not hy hd hx)
  have HFP := Lib.hid (fun x (hx : x &&& freN n y z = x) => CR_part hy hd hx)
  have HFX := Lib.hid (fun x (hx : x &&& freN n y z = x) (h0 : 0 < x) => seen_next hx h0)
  have HFE := Lib.hid (seen_last (n := n) (y := y) (z := z))
  have HSelf : Hid (freN n y z &&& freN n y z = freN n y z) := Nat.and_self _
  have HPS := Lib.hid (fun x => part_sub (freN n y z) x)
  have hP : 2 ^ n ≤ 4096 := Nat.pow_le_pow_right (n := 2) (by omega) hn
  obtain ⟨-, At, ct, ca1, -⟩ := ht
  have hpl := lt_of_cell ca1
  generalize freN n y z = F at *
  obtain ⟨M, hM⟩ : ∃ M, 2 ^ n = M := ⟨_, rfl⟩
  rw [hM] at hy hz hP HSUB HFL ca1
  have H0 := Lib.hid h0
  have HC := Lib.hid hcl
  have HG := Lib.hid eg
  clear hM hd h0 hcl eg
  have hsub : M - 1 = F + y + z := HSUB.out
  have hFM : F < M := HFL.out
  clear HSUB HFL
  go_enter Try.func89, Try.ntmps89
  go_wp2
  have f1 := fun x : Sub (w.alloc (.cells #[.int .i64 (c1 : Int), .int .i64 (c2 : Int)] 23)) => x.cell (b := w.heap.size) (o := 0) (u := .int .i64 (c1 : Int)) (by simp [go_sem])
  have f2 := fun x : Sub (w.alloc (.cells #[.int .i64 (c1 : Int), .int .i64 (c2 : Int)] 23)) => x.cell (b := w.heap.size) (o := 1) (u := .int .i64 (c2 : Int)) (by simp [go_sem])
  have L1 := Lib.hid (fun x : Sub (w.alloc (.cells #[.int .i64 (c1 : Int), .int .i64 (c2 : Int)] 23)) => K1.out x.x (((Below.refl w.heap.size w).alloc (Nat.le_refl _) _).trans (x.bel.mono (by simp))))
  have L2 := Lib.hid (fun x : Sub (w.alloc (.cells #[.int .i64 (c1 : Int), .int .i64 (c2 : Int)] 23)) => K2.out x.x (((Below.refl w.heap.size w).alloc (Nat.le_refl _) _).trans (x.bel.mono (by simp))))
  ((refine wp_region_quiet_bel (by kernel_rfl) (by kernel_rfl) ?_); (repeat (go_big_quiet_step (first | (go_at_call 122; with_reducible exact Calls.quiet_same (L1.out _)) | (go_at_call 122; with_reducible exact Calls.quiet_same (L2.out _))))); (refine wpQuiet_nil ?_); rintro w5 ⟨⟨_, hb5⟩, rfl⟩; (try dsimp only))
  have hb5z := hb5.size
  simp only [World.size_alloc] at hb5z
  have hbA : Below w.heap.size w w5 := (by have z0 := Below.size hb5; (try simp only [World.size_alloc, World.size_setCell, World.size_drew, size_drewN'] at z0 ⊢; skip); repeat' (first | (with_reducible exact Below.refl _ _) | (with_reducible assumption) | (with_reducible refine Below.alloc ?_ ?_ _) | (with_reducible refine Below.drew ?_) | (with_reducible refine below_drewN ?_ _) | (with_reducible refine Below.setCell ?_ ?_ _) | (with_reducible refine Below.trans ?_ (Below.mono (by with_reducible assumption) ?_)) | omega | (simp only [World.size_alloc, World.size_setCell, World.size_drew, size_drewN']; omega) | go_size))
  have ca5 := (below_at hbA p 1 hpl).trans ca1
  have e1 : (F : Int) + (y : Int) + (z : Int) - (y : Int) - (z : Int) = (F : Int) := by omega
  have e2 : (F : Int) + (y : Int) + (z : Int) - (y : Int) = ((F + z : Nat) : Int) := by omega
  have e3 : (M : Int) - 1 = (F : Int) + y + z := by omega
  clear f1 f2 hb5
  go_wp2
  have hJ0 : J (fun r => Seen n y z F r) w5 := by rw [HF1.out]; exact H0.out w5 hbA
  clear e1 e2 e3 ca5 ca1 hbA L1 L2 K1 K2 H0 HF1 hb5z
  go_loopw [10] (fun i wr => ∃ x : Nat, x &&& F = x ∧ x ≤ F ∧ i = .int .i64 x ∧ J (fun r => Seen n y z x r) wr) (fun i _ => (intOf i).toNat)
  case atStart => exact ⟨F, HSelf.out, Nat.le_refl _, rfl, hJ0⟩
  case round =>
    obtain ⟨x, hx, hxF, rfl, hJ⟩ := hrel
    clear hJ0
    have s1 := i64_or y x (by omega) (by omega)
    have HCx := Lib.hid (HC.out _ (y ||| x) wr (HFP.out x hx).1 (HFN.out x hx) hJ)
    have HS := Lib.hid (HFS.out x hx)
    have HX := Lib.hid (HFX.out x hx)
    have HP1 := Lib.hid (HFP.out x hx).1
    have HPX := Lib.hid (HPS.out (x - 1))
    clear hx hJ HC HFP HFN HFS HFX HPS HSelf
    have hg := HG.out
    go_wp2_with fail
    refine HCx.out.mono ?_
    rintro e w6 (⟨rfl, hJ6⟩ | ⟨rfl, hJx6⟩)
    · by_cases h0 : x = 0
      · subst h0
        have q1 : J (CR n y z) w6 := by
          have := HS.out
          rw [this, HFE.out] at hJ6
          exact hJ6
        go_wp2_with fail
        go_returns
        exact Or.inl ⟨rfl, q1⟩
      · have c0 : ((x : Int) == 0) = false := by simp; omega
        have s2 : bits .and .i64 ((x : Int) - 1) F = (((x - 1) &&& F : Nat) : Int) := by
          rw [show (x : Int) - 1 = ((x - 1 : Nat) : Int) by omega]
          exact i64_and (x - 1) F (by omega) (by omega)
        have hxl : (x - 1) &&& F ≤ F := Nat.and_le_right
        have hxl2 : (x - 1) &&& F ≤ x - 1 := Nat.and_le_left
        have q1 : J (fun r => Seen n y z ((x - 1) &&& F) r) w6 := by
          have h1 := HS.out
          have h2 := HX.out (by omega)
          rw [h1, h2] at hJ6
          exact hJ6
        go_wp2_with fail
        go_roundw
        case rel => exact ⟨(x - 1) &&& F, HPX.out, hxl, rfl, q1⟩
        case measure => simp [intOf]; omega
    · go_wp2_with fail
      go_returns
      exact Or.inr ⟨rfl, _, HP1.out, hJx6⟩
end
end Go.Proofs.Ytedopalmfakeaaa
