/- Contracts of functions and lemmas, used by the proofs of the given statements. No condition beyond those that each lemma names. -/
import Derived.Test.YtedopalmfakeaaaPrW3
namespace Go.Proofs.Ytedopalmfakeaaa
open Go.RowKit
set_option linter.unusedSimpArgs false
set_option linter.unusedVariables false
set_option maxRecDepth 20000
/-! ## package prime: the closures of rows -/
section
variable {W : World} {x p n r g m : Nat} {ev : Nat → Nat} {T : Nat → Bool} {f : Nat → Int}
set_option maxHeartbeats 4000000 in
theorem imp1_any (hx : W.cell? ⟨x, 0, none⟩ = some (.pointer (some ⟨p, 0, none⟩))) (h : TabI W p n ev T) (hr : r < 2 ^ n) :
    Calls Try.prog 130 #[.int .i64 (r : Int), .pointer (some ⟨x, 0, none⟩)] W fun e w' => e = .returned (.bool (T r)) ∧ Below W.heap.size W w' := by
  obtain ⟨-, At, ct, c1, rd⟩ := h
  obtain ⟨b, off, rfl, hb, cb⟩ := rd.at_ hr
  have hxl := lt_of_cell hx
  have hpl := lt_of_cell c1
  generalize T r = v at *
  generalize 2 ^ n = M at *
  clear rd
  have i1 : (0 : Int) ≤ (r : Int) := by omega
  have i2 : (r : Int) < (M : Int) := by omega
  go_enter Try.func130, Try.ntmps130
  go_wp2
  go_returns
  exact ⟨rfl, (by (skip); repeat' (first | (with_reducible exact Below.refl _ _) | (with_reducible assumption) | (with_reducible refine Below.alloc ?_ ?_ _) | (with_reducible refine Below.drew ?_) | (with_reducible refine below_drewN ?_ _) | (with_reducible refine Below.setCell ?_ ?_ _) | (with_reducible refine Below.trans ?_ (Below.mono (by with_reducible assumption) ?_)) | omega | (simp only [World.size_alloc, World.size_setCell, World.size_drew, size_drewN']; omega) | go_size))⟩
set_option maxHeartbeats 4000000 in
theorem ess1_any (hx : W.cell? ⟨x, 0, none⟩ = some (.slice (some ⟨g, 0, none⟩) m m)) {v : Int} (hc : W.cell? ⟨g, r, none⟩ = some (.int .i64 v)) (hr : r < m) :
    Calls Try.prog 96 #[.int .i64 (r : Int), .pointer (some ⟨x, 0, none⟩)] W fun e w' => e = .returned (.bool (decide (1 < v))) ∧ Below W.heap.size W w' := by
  have i1 : (0 : Int) ≤ (r : Int) := by omega
  have i2 : (r : Int) < (m : Int) := by omega
  go_enter Try.func96, Try.ntmps96
  go_wp2
  go_returns
  exact ⟨rfl, (by (skip); repeat' (first | (with_reducible exact Below.refl _ _) | (with_reducible assumption) | (with_reducible refine Below.alloc ?_ ?_ _) | (with_reducible refine Below.drew ?_) | (with_reducible refine below_drewN ?_ _) | (with_reducible refine Below.setCell ?_ ?_ _) | (with_reducible refine Below.trans ?_ (Below.mono (by with_reducible assumption) ?_)) | omega | (simp only [World.size_alloc, World.size_setCell, World.size_drew, size_drewN']; omega) | go_size))⟩
set_option maxHeartbeats 4000000 in
theorem irr1_any (hx : W.cell? ⟨x, 0, none⟩ = some (.slice (some ⟨g, 0, none⟩) m m)) {v : Int} (hc : W.cell? ⟨g, r, none⟩ = some (.int .i64 v)) (hr : r < m) :
    Calls Try.prog 90 #[.int .i64 (r : Int), .pointer (some ⟨x, 0, none⟩)] W fun e w' => e = .returned (.bool (decide (1 < v))) ∧ Below W.heap.size W w' := by
  have i1 : (0 : Int) ≤ (r : Int) := by omega
  have i2 : (r : Int) < (m : Int) := by omega
  go_enter Try.func90, Try.ntmps90
  go_wp2
  go_returns
  exact ⟨rfl, (by (skip); repeat' (first | (with_reducible exact Below.refl _ _) | (with_reducible assumption) | (with_reducible refine Below.alloc ?_ ?_ _) | (with_reducible refine Below.drew ?_) | (with_reducible refine below_drewN ?_ _) | (with_reducible refine Below.setCell ?_ ?_ _) | (with_reducible refine Below.trans ?_ (Below.mono (by with_reducible assumption) ?_)) | omega | (simp only [World.size_alloc, World.size_setCell, World.size_drew, size_drewN']; omega) | go_size))⟩
set_option maxHeartbeats 4000000 in
theorem cnt1_any {B : Nat} (hx : W.cell? ⟨x, 0, none⟩ = some (.slice (some ⟨g, 0, none⟩) m m)) (own : OwJ W B (some ⟨g, 0, none⟩) m m f) (hr : r < m) (hxg : ¬ g = x) (hgB : B ≤ g) (hf : 0 ≤ f r ∧ f r ≤ 1000000) :
    Calls Try.prog 121 #[.int .i64 (r : Int), .pointer (some ⟨x, 0, none⟩)] W fun e w' => e = .returned (.bool true) ∧ (OwJ w' B (some ⟨g, 0, none⟩) m m (fun j => if j = r then f r + 1 else f j) ∧ w'.cell? ⟨x, 0, none⟩ = some (.slice (some ⟨g, 0, none⟩) m m)) ∧ Below B W w' := by
  have cs := own.at_ hr
  have fs := own.frozen r
  have HS := Lib.hid (own.set r (f r + 1)).1
  have hgl := lt_of_cell cs
  have i1 : (0 : Int) ≤ (r : Int) := by omega
  have i2 : (r : Int) < (m : Int) := by omega
  have HP := Lib.hid (set_far (w := W) (o := r) (v := .int .i64 (f r + 1)) hxg hx)
  clear own
  generalize f r = v at *
  go_enter Try.func121, Try.ntmps121
  go_wp2
  go_returns
  exact ⟨rfl, ⟨HS.out, HP.out⟩, Below.setCell (Below.refl _ _) (p := ⟨g, _, none⟩) (by show B ≤ g; exact hgB) _⟩
set_option maxHeartbeats 4000000 in
theorem irr2_any {B : Nat} (hx : W.cell? ⟨x, 0, none⟩ = some (.slice (some ⟨g, 0, none⟩) m m)) (own : OwJ W B (some ⟨g, 0, none⟩) m m f) (hr : r < m) (hxg : ¬ g = x) (hgB : B ≤ g) (hf : 0 ≤ f r ∧ f r ≤ 1000000) :
    Calls Try.prog 91 #[.int .i64 (r : Int), .pointer (some ⟨x, 0, none⟩)] W fun e w' => e = .returned (.bool true) ∧ (OwJ w' B (some ⟨g, 0, none⟩) m m (fun j => if j = r then f r - 1 else f j) ∧ w'.cell? ⟨x, 0, none⟩ = some (.slice (some ⟨g, 0, none⟩) m m)) ∧ Below B W w' := by
  have cs := own.at_ hr
  have fs := own.frozen r
  have HS := Lib.hid (own.set r (f r - 1)).1
  have hgl := lt_of_cell cs
  have i1 : (0 : Int) ≤ (r : Int) := by omega
  have i2 : (r : Int) < (m : Int) := by omega
  have HP := Lib.hid (set_far (w := W) (o := r) (v := .int .i64 (f r - 1)) hxg hx)
  clear own
  generalize f r = v at *
  go_enter Try.func91, Try.ntmps91
  go_wp2
  go_returns
  exact ⟨rfl, ⟨HS.out, HP.out⟩, Below.setCell (Below.refl _ _) (p := ⟨g, _, none⟩) (by show B ≤ g; exact hgB) _⟩
end
/-! ### the rows, with these closures -/
section
variable {w : World} {p n x g B : Nat} {ev : Nat → Nat} {T : Nat → Bool} {c : Cn} {f : Nat → Int}
theorem rows_imp (ht : TabI w p n ev T) (hn : n ≤ 12) (hev : ∀ k, k < n → ev k < 24) (hc : okN c) (hx : w.cell? ⟨x, 0, none⟩ = some (.pointer (some ⟨p, 0, none⟩))) :
    Calls Try.prog 89 #[.pointer (some ⟨p, 0, none⟩), cbv (zc c), .func (.func 130) #[] #[.pointer (some ⟨x, 0, none⟩)]] w fun e w' => (∃ b, e = .returned (.bool b) ∧ (b = true ↔ ∀ r, RowC n ev c r → T r = true)) ∧ Below w.heap.size w w' := by
  refine (rows_any ht hn hev hc 130 (.pointer (some ⟨x, 0, none⟩)) (fun P W => Below w.heap.size w W ∧ ∀ r, P r → T r = true) (fun r W => Below w.heap.size w W ∧ T r = false) (fun _ _ => rfl) (fun W h => ⟨h, fun r h => h.elim⟩) fun P r W hr hP hJ => ?_).mono ?_
  · have hxl := lt_of_cell hx
    refine (imp1_any ((below_at hJ.1 x 0 hxl).trans hx) (ht.below hJ.1) hr.1).mono ?_
    rintro e w' ⟨rfl, hb⟩
    have hb' := hJ.1.trans (hb.mono hJ.1.size)
    cases hv : T r
    · exact .inr ⟨rfl, hb', rfl⟩
    · exact .inl ⟨rfl, hb', fun s hs => hs.elim (hJ.2 s) fun e => by rw [e]; exact hv⟩
  · rintro e w' (⟨rfl, hJ⟩ | ⟨rfl, r, hr, hb, hv⟩)
    · exact ⟨⟨true, rfl, fun _ => hJ.2, fun _ => rfl⟩, hJ.1⟩
    · exact ⟨⟨false, rfl, fun h => (by cases h), fun h => by rw [h r hr] at hv; cases hv⟩, hb⟩
/-- more than one everywhere -/
theorem rows_more (F : FuncId) (ht : TabI w p n ev T) (hn : n ≤ 12) (hev : ∀ k, k < n → ev k < 24) (hc : okN c) {m : Nat} (hx : w.cell? ⟨x, 0, none⟩ = some (.slice (some ⟨g, 0, none⟩) m m)) (own : OwJ w B (some ⟨g, 0, none⟩) m m f) (hm : 2 ^ n = m)
    (eg : ∀ args w, (callFunc F args).run Try.prog w = .ok (.enter F args) w)
    (hF : ∀ (W : World) (r : Nat) (v : Int), W.cell? ⟨x, 0, none⟩ = some (.slice (some ⟨g, 0, none⟩) m m) → W.cell? ⟨g, r, none⟩ = some (.int .i64 v) → r < m → Calls Try.prog F #[.int .i64 (r : Int), .pointer (some ⟨x, 0, none⟩)] W fun e w' => e = .returned (.bool (decide (1 < v))) ∧ Below W.heap.size W w') :
    Calls Try.prog 89 #[.pointer (some ⟨p, 0, none⟩), cbv (zc c), .func (.func F) #[] #[.pointer (some ⟨x, 0, none⟩)]] w fun e w' => (∃ b, e = .returned (.bool b) ∧ (b = true ↔ ∀ r, RowC n ev c r → 1 < f r)) ∧ Below w.heap.size w w' := by
  refine (rows_any ht hn hev hc F (.pointer (some ⟨x, 0, none⟩)) (fun P W => Below w.heap.size w W ∧ ∀ r, P r → 1 < f r) (fun r W => Below w.heap.size w W ∧ ¬ 1 < f r) eg (fun W h => ⟨h, fun r h => h.elim⟩) fun P r W hr hP hJ => ?_).mono ?_
  · have hxl := lt_of_cell hx
    have hrm : r < m := by rw [← hm]; exact hr.1
    have cs := own.at_ hrm
    have hgl := lt_of_cell cs
    refine (hF W r _ ((below_at hJ.1 x 0 hxl).trans hx) ((below_at hJ.1 g r hgl).trans cs) hrm).mono ?_
    rintro e w' ⟨rfl, hb⟩
    have hb' := hJ.1.trans (hb.mono hJ.1.size)
    by_cases hv : 1 < f r
    · exact .inl ⟨by rw [decide_eq_true hv], hb', fun s hs => hs.elim (hJ.2 s) fun e => by rw [e]; exact hv⟩
    · exact .inr ⟨by rw [decide_eq_false hv], hb', hv⟩
  · rintro e w' (⟨rfl, hJ⟩ | ⟨rfl, r, hr, hb, hv⟩)
    · exact ⟨⟨true, rfl, fun _ => hJ.2, fun _ => rfl⟩, hJ.1⟩
    · exact ⟨⟨false, rfl, fun h => (by cases h), fun h => absurd (h r hr) hv⟩, hb⟩
/-- one more (or less) in each row -/
theorem rows_chg (d : Int) (F : FuncId) (ht : TabI w p n ev T) (hn : n ≤ 12) (hev : ∀ k, k < n → ev k < 24) (hc : okN c) {m : Nat} (hx : w.cell? ⟨x, 0, none⟩ = some (.slice (some ⟨g, 0, none⟩) m m)) (own : OwJ w B (some ⟨g, 0, none⟩) m m f) (hm : 2 ^ n = m) (hxB : B ≤ x)
    (hf : ∀ r, RowC n ev c r → 0 ≤ f r ∧ f r ≤ 1000000) (hB : B ≤ w.heap.size)
    (eg : ∀ args w, (callFunc F args).run Try.prog w = .ok (.enter F args) w)
    (hF : ∀ (W : World) (r : Nat) (f : Nat → Int), W.cell? ⟨x, 0, none⟩ = some (.slice (some ⟨g, 0, none⟩) m m) → OwJ W B (some ⟨g, 0, none⟩) m m f → r < m → 0 ≤ f r ∧ f r ≤ 1000000 → Calls Try.prog F #[.int .i64 (r : Int), .pointer (some ⟨x, 0, none⟩)] W fun e w' => e = .returned (.bool true) ∧ (OwJ w' B (some ⟨g, 0, none⟩) m m (fun j => if j = r then f r + d else f j) ∧ w'.cell? ⟨x, 0, none⟩ = some (.slice (some ⟨g, 0, none⟩) m m)) ∧ Below B W w') :
    Calls Try.prog 89 #[.pointer (some ⟨p, 0, none⟩), cbv (zc c), .func (.func F) #[] #[.pointer (some ⟨x, 0, none⟩)]] w fun e w' => (e = .returned (.bool true) ∧ ∃ f', OwJ w' B (some ⟨g, 0, none⟩) m m f' ∧ w'.cell? ⟨x, 0, none⟩ = some (.slice (some ⟨g, 0, none⟩) m m) ∧ ∀ r, (RowC n ev c r → f' r = f r + d) ∧ (¬ RowC n ev c r → f' r = f r)) ∧ Below B w w' := by
  have hxl := lt_of_cell hx
  refine (rows_any ht hn hev hc F (.pointer (some ⟨x, 0, none⟩)) (fun P W => Below B w W ∧ ∃ f', OwJ W B (some ⟨g, 0, none⟩) m m f' ∧ W.cell? ⟨x, 0, none⟩ = some (.slice (some ⟨g, 0, none⟩) m m) ∧ ∀ r, (P r → f' r = f r + d) ∧ (¬ P r → f' r = f r)) (fun r W => False) eg (fun W h => ⟨h.mono hB, f, own.below h, (below_at h x 0 hxl).trans hx, fun r => ⟨fun h => h.elim, fun _ => rfl⟩⟩) fun P r W hr hP hJ => ?_).mono ?_
  · obtain ⟨hb, f', own', hx', he⟩ := hJ
    have hrm : r < m := by rw [← hm]; exact hr.1
    have e1 := (he r).2 hP
    refine (hF W r f' hx' own' hrm (by rw [e1]; exact hf r hr)).mono ?_
    rintro e w' ⟨rfl, ⟨own2, hx2⟩, hb2⟩
    refine .inl ⟨rfl, hb.trans hb2, _, own2, hx2, fun s => ⟨?_, ?_⟩⟩
    · intro h
      by_cases hs : s = r
      · subst hs; simp [e1]
      · simp only [if_neg hs]
        exact (he s).1 (h.elim id fun e => absurd e hs)
    · intro h
      have hs : s ≠ r := fun e => h (.inr e)
      simp only [if_neg hs]
      exact (he s).2 fun h1 => h (.inl h1)
  · rintro e w' (⟨rfl, hb, h⟩ | ⟨rfl, r, hr, h⟩)
    · exact ⟨⟨rfl, h⟩, hb⟩
    · exact h.elim
end
/-! ### implicant, prime -/
section
variable {w : World} {p n : Nat} {ev : Nat → Nat} {T : Nat → Bool} {c : Cn}
/-- an implicant, by its rows -/
def ImpR (n : Nat) (ev : Nat → Nat) (T : Nat → Bool) (c : Cn) : Prop := ∀ r, RowC n ev c r → T r = true
set_option maxHeartbeats 4000000 in
theorem implicant_any (ht : TabI w p n ev T) (hn : n ≤ 12) (hev : ∀ k, k < n → ev k < 24) (hc : okN c) :
    Calls Try.prog 106 #[.pointer (some ⟨p, 0, none⟩), cbv (zc c)] w fun e w' => (∃ b, e = .returned (.bool b) ∧ (b = true ↔ ImpR n ev T c)) ∧ Below w.heap.size w w' := by
  have K := Lib.hid (fun W (hW : Below w.heap.size w W) (hx : W.cell? ⟨w.heap.size, 0, none⟩ = some (.pointer (some ⟨p, 0, none⟩))) => rows_imp (ht.below hW) hn hev hc hx)
  have hI : ImpR n ev T c = ∀ r, RowC n ev c r → T r = true := rfl
  rw [← hI] at K
  clear hI
  generalize ImpR n ev T c = I at *
  obtain ⟨c1, c2⟩ := c
  clear ht hc hev
  go_enter Try.func106, Try.ntmps106
  go_wp2_with fail
  refine (K.out _ (by (skip); repeat' (first | (with_reducible exact Below.refl _ _) | (with_reducible assumption) | (with_reducible refine Below.alloc ?_ ?_ _) | (with_reducible refine Below.drew ?_) | (with_reducible refine below_drewN ?_ _) | (with_reducible refine Below.setCell ?_ ?_ _) | (with_reducible refine Below.trans ?_ (Below.mono (by with_reducible assumption) ?_)) | omega | (simp only [World.size_alloc, World.size_setCell, World.size_drew, size_drewN']; omega) | go_size)) (by simp [go_sem])).mono ?_
  rintro e w3 ⟨⟨b, rfl, hb⟩, hb3⟩
  have H := Lib.hid hb
  clear hb
  go_wp2_with fail
  go_returns
  exact ⟨⟨b, rfl, H.out⟩, (by have z0 := Below.size hb3; (try simp only [World.size_alloc, World.size_setCell, World.size_drew, size_drewN'] at z0 ⊢; skip); repeat' (first | (with_reducible exact Below.refl _ _) | (with_reducible assumption) | (with_reducible refine Below.alloc ?_ ?_ _) | (with_reducible refine Below.drew ?_) | (with_reducible refine below_drewN ?_ _) | (with_reducible refine Below.setCell ?_ ?_ _) | (with_reducible refine Below.trans ?_ (Below.mono (by with_reducible assumption) ?_)) | omega | (simp only [World.size_alloc, World.size_setCell, World.size_drew, size_drewN']; omega) | go_size))⟩
end
end Go.Proofs.Ytedopalmfakeaaa
