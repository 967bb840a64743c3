/- Contracts of functions and lemmas, used by the proofs of the given statements. No condition beyond those that each lemma names. -/
import Derived.Test.YtedopalmfakeaaaJBase
import Derived.Sort.Grow
import Derived.Deep.Draws
namespace Go.Proofs.Ytedopalmfakeaaa
open Go.RowKit Go.Sort
set_option linter.unusedSimpArgs false
set_option linter.unusedVariables false
set_option maxRecDepth 20000
/-! ## package cmp at int; worlds that only grow -/
/-- the first that is not 0 -/
def orI : List Int → Int
  | [] => 0
  | x :: l => if x = 0 then orI l else x
theorem orI_drop (l : List Int) (k : Nat) (hk : k < l.length) : orI (l.drop k) = if l[k] = 0 then orI (l.drop (k + 1)) else l[k] := by
  rw [List.drop_eq_getElem_cons hk, orI]
set_option maxHeartbeats 1000000 in
theorem cmpOr_any (g c : Nat) (l : List Int) (w : World) (hl : l.length ≤ 1000) (h : ∀ k (hk : k < l.length), w.cell? ⟨g, k, none⟩ = some (.int .i64 l[k])) :
    Calls Try.prog 114 #[.slice (some ⟨g, 0, none⟩) l.length c] w fun e w' => e = .returned (.int .i64 (orI l)) ∧ w = w' := by
  have H := Lib.hid h
  clear h
  go_enter Try.func114, Try.ntmps114
  go_wp2
  go_loopw [8] (fun i wr => ∃ k : Nat, k ≤ l.length ∧ i = .int .i64 k ∧ orI (l.drop k) = orI l ∧ w = wr) (fun i _ => l.length - (intOf i).toNat)
  case atStart => exact ⟨0, Nat.zero_le _, rfl, by simp, rfl⟩
  case round =>
    obtain ⟨k, hk, rfl, heq, rfl⟩ := hrel
    have HE := Lib.hid heq
    clear heq
    by_cases hlt : k < l.length
    · have hc := H.out k hlt
      have HD := Lib.hid (orI_drop l k hlt)
      generalize l[k] = x at *
      by_cases hx : x = 0
      · have HX : Hid (orI (l.drop (k + 1)) = orI l) := by show orI (l.drop (k + 1)) = orI l; rw [← HE.out, HD.out, if_pos hx]
        subst hx
        clear HD HE
        go_wp2
        go_roundw
        case rel => exact ⟨k + 1, by omega, by go_num, HX.out, by trivial⟩
        case measure => simp [intOf]; omega
      · have HX : Hid (x = orI l) := by show x = orI l; rw [← HE.out, HD.out, if_neg hx]
        have hx' : (x != 0) = true := by rw [bne_iff_ne]; exact hx
        clear HD HE hx
        go_wp2
        go_ret
        exact ⟨by rw [← HX.out]; rfl, rfl⟩
    · have HX : Hid (orI l = 0) := by show orI l = 0; rw [← HE.out, List.drop_eq_nil_of_le (by omega)]; rfl
      clear HE
      go_wp2
      go_ret
      exact ⟨by rw [HX.out]; rfl, rfl⟩
theorem cmpNaN_any (x : Int) (w : World) : Calls Try.prog 134 #[.int .i64 x] w fun e w' => e = .returned (.bool false) ∧ w = w' := by
  have e1 : (x != x) = false := by simp
  go_enter Try.func134, Try.ntmps134
  go_wp2
  go_ret
  exact ⟨rfl, rfl⟩
def cmpZ (x y : Int) : Int := if x < y then -1 else if y < x then 1 else 0
theorem cmpZ_any (x y : Int) (w : World) : Calls Try.prog 115 #[.int .i64 x, .int .i64 y] w fun e w' => e = .returned (.int .i64 (cmpZ x y)) ∧ w = w' := by
  by_cases h1 : x < y
  · have e0 : cmpZ x y = -1 := by simp [cmpZ, h1]
    rw [e0]
    clear e0
    go_enter Try.func115, Try.ntmps115
    go_wp2_with (first | (go_at_call 134; (with_reducible refine (cmpNaN_any _ _).mono ?_); rintro e _ ⟨rfl, rfl⟩) | fail)
    go_returns
    exact ⟨rfl, rfl⟩
  · by_cases h2 : y < x
    · have e0 : cmpZ x y = 1 := by simp [cmpZ, h1, h2]
      rw [e0]
      clear e0
      go_enter Try.func115, Try.ntmps115
      go_wp2_with (first | (go_at_call 134; (with_reducible refine (cmpNaN_any _ _).mono ?_); rintro e _ ⟨rfl, rfl⟩) | fail)
      go_returns
      exact ⟨rfl, rfl⟩
    · have e0 : cmpZ x y = 0 := by simp [cmpZ, h1, h2]
      rw [e0]
      clear e0
      go_enter Try.func115, Try.ntmps115
      go_wp2_with (first | (go_at_call 134; (with_reducible refine (cmpNaN_any _ _).mono ?_); rintro e _ ⟨rfl, rfl⟩) | fail)
      go_returns
      exact ⟨rfl, rfl⟩
/-- a world that a call has left with new blocks and draws alone -/
theorem grow_of {w w' : World} (hb : Below w.heap.size w w') (hd : w.drawn ≤ w'.drawn) : ∃ q os, w' = grow (w.drewN q) os := by
  refine ⟨w'.drawn - w.drawn, w'.heap.extract w.heap.size w'.heap.size, ?_⟩
  obtain ⟨h, t, d, o, u⟩ := w
  obtain ⟨h', t', d', o', u'⟩ := w'
  have e1 : o' = o := hb.os
  have e2 : t' = t := hb.tape
  have e3 : u' = u := hb.output
  have e4 : h.size ≤ h'.size := hb.size
  have e5 : ∀ k, k < h.size → h'[k]? = h[k]? := hb.block
  have e6 : d ≤ d' := hd
  subst e1 e2 e3
  have e7 : h' = h ++ h'.extract h.size h'.size := by
    apply Array.ext_getElem?
    intro i
    by_cases hi : i < h.size
    · rw [Array.getElem?_append_left hi, e5 i hi]
    · rw [Array.getElem?_append_right (by omega)]
      by_cases hj : i < h'.size
      · rw [Array.getElem?_extract]
        simp
        rw [if_pos (by omega), show h.size + (i - h.size) = i by omega]
      · rw [Array.getElem?_eq_none (by omega), Array.getElem?_eq_none (by simp; omega)]
  show World.mk h' t' d' o' u' = World.mk (h ++ h'.extract h.size h'.size) t' (d + (d' - d)) o' u'
  rw [← e7, show d + (d' - d) = d' by omega]
end Go.Proofs.Ytedopalmfakeaaa
