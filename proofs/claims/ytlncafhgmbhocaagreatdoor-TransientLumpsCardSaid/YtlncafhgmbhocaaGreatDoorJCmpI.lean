/- Contracts of functions and lemmas, used by the proofs of the given statements. No condition beyond those that each lemma names. -/
import Derived.Test.YtlncafhgmbhocaaGreatDoorJBase
import Derived.Sort.Grow
import Derived.Deep.Draws
import Derived.Test.YtlncafhgmbhocaaGreatDoorShelfM
import Derived.Test.YtlncafhgmbhocaaGreatDoorJLmW8
namespace Go.Proofs.YtlncafhgmbhocaaGreatDoor
open Go.RowKit Go.Sort
set_option linter.unusedSimpArgs false
set_option linter.unusedVariables false
set_option maxRecDepth 20000
/-! ## package cmp at int; worlds that only grow -/
/-- the first that is not 0 -/
def orI : List Int → Int
  | [] => 0
  | x :: l => if x = 0 then orI l else x
theorem orI_drop (l : List Int) (k : Nat) (hk : k < l.length) : orI (l.drop k) = if l[k] = 0 then orI (l.drop (k + 1)) else l[k] := by
  rw [List.drop_eq_getElem_cons hk, orI]
set_option maxHeartbeats 1000000 in
theorem cmpOr_any (g c : Nat) (l : List Int) (w : World) (hl : l.length ≤ 1000) (h : ∀ k (hk : k < l.length), w.cell? ⟨g, k, none⟩ = some (.int .i64 l[k])) :
    Calls Tryz.prog 44 #[.slice (some ⟨g, 0, none⟩) l.length c] w fun e w' => e = .returned (.int .i64 (orI l)) ∧ w = w' := by
  have H := Lib.hid h
  clear h
  go_enter Tryz.func44, Tryz.ntmps44
  go_wp2
  go_loopw [8] (fun i wr => ∃ k : Nat, k ≤ l.length ∧ i = .int .i64 k ∧ orI (l.drop k) = orI l ∧ w = wr) (fun i _ => l.length - (intOf i).toNat)
  case atStart => exact ⟨0, Nat.zero_le _, rfl, by simp, rfl⟩
  case round =>
    obtain ⟨k, hk, rfl, heq, rfl⟩ := hrel
    have HE := Lib.hid heq
    clear heq
    by_cases hlt : k < l.length
    · have hc := H.out k hlt
      have HD := Lib.hid (orI_drop l k hlt)
      generalize l[k] = x at *
      by_cases hx : x = 0
      · have HX : Hid (orI (l.drop (k + 1)) = orI l) := by show orI (l.drop (k + 1)) = orI l; rw [← HE.out, HD.out, if_pos hx]
        subst hx
        clear HD HE
        go_wp2
        go_roundw
        case rel => exact ⟨k + 1, by omega, by go_num, HX.out, by trivial⟩
        case measure => simp [intOf]; omega
      · have HX : Hid (x = orI l) := by show x = orI l; rw [← HE.out, HD.out, if_neg hx]
        have hx' : (x != 0) = true := by rw [bne_iff_ne]; exact hx
        clear HD HE hx
        go_wp2
        go_ret
        exact ⟨by rw [← HX.out]; rfl, rfl⟩
    · have HX : Hid (orI l = 0) := by show orI l = 0; rw [← HE.out, List.drop_eq_nil_of_le (by omega)]; rfl
      clear HE
      go_wp2
      go_ret
      exact ⟨by rw [HX.out]; rfl, rfl⟩
theorem cmpNaN_any (x : Int) (w : World) : Calls Tryz.prog 79 #[.int .i64 x] w fun e w' => e = .returned (.bool false) ∧ w = w' := by
  have e1 : (x != x) = false := by simp
  go_enter Tryz.func79, Tryz.ntmps79
  go_wp2
  go_ret
  exact ⟨rfl, rfl⟩
def cmpZ (x y : Int) : Int := if x < y then -1 else if y < x then 1 else 0
theorem cmpZ_any (x y : Int) (w : World) : Calls Tryz.prog 45 #[.int .i64 x, .int .i64 y] w fun e w' => e = .returned (.int .i64 (cmpZ x y)) ∧ w = w' := by
  by_cases h1 : x < y
  · have e0 : cmpZ x y = -1 := by simp [cmpZ, h1]
    rw [e0]
    clear e0
    go_enter Tryz.func45, Tryz.ntmps45
    go_wp2_with (first | (go_at_call 79; (with_reducible refine (cmpNaN_any _ _).mono ?_); rintro e _ ⟨rfl, rfl⟩) | fail)
    go_returns
    exact ⟨rfl, rfl⟩
  · by_cases h2 : y < x
    · have e0 : cmpZ x y = 1 := by simp [cmpZ, h1, h2]
      rw [e0]
      clear e0
      go_enter Tryz.func45, Tryz.ntmps45
      go_wp2_with (first | (go_at_call 79; (with_reducible refine (cmpNaN_any _ _).mono ?_); rintro e _ ⟨rfl, rfl⟩) | fail)
      go_returns
      exact ⟨rfl, rfl⟩
    · have e0 : cmpZ x y = 0 := by simp [cmpZ, h1, h2]
      rw [e0]
      clear e0
      go_enter Tryz.func45, Tryz.ntmps45
      go_wp2_with (first | (go_at_call 79; (with_reducible refine (cmpNaN_any _ _).mono ?_); rintro e _ ⟨rfl, rfl⟩) | fail)
      go_returns
      exact ⟨rfl, rfl⟩
/-- a world that a call has left with new blocks and draws alone -/
theorem grow_of {w w' : World} (hb : Below w.heap.size w w') (hd : w.drawn ≤ w'.drawn) : ∃ q os, w' = grow (w.drewN q) os := by
  refine ⟨w'.drawn - w.drawn, w'.heap.extract w.heap.size w'.heap.size, ?_⟩
  obtain ⟨h, t, d, o, u⟩ := w
  obtain ⟨h', t', d', o', u'⟩ := w'
  have e1 : o' = o := hb.os
  have e2 : t' = t := hb.tape
  have e3 : u' = u := hb.output
  have e4 : h.size ≤ h'.size := hb.size
  have e5 : ∀ k, k < h.size → h'[k]? = h[k]? := hb.block
  have e6 : d ≤ d' := hd
  subst e1 e2 e3
  have e7 : h' = h ++ h'.extract h.size h'.size := by
    apply Array.ext_getElem?
    intro i
    by_cases hi : i < h.size
    · rw [Array.getElem?_append_left hi, e5 i hi]
    · rw [Array.getElem?_append_right (by omega)]
      by_cases hj : i < h'.size
      · rw [Array.getElem?_extract]
        simp
        rw [if_pos (by omega), show h.size + (i - h.size) = i by omega]
      · rw [Array.getElem?_eq_none (by omega), Array.getElem?_eq_none (by simp; omega)]
  show World.mk h' t' d' o' u' = World.mk (h ++ h'.extract h.size h'.size) t' (d + (d' - d)) o' u'
  rw [← e7, show d + (d' - d) = d' by omega]
end Go.Proofs.YtlncafhgmbhocaaGreatDoor
namespace Go.Proofs.YtlncafhgmbhocaaGreatDoor
open Go.RowKit Go.Sort Go.Shelf
set_option linter.unusedSimpArgs false
set_option linter.unusedVariables false
set_option maxRecDepth 20000
attribute [local irreducible] nv wp win plainB validR valR canR
/-! ## package lump: the moves are sorted (they are sorted already) -/
theorem cmpOr2_any (g : Nat) (x y : Int) (w : World) (h0 : w.cell? ⟨g, 0, none⟩ = some (.int .i64 x)) (h1 : w.cell? ⟨g, 1, none⟩ = some (.int .i64 y)) :
    Calls Tryz.prog 44 #[.slice (some ⟨g, 0, none⟩) 2 2] w fun e w' => e = .returned (.int .i64 (orI [x, y])) ∧ w = w' :=
  cmpOr_any g 2 [x, y] w (by simp) (by
    intro k hk
    match k, hk with
    | 0, _ => exact h0
    | 1, _ => exact h1)
theorem two_cells (w : World) (x y : Value) (t : TypeId) {g : Nat} (hg : g = w.heap.size) : (w.alloc (.cells #[x, y] t)).cell? ⟨g, 0, none⟩ = some x ∧ (w.alloc (.cells #[x, y] t)).cell? ⟨g, 1, none⟩ = some y :=
  ⟨(World.cell?_alloc_at _ _ _ _ hg).trans rfl, (World.cell?_alloc_at _ _ _ _ hg).trans rfl⟩
theorem two_cellsD (w : World) (x y : Value) (t : TypeId) {g : Nat} (hg : g = w.heap.size) : (w.alloc (.cells #[x, y] t)).drew.cell? ⟨g, 0, none⟩ = some x ∧ (w.alloc (.cells #[x, y] t)).drew.cell? ⟨g, 1, none⟩ = some y := two_cells w x y t hg
set_option maxHeartbeats 4000000 in
theorem qcmp_any (f t f' t' : Int) {v v' : Value} (hv : isR v) (hv' : isR v') (w : World) :
    Calls Tryz.prog 43 #[.agg (cellM f t v).toArray, .agg (cellM f' t' v').toArray] w fun e w' => e = .returned (.int .i64 (orI [cmpZ f f', cmpZ t t'])) ∧ ∃ q os, w' = grow (w.drewN q) os := by
  obtain ⟨x, hx⟩ : ∃ x, x = cmpZ f f' := ⟨_, rfl⟩
  obtain ⟨y, hy⟩ : ∃ y, y = cmpZ t t' := ⟨_, rfl⟩
  obtain ⟨z, hz⟩ : ∃ z, z = orI [x, y] := ⟨_, rfl⟩
  have K1 : Hid (∀ W, Calls Tryz.prog 45 #[.int .i64 f, .int .i64 f'] W fun e w' => e = .returned (.int .i64 x) ∧ W = w') := fun W => by rw [hx]; exact cmpZ_any f f' W
  have K2 : Hid (∀ W, Calls Tryz.prog 45 #[.int .i64 t, .int .i64 t'] W fun e w' => e = .returned (.int .i64 y) ∧ W = w') := fun W => by rw [hy]; exact cmpZ_any t t' W
  have K3 : Hid (∀ g W, W.cell? ⟨g, 0, none⟩ = some (.int .i64 x) → W.cell? ⟨g, 1, none⟩ = some (.int .i64 y) → Calls Tryz.prog 44 #[.slice (some ⟨g, 0, none⟩) 2 2] W fun e w' => e = .returned (.int .i64 z) ∧ W = w') := fun g W h0 h1 => by rw [hz]; exact cmpOr2_any g x y W h0 h1
  rw [← hx, ← hy, ← hz]
  obtain ⟨s, A, a, c, B, b, d, rfl⟩ := hv
  obtain ⟨s', A', a', c', B', b', d', rfl⟩ := hv'
  have hmm : (cellM f t (rv s A a c B b d)).toArray = #[.int .i64 f, .int .i64 t, .bool s, .slice A a c, .slice B b d] := rfl
  have hmm' : (cellM f' t' (rv s' A' a' c' B' b' d')).toArray = #[.int .i64 f', .int .i64 t', .bool s', .slice A' a' c', .slice B' b' d'] := rfl
  rw [hmm, hmm']
  clear hmm hmm' hx hy hz
  go_enter Tryz.func43, Tryz.ntmps43
  go_wp2
  go_region_held3 (fun W => W.cell? ⟨w.heap.size, 0, none⟩ = some (.int .i64 f) ∧ W.cell? ⟨w.heap.size, 1, none⟩ = some (.int .i64 t) ∧ W.cell? ⟨w.heap.size + 1, 0, none⟩ = some (.int .i64 f') ∧ W.cell? ⟨w.heap.size + 1, 1, none⟩ = some (.int .i64 t')) (go_keep)
    (first | ((go_at_call 45; (with_reducible refine (K1.out _).mono ?_); rintro e _ ⟨rfl, rfl⟩)) | ((go_at_call 45; (with_reducible refine (K2.out _).mono ?_); rintro e _ ⟨rfl, rfl⟩)) | ((go_at_call 44; (with_reducible refine (K3.out _ _ (two_cells _ _ _ _ (by simp)).1 (two_cells _ _ _ _ (by simp)).2).mono ?_); rintro e _ ⟨rfl, rfl⟩)) | ((go_at_call 44; (with_reducible refine (K3.out _ _ (two_cellsD _ _ _ _ (by simp)).1 (two_cellsD _ _ _ _ (by simp)).2).mono ?_); rintro e _ ⟨rfl, rfl⟩)) | fail)
  all_goals
    go_wp2
    go_ret
    exact ⟨rfl, grow_of (by exact (by (skip); repeat' (first | (with_reducible exact Below.refl _ _) | (with_reducible assumption) | (with_reducible refine Below.alloc ?_ ?_ _) | (with_reducible refine Below.drew ?_) | (with_reducible refine below_drewN ?_ _) | (with_reducible refine Below.setCell ?_ ?_ _) | (with_reducible refine Below.trans ?_ (Below.mono (by with_reducible assumption) ?_)) | omega | (simp only [ZA, ZS, ZD, ZN]; omega) | go_size))) (by first | exact Nat.le_add_right _ _ | (show w.drawn ≤ _; simp [World.drew, World.drewN, World.alloc, World.setCell]; done))⟩
/-- two moves in order -/
theorem lex_lt {n : Nat} {F T : Nat → Int} (hs : ∀ i j, i < j → j < n → F i < F j ∨ F i = F j ∧ T i < T j) (i j : Nat) (hi : i < n) (hj : j < n) : decide (orI [cmpZ (F i) (F j), cmpZ (T i) (T j)] < 0) = decide (i < j) := by
  rcases Nat.lt_trichotomy i j with h | h | h
  · rw [show decide (i < j) = true from decide_eq_true h]
    rcases hs i j h hj with h1 | ⟨h1, h2⟩
    · simp [orI, cmpZ, h1]
    · simp [orI, cmpZ, h1, h2]
  · subst h
    simp [orI, cmpZ]
  · rw [show decide (i < j) = false from decide_eq_false (by omega)]
    rcases hs j i h hi with h1 | ⟨h1, h2⟩
    · have h3 : ¬ F i < F j := by omega
      simp [orI, cmpZ, h1, h3]
    · have h3 : ¬ T i < T j := by omega
      simp [orI, cmpZ, h1, h2, h3]
theorem cellsM_at {n : Nat} {F T : Nat → Int} {V : Nat → Value} (h : ∀ k, k < n → isR (V k)) {j : Nat} (hj : j < n * 5) : (cellsM n F T V)[j]? = (cellM (F (j / 5)) (T (j / 5)) (V (j / 5)))[j % 5]? := by
  have hk : j / 5 < n := by omega
  obtain ⟨s, A, a, c, B, b, d, e⟩ := h _ hk
  obtain ⟨g0, g1, g2, g3, g4⟩ := cellsM_get (F := F) (T := T) h hk e
  have hj5 : j = j / 5 * 5 + j % 5 := by omega
  have hm : j % 5 < 5 := Nat.mod_lt _ (by omega)
  rw [e]
  generalize j / 5 = k at *
  generalize j % 5 = r at *
  subst hj5
  match r, hm with
  | 0, _ => rw [Nat.add_zero, g0]; rfl
  | 1, _ => rw [g1]; rfl
  | 2, _ => rw [g2]; rfl
  | 3, _ => rw [g3]; rfl
  | 4, _ => rw [g4]; rfl
set_option maxHeartbeats 4000000 in
theorem qsort_any {w : World} {b0 c n : Nat} {A : Option Addr} {F T : Nat → Int} {R : Nat → Rw} (ho : OwM w b0 A c n F T R) (hs : ∀ i j, i < j → j < n → F i < F j ∨ F i = F j ∧ T i < T j) (hn : n ≤ 1000000) :
    Calls Tryz.prog 42 #[.slice A n c, .func (.func 43) #[] #[]] w fun e w' => e = .returned (.tuple #[]) ∧ Below w.heap.size w w' := by
  rcases Nat.eq_zero_or_pos n with h0 | hpos
  · subst h0
    exact (AnyF.slices_SortFunc_none Tryz.sortM A c (.func (.func 43) #[] #[]) w).mono fun e w' ⟨he, hw⟩ => ⟨he, by rw [hw]; exact Below.refl _ _⟩
  · obtain ⟨V, hV, hown⟩ := ho
    have hR : ∀ k, k < n → isR (V k) := fun k hk => (hV k hk).isR
    rcases hown.2 with ⟨_, h⟩ | ⟨g, cap, cur, e, hb, hg, -⟩
    · omega
    · injection e with e1 e2 e3
      subst e1 e3
      haveI : Inhabited (Fin n) := ⟨⟨0, hpos⟩⟩
      obtain ⟨enc, henc⟩ : ∃ enc : Fin n → List Value, enc = fun i : Fin n => cellM (F i.1) (T i.1) (V i.1) := ⟨_, rfl⟩
      obtain ⟨d, hd⟩ : ∃ d : Array (Fin n), d = Array.ofFn (fun i : Fin n => i) := ⟨_, rfl⟩
      have hds : d.size = n := by rw [hd]; exact Array.size_ofFn
      have hdg : ∀ j (hj : j < n), d[j]! = ⟨j, hj⟩ := fun j hj => by rw [getElem!_pos d j (by omega)]; subst hd; simp
      have hek : ∀ x, (enc x).length = 5 := fun x => by rw [henc]; exact cellM_len (hR x x.2)
      have he1 : ∀ x, ∀ v ∈ enc x, v.oneCell' = true := fun x v hv => by
        rw [henc] at hv
        obtain ⟨s, A, a, c, B, b, d, e⟩ := hR x x.2
        simp only at hv
        rw [e] at hv
        simp [cellM, c3] at hv
        rcases hv with rfl | rfl | rfl | rfl | rfl <;> rfl
      obtain ⟨cf, hcf⟩ : ∃ cf : Fin n → Fin n → Int, cf = fun i j : Fin n => orI [cmpZ (F i.1) (F j.1), cmpZ (T i.1) (T j.1)] := ⟨_, rfl⟩
      have hlt : ∀ i j, ltOf cf i j = decide (i.1 < j.1) := fun i j => by
        unfold ltOf
        rw [hcf]
        exact lex_lt hs i j i.2 j.2
      have hO : SWO (ltOf cf) := {
        irrefl := fun x => by rw [hlt]; simp
        trans := fun x y z h1 h2 => by rw [hlt] at *; simp at *; omega
        ntrans := fun x y z h1 h2 => by rw [hlt] at *; simp at *; omega }
      have hH : HoldsK enc 5 w g 0 d := fun j hj => by
        rw [size_flatK, hds] at hj
        refine ⟨?_, World.ownsRow.frozenAt hown _⟩
        rw [get_flatK _ _ _ _ (by rw [hds]; exact hj), hdg _ (by omega : j / 5 < n), henc]
        show w.cell? ⟨g, 0 + j, none⟩ = some (cellM (F (j / 5)) (T (j / 5)) (V (j / 5)))[j % 5]!
        rw [Nat.zero_add, World.ownsRow.cellAt hown j (by omega), cellsM_at hR hj]
        have hm : j % 5 < (cellM (F (j / 5)) (T (j / 5)) (V (j / 5))).length := by rw [cellM_len (hR _ (by omega))]; omega
        rw [List.getElem?_eq_getElem hm, getElem!_pos (cellM (F (j / 5)) (T (j / 5)) (V (j / 5))) (j % 5) hm]
      have hgs : g < w.heap.size := (Array.getElem?_eq_some_iff.1 hg).1
      have eg : ∀ args w, (callFunc 43 args).run Tryz.prog w = .ok (.enter 43 args) w := enters_of Tryz.func43 (by kernel_rfl) rfl
      have hcmp : CmpLays Tryz.prog 43 #[] enc 5 cf g 0 d.size w := fun m os dk _ x y => by
        rw [henc, hcf]
        exact qcmp_any (F x) (T x) (F y) (T y) (hR x x.2) (hR y y.2) _
      have hT : ∀ x y, (ltOf cf) x y = false → (ltOf cf) y x = false → x = y := fun x y h1 h2 => by
        rw [hlt] at h1 h2
        simp at h1 h2
        exact Fin.ext (by omega)
      have hcon := AnyQ.slices_SortFunc_total Tryz.sortM 5 Tryz.isAgg46 Tryz.sizeOf46 enc hek he1 cf hO 43 #[] g 0 c d w eg hcmp hH hgs (by omega) hT
      rw [hds] at hcon
      change Calls Tryz.prog 42 _ _ _ at hcon
      refine hcon.mono fun e w' ⟨he, q, os, hw⟩ => ⟨he, ?_⟩
      have hms : (d.toList.mergeSort fun x y => !(ltOf cf) y x) = d.toList := by
        refine List.mergeSort_of_pairwise ?_
        rw [hd, Array.toList_ofFn]
        rw [List.pairwise_iff_getElem]
        intro i j hi hj hij
        rw [hlt]
        simp
        omega
      rw [hms] at hw
      rw [hw]
      unfold sortWorldK
      rw [putRowK_self enc 5 (Sort.ahead w q) g 0 d.toList.toArray (by exact hH)]
      refine ⟨rfl, rfl, rfl, by show w.heap.size ≤ (w.heap ++ os).size; simp, fun k hk => ?_⟩
      show (w.heap ++ os)[k]? = w.heap[k]?
      exact Array.getElem?_append_left hk
end Go.Proofs.YtlncafhgmbhocaaGreatDoor
