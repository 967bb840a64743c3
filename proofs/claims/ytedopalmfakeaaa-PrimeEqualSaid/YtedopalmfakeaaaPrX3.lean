/- Contracts of functions and lemmas, used by the proofs of the given statements. No condition beyond those that each lemma names. -/
import Derived.Test.YtedopalmfakeaaaPrX2
namespace Go.Proofs.Ytedopalmfakeaaa
open Go.RowKit Go.Sort
set_option linter.unusedSimpArgs false
set_option linter.unusedVariables false
set_option maxRecDepth 20000
/-! ## law13: the reference's states, Implicant, Prime -/
attribute [local irreducible] pop popc
/-- a load that a region does not take first -/
def ldJ (t : TypeId) (x : Operand) : Op := .load t x
@[go_sem] theorem ldJ_eq (t : TypeId) (x : Operand) : ldJ t x = .load t x := rfl
theorem ld_J (t : TypeId) (x : Operand) : Op.load t x = ldJ t x := rfl
/-- a list of numbers as a row -/
def lsJ (l : List Nat) (j : Nat) : Int := (l.getD j 0 : Nat)
theorem lsJ_at {l : List Nat} {k : Nat} (hk : k < l.length) : lsJ l k = (l[k] : Nat) := by
  unfold lsJ
  rw [List.getD_eq_getElem?_getD, List.getElem?_eq_getElem hk]; rfl
theorem lsJ_app {w : World} {b0 c n g x : Nat} {l : List Nat} (hn : l.length = n) (h : OwJ w b0 (some ⟨g, 0, none⟩) c (n + 1) (fun j => if j = n then (x : Int) else lsJ l j)) : OwJ w b0 (some ⟨g, 0, none⟩) c (l ++ [x]).length (lsJ (l ++ [x])) := by
  rw [List.length_append, hn]
  refine h.congr fun j hj => ?_
  unfold lsJ
  by_cases e : j = n
  · subst e
    rw [if_pos rfl, List.getD_eq_getElem?_getD, List.getElem?_append_right (by omega), hn]
    simp
  · rw [if_neg e, List.getD_eq_getElem?_getD, List.getD_eq_getElem?_getD, List.getElem?_append_left (by rw [hn]; have : [x].length = 1 := rfl; omega)]
theorem step_appJ {w : World} {ops : Array Oper} {o : Oper} {a : Act} {K : Act → World → Prop} {Q : Exit → Act → World → Prop} {E : Prop} (hgd : o.guard = none) (s x : Operand)
    (ho : o.op = .call { callee := .builtin .append, args := #[s, x], argTypes := #[71, 71] })
    (b0 : Nat) (A : Option Addr) (c n : Nat) (f : Nat → Int) (hs : a.eval s = .slice A n c) (hown : OwJ w b0 A c n f)
    (B : Nat) (v : Int) (hx : a.eval x = .slice (some ⟨B, 0, none⟩) 1 1) (hc0 : w.cell? ⟨B, 0, none⟩ = some (.int .i64 v))
    (hn : n ≤ 1000000) (hbase : b0 ≤ w.heap.size)
    (h : ∀ g cap w', OwJ w' b0 (some ⟨g, 0, none⟩) cap (n + 1) (fun j => if j = n then v else f j) → Below b0 w w' → g < w'.heap.size → K (a.put o.dst (.slice (some ⟨g, 0, none⟩) (n + 1) cap)) w') :
    if Region.wanted o (yielded ops a.tmps) = true then Oper.wp Try.prog o a w K Q else E := by
  obtain ⟨i0, hi0, hz0, hz1, hz2⟩ := info_parts infoJ
  refine step_append_lies _ hgd s x 71 ho b0 3 i0 _ 1 8 Try.underlying71 hi0 hz0 hz1 hz2 rfl (by omega) _ n _ hs hown ⟨B, 0, none⟩ 1 1 [.int .i64 v] hx rfl ?_ ?_ (by omega) (by unfold maxLen; omega) (by omega) hbase w.heap.size rfl ?_
  · intro j u hu
    rw [addr_add, Nat.zero_add]
    match j, hu with
    | 0, hu => simp at hu; subst hu; exact hc0
    | j + 1, hu => simp at hu
  · intro u hu
    simp at hu
    subst hu; rfl
  · intro g cap w' h1 h2 h3 h4
    refine h g cap w' ?_ ((Below.refl _ _).grown h2 hbase fun k hk => (World.ownsRow.lt hown k hk).1) h4
    unfold OwJ
    rw [ivl_succ, ivl_congr (g := f) (fun j hj => by rw [if_neg (by omega)])]
    simpa using h1
theorem ownJ_lit {W : World} {base : Nat} (hb : base ≤ W.heap.size) : OwJ (W.alloc (.cells #[.int .i64 0] 3)) base (some ⟨W.heap.size, 0, none⟩) 1 1 (lsJ [0]) :=
  ⟨rfl, .inr ⟨W.heap.size, 1, #[.int .i64 0], rfl, hb, heap_alloc_new W _, Nat.le_refl _, by unfold maxLen; omega, rfl, rfl⟩⟩
section
variable {w : World} {A : Option Addr} {cp v : Nat} {f : FrR} {c : Cn}
theorem rval13_ok {t : Nat} (h : FrI w A f) (ok : FrOk f) (hv : f.vars = v) (ht : t < 16777216) :
    Calls Try.prog 100 #[fv (v : Int) A f.nn cp f.top, .int .i64 (t : Int)] w fun e w' => e = .returned (.bool (f.fr.val t)) ∧ Below w.heap.size w w' := by
  have K := Lib.hid (fun W (hW : Below w.heap.size w W) => rvalue_ok (c := cp) (h.below hW) ok hv ht)
  generalize f.fr.val t = b at *
  generalize f.nn = nn at *
  generalize f.top = tp at *
  clear h ok hv
  go_enter Try.func100, Try.ntmps100
  go_wp2_with fail
  refine (K.out _ (by (skip); repeat' (first | (with_reducible exact Below.refl _ _) | (with_reducible assumption) | (with_reducible refine Below.alloc ?_ ?_ _) | (with_reducible refine Below.drew ?_) | (with_reducible refine below_drewN ?_ _) | (with_reducible refine Below.setCell ?_ ?_ _) | (with_reducible refine Below.trans ?_ (Below.mono (by with_reducible assumption) ?_)) | omega | (simp only [World.size_alloc, World.size_setCell, World.size_drew, size_drewN']; omega) | go_size))).mono ?_
  rintro e w1 ⟨rfl, hb1⟩
  go_wp2_with fail
  go_returns
  exact ⟨rfl, (by have z0 := Below.size hb1; (try simp only [World.size_alloc, World.size_setCell, World.size_drew, size_drewN'] at z0 ⊢; skip); repeat' (first | (with_reducible exact Below.refl _ _) | (with_reducible assumption) | (with_reducible refine Below.alloc ?_ ?_ _) | (with_reducible refine Below.drew ?_) | (with_reducible refine below_drewN ?_ _) | (with_reducible refine Below.setCell ?_ ?_ _) | (with_reducible refine Below.trans ?_ (Below.mono (by with_reducible assumption) ?_)) | omega | (simp only [World.size_alloc, World.size_setCell, World.size_drew, size_drewN']; omega) | go_size))⟩
set_option maxHeartbeats 4000000 in
theorem rstates_ok (h : FrI w A f) (ok : FrOk f) (hv : f.vars = v) (h7 : popc (supF f.fr) ≤ 12) :
    Calls Try.prog 99 #[fv (v : Int) A f.nn cp f.top] w fun e w' => (∃ A' c', e = .returned (.slice A' (stsN (supF f.fr) v).length c') ∧ OwJ w' w.heap.size A' c' (stsN (supF f.fr) v).length (lsJ (stsN (supF f.fr) v))) ∧ Below w.heap.size w w' := by
  have v1 : v ≤ 24 := by have := ok.v1; omega
  have hS : supF f.fr < 16777216 := (supF_lt ok hv).2
  have K1 := Lib.hid (fun W (hW : Below w.heap.size w W) => rsup13_ok (c := cp) (h.below hW) ok hv)
  generalize supF f.fr = S at *
  generalize f.nn = nn at *
  generalize f.top = tp at *
  have HLN : Hid (∀ k, k ≤ v → (stsN S k).length ≤ 4096) := fun k hk => sts_room h7 (by omega)
  clear ok hv h h7
  go_enter Try.func99, Try.ntmps99
  go_wp2_with fail
  refine (K1.out _ (by (skip); repeat' (first | (with_reducible exact Below.refl _ _) | (with_reducible assumption) | (with_reducible refine Below.alloc ?_ ?_ _) | (with_reducible refine Below.drew ?_) | (with_reducible refine below_drewN ?_ _) | (with_reducible refine Below.setCell ?_ ?_ _) | (with_reducible refine Below.trans ?_ (Below.mono (by with_reducible assumption) ?_)) | omega | (simp only [World.size_alloc, World.size_setCell, World.size_drew, size_drewN']; omega) | go_size))).mono ?_
  rintro e w1 ⟨rfl, hb1⟩
  have hb1z := hb1.size
  simp only [World.size_alloc] at hb1z
  have x0 : w1.cell? ⟨w.heap.size, 0, none⟩ = some (.int .i64 (v : Int)) := (below_at hb1 w.heap.size 0 (by simp)).trans (by simp [go_sem])
  have hbA : Below w.heap.size w w1 := (by have z0 := Below.size hb1; (try simp only [World.size_alloc, World.size_setCell, World.size_drew, size_drewN'] at z0 ⊢; skip); repeat' (first | (with_reducible exact Below.refl _ _) | (with_reducible assumption) | (with_reducible refine Below.alloc ?_ ?_ _) | (with_reducible refine Below.drew ?_) | (with_reducible refine below_drewN ?_ _) | (with_reducible refine Below.setCell ?_ ?_ _) | (with_reducible refine Below.trans ?_ (Below.mono (by with_reducible assumption) ?_)) | omega | (simp only [World.size_alloc, World.size_setCell, World.size_drew, size_drewN']; omega) | go_size))
  clear hb1
  go_wp2_with fail
  have ownL : OwJ (w1.alloc (.cells #[.int .i64 0] 3)) (w.heap.size + 1) (some ⟨w1.heap.size, 0, none⟩) 1 1 (lsJ [0]) := ownJ_lit (by omega)
  have x0' : (w1.alloc (.cells #[.int .i64 0] 3)).cell? ⟨w.heap.size, 0, none⟩ = some (.int .i64 (v : Int)) := (below_at ((Below.refl w1.heap.size w1).alloc (Nat.le_refl _) _) w.heap.size 0 (by omega)).trans x0
  have hbB : Below w.heap.size w (w1.alloc (.cells #[.int .i64 0] 3)) := (by have z0 := Below.size hbA; (try simp only [World.size_alloc, World.size_setCell, World.size_drew, size_drewN'] at z0 ⊢; skip); repeat' (first | (with_reducible exact Below.refl _ _) | (with_reducible assumption) | (with_reducible refine Below.alloc ?_ ?_ _) | (with_reducible refine Below.drew ?_) | (with_reducible refine below_drewN ?_ _) | (with_reducible refine Below.setCell ?_ ?_ _) | (with_reducible refine Below.trans ?_ (Below.mono (by with_reducible assumption) ?_)) | omega | (simp only [World.size_alloc, World.size_setCell, World.size_drew, size_drewN']; omega) | go_size))
  have hz2 : w.heap.size + 1 ≤ (w1.alloc (.cells #[.int .i64 0] 3)).heap.size := by simp; omega
  obtain ⟨w2, hw2⟩ : ∃ w2, w2 = w1.alloc (.cells #[.int .i64 0] 3) := ⟨_, rfl⟩
  rw [← hw2] at ownL x0' hbB hz2 ⊢
  generalize w1.heap.size = gL at *
  clear hw2 x0 hbA hb1z
  go_loopw [4, 5] (fun o i wr => ∃ (k : Nat) (A' : Option Addr) (c' : Nat), k ≤ v ∧ o = .slice A' (stsN S k).length c' ∧ i = .int .i64 k ∧ OwJ wr (w.heap.size + 1) A' c' (stsN S k).length (lsJ (stsN S k)) ∧ Below w.heap.size w wr ∧ w.heap.size + 1 ≤ wr.heap.size ∧ wr.cell? ⟨w.heap.size, 0, none⟩ = some (.int .i64 (v : Int))) (fun _ i _ => v - (intOf i).toNat)
  case atStart => exact ⟨0, _, 1, Nat.zero_le _, rfl, rfl, ownL, hbB, hz2, x0'⟩
  case round =>
    obtain ⟨k, A', c', hk, rfl, rfl, own, hb, hz, x0⟩ := hrel
    clear ownL x0' hbB hz2
    obtain ⟨wo, rfl⟩ : ∃ wo : World, wo = wr := ⟨_, rfl⟩
    have hlen := HLN.out k hk
    by_cases hkv : k < v
    · have t1 := shr_eq S k
      have hq : S / 2 ^ k < 16777216 := Nat.lt_of_le_of_lt (Nat.div_le_self _ _) hS
      have t2 : bits .and .i64 ((S / 2 ^ k : Nat) : Int) 1 = ((S / 2 ^ k % 2 : Nat) : Int) := by
        have := i64_and (S / 2 ^ k) 1 (by omega) (by omega)
        rw [Nat.and_one_is_mod] at this
        exact this
      rw [bit_div] at t2
      have HS1 : Hid (stsN S (k + 1) = if S.testBit k then stsN S k ++ (stsN S k).map (fun t => t ||| 2 ^ k) else stsN S k) := rfl
      have hlen2 := HLN.out (k + 1) hkv
      have HLT : Hid (∀ q (hq : q < (stsN S k).length), (stsN S k)[q] < 16777216) := fun q hq => sts_lt (by omega) (List.getElem_mem hq)
      cases hbk : S.testBit k
      · rw [hbk] at t2 HS1
        have t3 : bits .and .i64 ((S / 2 ^ k : Nat) : Int) 1 = 0 := t2
        have HX : Hid (stsN S (k + 1) = stsN S k) := HS1.out
        clear hbk t2 HS1 hlen2
        generalize S / 2 ^ k = r1 at *
        go_wp2
        go_roundw
        case rel => exact ⟨k + 1, A', c', by omega, by rw [HX.out], by go_num, by rw [HX.out]; exact own, hb, hz, x0⟩
        case measure => simp [intOf]; omega
      · rw [hbk] at t2 HS1
        have t3 : bits .and .i64 ((S / 2 ^ k : Nat) : Int) 1 = 1 := t2
        have HX : Hid (stsN S (k + 1) = stsN S k ++ (stsN S k).map (fun t => t ||| 2 ^ k)) := HS1.out
        have hL2 : (stsN S (k + 1)).length = (stsN S k).length + (stsN S k).length := by rw [HX.out, List.length_append, List.length_map]
        have hpk := pow_lt24 (k := k) (by omega)
        have s1 := shl_eq (k := k) (by clear t1 t2 t3 hq hpk; omega)
        have HP := Lib.hid hpk
        have s2 : IntKind.i64.wrap ((2 : Int) ^ k) = ((2 ^ k : Nat) : Int) := by
          rw [show (2 : Int) ^ k = ((2 ^ k : Nat) : Int) from by simp]
          clear t1 t2 t3 hq s1 HX hL2
          generalize 2 ^ k = p at *
          rw [IntKind.wrap_i64]; omega
        clear hbk t2 HS1
        generalize S / 2 ^ k = r1 at *
        have HL2 := Lib.hid hL2
        rw [hL2] at hlen2
        clear hL2
        generalize stsN S k = L at *
        generalize hL2d : stsN S (k + 1) = L2 at *
        have HD2 := Lib.hid hL2d
        clear hL2d
        generalize 2 ^ k = pk at *
        go_wp2
        go_loopw [4, 7] (fun o i wr => ∃ (q : Nat) (A' : Option Addr) (c' : Nat), q ≤ L.length ∧ o = .slice A' (L.length + q : Nat) c' ∧ i = .int .i64 q ∧ OwJ wr (w.heap.size + 1) A' c' (L ++ (L.map fun t => t ||| pk).take q).length (lsJ (L ++ (L.map fun t => t ||| pk).take q)) ∧ Below w.heap.size w wr ∧ w.heap.size + 1 ≤ wr.heap.size ∧ wr.cell? ⟨w.heap.size, 0, none⟩ = some (.int .i64 (v : Int))) (fun _ i _ => L.length - (intOf i).toNat)
        case atStart => exact ⟨0, A', c', Nat.zero_le _, by simp, rfl, by simpa using own, hb, hz, x0⟩
        case round =>
          obtain ⟨q, A2, c2, hq, rfl, rfl, own2, hb2, hz2, x02⟩ := hrel
          clear own hb hz x0
          obtain ⟨wu, rfl⟩ : ∃ wu : World, wu = wr := ⟨_, rfl⟩
          have hl1 : (L ++ (L.map fun t => t ||| pk).take q).length = L.length + q := by
            rw [List.length_append, List.length_take, List.length_map, Nat.min_eq_left hq]
          by_cases hql : q < L.length
          · have hx := HLT.out q hql
            have HT : Hid ((L.map fun t => t ||| pk).take (q + 1) = (L.map fun t => t ||| pk).take q ++ [L[q] ||| pk]) := by
              show _ = _
              rw [List.take_succ_eq_append_getElem (by rw [List.length_map]; exact hql), List.getElem_map]
            obtain ⟨g, rfl, hg1, hg2⟩ := own2.form (by rw [hl1]; omega)
            have cq := own2.at_ (k := q) (by rw [hl1]; omega)
            rw [lsJ_at (by rw [hl1]; omega), List.getElem_append_left (by exact hql)] at cq
            generalize L[q] = x at *
            have e3 := i64_or x pk (Nat.lt_trans hx (by decide)) (Nat.lt_trans HP.out (by decide))
            generalize x ||| pk = y at *
            have HL1 := Lib.hid hl1
            rw [hl1] at own2
            have hbz := hb2.size
            clear hl1 hx
            generalize hM : L ++ (L.map fun t => t ||| pk).take q = M at *
            have HM := Lib.hid hM
            clear hM
            have hwl : w.heap.size < wu.heap.size := by omega
            have HO2 := Lib.hid own2
            have i1 : (0 : Int) ≤ (q : Int) := by omega
            have i2 : (q : Int) < ((L.length + q : Nat) : Int) := by omega
            have i3 : (q : Int) < (L.length : Int) + (q : Int) := by omega
            clear own2
            go_wp2
            rw [ld_J 3 (.tmp 32)]
            go_region_held3 (fun _ => True) (exact trivial)
              (first | (refine step_appJ (by rfl) (.tmp 29) (.tmp 37) (by rfl) (w.heap.size + 1) (some ⟨g, 0, none⟩) c2 (L.length + q) (lsJ M) (by rfl) (HO2.out.below (by (skip); repeat' (first | (with_reducible exact Below.refl _ _) | (with_reducible assumption) | (with_reducible refine Below.alloc ?_ ?_ _) | (with_reducible refine Below.drew ?_) | (with_reducible refine below_drewN ?_ _) | (with_reducible refine Below.setCell ?_ ?_ _) | (with_reducible refine Below.trans ?_ (Below.mono (by with_reducible assumption) ?_)) | omega | (simp only [World.size_alloc, World.size_setCell, World.size_drew, size_drewN']; omega) | go_size))) wu.heap.size (y : Int) (by rfl) (by simp [go_sem, s2, e3]) (by omega) (by simp; omega) ?_; intro g4 c4 w4 own4 hb4 hg4) | fail)
            have hb4z := hb4.size
            simp only [World.size_alloc, World.size_drew] at hb4z
            have own5 := lsJ_app HL1.out own4
            have x04 : w4.cell? ⟨w.heap.size, 0, none⟩ = some (.int .i64 (v : Int)) := (below_at hb4 w.heap.size 0 (by omega)).trans ((below_at ((Below.refl wu.heap.size wu).alloc (Nat.le_refl _) _) w.heap.size 0 hwl).trans x02)
            have HE : Hid (M ++ [y] = L ++ (L.map fun t => t ||| pk).take (q + 1)) := by
              show _ = _
              rw [HT.out, ← List.append_assoc, HM.out]
            rw [HE.out] at own5
            go_wp2
            go_roundw
            case rel => exact ⟨q + 1, some ⟨g4, 0, none⟩, c4, by omega, by first | rfl | go_num | (simp; omega), by go_num, own5, (by have z0 := Below.size hb2; have z1 := Below.size hb4; (try simp only [World.size_alloc, World.size_setCell, World.size_drew, size_drewN'] at z0 z1 ⊢; skip); repeat' (first | (with_reducible exact Below.refl _ _) | (with_reducible assumption) | (with_reducible refine Below.alloc ?_ ?_ _) | (with_reducible refine Below.drew ?_) | (with_reducible refine below_drewN ?_ _) | (with_reducible refine Below.setCell ?_ ?_ _) | (with_reducible refine Below.trans ?_ (Below.mono (by with_reducible assumption) ?_)) | omega | (simp only [World.size_alloc, World.size_setCell, World.size_drew, size_drewN']; omega) | go_size)), by omega, x04⟩
            case measure => simp [intOf]; omega
          · have HE : Hid (L ++ (L.map fun t => t ||| pk).take q = L2) := by
              show _ = _
              rw [HX.out, List.take_of_length_le (by rw [List.length_map]; omega)]
            rw [HE.out] at own2
            have hql2 : q = L.length := by omega
            subst hql2
            go_wp2
            go_roundw
            case rel => exact ⟨k + 1, A2, c2, by omega, by rw [HD2.out, HL2.out], by go_num, by rw [HD2.out]; exact own2, hb2, hz2, x02⟩
            case measure => simp [intOf]; omega
    · obtain rfl : k = v := by omega
      go_wp2
      go_returns
      exact ⟨⟨A', c', rfl, own.base_ (by omega)⟩, hb⟩
end
end Go.Proofs.Ytedopalmfakeaaa
