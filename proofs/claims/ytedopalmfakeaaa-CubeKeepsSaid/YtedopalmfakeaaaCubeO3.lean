/- Contracts of functions and lemmas, used by the proofs of the given statements. No condition beyond those that each lemma names. -/
import Derived.Test.YtedopalmfakeaaaCubeO2
import Derived.Test.YtedopalmfakeaaaCubeA1
import Derived.Test.YtedopalmfakeaaaShelfC
namespace Go.Proofs.Ytedopalmfakeaaa
open Go.RowKit Go.Lib Go.Sort Go.Shelf
set_option linter.unusedSimpArgs false
set_option linter.unusedVariables false
/-! ## slices.SortFunc at cubes -/
theorem own_put {w : World} {base g c n k : Nat} {e : TypeId} {xs : List Value} (h : w.ownsRow base e k (.slice (some ⟨g, 0, none⟩) n c) n xs) (F : Array Value) (hF : F.size = n * k) (q : Nat) (os : Array Obj) :
    (grow (putRow id (Sort.ahead w q) g 0 F) os).ownsRow base e k (.slice (some ⟨g, 0, none⟩) n c) n F.toList ∧ Below base w (grow (putRow id (Sort.ahead w q) g 0 F) os) := by
  rcases h.2 with ⟨e1, _⟩ | ⟨g', cap, cur, e1, hb, hg, hnc, hcm, hsz, htk⟩
  · injection e1 with e1; cases e1
  · injection e1 with e1 e2 e3
    injection e1 with e1
    injection e1 with e1
    subst e1 e3
    have hlt : g < w.heap.size := (Array.getElem?_eq_some_iff.1 hg).1
    refine ⟨⟨by simp [hF], .inr ⟨g, c, putCells id 0 F cur, rfl, hb, ?_, hnc, hcm, by simp [putCells, hsz], ?_⟩⟩, rfl, rfl, rfl, ?_, fun i hi => ?_⟩
    · show ((w.heap.modify g (onCells (putCells id 0 F))) ++ os)[g]? = _
      rw [Array.getElem?_append_left (by simpa using hlt), Array.getElem?_modify, if_pos rfl, hg]
      rfl
    · apply List.ext_getElem?
      intro j
      by_cases hj : j < n * k
      · have hjc : j < cur.size := by
          rw [hsz]
          exact Nat.lt_of_lt_of_le hj (Nat.mul_le_mul_right _ hnc)
        rw [List.getElem?_take, if_pos hj, List.getElem?_eq_getElem (by simpa [putCells] using hjc), List.getElem?_eq_getElem (by simpa [hF] using hj)]
        simp only [putCells, Array.getElem_toList, Array.getElem_mapIdx]
        rw [if_pos ⟨Nat.zero_le _, by omega⟩]
        simp only [Nat.sub_zero, id]
        rw [getElem!_pos F j (by omega)]
      · rw [List.getElem?_take, if_neg hj, List.getElem?_eq_none (by simp [hF]; omega)]
    · show w.heap.size ≤ ((w.heap.modify g (onCells (putCells id 0 F))) ++ os).size
      simp
    · show ((w.heap.modify g (onCells (putCells id 0 F))) ++ os)[i]? = w.heap[i]?
      rw [Array.getElem?_append_left (by simp; omega), Array.getElem?_modify, if_neg (by omega)]
/-- the cells of a cube in the sort's contract -/
abbrev Ok1 := { a : Cn // okN a }
instance : Inhabited Ok1 := ⟨⟨(0, 0), by unfold okN; decide⟩⟩
def encO (a : Ok1) : List Value := cbc (zc a.1)
theorem flat_cbs (d : Array Ok1) : (flatK encO 2 d).toList = cbs (d.toList.map fun a => zc a.1) := by
  apply List.ext_getElem?
  intro t
  by_cases ht : t < d.size * 2
  · have hk : t / 2 < d.size := by omega
    have hm : (d.toList.map fun a : Ok1 => zc a.1)[t / 2]? = some (zc d[t / 2].1) := by simp [hk]
    obtain ⟨h0, h1⟩ := cbs_get _ _ _ hm
    have e1 : (flatK encO 2 d).toList[t]? = some (encO d[t / 2])[t % 2]! := by
      rw [List.getElem?_eq_getElem (by simpa using ht)]
      have := get_flatK encO 2 d t ht
      rw [getElem!_pos (flatK encO 2 d) t (by simpa using ht)] at this
      rw [Array.getElem_toList, this, getElem!_pos d (t / 2) hk]
    rw [e1]
    generalize d[t / 2] = x at *
    rcases Nat.mod_two_eq_zero_or_one t with h2 | h2
    · have e2 : t / 2 * 2 = t := by omega
      rw [e2] at h0
      rw [h0, h2]
      rfl
    · have e2 : t / 2 * 2 + 1 = t := by omega
      rw [e2] at h1
      rw [h1, h2]
      rfl
  · rw [List.getElem?_eq_none (by simpa using ht), List.getElem?_eq_none (by rw [cbs_length]; simp; omega)]
theorem ltOf_cf (a b : Ok1) : ltOf (fun x y : Ok1 => cfN x.1 y.1) a b = ltN a.1 b.1 := cfN_lt a.1 b.1
theorem ltO_swo : SWO (ltOf fun x y : Ok1 => cfN x.1 y.1) where
  irrefl x := by rw [ltOf_cf]; exact ltN_o.irr _
  trans x y z h1 h2 := by rw [ltOf_cf] at *; exact ltN_o.tr _ _ _ h1 h2
  ntrans x y z h1 h2 := by
    rw [ltOf_cf] at *
    by_cases h3 : ltN x.1 z.1 = true
    · by_cases e : x.1 = y.1
      · rw [e, h2] at h3; cases h3
      · rcases ltN_o.tot _ _ e with h4 | h4
        · rw [h1] at h4; cases h4
        · have := ltN_o.tr _ _ _ h4 h3
          rw [h2] at this; cases this
    · simpa using h3
/-- what a list of cubes is when it is sorted -/
def srtC (l : List Cn) (s : List Cn) : Prop := s.Perm l ∧ s.Pairwise (fun a b => ltN b a = false)
/-- a comparison of cubes -/
def CmpC (g : FuncId) : Prop := ∀ (a b : Cn) (w : World), okN a → okN b → Calls Try.prog g #[cbv (zc a), cbv (zc b)] w fun e w' => e = .returned (.int .i64 (cfN a b)) ∧ ∃ q os, w' = grow (w.drewN q) os
theorem sort_any {w : World} {base cap : Nat} {l : List Cn} {A : Option Addr} (f : FuncId) (hf : CmpC f) (eg : ∀ args w, (callFunc f args).run Try.prog w = .ok (.enter f args) w)
    (hok : ∀ a ∈ l, okN a) (ho : OwC w base A cap (l.map zc)) (hn : l.length ≤ 1000000) :
    Calls Try.prog 112 #[.slice A l.length cap, .func (.func f) #[] #[]] w fun e w' => e = .returned (.tuple #[]) ∧ ∃ s, srtC l s ∧ OwC w' base A cap (s.map zc) ∧ Below base w w' := by
  rcases Nat.eq_zero_or_pos l.length with h0 | hpos
  · rw [h0]
    have hl : l = [] := List.eq_nil_of_length_eq_zero h0
    subst hl
    exact (AnyF.slices_SortFunc_none Try.sortC A cap (.func (.func f) #[] #[]) w).mono fun e w' ⟨he, hw⟩ => ⟨he, [], ⟨List.Perm.refl _, List.Pairwise.nil⟩, by rw [hw]; exact ho, by rw [hw]; exact Below.refl _ _⟩
  · obtain ⟨gg, rfl, hb, hlt⟩ := ho.blk (by intro e; rw [List.map_eq_nil_iff] at e; rw [e] at hpos; simp at hpos)
    have hO : OwC w base (some ⟨gg, 0, none⟩) cap (l.map zc) := ho
    unfold OwC at ho
    rw [List.length_map] at ho
    obtain ⟨d, hd⟩ : ∃ d : Array Ok1, d = (l.pmap (fun a h => (⟨a, h⟩ : Ok1)) hok).toArray := ⟨_, rfl⟩
    have hds : d.size = l.length := by rw [hd]; simp
    have hdl : d.toList.map (fun a => a.1) = l := by rw [hd]; simp [List.map_pmap]
    have hdz : d.toList.map (fun a => zc a.1) = l.map zc := by rw [← hdl, List.map_map]; rfl
    have hH : HoldsK encO 2 w gg 0 d := fun j hj => by
      rw [size_flatK] at hj
      refine ⟨?_, World.ownsRow.frozenAt ho _⟩
      rw [Nat.zero_add]
      show w.cell? ⟨gg, j, none⟩ = some (flatK encO 2 d)[j]!
      rw [World.ownsRow.cellAt ho j (by rw [← hds]; omega), ← hdz, ← flat_cbs, getElem!_pos (flatK encO 2 d) j (by simpa using hj), List.getElem?_eq_getElem (by simpa using hj), Array.getElem_toList]
    have hcmp : CmpLays Try.prog f #[] encO 2 (fun x y : Ok1 => cfN x.1 y.1) gg 0 d.size w := fun m os dk _ x y => hf x.1 y.1 _ x.2 y.2
    have hT : ∀ x y : Ok1, (ltOf fun x y : Ok1 => cfN x.1 y.1) x y = false → (ltOf fun x y : Ok1 => cfN x.1 y.1) y x = false → x = y := fun x y h1 h2 => by
      rw [ltOf_cf] at h1 h2
      refine Subtype.ext (Classical.byContradiction fun hne => ?_)
      rcases ltN_o.tot _ _ hne with h | h
      · rw [h1] at h; cases h
      · rw [h2] at h; cases h
    have hcon := AnyQ.slices_SortFunc_total Try.sortC 2 Try.isAgg23 Try.sizeOf23 encO (fun _ => rfl) (fun x v hv => by simp [encO, cbc] at hv; rcases hv with rfl | rfl <;> rfl) (fun x y : Ok1 => cfN x.1 y.1) ltO_swo f #[] gg 0 cap d w eg hcmp hH hlt (by omega) hT
    rw [hds] at hcon
    change Calls Try.prog 112 _ _ _ at hcon
    refine hcon.mono fun e w' ⟨he, q, os, hw⟩ => ⟨he, ?_⟩
    obtain ⟨m, hm⟩ : ∃ m, m = d.toList.mergeSort fun x y => !(ltOf fun x y : Ok1 => cfN x.1 y.1) y x := ⟨_, rfl⟩
    rw [← hm] at hw
    have hmp : m.Perm d.toList := by rw [hm]; exact List.mergeSort_perm _ _
    have hml : m.length = l.length := by rw [hmp.length_eq]; simpa using hds
    have hms : m.Pairwise fun x y => ltN y.1 x.1 = false := by
      have := List.pairwise_mergeSort (le := fun x y => !(ltOf fun x y : Ok1 => cfN x.1 y.1) y x) (fun a b c h1 h2 => by
        simp only [Bool.not_eq_true'] at *
        exact ltO_swo.ntrans _ _ _ h2 h1) (fun a b => by
        simp only [Bool.or_eq_true, Bool.not_eq_true']
        rw [ltOf_cf, ltOf_cf]
        cases h : ltN b.1 a.1
        · exact .inl rfl
        · exact .inr (ltN_o.as h)) d.toList
      rw [← hm] at this
      refine this.imp fun h => ?_
      simpa [ltOf_cf] using h
    have hfl : (flatK encO 2 m.toArray).toList = cbs ((m.map fun a => a.1).map zc) := by
      rw [flat_cbs, List.map_map]; rfl
    obtain ⟨r1, r2⟩ := own_put ho (flatK encO 2 m.toArray) (by simp [hml]) q os
    refine ⟨m.map fun a => a.1, ⟨?_, ?_⟩, ?_, ?_⟩
    · have := hmp.map fun a => a.1
      rwa [hdl] at this
    · rw [List.pairwise_map]; exact hms
    · rw [hw]
      unfold OwC sortWorldK putRowK
      rw [List.length_map, List.length_map, hml, ← hfl]
      exact r1
    · rw [hw]
      unfold sortWorldK putRowK
      exact r2
end Go.Proofs.Ytedopalmfakeaaa
