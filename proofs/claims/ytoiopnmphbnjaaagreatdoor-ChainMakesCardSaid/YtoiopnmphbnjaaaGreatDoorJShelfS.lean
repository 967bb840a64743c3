/- Contracts and lemmas for the given statements. Conditions: those alone that each names. -/
import Derived.Shelf.SlGeneric
import Derived.Shelf.SlSortCmp.NoneTotal
import Derived.Ground.SlsfProg
import Derived.Test.YtoiopnmphbnjaaaGreatDoorProg
import Derived.Test.YtoiopnmphbnjaaaGreatDoorJBase
import Derived.Test.YtoiopnmphbnjaaaGreatDoorJChX
import Derived.Test.YtoiopnmphbnjaaaGreatDoorJLinO
/- The contract of slices.SortFunc at []api.Move, laid at this program by the kit's tools (lay-shelf, lay-plain). No condition beyond those that it names. -/
namespace Go.Proofs
set_option linter.unusedVariables false
set_option linter.unusedSimpArgs false
open Go.Shelf
def Tryz.sortM_ren : Go.Shelf.Ren := ⟨fun | 6 => 47 | 15 => 88 | 14 => 87 | 28 => 130 | 29 => 131 | 20 => 122 | 21 => 123 | 22 => 124 | 23 => 125 | 24 => 126 | 25 => 127 | 26 => 128 | 27 => 129 | 46 => 154 | 47 => 155 | 48 => 156 | 49 => 157 | 50 => 158 | 57 => 164 | n => n, fun | 22 => 29 | 24 => 65 | 25 => 102 | 3 => 3 | 39 => 134 | 0 => 0 | 53 => 157 | 55 => 158 | 4 => 4 | 46 => 167 | 45 => 166 | 50 => 131 | 5 => 5 | 9 => 9 | 66 => 189 | 70 => 193 | 76 => 198 | 77 => 127 | n => n, fun | n => n⟩
theorem Tryz.sortM : Go.Proofs.SlLaysF0.n6 Tryz.prog Tryz.sortM_ren := {
 mixed := by kernel_rfl
 f6 := ⟨Tryz.f47.name, by decide, Tryz.func47.trans (congrArg some (by kernel_rfl))⟩
 f14 := ⟨Tryz.f87.name, by decide, Tryz.func87.trans (congrArg some (by kernel_rfl))⟩
 f15 := Tryz.func88.trans (congrArg some (by kernel_rfl))
 f20 := ⟨Tryz.f122.name, by decide, Tryz.func122.trans (congrArg some (by kernel_rfl))⟩
 f21 := ⟨Tryz.f123.name, by decide, Tryz.func123.trans (congrArg some (by kernel_rfl))⟩
 f22 := ⟨Tryz.f124.name, by decide, Tryz.func124.trans (congrArg some (by kernel_rfl))⟩
 f23 := ⟨Tryz.f125.name, by decide, Tryz.func125.trans (congrArg some (by kernel_rfl))⟩
 f24 := ⟨Tryz.f126.name, by decide, Tryz.func126.trans (congrArg some (by kernel_rfl))⟩
 f25 := ⟨Tryz.f127.name, by decide, Tryz.func127.trans (congrArg some (by kernel_rfl))⟩
 f26 := ⟨Tryz.f128.name, by decide, Tryz.func128.trans (congrArg some (by kernel_rfl))⟩
 f27 := ⟨Tryz.f129.name, by decide, Tryz.func129.trans (congrArg some (by kernel_rfl))⟩
 f28 := Tryz.func130.trans (congrArg some (by kernel_rfl))
 f29 := Tryz.func131.trans (congrArg some (by kernel_rfl))
 f46 := ⟨Tryz.f154.name, by decide, Tryz.func154.trans (congrArg some (by kernel_rfl))⟩
 f47 := Tryz.func155.trans (congrArg some (by kernel_rfl))
 f48 := Tryz.func156.trans (congrArg some (by kernel_rfl))
 f49 := ⟨Tryz.f157.name, by decide, Tryz.func157.trans (congrArg some (by kernel_rfl))⟩
 f50 := ⟨Tryz.f158.name, by decide, Tryz.func158.trans (congrArg some (by kernel_rfl))⟩
 f57 := ⟨Tryz.f164.name, by decide, Tryz.func164.trans (congrArg some (by kernel_rfl))⟩
 t0 := Tryz.underlying0
 a0 := Tryz.isAgg0
 z0 := Tryz.sizeOf0
 v0 := Tryz.zeroValue0
 t3 := Tryz.underlying3
 a3 := Tryz.isAgg3
 z3 := Tryz.sizeOf3
 v3 := Tryz.zeroValue3
 t4 := Tryz.underlying4
 a4 := Tryz.isAgg4
 z4 := Tryz.sizeOf4
 v4 := Tryz.zeroValue4
 t5 := Tryz.underlying5
 a5 := Tryz.isAgg5
 z5 := Tryz.sizeOf5
 v5 := Tryz.zeroValue5
 t9 := Tryz.underlying9
 a9 := Tryz.isAgg9
 z9 := Tryz.sizeOf9
 v9 := Tryz.zeroValue9
 t22 := Tryz.underlying29
 a22 := Tryz.isAgg29
 z22 := Tryz.sizeOf29
 v22 := Tryz.zeroValue29
 t25 := Tryz.underlying102
 a25 := Tryz.isAgg102
 z25 := Tryz.sizeOf102
 v25 := Tryz.zeroValue102
 t39 := Tryz.underlying134
 a39 := Tryz.isAgg134
 z39 := Tryz.sizeOf134
 v39 := Tryz.zeroValue134
 t45 := Tryz.underlying166
 a45 := Tryz.isAgg166
 z45 := Tryz.sizeOf166
 v45 := Tryz.zeroValue166
 t46 := Tryz.underlying167
 a46 := Tryz.isAgg167
 z46 := Tryz.sizeOf167
 v46 := Tryz.zeroValue167
 t50 := Tryz.underlying131
 a50 := Tryz.isAgg131
 z50 := Tryz.sizeOf131
 v50 := Tryz.zeroValue131
 t53 := Tryz.underlying157
 a53 := Tryz.isAgg157
 z53 := Tryz.sizeOf157
 v53 := Tryz.zeroValue157
 t55 := Tryz.underlying158
 a55 := Tryz.isAgg158
 z55 := Tryz.sizeOf158
 v55 := Tryz.zeroValue158
 t66 := Tryz.underlying189
 a66 := Tryz.isAgg189
 z66 := Tryz.sizeOf189
 v66 := Tryz.zeroValue189
 t70 := Tryz.underlying193
 a70 := Tryz.isAgg193
 z70 := Tryz.sizeOf193
 v70 := Tryz.zeroValue193
 t76 := Tryz.underlying198
 a76 := Tryz.isAgg198
 z76 := Tryz.sizeOf198
 v76 := Tryz.zeroValue198
 t77 := Tryz.underlying127
 a77 := Tryz.isAgg127
 z77 := Tryz.sizeOf127
 v77 := Tryz.zeroValue127 }
end Go.Proofs
namespace Go.Proofs.YtoiopnmphbnjaaaGreatDoor
open Go.RowKit Go.Lib Go.Sort Go.Shelf
set_option linter.unusedSimpArgs false
set_option linter.unusedVariables false
set_option maxRecDepth 20000
/-! ## the moves are sorted -/
theorem own_putG {w : World} {base g c n k : Nat} {e : TypeId} {xs : List Value} (h : w.ownsRow base e k (.slice (some ⟨g, 0, none⟩) n c) n xs) (F : Array Value) (hF : F.size = n * k) (q : Nat) (os : Array Obj) :
   (grow (putRow id (Sort.ahead w q) g 0 F) os).ownsRow base e k (.slice (some ⟨g, 0, none⟩) n c) n F.toList ∧ w.grownBy (grow (putRow id (Sort.ahead w q) g 0 F) os) (some g) := by
 rcases h.2 with ⟨e1, _⟩ | ⟨g', cap, cur, e1, hb, hg, hnc, hcm, hsz, htk⟩
 · injection e1 with e1; cases e1
 · injection e1 with e1 e2 e3
   injection e1 with e1
   injection e1 with e1
   subst e1 e3
   have hlt : g < w.heap.size := (Array.getElem?_eq_some_iff.1 hg).1
   refine ⟨⟨by simp [hF], .inr ⟨g, c, putCells id 0 F cur, rfl, hb, ?_, hnc, hcm, by simp [putCells, hsz], ?_⟩⟩, rfl, rfl, rfl, ?_, fun i hi hne => ?_⟩
   · show ((w.heap.modify g (onCells (putCells id 0 F))) ++ os)[g]? = _
     rw [Array.getElem?_append_left (by simpa using hlt), Array.getElem?_modify, if_pos rfl, hg]
     rfl
   · apply List.ext_getElem?
     intro j
     by_cases hj : j < n * k
     · have hjc : j < cur.size := by
         rw [hsz]
         exact Nat.lt_of_lt_of_le hj (Nat.mul_le_mul_right _ hnc)
       rw [List.getElem?_take, if_pos hj, List.getElem?_eq_getElem (by simpa [putCells] using hjc), List.getElem?_eq_getElem (by simpa [hF] using hj)]
       simp only [putCells, Array.getElem_toList, Array.getElem_mapIdx]
       rw [if_pos ⟨Nat.zero_le _, by omega⟩]
       simp only [Nat.sub_zero, id]
       rw [getElem!_pos F j (by omega)]
     · rw [List.getElem?_take, if_neg hj, List.getElem?_eq_none (by simp [hF]; omega)]
   · show w.heap.size ≤ ((w.heap.modify g (onCells (putCells id 0 F))) ++ os).size
     simp
   · show ((w.heap.modify g (onCells (putCells id 0 F))) ++ os)[i]? = w.heap[i]?
     have hne2 : ¬ g = i := fun e => hne (by rw [e])
     rw [Array.getElem?_append_left (by simpa using hi), Array.getElem?_modify, if_neg hne2]
/-- the cells of moves, by a list of pairs -/
def cellsP (K : List (Nat × Nat)) (V : Nat × Nat → Value) : List Value := K.flatMap fun p => cellM (p.1 : Nat) (p.2 : Nat) (V p)
theorem cellsP_app (K M : List (Nat × Nat)) (V : Nat × Nat → Value) : cellsP (K ++ M) V = cellsP K V ++ cellsP M V := List.flatMap_append
theorem cellsP_len {V : Nat × Nat → Value} : ∀ {K : List (Nat × Nat)}, (∀ p, p ∈ K → isR (V p)) → (cellsP K V).length = K.length * 5
 | [], _ => rfl
 | p :: K, h => by
   have ih := cellsP_len (K := K) fun q hq => h q (by simp [hq])
   show (cellM _ _ _ ++ cellsP K V).length = _
   rw [List.length_append, ih, cellM_len (h p (by simp)), List.length_cons]
   omega
theorem cellsP_M {V : Nat × Nat → Value} (K : List (Nat × Nat)) : cellsP K V = cellsM K.length (fun k => ((K.getD k (0, 0)).1 : Nat)) (fun k => ((K.getD k (0, 0)).2 : Nat)) (fun k => V (K.getD k (0, 0))) := by
 unfold cellsP cellsM
 have : K = (List.range K.length).map fun k => K.getD k (0, 0) := by
   apply List.ext_getElem (by simp)
   intro i h1 h2
   simp [List.getD_eq_getElem?_getD, List.getElem?_eq_getElem h1]
 conv => lhs; rw [this]
 rw [List.flatMap_map]
/-- a pair whose value is a fraction -/
def isP (V : Nat × Nat → Value) (p : Nat × Nat) : Prop := isR (V p) ∧ p.1 ≤ 1000000 ∧ p.2 ≤ 1000000
abbrev PrV (V : Nat × Nat → Value) := { p : Nat × Nat // isP V p }
def encP (V : Nat × Nat → Value) (x : PrV V) : List Value := cellM (x.1.1 : Nat) (x.1.2 : Nat) (V x.1)
def cfP (p q : Nat × Nat) : Int := if (p.1 : Int) ≠ q.1 then (p.1 : Int) - q.1 else (p.2 : Int) - q.2
theorem cfP_lt (p q : Nat × Nat) : decide (cfP p q < 0) = true ↔ lexP p q := by
 unfold cfP lexP
 rw [decide_eq_true_iff]
 split <;> omega
theorem lexP_swo (V : Nat × Nat → Value) : SWO (ltOf fun x y : PrV V => cfP x.1 y.1) where
 irrefl x := by
   unfold ltOf
   cases h : decide (cfP x.1 x.1 < 0)
   · rfl
   · have := (cfP_lt _ _).1 h
     unfold lexP at this
     omega
 trans x y z h1 h2 := by
   unfold ltOf at *
   have h1 := (cfP_lt _ _).1 h1
   have h2 := (cfP_lt _ _).1 h2
   refine (cfP_lt _ _).2 ?_
   unfold lexP at *
   omega
 ntrans x y z h1 h2 := by
   unfold ltOf at *
   cases h : decide (cfP x.1 z.1 < 0)
   · rfl
   · have h3 := (cfP_lt _ _).1 h
     have h1 : ¬ lexP x.1 y.1 := fun e => by rw [(cfP_lt _ _).2 e] at h1; cases h1
     have h2 : ¬ lexP y.1 z.1 := fun e => by rw [(cfP_lt _ _).2 e] at h2; cases h2
     unfold lexP at *
     omega
theorem flat_cellsP {V : Nat × Nat → Value} [Inhabited (PrV V)] (d : Array (PrV V)) : (flatK (encP V) 5 d).toList = cellsP (d.toList.map fun a => a.1) V := by
 have hl : ∀ p, p ∈ d.toList.map (fun a => a.1) → isR (V p) := fun p hp => by
   obtain ⟨a, -, rfl⟩ := List.mem_map.1 hp
   exact a.2.1
 apply List.ext_getElem?
 intro t
 by_cases ht : t < d.size * 5
 · have hk : t / 5 < d.size := by omega
   have e1 : (flatK (encP V) 5 d).toList[t]? = some (encP V d[t / 5])[t % 5]! := by
     rw [List.getElem?_eq_getElem (by simpa using ht)]
     have := get_flatK (encP V) 5 d t ht
     rw [getElem!_pos (flatK (encP V) 5 d) t (by simpa using ht)] at this
     rw [Array.getElem_toList, this, getElem!_pos d (t / 5) hk]
   rw [e1, cellsP_M]
   have hn : (d.toList.map fun a => a.1).length = d.size := by simp
   have hg : (d.toList.map fun a => a.1).getD (t / 5) (0, 0) = d[t / 5].1 := by
     rw [List.getD_eq_getElem?_getD, List.getElem?_eq_getElem (by rw [hn]; exact hk)]
     simp
   have hR : ∀ k, k < d.size → isR (V ((d.toList.map fun a => a.1).getD k (0, 0))) := fun k hk => hl _ (by
     rw [List.getD_eq_getElem?_getD, List.getElem?_eq_getElem (by rw [hn]; exact hk)]
     exact List.getElem_mem _)
   have hm5 : t % 5 < 5 := Nat.mod_lt _ (by omega)
   have h5 : t = t / 5 * 5 + t % 5 := by omega
   rw [hn]
   generalize d[t / 5] = x at *
   generalize (d.toList.map fun a => a.1) = L at *
   generalize t % 5 = m at *
   generalize t / 5 = k at *
   subst h5
   obtain ⟨s, A, a, c, B, b, d', e⟩ := x.2.1
   obtain ⟨g0, g1, g2, g3, g4⟩ := cellsM_get (n := d.size) (F := fun k => ((L.getD k (0, 0)).1 : Nat)) (T := fun k => ((L.getD k (0, 0)).2 : Nat)) (V := fun k => V (L.getD k (0, 0))) hR hk (s := s) (A := A) (a := a) (c := c) (B := B) (b := b) (d := d') (by rw [hg]; exact e)
   rw [hg] at g0 g1
   unfold encP
   rw [e]
   match m, hm5 with
   | 0, _ => rw [Nat.add_zero, g0]; rfl
   | 1, _ => rw [g1]; rfl
   | 2, _ => rw [g2]; rfl
   | 3, _ => rw [g3]; rfl
   | 4, _ => rw [g4]; rfl
 · rw [List.getElem?_eq_none (by simpa using ht), List.getElem?_eq_none (by rw [cellsP_len hl]; simp; omega)]
/-- the comparison -/
def CmpM (g : FuncId) : Prop := ∀ (f t f' t' : Nat) (v v' : Value) (w : World), f ≤ 1000000 → t ≤ 1000000 → f' ≤ 1000000 → t' ≤ 1000000 → isR v → isR v' → Calls Tryz.prog g #[.agg (cellM (f : Nat) (t : Nat) v).toArray, .agg (cellM (f' : Nat) (t' : Nat) v').toArray] w fun e w' => e = .returned (.int .i64 (cfP (f, t) (f', t'))) ∧ ∃ q os, w' = grow (w.drewN q) os
theorem msort_any {w : World} {base cap : Nat} {K P : List (Nat × Nat)} {A : Option Addr} {V : Nat × Nat → Value} (f : FuncId) (hf : CmpM f) (eg : ∀ args w, (callFunc f args).run Tryz.prog w = .ok (.enter f args) w)
   (hV : ∀ p, p ∈ K → isP V p) (hKP : K.Perm P) (hP : P.Pairwise lexP) (ho : w.ownsRow base 65 5 (.slice A K.length cap) K.length (cellsP K V)) (hn : K.length ≤ 1000000) :
   Calls Tryz.prog 47 #[.slice A K.length cap, .func (.func f) #[] #[]] w fun e w' => e = .returned (.tuple #[]) ∧ w'.ownsRow base 65 5 (.slice A K.length cap) K.length (cellsP P V) ∧ w.grownBy w' (Value.slice A K.length cap).ownBlock := by
 rcases Nat.eq_zero_or_pos K.length with h0 | hpos
 · have hK : K = [] := List.eq_nil_of_length_eq_zero h0
   subst hK
   have hP0 : P = [] := List.Perm.nil_eq hKP |>.symm
   subst hP0
   simp only [List.length_nil] at *
   exact (AnyF.slices_SortFunc_none Tryz.sortM A cap (.func (.func f) #[] #[]) w).mono fun e w' ⟨he, hw⟩ => ⟨he, by rw [hw]; exact ho, by rw [hw]; exact World.grownBy.refl _ _⟩
 · obtain ⟨gg, cap', e1, hb, hlt⟩ := World.ownsRow.form ho hpos
   injection e1 with e1 _ _
   subst e1
   haveI : Inhabited (PrV V) := ⟨⟨K[0]'hpos, hV _ (List.getElem_mem hpos)⟩⟩
   obtain ⟨d, hd⟩ : ∃ d : Array (PrV V), d = (K.pmap (fun a h => (⟨a, h⟩ : PrV V)) hV).toArray := ⟨_, rfl⟩
   have hds : d.size = K.length := by rw [hd]; simp
   have hdl : d.toList.map (fun a => a.1) = K := by rw [hd]; simp [List.map_pmap]
   have hek : ∀ x : PrV V, (encP V x).length = 5 := fun x => cellM_len x.2.1
   have he1 : ∀ x : PrV V, ∀ v ∈ encP V x, v.oneCell' = true := fun x v hv => by
     unfold encP at hv
     obtain ⟨s, A, a, c, B, b, d, e⟩ := x.2.1
     rw [e] at hv
     simp [cellM, c3] at hv
     rcases hv with rfl | rfl | rfl | rfl | rfl <;> rfl
   have hH : HoldsK (encP V) 5 w gg 0 d := fun j hj => by
     rw [size_flatK] at hj
     refine ⟨?_, World.ownsRow.frozenAt ho _⟩
     rw [Nat.zero_add]
     show w.cell? ⟨gg, j, none⟩ = some (flatK (encP V) 5 d)[j]!
     rw [World.ownsRow.cellAt ho j (by rw [← hds]; omega)]
     have := flat_cellsP d
     rw [hdl] at this
     rw [← this, getElem!_pos (flatK (encP V) 5 d) j (by simpa using hj), List.getElem?_eq_getElem (by simpa using hj), Array.getElem_toList]
   have hcmp : CmpLays Tryz.prog f #[] (encP V) 5 (fun x y : PrV V => cfP x.1 y.1) gg 0 d.size w := fun m os dk _ x y => hf x.1.1 x.1.2 y.1.1 y.1.2 (V x.1) (V y.1) _ x.2.2.1 x.2.2.2 y.2.2.1 y.2.2.2 x.2.1 y.2.1
   have hT : ∀ x y : PrV V, (ltOf fun x y : PrV V => cfP x.1 y.1) x y = false → (ltOf fun x y : PrV V => cfP x.1 y.1) y x = false → x = y := fun x y h1 h2 => by
     unfold ltOf at h1 h2
     have h1 : ¬ lexP x.1 y.1 := fun e => by rw [(cfP_lt _ _).2 e] at h1; cases h1
     have h2 : ¬ lexP y.1 x.1 := fun e => by rw [(cfP_lt _ _).2 e] at h2; cases h2
     unfold lexP at h1 h2
     exact Subtype.ext (Prod.ext (by omega) (by omega))
   have hcon := AnyQ.slices_SortFunc_total Tryz.sortM 5 Tryz.isAgg65 Tryz.sizeOf65 (encP V) hek he1 (fun x y : PrV V => cfP x.1 y.1) (lexP_swo V) f #[] gg 0 cap d w eg hcmp hH hlt (by omega) hT
   rw [hds] at hcon
   change Calls Tryz.prog 47 _ _ _ at hcon
   refine hcon.mono fun e w' ⟨he, q, os, hw⟩ => ⟨he, ?_⟩
   obtain ⟨m, hm⟩ : ∃ m, m = d.toList.mergeSort fun x y => !(ltOf fun x y : PrV V => cfP x.1 y.1) y x := ⟨_, rfl⟩
   rw [← hm] at hw
   have hmp : m.Perm d.toList := by rw [hm]; exact List.mergeSort_perm _ _
   have hml : m.length = K.length := by rw [hmp.length_eq]; simpa using hds
   have hms : m.Pairwise fun x y => ¬ lexP y.1 x.1 := by
     have := List.pairwise_mergeSort (le := fun x y => !(ltOf fun x y : PrV V => cfP x.1 y.1) y x) (fun a b c h1 h2 => by
       simp only [Bool.not_eq_true'] at *
       exact (lexP_swo V).ntrans _ _ _ h2 h1) (fun a b => by
       simp only [Bool.or_eq_true, Bool.not_eq_true']
       unfold ltOf
       cases h : decide (cfP b.1 a.1 < 0)
       · exact .inl rfl
       · refine .inr ?_
         cases h2 : decide (cfP a.1 b.1 < 0)
         · rfl
         · have h3 := (cfP_lt _ _).1 h
           have h4 := (cfP_lt _ _).1 h2
           unfold lexP at h3 h4
           omega) d.toList
     rw [← hm] at this
     refine this.imp fun h e => ?_
     simp only [Bool.not_eq_true'] at h
     unfold ltOf at h
     rw [(cfP_lt _ _).2 e] at h
     cases h
   have hmP : m.map (fun a => a.1) = P := by
     have h1 : (m.map fun a => a.1).Perm P := by
       have := hmp.map fun a => a.1
       rw [hdl] at this
       exact this.trans hKP
     refine List.Perm.eq_of_pairwise (le := fun x y => ¬ lexP y x) (fun a b _ _ h1 h2 => ?_) (by rw [List.pairwise_map]; exact hms) (hP.imp fun h e => ?_) h1
     · unfold lexP at h1 h2
       exact Prod.ext (by omega) (by omega)
     · unfold lexP at h e
       omega
   have hfl : (flatK (encP V) 5 m.toArray).toList = cellsP P V := by
     rw [flat_cellsP, ← hmP]
   obtain ⟨r1, r2⟩ := own_putG ho (flatK (encP V) 5 m.toArray) (by simp [hml]) q os
   rw [hfl] at r1
   rw [hw]
   unfold sortWorldK putRowK
   exact ⟨r1, r2⟩
/-- a world that a call has left with new blocks and draws alone -/
theorem growOf {w w' : World} (hb : Below w.heap.size w w') (hd : w.drawn ≤ w'.drawn) : ∃ q os, w' = grow (w.drewN q) os := by
 refine ⟨w'.drawn - w.drawn, w'.heap.extract w.heap.size w'.heap.size, ?_⟩
 obtain ⟨h, t, d, o, u⟩ := w
 obtain ⟨h', t', d', o', u'⟩ := w'
 have e1 : o' = o := hb.os
 have e2 : t' = t := hb.tape
 have e3 : u' = u := hb.output
 have e4 : h.size ≤ h'.size := hb.size
 have e5 : ∀ k, k < h.size → h'[k]? = h[k]? := hb.block
 have e6 : d ≤ d' := hd
 subst e1 e2 e3
 have e7 : h' = h ++ h'.extract h.size h'.size := by
   apply Array.ext_getElem?
   intro i
   by_cases hi : i < h.size
   · rw [Array.getElem?_append_left hi, e5 i hi]
   · rw [Array.getElem?_append_right (by omega)]
     by_cases hj : i < h'.size
     · rw [Array.getElem?_extract]
       simp
       rw [if_pos (by omega), show h.size + (i - h.size) = i by omega]
     · rw [Array.getElem?_eq_none (by omega), Array.getElem?_eq_none (by simp; omega)]
 show World.mk h' t' d' o' u' = World.mk (h ++ h'.extract h.size h'.size) t' (d + (d' - d)) o' u'
 rw [← e7, show d + (d' - d) = d' by omega]
set_option maxHeartbeats 4000000 in
theorem mkcmp_any : CmpM 48 := by
 intro f t f' t' v v' w b1 b2 b3 b4 hv hv'
 obtain ⟨s, A, a, c, B, b, d, rfl⟩ := hv
 obtain ⟨s', A', a', c', B', b', d', rfl⟩ := hv'
 have hmm : (cellM (f : Nat) (t : Nat) (rv s A a c B b d)).toArray = #[.int .i64 (f : Int), .int .i64 (t : Int), .bool s, .slice A a c, .slice B b d] := rfl
 have hmm' : (cellM (f' : Nat) (t' : Nat) (rv s' A' a' c' B' b' d')).toArray = #[.int .i64 (f' : Int), .int .i64 (t' : Int), .bool s', .slice A' a' c', .slice B' b' d'] := rfl
 rw [hmm, hmm']
 clear hmm hmm'
 have hg : ∀ o o' : Obj, ∃ q os, (w.alloc o).alloc o' = grow (w.drewN q) os := fun o o' => growOf (by exact (by (skip); repeat' (first | (with_reducible first | exact BlR _ _ | assumption | refine BlA ?_ ?_ _ | refine BlD ?_ | refine BlN ?_ _ | refine BlS ?_ ?_ _ | refine BlT ?_ (BlM (by assumption) ?_)) | omega | (simp only [ZZ]; omega) | go_size))) (Nat.le_refl _)
 by_cases h : (f : Int) = (f' : Int)
 · have HX : Hid (cfP (f, t) (f', t') = (t : Int) - t') := by show _ = _; unfold cfP; rw [if_neg (by simpa using h)]
   rw [HX.out]
   rw [h]
   clear h HX
   go_enter Tryz.func48, Tryz.ntmps48
   go_wp2_with fail
   go_returns
   exact ⟨rfl, hg _ _⟩
 · have HX : Hid (cfP (f, t) (f', t') = (f : Int) - f') := by show _ = _; unfold cfP; rw [if_pos (by simpa using h)]
   rw [HX.out]
   clear HX
   go_enter Tryz.func48, Tryz.ntmps48
   go_wp2_with fail
   go_returns
   exact ⟨rfl, hg _ _⟩
end Go.Proofs.YtoiopnmphbnjaaaGreatDoor
