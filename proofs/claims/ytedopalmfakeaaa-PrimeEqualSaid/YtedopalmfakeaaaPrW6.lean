/- Contracts of functions and lemmas, used by the proofs of the given statements. No condition beyond those that each lemma names. -/
import Derived.Test.YtedopalmfakeaaaPrW5
import Derived.Deep.RegionLaw
import Derived.Lib.SliceRun
namespace Go.Proofs.Ytedopalmfakeaaa
open Go.RowKit Go.Sort
set_option linter.unusedSimpArgs false
set_option linter.unusedVariables false
set_option maxRecDepth 20000
/-! ## slices.Delete of one cube -/
/-- a list overwritten from a place on -/
def stM : List Value → Nat → List Value → List Value
  | xs, _, [] => xs
  | xs, o, v :: vs => stM (xs.set o v) (o + 1) vs
theorem stM_length : ∀ (vs xs : List Value) (o : Nat), (stM xs o vs).length = xs.length
  | [], _, _ => rfl
  | v :: vs, xs, o => by rw [stM, stM_length vs]; simp
theorem stM_eq : ∀ (vs xs : List Value) (o : Nat), o + vs.length ≤ xs.length → stM xs o vs = xs.take o ++ vs ++ xs.drop (o + vs.length)
  | [], xs, o, _ => by simp [stM]
  | v :: vs, xs, o, h => by
    have hlen : (v :: vs).length = vs.length + 1 := rfl
    have h2 : o < xs.length := by omega
    rw [stM, stM_eq vs (xs.set o v) (o + 1) (by rw [List.length_set]; omega)]
    have e1 : (xs.set o v).take (o + 1) = xs.take o ++ [v] := by
      rw [List.take_succ_eq_append_getElem (by simpa using h2)]
      simp [List.take_set_of_le]
    have e2 : (xs.set o v).drop (o + 1 + vs.length) = xs.drop (o + (v :: vs).length) := by
      rw [List.drop_set_of_lt (by omega), hlen]
      congr 1
      omega
    rw [e1, e2]
    simp
theorem own_setCells {base g c n k : Nat} {ty : TypeId} : ∀ (vs : List Value) (o : Nat) (w : World) (xs : List Value), w.ownsRow base ty k (.slice (some ⟨g, 0, none⟩) n c) n xs → (w.setCells g o vs).ownsRow base ty k (.slice (some ⟨g, 0, none⟩) n c) n (stM xs o vs) ∧ w.grownBy (w.setCells g o vs) (some g)
  | [], o, w, xs, h => ⟨h, ⟨rfl, rfl, rfl, Nat.le_refl _, fun _ _ _ => rfl⟩⟩
  | v :: vs, o, w, xs, h => by
    obtain ⟨s0, t0⟩ := World.ownsRow.stored h o v
    obtain ⟨s1, t1⟩ := own_setCells vs (o + 1) _ _ s0
    exact ⟨s1, ⟨t1.os.trans t0.os, t1.tape.trans t0.tape, t1.output.trans t0.output, Nat.le_trans t0.size t1.size, fun i hi hne => (t1.block i (Nat.lt_of_lt_of_le hi t0.size) hne).trans (t0.block i hi hne)⟩⟩
theorem own_cutK {w : World} {b0 g c m k s : Nat} {ty : TypeId} {l : List Value} (h : w.ownsRow b0 ty s (.slice (some ⟨g, 0, none⟩) m c) m l) (hk : k ≤ m) : w.ownsRow b0 ty s (.slice (some ⟨g, 0, none⟩) k c) k (l.take (k * s)) := by
  obtain ⟨h1, h2⟩ := h
  have hks : k * s ≤ m * s := Nat.mul_le_mul_right _ hk
  refine ⟨by rw [List.length_take, h1]; omega, ?_⟩
  rcases h2 with ⟨e, _⟩ | ⟨g', cap, cur, e, hb, hg, hmc, hcm, hsz, ht⟩
  · injection e with e; cases e
  · injection e with e1 e2 e3
    subst e3
    refine .inr ⟨g', c, cur, by rw [e1], hb, hg, by omega, hcm, hsz, ?_⟩
    rw [← ht, List.take_take, Nat.min_eq_left hks]
theorem own_room {w : World} {b0 g c m s : Nat} {ty : TypeId} {l : List Value} (h : w.ownsRow b0 ty s (.slice (some ⟨g, 0, none⟩) m c) m l) : m ≤ c ∧ (c : Int) ≤ maxLen := by
  rcases h.2 with ⟨e, _⟩ | ⟨g', cap, cur, e, hb, hg, hmc, hcm, hsz, ht⟩
  · injection e with e; cases e
  · injection e with e1 e2 e3
    subst e3
    exact ⟨hmc, by exact_mod_cast hcm⟩
theorem cbs_mem1 {l : List Cb} {u : Value} (h : u ∈ cbs l) : u.oneCell' = true := by
  unfold cbs at h
  obtain ⟨c, _, h2⟩ := List.mem_flatMap.1 h
  simp [cbc] at h2
  rcases h2 with rfl | rfl <;> rfl
theorem run_clear1 (w : World) (ty : TypeId) (g o c : Nat) (hc : ∀ j, j < 2 → (w.cell? ⟨g, o + j, none⟩).isSome = true) (hf : ∀ j, j < 2 → w.frozen? ⟨g, o + j, none⟩ = false) :
    (Builtin.clear_ #[35] ty #[.slice (some ⟨g, o, none⟩) 1 c]).run Try.prog w = .ok (.tuple #[]) (w.setCells g o [.int .i64 0, .int .i64 0]) := by
  have hst := run_storeCells_cells (P := Try.prog) g o [.int .i64 0, .int .i64 0] 0 w (by simpa using hc) (by simpa using hf) (by intro v hv'; simp at hv'; rw [hv']; rfl)
  simp only [Nat.add_zero] at hst
  have hzc : (Builtin.zeroCells (Value.agg #[.int .i64 0, .int .i64 0]).cells 1).toList = [.int .i64 0, .int .i64 0] := by kernel_rfl
  simp [Builtin.clear_, run_underlying Try.underlying35, Try.zeroValue23, hzc, hst]
section
variable {w : World} {base g cap i : Nat} {l : List Cn}
set_option maxHeartbeats 8000000 in
theorem deleteC_any (own : OwC w base (some ⟨g, 0, none⟩) cap (l.map zc)) (hi : i < l.length) (hl : l.length ≤ 1024) :
    Calls Try.prog 92 #[.slice (some ⟨g, 0, none⟩) l.length cap, .int .i64 (i : Int), .int .i64 ((i + 1 : Nat) : Int)] w fun e w' => e = .returned (.slice (some ⟨g, 0, none⟩) (l.length - 1) cap) ∧ OwC w' base (some ⟨g, 0, none⟩) cap ((l.eraseIdx i).map zc) ∧ w.grownBy w' (some g) := by
  have hroom := own_room own
  rw [List.length_map] at hroom
  obtain ⟨n, hn⟩ : ∃ n, n = l.length := ⟨_, rfl⟩
  rw [← hn] at hi hl hroom ⊢
  have hcap : n ≤ cap := hroom.1
  have hcapM := hroom.2
  clear hroom
  obtain ⟨m, rfl⟩ : ∃ m, n = m + 1 := ⟨n - 1, by omega⟩
  obtain ⟨news, hnews⟩ : ∃ news, news = cbs ((l.drop (i + 1)).map zc) := ⟨_, rfl⟩
  obtain ⟨xs, hxs⟩ : ∃ xs, xs = cbs (l.map zc) := ⟨_, rfl⟩
  have hnd : news = xs.drop ((i + 1) * 2) := by rw [hnews, hxs, List.map_drop]; exact (cbs_drop _ _).symm
  have hxl : xs.length = (m + 1) * 2 := by rw [hxs, cbs_length, List.length_map, ← hn]
  have hlen : news.length = (m - i) * 2 := by rw [hnd, List.length_drop, hxl]; omega
  have own0 : w.ownsRow base 23 2 (.slice (some ⟨g, 0, none⟩) (m + 1) cap) (m + 1) xs := by
    have h0 := own
    unfold OwC at h0
    rw [List.length_map, ← hn, ← hxs] at h0
    exact h0
  have hcell : ∀ t, t < (m + 1) * 2 → w.cell? ⟨g, t, none⟩ = xs[t]? := fun t ht => World.ownsRow.cellAt own0 t ht
  have hfr : ∀ t, w.frozen? ⟨g, t, none⟩ = false := fun t => World.ownsRow.frozenAt own0 t
  obtain ⟨A, hA, hsrc⟩ : ∃ A : Addr, (if cap = i + 1 then (some ⟨g, 0, none⟩ : Option Addr) else some ⟨g, (i + 1) * 2, none⟩) = some A ∧ Hid (∀ t u, news[t]? = some u → w.drew.cell? (A.add t) = some u) := by
    by_cases h : cap = i + 1
    · refine ⟨⟨g, 0, none⟩, by simp [h], fun t u hu => ?_⟩
      have h0 : news.length = 0 := by rw [hlen]; omega
      rw [List.length_eq_zero_iff.1 h0] at hu
      simp at hu
    · refine ⟨⟨g, (i + 1) * 2, none⟩, by simp [h], fun t u hu => ?_⟩
      have ht : t < (m - i) * 2 := by
        have := (List.getElem?_eq_some_iff.1 hu).1
        rwa [hlen] at this
      rw [hnd, List.getElem?_drop] at hu
      rw [Addr.add_lit]
      exact (hcell _ (by omega)).trans hu
  have s1 : Hid (news.length = (m - i) * 2) := hlen
  have s2 : Hid (∀ u ∈ news, u.oneCell' = true) := fun u hu => by
    rw [hnews] at hu
    exact cbs_mem1 hu
  have s3 : Hid (∀ t, t < news.length → (w.drew.cell? ⟨g, 0 + i * 2 + t, none⟩).isSome = true ∧ w.drew.frozen? ⟨g, 0 + i * 2 + t, none⟩ = false) := fun t ht => by
    rw [hlen] at ht
    refine ⟨?_, hfr _⟩
    show (w.cell? _).isSome = true
    rw [hcell _ (by omega), List.getElem?_eq_getElem (by omega)]
    rfl
  obtain ⟨i0, hi0, hz0, hz1, hz2⟩ := info_parts cubeInfo
  have HI0 := Lib.hid hi0
  have HZ1 := Lib.hid hz1
  clear hi0 hz0 hz1 hz2
  obtain ⟨W1, hW1⟩ : ∃ W1, W1 = w.drew.setCells g (0 + i * 2) news := ⟨_, rfl⟩
  have hz0' : xs.length = (m + 1) * 2 := hxl
  have ownD : w.drew.ownsRow base 23 2 (.slice (some ⟨g, 0, none⟩) (m + 1) cap) (m + 1) xs := own0
  obtain ⟨ownA, grA⟩ := own_setCells news (0 + i * 2) w.drew xs ownD
  rw [← hW1] at ownA grA
  obtain ⟨ownB, grB⟩ := own_setCells [.int .i64 0, .int .i64 0] (m * 2) W1 _ ownA
  have ownC := own_cutK ownB (show m ≤ m + 1 by omega)
  have hfin : (stM (stM xs (0 + i * 2) news) (m * 2) [.int .i64 0, .int .i64 0]).take (m * 2) = cbs ((l.eraseIdx i).map zc) := by
    rw [stM_eq _ _ _ (by rw [stM_length, hxl]; simp; omega), stM_eq _ _ _ (by rw [hlen, hxl]; omega), Nat.zero_add, hlen]
    rw [List.append_assoc, List.take_append_of_le_length (by simp [hxl, hlen]; omega), List.take_take, Nat.min_self]
    rw [List.take_append_of_le_length (by simp [hxl, hlen]; omega), List.take_of_length_le (by simp [hxl, hlen]; omega)]
    rw [hxs, hnews, cbs_take, ← cbs_append, List.eraseIdx_eq_take_drop_succ, List.map_append, ← List.map_take]
  rw [hfin] at ownC
  have HFin : Hid (OwC (W1.setCells g (m * 2) [.int .i64 0, .int .i64 0]) base (some ⟨g, 0, none⟩) cap ((l.eraseIdx i).map zc) ∧ w.grownBy (W1.setCells g (m * 2) [.int .i64 0, .int .i64 0]) (some g)) := by
    refine ⟨?_, ⟨grB.os.trans grA.os, grB.tape.trans grA.tape, grB.output.trans grA.output, Nat.le_trans grA.size grB.size, fun i hi hne => (grB.block i (Nat.lt_of_lt_of_le hi grA.size) hne).trans (grA.block i hi hne)⟩⟩
    unfold OwC
    rw [List.length_map, List.length_eraseIdx_of_lt (by omega), ← hn]
    exact ownC
  have hcl : ∀ ty, (Builtin.clear_ #[35] ty #[.slice (some ⟨g, m * 2, none⟩) 1 (cap - m)]).run Try.prog W1 = .ok (.tuple #[]) (W1.setCells g (m * 2) [.int .i64 0, .int .i64 0]) := fun ty => by
    refine run_clear1 W1 ty g (m * 2) (cap - m) (fun j hj => ?_) (fun j hj => World.ownsRow.frozenAt ownA _)
    rw [World.ownsRow.cellAt ownA _ (by omega), List.getElem?_eq_getElem (by rw [stM_length, hxl]; omega)]
    rfl
  clear hfin ownA ownB ownC grA grB ownD hz0'
  have hW : Hid (W1 = w.drew.setCells g (0 + i * 2) news) := hW1
  have i1 : (0 : Int) ≤ (i : Int) := by omega
  have i2 : (i : Int) + 1 ≤ (m : Int) + 1 := by omega
  have i3 : (m : Int) + 1 ≤ (cap : Int) := by omega
  have i4 : (i : Int) + 1 ≤ (cap : Int) := by omega
  have i5 : (i : Int) ≤ (cap : Int) := by omega
  have i7 : (0 : Int) ≤ (i : Int) + 1 := by omega
  have i6 : ((i : Int) == (i : Int) + 1) = false := by simp; omega
  have hic : i ≤ cap := by omega
  have hjc : i + 1 ≤ cap := by omega
  have HN := Lib.hid hn
  clear hW1 hcell hfr hnd own0 own hnews hxs hn
  go_enter Try.func92, Try.ntmps92
  go_wp2_with fail
  go_region_law (refine step_append_room rfl (.tmp 22) (.tmp 25) 35 rfl 23 i0 2 Try.underlying35 HI0.out HZ1.out g 0 i cap (by simp [Act.eval, Act.put]) A (m - i) (cap - (i + 1)) news (by simp [Act.eval, Act.put]) s1.out hsrc.out s2.out (by omega) s3.out ?_; rw [← hW.out])
  have e9 : i + (m - i) = m := by omega
  have i8 : (m : Int) ≤ (cap : Int) := by omega
  go_wp2
  go_returns
  exact ⟨rfl, HFin.out.1, HFin.out.2⟩
end
end Go.Proofs.Ytedopalmfakeaaa
