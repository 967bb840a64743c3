/- Contracts of functions and lemmas, used by the proofs of the given statements. No condition beyond those that each lemma names. -/
import Derived.RangeFuncNested
import Derived.RangeFuncBound
import Derived.RangeFuncCalls
import Derived.RangeFuncLeaves
import Derived.RangeFuncBox
import Derived.Shelf.Abstract
import Derived.Shelf.AbstractIn
import Derived.Shelf.RegionOpen
import Derived.WalkKit
import Derived.OwnWalkIn
import Derived.TacticsInMore
import Derived.LoopNIn
import Derived.LoopIn
import Derived.Maps.AppendAt
import Derived.Test.YtedopalmfakeaaaCubeA2
namespace Go.Proofs.Ytedopalmfakeaaa
open Go.RowKit Go.Shelf
attribute [local go_sem] Oper.semAt_some
set_option linter.unusedSimpArgs false
set_option linter.unusedVariables false
/-! ## slices.Values, AppendSeq, Collect at cubes -/
abbrev encC (x : Cb) : Array Value := #[cbv x]
theorem two_new (w : World) (x y : Value) (t : TypeId) : ∀ j u, [x, y][j]? = some u → (w.alloc (.cells #[x, y] t)).cell? ((⟨w.heap.size, 0, none⟩ : Addr).add j) = some u := by
  intro j u hj
  match j, hj with
  | 0, hj =>
    simp at hj
    subst hj
    simp [Addr.add]
  | 1, hj =>
    simp at hj
    subst hj
    simp [Addr.add]
  | j + 2, hj => simp at hj
set_option maxRecDepth 100000 in
set_option maxHeartbeats 2000000 in
theorem valsC_in (F : Fence) (n : Nat) (hf : F.fn 113) (hro : F.round = none) (hn : 1 ≤ n) (l Bs n₀ b off cap : Nat) (zs : List Cb) (hreach : zs.length ≤ 1000000) (hb : b < n₀) (J Jx : List Cb → World → Prop)
    (W : World) (hn₀ : n₀ ≤ W.heap.size) (hJ : AbidesFrom W.heap.size J)
    (hY : ∀ pre x W, J pre W → pre.length < zs.length → YieldAt F (n - 1) Try.prog l (encC x) W fun e W' =>
      (e = .returned (.bool true) ∧ J (pre ++ [x]) W' ∧ Below n₀ W W') ∨ (e = .returned (.bool false) ∧ Jx (pre ++ [x]) W'))
    (hBs : W.cell? ⟨Bs, 0, none⟩ = some (.slice (some ⟨b, off, none⟩) zs.length cap)) (hc : ∀ j x, zs[j]? = some x → W.cell? ⟨b, off + j * 2, none⟩ = some (.int .i64 x.1) ∧ W.cell? ⟨b, off + j * 2 + 1, none⟩ = some (.int .i64 x.2)) (h0 : J [] W) :
    CallsIn F n Try.prog 113 #[.func (.yield l) #[] #[], .pointer (some ⟨Bs, 0, none⟩)] W fun e W' => (∃ v, e = .returned v) ∧
      ((∃ ys, ys = zs ∧ J ys W') ∨ (∃ pre, pre <+: zs ∧ Jx pre W')) := by
  refine callsIn_of_wp Try.func113 rfl hf ?_ hro
  simp only [Try.ntmps113, List.size_toArray, List.length_cons, List.length_nil, Nat.reduceAdd, Nat.reduceSub, Array.replicate_succ, Array.replicate_zero, List.push_toArray, List.append_toArray, List.nil_append, List.cons_append]
  gi_wp2
  gi_loopw [7] (fun i wr => ∃ k : Nat, k ≤ zs.length ∧ i = .int .i64 k ∧ J (zs.take k) wr ∧ Below n₀ W wr)
    (fun i _ => zs.length - (intOf i).toNat)
  case atStart => exact ⟨0, Nat.zero_le _, rfl, by simpa using h0, Below.refl _ _⟩
  case round =>
    obtain ⟨k, hk, rfl, hJs, hnx⟩ := hrel
    have hwz := hnx.size
    by_cases hlt : k < zs.length
    · obtain ⟨c1, c2⟩ := hc k zs[k] (by simp [hlt])
      have c1' := (hnx.cell (p := ⟨b, off + k * 2, none⟩) hb).trans c1
      have c2' := (hnx.cell (p := ⟨b, off + k * 2 + 1, none⟩) hb).trans c2
      have HT := Lib.hid (List.take_succ_eq_append_getElem hlt)
      have HL : Hid ((zs.take k).length < zs.length) := by show _ < _; simp; omega
      obtain ⟨x, hx⟩ : ∃ x, x = zs[k] := ⟨_, rfl⟩
      rw [← hx] at c1' c2' HT
      clear hx c1 c2
      have hJ2 : J (zs.take k) (wr.alloc (.cells #[.int .i64 x.1, .int .i64 x.2] 23)) := hJ _ _ _ none hJs (World.grownBy_alloc wr _ none) (fun r e => by cases e)
      obtain ⟨fn, tmps, assign, body, hy, hR⟩ := hY _ x _ hJ2 HL.out
      gi_wp2
      refine hR.mono ?_
      rintro e W3 (⟨rfl, hJ3, hk3⟩ | ⟨rfl, hJx3⟩)
      · gi_wp2
        go_roundw
        case rel => exact ⟨k + 1, by omega, by simp, by rw [HT.out]; exact hJ3, hnx.trans ((((Below.refl n₀ wr).alloc (by omega) _)).trans hk3)⟩
        case measure => simp [intOf]; omega
      · gi_wp2
        refine bodyPost_ret (results_none rfl _ _ _) rfl ?_
        exact ⟨⟨_, rfl⟩, .inr ⟨zs.take (k + 1), List.take_prefix _ _, by rw [HT.out]; exact hJx3⟩⟩
    · obtain rfl : k = zs.length := by omega
      gi_wp2
      go_end0
      exact ⟨⟨_, rfl⟩, .inl ⟨_, rfl, by simpa using hJs⟩⟩
set_option maxRecDepth 100000 in
set_option maxHeartbeats 1000000 in
theorem valsC_nil (F : Fence) (n : Nat) (hf : F.fn 113) (hro : F.round = none) (l Bs : Nat) (A : Option Addr) (cap : Nat) (J : List Cb → World → Prop) (W : World) (hBs : W.cell? ⟨Bs, 0, none⟩ = some (.slice A 0 cap)) (h0 : J [] W) :
    CallsIn F n Try.prog 113 #[.func (.yield l) #[] #[], .pointer (some ⟨Bs, 0, none⟩)] W fun e W' => (∃ v, e = .returned v) ∧ J [] W' := by
  refine callsIn_of_wp Try.func113 rfl hf ?_ hro
  simp only [Try.ntmps113, List.size_toArray, List.length_cons, List.length_nil, Nat.reduceAdd, Nat.reduceSub, Array.replicate_succ, Array.replicate_zero, List.push_toArray, List.append_toArray, List.nil_append, List.cons_append]
  gi_wp2
  gi_loopw [7] (fun i wr => i = .int .i64 0 ∧ J [] wr) (fun _ _ => 0)
  case atStart => exact ⟨rfl, h0⟩
  case round =>
    obtain ⟨rfl, hJs⟩ := hrel
    gi_wp2
    go_end0
    exact ⟨⟨_, rfl⟩, hJs⟩
set_option maxHeartbeats 1000000 in
theorem values_in (F : Fence) (n : Nat) (hf : F.fn 82) (hro : F.round = none) (a : Option Addr) (len cap : Nat) (w : World) :
    CallsIn F n Try.prog 82 #[.slice a len cap] w fun e w' => e = .returned (.func (.func 113) #[] #[.pointer (some ⟨w.heap.size, 0, none⟩)]) ∧ w' = w.alloc (.cells #[.slice a len cap] 35) := by
  refine callsIn_of_wp Try.func82 rfl hf ?_ hro
  simp only [Try.ntmps82, List.size_toArray, List.length_cons, List.length_nil, Nat.reduceAdd, Nat.reduceSub, Array.replicate_succ, Array.replicate_zero, List.push_toArray, List.append_toArray, List.nil_append, List.cons_append]
  gi_wp2
  go_ret
  exact ⟨rfl, rfl⟩
theorem valsC_stops (F : Fence) (n : Nat) (hf : F.fn 113) (hro : F.round = none) (hn : 1 ≤ n) (Bs n₀ cap : Nat) (A : Option Addr) (zs : List Cb) (hreach : zs.length ≤ 1000000) (w : World) (hBs : Bs < w.heap.size) (hn₀ : n₀ ≤ w.heap.size)
    (hc : w.cell? ⟨Bs, 0, none⟩ = some (.slice A zs.length cap)) (hI : RdC w n₀ A zs) :
    SeqStopsK F n Try.prog 113 #[.pointer (some ⟨Bs, 0, none⟩)] encC (Below n₀) (fun ys => ys = zs) (fun pre => pre <+: zs) zs.length w := fun l J Jx W hW hJ _ hY h0 => by
  have hc' := (hW.cell (p := ⟨Bs, 0, none⟩) hBs).trans hc
  have hI' := hI.below (hW.mono hn₀)
  have hWz := hW.size
  rcases Nat.eq_zero_or_pos zs.length with h | h
  · have : zs = [] := List.eq_nil_of_length_eq_zero h
    subst this
    exact (valsC_nil F n hf hro l Bs A cap J W hc' h0).mono fun e W' ⟨he, hj⟩ => ⟨he, .inl ⟨_, rfl, hj⟩⟩
  · obtain ⟨b, off, rfl, hb, _⟩ := hI'.at_ (k := 0) (c := zs[0]) (by simp [h])
    exact valsC_in F n hf hro hn l Bs n₀ b off cap zs hreach hb J Jx W (by omega) hJ hY hc' (fun j x hj => hI'.cells hj) h0
/-! ### AppendSeq -/
def Box2 (W : World) (B : Nat) (x : Cb) : Prop := W.heap[B]? = some (.cells #[.int .i64 x.1, .int .i64 x.2] 23 (0, 0))
theorem Box2.new (W : World) (x : Cb) : Box2 (W.alloc (.cells #[.int .i64 x.1, .int .i64 x.2] 23)) W.heap.size x := World.alloc_heap_new W _
theorem Box2.cells {W : World} {B : Nat} {x : Cb} (h : Box2 W B x) : W.cell? ⟨B, 0, none⟩ = some (.int .i64 x.1) ∧ W.cell? ⟨B, 1, none⟩ = some (.int .i64 x.2) := by
  unfold Box2 at h
  constructor <;> simp [World.cell?, h]
theorem box2_from (B C : Nat) (x : Cb) : ∀ (X Y : World) (row : Option Nat), Box2 X C x → X.grownBy Y row → (∀ r, row = some r → B ≤ r ∧ ∃ o : Obj, X.heap[r]? = some o ∧ o.isCells = false) → Box2 Y C x := fun X Y row h hg hr =>
  (hg.block C (Array.getElem?_eq_some_iff.1 h).1 (fun e => by
    obtain ⟨_, o, ho, hc⟩ := hr C e.symm
    rw [show X.heap[C]? = _ from h] at ho; cases ho; cases hc)).trans h
set_option maxRecDepth 100000 in
set_option maxHeartbeats 4000000 in
theorem appendSeqC_in (F : Fence) (n : Nat) (hf : F.fn 131) (hg : F.fn 113) (hro : F.round = none) (hn : 3 ≤ n) (Bs cap : Nat) (A : Option Addr) (zs : List Cb) (hreach : zs.length ≤ 1000000) (w : World) (hBs : Bs < w.heap.size)
    (hc : w.cell? ⟨Bs, 0, none⟩ = some (.slice A zs.length cap)) (hI : RdC w w.heap.size A zs) :
    CallsIn F n Try.prog 131 #[.slice none 0 0, .func (.func 113) #[] #[.pointer (some ⟨Bs, 0, none⟩)]] w fun e W' => ∃ A' c', e = .returned (.slice A' zs.length c') ∧ OwC W' w.heap.size A' c' zs ∧ Below w.heap.size w W' := by
  have h1 : 1 ≤ n := by omega
  obtain ⟨i0, hi, hz0, hz1, hz2⟩ := info_parts cubeInfo
  refine callsIn_of_wp_marks Try.func131 rfl hf ?_ hro
  simp only [Try.ntmps131, List.size_toArray, List.length_cons, List.length_nil, Nat.reduceAdd, Nat.reduceSub, Array.replicate_succ, Array.replicate_zero, List.push_toArray, List.append_toArray, List.nil_append, List.cons_append]
  gi_wp2
  have bO := Boxed.new w 35 (.slice none 0 0)
  have hB0 : Below w.heap.size w (w.alloc (.cells #[.slice none 0 0] 35)) := (Below.refl _ w).alloc (Nat.le_refl _) _
  have hc1 : (w.alloc (.cells #[.slice none 0 0] 35)).cell? ⟨Bs, 0, none⟩ = some (.slice A zs.length cap) := (below_at hB0 Bs 0 hBs).trans hc
  have hI1 := hI.below hB0
  have hsz : (w.alloc (.cells #[.slice none 0 0] 35)).heap.size = w.heap.size + 1 := by simp
  obtain ⟨W0, hW0⟩ : ∃ W0, w.alloc (.cells #[.slice none 0 0] 35) = W0 := ⟨_, rfl⟩
  rw [hW0] at bO hB0 hc1 hI1 hsz ⊢
  clear hW0
  refine wpIn_rangeFunc_ownH hro h1 (gf := 113) (lb := #[.pointer (some ⟨Bs, 0, none⟩)]) rfl hg (enters_of Try.func113 (by kernel_rfl) rfl)
    (valsC_stops F (n - 1) hg hro (by omega) Bs w.heap.size cap A zs hreach W0 (by omega) (by omega) hc1 hI1) belowK_t (belowK_b (by omega)) (Below.refl _ _) (fun _ => rfl)
    (fun pre W => (∃ v, Boxed W w.heap.size 35 v ∧ W.ownsRow w.heap.size 23 2 v pre.length (cbs pre) ∧ True) ∧ Below w.heap.size w W)
    (fun _ _ _ => False)
    (OwnFrom.and (Own.from (holdsRow_own w.heap.size w.heap.size 35 23 2 (fun pre : List Cb => pre.length) (fun pre => cbs pre) (fun pre v => True)) _) (ownFrom_below (Nat.le_refl _) (by omega)))
    (fun _ _ _ _ _ hs _ _ => hs)
    ⟨⟨_, bO, World.ownsRow_nil _ _ _ _, trivial⟩, hB0⟩
    (fun x a' W => ∃ Bx, Box2 W Bx x ∧ a' = { tmps := #[.slice none 0 0, .func (.func 113) #[] #[.pointer (some ⟨Bs, 0, none⟩)], .pointer (some ⟨w.heap.size, 0, none⟩), undef, .slice none 0 0, .pointer (some ⟨Bx, 0, none⟩), .func (.func 113) #[] #[.pointer (some ⟨Bs, 0, none⟩)], cbv x, undef, undef, undef, undef, undef], defers := [] })
    (fun x a' _ X Y row hs hg hr => by obtain ⟨Bx, h2, h3⟩ := hs; exact ⟨Bx, box2_from _ Bx x X Y row h2 hg hr, h3⟩)
    ?assign ?body ?done ?stop
  case assign =>
    rintro l pre x W K ⟨⟨v, hv, hrow, _⟩, hB⟩ hK
    gi_wp2
    exact hK _ _ ((KeepsOthers.alloc _ _).from _) ((Below.refl _ W).alloc hB.size _) ⟨⟨v, hv.alloc _, hrow.alloc _, trivial⟩, hB.alloc hB.size _⟩ ⟨W.heap.size, Box2.new W x, rfl⟩
  case body =>
    rintro l pre x a' W hl ⟨r, hr⟩ ⟨⟨v, hv, hrow, _⟩, hB⟩ ⟨Bx, bX, rfl⟩ hlt
    have hcB := hv.cell
    obtain ⟨x1, x2⟩ := bX.cells
    gi_wp2_with (gi_at_builtin; refine wpListIn_append_own _ rfl _ _ 35 rfl w.heap.size 23 i0 (.agg #[.int .i64 0, .int .i64 0]) 2 16 Try.underlying35 hi hz0 hz1 hz2 rfl (by decide) _ _ _ rfl (hrow.alloc _) ⟨W.heap.size, 0, none⟩ 1 1 [.int .i64 x.1, .int .i64 x.2] rfl rfl (two_new _ _ _ _) (by simp [Value.oneCell']) (by unfold maxLen; omega) (by omega) (by have := hB.size; simp; omega) ?_; intro v' w1 hown' hgrow _; obtain ⟨g', cap', rfl⟩ := ownsRow_succ hown'; obtain ⟨hv1, hv2, hr2, hk2, hb2⟩ := hv.appended (by decide) hrow hB.size (Nat.le_refl _) hown' hgrow; have hc1 := hv1.cell; have hf1 := hv1.frozen)
    exact ⟨hk2.from _, hb2, ⟨_, hv2, by rw [cbs_append, List.length_append]; exact hr2, trivial⟩, hB.trans hb2⟩
  case done =>
    rintro D ys W hD rfl ⟨⟨v, hv, hrow, _⟩, hB⟩ hK
    have hcB := hv.cell
    gi_wp2
    refine ⟨by simp, .inl ⟨_, _, rfl, run_takeDeferred hK, ?_⟩⟩
    obtain ⟨A', c', rfl, _⟩ := own_form hrow
    exact ⟨_, results_tmp rfl _ _ _, A', c', rfl, ownsRow_putObj hrow _ hK rfl, hB.trans (belowK_b (w := w) (Nat.le_refl _) W D _ _ (by omega) hK rfl rfl)⟩
  case stop =>
    rintro D c pre W _ _ h _
    exact h.elim
set_option maxHeartbeats 1000000 in
theorem collectC_in (F : Fence) (n : Nat) (h1 : F.fn 111) (hf : F.fn 131) (hg : F.fn 113) (hro : F.round = none) (hn : 4 ≤ n) (Bs cap : Nat) (A : Option Addr) (zs : List Cb) (hreach : zs.length ≤ 1000000) (w : World) (hBs : Bs < w.heap.size)
    (hc : w.cell? ⟨Bs, 0, none⟩ = some (.slice A zs.length cap)) (hI : RdC w w.heap.size A zs) :
    CallsIn F n Try.prog 111 #[.func (.func 113) #[] #[.pointer (some ⟨Bs, 0, none⟩)]] w fun e W' => ∃ A' c', e = .returned (.slice A' zs.length c') ∧ OwC W' w.heap.size A' c' zs ∧ Below w.heap.size w W' := by
  have h1' : 1 ≤ n := by omega
  refine callsIn_of_wp Try.func111 rfl h1 ?_ hro
  simp only [Try.ntmps111, List.size_toArray, List.length_cons, List.length_nil, Nat.reduceAdd, Nat.reduceSub, Array.replicate_succ, Array.replicate_zero, List.push_toArray, List.append_toArray, List.nil_append, List.cons_append]
  gi_wp2_with (gi_at_call 131; refine (appendSeqC_in F (n - 1) hf hg hro (by omega) Bs cap A zs hreach w hBs hc hI).mono ?_; rintro e w' ⟨A', c', rfl, hown, hb⟩)
  go_ret
  exact ⟨A', c', rfl, hown, hb⟩
theorem collectC (Bs cap : Nat) (A : Option Addr) (zs : List Cb) (hreach : zs.length ≤ 1000000) (w : World) (hBs : Bs < w.heap.size) (hc : w.cell? ⟨Bs, 0, none⟩ = some (.slice A zs.length cap)) (hI : RdC w w.heap.size A zs) :
    Calls Try.prog 111 #[.func (.func 113) #[] #[.pointer (some ⟨Bs, 0, none⟩)]] w fun e W' => ∃ A' c', e = .returned (.slice A' zs.length c') ∧ OwC W' w.heap.size A' c' zs ∧ Below w.heap.size w W' :=
  callsIn_wide.1 (collectC_in Fence.wide 4 trivial trivial trivial rfl (Nat.le_refl _) Bs cap A zs hreach w hBs hc hI)
theorem valuesC (a : Option Addr) (len cap : Nat) (w : World) :
    Calls Try.prog 82 #[.slice a len cap] w fun e w' => e = .returned (.func (.func 113) #[] #[.pointer (some ⟨w.heap.size, 0, none⟩)]) ∧ w' = w.alloc (.cells #[.slice a len cap] 35) :=
  callsIn_wide.1 (values_in Fence.wide 4 trivial rfl a len cap w)
end Go.Proofs.Ytedopalmfakeaaa
