/- Contracts of functions and lemmas, used by the proofs of the given statements. No condition beyond those that each lemma names. -/
import Derived.Test.YtedopalmfakeaaaPrV1
import Derived.Test.YtedopalmfakeaaaJCubeCnt
import Derived.Test.YtedopalmfakeaaaCubeW3
import Derived.Deep.QuietTactic
import Derived.BigQuiet
namespace Go.Proofs.Ytedopalmfakeaaa
open Go.RowKit Go.Sort
set_option linter.unusedSimpArgs false
set_option linter.unusedVariables false
set_option maxRecDepth 20000
/-! ## base.Cubes, law13's in, example -/
set_option maxHeartbeats 400000 in
theorem cubes_any (A1 A2 : Option Addr) (l1 l2 : List Cb) (c1 c2 : Nat) (w : World) (hl1 : l1.length ≤ 140737488355328) (hl2 : l2.length ≤ 140737488355328) (h1 : RdC w w.heap.size A1 l1) (h2 : RdC w w.heap.size A2 l2) :
    Calls Try.prog 61 #[.slice A1 l1.length c1, .slice A2 l2.length c2] w fun e w' => e = .returned (.bool (decide (l1 = l2))) ∧ Below w.heap.size w w' := by
  by_cases hlen : l1.length = l2.length
  · have hne : ((l1.length : Int) != (l2.length : Int)) = false := by simp [hlen]
    have HL := Lib.hid hlen
    clear hlen
    go_enter Try.func61, Try.ntmps61
    go_wp2
    go_loopw [13] (fun i wr => ∃ k : Nat, k ≤ l1.length ∧ i = .int .i64 k ∧ l1.take k = l2.take k ∧ Below w.heap.size w wr) (fun i _ => l1.length - (intOf i).toNat)
    case atStart => exact ⟨0, Nat.zero_le _, rfl, by simp, Below.refl _ _⟩
    case round =>
      obtain ⟨k, hk, rfl, htk, hb⟩ := hrel
      have HT := Lib.hid htk
      clear htk
      by_cases hlt : k < l1.length
      · have hlt2 : k < l2.length := by have := HL.out; omega
        obtain ⟨b, off, rfl, hbb, c0, c1⟩ := (h1.below hb).at_ (List.getElem?_eq_getElem hlt)
        obtain ⟨b', off', rfl, hbb', d0, d1⟩ := (h2.below hb).at_ (List.getElem?_eq_getElem hlt2)
        have HE : Hid (l1[k] = l2[k] → l1.take (k + 1) = l2.take (k + 1)) := take_eq_succ hlt hlt2 HT.out
        have HN : Hid (l1[k] ≠ l2[k] → l1 ≠ l2) := fun hn he => hn (by subst he; rfl)
        generalize l1[k] = c at *
        generalize l2[k] = d at *
        obtain ⟨x, y⟩ := c
        obtain ⟨x', y'⟩ := d
        dsimp only at c0 c1 d0 d1
        by_cases hx : x = x'
        · by_cases hy : y = y'
          · subst hx
            subst hy
            go_wp2
            go_quiet (fail)
            go_wp2
            go_roundw
            case rel => exact ⟨k + 1, by omega, by go_num, HE.out (by simp), (by have z0 := Below.size hb; (try simp only [World.size_alloc, World.size_setCell, World.size_drew, size_drewN'] at z0 ⊢; skip); repeat' (first | (with_reducible exact Below.refl _ _) | (with_reducible assumption) | (with_reducible refine Below.alloc ?_ ?_ _) | (with_reducible refine Below.drew ?_) | (with_reducible refine below_drewN ?_ _) | (with_reducible refine Below.setCell ?_ ?_ _) | (with_reducible refine Below.trans ?_ (Below.mono (by with_reducible assumption) ?_)) | omega | (simp only [World.size_alloc, World.size_setCell, World.size_drew, size_drewN']; omega) | go_size))⟩
            case measure => simp [intOf]; omega
          · have hy' : (y == y') = false := by simp [hy]
            subst hx
            go_wp2
            go_quiet (fail)
            go_wp2
            go_ret
            exact ⟨ret_bool (by simp [HN.out (by simp [hy])]), (by have z0 := Below.size hb; (try simp only [World.size_alloc, World.size_setCell, World.size_drew, size_drewN'] at z0 ⊢; skip); repeat' (first | (with_reducible exact Below.refl _ _) | (with_reducible assumption) | (with_reducible refine Below.alloc ?_ ?_ _) | (with_reducible refine Below.drew ?_) | (with_reducible refine below_drewN ?_ _) | (with_reducible refine Below.setCell ?_ ?_ _) | (with_reducible refine Below.trans ?_ (Below.mono (by with_reducible assumption) ?_)) | omega | (simp only [World.size_alloc, World.size_setCell, World.size_drew, size_drewN']; omega) | go_size))⟩
        · have hx' : (x == x') = false := by simp [hx]
          go_wp2
          go_quiet (fail)
          go_wp2
          go_ret
          exact ⟨ret_bool (by simp [HN.out (by simp [hx])]), (by have z0 := Below.size hb; (try simp only [World.size_alloc, World.size_setCell, World.size_drew, size_drewN'] at z0 ⊢; skip); repeat' (first | (with_reducible exact Below.refl _ _) | (with_reducible assumption) | (with_reducible refine Below.alloc ?_ ?_ _) | (with_reducible refine Below.drew ?_) | (with_reducible refine below_drewN ?_ _) | (with_reducible refine Below.setCell ?_ ?_ _) | (with_reducible refine Below.trans ?_ (Below.mono (by with_reducible assumption) ?_)) | omega | (simp only [World.size_alloc, World.size_setCell, World.size_drew, size_drewN']; omega) | go_size))⟩
      · have hE : l1 = l2 := by
          have a := HT.out
          have b := HL.out
          rwa [List.take_of_length_le (by omega), List.take_of_length_le (by omega)] at a
        have HE := Lib.hid hE
        clear hE
        go_wp2
        go_ret
        exact ⟨ret_bool (by simp [HE.out]), hb⟩
  · have hne : ((l1.length : Int) != (l2.length : Int)) = true := by rw [bne_iff_ne]; omega
    have HN : Hid (l1 ≠ l2) := fun he => hlen (by rw [he])
    clear hlen
    go_enter Try.func61, Try.ntmps61
    go_wp2
    go_ret
    exact ⟨ret_bool (by simp [HN.out]), Below.refl _ _⟩
theorem cubes_at (A1 A2 : Option Addr) (l1 l2 : List Cb) (n1 n2 c1 c2 : Nat) (w : World) (e1 : l1.length = n1) (e2 : l2.length = n2) (hl1 : n1 ≤ 140737488355328) (hl2 : n2 ≤ 140737488355328) (h1 : RdC w w.heap.size A1 l1) (h2 : RdC w w.heap.size A2 l2) :
    Calls Try.prog 61 #[.slice A1 n1 c1, .slice A2 n2 c2] w fun e w' => e = .returned (.bool (decide (l1 = l2))) ∧ Below w.heap.size w w' := by
  subst e1
  subst e2
  exact cubes_any A1 A2 l1 l2 c1 c2 w hl1 hl2 h1 h2

section
variable {w : World} {A : Option Addr} {c : Nat}
end
/-- cells that are made at once -/
theorem rds_lit {w W : World} {xs : Array Value} {t : TypeId} {s n b : Nat} {l : List Value} (hbe : b = w.heap.size) (hl : l = xs.toList) (hn : xs.size = n * s) (hb : Below (w.heap.size + 1) (w.alloc (.cells xs t)) W) : Rds W W.heap.size s (some ⟨b, 0, none⟩) n l := by
  subst hl
  subst hbe
  have hz := hb.size
  simp only [World.size_alloc] at hz
  refine ⟨by simpa using hn, fun _ => ⟨w.heap.size, 0, rfl, by omega, fun j u hu => ?_⟩⟩
  rw [Nat.zero_add, below_at hb w.heap.size j (by omega), World.cell?_alloc_at _ _ _ _ rfl]
  simpa using hu
def exF : FrR where
  vars := 3
  nn := 4
  kd k := if k = 0 then 1 else if k = 3 then 3 else 2
  kk _ := 0
  ar k := if k = 0 then [1] else if k = 1 then [0, 3] else if k = 2 then [1, 2] else [4, 5]
  top := 6
theorem ex_frm {w0 : World} {b : Nat} (hb : w0.heap.size = b) (t1 t2 : TypeId) : FrI (((((w0.alloc (.cells #[.int .i64 1] t1)).alloc (.cells #[.int .i64 0, .int .i64 3] t1)).alloc (.cells #[.int .i64 1, .int .i64 2] t1)).alloc (.cells #[.int .i64 4, .int .i64 5] t1)).alloc (.cells #[.int .i64 1, .int .i64 0, .slice (some ⟨b, 0, none⟩) 1 1, .int .i64 2, .int .i64 0, .slice (some ⟨b + 1, 0, none⟩) 2 2, .int .i64 2, .int .i64 0, .slice (some ⟨b + 1 + 1, 0, none⟩) 2 2, .int .i64 3, .int .i64 0, .slice (some ⟨b + 1 + 1 + 1, 0, none⟩) 2 2] t2)) (some ⟨b + 1 + 1 + 1 + 1, 0, none⟩) exF := by
  have ext : ∀ (B : Nat) (W : World) (o : Obj), B ≤ W.heap.size → Below B W (W.alloc o) := fun B W o h => (Below.refl B W).alloc h o
  refine ⟨fun k => if k = 0 then (some ⟨b, 0, none⟩, 1) else if k = 1 then (some ⟨b + 1, 0, none⟩, 2) else if k = 2 then (some ⟨b + 1 + 1, 0, none⟩, 2) else (some ⟨b + 1 + 1 + 1, 0, none⟩, 2), ?_, fun k hk => ?_⟩
  · refine rds_lit (w := (((w0.alloc (.cells #[.int .i64 1] t1)).alloc (.cells #[.int .i64 0, .int .i64 3] t1)).alloc (.cells #[.int .i64 1, .int .i64 2] t1)).alloc (.cells #[.int .i64 4, .int .i64 5] t1)) (by simp [hb]) ?_ rfl (Below.refl _ _)
    simp [nodsC, nodC, exF, List.range, List.range.loop]
  · match k, hk with
    | 0, _ => exact rds_lit (w := w0) (t := t1) (s := 1) hb.symm (by rfl) rfl ((((ext _ _ _ (by simp)).trans (ext _ _ _ (by simp))).trans (ext _ _ _ (by simp))).trans (ext _ _ _ (by simp)))
    | 1, _ => exact rds_lit (w := w0.alloc (.cells #[.int .i64 1] t1)) (t := t1) (s := 1) (by simp [hb]) (by rfl) rfl (((ext _ _ _ (by simp)).trans (ext _ _ _ (by simp))).trans (ext _ _ _ (by simp)))
    | 2, _ => exact rds_lit (w := (w0.alloc (.cells #[.int .i64 1] t1)).alloc (.cells #[.int .i64 0, .int .i64 3] t1)) (t := t1) (s := 1) (by simp [hb]) (by rfl) rfl ((ext _ _ _ (by simp)).trans (ext _ _ _ (by simp)))
    | 3, _ => exact rds_lit (w := ((w0.alloc (.cells #[.int .i64 1] t1)).alloc (.cells #[.int .i64 0, .int .i64 3] t1)).alloc (.cells #[.int .i64 1, .int .i64 2] t1)) (t := t1) (s := 1) (by simp [hb]) (by rfl) rfl (ext _ _ _ (by simp))
    | k + 4, h => exact absurd h (by show ¬ k + 4 < 4; omega)
theorem results_cell1 {fn : Func} {p : Tmp} {ty : TypeId} (h : fn.results = #[.cell p ty]) (tmps : Array Value) (P : Program) (w : World) :
    (results fn tmps).run P w = ((asAddr (tmps.getD p undef)).run P w).andThen fun a w₁ => (loadVar ty a).run P w₁ := by
  simp only [results, h]
  simp [Sem.run_bind, Result.andThen]
set_option maxHeartbeats 4000000 in
theorem example_any (w : World) : Calls Try.prog 85 #[] w fun e w' => (∃ A c, e = .returned (fv 3 A 4 c 6) ∧ FrI w' A exF) ∧ Below w.heap.size w w' := by
  go_enter Try.func85, Try.ntmps85
  go_wp2
  (try simp only [Exit.inBlock, Exit.then])
  refine bodyPost_ret (v := fv 3 (some ⟨w.heap.size + 1 + 1 + 1 + 1 + 1, 0, none⟩) 4 4 6) ?_ rfl ⟨⟨_, _, rfl, ex_frm (by simp) _ _⟩, (by (skip); repeat' (first | (with_reducible exact Below.refl _ _) | (with_reducible assumption) | (with_reducible refine Below.alloc ?_ ?_ _) | (with_reducible refine Below.drew ?_) | (with_reducible refine below_drewN ?_ _) | (with_reducible refine Below.setCell ?_ ?_ _) | (with_reducible refine Below.trans ?_ (Below.mono (by with_reducible assumption) ?_)) | omega | (simp only [World.size_alloc, World.size_setCell, World.size_drew, size_drewN']; omega) | go_size))⟩
  rw [results_cell1 rfl]
  go_simp
end Go.Proofs.Ytedopalmfakeaaa
