/- Contracts of functions and lemmas, used by the proofs of the given statements. No condition beyond those that each lemma names. -/
import Derived.Test.YtmebdlilbnadgaaDoorJNatW9
import Derived.Laws.BytesArg
import Derived.Shelf.Strings.Builder1
import Derived.Shelf.Strings.Trim
import Derived.Test.YtmebdlilbnadgaaDoorProg
namespace Go.Proofs.YtmebdlilbnadgaaDoor
open Go.RowKit
set_option linter.unusedSimpArgs false
set_option linter.unusedVariables false
set_option maxRecDepth 20000
attribute [local irreducible] nv wp win
/-! ## package natural: nine -/
/-- digit j of nine -/
def dg (x j : Nat) : Nat := 48 + x / 10 ^ (8 - j) % 10
def nineL (x : Nat) : List Int := (List.range 9).map fun j => ((dg x j : Nat) : Int)
theorem dg_at {x k m : Nat} (h : m = x / 10 ^ (9 - (k + 1))) : dg x k = 48 + m % 10 := by
  unfold dg
  rw [h, show 9 - (k + 1) = 8 - k by omega]
theorem nine_step {x k m : Nat} (hk : k + 1 ≤ 9) (h : m = x / 10 ^ (9 - (k + 1))) : m / 10 = x / 10 ^ (9 - k) := by
  rw [h, Nat.div_div_eq_div_mul, show 9 - k = (9 - (k + 1)) + 1 by omega, Nat.pow_succ]
theorem setCell_ne {w : World} {b k j : Nat} {u : Value} (h : j ≠ k) : (w.setCell ⟨b, k, none⟩ u).cell? ⟨b, j, none⟩ = w.cell? ⟨b, j, none⟩ :=
  World.cell?_setCell_other _ _ _ _ (by intro e; injection e with _ e _; exact h e.symm)
set_option maxHeartbeats 1000000 in
theorem nine_any (x : Nat) (w : World) (hx : x < 1000000000) :
    Calls Tryd.prog 53 #[.int .u32 (x : Int)] w fun e w' => e = .returned (.string (strOfNums (nineL x))) ∧ Below w.heap.size w w' := by
  go_enter Tryd.func53, Tryd.ntmps53
  go_wp2
  go_loopw [0, 4] (fun nn ii wr => ∃ k m : Nat, k ≤ 9 ∧ m < 1000000000 ∧ ii = .int .i64 ((k : Int) - 1) ∧ nn = .int .u32 (m : Int) ∧ m = x / 10 ^ (9 - k) ∧ (∀ j, k ≤ j → j < 9 → wr.cell? ⟨w.heap.size, j, none⟩ = some (.int .u8 ((dg x j : Nat) : Int))) ∧ (∀ j, j < 9 → ∃ v, wr.cell? ⟨w.heap.size, j, none⟩ = some v) ∧ (∀ j, wr.frozen? ⟨w.heap.size, j, none⟩ = false) ∧ Below w.heap.size w wr) (fun _ ii _ => (intOf ii + 1).toNat)
  case atStart =>
    refine ⟨9, x, Nat.le_refl _, hx, rfl, rfl, by simp, fun j h1 h2 => by omega, fun j hj => ?_, fun j => by simp, (by (skip); repeat' (first | (with_reducible exact Below.refl _ _) | (with_reducible assumption) | (with_reducible refine Below.alloc ?_ ?_ _) | (with_reducible refine Below.drew ?_) | (with_reducible refine below_drewN ?_ _) | (with_reducible refine Below.setCell ?_ ?_ _) | (with_reducible refine Below.trans ?_ (Below.mono (by with_reducible assumption) ?_)) | omega | (simp only [ZA, ZS, ZD, ZN]; omega) | go_size))⟩
    simp
    rcases (show j = 0 ∨ j = 1 ∨ j = 2 ∨ j = 3 ∨ j = 4 ∨ j = 5 ∨ j = 6 ∨ j = 7 ∨ j = 8 by omega) with rfl | rfl | rfl | rfl | rfl | rfl | rfl | rfl | rfl <;> simp
  case round =>
    obtain ⟨k, m, hk, hm, hi, rfl, hmx, hcl, hcs, hfz, hb⟩ := hrel
    have HMX := Lib.hid hmx
    have HCL := Lib.hid hcl
    have HCS := Lib.hid hcs
    clear hmx hcl hcs
    rcases k with _ | k
    · obtain rfl := hi
      have hcv := run_convert_bytes_arg (P := Tryd.prog) wr 91 5 Tryd.underlying91 Tryd.underlying5 w.heap.size 0 9 9 (nineL x) rfl (fun i hi => by
        rw [Nat.zero_add, HCL.out i (Nat.zero_le _) hi]
        simp [nineL, List.getD, hi]) 9 Tryd.underlying9
      go_wp2
      go_ret
      exact ⟨rfl, hb⟩
    · have hi' := hi.trans (vint (k := .i64) (show (((k + 1 : Nat) : Int) - 1) = (k : Int) by omega))
      clear hi
      obtain rfl := hi'
      obtain ⟨v, hv⟩ := HCS.out k (by omega)
      obtain ⟨M, hM⟩ : ∃ M : Int, M = (m : Int) := ⟨_, rfl⟩
      rw [← hM]
      have hM0 : 0 ≤ M := by omega
      have hM1 : M < 1000000000 := by omega
      have HM := Lib.hid hM
      clear hM hm
      go_wp2
      refine ⟨⟨k, m / 10, by omega, by have := HM.out; omega, rfl, vint (by have := HM.out; omega), nine_step (by omega) HMX.out, fun j h1 h2 => ?_, fun j hj => ?_, fun j => ?_, ?_⟩, by simp [intOf]⟩
      · by_cases e : j = k
        · subst e
          rw [World.cell?_setCell_same _ _ _ hv, dg_at HMX.out]
          have := HM.out
          congr 1
          exact vint (by omega)
        · rw [setCell_ne e]
          exact HCL.out j (by omega) h2
      · by_cases e : j = k
        · subst e
          exact ⟨_, World.cell?_setCell_same _ _ _ hv⟩
        · rw [setCell_ne e]
          exact HCS.out j hj
      · rw [World.frozen?_setCell]; exact hfz j
      · exact hb.setCell (Nat.le_refl _) _
end Go.Proofs.YtmebdlilbnadgaaDoor
/- Contracts of (*strings.Builder).String and strings.trimLeftByte at this program, laid by the kit's tools (lay-shelf, lay-plain). No condition beyond those that each names. -/
namespace Go.Proofs
set_option linter.unusedVariables false
set_option linter.unusedSimpArgs false
open Go.Shelf
def Tryd.lays169_ren : Go.Shelf.Ren := ⟨fun | 169 => 56 | n => n, fun | 70 => 90 | 9 => 9 | 0 => 0 | 72 => 93 | 37 => 91 | 127 => 118 | 3 => 3 | 5 => 5 | n => n, fun | n => n⟩
theorem Tryd.lays169 : Go.Proofs.Lays.n169 Tryd.prog Tryd.lays169_ren := {
  mixed := by kernel_rfl
  f169 := Tryd.func56.trans (congrArg some (by kernel_rfl))
  t0 := Tryd.underlying0
  a0 := Tryd.isAgg0
  z0 := Tryd.sizeOf0
  v0 := Tryd.zeroValue0
  t3 := Tryd.underlying3
  a3 := Tryd.isAgg3
  z3 := Tryd.sizeOf3
  v3 := Tryd.zeroValue3
  t9 := Tryd.underlying9
  a9 := Tryd.isAgg9
  z9 := Tryd.sizeOf9
  v9 := Tryd.zeroValue9
  t37 := Tryd.underlying91
  a37 := Tryd.isAgg91
  z37 := Tryd.sizeOf91
  v37 := Tryd.zeroValue91
  t70 := Tryd.underlying90
  a70 := Tryd.isAgg90
  z70 := Tryd.sizeOf90
  v70 := Tryd.zeroValue90
  t72 := Tryd.underlying93
  a72 := Tryd.isAgg93
  z72 := Tryd.sizeOf93
  v72 := Tryd.zeroValue93
  t127 := Tryd.underlying118
  a127 := Tryd.isAgg118
  z127 := Tryd.sizeOf118
  v127 := Tryd.zeroValue118 }
theorem Tryd.Builder_Extra_169 : Builder.Extra Tryd.prog Tryd.lays169_ren := {
  sizeBuilder := by kernel_rfl
  liesBuilder := by kernel_rfl
  t5 := Tryd.underlying5
  a5 := Tryd.isAgg5
  z5 := Tryd.sizeOf5
  v5 := Tryd.zeroValue5
  infoByte := by kernel_rfl
  cellsByte := by kernel_rfl
  sizeByte := by kernel_rfl
  neB5 := by decide }
open Go.RowKit in
theorem Tryd.Builder_String (B b : Nat) (l : List UInt8) (w : World) (h : Lib.IsBuilder 93 5 B b (Lib.byteCells l) w) (h0 : l ≠ []) :
    Calls Tryd.prog 56 #[.pointer (some ⟨b, 0, none⟩)] w fun e w' => e = .returned (.string ⟨l.toArray⟩) ∧ Below B w w' := Any.Builder_String Tryd.lays169 Tryd.Builder_Extra_169 B b l w h h0
def Tryd.lays231_ren : Go.Shelf.Ren := ⟨fun | 231 => 72 | n => n, fun | 9 => 9 | 5 => 5 | 3 => 3 | 4 => 4 | n => n, fun | n => n⟩
theorem Tryd.lays231 : Go.Proofs.Lays.n231 Tryd.prog Tryd.lays231_ren := {
  mixed := by kernel_rfl
  f231 := Tryd.func72.trans (congrArg some (by kernel_rfl))
  t3 := Tryd.underlying3
  a3 := Tryd.isAgg3
  z3 := Tryd.sizeOf3
  v3 := Tryd.zeroValue3
  t4 := Tryd.underlying4
  a4 := Tryd.isAgg4
  z4 := Tryd.sizeOf4
  v4 := Tryd.zeroValue4
  t5 := Tryd.underlying5
  a5 := Tryd.isAgg5
  z5 := Tryd.sizeOf5
  v5 := Tryd.zeroValue5
  t9 := Tryd.underlying9
  a9 := Tryd.isAgg9
  z9 := Tryd.sizeOf9
  v9 := Tryd.zeroValue9 }
open Go.RowKit in
theorem Tryd.strings_trimLeftByte (s : ByteArray) (c : UInt8) (w : World) :
    Calls Tryd.prog 72 #[.string s, .int .u8 c.toNat] w fun e w' => e = .returned (.string ⟨(Lib.trimLeftB s.data.toList c).toArray⟩) ∧ w' = w := Any.strings_trimLeftByte Tryd.lays231 s c w
end Go.Proofs
