/- Contracts of functions and lemmas, used by the proofs of the given statements. No condition beyond those that each lemma names. -/
import Derived.Test.YtlncafhgmbhocaaGreatDoorJNatW9
import Derived.Laws.BytesArg
import Derived.Shelf.Strings.Builder1
import Derived.Shelf.Strings.Trim
import Derived.Test.YtlncafhgmbhocaaGreatDoorProg
namespace Go.Proofs.YtlncafhgmbhocaaGreatDoor
open Go.RowKit
set_option linter.unusedSimpArgs false
set_option linter.unusedVariables false
set_option maxRecDepth 20000
attribute [local irreducible] nv wp win
/-! ## package natural: nine -/
/-- digit j of nine -/
def dg (x j : Nat) : Nat := 48 + x / 10 ^ (8 - j) % 10
def nineL (x : Nat) : List Int := (List.range 9).map fun j => ((dg x j : Nat) : Int)
theorem dg_at {x k m : Nat} (h : m = x / 10 ^ (9 - (k + 1))) : dg x k = 48 + m % 10 := by
  unfold dg
  rw [h, show 9 - (k + 1) = 8 - k by omega]
theorem nine_step {x k m : Nat} (hk : k + 1 ≤ 9) (h : m = x / 10 ^ (9 - (k + 1))) : m / 10 = x / 10 ^ (9 - k) := by
  rw [h, Nat.div_div_eq_div_mul, show 9 - k = (9 - (k + 1)) + 1 by omega, Nat.pow_succ]
theorem setCell_ne {w : World} {b k j : Nat} {u : Value} (h : j ≠ k) : (w.setCell ⟨b, k, none⟩ u).cell? ⟨b, j, none⟩ = w.cell? ⟨b, j, none⟩ :=
  World.cell?_setCell_other _ _ _ _ (by intro e; injection e with _ e _; exact h e.symm)
set_option maxHeartbeats 1000000 in
theorem nine_any (x : Nat) (w : World) (hx : x < 1000000000) :
    Calls Tryz.prog 105 #[.int .u32 (x : Int)] w fun e w' => e = .returned (.string (strOfNums (nineL x))) ∧ Below w.heap.size w w' := by
  go_enter Tryz.func105, Tryz.ntmps105
  go_wp2
  go_loopw [0, 4] (fun nn ii wr => ∃ k m : Nat, k ≤ 9 ∧ m < 1000000000 ∧ ii = .int .i64 ((k : Int) - 1) ∧ nn = .int .u32 (m : Int) ∧ m = x / 10 ^ (9 - k) ∧ (∀ j, k ≤ j → j < 9 → wr.cell? ⟨w.heap.size, j, none⟩ = some (.int .u8 ((dg x j : Nat) : Int))) ∧ (∀ j, j < 9 → ∃ v, wr.cell? ⟨w.heap.size, j, none⟩ = some v) ∧ (∀ j, wr.frozen? ⟨w.heap.size, j, none⟩ = false) ∧ Below w.heap.size w wr) (fun _ ii _ => (intOf ii + 1).toNat)
  case atStart =>
    refine ⟨9, x, Nat.le_refl _, hx, rfl, rfl, by simp, fun j h1 h2 => by omega, fun j hj => ?_, fun j => by simp, (by (skip); repeat' (first | (with_reducible exact Below.refl _ _) | (with_reducible assumption) | (with_reducible refine Below.alloc ?_ ?_ _) | (with_reducible refine Below.drew ?_) | (with_reducible refine below_drewN ?_ _) | (with_reducible refine Below.setCell ?_ ?_ _) | (with_reducible refine Below.trans ?_ (Below.mono (by with_reducible assumption) ?_)) | omega | (simp only [ZA, ZS, ZD, ZN]; omega) | go_size))⟩
    simp
    rcases (show j = 0 ∨ j = 1 ∨ j = 2 ∨ j = 3 ∨ j = 4 ∨ j = 5 ∨ j = 6 ∨ j = 7 ∨ j = 8 by omega) with rfl | rfl | rfl | rfl | rfl | rfl | rfl | rfl | rfl <;> simp
  case round =>
    obtain ⟨k, m, hk, hm, hi, rfl, hmx, hcl, hcs, hfz, hb⟩ := hrel
    have HMX := Lib.hid hmx
    have HCL := Lib.hid hcl
    have HCS := Lib.hid hcs
    clear hmx hcl hcs
    rcases k with _ | k
    · obtain rfl := hi
      have hcv := run_convert_bytes_arg (P := Tryz.prog) wr 135 5 Tryz.underlying135 Tryz.underlying5 w.heap.size 0 9 9 (nineL x) rfl (fun i hi => by
        rw [Nat.zero_add, HCL.out i (Nat.zero_le _) hi]
        simp [nineL, List.getD, hi]) 9 Tryz.underlying9
      go_wp2
      go_ret
      exact ⟨rfl, hb⟩
    · have hi' := hi.trans (vint (k := .i64) (show (((k + 1 : Nat) : Int) - 1) = (k : Int) by omega))
      clear hi
      obtain rfl := hi'
      obtain ⟨v, hv⟩ := HCS.out k (by omega)
      obtain ⟨M, hM⟩ : ∃ M : Int, M = (m : Int) := ⟨_, rfl⟩
      rw [← hM]
      have hM0 : 0 ≤ M := by omega
      have hM1 : M < 1000000000 := by omega
      have HM := Lib.hid hM
      clear hM hm
      go_wp2
      refine ⟨⟨k, m / 10, by omega, by have := HM.out; omega, rfl, vint (by have := HM.out; omega), nine_step (by omega) HMX.out, fun j h1 h2 => ?_, fun j hj => ?_, fun j => ?_, ?_⟩, by simp [intOf]⟩
      · by_cases e : j = k
        · subst e
          rw [World.cell?_setCell_same _ _ _ hv, dg_at HMX.out]
          have := HM.out
          congr 1
          exact vint (by omega)
        · rw [setCell_ne e]
          exact HCL.out j (by omega) h2
      · by_cases e : j = k
        · subst e
          exact ⟨_, World.cell?_setCell_same _ _ _ hv⟩
        · rw [setCell_ne e]
          exact HCS.out j hj
      · rw [World.frozen?_setCell]; exact hfz j
      · exact hb.setCell (Nat.le_refl _) _
end Go.Proofs.YtlncafhgmbhocaaGreatDoor
/- Contracts of (*strings.Builder).String and strings.trimLeftByte at this program, laid by the kit's tools (lay-shelf, lay-plain). No condition beyond those that each names. -/
namespace Go.Proofs
set_option linter.unusedVariables false
set_option linter.unusedSimpArgs false
open Go.Shelf
def Tryz.lays169_ren : Go.Shelf.Ren := ⟨fun | 169 => 108 | n => n, fun | 70 => 134 | 9 => 9 | 0 => 0 | 72 => 137 | 37 => 135 | 127 => 173 | 3 => 3 | 5 => 5 | n => n, fun | n => n⟩
theorem Tryz.lays169 : Go.Proofs.Lays.n169 Tryz.prog Tryz.lays169_ren := {
  mixed := by kernel_rfl
  f169 := Tryz.func108.trans (congrArg some (by kernel_rfl))
  t0 := Tryz.underlying0
  a0 := Tryz.isAgg0
  z0 := Tryz.sizeOf0
  v0 := Tryz.zeroValue0
  t3 := Tryz.underlying3
  a3 := Tryz.isAgg3
  z3 := Tryz.sizeOf3
  v3 := Tryz.zeroValue3
  t9 := Tryz.underlying9
  a9 := Tryz.isAgg9
  z9 := Tryz.sizeOf9
  v9 := Tryz.zeroValue9
  t37 := Tryz.underlying135
  a37 := Tryz.isAgg135
  z37 := Tryz.sizeOf135
  v37 := Tryz.zeroValue135
  t70 := Tryz.underlying134
  a70 := Tryz.isAgg134
  z70 := Tryz.sizeOf134
  v70 := Tryz.zeroValue134
  t72 := Tryz.underlying137
  a72 := Tryz.isAgg137
  z72 := Tryz.sizeOf137
  v72 := Tryz.zeroValue137
  t127 := Tryz.underlying173
  a127 := Tryz.isAgg173
  z127 := Tryz.sizeOf173
  v127 := Tryz.zeroValue173 }
theorem Tryz.Builder_Extra_169 : Builder.Extra Tryz.prog Tryz.lays169_ren := {
  sizeBuilder := by kernel_rfl
  liesBuilder := by kernel_rfl
  t5 := Tryz.underlying5
  a5 := Tryz.isAgg5
  z5 := Tryz.sizeOf5
  v5 := Tryz.zeroValue5
  infoByte := by kernel_rfl
  cellsByte := by kernel_rfl
  sizeByte := by kernel_rfl
  neB5 := by decide }
open Go.RowKit in
theorem Tryz.Builder_String (B b : Nat) (l : List UInt8) (w : World) (h : Lib.IsBuilder 137 5 B b (Lib.byteCells l) w) (h0 : l ≠ []) :
    Calls Tryz.prog 108 #[.pointer (some ⟨b, 0, none⟩)] w fun e w' => e = .returned (.string ⟨l.toArray⟩) ∧ Below B w w' := Any.Builder_String Tryz.lays169 Tryz.Builder_Extra_169 B b l w h h0
def Tryz.lays231_ren : Go.Shelf.Ren := ⟨fun | 231 => 141 | n => n, fun | 9 => 9 | 5 => 5 | 3 => 3 | 4 => 4 | n => n, fun | n => n⟩
theorem Tryz.lays231 : Go.Proofs.Lays.n231 Tryz.prog Tryz.lays231_ren := {
  mixed := by kernel_rfl
  f231 := Tryz.func141.trans (congrArg some (by kernel_rfl))
  t3 := Tryz.underlying3
  a3 := Tryz.isAgg3
  z3 := Tryz.sizeOf3
  v3 := Tryz.zeroValue3
  t4 := Tryz.underlying4
  a4 := Tryz.isAgg4
  z4 := Tryz.sizeOf4
  v4 := Tryz.zeroValue4
  t5 := Tryz.underlying5
  a5 := Tryz.isAgg5
  z5 := Tryz.sizeOf5
  v5 := Tryz.zeroValue5
  t9 := Tryz.underlying9
  a9 := Tryz.isAgg9
  z9 := Tryz.sizeOf9
  v9 := Tryz.zeroValue9 }
open Go.RowKit in
theorem Tryz.strings_trimLeftByte (s : ByteArray) (c : UInt8) (w : World) :
    Calls Tryz.prog 141 #[.string s, .int .u8 c.toNat] w fun e w' => e = .returned (.string ⟨(Lib.trimLeftB s.data.toList c).toArray⟩) ∧ w' = w := Any.strings_trimLeftByte Tryz.lays231 s c w
end Go.Proofs
