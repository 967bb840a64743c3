/- Contracts and lemmas for the given statements. Conditions: those alone that each names. -/
import Derived.Test.YtoiopnmphbnjaaaGreatDoorJChX
import Derived.Test.YtoiopnmphbnjaaaGreatDoorJLinRow
import Derived.Test.YtoiopnmphbnjaaaGreatDoorJBase
set_option maxHeartbeats 2000000
namespace Go.Proofs.YtoiopnmphbnjaaaGreatDoor
open Go.RowKit
set_option linter.unusedSimpArgs false
set_option linter.unusedVariables false
set_option maxRecDepth 20000
attribute [local irreducible] nv wp win plainB validR valR canR
/-! ## law49: Brief, Light -/
def RetBi (P : Prop) (e : Ending) : Prop := ∃ b : Bool, e = .returned (.bool b) ∧ (b = true → P)
theorem retBi_f {P : Prop} : RetBi P (.returned (.bool false)) := ⟨false, rfl, fun h => by cases h⟩
theorem retBi_t {P : Prop} (h : P) : RetBi P (.returned (.bool true)) := ⟨true, rfl, fun _ => h⟩
end Go.Proofs.YtoiopnmphbnjaaaGreatDoor
namespace Go.Proofs.YtoiopnmphbnjaaaGreatDoor
open Go.RowKit
set_option linter.unusedSimpArgs false
set_option linter.unusedVariables false
set_option maxRecDepth 20000
attribute [local irreducible] nv wp win plainB validR valR canR
/-! ## faultlinebase: Num, Words, Rat, Rats -/
theorem bnum_0 (w : World) : Calls Tryz.prog 13 #[.nilIface] w fun e w' => e = .returned (.int .i64 0) ∧ w = w' := by
 go_enter Tryz.func13, Tryz.ntmps13
 go_wp2
 go_ret
 exact ⟨rfl, rfl⟩
theorem bnum_n (n : Int) (w : World) : Calls Tryz.prog 13 #[.iface 80 (.int .i64 n)] w fun e w' => e = .returned (.int .i64 n) ∧ w = w' := by
 have hta : ∀ (x : Value) (w : World), (Instr.typeAssert (.iface 80 x) 35 80 true).run Tryz.prog w = .ok (.tuple #[x, .bool true]) w := fun _ _ => by kernel_rfl
 go_enter Tryz.func13, Tryz.ntmps13
 go_wp2
 go_ret
 exact ⟨rfl, rfl⟩
theorem bnum_e (c : Int) (w : World) : Calls Tryz.prog 13 #[errM c] w fun e w' => e = .returned (.int .i64 c) ∧ w = w' := by
 by_cases h : c = 0
 · rw [h, errM_0]; exact bnum_0 w
 · rw [errM_n h]; exact bnum_n c w
theorem words_same {w : World} {A B : Option Addr} {n c d : Nat} {l : List Nat} (h : RdW w w.heap.size A l) (h' : RdW w w.heap.size B l) (hl : l.length = n) (hn : n ≤ 1000000) :
   Calls Tryz.prog 89 #[.slice A n c, .slice B n d] w fun e w' => e = .returned (.bool true) ∧ Below w.heap.size w w' := by
 have HA := Lib.hid h
 have HB := Lib.hid h'
 have HL := Lib.hid hl
 have e0 : ((n : Int) != (n : Int)) = false := by simp
 clear h h' hl
 go_enter Tryz.func89, Tryz.ntmps89
 go_wp2
 go_loopw [13] (fun i wr => ∃ k : Nat, k ≤ n ∧ i = .int .i64 (k : Int) ∧ Below w.heap.size w wr) (fun i _ => n - (intOf i).toNat)
 case atStart => exact ⟨0, Nat.zero_le _, rfl, Below.refl _ _⟩
 case round =>
   obtain ⟨k, hk, rfl, hb⟩ := hrel
   by_cases hlt : k < n
   · obtain ⟨ba, oa, rfl, hba, f0⟩ := HA.out.at_ (show k < l.length by rw [HL.out]; exact hlt)
     obtain ⟨bb, ob, rfl, hbb, f1⟩ := HB.out.at_ (show k < l.length by rw [HL.out]; exact hlt)
     have g0 := (hb.cell (p := ⟨ba, oa + k, none⟩) hba).trans f0
     have g1 := (hb.cell (p := ⟨bb, ob + k, none⟩) hbb).trans f1
     generalize l[k]'(by rw [HL.out]; exact hlt) = x at *
     have e1 : ((x : Int) != (x : Int)) = false := by simp
     have x0 := fun y : Sub wr => y.cell g0
     have x1 := fun y : Sub wr => y.cell g1
     have hk0 : (0 : Int) ≤ (k : Int) := by omega
     have hki : (k : Int) < (n : Int) := by omega
     clear f0 f1 g0 g1
     go_wp2
     ((refine wp_region_quiet_bel (by kernel_rfl) (by kernel_rfl) ?_); (repeat (go_big_quiet_step (fail))); (refine wpQuiet_nil ?_); rintro w5 ⟨⟨_, hb5⟩, rfl⟩; (try dsimp only))
     go_wp2
     go_roundw
     case rel => exact ⟨k + 1, by omega, by go_num, hb.trans (hb5.mono hb.size)⟩
     case measure => simp [intOf]; omega
   · go_wp2
     go_ret
     exact ⟨rfl, hb⟩
theorem RdS.parts {w : World} {b0 : Nat} {v : Value} {r : Rw} (h : RdS w b0 v r) : ∃ A c B d, v = rv r.1 A r.2.1.length c B r.2.2.length d ∧ RdW w w.heap.size A r.2.1 ∧ RdW w w.heap.size B r.2.2 := by
 obtain ⟨A, c, B, d, e, _, _, _, hA, hB, _⟩ := h
 exact ⟨A, c, B, d, e, hA, hB⟩
theorem rat_same {w : World} {b0 b1 : Nat} {v u : Value} {r : Rw} (h : RdS w b0 v r) (h' : RdS w b1 u r) (h1 : r.2.1.length ≤ 1000000) (h2 : r.2.2.length ≤ 1000000) :
   Calls Tryz.prog 49 #[v, u] w fun e w' => e = .returned (.bool true) ∧ Below w.heap.size w w' := by
 obtain ⟨A, c, B, d, rfl, hA, hB⟩ := h.parts
 obtain ⟨A', c', B', d', rfl, hA', hB'⟩ := h'.parts
 have K1 := Lib.hid (fun W (hb : Below w.heap.size w W) => words_same (c := c) (d := c') (hA.on hb hb.size) (hA'.on hb hb.size) rfl h1)
 have K2 := Lib.hid (fun W (hb : Below w.heap.size w W) => words_same (c := d) (d := d') (hB.on hb hb.size) (hB'.on hb hb.size) rfl h2)
 clear h h' hA hA' hB hB'
 obtain ⟨s, l, m⟩ := r
 simp only at *
 generalize l.length = n at *
 generalize m.length = n' at *
 have e0 : (s == s) = true := by simp
 go_enter Tryz.func49, Tryz.ntmps49
 (go_wp2_with fail; (with_reducible refine (K1.out _ (by (skip); repeat' (first | (with_reducible first | exact BlR _ _ | assumption | refine BlA ?_ ?_ _ | refine BlD ?_ | refine BlN ?_ _ | refine BlS ?_ ?_ _ | refine BlT ?_ (BlM (by assumption) ?_)) | omega | (simp only [ZZ]; omega) | go_size))).mono ?_); rintro e w1 ⟨rfl, hb1⟩; have hb1z := Below.size hb1; (try simp only [ZZ] at hb1z); obtain ⟨hb1c0, hb1f0⟩ := bbo hb1 (w.heap.size) (by first | omega | (simp only [ZZ]; omega)); obtain ⟨hb1c1, hb1f1⟩ := bbo hb1 (w.heap.size + 1) (by first | omega | (simp only [ZZ]; omega)))
 (go_wp2_with fail; (with_reducible refine (K2.out _ (by have z0 := Below.size hb1; (try simp only [ZZ] at z0 ⊢; skip); repeat' (first | (with_reducible first | exact BlR _ _ | assumption | refine BlA ?_ ?_ _ | refine BlD ?_ | refine BlN ?_ _ | refine BlS ?_ ?_ _ | refine BlT ?_ (BlM (by assumption) ?_)) | omega | (simp only [ZZ]; omega) | go_size))).mono ?_); rintro e w2 ⟨rfl, hb2⟩; have hb2z := Below.size hb2; (try simp only [ZZ] at hb2z))
 go_wp2
 go_ret
 exact ⟨rfl, (by have z0 := Below.size hb1; have z1 := Below.size hb2; (try simp only [ZZ] at z0 z1 ⊢; skip); repeat' (first | (with_reducible first | exact BlR _ _ | assumption | refine BlA ?_ ?_ _ | refine BlD ?_ | refine BlN ?_ _ | refine BlS ?_ ?_ _ | refine BlT ?_ (BlM (by assumption) ?_)) | omega | (simp only [ZZ]; omega) | go_size))⟩
end Go.Proofs.YtoiopnmphbnjaaaGreatDoor
