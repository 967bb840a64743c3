/- Contracts and lemmas for the given statements. Conditions: those alone that each names. -/
import Derived.Test.YtoiopnmphbnjaaaGreatDoorRowB
import Derived.BigQuiet
import Derived.Test.YtoiopnmphbnjaaaGreatDoorJChX
import Derived.Test.YtoiopnmphbnjaaaGreatDoorJDynW16
import Derived.Test.YtoiopnmphbnjaaaGreatDoorJRatK
import Derived.Test.YtoiopnmphbnjaaaGreatDoorJLinRow
import Derived.Test.YtoiopnmphbnjaaaGreatDoorJBaseEq
import Derived.Test.YtoiopnmphbnjaaaGreatDoorJMkC
set_option maxHeartbeats 8000000
namespace Go.Proofs.YtoiopnmphbnjaaaGreatDoor
open Go.RowKit
set_option linter.unusedSimpArgs false
set_option linter.unusedVariables false
set_option maxRecDepth 20000
/-! ## base: Ints; ref48: SameState -/
def RetIf (P : Prop) (e : Ending) : Prop := ∃ b : Bool, e = .returned (.bool b) ∧ (b = true ↔ P)
theorem retIf_t {P : Prop} (h : P) : RetIf P (.returned (.bool true)) := ⟨true, rfl, fun _ => h, fun _ => rfl⟩
theorem retIf_f {P : Prop} (h : ¬ P) : RetIf P (.returned (.bool false)) := ⟨false, rfl, fun h => (by cases h), fun h' => absurd h' h⟩
theorem ints_any9 {w : World} {A B : Option Addr} {n m c d : Nat} {p q : Nat → Int} (h : RdJ w A n p) (h' : RdJ w B m q) (hn : n ≤ 1000000) :
   Calls Tryz.prog 56 #[.slice A n c, .slice B m d] w fun e w' => RetIf (n = m ∧ ∀ i, i < n → p i = q i) e ∧ Below w.heap.size w w' := by
 have HA := Lib.hid h
 have HB := Lib.hid h'
 clear h h'
 by_cases hnm : n = m
 · subst hnm
   have HP : Hid (∀ P, P = (n = n ∧ ∀ i, i < n → p i = q i) → ((∀ i, i < n → p i = q i) → P) ∧ (∀ i, i < n → p i ≠ q i → ¬ P)) := fun P hP => by
     subst hP
     exact ⟨fun h => ⟨rfl, h⟩, fun i hi hne hh => hne (hh.2 i hi)⟩
   generalize hPe : (n = n ∧ ∀ i, i < n → p i = q i) = P
   have HP2 := Lib.hid (HP.out P hPe.symm)
   clear HP hPe
   have e0 : ((n : Int) != (n : Int)) = false := by simp
   go_enter Tryz.func56, Tryz.ntmps56
   go_wp2_with fail
   go_loopw [13] (fun i wr => ∃ k : Nat, k ≤ n ∧ i = .int .i64 (k : Int) ∧ (∀ j, j < k → p j = q j) ∧ Below w.heap.size w wr) (fun i _ => n - (intOf i).toNat)
   case atStart => exact ⟨0, Nat.zero_le _, rfl, fun j hj => absurd hj (Nat.not_lt_zero _), Below.refl _ _⟩
   case round =>
     obtain ⟨k, hk, rfl, hv, hb⟩ := hrel
     have HV := Lib.hid hv
     clear hv
     by_cases hlt : k < n
     · obtain ⟨b1, o1, rfl, hb1, c1⟩ := HA.out.later (Below.refl _ _) hlt
       obtain ⟨b2, o2, rfl, hb2, c2⟩ := HB.out.later (Below.refl _ _) hlt
       have x1 := (hb.cell (lt_of_cell c1)).trans c1
       have x2 := (hb.cell (lt_of_cell c2)).trans c2
       have hk0 : (0 : Int) ≤ (k : Int) := by omega
       have hki : (k : Int) < (n : Int) := by omega
       clear c1 c2
       by_cases e : p k = q k
       · have e1 : (p k != q k) = false := by rw [e]; simp
         have HE := Lib.hid e
         clear e
         go_wp2_with fail
         go_region
         go_wp2_with fail
         go_roundw
         case rel =>
           refine ⟨k + 1, by omega, by go_num, fun j hj => ?_, (by have z0 := Below.size hb; (try simp only [ZZ] at z0 ⊢; skip); repeat' (first | (with_reducible first | exact BlR _ _ | assumption | refine BlA ?_ ?_ _ | refine BlD ?_ | refine BlN ?_ _ | refine BlS ?_ ?_ _ | refine BlT ?_ (BlM (by assumption) ?_)) | omega | (simp only [ZZ]; omega) | go_size))⟩
           by_cases e : j = k
           · rw [e]; exact HE.out
           · exact HV.out j (by omega)
         case measure => simp [intOf]; omega
       · have e1 : (p k != q k) = true := by simpa using e
         have HE := Lib.hid (HP2.out.2 k hlt e)
         clear e
         go_wp2_with fail
         go_region
         go_wp2_with fail
         go_ret
         exact ⟨retIf_f HE.out, (by have z0 := Below.size hb; (try simp only [ZZ] at z0 ⊢; skip); repeat' (first | (with_reducible first | exact BlR _ _ | assumption | refine BlA ?_ ?_ _ | refine BlD ?_ | refine BlN ?_ _ | refine BlS ?_ ?_ _ | refine BlT ?_ (BlM (by assumption) ?_)) | omega | (simp only [ZZ]; omega) | go_size))⟩
     · obtain rfl : k = n := by omega
       have HE := Lib.hid (HP2.out.1 HV.out)
       go_wp2_with fail
       go_ret
       exact ⟨retIf_t HE.out, hb⟩
 · have e0 : ((n : Int) != (m : Int)) = true := by simp; omega
   have HE : Hid (¬ (n = m ∧ ∀ i, i < n → p i = q i)) := fun h => hnm h.1
   clear hnm HA HB
   go_enter Tryz.func56, Tryz.ntmps56
   go_wp2_with fail
   go_ret
   exact ⟨retIf_f HE.out, Below.refl _ _⟩
theorem sameS_any {w : World} {A B : Option Addr} {n m c d : Nat} {F G : Int} {p q : Nat → Int} (h : RdJ w A n p) (h' : RdJ w B m q) (hn : n ≤ 1000000) :
   Calls Tryz.prog 16 #[.agg #[.int .i64 F, .slice A n c], .agg #[.int .i64 G, .slice B m d]] w fun e w' => RetIf (F = G ∧ n = m ∧ ∀ i, i < n → p i = q i) e ∧ Below w.heap.size w w' := by
 have K := Lib.hid (fun W (hb : Below w.heap.size w W) => ints_any9 (c := c) (d := d) (h.below hb) (h'.below hb) hn)
 clear h h'
 by_cases e : F = G
 · have e1 : (F == G) = true := by rw [e]; simp
   have HP : Hid (∀ b : Bool, (b = true ↔ (n = m ∧ ∀ i, i < n → p i = q i)) → (b = true ↔ (F = G ∧ n = m ∧ ∀ i, i < n → p i = q i))) := fun b hb => ⟨fun h => ⟨e, hb.1 h⟩, fun h => hb.2 h.2⟩
   clear e
   go_enter Tryz.func16, Tryz.ntmps16
   go_wp2_with fail
   refine (K.out _ (by (skip); repeat' (first | (with_reducible first | exact BlR _ _ | assumption | refine BlA ?_ ?_ _ | refine BlD ?_ | refine BlN ?_ _ | refine BlS ?_ ?_ _ | refine BlT ?_ (BlM (by assumption) ?_)) | omega | (simp only [ZZ]; omega) | go_size))).mono ?_
   rintro e w5 ⟨⟨b, rfl, hb⟩, hb5⟩
   have HB := Lib.hid (HP.out b hb)
   have hbF : Below w.heap.size w w5 := (by have z0 := Below.size hb5; (try simp only [ZZ] at z0 ⊢; skip); repeat' (first | (with_reducible first | exact BlR _ _ | assumption | refine BlA ?_ ?_ _ | refine BlD ?_ | refine BlN ?_ _ | refine BlS ?_ ?_ _ | refine BlT ?_ (BlM (by assumption) ?_)) | omega | (simp only [ZZ]; omega) | go_size))
   clear hb hb5 HP
   go_wp2_with fail
   go_ret
   exact ⟨⟨b, rfl, HB.out⟩, hbF⟩
 · have e1 : (F == G) = false := by simpa using e
   have HE : Hid (¬ (F = G ∧ n = m ∧ ∀ i, i < n → p i = q i)) := fun h => e h.1
   clear e K
   go_enter Tryz.func16, Tryz.ntmps16
   go_wp2_with fail
   go_ret
   exact ⟨retIf_f HE.out, (by (skip); repeat' (first | (with_reducible first | exact BlR _ _ | assumption | refine BlA ?_ ?_ _ | refine BlD ?_ | refine BlN ?_ _ | refine BlS ?_ ?_ _ | refine BlT ?_ (BlM (by assumption) ?_)) | omega | (simp only [ZZ]; omega) | go_size))⟩
end Go.Proofs.YtoiopnmphbnjaaaGreatDoor
namespace Go.Proofs.YtoiopnmphbnjaaaGreatDoor
open Go.RowKit
set_option linter.unusedSimpArgs false
set_option linter.unusedVariables false
set_option maxRecDepth 20000
attribute [local irreducible] nv wp win plainB validR valR canR
/-! ## reference 49: SameMoves; base: Bools -/
theorem bools49 {w : World} {n c d : Nat} {A B : Option Addr} {f g : Nat → Bool} (h : RdV w A n f) (h' : RdV w B n g) (hfg : ∀ i, i < n → f i = g i) (hn : n ≤ 1000000) :
   Calls Tryz.prog 39 #[.slice A n c, .slice B n d] w fun e w' => e = .returned (.bool true) ∧ Below w.heap.size w w' := by
 have HA := Lib.hid h
 have HB := Lib.hid h'
 have HF := Lib.hid hfg
 have e0 : ((n : Int) != (n : Int)) = false := by simp
 clear h h' hfg
 go_enter Tryz.func39, Tryz.ntmps39
 go_wp2_with fail
 go_loopw [13] (fun i wr => ∃ k : Nat, k ≤ n ∧ i = .int .i64 (k : Int) ∧ Below w.heap.size w wr) (fun i _ => n - (intOf i).toNat)
 case atStart => exact ⟨0, Nat.zero_le _, rfl, Below.refl _ _⟩
 case round =>
   obtain ⟨k, hk, rfl, hb⟩ := hrel
   by_cases hlt : k < n
   · obtain ⟨ba, oa, rfl, hba, g0⟩ := HA.out.later hb hlt
     obtain ⟨bb, ob, rfl, hbb, g1⟩ := HB.out.later hb hlt
     rw [HF.out k hlt] at g0
     generalize g k = x at *
     have e1 : (x != x) = false := by simp
     have x0 := fun y : Sub wr => y.cell g0
     have x1 := fun y : Sub wr => y.cell g1
     have hk0 : (0 : Int) ≤ (k : Int) := by omega
     have hki : (k : Int) < (n : Int) := by omega
     have HBB := Lib.hid hb
     clear g0 g1 hb
     go_wp2_with fail
     ((refine wp_region_quiet_bel (by kernel_rfl) (by kernel_rfl) ?_); (repeat (go_big_quiet_step (fail))); (refine wpQuiet_nil ?_); rintro w5 ⟨⟨_, hb5⟩, rfl⟩; (try dsimp only))
     have HBF := Lib.hid (HBB.out.trans (hb5.mono HBB.out.size))
     clear hb5
     go_wp2_with fail
     go_roundw
     case rel => exact ⟨k + 1, by omega, by go_num, HBF.out⟩
     case measure => simp [intOf]; omega
   · obtain rfl : k = n := by omega
     go_wp2_with fail
     go_ret
     exact ⟨rfl, hb⟩
end Go.Proofs.YtoiopnmphbnjaaaGreatDoor
namespace Go.Proofs.YtoiopnmphbnjaaaGreatDoor
open Go.RowKit
set_option linter.unusedSimpArgs false
set_option linter.unusedVariables false
set_option maxRecDepth 20000
attribute [local irreducible] nv wp win plainB validR valR canR
/-! ## faultlinebase.Chain at two equal chains -/
theorem chain_same49 {w : World} {A A' B B' : Option Addr} {a a' b b' b0 b1 nm nd : Nat} {st sr : Int} {F T : Nat → Int} {R : Nat → Rw} {D D' : Nat → Bool} (h : MovA w b0 A nm F T R) (h' : MovA w b1 A' nm F T R) (hd : RdV w B nd D) (hd' : RdV w B' nd D') (hD : ∀ i, i < nd → D i = D' i) (hnm : nm ≤ 1000000) (hnd : nd ≤ 1000000) (hr : ∀ k, k < nm → (R k).2.1.length ≤ 1000000 ∧ (R k).2.2.length ≤ 1000000) :
   Calls Tryz.prog 14 #[cv st sr A nm a B nd b, cv st sr A' nm a' B' nd b'] w fun e w' => e = .returned (.bool true) ∧ Below w.heap.size w w' := by
 have HM := Lib.hid (fun W (hb : Below w.heap.size w W) => h.below hb)
 have HM' := Lib.hid (fun W (hb : Below w.heap.size w W) => h'.below hb)
 have KB := Lib.hid (fun W (hb : Below w.heap.size w W) => bools49 (c := b) (d := b') (hd.below hb) (hd'.below hb) hD hnd)
 have HR := Lib.hid hr
 have e1 : (st != st) = false := by simp
 have e2 : (sr != sr) = false := by simp
 have e3 : ((nm : Int) != (nm : Int)) = false := by simp
 clear h h' hr hd hd' hD
 go_enter Tryz.func14, Tryz.ntmps14
 (go_wp2_with fail; (with_reducible refine (KB.out _ (by (skip); repeat' (first | (with_reducible first | exact BlR _ _ | assumption | refine BlA ?_ ?_ _ | refine BlD ?_ | refine BlN ?_ _ | refine BlS ?_ ?_ _ | refine BlT ?_ (BlM (by assumption) ?_)) | omega | (simp only [ZZ]; omega) | go_size))).mono ?_); rintro e w1 ⟨rfl, hb1⟩; have hb1z := Below.size hb1; (try simp only [ZZ] at hb1z); obtain ⟨hb1c0, hb1f0⟩ := bbo hb1 (w.heap.size) (by first | omega | (simp only [ZZ]; omega)); obtain ⟨hb1c1, hb1f1⟩ := bbo hb1 (w.heap.size + 1) (by first | omega | (simp only [ZZ]; omega)))
 have y2 : w1.cell? ⟨w.heap.size, 2, none⟩ = some (.slice A nm a) := by rw [hb1c0, World.cell?_alloc_past _ _ _ (by simp), World.cell?_alloc_at _ _ _ _ rfl]; rfl
 have z2 : w1.cell? ⟨w.heap.size + 1, 2, none⟩ = some (.slice A' nm a') := by rw [hb1c1, World.cell?_alloc_at _ _ _ _ (by simp)]; rfl
 have hB1 : Below w.heap.size w w1 := (((Below.refl _ _).alloc (Nat.le_refl _) _).alloc (by simp) _).trans (hb1.mono (by simp; omega))
 have hz1 : w.heap.size + 1 < w1.heap.size := by omega
 have HB1 := Lib.hid hB1
 clear hb1 hb1c0 hb1c1 hb1f0 hb1f1 hB1 KB
 go_wp2_with fail
 go_loopw [38] (fun i wr => ∃ k : Nat, k ≤ nm ∧ i = .int .i64 (k : Int) ∧ Below w1.heap.size w1 wr) (fun i _ => nm - (intOf i).toNat)
 case atStart => exact ⟨0, Nat.zero_le _, rfl, Below.refl _ _⟩
 case round =>
   obtain ⟨k, hk, rfl, hb⟩ := hrel
   have hbw := HB1.out.trans (hb.mono HB1.out.size)
   by_cases hlt : k < nm
   · obtain ⟨bm, om, s1, A1, n1, c1, B1, m1, d1, rfl, hbm, g0, g1, g2, g3, g4, r1⟩ := (HM.out wr hbw).at_ hlt
     obtain ⟨bm', om', s1', A1', n1', c1', B1', m1', d1', rfl, hbm', g0', g1', g2', g3', g4', r1'⟩ := (HM'.out wr hbw).at_ hlt
     obtain ⟨h1, h2⟩ := HR.out k hlt
     have KR := Lib.hid (fun W (hb : Below wr.heap.size wr W) => rat_same (r1.kp (Kp.of_below hb)) (r1'.kp (Kp.of_below hb)) h1 h2)
     have q2 := (hb.cell (p := ⟨w.heap.size, 2, none⟩) (by show w.heap.size < _; omega)).trans y2
     have q2' := (hb.cell (p := ⟨w.heap.size + 1, 2, none⟩) hz1).trans z2
     generalize F k = f at *
     generalize T k = t at *
     have e4 : (f != f) = false := by simp
     have e5 : (t != t) = false := by simp
     have x0 := fun y : Sub wr => y.cell g0
     have x1 := fun y : Sub wr => y.cell g1
     have x2 := fun y : Sub wr => y.cell g2
     have x3 := fun y : Sub wr => y.cell g3
     have x4 := fun y : Sub wr => y.cell g4
     have x5 := fun y : Sub wr => y.cell g0'
     have x6 := fun y : Sub wr => y.cell g1'
     have x7 := fun y : Sub wr => y.cell g2'
     have x8 := fun y : Sub wr => y.cell g3'
     have x9 := fun y : Sub wr => y.cell g4'
     have u0 := fun y : Sub wr => y.cell q2
     have u1 := fun y : Sub wr => y.cell q2'
     have hk0 : (0 : Int) ≤ (k : Int) := by omega
     have hki : (k : Int) < (nm : Int) := by omega
     have HBB := Lib.hid hb
     clear g0 g1 g2 g3 g4 g0' g1' g2' g3' g4' q2 q2' r1 r1' h1 h2 hb hbw
     go_wp2_with fail
     ((refine wp_region_quiet_bel (by kernel_rfl) (by kernel_rfl) ?_); (repeat (go_big_quiet_step ((go_at_call 49; with_reducible exact Calls.quiet_bel (KR.out _ (Sub.bel _)))))); (refine wpQuiet_nil ?_); rintro w5 ⟨⟨_, hb5⟩, rfl⟩; (try dsimp only))
     have HBF := Lib.hid (HBB.out.trans (hb5.mono HBB.out.size))
     clear hb5
     go_wp2_with fail
     go_roundw
     case rel => exact ⟨k + 1, by omega, by go_num, HBF.out⟩
     case measure => simp [intOf]; omega
   · go_wp2_with fail
     go_ret
     exact ⟨rfl, hbw⟩
end Go.Proofs.YtoiopnmphbnjaaaGreatDoor
