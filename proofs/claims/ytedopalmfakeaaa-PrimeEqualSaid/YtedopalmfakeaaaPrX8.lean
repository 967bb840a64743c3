/- Contracts of functions and lemmas, used by the proofs of the given statements. No condition beyond those that each lemma names. -/
import Derived.Test.YtedopalmfakeaaaPrW11
namespace Go.Proofs.Ytedopalmfakeaaa
open Go.RowKit Go.Sort
set_option linter.unusedSimpArgs false
set_option linter.unusedVariables false
set_option maxRecDepth 20000
/-! ## package truth: Table, Equal -/
attribute [local irreducible] pop popc
section
variable {w : World} {A : Option Addr} {c v : Nat} {f : FrR}
theorem fcheck_ok (h : FrI w A f) (ok : FrOk f) (hv : f.vars = v) :
    Calls Try.prog 103 #[fv (v : Int) A f.nn c f.top] w fun e w' => e = .returned .nilIface ∧ Below w.heap.size w w' := by
  have K := fcheck_any (c := c) h (by have := ok.t1; have := ok.v1; have := ok.n1; omega)
  rw [okF_code ok, hv] at K
  exact K
set_option maxHeartbeats 4000000 in
theorem tcheck_ok (h : FrI w A f) (ok : FrOk f) (hv : f.vars = v) (h7 : v ≤ 12) :
    Calls Try.prog 129 #[fv (v : Int) A f.nn c f.top] w fun e w' => e = .returned .nilIface ∧ Below w.heap.size w w' := by
  have K := Lib.hid (fun W (hW : Below w.heap.size w W) => fcheck_ok (c := c) (h.below hW) ok hv)
  generalize f.nn = nn at *
  generalize f.top = tp at *
  clear h ok hv
  go_enter Try.func129, Try.ntmps129
  go_wp2_with fail
  refine (K.out _ (by (skip); repeat' (first | (with_reducible exact Below.refl _ _) | (with_reducible assumption) | (with_reducible refine Below.alloc ?_ ?_ _) | (with_reducible refine Below.drew ?_) | (with_reducible refine below_drewN ?_ _) | (with_reducible refine Below.setCell ?_ ?_ _) | (with_reducible refine Below.trans ?_ (Below.mono (by with_reducible assumption) ?_)) | omega | (simp only [World.size_alloc, World.size_setCell, World.size_drew, size_drewN']; omega) | go_size))).mono ?_
  rintro e w1 ⟨rfl, hb1⟩
  have x0 : w1.cell? ⟨w.heap.size, 0, none⟩ = some (.int .i64 (v : Int)) := (below_at hb1 w.heap.size 0 (by simp)).trans (by simp [go_sem])
  go_wp2_with fail
  go_returns
  exact ⟨rfl, (by have z0 := Below.size hb1; (try simp only [World.size_alloc, World.size_setCell, World.size_drew, size_drewN'] at z0 ⊢; skip); repeat' (first | (with_reducible exact Below.refl _ _) | (with_reducible assumption) | (with_reducible refine Below.alloc ?_ ?_ _) | (with_reducible refine Below.drew ?_) | (with_reducible refine below_drewN ?_ _) | (with_reducible refine Below.setCell ?_ ?_ _) | (with_reducible refine Below.trans ?_ (Below.mono (by with_reducible assumption) ?_)) | omega | (simp only [World.size_alloc, World.size_setCell, World.size_drew, size_drewN']; omega) | go_size))⟩
set_option maxHeartbeats 4000000 in
theorem ttable_ok (h : FrI w A f) (ok : FrOk f) (hv : f.vars = v) (h7 : v ≤ 12) :
    Calls Try.prog 104 #[fv (v : Int) A f.nn c f.top] w fun e w' => (∃ g, e = .returned (.tuple #[.slice (some ⟨g, 0, none⟩) (2 ^ v) (2 ^ v), .nilIface]) ∧ OwV w' w.heap.size (some ⟨g, 0, none⟩) (2 ^ v) (2 ^ v) f.fr.val) ∧ Below w.heap.size w w' := by
  have K1 := Lib.hid (fun W (hW : Below w.heap.size w W) => tcheck_ok (c := c) (h.below hW) ok hv h7)
  have K4 := Lib.hid (fun W (hW : Below w.heap.size w W) (t : Nat) (ht : t < 2 ^ v) => fvalue_ok (c := c) (t := t) (h.below hW) ok hv ht)
  generalize f.fr.val = val at *
  generalize f.nn = nn at *
  generalize f.top = tp at *
  have hP : 2 ^ v ≤ 4096 := Nat.pow_le_pow_right (n := 2) (by omega) h7
  have s1 := shl_eq (k := v) (by clear hP; omega)
  have hsh : IntKind.i64.wrap ((2 : Int) ^ v) = ((2 ^ v : Nat) : Int) := by
    rw [show (2 : Int) ^ v = ((2 ^ v : Nat) : Int) from by simp]
    clear s1
    generalize 2 ^ v = p at *
    rw [IntKind.wrap_i64]; omega
  have hp0 : 0 < 2 ^ v := Nat.two_pow_pos v
  generalize 2 ^ v = P at *
  clear h ok hv
  go_enter Try.func104, Try.ntmps104
  go_wp2_with fail
  refine (K1.out _ (by (skip); repeat' (first | (with_reducible exact Below.refl _ _) | (with_reducible assumption) | (with_reducible refine Below.alloc ?_ ?_ _) | (with_reducible refine Below.drew ?_) | (with_reducible refine below_drewN ?_ _) | (with_reducible refine Below.setCell ?_ ?_ _) | (with_reducible refine Below.trans ?_ (Below.mono (by with_reducible assumption) ?_)) | omega | (simp only [World.size_alloc, World.size_setCell, World.size_drew, size_drewN']; omega) | go_size))).mono ?_
  rintro e w1 ⟨rfl, hb1⟩
  have hb1z := hb1.size
  simp only [World.size_alloc] at hb1z
  have x0 : w1.cell? ⟨w.heap.size, 0, none⟩ = some (.int .i64 (v : Int)) := (below_at hb1 w.heap.size 0 (by simp)).trans (by simp [go_sem])
  have x1 : w1.cell? ⟨w.heap.size, 1, none⟩ = some (.slice A nn c) := (below_at hb1 w.heap.size 1 (by simp)).trans (by simp [go_sem])
  have x2 : w1.cell? ⟨w.heap.size, 2, none⟩ = some (.int .i64 tp) := (below_at hb1 w.heap.size 2 (by simp)).trans (by simp [go_sem])
  have hbA : Below w.heap.size w w1 := (by have z0 := Below.size hb1; (try simp only [World.size_alloc, World.size_setCell, World.size_drew, size_drewN'] at z0 ⊢; skip); repeat' (first | (with_reducible exact Below.refl _ _) | (with_reducible assumption) | (with_reducible refine Below.alloc ?_ ?_ _) | (with_reducible refine Below.drew ?_) | (with_reducible refine below_drewN ?_ _) | (with_reducible refine Below.setCell ?_ ?_ _) | (with_reducible refine Below.trans ?_ (Below.mono (by with_reducible assumption) ?_)) | omega | (simp only [World.size_alloc, World.size_setCell, World.size_drew, size_drewN']; omega) | go_size))
  clear hb1
  go_wp2_with (first | (at_make; refine wpList_makeV rfl (.tmp 16) (.tmp 16) rfl w1.heap.size P (P : Int) (P : Int) (by first | rfl | simp [Act.eval]) (by first | rfl | simp [Act.eval]) rfl rfl (by omega) (by omega) ?_; intro w4 own4 hb4; have y0 := (below_at hb4 w.heap.size 0 (by omega)).trans x0; have y1 := (below_at hb4 w.heap.size 1 (by omega)).trans x1; have y2 := (below_at hb4 w.heap.size 2 (by omega)).trans x2) | fail)
  have hgl : w1.heap.size < w4.heap.size := (own4.form hp0).elim fun g h => by
    obtain ⟨h1, h2, h3⟩ := h
    injection h1 with h1
    injection h1 with h1
    omega
  have hbB : Below w.heap.size w w4 := (by have z0 := Below.size hbA; have z1 := Below.size hb4; (try simp only [World.size_alloc, World.size_setCell, World.size_drew, size_drewN'] at z0 z1 ⊢; skip); repeat' (first | (with_reducible exact Below.refl _ _) | (with_reducible assumption) | (with_reducible refine Below.alloc ?_ ?_ _) | (with_reducible refine Below.drew ?_) | (with_reducible refine below_drewN ?_ _) | (with_reducible refine Below.setCell ?_ ?_ _) | (with_reducible refine Below.trans ?_ (Below.mono (by with_reducible assumption) ?_)) | omega | (simp only [World.size_alloc, World.size_setCell, World.size_drew, size_drewN']; omega) | go_size))
  obtain ⟨gT, hgT⟩ : ∃ gT, gT = w1.heap.size := ⟨_, rfl⟩
  rw [← hgT] at own4 hgl ⊢
  have hwg : w.heap.size < gT := by omega
  have ne1 : ¬ (gT = w.heap.size) := by omega
  clear hgT x0 x1 x2 hbA hb4 hb1z
  go_loopw [20] (fun i wr => ∃ s : Nat, s ≤ P ∧ i = .int .i64 s ∧ OwV wr gT (some ⟨gT, 0, none⟩) P P (fun x => decide (x < s) && val x) ∧ Below w.heap.size w wr ∧ gT < wr.heap.size ∧ wr.cell? ⟨w.heap.size, 0, none⟩ = some (.int .i64 (v : Int)) ∧ wr.cell? ⟨w.heap.size, 1, none⟩ = some (.slice A nn c) ∧ wr.cell? ⟨w.heap.size, 2, none⟩ = some (.int .i64 tp)) (fun i _ => P - (intOf i).toNat)
  case atStart => exact ⟨0, Nat.zero_le _, rfl, own4.congr fun j _ => by simp, hbB, hgl, y0, y1, y2⟩
  case round =>
    obtain ⟨s, hs, rfl, own, hb, hz, x0, x1, x2⟩ := hrel
    clear own4 hbB hgl y0 y1 y2
    obtain ⟨wo, rfl⟩ : ∃ wo : World, wo = wr := ⟨_, rfl⟩
    by_cases hlt : s < P
    · have KV := Lib.hid (fun W (hW : Below wo.heap.size wo W) => K4.out W (hb.trans (hW.mono (by have := hb.size; omega))) s hlt)
      have HO := Lib.hid own
      have HN : Hid (∀ W : World, OwV W gT (some ⟨gT, 0, none⟩) P P (fun x => decide (x < s) && val x) → OwV (W.setCell ⟨gT, s, none⟩ (.bool (val s))) gT (some ⟨gT, 0, none⟩) P P (fun x => decide (x < s + 1) && val x)) := fun W h1 => (h1.set s (val s)).1.congr fun j _ => by
        by_cases e : j = s
        · subst e; simp
        · have e1 : decide (j < s + 1) = decide (j < s) := by rw [decide_eq_decide]; omega
          rw [if_neg e, e1]
      have c1 := own.at_ hlt
      have c2 := own.frozen s
      generalize val s = b at *
      clear own
      go_wp2_with fail
      refine (KV.out _ (Below.refl _ _)).mono ?_
      rintro e w5 ⟨rfl, hb5⟩
      have hb5z := hb5.size
      have d1 := (below_at hb5 gT s (by omega)).trans c1
      have d2 := (below_fr hb5 gT s (by omega)).trans c2
      have u0 := (below_at hb5 w.heap.size 0 (by omega)).trans x0
      have u1 := (below_at hb5 w.heap.size 1 (by omega)).trans x1
      have u2 := (below_at hb5 w.heap.size 2 (by omega)).trans x2
      have own5 := HN.out w5 (OwV.below HO.out hb5)
      have hb6 : Below w.heap.size w (w5.setCell ⟨gT, s, none⟩ (.bool b)) := Below.setCell (by have z0 := Below.size hb; have z1 := Below.size hb5; (try simp only [World.size_alloc, World.size_setCell, World.size_drew, size_drewN'] at z0 z1 ⊢; skip); repeat' (first | (with_reducible exact Below.refl _ _) | (with_reducible assumption) | (with_reducible refine Below.alloc ?_ ?_ _) | (with_reducible refine Below.drew ?_) | (with_reducible refine below_drewN ?_ _) | (with_reducible refine Below.setCell ?_ ?_ _) | (with_reducible refine Below.trans ?_ (Below.mono (by with_reducible assumption) ?_)) | omega | (simp only [World.size_alloc, World.size_setCell, World.size_drew, size_drewN']; omega) | go_size)) (p := ⟨gT, _, none⟩) (by show w.heap.size ≤ gT; omega) _
      have hz6 : gT < (w5.setCell ⟨gT, s, none⟩ (.bool b)).heap.size := by simp; omega
      clear c1 c2 x0 x1 x2 hb5
      go_wp2_with fail
      go_roundw
      case rel => exact ⟨s + 1, by omega, by go_num, own5, hb6, hz6, set_far (by omega) u0, set_far (by omega) u1, set_far (by omega) u2⟩
      case measure => simp [intOf]; omega
    · obtain rfl : s = P := by omega
      have own6 : OwV wo w.heap.size (some ⟨gT, 0, none⟩) s s val := (own.congr fun j hj => by simp [hj]).base_ (by omega)
      go_wp2
      go_returns
      exact ⟨⟨gT, rfl, own6⟩, hb⟩
end
section
variable {w : World} {A B : Option Addr} {ca cb v : Nat} {f g : FrR}
set_option maxHeartbeats 4000000 in
theorem tequal_ok (hf : FrI w A f) (okf : FrOk f) (hvf : f.vars = v) (hg : FrI w B g) (okg : FrOk g) (hvg : g.vars = v) (h7 : v ≤ 12) :
    Calls Try.prog 64 #[fv (v : Int) A f.nn ca f.top, fv (v : Int) B g.nn cb g.top] w fun e w' => (∃ b i, e = .returned (.tuple #[.bool b, .int .i64 i, .nilIface]) ∧ (b = true ↔ ∀ s, s < 2 ^ v → f.fr.val s = g.fr.val s)) ∧ Below w.heap.size w w' := by
  have K1 := Lib.hid (fun W (hW : Below w.heap.size w W) => fcheck_ok (c := ca) (hf.below hW) okf hvf)
  have K2 := Lib.hid (fun W (hW : Below w.heap.size w W) => fcheck_ok (c := cb) (hg.below hW) okg hvg)
  have K3 := Lib.hid (fun W (hW : Below w.heap.size w W) => ttable_ok (c := ca) (hf.below hW) okf hvf h7)
  have K4 := Lib.hid (fun W (hW : Below w.heap.size w W) => ttable_ok (c := cb) (hg.below hW) okg hvg h7)
  generalize f.fr.val = va at *
  generalize g.fr.val = vb at *
  generalize f.nn = na at *
  generalize g.nn = nb at *
  generalize f.top = ta at *
  generalize g.top = tb at *
  have hP : 2 ^ v ≤ 4096 := Nat.pow_le_pow_right (n := 2) (by omega) h7
  generalize 2 ^ v = P at *
  clear hf okf hvf hg okg hvg
  go_enter Try.func64, Try.ntmps64
  go_wp2_with fail
  refine (K1.out _ (by (skip); repeat' (first | (with_reducible exact Below.refl _ _) | (with_reducible assumption) | (with_reducible refine Below.alloc ?_ ?_ _) | (with_reducible refine Below.drew ?_) | (with_reducible refine below_drewN ?_ _) | (with_reducible refine Below.setCell ?_ ?_ _) | (with_reducible refine Below.trans ?_ (Below.mono (by with_reducible assumption) ?_)) | omega | (simp only [World.size_alloc, World.size_setCell, World.size_drew, size_drewN']; omega) | go_size))).mono ?_
  rintro e w1 ⟨rfl, hb1⟩
  have hb1z := hb1.size
  simp only [World.size_alloc] at hb1z
  have x0 : w1.cell? ⟨w.heap.size, 0, none⟩ = some (.int .i64 (v : Int)) := (below_at hb1 w.heap.size 0 (by simp; omega)).trans (by simp [go_sem])
  have x1 : w1.cell? ⟨w.heap.size, 1, none⟩ = some (.slice A na ca) := (below_at hb1 w.heap.size 1 (by simp; omega)).trans (by simp [go_sem])
  have x2 : w1.cell? ⟨w.heap.size, 2, none⟩ = some (.int .i64 ta) := (below_at hb1 w.heap.size 2 (by simp; omega)).trans (by simp [go_sem])
  have x3 : w1.cell? ⟨w.heap.size + 1, 0, none⟩ = some (.int .i64 (v : Int)) := (below_at hb1 (w.heap.size + 1) 0 (by simp)).trans (by simp [go_sem])
  have x4 : w1.cell? ⟨w.heap.size + 1, 1, none⟩ = some (.slice B nb cb) := (below_at hb1 (w.heap.size + 1) 1 (by simp)).trans (by simp [go_sem])
  have x5 : w1.cell? ⟨w.heap.size + 1, 2, none⟩ = some (.int .i64 tb) := (below_at hb1 (w.heap.size + 1) 2 (by simp)).trans (by simp [go_sem])
  have hbA : Below w.heap.size w w1 := (by have z0 := Below.size hb1; (try simp only [World.size_alloc, World.size_setCell, World.size_drew, size_drewN'] at z0 ⊢; skip); repeat' (first | (with_reducible exact Below.refl _ _) | (with_reducible assumption) | (with_reducible refine Below.alloc ?_ ?_ _) | (with_reducible refine Below.drew ?_) | (with_reducible refine below_drewN ?_ _) | (with_reducible refine Below.setCell ?_ ?_ _) | (with_reducible refine Below.trans ?_ (Below.mono (by with_reducible assumption) ?_)) | omega | (simp only [World.size_alloc, World.size_setCell, World.size_drew, size_drewN']; omega) | go_size))
  clear hb1
  go_wp2_with fail
  refine (K2.out _ hbA).mono ?_
  rintro e w2 ⟨rfl, hb2⟩
  have hb2z := hb2.size
  have y0 := (below_at hb2 w.heap.size 0 (by omega)).trans x0
  have y1 := (below_at hb2 w.heap.size 1 (by omega)).trans x1
  have y2 := (below_at hb2 w.heap.size 2 (by omega)).trans x2
  have y3 := (below_at hb2 (w.heap.size + 1) 0 (by omega)).trans x3
  have y4 := (below_at hb2 (w.heap.size + 1) 1 (by omega)).trans x4
  have y5 := (below_at hb2 (w.heap.size + 1) 2 (by omega)).trans x5
  have hbB : Below w.heap.size w w2 := (by have z0 := Below.size hbA; have z1 := Below.size hb2; (try simp only [World.size_alloc, World.size_setCell, World.size_drew, size_drewN'] at z0 z1 ⊢; skip); repeat' (first | (with_reducible exact Below.refl _ _) | (with_reducible assumption) | (with_reducible refine Below.alloc ?_ ?_ _) | (with_reducible refine Below.drew ?_) | (with_reducible refine below_drewN ?_ _) | (with_reducible refine Below.setCell ?_ ?_ _) | (with_reducible refine Below.trans ?_ (Below.mono (by with_reducible assumption) ?_)) | omega | (simp only [World.size_alloc, World.size_setCell, World.size_drew, size_drewN']; omega) | go_size))
  clear x0 x1 x2 x3 x4 x5 hb2 hbA
  go_wp2_with fail
  refine (K3.out _ hbB).mono ?_
  rintro e w3 ⟨⟨g3, rfl, own3⟩, hb3⟩
  have hb3z := hb3.size
  have x3 := (below_at hb3 (w.heap.size + 1) 0 (by omega)).trans y3
  have x4 := (below_at hb3 (w.heap.size + 1) 1 (by omega)).trans y4
  have x5 := (below_at hb3 (w.heap.size + 1) 2 (by omega)).trans y5
  have hbC : Below w.heap.size w w3 := (by have z0 := Below.size hbB; have z1 := Below.size hb3; (try simp only [World.size_alloc, World.size_setCell, World.size_drew, size_drewN'] at z0 z1 ⊢; skip); repeat' (first | (with_reducible exact Below.refl _ _) | (with_reducible assumption) | (with_reducible refine Below.alloc ?_ ?_ _) | (with_reducible refine Below.drew ?_) | (with_reducible refine below_drewN ?_ _) | (with_reducible refine Below.setCell ?_ ?_ _) | (with_reducible refine Below.trans ?_ (Below.mono (by with_reducible assumption) ?_)) | omega | (simp only [World.size_alloc, World.size_setCell, World.size_drew, size_drewN']; omega) | go_size))
  clear y0 y1 y2 y3 y4 y5 hb3 hbB
  have HO3 := Lib.hid own3
  clear own3
  go_wp2_with fail
  refine (K4.out _ hbC).mono ?_
  rintro e w4 ⟨⟨g4, rfl, own4⟩, hb4⟩
  have hb4z := hb4.size
  have HA := Lib.hid (OwV.below HO3.out hb4)
  have HB := Lib.hid own4
  have hbD : Below w.heap.size w w4 := (by have z0 := Below.size hbC; have z1 := Below.size hb4; (try simp only [World.size_alloc, World.size_setCell, World.size_drew, size_drewN'] at z0 z1 ⊢; skip); repeat' (first | (with_reducible exact Below.refl _ _) | (with_reducible assumption) | (with_reducible refine Below.alloc ?_ ?_ _) | (with_reducible refine Below.drew ?_) | (with_reducible refine below_drewN ?_ _) | (with_reducible refine Below.setCell ?_ ?_ _) | (with_reducible refine Below.trans ?_ (Below.mono (by with_reducible assumption) ?_)) | omega | (simp only [World.size_alloc, World.size_setCell, World.size_drew, size_drewN']; omega) | go_size))
  clear own4 hb4 hbC x3 x4 x5
  go_wp2_with fail
  go_loopw [47] (fun i wr => ∃ s : Nat, s ≤ P ∧ i = .int .i64 s ∧ (∀ q, q < s → va q = vb q) ∧ Below w4.heap.size w4 wr) (fun i _ => P - (intOf i).toNat)
  case atStart => exact ⟨0, Nat.zero_le _, rfl, fun q hq => by omega, Below.refl _ _⟩
  case round =>
    obtain ⟨s, hs, rfl, heq, hb⟩ := hrel
    have HQ := Lib.hid heq
    clear heq
    obtain ⟨wo, rfl⟩ : ∃ wo : World, wo = wr := ⟨_, rfl⟩
    have hbW : Below w.heap.size w wo := hbD.trans (hb.mono (by omega))
    by_cases hlt : s < P
    · have c1 := (OwV.below HA.out hb).at_ hlt
      have c2 := (OwV.below HB.out hb).at_ hlt
      have HE : Hid (va s = vb s → ∀ q, q < s + 1 → va q = vb q) := fun h0 q hq => by
        rcases Nat.lt_or_ge q s with h1 | h1
        · exact HQ.out q h1
        · have : q = s := by omega
          subst this; exact h0
      have HN : Hid (va s ≠ vb s → ¬ ∀ q, q < P → va q = vb q) := fun h0 h1 => h0 (h1 s hlt)
      have i1 : (0 : Int) ≤ (s : Int) := by omega
      have i2 : (s : Int) < (P : Int) := by omega
      generalize va s = p at *
      generalize vb s = q at *
      have f0 := fun y : Sub wo => y.cell c1
      have f1 := fun y : Sub wo => y.cell c2
      cases p <;> cases q
      · have HE2 := Lib.hid (HE.out rfl)
        clear HE HN
        go_wp2
        ((refine wp_region_quiet_bel (by kernel_rfl) (by kernel_rfl) ?_); (repeat (go_big_quiet_step (fail))); (refine wpQuiet_nil ?_); rintro w5 ⟨⟨_, hb5⟩, rfl⟩; (try dsimp only))
        go_wp2
        go_roundw
        case rel => exact ⟨s + 1, by omega, by go_num, HE2.out, (by have z0 := Below.size hb; have z1 := Below.size hb5; (try simp only [World.size_alloc, World.size_setCell, World.size_drew, size_drewN'] at z0 z1 ⊢; skip); repeat' (first | (with_reducible exact Below.refl _ _) | (with_reducible assumption) | (with_reducible refine Below.alloc ?_ ?_ _) | (with_reducible refine Below.drew ?_) | (with_reducible refine below_drewN ?_ _) | (with_reducible refine Below.setCell ?_ ?_ _) | (with_reducible refine Below.trans ?_ (Below.mono (by with_reducible assumption) ?_)) | omega | (simp only [World.size_alloc, World.size_setCell, World.size_drew, size_drewN']; omega) | go_size))⟩
        case measure => simp [intOf]; omega
      · have HN2 := Lib.hid (HN.out (by decide))
        clear HE HN
        go_wp2
        ((refine wp_region_quiet_bel (by kernel_rfl) (by kernel_rfl) ?_); (repeat (go_big_quiet_step (fail))); (refine wpQuiet_nil ?_); rintro w5 ⟨⟨_, hb5⟩, rfl⟩; (try dsimp only))
        go_wp2
        go_returns
        exact ⟨⟨false, _, rfl, ⟨fun h => by simp at h, fun h => absurd h HN2.out⟩⟩, (by have z0 := Below.size hbW; have z1 := Below.size hb5; (try simp only [World.size_alloc, World.size_setCell, World.size_drew, size_drewN'] at z0 z1 ⊢; skip); repeat' (first | (with_reducible exact Below.refl _ _) | (with_reducible assumption) | (with_reducible refine Below.alloc ?_ ?_ _) | (with_reducible refine Below.drew ?_) | (with_reducible refine below_drewN ?_ _) | (with_reducible refine Below.setCell ?_ ?_ _) | (with_reducible refine Below.trans ?_ (Below.mono (by with_reducible assumption) ?_)) | omega | (simp only [World.size_alloc, World.size_setCell, World.size_drew, size_drewN']; omega) | go_size))⟩
      · have HN2 := Lib.hid (HN.out (by decide))
        clear HE HN
        go_wp2
        ((refine wp_region_quiet_bel (by kernel_rfl) (by kernel_rfl) ?_); (repeat (go_big_quiet_step (fail))); (refine wpQuiet_nil ?_); rintro w5 ⟨⟨_, hb5⟩, rfl⟩; (try dsimp only))
        go_wp2
        go_returns
        exact ⟨⟨false, _, rfl, ⟨fun h => by simp at h, fun h => absurd h HN2.out⟩⟩, (by have z0 := Below.size hbW; have z1 := Below.size hb5; (try simp only [World.size_alloc, World.size_setCell, World.size_drew, size_drewN'] at z0 z1 ⊢; skip); repeat' (first | (with_reducible exact Below.refl _ _) | (with_reducible assumption) | (with_reducible refine Below.alloc ?_ ?_ _) | (with_reducible refine Below.drew ?_) | (with_reducible refine below_drewN ?_ _) | (with_reducible refine Below.setCell ?_ ?_ _) | (with_reducible refine Below.trans ?_ (Below.mono (by with_reducible assumption) ?_)) | omega | (simp only [World.size_alloc, World.size_setCell, World.size_drew, size_drewN']; omega) | go_size))⟩
      · have HE2 := Lib.hid (HE.out rfl)
        clear HE HN
        go_wp2
        ((refine wp_region_quiet_bel (by kernel_rfl) (by kernel_rfl) ?_); (repeat (go_big_quiet_step (fail))); (refine wpQuiet_nil ?_); rintro w5 ⟨⟨_, hb5⟩, rfl⟩; (try dsimp only))
        go_wp2
        go_roundw
        case rel => exact ⟨s + 1, by omega, by go_num, HE2.out, (by have z0 := Below.size hb; have z1 := Below.size hb5; (try simp only [World.size_alloc, World.size_setCell, World.size_drew, size_drewN'] at z0 z1 ⊢; skip); repeat' (first | (with_reducible exact Below.refl _ _) | (with_reducible assumption) | (with_reducible refine Below.alloc ?_ ?_ _) | (with_reducible refine Below.drew ?_) | (with_reducible refine below_drewN ?_ _) | (with_reducible refine Below.setCell ?_ ?_ _) | (with_reducible refine Below.trans ?_ (Below.mono (by with_reducible assumption) ?_)) | omega | (simp only [World.size_alloc, World.size_setCell, World.size_drew, size_drewN']; omega) | go_size))⟩
        case measure => simp [intOf]; omega
    · have HE2 : Hid (∀ q, q < P → va q = vb q) := fun q hq => HQ.out q (by omega)
      go_wp2
      go_returns
      exact ⟨⟨true, _, rfl, ⟨fun _ => HE2.out, fun _ => rfl⟩⟩, hbW⟩
end
end Go.Proofs.Ytedopalmfakeaaa
