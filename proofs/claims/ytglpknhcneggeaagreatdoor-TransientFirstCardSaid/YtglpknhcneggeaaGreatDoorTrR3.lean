/- Contracts of functions and lemmas, used by the proofs of the given statements. No condition beyond those that each lemma names. -/
import Derived.Test.YtglpknhcneggeaaGreatDoorTrR2
namespace Go.Proofs.YtglpknhcneggeaaGreatDoor
open Go.RowKit
set_option linter.unusedSimpArgs false
set_option linter.unusedVariables false
set_option maxRecDepth 20000
attribute [local irreducible] nv wp win plainB validR valR canR mvE chkM codeC exK maxF dsum
/-! ## reference: Fastest -/
def foldM (x : Nat → Rat) : Nat → Rat
  | 0 => 0
  | k + 1 => maxQ (foldM x k) (x k)
theorem foldM_sz {x : Nat → Rat} {L : Nat} (hL : 1 ≤ L) : ∀ {k : Nat}, (∀ j, j < k → Sz L (x j)) → Sz L (foldM x k)
  | 0, _ => Sz.zero hL
  | k + 1, h => by
    rw [foldM]
    unfold maxQ
    split
    · exact h k (by omega)
    · exact foldM_sz hL fun j hj => h j (by omega)
section
attribute [local semireducible] maxF
theorem foldM_max {x : Nat → Rat} (h : ∀ j, 0 ≤ x j) : ∀ k, foldM x (k + 1) = maxF x k
  | 0 => by
    have := h 0
    show maxQ 0 (x 0) = x 0
    unfold maxQ
    split
    · rfl
    · grind
  | k + 1 => by
    rw [foldM, foldM_max h k]
    conv => rhs; unfold maxF
    rfl
end
theorem Chn.ex_nonneg {c : Chn} (ok : c.Ok) (s : Nat) : 0 ≤ c.ex s := exK_nonneg fun j hj => Rat.le_of_lt (ok.mv j hj).2.2.2.2.2.1
theorem Chn.fold_fast {c : Chn} (ok : c.Ok) : foldM c.ex c.nd = c.fast := by
  have h1 := ok.lo
  have := foldM_max (Chn.ex_nonneg ok) (c.nd - 1)
  rw [show c.nd - 1 + 1 = c.nd by omega] at this
  exact this
def RetQc (q : Rat) (code : Int) (e : Ending) (w' : World) : Prop := if code = 0 then ∃ v, e = .returned (.tuple #[v, .int .i64 0]) ∧ RdS w' 0 v (canR q) else e = .returned (.tuple #[zr, .int .i64 code])
theorem retQc_0 {q : Rat} {code : Int} {v : Value} {w' : World} (h : code = 0) (hr : RdS w' 0 v (canR q)) : RetQc q code (.returned (.tuple #[v, .int .i64 0])) w' := by
  unfold RetQc; rw [if_pos h]; exact ⟨v, rfl, hr⟩
theorem retQc_n {q : Rat} {code : Int} {w' : World} (h : code ≠ 0) : RetQc q code (.returned (.tuple #[zr, .int .i64 code])) w' := by
  unfold RetQc; rw [if_neg h]
set_option maxHeartbeats 4000000 in
theorem rfastest_any {w : World} {AM AD : Option Addr} {cm cd L : Nat} {c : Chn} (h : ChI w w.heap.size AM cm AD cd c) (hs : ChS c L) :
    Calls Tryz.prog 60 #[cv c.st c.sr AM c.nm cm AD c.nd cd] w fun e w' => RetQc c.fast c.code e w' ∧ Below w.heap.size w w' := by
  have K1 := Lib.hid (fun W (hb : Below w.heap.size w W) => rchCheck (h.below hb) hs.nm hs.short)
  have hok := Chn.ok_iff (c := c)
  have hsz := hs.siz
  obtain ⟨cc, hcc⟩ : ∃ cc, cc = c.code := ⟨_, rfl⟩
  obtain ⟨q, hq⟩ : ∃ q, q = c.fast := ⟨_, rfl⟩
  obtain ⟨X, hX⟩ : ∃ X, X = c.ex := ⟨_, rfl⟩
  rw [← hcc] at K1 hok ⊢
  rw [← hq]
  by_cases h0 : cc = 0
  · have ok := hok.1 h0
    have siz := hsz ok
    have hsx : ∀ k, k < c.nd → Sz L (X k) := fun k _ => by rw [hX]; exact siz.ex k c.nm (Nat.le_refl _)
    have hL1 := siz.L1
    have hL2 := siz.L2
    have hn2 := ok.hi
    have hst := ok.st
    have K2 : Hid (∀ W (s : Nat), Below w.heap.size w W → Calls Tryz.prog 104 #[cv c.st c.sr AM c.nm cm AD c.nd cd, .int .i64 (s : Int)] W fun e w' => RetS1 (X s) e w' ∧ Below W.heap.size W w') := by
      show ∀ _, _
      intro W s hb
      rw [hX]
      exact rexit_any (h.below hb) ok siz
    have K3 := Lib.hid (fun W v u k s (hk : k ≤ c.nd) (hs : s < c.nd) (h1 : RdS W 0 v (canR (foldM X k))) (h2 : RdS W 0 u (canR (X s))) => rmaxQ (h1.canQ (foldM_sz hL1 fun j hj => hsx j (by omega))) (h2.canQ (hsx s hs)) hL1 (by omega))
    have HF : Hid (foldM X c.nd = q) := by show _ = _; rw [hq, hX]; exact Chn.fold_fast ok
    have H0 := Lib.hid h0
    rw [h0] at K1
    clear hok hsz ok siz hsx h0 h hs hcc hq hX
    obtain ⟨st, sr, nm, F, T, R, nd, D⟩ := c
    simp only at *
    subst hst
    go_enter Tryz.func60, Tryz.ntmps60
    (go_wp2_with fail; (with_reducible refine (K1.out _ (by (skip); repeat' (first | (with_reducible exact Below.refl _ _) | (with_reducible assumption) | (with_reducible refine Below.alloc ?_ ?_ _) | (with_reducible refine Below.drew ?_) | (with_reducible refine below_drewN ?_ _) | (with_reducible refine Below.setCell ?_ ?_ _) | (with_reducible refine Below.trans ?_ (Below.mono (by with_reducible assumption) ?_)) | omega | (simp only [World.size_alloc, World.size_setCell, World.size_drew, size_drewN']; omega) | go_size))).mono ?_); rintro e w1 ⟨rfl, hb1⟩; have hb1z := Below.size hb1; (try simp only [World.size_alloc, World.size_setCell, World.size_drew, size_drewN'] at hb1z); have hb1c0 := fun o => below_at hb1 (w.heap.size) o (by first | omega | (simp only [World.size_alloc, World.size_setCell, World.size_drew, size_drewN']; omega)); have hb1f0 := fun o => below_fr hb1 (w.heap.size) o (by first | omega | (simp only [World.size_alloc, World.size_setCell, World.size_drew, size_drewN']; omega)); have hb1c1 := fun o => below_at hb1 (w.heap.size + 1) o (by first | omega | (simp only [World.size_alloc, World.size_setCell, World.size_drew, size_drewN']; omega)); have hb1f1 := fun o => below_fr hb1 (w.heap.size + 1) o (by first | omega | (simp only [World.size_alloc, World.size_setCell, World.size_drew, size_drewN']; omega)))
    have hw1 : w.heap.size + 1 < w1.heap.size := by have := hb1.size; simp at this; omega
    have y0 : w1.cell? ⟨w.heap.size, 0, none⟩ = some (.int .i64 (nd : Int)) := by rw [hb1c0]; simp
    have y1 : w1.cell? ⟨w.heap.size, 1, none⟩ = some (.int .i64 sr) := by rw [hb1c0]; simp
    have y2 : w1.cell? ⟨w.heap.size, 2, none⟩ = some (.slice AM nm cm) := by rw [hb1c0]; simp
    have y3 : w1.cell? ⟨w.heap.size, 3, none⟩ = some (.slice AD nd cd) := by rw [hb1c0]; simp
    have t0 : w1.cell? ⟨w.heap.size + 1, 0, none⟩ = some (.bool false) := by rw [hb1c1]; simp
    have t1 : w1.cell? ⟨w.heap.size + 1, 1, none⟩ = some (.slice none 0 0) := by rw [hb1c1]; simp
    have t2 : w1.cell? ⟨w.heap.size + 1, 2, none⟩ = some (.slice none 0 0) := by rw [hb1c1]; simp
    have t3 : ∀ i, w1.frozen? ⟨w.heap.size + 1, i, none⟩ = false := fun i => by rw [hb1f1]; simp
    have hB1 : RatB w1 (w.heap.size + 1) := by
      have h1 := RatB.new (w.alloc (.cells #[.int .i64 (nd : Int), .int .i64 sr, .slice AM nm cm, .slice AD nd cd] 25)) #[.bool false, .slice none 0 0, .slice none 0 0]
      rw [World.size_alloc] at h1
      exact h1.below hb1 (by simp)
    have hbw1 : Below w.heap.size w w1 := (by have z0 := Below.size hb1; (try simp only [World.size_alloc, World.size_setCell, World.size_drew, size_drewN'] at z0 ⊢; skip); repeat' (first | (with_reducible exact Below.refl _ _) | (with_reducible assumption) | (with_reducible refine Below.alloc ?_ ?_ _) | (with_reducible refine Below.drew ?_) | (with_reducible refine below_drewN ?_ _) | (with_reducible refine Below.setCell ?_ ?_ _) | (with_reducible refine Below.trans ?_ (Below.mono (by with_reducible assumption) ?_)) | omega | (simp only [World.size_alloc, World.size_setCell, World.size_drew, size_drewN']; omega) | go_size))
    clear hb1c0 hb1c1 hb1f0 hb1f1 hb1 hb1z
    (have olwc := fun o i => below_at ((Below.refl w1.heap.size w1).alloc (Nat.le_refl _) o) (w.heap.size) i (by omega)); (have olwf := fun o i => below_fr ((Below.refl w1.heap.size w1).alloc (Nat.le_refl _) o) (w.heap.size) i (by omega))
    go_wp2
    clear olwc olwf
    go_loopw [15] (fun i wr => ∃ k : Nat, k ≤ nd ∧ i = .int .i64 (k : Int) ∧ SumR w1.heap.size (foldM X k) wr ∧ Below w1.heap.size w1 wr ∧ w1.heap.size < wr.heap.size ∧ RatB wr w1.heap.size ∧ ∀ i, wr.frozen? ⟨w1.heap.size, i, none⟩ = false) (fun i _ => nd - (intOf i).toNat)
    case atStart => exact ⟨0, Nat.zero_le _, rfl, ⟨false, none, 0, 0, none, 0, 0, (World.cell?_alloc_at _ _ _ _ rfl).trans rfl, (World.cell?_alloc_at _ _ _ _ rfl).trans rfl, (World.cell?_alloc_at _ _ _ _ rfl).trans rfl, (OwQ.zero _ 0).rs⟩, (Below.refl _ _).alloc (Nat.le_refl _) _, by simp, RatB.new _ _, fun i => World.frozen?_alloc_at _ _ _ _ rfl⟩
    case round =>
      obtain ⟨k, hk, rfl, ⟨s3, A3, n3, c3', B3, m3, d3, g0, g1, g2, r3⟩, hb, hz, hrb, hfz⟩ := hrel
      have hbz := hb.size
      have hbw : Below w.heap.size w wr := hbw1.trans (hb.mono (by omega))
      by_cases hlt : k < nd
      · have x0 := (hb.cell (p := ⟨w.heap.size, 0, none⟩) (by show w.heap.size < _; omega)).trans y0
        have x1 := (hb.cell (p := ⟨w.heap.size, 1, none⟩) (by show w.heap.size < _; omega)).trans y1
        have x2 := (hb.cell (p := ⟨w.heap.size, 2, none⟩) (by show w.heap.size < _; omega)).trans y2
        have x3 := (hb.cell (p := ⟨w.heap.size, 3, none⟩) (by show w.heap.size < _; omega)).trans y3
        have hki : (k : Int) < (nd : Int) := by omega
        have HR3 := Lib.hid r3
        have HB := Lib.hid hb
        have HRB := Lib.hid hrb
        have KE := Lib.hid (fun W (hb' : Below wr.heap.size wr W) => K2.out W k (hbw.trans (hb'.mono hbw.size)))
        have KM := Lib.hid (fun W u (hb' : Below wr.heap.size wr W) (hu : RdS W 0 u (canR (X k))) => K3.out W _ u k k (by omega) hlt (r3.kp (Kp.of_below hb')) hu)
        have HFM : Hid (maxQ (foldM X k) (X k) = foldM X (k + 1)) := rfl
        rw [HFM.out] at KM
        have ne1 : ¬ (w1.heap.size = w.heap.size) := by omega
        have ne2 : ¬ (w.heap.size = w1.heap.size) := by omega
        have hwr9 : w.heap.size < wr.heap.size := by omega
        clear r3 hb hrb hbw y0 y1 y2 y3
        go_wp2
        rw [ld_later 28 (.tmp 5)]
        go_region_held3 (fun W => W.cell? ⟨w.heap.size, 0, none⟩ = some (.int .i64 (nd : Int)) ∧ W.cell? ⟨w.heap.size, 1, none⟩ = some (.int .i64 sr) ∧ W.cell? ⟨w.heap.size, 2, none⟩ = some (.slice AM nm cm) ∧ W.cell? ⟨w.heap.size, 3, none⟩ = some (.slice AD nd cd)) (go_keep)
          (first | ((go_at_call 104; (with_reducible refine (KE.out _ (by (skip); repeat' (first | (with_reducible exact Below.refl _ _) | (with_reducible assumption) | (with_reducible refine Below.alloc ?_ ?_ _) | (with_reducible refine Below.drew ?_) | (with_reducible refine below_drewN ?_ _) | (with_reducible refine Below.setCell ?_ ?_ _) | (with_reducible refine Below.trans ?_ (Below.mono (by with_reducible assumption) ?_)) | omega | (simp only [World.size_alloc, World.size_setCell, World.size_drew, size_drewN']; omega) | go_size))).mono ?_); rintro e w3 ⟨⟨v3, rfl, own3⟩, hb3⟩; have hb3z := Below.size hb3; (try simp only [World.size_alloc, World.size_setCell, World.size_drew] at hb3z); have hb3c0 := fun o => below_at hb3 (w.heap.size) o (by first | omega | (simp only [World.size_alloc, World.size_setCell, World.size_drew]; omega)); have hb3f0 := fun o => below_fr hb3 (w.heap.size) o (by first | omega | (simp only [World.size_alloc, World.size_setCell, World.size_drew]; omega)); have hb3l0 : w.heap.size < (w3).heap.size := (by omega); have hb3c1 := fun o => below_at hb3 (w1.heap.size) o (by first | omega | (simp only [World.size_alloc, World.size_setCell, World.size_drew]; omega)); have hb3f1 := fun o => below_fr hb3 (w1.heap.size) o (by first | omega | (simp only [World.size_alloc, World.size_setCell, World.size_drew]; omega)); have hb3l1 : w1.heap.size < (w3).heap.size := (by omega)); obtain ⟨s5, A5, n5, c5, B5, m5, d5, rfl⟩ := own3.form) | ((go_at_call 103; (with_reducible refine (KM.out _ _ (by have z0 := Below.size hb3; (try simp only [World.size_alloc, World.size_setCell, World.size_drew, size_drewN'] at z0 ⊢; skip); repeat' (first | (with_reducible exact Below.refl _ _) | (with_reducible assumption) | (with_reducible refine Below.alloc ?_ ?_ _) | (with_reducible refine Below.drew ?_) | (with_reducible refine below_drewN ?_ _) | (with_reducible refine Below.setCell ?_ ?_ _) | (with_reducible refine Below.trans ?_ (Below.mono (by with_reducible assumption) ?_)) | omega | (simp only [World.size_alloc, World.size_setCell, World.size_drew, size_drewN']; omega) | go_size)) own3).mono ?_); rintro e w4 ⟨⟨v4, rfl, own4⟩, hb4⟩; have hb4z := Below.size hb4; (try simp only [World.size_alloc, World.size_setCell, World.size_drew] at hb4z); have hb4c0 := fun o => below_at hb4 (w.heap.size) o (by first | omega | (simp only [World.size_alloc, World.size_setCell, World.size_drew]; omega)); have hb4f0 := fun o => below_fr hb4 (w.heap.size) o (by first | omega | (simp only [World.size_alloc, World.size_setCell, World.size_drew]; omega)); have hb4l0 : w.heap.size < (w4).heap.size := (by omega); have hb4c1 := fun o => below_at hb4 (w1.heap.size) o (by first | omega | (simp only [World.size_alloc, World.size_setCell, World.size_drew]; omega)); have hb4f1 := fun o => below_fr hb4 (w1.heap.size) o (by first | omega | (simp only [World.size_alloc, World.size_setCell, World.size_drew]; omega)); have hb4l1 : w1.heap.size < (w4).heap.size := (by omega)); obtain ⟨s4, A4, n4, c4, B4, m4, d4, rfl⟩ := own4.form) | fail)
        all_goals
          have HO4 := Lib.hid own4
          have hb9 : Below wr.heap.size wr w4 := (by have z0 := Below.size hb3; have z1 := Below.size hb4; (try simp only [World.size_alloc, World.size_setCell, World.size_drew, size_drewN'] at z0 z1 ⊢; skip); repeat' (first | (with_reducible exact Below.refl _ _) | (with_reducible assumption) | (with_reducible refine Below.alloc ?_ ?_ _) | (with_reducible refine Below.drew ?_) | (with_reducible refine below_drewN ?_ _) | (with_reducible refine Below.setCell ?_ ?_ _) | (with_reducible refine Below.trans ?_ (Below.mono (by with_reducible assumption) ?_)) | omega | (simp only [World.size_alloc, World.size_setCell, World.size_drew, size_drewN']; omega) | go_size))
          have HB9 := Lib.hid hb9
          clear own4 hb9
          go_wp2
          go_roundw
          case rel =>
            have hrb4 : RatB w4 w1.heap.size := HRB.out.below HB9.out hz
            have g9 := HB9.out
            have s9 := set3 (w := w4) (g := w1.heap.size) (o := 0) (a := .bool s4) (b := .slice A4 n4 c4) (d := .slice B4 m4 d4) ((g9.cell (p := ⟨w1.heap.size, 0, none⟩) hz).trans g0) ((g9.cell (p := ⟨w1.heap.size, 1, none⟩) hz).trans g1) ((g9.cell (p := ⟨w1.heap.size, 2, none⟩) hz).trans g2)
            refine ⟨k + 1, by omega, by go_num, ⟨s4, A4, n4, c4, B4, m4, d4, s9.1, s9.2.1, s9.2.2, HO4.out.rs.kp (Kp.store3 hrb4 (Nat.zero_le _) _ _ _)⟩, ?_, by have := g9.size; simp; omega, ((hrb4.set _ _).set _ _).set _ _, fun i => ?_⟩
            · exact (((HB.out.trans (g9.mono (by omega))).setCell (Nat.le_refl _) _).setCell (Nat.le_refl _) _).setCell (Nat.le_refl _) _
            · rw [World.frozen?_setCell, World.frozen?_setCell, World.frozen?_setCell]; exact (g9.frozen (p := ⟨w1.heap.size, i, none⟩) hz).trans (hfz i)
          case measure => simp [intOf]; omega
      · have hkn : k = nd := by omega
        subst hkn
        have z0 := (hb.cell (p := ⟨w.heap.size + 1, 0, none⟩) (by show w.heap.size + 1 < _; omega)).trans t0
        have z1 := (hb.cell (p := ⟨w.heap.size + 1, 1, none⟩) (by show w.heap.size + 1 < _; omega)).trans t1
        have z2 := (hb.cell (p := ⟨w.heap.size + 1, 2, none⟩) (by show w.heap.size + 1 < _; omega)).trans t2
        have z3 : ∀ i, wr.frozen? ⟨w.heap.size + 1, i, none⟩ = false := fun i => (hb.frozen (p := ⟨w.heap.size + 1, i, none⟩) (by show w.heap.size + 1 < _; omega)).trans (t3 i)
        have HR3 := Lib.hid r3
        have HB1 := Lib.hid (hB1.below hb (by omega))
        have HBW := Lib.hid hbw
        clear r3 hb hrb hB1 hbw t0 t1 t2 t3 y0 y1 y2 y3
        go_wp2
        refine bodyPost_ret (v := (.tuple #[rv s3 A3 n3 c3' B3 m3 d3, .int .i64 0])) (by simp [results, Tryz.results60, go_sem, z0, z1, z2]) rfl ?_
        exact ⟨retQc_0 H0.out (by rw [← HF.out]; exact HR3.out.kp (Kp.store3 HB1.out (Nat.zero_le _) _ _ _)), ((HBW.out.setCell (by show _ ≤ w.heap.size + 1; omega) _).setCell (by show _ ≤ w.heap.size + 1; omega) _).setCell (by show _ ≤ w.heap.size + 1; omega) _⟩
  · have H0 := Lib.hid h0
    have e5 : (cc != 0) = true := by simpa using h0
    have e6 : (cc == 0) = false := by simpa using h0
    clear hok hsz h0 h hs hcc hq hX
    obtain ⟨st, sr, nm, F, T, R, nd, D⟩ := c
    simp only at *
    go_enter Tryz.func60, Tryz.ntmps60
    (go_wp2_with fail; (with_reducible refine (K1.out _ (by (skip); repeat' (first | (with_reducible exact Below.refl _ _) | (with_reducible assumption) | (with_reducible refine Below.alloc ?_ ?_ _) | (with_reducible refine Below.drew ?_) | (with_reducible refine below_drewN ?_ _) | (with_reducible refine Below.setCell ?_ ?_ _) | (with_reducible refine Below.trans ?_ (Below.mono (by with_reducible assumption) ?_)) | omega | (simp only [World.size_alloc, World.size_setCell, World.size_drew, size_drewN']; omega) | go_size))).mono ?_); rintro e w1 ⟨rfl, hb1⟩; have hb1z := Below.size hb1; (try simp only [World.size_alloc, World.size_setCell, World.size_drew, size_drewN'] at hb1z); have hb1c0 := fun o => below_at hb1 (w.heap.size) o (by first | omega | (simp only [World.size_alloc, World.size_setCell, World.size_drew, size_drewN']; omega)); have hb1f0 := fun o => below_fr hb1 (w.heap.size) o (by first | omega | (simp only [World.size_alloc, World.size_setCell, World.size_drew, size_drewN']; omega)); have hb1c1 := fun o => below_at hb1 (w.heap.size + 1) o (by first | omega | (simp only [World.size_alloc, World.size_setCell, World.size_drew, size_drewN']; omega)); have hb1f1 := fun o => below_fr hb1 (w.heap.size + 1) o (by first | omega | (simp only [World.size_alloc, World.size_setCell, World.size_drew, size_drewN']; omega)))
    have hb9 : Below w.heap.size w w1 := (by have z0 := Below.size hb1; (try simp only [World.size_alloc, World.size_setCell, World.size_drew, size_drewN'] at z0 ⊢; skip); repeat' (first | (with_reducible exact Below.refl _ _) | (with_reducible assumption) | (with_reducible refine Below.alloc ?_ ?_ _) | (with_reducible refine Below.drew ?_) | (with_reducible refine below_drewN ?_ _) | (with_reducible refine Below.setCell ?_ ?_ _) | (with_reducible refine Below.trans ?_ (Below.mono (by with_reducible assumption) ?_)) | omega | (simp only [World.size_alloc, World.size_setCell, World.size_drew, size_drewN']; omega) | go_size))
    go_wp2
    refine bodyPost_ret (v := (.tuple #[zr, .int .i64 cc])) (by simp [results, Tryz.results60, go_sem, hb1c1]) rfl ?_
    exact ⟨retQc_n H0.out, ((hb9.setCell (p := ⟨w.heap.size + 1, 0, none⟩) (by show _ ≤ w.heap.size + 1; omega) _).setCell (p := ⟨w.heap.size + 1, 1, none⟩) (by show _ ≤ w.heap.size + 1; omega) _).setCell (p := ⟨w.heap.size + 1, 2, none⟩) (by show _ ≤ w.heap.size + 1; omega) _⟩
end Go.Proofs.YtglpknhcneggeaaGreatDoor
