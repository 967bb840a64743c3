/- Contracts of functions and lemmas, used by the proofs of the given statements. No condition beyond those that each lemma names. -/
import Derived.Test.YtglpknhcneggeaaGreatDoorTrR1
import Derived.Test.YtglpknhcneggeaaGreatDoorTrW8
namespace Go.Proofs.YtglpknhcneggeaaGreatDoor
open Go.RowKit
set_option linter.unusedSimpArgs false
set_option linter.unusedVariables false
set_option maxRecDepth 20000
attribute [local irreducible] nv wp win plainB validR valR canR mvE chkM codeC exK maxF dsum
/-! ## reference: exit, Fastest -/
set_option maxHeartbeats 4000000 in
theorem rexit_any {w : World} {AM AD : Option Addr} {cm cd L s : Nat} {c : Chn} (h : ChI w w.heap.size AM cm AD cd c) (ok : c.Ok) (hs : SizC c L) :
    Calls Tryz.prog 104 #[cv c.st c.sr AM c.nm cm AD c.nd cd, .int .i64 (s : Int)] w fun e w' => RetS1 (c.ex s) e w' ∧ Below w.heap.size w w' := by
  obtain ⟨x, hx⟩ : ∃ x : Nat → Rat, x = fun k => exK c.f c.q s k := ⟨_, rfl⟩
  have hex : c.ex s = x c.nm := by rw [hx]; rfl
  have hx0 : x 0 = 0 := by rw [hx]; unfold exK; rfl
  have hxs : ∀ k, x (k + 1) = if c.f k = s then x k + valR (c.R k) else x k := fun k => by rw [hx]; show exK c.f c.q s (k + 1) = _; rw [exK]; rfl
  have hsz : ∀ k, k ≤ c.nm → Sz L (x k) := fun k hk => by rw [hx]; exact hs.ex s k hk
  have hmv := ok.mv
  have hL1 := hs.L1
  have hL2 := hs.L2
  have hraw := hs.raw
  have hnm := hs.nm
  have hM := h.mv.1
  rw [hex]
  clear h ok hs hx hex
  obtain ⟨f, hf⟩ : ∃ f : Nat → Nat, f = c.f := ⟨_, rfl⟩
  rw [← hf] at hxs
  have hfk : ∀ k, k < c.nm → c.F k = (f k : Int) := fun k hk => by
    have := hmv k hk
    rw [hf]
    unfold Chn.f
    omega
  clear hmv hf
  obtain ⟨st, sr, nm, F, T, R, nd, D⟩ := c
  simp only at *
  have HX0 := Lib.hid hx0
  have HXS := Lib.hid hxs
  have HZ := Lib.hid hsz
  have HF := Lib.hid hfk
  have HR := Lib.hid hraw
  have HM := Lib.hid hM
  clear hx0 hxs hsz hfk hraw hM
  go_enter Tryz.func104, Tryz.ntmps104
  go_wp2
  go_loopw [11] (fun i wr => ∃ k : Nat, k ≤ nm ∧ i = .int .i64 (k : Int) ∧ SumR (w.heap.size + 1 + 1) (x k) wr ∧ Below (w.heap.size + 1 + 1) ((w.alloc (.cells #[.int .i64 st, .int .i64 sr, .slice AM nm cm, .slice AD nd cd] 25)).alloc (.cells #[.bool false, .slice none 0 0, .slice none 0 0] 28)) wr ∧ w.heap.size + 1 + 1 < wr.heap.size ∧ RatB wr (w.heap.size + 1 + 1) ∧ ∀ i, wr.frozen? ⟨w.heap.size + 1 + 1, i, none⟩ = false) (fun i _ => nm - (intOf i).toNat)
  case atStart =>
    refine ⟨0, Nat.zero_le _, rfl, ⟨false, none, 0, 0, none, 0, 0, (World.cell?_alloc_at _ _ _ _ (by simp)).trans rfl, (World.cell?_alloc_at _ _ _ _ (by simp)).trans rfl, (World.cell?_alloc_at _ _ _ _ (by simp)).trans rfl, by rw [HX0.out]; exact (OwQ.zero _ 0).rs⟩, (Below.refl _ _).alloc (by simp) _, by simp, ?_, fun i => World.frozen?_alloc_at _ _ _ _ (by simp)⟩
    have := RatB.new ((w.alloc (.cells #[.int .i64 st, .int .i64 sr, .slice AM nm cm, .slice AD nd cd] 25)).alloc (.cells #[.bool false, .slice none 0 0, .slice none 0 0] 28)) #[.bool false, .slice none 0 0, .slice none 0 0]
    rw [World.size_alloc, World.size_alloc] at this
    exact this
  case round =>
    obtain ⟨k, hk, rfl, ⟨s3, A3, n3, c3', B3, m3, d3, g0, g1, g2, r3⟩, hb, hz, hrb, hfz⟩ := hrel
    have hbw : Below w.heap.size w wr := (((Below.refl _ _).alloc (Nat.le_refl _) _).alloc (by simp) _).trans (hb.mono (by omega))
    by_cases hlt : k < nm
    · obtain ⟨b, off, s1, A1, n1, c1, B1, m1, d1, rfl, hbb, f0, f1, f2, f3, f4, r0⟩ := HM.out.at_ hlt
      have hFk := HF.out k hlt
      rw [hFk] at f0
      obtain ⟨z1, z2⟩ := HR.out k hlt
      have r1 := (r0.kp (Kp.of_below hbw)).rdq z1 z2
      have tc : ∀ {o : Nat} {v : Value}, w.cell? ⟨b, o, none⟩ = some v → wr.cell? ⟨b, o, none⟩ = some v := fun h => (hbw.cell (lt_of_cell h)).trans h
      have x0 := tc f0
      have x1 := tc f1
      have x2 := tc f2
      have x3 := tc f3
      have x4 := tc f4
      have qs := r3.canQ (HZ.out k hk)
      have K2 := Lib.hid (fun W (hb : Below wr.heap.size wr W) => raddQ (qs.below hb) (r1.below hb) hL1 (by omega))
      have hk0 : (0 : Int) ≤ (k : Int) := by omega
      have hki : (k : Int) < (nm : Int) := by omega
      have HXk := Lib.hid (HXS.out k)
      have HR3 := Lib.hid r3
      have HB := Lib.hid hb
      have HRB := Lib.hid hrb
      clear f0 f1 f2 f3 f4 r0 r1 qs r3 tc hb hrb hFk
      (have ossc := fun o i => below_at ((Below.refl wr.heap.size wr).alloc (Nat.le_refl _) o) (w.heap.size + 1 + 1) i (by omega)); (have ossf := fun o i => below_fr ((Below.refl wr.heap.size wr).alloc (Nat.le_refl _) o) (w.heap.size + 1 + 1) i (by omega))
      by_cases hu : f k = s
      · have e5 : ((f k : Int) == (s : Int)) = true := by simp [hu]
        have e6 : (f k == s) = true := by simp [hu]
        have HE := Lib.hid (HXk.out.trans (if_pos hu))
        clear hu HXk
        generalize f k = u at *
        (go_wp2_with fail; (with_reducible refine (K2.out _ (by (skip); repeat' (first | (with_reducible exact Below.refl _ _) | (with_reducible assumption) | (with_reducible refine Below.alloc ?_ ?_ _) | (with_reducible refine Below.drew ?_) | (with_reducible refine below_drewN ?_ _) | (with_reducible refine Below.setCell ?_ ?_ _) | (with_reducible refine Below.trans ?_ (Below.mono (by with_reducible assumption) ?_)) | omega | (simp only [World.size_alloc, World.size_setCell, World.size_drew, size_drewN']; omega) | go_size))).mono ?_); rintro e w4 ⟨⟨v4, rfl, own4⟩, hb4⟩; have hb4z := Below.size hb4; (try simp only [World.size_alloc, World.size_setCell, World.size_drew, size_drewN'] at hb4z); have hb4c0 := fun o => below_at hb4 (w.heap.size + 1 + 1) o (by first | omega | (simp only [World.size_alloc, World.size_setCell, World.size_drew, size_drewN']; omega)); have hb4f0 := fun o => below_fr hb4 (w.heap.size + 1 + 1) o (by first | omega | (simp only [World.size_alloc, World.size_setCell, World.size_drew, size_drewN']; omega)))
        obtain ⟨s4, A4, n4, c4, B4, m4, d4, rfl⟩ := own4.form
        have HO4 := Lib.hid own4
        clear own4
        go_wp2
        go_roundw
        case rel =>
          have hrb4 : RatB w4 (w.heap.size + 1 + 1) := (HRB.out.below (w' := w4) (B := wr.heap.size) (by have z0 := Below.size hb4; (try simp only [World.size_alloc, World.size_setCell, World.size_drew, size_drewN'] at z0 ⊢; skip); repeat' (first | (with_reducible exact Below.refl _ _) | (with_reducible assumption) | (with_reducible refine Below.alloc ?_ ?_ _) | (with_reducible refine Below.drew ?_) | (with_reducible refine below_drewN ?_ _) | (with_reducible refine Below.setCell ?_ ?_ _) | (with_reducible refine Below.trans ?_ (Below.mono (by with_reducible assumption) ?_)) | omega | (simp only [World.size_alloc, World.size_setCell, World.size_drew, size_drewN']; omega) | go_size)) hz)
          have s9 := set3 (w := w4) (g := w.heap.size + 1 + 1) (o := 0) (a := .bool s4) (b := .slice A4 n4 c4) (d := .slice B4 m4 d4) (by rw [hb4c0, ossc]; exact g0) (by rw [hb4c0, ossc]; exact g1) (by rw [hb4c0, ossc]; exact g2)
          refine ⟨k + 1, by omega, by go_num, ⟨s4, A4, n4, c4, B4, m4, d4, s9.1, s9.2.1, s9.2.2, by rw [HE.out]; exact HO4.out.rs.kp (Kp.store3 hrb4 (Nat.zero_le _) _ _ _)⟩, ?_, by simp; omega, ((hrb4.set _ _).set _ _).set _ _, fun i => ?_⟩
          · have hb9 : Below (w.heap.size + 1 + 1) wr w4 := (by have z0 := Below.size hb4; (try simp only [World.size_alloc, World.size_setCell, World.size_drew, size_drewN'] at z0 ⊢; skip); repeat' (first | (with_reducible exact Below.refl _ _) | (with_reducible assumption) | (with_reducible refine Below.alloc ?_ ?_ _) | (with_reducible refine Below.drew ?_) | (with_reducible refine below_drewN ?_ _) | (with_reducible refine Below.setCell ?_ ?_ _) | (with_reducible refine Below.trans ?_ (Below.mono (by with_reducible assumption) ?_)) | omega | (simp only [World.size_alloc, World.size_setCell, World.size_drew, size_drewN']; omega) | go_size))
            exact (((HB.out.trans hb9).setCell (Nat.le_refl _) _).setCell (Nat.le_refl _) _).setCell (Nat.le_refl _) _
          · rw [World.frozen?_setCell, World.frozen?_setCell, World.frozen?_setCell, hb4f0, ossf]; exact hfz i
        case measure => simp [intOf]; omega
      · have e5 : ((f k : Int) == (s : Int)) = false := beq_eq_false_iff_ne.2 (by omega)
        have e6 : (f k == s) = false := by simp [hu]
        have HE := Lib.hid (HXk.out.trans (if_neg hu))
        clear hu HXk
        generalize f k = u at *
        go_wp2
        go_roundw
        case rel => exact ⟨k + 1, by omega, by go_num, ⟨s3, A3, n3, c3', B3, m3, d3, by rw [ossc]; exact g0, by rw [ossc]; exact g1, by rw [ossc]; exact g2, by rw [HE.out]; exact HR3.out.kp ((Kp.refl 0 wr).alloc _)⟩, HB.out.trans (by (skip); repeat' (first | (with_reducible exact Below.refl _ _) | (with_reducible assumption) | (with_reducible refine Below.alloc ?_ ?_ _) | (with_reducible refine Below.drew ?_) | (with_reducible refine below_drewN ?_ _) | (with_reducible refine Below.setCell ?_ ?_ _) | (with_reducible refine Below.trans ?_ (Below.mono (by with_reducible assumption) ?_)) | omega | (simp only [World.size_alloc, World.size_setCell, World.size_drew, size_drewN']; omega) | go_size)), by simp; omega, HRB.out.below ((Below.refl wr.heap.size _).alloc (Nat.le_refl _) _) hz, fun i => by rw [ossf]; exact hfz i⟩
        case measure => simp [intOf]; omega
    · have hkn : k = nm := by omega
      subst hkn
      have t0 := (hb.cell (p := ⟨w.heap.size + 1, 0, none⟩) (by show w.heap.size + 1 < _; omega)).trans (by simp : _ = some (.bool false))
      have t1 := (hb.cell (p := ⟨w.heap.size + 1, 1, none⟩) (by show w.heap.size + 1 < _; omega)).trans (by simp : _ = some (.slice none 0 0))
      have t2 := (hb.cell (p := ⟨w.heap.size + 1, 2, none⟩) (by show w.heap.size + 1 < _; omega)).trans (by simp : _ = some (.slice none 0 0))
      have t3 := (hb.frozen (p := ⟨w.heap.size + 1, 0, none⟩) (by show w.heap.size + 1 < _; omega)).trans (by simp : _ = false)
      have t4 := (hb.frozen (p := ⟨w.heap.size + 1, 1, none⟩) (by show w.heap.size + 1 < _; omega)).trans (by simp : _ = false)
      have t5 := (hb.frozen (p := ⟨w.heap.size + 1, 2, none⟩) (by show w.heap.size + 1 < _; omega)).trans (by simp : _ = false)
      have hB1 : RatB wr (w.heap.size + 1) := by
        have h1 := RatB.new (w.alloc (.cells #[.int .i64 st, .int .i64 sr, .slice AM k cm, .slice AD nd cd] 25)) #[.bool false, .slice none 0 0, .slice none 0 0]
        rw [World.size_alloc] at h1
        exact h1.below hb (by omega)
      have HR3 := Lib.hid r3
      have HB1 := Lib.hid hB1
      have HBW := Lib.hid hbw
      clear r3 hb hrb hB1 hbw
      go_wp2
      refine bodyPost_ret (v := (rv s3 A3 n3 c3' B3 m3 d3)) (by simp [results, Tryz.results104, go_sem, t0, t1, t2]) rfl ?_
      exact ⟨⟨_, rfl, HR3.out.kp (Kp.store3 HB1.out (Nat.zero_le _) _ _ _)⟩, ((HBW.out.setCell (by show _ ≤ w.heap.size + 1; omega) _).setCell (by show _ ≤ w.heap.size + 1; omega) _).setCell (by show _ ≤ w.heap.size + 1; omega) _⟩
end Go.Proofs.YtglpknhcneggeaaGreatDoor
