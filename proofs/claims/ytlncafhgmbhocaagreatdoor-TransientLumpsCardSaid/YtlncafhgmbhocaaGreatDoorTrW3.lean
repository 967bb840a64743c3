/- Contracts of functions and lemmas, used by the proofs of the given statements. No condition beyond those that each lemma names. -/
import Derived.Test.YtlncafhgmbhocaaGreatDoorTrW2
namespace Go.Proofs.YtlncafhgmbhocaaGreatDoor
open Go.RowKit
set_option linter.unusedSimpArgs false
set_option linter.unusedVariables false
set_option maxRecDepth 20000
attribute [local irreducible] nv wp win plainB validR valR canR mvE chkM codeC exK maxF
/-! ## slices.Clone of fractions -/
/-- a row of the call's own; its words lie ahead of b0 or in blocks of words -/
def OwF (w : World) (b0 base : Nat) (A : Option Addr) (c n : Nat) (x : Nat → Rat) : Prop := OwR w b0 A c n (can x) ∧ ∀ q, (Value.slice A n c).ownBlock = some q → base ≤ q
section
variable {w w' : World} {b0 base b1 c n : Nat} {A : Option Addr} {x y : Nat → Rat}
end
set_option maxHeartbeats 4000000 in
theorem clone_any {w : World} {b0 n c : Nat} {A : Option Addr} {x : Nat → Rat} (h : RowA w b0 A n (can x)) (hn : n ≤ 1000000) (hb0 : b0 ≤ w.heap.size) :
    Calls Tryz.prog 137 #[.slice A n c] w fun e w' => (∃ A' c', e = .returned (.slice A' n c') ∧ OwF w' b0 w.heap.size A' c' n x) ∧ Below w.heap.size w w' := by
  have hs := fun w => Lib.run_eql_slice_nil (P := Tryz.prog) w 41 44 A n c 0 0 Tryz.underlying41
  cases A with
  | none =>
    obtain rfl : n = 0 := by
      rcases Nat.eq_zero_or_pos n with h0 | h0
      · exact h0
      · obtain ⟨b, off, _, _, _, _, _, _, _, e, _⟩ := h.at_ h0
        cases e
    go_enter Tryz.func137, Tryz.ntmps137
    go_wp2
    go_ret
    exact ⟨⟨_, _, rfl, OwR.nil_ _ _ _, fun q hq => nomatch hq⟩, Below.refl _ _⟩
  | some a =>
    obtain ⟨V, hV, hR⟩ := h
    have HV := Lib.hid hV
    have HR := Lib.hid hR
    clear hV hR
    go_enter Tryz.func137, Tryz.ntmps137
    go_wp2_with (at_builtin; refine wpList_app rfl (.tmp 5) (.tmp 6) 41 rfl w.heap.size 44 _ 3 56 Tryz.underlying41 ratInfo rfl (by decide) (some ⟨w.heap.size, 0, none⟩) 0 0 [] rfl (World.ownsRow_lit w #[] 0 (Nat.le_refl _) (by unfold maxLen; omega) (by simp)) w.heap.size (some a) n c (cellsV n V) rfl (Rds.alloc HR.out (Nat.le_refl _) _) (cellsV_one fun k hk => (HV.out k hk).isR) (by unfold maxLen; omega) (by omega) (by simp) ?_; intro A' c' w1 hown hbel hgrow hfr)
    simp only [Nat.zero_add, List.nil_append] at hown hfr
    have hb1 : Below w.heap.size w w1 := ((Below.refl _ _).alloc (Nat.le_refl _) _).trans hbel
    have HO := Lib.hid hown
    clear hown
    go_wp2
    go_ret
    exact ⟨⟨_, _, rfl, ⟨V, fun k hk => (HV.out k hk).kp (Kp.of_below hb1), own_base HO.out hb0⟩, fun q hq => (World.ownsRow.lt HO.out q hq).1⟩, hb1⟩
theorem OwR.head {w : World} {b0 c n : Nat} {A : Option Addr} {R : Nat → Rw} (h : OwR w b0 A c n R) (hn : 0 < n) : ∃ g, A = some ⟨g, 0, none⟩ := by
  obtain ⟨V, h1, h2⟩ := h
  obtain ⟨g, cap, hv, _, _⟩ := h2.form hn
  exact ⟨g, by injection hv⟩
/-! ## package transient: step -/
/-- a fraction in a variable of one's own -/
def Res13 (W0 : World) (B : Nat) (q : Rat) (p : Value) (wx : World) : Prop := ∃ o13 s4 A4 n4 c4 B4 m4 d4, p = .pointer (some ⟨o13, 0, none⟩) ∧ B ≤ o13 ∧ o13 < wx.heap.size ∧ wx.cell? ⟨o13, 0, none⟩ = some (.bool s4) ∧ wx.cell? ⟨o13, 1, none⟩ = some (.slice A4 n4 c4) ∧ wx.cell? ⟨o13, 2, none⟩ = some (.slice B4 m4 d4) ∧ RdS wx 0 (rv s4 A4 n4 c4 B4 m4 d4) (canR q) ∧ Below B W0 wx
theorem res13_new {W0 w4 : World} {B base : Nat} {q : Rat} {s4 : Bool} {A4 : Option Addr} {n4 c4 : Nat} {B4 : Option Addr} {m4 d4 : Nat} (own : OwQ w4 base (rv s4 A4 n4 c4 B4 m4 d4) q) (hb : Below B W0 w4) (hB : B ≤ w4.heap.size) :
    Res13 W0 B q (.pointer (some ⟨w4.heap.size, 0, none⟩)) (w4.alloc (.cells #[.bool s4, .slice A4 n4 c4, .slice B4 m4 d4] 44)) :=
  ⟨_, _, _, _, _, _, _, _, rfl, hB, by simp, by simp, by simp, by simp, (own.alloc _).rs, hb.alloc hB _⟩
theorem res13_set {W0 w4 : World} {B base g : Nat} {q : Rat} {s4 : Bool} {A4 : Option Addr} {n4 c4 : Nat} {B4 : Option Addr} {m4 d4 : Nat} {a' b' d' : Value} (own : OwQ w4 base (rv s4 A4 n4 c4 B4 m4 d4) q) (hb : Below B W0 w4) (hB : B ≤ g) (hg : g < w4.heap.size) (hR : RatB w4 g)
    (h0 : w4.cell? ⟨g, 0, none⟩ = some a') (h1 : w4.cell? ⟨g, 1, none⟩ = some b') (h2 : w4.cell? ⟨g, 2, none⟩ = some d') :
    Res13 W0 B q (.pointer (some ⟨g, 0, none⟩)) (((w4.setCell ⟨g, 0, none⟩ (.bool s4)).setCell ⟨g, 1, none⟩ (.slice A4 n4 c4)).setCell ⟨g, 2, none⟩ (.slice B4 m4 d4)) := by
  have h := set3 (a := .bool s4) (b := .slice A4 n4 c4) (d := .slice B4 m4 d4) h0 h1 h2
  exact ⟨_, _, _, _, _, _, _, _, rfl, hB, by simpa using hg, h.1, h.2.1, h.2.2, own.rs.kp (Kp.store3 hR (Nat.zero_le _) _ _ _), ((hb.setCell hB _).setCell hB _).setCell hB _⟩
/-- which moves are taken -/
def Chn.act (c : Chn) (ab : Bool) : Nat → Bool := fun k => !(ab && c.D (c.f k))
/-- what a step needs to know of the numbers -/
structure StS (c : Chn) (r : Rat) (v : Nat → Rat) (L : Nat) : Prop where
  L1 : 1 ≤ L
  L2 : L ≤ 1000000000
  raw : ∀ k, k < c.nm → (c.R k).2.1.length ≤ L ∧ (c.R k).2.2.length ≤ L
  nm : c.nm ≤ 1000000
  sv : ∀ s, s < c.nd → Sz L (v s)
  sr : Sz L r
  m : ∀ k, k < c.nm → Sz L (v (c.f k) * c.q k)
  sh : ∀ k, k < c.nm → Sz L (shr c.f c.q r v k)
  st : ∀ ab k s, k ≤ c.nm → Sz L (stp (c.act ab) c.f c.t v (shr c.f c.q r v) k s)
def RetF (b0 base n : Nat) (x : Nat → Rat) (e : Ending) (w' : World) : Prop := ∃ A c, e = .returned (.tuple #[.slice A n c, .nilIface]) ∧ OwF w' b0 base A c n x
set_option maxHeartbeats 8000000 in
theorem step_any {w : World} {AM AD AV : Option Addr} {cm cd L b0 ca : Nat} {c : Chn} {rv9 : Value} {r : Rat} {v : Nat → Rat} (ab : Bool) (h : ChI w w.heap.size AM cm AD cd c) (ok : c.Ok) (hr : RdS w w.heap.size rv9 (canR r)) (hr0 : r ≠ 0) (hv : RowA w b0 AV c.nd (can v)) (hb0 : b0 ≤ w.heap.size) (hs : StS c r v L) :
    Calls Tryz.prog 103 #[cv c.st c.sr AM c.nm cm AD c.nd cd, rv9, .slice AV c.nd ca, .bool ab] w fun e w' => RetF b0 w.heap.size c.nd (stepV (c.act ab) c.f c.t c.q r c.nm v) e w' ∧ Below w.heap.size w w' := by
  obtain ⟨X, hX⟩ : ∃ X : Nat → Nat → Rat, X = fun k => stp (c.act ab) c.f c.t v (shr c.f c.q r v) k := ⟨_, rfl⟩
  obtain ⟨S, hS⟩ : ∃ S : Nat → Rat, S = shr c.f c.q r v := ⟨_, rfl⟩
  have hX0 : X 0 = v := by rw [hX]; rfl
  have hXn : stepV (c.act ab) c.f c.t c.q r c.nm v = X c.nm := by rw [hX]; rfl
  have hXy : ∀ k, k < c.nm → c.act ab k = true → X (k + 1) = upd (upd (X k) (c.f k) (X k (c.f k) - S k)) (c.t k) (X k (c.t k) + S k) := fun k hk ha => by
    have := ok.mv k hk
    rw [hX, hS]
    exact stp_yes ha (by unfold Chn.f Chn.t; omega)
  have hXo : ∀ k, c.act ab k = false → X (k + 1) = X k := fun k ha => by rw [hX]; exact stp_no ha
  have hSz : ∀ k s, k ≤ c.nm → Sz L (X k s) := fun k s hk => by rw [hX]; exact hs.st ab k s hk
  have hSs : ∀ k, k < c.nm → Sz L (S k) := fun k hk => by rw [hS]; exact hs.sh k hk
  have hSv : ∀ k, S k = v (c.f k) * valR (c.R k) / r := fun k => by rw [hS]; rfl
  have hSm : ∀ k, k < c.nm → Sz L (v (c.f k) * valR (c.R k)) := hs.m
  have hft : ∀ k, k < c.nm → c.F k = (c.f k : Int) ∧ c.T k = (c.t k : Int) ∧ c.f k < c.nd ∧ c.t k < c.nd ∧ c.f k ≠ c.t k := fun k hk => by
    have := ok.mv k hk
    unfold Chn.f Chn.t
    omega
  have hact : ∀ k, c.act ab k = !(ab && c.D (c.f k)) := fun _ => rfl
  have hL1 := hs.L1
  have hL2 := hs.L2
  have hraw := hs.raw
  have hnm := hs.nm
  have hsv := hs.sv
  have hsr := hs.sr
  have hnd := ok.hi
  have hlo := ok.lo
  have hdn := fun k (hk : k < c.nd) => h.down hk
  have hM := h.mv.1
  rw [hXn]
  obtain ⟨f, hf⟩ : ∃ f, f = c.f := ⟨_, rfl⟩
  obtain ⟨t, ht⟩ : ∃ t, t = c.t := ⟨_, rfl⟩
  obtain ⟨act, hac⟩ : ∃ act, act = c.act ab := ⟨_, rfl⟩
  rw [← hf, ← ht] at hft
  rw [← hf, ← ht, ← hac] at hXy
  rw [← hac] at hXo hact
  rw [← hf] at hSv hSm hact
  obtain ⟨s0, A0, n0, c0, B0, m0, d0, rfl⟩ := hr.form
  clear h ok hs hX hS hXn hf ht hac
  obtain ⟨st, sr, nm, F, T, R, nd, D⟩ := c
  simp only at *
  have K0 := Lib.hid (fun W (hb : Below w.heap.size w W) => clone_any (c := ca) (hv.below hb) (by omega) (Nat.le_trans hb0 hb.size))
  have HM := Lib.hid hM
  have HD := Lib.hid hdn
  have HV := Lib.hid hv
  have HRt := Lib.hid hr
  have HX0 := Lib.hid hX0
  have HXY := Lib.hid hXy
  have HXO := Lib.hid hXo
  have HSZ := Lib.hid hSz
  have HSS := Lib.hid hSs
  have HSV := Lib.hid hSv
  have HSM := Lib.hid hSm
  have HFT := Lib.hid hft
  have HAC := Lib.hid hact
  have HR := Lib.hid hraw
  have HSVV := Lib.hid hsv
  have HSR := Lib.hid hsr
  have HR0 := Lib.hid hr0
  clear hM hdn hv hr hX0 hXy hXo hSz hSs hSv hSm hft hact hraw hsv hsr hr0
  go_enter Tryz.func103, Tryz.ntmps103
  (go_wp2_with fail; (with_reducible refine (K0.out _ (by (skip); repeat' (first | (with_reducible exact Below.refl _ _) | (with_reducible assumption) | (with_reducible refine Below.alloc ?_ ?_ _) | (with_reducible refine Below.drew ?_) | (with_reducible refine below_drewN ?_ _) | (with_reducible refine Below.setCell ?_ ?_ _) | (with_reducible refine Below.trans ?_ (Below.mono (by with_reducible assumption) ?_)) | omega | (simp only [ZA, ZS, ZD, ZN]; omega) | go_size))).mono ?_); rintro e w1 ⟨⟨A9, c9, rfl, own9⟩, hb1⟩; have hb1z := Below.size hb1; (try simp only [ZA, ZS, ZD, ZN] at hb1z); have hb1c0 := fun o => below_at hb1 (w.heap.size) o (by first | omega | (simp only [ZA, ZS, ZD, ZN]; omega)); have hb1f0 := fun o => below_fr hb1 (w.heap.size) o (by first | omega | (simp only [ZA, ZS, ZD, ZN]; omega)); have hb1c1 := fun o => below_at hb1 (w.heap.size + 1) o (by first | omega | (simp only [ZA, ZS, ZD, ZN]; omega)); have hb1f1 := fun o => below_fr hb1 (w.heap.size + 1) o (by first | omega | (simp only [ZA, ZS, ZD, ZN]; omega)))
  obtain ⟨g, rfl⟩ := own9.1.head (by omega)
  have hg1 : w.heap.size + 2 ≤ g := by have := own9.2 g rfl; simpa using this
  have hgz := own9.1.lt
  have hbl := own9.1.block
  have own1 := own9.1
  clear own9
  have hw1 : w.heap.size + 1 < w1.heap.size := by have := hb1.size; simp at this; omega
  have hbw1 : Below w.heap.size w w1 := (by have z0 := Below.size hb1; (try simp only [ZA, ZS, ZD, ZN] at z0 ⊢; skip); repeat' (first | (with_reducible exact Below.refl _ _) | (with_reducible assumption) | (with_reducible refine Below.alloc ?_ ?_ _) | (with_reducible refine Below.drew ?_) | (with_reducible refine below_drewN ?_ _) | (with_reducible refine Below.setCell ?_ ?_ _) | (with_reducible refine Below.trans ?_ (Below.mono (by with_reducible assumption) ?_)) | omega | (simp only [ZA, ZS, ZD, ZN]; omega) | go_size))
  have y0 : w1.cell? ⟨w.heap.size, 2, none⟩ = some (.slice AM nm cm) := by rw [hb1c0]; simp
  have y1 : w1.cell? ⟨w.heap.size, 3, none⟩ = some (.slice AD nd cd) := by rw [hb1c0]; simp
  have y2 : w1.cell? ⟨w.heap.size + 1, 0, none⟩ = some (.bool s0) := by rw [hb1c1]; simp
  have y3 : w1.cell? ⟨w.heap.size + 1, 1, none⟩ = some (.slice A0 n0 c0) := by rw [hb1c1]; simp
  have y4 : w1.cell? ⟨w.heap.size + 1, 2, none⟩ = some (.slice B0 m0 d0) := by rw [hb1c1]; simp
  clear hb1c0 hb1c1 hb1f0 hb1f1
  go_wp2
  go_loopw [20] (fun i wr => ∃ k : Nat, k ≤ nm ∧ i = .int .i64 (k : Int) ∧ OwR wr b0 (some ⟨g, 0, none⟩) c9 nd (can (X k)) ∧ w1.grownBy wr (some g)) (fun i _ => nm - (intOf i).toNat)
  case atStart => exact ⟨0, Nat.zero_le _, rfl, by rw [HX0.out]; exact own1, World.grownBy.refl w1 _⟩
  case round =>
    obtain ⟨k, hk, rfl, own, hgr⟩ := hrel
    have hz := hgr.size
    have hfz := own.frozen
    have hbw : Below w.heap.size w wr := hbw1.trans (below_of_row hgr (fun q hq => by have h2 : g = q := (by injection hq); omega) (by omega))
    by_cases hlt : k < nm
    · obtain ⟨b, off, s, A1, n1, c1, B1, m1, d1, rfl, hbb, f0, f1, f2, f3, f4, r0⟩ := HM.out.at_ hlt
      obtain ⟨hFk, hTk, hFl, hTl, hFT⟩ := HFT.out k hlt
      rw [hFk] at f0
      rw [hTk] at f1
      have hSv := HSV.out k
      have hSm := HSM.out k hlt
      have hac := HAC.out k
      obtain ⟨u, hu⟩ : ∃ u, u = f k := ⟨_, rfl⟩
      obtain ⟨y, hy⟩ : ∃ y, y = t k := ⟨_, rfl⟩
      have hXY := HXY.out k hlt
      rw [← hu] at f0 hFl hFT hSv hSm hac hXY
      rw [← hy] at f1 hTl hFT hXY
      obtain ⟨z1, z2⟩ := HR.out k hlt
      have r1 := (r0.kp (Kp.of_below hbw)).rdq z1 z2
      have tc : ∀ {b o : Nat} {v : Value}, w.cell? ⟨b, o, none⟩ = some v → wr.cell? ⟨b, o, none⟩ = some v := fun h => (hbw.cell (lt_of_cell h)).trans h
      have x0 := tc f0
      have x1 := tc f1
      have x2 := tc f2
      have x3 := tc f3
      have x4 := tc f4
      have y0' : wr.cell? ⟨w.heap.size, 2, none⟩ = some (.slice (some ⟨b, off, none⟩) nm cm) := (grown_at hgr 2 (by omega) (by omega)).trans y0
      have y1' : wr.cell? ⟨w.heap.size, 3, none⟩ = some (.slice AD nd cd) := (grown_at hgr 3 (by omega) (by omega)).trans y1
      have y2' := (grown_at hgr 0 (by omega) (by omega)).trans y2
      have y3' := (grown_at hgr 1 (by omega) (by omega)).trans y3
      have y4' := (grown_at hgr 2 (by omega) (by omega)).trans y4
      obtain ⟨bd, od, rfl, hbd, -, p0⟩ := HD.out u hFl
      have x5 := tc p0
      have hk0 : (0 : Int) ≤ (k : Int) := by omega
      have hk1 : (k : Int) < (nm : Int) := by omega
      have hu1 : (u : Int) < (nd : Int) := by omega
      have hy1 : (y : Int) < (nd : Int) := by omega
      have hwl : w.heap.size + 1 < wr.heap.size := by omega
      have HGR := Lib.hid hgr
      have HB := Lib.hid hbw
      clear hFk hTk y0 y1 y2 y3 y4 f0 f1 f2 f3 f4
      (have olc := fun o i => below_at ((Below.refl wr.heap.size wr).alloc (Nat.le_refl _) o) (w.heap.size) i (by omega)); (have olf := fun o i => below_fr ((Below.refl wr.heap.size wr).alloc (Nat.le_refl _) o) (w.heap.size) i (by omega))
      (have omc := fun o i => below_at ((Below.refl wr.heap.size wr).alloc (Nat.le_refl _) o) (w.heap.size + 1) i (by omega)); (have omf := fun o i => below_fr ((Below.refl wr.heap.size wr).alloc (Nat.le_refl _) o) (w.heap.size + 1) i (by omega))
      (have oddc := fun o i => below_at ((Below.refl wr.heap.size wr).alloc (Nat.le_refl _) o) (bd) i (by omega)); (have oddf := fun o i => below_fr ((Below.refl wr.heap.size wr).alloc (Nat.le_refl _) o) (bd) i (by omega))
      cases ha : act k
      · have hX1 := HXO.out k ha
        rw [ha] at hac
        have hab : ab = true ∧ D u = true := by revert hac; cases ab <;> cases D u <;> simp
        obtain ⟨rfl, hd⟩ := hab
        rw [hd] at x5
        have HO := Lib.hid own
        have HX1 := Lib.hid hX1
        clear own hgr hbw hac ha hX1 hXY hSv hSm hu hy
        go_wp2
        go_roundw
        case rel => exact ⟨k + 1, by omega, by go_num, by rw [HX1.out]; exact HO.out.alloc _, grown_trans HGR.out (grown_of_below ((Below.refl _ _).alloc (Nat.le_refl _) _) _)⟩
        case measure => simp [intOf]; omega
      · have hX1 := hXY ha
        rw [ha] at hac
        obtain ⟨bv, ov, s2, A2, n2, c2, B2, m2, d2, rfl, hbv, e0, e1, e2, r2⟩ := HV.out.at_ hFl
        have x6 := tc e0
        have x7 := tc e1
        have x8 := tc e2
        have q2 := (r2.kp (Kp.of_below hbw)).canQ (HSVV.out u hFl)
        have qr := (HRt.out.kp (Kp.of_below hbw)).canQ HSR.out
        obtain ⟨s5, A5, n5, c5, B5, m5, d5, g0, g1, g2, r5⟩ := own.at_ hFl
        obtain ⟨s6, A6, n6, c6, B6, m6, d6, g3, g4, g5, r6⟩ := own.at_ hTl
        have q5 := r5.canQ (HSZ.out k u hk)
        have q6 := r6.canQ (HSZ.out k y hk)
        have hS9 := HSS.out k hlt
        have K1 := Lib.hid (fun W (hb : Below wr.heap.size wr W) => mulQ (q2.below hb) (r1.below hb) hL1 (by omega))
        have K2 := Lib.hid (fun W base v1 (hb : Below wr.heap.size wr W) (hv : OwQ W base v1 (v u * valR (R k))) => (by
          have := divQ (hv.rq hSm) (qr.below hb) hL1 (by omega) HR0.out
          rw [← hSv] at this
          exact this : Calls Tryz.prog 138 #[v1, rv s0 A0 n0 c0 B0 m0 d0] W fun e w' => RetDv W.heap.size (S k) .nilIface e w' ∧ Below W.heap.size W w'))
        (have ogc := fun o i => below_at ((Below.refl wr.heap.size wr).alloc (Nat.le_refl _) o) (g) i (by omega)); (have ogf := fun o i => below_fr ((Below.refl wr.heap.size wr).alloc (Nat.le_refl _) o) (g) i (by omega))
        (have ovvc := fun o i => below_at ((Below.refl wr.heap.size wr).alloc (Nat.le_refl _) o) (bv) i (by omega)); (have ovvf := fun o i => below_fr ((Below.refl wr.heap.size wr).alloc (Nat.le_refl _) o) (bv) i (by omega))
        have hbv9 : bv < wr.heap.size := by have := hbw.size; omega
        have hbd9 : bd < wr.heap.size := by have := hbw.size; omega
        have hg9 : g < wr.heap.size := by omega
        have ne8 : ¬ (wr.heap.size = w.heap.size) := by omega
        have ne9 : ¬ (w.heap.size = wr.heap.size) := by omega
        have HO := Lib.hid own
        have HX1 := Lib.hid hX1
        have hdd : ab = true → D u = false := by intro e; subst e; revert hac; cases D u <;> simp
        clear own hgr hbw hac ha hX1 hXY hSv hSm hu hy r5 r6 r2 q2 qr r1 r0 tc e0 e1 e2 p0
        cases ab
        · clear hdd
          go_upto_region 6 with fail
          go_cut [13, 14] from 33 to 46 (fun p e wx => e = .nilIface ∧ Res13 (wr.alloc (.cells #[.int .i64 (u : Int), .int .i64 (y : Int), .bool s, .slice A1 n1 c1, .slice B1 m1 d1] 46)) (wr.heap.size + 1) (S k) p wx)
          case first =>
            go_region_held3 (fun W => W.cell? ⟨wr.heap.size, 0, none⟩ = some (.int .i64 (u : Int)) ∧ W.cell? ⟨wr.heap.size, 2, none⟩ = some (.bool s) ∧ W.cell? ⟨wr.heap.size, 3, none⟩ = some (.slice A1 n1 c1) ∧ W.cell? ⟨wr.heap.size, 4, none⟩ = some (.slice B1 m1 d1) ∧ W.cell? ⟨bv, ov + u * 3, none⟩ = some (.bool s2) ∧ W.cell? ⟨bv, ov + u * 3 + 1, none⟩ = some (.slice A2 n2 c2) ∧ W.cell? ⟨bv, ov + u * 3 + 2, none⟩ = some (.slice B2 m2 d2) ∧ W.cell? ⟨w.heap.size + 1, 0, none⟩ = some (.bool s0) ∧ W.cell? ⟨w.heap.size + 1, 1, none⟩ = some (.slice A0 n0 c0) ∧ W.cell? ⟨w.heap.size + 1, 2, none⟩ = some (.slice B0 m0 d0)) (go_keep)
              (first | ((go_at_call 139; (with_reducible refine (K1.out _ (by (skip); repeat' (first | (with_reducible exact Below.refl _ _) | (with_reducible assumption) | (with_reducible refine Below.alloc ?_ ?_ _) | (with_reducible refine Below.drew ?_) | (with_reducible refine below_drewN ?_ _) | (with_reducible refine Below.setCell ?_ ?_ _) | (with_reducible refine Below.trans ?_ (Below.mono (by with_reducible assumption) ?_)) | omega | (simp only [ZA, ZS, ZD, ZN]; omega) | go_size))).mono ?_); rintro e w3 ⟨⟨v3, rfl, own3⟩, hb3⟩; have hb3z := Below.size hb3; (try simp only [ZA, ZS, ZD] at hb3z); have hb3c0 := fun o => below_at hb3 (g) o (by first | omega | (simp only [ZA, ZS, ZD]; omega)); have hb3f0 := fun o => below_fr hb3 (g) o (by first | omega | (simp only [ZA, ZS, ZD]; omega)); have hb3l0 : g < (w3).heap.size := (by omega); have hb3c1 := fun o => below_at hb3 (wr.heap.size) o (by first | omega | (simp only [ZA, ZS, ZD]; omega)); have hb3f1 := fun o => below_fr hb3 (wr.heap.size) o (by first | omega | (simp only [ZA, ZS, ZD]; omega)); have hb3l1 : wr.heap.size < (w3).heap.size := (by omega); have hb3c2 := fun o => below_at hb3 (w.heap.size + 1) o (by first | omega | (simp only [ZA, ZS, ZD]; omega)); have hb3f2 := fun o => below_fr hb3 (w.heap.size + 1) o (by first | omega | (simp only [ZA, ZS, ZD]; omega)); have hb3l2 : w.heap.size + 1 < (w3).heap.size := (by omega); have hb3c3 := fun o => below_at hb3 (bv) o (by first | omega | (simp only [ZA, ZS, ZD]; omega)); have hb3f3 := fun o => below_fr hb3 (bv) o (by first | omega | (simp only [ZA, ZS, ZD]; omega)); have hb3l3 : bv < (w3).heap.size := (by omega); have hb3c4 := fun o => below_at hb3 (wr.heap.size + 1) o (by first | omega | (simp only [ZA, ZS, ZD]; omega)); have hb3f4 := fun o => below_fr hb3 (wr.heap.size + 1) o (by first | omega | (simp only [ZA, ZS, ZD]; omega)); have hb3l4 : wr.heap.size + 1 < (w3).heap.size := (by omega)); obtain ⟨s3, A3, n3, c3', B3, m3, d3, rfl⟩ := own3.form; have ne1 : ¬ (wr.heap.size + 1 = wr.heap.size) := (by omega); have ne2 : ¬ (wr.heap.size + 1 = bv) := (by omega); have ne3 : ¬ (wr.heap.size + 1 = w.heap.size + 1) := (by omega); have ne4 : ¬ (wr.heap.size + 1 = g) := (by omega); have ne5 : ¬ (wr.heap.size = wr.heap.size + 1) := (by omega); have ne6 : ¬ (g = wr.heap.size + 1) := (by omega)) | ((go_at_call 139; (with_reducible refine (K1.out _ (by (skip); repeat' (first | (with_reducible exact Below.refl _ _) | (with_reducible assumption) | (with_reducible refine Below.alloc ?_ ?_ _) | (with_reducible refine Below.drew ?_) | (with_reducible refine below_drewN ?_ _) | (with_reducible refine Below.setCell ?_ ?_ _) | (with_reducible refine Below.trans ?_ (Below.mono (by with_reducible assumption) ?_)) | omega | (simp only [ZA, ZS, ZD, ZN]; omega) | go_size))).mono ?_); rintro e w3 ⟨⟨v3, rfl, own3⟩, hb3⟩; have hb3z := Below.size hb3; (try simp only [ZA, ZS, ZD] at hb3z); have hb3c0 := fun o => below_at hb3 (g) o (by first | omega | (simp only [ZA, ZS, ZD]; omega)); have hb3f0 := fun o => below_fr hb3 (g) o (by first | omega | (simp only [ZA, ZS, ZD]; omega)); have hb3l0 : g < (w3).heap.size := (by omega); have hb3c1 := fun o => below_at hb3 (wr.heap.size) o (by first | omega | (simp only [ZA, ZS, ZD]; omega)); have hb3f1 := fun o => below_fr hb3 (wr.heap.size) o (by first | omega | (simp only [ZA, ZS, ZD]; omega)); have hb3l1 : wr.heap.size < (w3).heap.size := (by omega); have hb3c2 := fun o => below_at hb3 (w.heap.size + 1) o (by first | omega | (simp only [ZA, ZS, ZD]; omega)); have hb3f2 := fun o => below_fr hb3 (w.heap.size + 1) o (by first | omega | (simp only [ZA, ZS, ZD]; omega)); have hb3l2 : w.heap.size + 1 < (w3).heap.size := (by omega); have hb3c3 := fun o => below_at hb3 (bv) o (by first | omega | (simp only [ZA, ZS, ZD]; omega)); have hb3f3 := fun o => below_fr hb3 (bv) o (by first | omega | (simp only [ZA, ZS, ZD]; omega)); have hb3l3 : bv < (w3).heap.size := (by omega)); obtain ⟨s3, A3, n3, c3', B3, m3, d3, rfl⟩ := own3.form) | ((go_at_call 138; (with_reducible refine (K2.out _ _ _ (by have z0 := Below.size hb3; (try simp only [ZA, ZS, ZD, ZN] at z0 ⊢; skip); repeat' (first | (with_reducible exact Below.refl _ _) | (with_reducible assumption) | (with_reducible refine Below.alloc ?_ ?_ _) | (with_reducible refine Below.drew ?_) | (with_reducible refine below_drewN ?_ _) | (with_reducible refine Below.setCell ?_ ?_ _) | (with_reducible refine Below.trans ?_ (Below.mono (by with_reducible assumption) ?_)) | omega | (simp only [ZA, ZS, ZD, ZN]; omega) | go_size)) own3).mono ?_); rintro e w4 ⟨⟨v4, rfl, own4⟩, hb4⟩; have hb4z := Below.size hb4; (try simp only [ZA, ZS, ZD] at hb4z); have hb4c0 := fun o => below_at hb4 (g) o (by first | omega | (simp only [ZA, ZS, ZD]; omega)); have hb4f0 := fun o => below_fr hb4 (g) o (by first | omega | (simp only [ZA, ZS, ZD]; omega)); have hb4l0 : g < (w4).heap.size := (by omega); have hb4c1 := fun o => below_at hb4 (wr.heap.size) o (by first | omega | (simp only [ZA, ZS, ZD]; omega)); have hb4f1 := fun o => below_fr hb4 (wr.heap.size) o (by first | omega | (simp only [ZA, ZS, ZD]; omega)); have hb4l1 : wr.heap.size < (w4).heap.size := (by omega); have hb4c2 := fun o => below_at hb4 (w.heap.size + 1) o (by first | omega | (simp only [ZA, ZS, ZD]; omega)); have hb4f2 := fun o => below_fr hb4 (w.heap.size + 1) o (by first | omega | (simp only [ZA, ZS, ZD]; omega)); have hb4l2 : w.heap.size + 1 < (w4).heap.size := (by omega); have hb4c3 := fun o => below_at hb4 (bv) o (by first | omega | (simp only [ZA, ZS, ZD]; omega)); have hb4f3 := fun o => below_fr hb4 (bv) o (by first | omega | (simp only [ZA, ZS, ZD]; omega)); have hb4l3 : bv < (w4).heap.size := (by omega); have hb4c4 := fun o => below_at hb4 (wr.heap.size + 1) o (by first | omega | (simp only [ZA, ZS, ZD]; omega)); have hb4f4 := fun o => below_fr hb4 (wr.heap.size + 1) o (by first | omega | (simp only [ZA, ZS, ZD]; omega)); have hb4l4 : wr.heap.size + 1 < (w4).heap.size := (by omega)); obtain ⟨s4, A4, n4, c4, B4, m4, d4, rfl⟩ := own4.form) | ((go_at_call 138; (with_reducible refine (K2.out _ _ _ (by have z0 := Below.size hb3; (try simp only [ZA, ZS, ZD, ZN] at z0 ⊢; skip); repeat' (first | (with_reducible exact Below.refl _ _) | (with_reducible assumption) | (with_reducible refine Below.alloc ?_ ?_ _) | (with_reducible refine Below.drew ?_) | (with_reducible refine below_drewN ?_ _) | (with_reducible refine Below.setCell ?_ ?_ _) | (with_reducible refine Below.trans ?_ (Below.mono (by with_reducible assumption) ?_)) | omega | (simp only [ZA, ZS, ZD, ZN]; omega) | go_size)) own3).mono ?_); rintro e w4 ⟨⟨v4, rfl, own4⟩, hb4⟩; have hb4z := Below.size hb4; (try simp only [ZA, ZS, ZD] at hb4z); have hb4c0 := fun o => below_at hb4 (g) o (by first | omega | (simp only [ZA, ZS, ZD]; omega)); have hb4f0 := fun o => below_fr hb4 (g) o (by first | omega | (simp only [ZA, ZS, ZD]; omega)); have hb4l0 : g < (w4).heap.size := (by omega); have hb4c1 := fun o => below_at hb4 (wr.heap.size) o (by first | omega | (simp only [ZA, ZS, ZD]; omega)); have hb4f1 := fun o => below_fr hb4 (wr.heap.size) o (by first | omega | (simp only [ZA, ZS, ZD]; omega)); have hb4l1 : wr.heap.size < (w4).heap.size := (by omega); have hb4c2 := fun o => below_at hb4 (w.heap.size + 1) o (by first | omega | (simp only [ZA, ZS, ZD]; omega)); have hb4f2 := fun o => below_fr hb4 (w.heap.size + 1) o (by first | omega | (simp only [ZA, ZS, ZD]; omega)); have hb4l2 : w.heap.size + 1 < (w4).heap.size := (by omega); have hb4c3 := fun o => below_at hb4 (bv) o (by first | omega | (simp only [ZA, ZS, ZD]; omega)); have hb4f3 := fun o => below_fr hb4 (bv) o (by first | omega | (simp only [ZA, ZS, ZD]; omega)); have hb4l3 : bv < (w4).heap.size := (by omega)); obtain ⟨s4, A4, n4, c4, B4, m4, d4, rfl⟩ := own4.form) | ((go_at_call 138; (with_reducible refine (K2.out _ _ _ (by have z0 := Below.size hb3; (try simp only [ZA, ZS, ZD, ZN] at z0 ⊢; skip); repeat' (first | (with_reducible exact Below.refl _ _) | (with_reducible assumption) | (with_reducible refine Below.alloc ?_ ?_ _) | (with_reducible refine Below.drew ?_) | (with_reducible refine below_drewN ?_ _) | (with_reducible refine Below.setCell ?_ ?_ _) | (with_reducible refine Below.trans ?_ (Below.mono (by with_reducible assumption) ?_)) | omega | (simp only [ZA, ZS, ZD, ZN]; omega) | go_size)) (own3.alloc _)).mono ?_); rintro e w4 ⟨⟨v4, rfl, own4⟩, hb4⟩; have hb4z := Below.size hb4; (try simp only [ZA, ZS, ZD] at hb4z); have hb4c0 := fun o => below_at hb4 (g) o (by first | omega | (simp only [ZA, ZS, ZD]; omega)); have hb4f0 := fun o => below_fr hb4 (g) o (by first | omega | (simp only [ZA, ZS, ZD]; omega)); have hb4l0 : g < (w4).heap.size := (by omega); have hb4c1 := fun o => below_at hb4 (wr.heap.size) o (by first | omega | (simp only [ZA, ZS, ZD]; omega)); have hb4f1 := fun o => below_fr hb4 (wr.heap.size) o (by first | omega | (simp only [ZA, ZS, ZD]; omega)); have hb4l1 : wr.heap.size < (w4).heap.size := (by omega); have hb4c2 := fun o => below_at hb4 (w.heap.size + 1) o (by first | omega | (simp only [ZA, ZS, ZD]; omega)); have hb4f2 := fun o => below_fr hb4 (w.heap.size + 1) o (by first | omega | (simp only [ZA, ZS, ZD]; omega)); have hb4l2 : w.heap.size + 1 < (w4).heap.size := (by omega); have hb4c3 := fun o => below_at hb4 (bv) o (by first | omega | (simp only [ZA, ZS, ZD]; omega)); have hb4f3 := fun o => below_fr hb4 (bv) o (by first | omega | (simp only [ZA, ZS, ZD]; omega)); have hb4l3 : bv < (w4).heap.size := (by omega); have hb4c4 := fun o => below_at hb4 (w3.heap.size) o (by first | omega | (simp only [ZA, ZS, ZD]; omega)); have hb4f4 := fun o => below_fr hb4 (w3.heap.size) o (by first | omega | (simp only [ZA, ZS, ZD]; omega)); have hb4l4 : w3.heap.size < (w4).heap.size := (by omega)); obtain ⟨s4, A4, n4, c4, B4, m4, d4, rfl⟩ := own4.form; have ne1 : ¬ (w3.heap.size = wr.heap.size) := (by omega); have ne2 : ¬ (w3.heap.size = bv) := (by omega); have ne3 : ¬ (w3.heap.size = w.heap.size + 1) := (by omega); have ne4 : ¬ (w3.heap.size = g) := (by omega); have ne5 : ¬ (wr.heap.size = w3.heap.size) := (by omega); have ne6 : ¬ (g = w3.heap.size) := (by omega)) | fail)
            · go_wp2
              go_meet
              exact ⟨rfl, res13_new own4 (by have z0 := Below.size hb3; have z1 := Below.size hb4; (try simp only [ZA, ZS, ZD, ZN] at z0 z1 ⊢; skip); repeat' (first | (with_reducible exact Below.refl _ _) | (with_reducible assumption) | (with_reducible refine Below.alloc ?_ ?_ _) | (with_reducible refine Below.drew ?_) | (with_reducible refine below_drewN ?_ _) | (with_reducible refine Below.setCell ?_ ?_ _) | (with_reducible refine Below.trans ?_ (Below.mono (by with_reducible assumption) ?_)) | omega | (simp only [ZA, ZS, ZD, ZN]; omega) | go_size)) (by omega)⟩
            · go_wp2
              go_meet
              exact ⟨rfl, res13_set (a' := .bool false) (b' := .slice none 0 0) (d' := .slice none 0 0) own4 (by have z0 := Below.size hb3; have z1 := Below.size hb4; (try simp only [ZA, ZS, ZD, ZN] at z0 z1 ⊢; skip); repeat' (first | (with_reducible exact Below.refl _ _) | (with_reducible assumption) | (with_reducible refine Below.alloc ?_ ?_ _) | (with_reducible refine Below.drew ?_) | (with_reducible refine below_drewN ?_ _) | (with_reducible refine Below.setCell ?_ ?_ _) | (with_reducible refine Below.trans ?_ (Below.mono (by with_reducible assumption) ?_)) | omega | (simp only [ZA, ZS, ZD, ZN]; omega) | go_size)) (by omega) (by omega) ((RatB.new w3 _).below hb4 (by simp)) (by rw [hb4c4]; simp) (by rw [hb4c4]; simp) (by rw [hb4c4]; simp)⟩
            · go_wp2
              go_meet
              have hB3 : RatB w3 (wr.heap.size + 1) := by
                have h := RatB.new (wr.alloc (.cells #[.int .i64 (u : Int), .int .i64 (y : Int), .bool s, .slice A1 n1 c1, .slice B1 m1 d1] 46)) #[.bool false, .slice none 0 0, .slice none 0 0]
                rw [World.size_alloc] at h
                exact RatB.below (w := ((wr.alloc (.cells #[.int .i64 (u : Int), .int .i64 (y : Int), .bool s, .slice A1 n1 c1, .slice B1 m1 d1] 46)).alloc (.cells #[.bool false, .slice none 0 0, .slice none 0 0] 44)).drew) h hb3 (by simp)
              exact ⟨rfl, res13_set (a' := .bool false) (b' := .slice none 0 0) (d' := .slice none 0 0) own4 (by have z0 := Below.size hb3; have z1 := Below.size hb4; (try simp only [ZA, ZS, ZD, ZN] at z0 z1 ⊢; skip); repeat' (first | (with_reducible exact Below.refl _ _) | (with_reducible assumption) | (with_reducible refine Below.alloc ?_ ?_ _) | (with_reducible refine Below.drew ?_) | (with_reducible refine below_drewN ?_ _) | (with_reducible refine Below.setCell ?_ ?_ _) | (with_reducible refine Below.trans ?_ (Below.mono (by with_reducible assumption) ?_)) | omega | (simp only [ZA, ZS, ZD, ZN]; omega) | go_size)) (by omega) (by omega) (hB3.below hb4 (by omega)) (by rw [hb4c4, hb3c4]; simp) (by rw [hb4c4, hb3c4]; simp) (by rw [hb4c4, hb3c4]; simp)⟩
          case rest =>
            obtain ⟨rfl, o13, s4, A4, n4, c4, B4, m4, d4, rfl, ho1, ho2, k0, k1, k2, kS, hbc⟩ := hcut
            have hbz := hbc.size
            simp only [World.size_alloc] at hbz
            have hbr : Below wr.heap.size wr wc := ((Below.refl _ _).alloc (Nat.le_refl _) _).trans (hbc.mono (by omega))
            have K3 := Lib.hid (fun W (hb : Below wc.heap.size wc W) => subQ (q5.below (hbr.trans (hb.mono (by omega)))) ((kS.kp (Kp.of_below hb)).canQ hS9) hL1 (by omega))
            have K4 := Lib.hid (fun W (hb : Below wc.heap.size wc W) => addQ (q6.below (hbr.trans (hb.mono (by omega)))) ((kS.kp (Kp.of_below hb)).canQ hS9) hL1 (by omega))
            have e0 := (hbc.cell (p := ⟨wr.heap.size, 0, none⟩) (by show wr.heap.size < _; omega)).trans (by simp : (wr.alloc (.cells #[.int .i64 (u : Int), .int .i64 (y : Int), .bool s, .slice A1 n1 c1, .slice B1 m1 d1] 46)).cell? ⟨wr.heap.size, 0, none⟩ = some (.int .i64 (u : Int)))
            have e1 := (hbc.cell (p := ⟨wr.heap.size, 1, none⟩) (by show wr.heap.size < _; omega)).trans (by simp : (wr.alloc (.cells #[.int .i64 (u : Int), .int .i64 (y : Int), .bool s, .slice A1 n1 c1, .slice B1 m1 d1] 46)).cell? ⟨wr.heap.size, 1, none⟩ = some (.int .i64 (y : Int)))
            have e2 := (hbr.cell (p := ⟨g, u * 3, none⟩) hg9).trans g0
            have e3 := (hbr.cell (p := ⟨g, u * 3 + 1, none⟩) hg9).trans g1
            have e4 := (hbr.cell (p := ⟨g, u * 3 + 2, none⟩) hg9).trans g2
            have e5 := (hbr.cell (p := ⟨g, y * 3, none⟩) hg9).trans g3
            have e6 := (hbr.cell (p := ⟨g, y * 3 + 1, none⟩) hg9).trans g4
            have e7 := (hbr.cell (p := ⟨g, y * 3 + 2, none⟩) hg9).trans g5
            have e8 : ∀ i, wc.frozen? ⟨g, i, none⟩ = false := fun i => (hbr.frozen (p := ⟨g, i, none⟩) hg9).trans (hfz i)
            have i00 : ¬ (u * 3 = y * 3) := by omega
            have i01 : ¬ (u * 3 = y * 3 + 1) := by omega
            have i02 : ¬ (u * 3 = y * 3 + 2) := by omega
            have i10 : ¬ (u * 3 + 1 = y * 3) := by omega
            have i11 : ¬ (u * 3 + 1 = y * 3 + 1) := by omega
            have i12 : ¬ (u * 3 + 1 = y * 3 + 2) := by omega
            have i20 : ¬ (u * 3 + 2 = y * 3) := by omega
            have i21 : ¬ (u * 3 + 2 = y * 3 + 1) := by omega
            have i22 : ¬ (u * 3 + 2 = y * 3 + 2) := by omega
            have iuy : ¬ (u = y) := hFT
            have ne1 : ¬ (g = o13) := by omega
            have ne2 : ¬ (o13 = g) := by omega
            have ne3 : ¬ (g = wr.heap.size) := by omega
            have ne4 : ¬ (wr.heap.size = g) := by omega
            have HOC := Lib.hid (HO.out.below hbr)
            have HBC := Lib.hid hbr
            clear x0 x1 x2 x3 x4 x5 x6 x7 x8 y0' y1' y2' y3' y4' g0 g1 g2 g3 g4 g5 hfz olc olf omc omf oddc oddf ogc ogf ovvc ovvf q5 q6 kS hbc hbr
            go_wp2
            rw [ld_later 44 (.tmp 58), ld_later 44 (.tmp 65)]
            go_region_held3 (fun W => W.cell? ⟨wr.heap.size, 0, none⟩ = some (.int .i64 (u : Int)) ∧ W.cell? ⟨wr.heap.size, 1, none⟩ = some (.int .i64 (y : Int)) ∧ W.cell? ⟨o13, 0, none⟩ = some (.bool s4) ∧ W.cell? ⟨o13, 1, none⟩ = some (.slice A4 n4 c4) ∧ W.cell? ⟨o13, 2, none⟩ = some (.slice B4 m4 d4)) (go_keep)
              (first | ((go_at_call 19; (with_reducible refine (K3.out _ (by (skip); repeat' (first | (with_reducible exact Below.refl _ _) | (with_reducible assumption) | (with_reducible refine Below.alloc ?_ ?_ _) | (with_reducible refine Below.drew ?_) | (with_reducible refine below_drewN ?_ _) | (with_reducible refine Below.setCell ?_ ?_ _) | (with_reducible refine Below.trans ?_ (Below.mono (by with_reducible assumption) ?_)) | omega | (simp only [ZA, ZS, ZD, ZN]; omega) | go_size))).mono ?_); rintro e w6 ⟨⟨v6, rfl, own6⟩, hb6⟩; have hb6z := Below.size hb6; (try simp only [ZA, ZS, ZD] at hb6z); have hb6c0 := fun o => below_at hb6 (g) o (by first | omega | (simp only [ZA, ZS, ZD]; omega)); have hb6f0 := fun o => below_fr hb6 (g) o (by first | omega | (simp only [ZA, ZS, ZD]; omega)); have hb6l0 : g < (w6).heap.size := (by omega); have hb6c1 := fun o => below_at hb6 (wr.heap.size) o (by first | omega | (simp only [ZA, ZS, ZD]; omega)); have hb6f1 := fun o => below_fr hb6 (wr.heap.size) o (by first | omega | (simp only [ZA, ZS, ZD]; omega)); have hb6l1 : wr.heap.size < (w6).heap.size := (by omega); have hb6c2 := fun o => below_at hb6 (o13) o (by first | omega | (simp only [ZA, ZS, ZD]; omega)); have hb6f2 := fun o => below_fr hb6 (o13) o (by first | omega | (simp only [ZA, ZS, ZD]; omega)); have hb6l2 : o13 < (w6).heap.size := (by omega)); obtain ⟨s7, A7, n7, c7, B7, m7, d7, rfl⟩ := own6.form) | ((go_at_call 18; (with_reducible refine (K4.out _ (by have z0 := Below.size hb6; (try simp only [ZA, ZS, ZD, ZN] at z0 ⊢; skip); repeat' (first | (with_reducible exact Below.refl _ _) | (with_reducible assumption) | (with_reducible refine Below.alloc ?_ ?_ _) | (with_reducible refine Below.drew ?_) | (with_reducible refine below_drewN ?_ _) | (with_reducible refine Below.setCell ?_ ?_ _) | (with_reducible refine Below.trans ?_ (Below.mono (by with_reducible assumption) ?_)) | omega | (simp only [ZA, ZS, ZD, ZN]; omega) | go_size))).mono ?_); rintro e w7 ⟨⟨v7, rfl, own7⟩, hb7⟩; have hb7z := Below.size hb7; (try simp only [ZA, ZS, ZD] at hb7z); have hb7c0 := fun o => below_at hb7 (g) o (by first | omega | (simp only [ZA, ZS, ZD]; omega)); have hb7f0 := fun o => below_fr hb7 (g) o (by first | omega | (simp only [ZA, ZS, ZD]; omega)); have hb7l0 : g < (w7).heap.size := (by omega); have hb7c1 := fun o => below_at hb7 (wr.heap.size) o (by first | omega | (simp only [ZA, ZS, ZD]; omega)); have hb7f1 := fun o => below_fr hb7 (wr.heap.size) o (by first | omega | (simp only [ZA, ZS, ZD]; omega)); have hb7l1 : wr.heap.size < (w7).heap.size := (by omega); have hb7c2 := fun o => below_at hb7 (o13) o (by first | omega | (simp only [ZA, ZS, ZD]; omega)); have hb7f2 := fun o => below_fr hb7 (o13) o (by first | omega | (simp only [ZA, ZS, ZD]; omega)); have hb7l2 : o13 < (w7).heap.size := (by omega)); obtain ⟨s8, A8, n8, c8, B8, m8, d8, rfl⟩ := own7.form) | ((go_at_call 18; (with_reducible refine (K4.out _ (by (skip); repeat' (first | (with_reducible exact Below.refl _ _) | (with_reducible assumption) | (with_reducible refine Below.alloc ?_ ?_ _) | (with_reducible refine Below.drew ?_) | (with_reducible refine below_drewN ?_ _) | (with_reducible refine Below.setCell ?_ ?_ _) | (with_reducible refine Below.trans ?_ (Below.mono (by with_reducible assumption) ?_)) | omega | (simp only [ZA, ZS, ZD, ZN]; omega) | go_size))).mono ?_); rintro e w7 ⟨⟨v7, rfl, own7⟩, hb7⟩; have hb7z := Below.size hb7; (try simp only [ZA, ZS, ZD] at hb7z); have hb7c0 := fun o => below_at hb7 (g) o (by first | omega | (simp only [ZA, ZS, ZD]; omega)); have hb7f0 := fun o => below_fr hb7 (g) o (by first | omega | (simp only [ZA, ZS, ZD]; omega)); have hb7l0 : g < (w7).heap.size := (by omega); have hb7c1 := fun o => below_at hb7 (wr.heap.size) o (by first | omega | (simp only [ZA, ZS, ZD]; omega)); have hb7f1 := fun o => below_fr hb7 (wr.heap.size) o (by first | omega | (simp only [ZA, ZS, ZD]; omega)); have hb7l1 : wr.heap.size < (w7).heap.size := (by omega); have hb7c2 := fun o => below_at hb7 (o13) o (by first | omega | (simp only [ZA, ZS, ZD]; omega)); have hb7f2 := fun o => below_fr hb7 (o13) o (by first | omega | (simp only [ZA, ZS, ZD]; omega)); have hb7l2 : o13 < (w7).heap.size := (by omega)); obtain ⟨s8, A8, n8, c8, B8, m8, d8, rfl⟩ := own7.form) | ((go_at_call 19; (with_reducible refine (K3.out _ (by have z0 := Below.size hb7; (try simp only [ZA, ZS, ZD, ZN] at z0 ⊢; skip); repeat' (first | (with_reducible exact Below.refl _ _) | (with_reducible assumption) | (with_reducible refine Below.alloc ?_ ?_ _) | (with_reducible refine Below.drew ?_) | (with_reducible refine below_drewN ?_ _) | (with_reducible refine Below.setCell ?_ ?_ _) | (with_reducible refine Below.trans ?_ (Below.mono (by with_reducible assumption) ?_)) | omega | (simp only [ZA, ZS, ZD, ZN]; omega) | go_size))).mono ?_); rintro e w6 ⟨⟨v6, rfl, own6⟩, hb6⟩; have hb6z := Below.size hb6; (try simp only [ZA, ZS, ZD] at hb6z); have hb6c0 := fun o => below_at hb6 (g) o (by first | omega | (simp only [ZA, ZS, ZD]; omega)); have hb6f0 := fun o => below_fr hb6 (g) o (by first | omega | (simp only [ZA, ZS, ZD]; omega)); have hb6l0 : g < (w6).heap.size := (by omega); have hb6c1 := fun o => below_at hb6 (wr.heap.size) o (by first | omega | (simp only [ZA, ZS, ZD]; omega)); have hb6f1 := fun o => below_fr hb6 (wr.heap.size) o (by first | omega | (simp only [ZA, ZS, ZD]; omega)); have hb6l1 : wr.heap.size < (w6).heap.size := (by omega); have hb6c2 := fun o => below_at hb6 (o13) o (by first | omega | (simp only [ZA, ZS, ZD]; omega)); have hb6f2 := fun o => below_fr hb6 (o13) o (by first | omega | (simp only [ZA, ZS, ZD]; omega)); have hb6l2 : o13 < (w6).heap.size := (by omega)); obtain ⟨s7, A7, n7, c7, B7, m7, d7, rfl⟩ := own6.form) | fail)
            all_goals
              have hb9 : Below wc.heap.size wc w7 := (by have z0 := Below.size hb6; have z1 := Below.size hb7; (try simp only [ZA, ZS, ZD, ZN] at z0 z1 ⊢; skip); repeat' (first | (with_reducible exact Below.refl _ _) | (with_reducible assumption) | (with_reducible refine Below.alloc ?_ ?_ _) | (with_reducible refine Below.drew ?_) | (with_reducible refine below_drewN ?_ _) | (with_reducible refine Below.setCell ?_ ?_ _) | (with_reducible refine Below.trans ?_ (Below.mono (by with_reducible assumption) ?_)) | omega | (simp only [ZA, ZS, ZD, ZN]; omega) | go_size))
              have ow := HOC.out.below hb9
              have o4 := ow.set hFl ((own6.below hb7).rs (b0 := b0))
              have o5 := o4.1.set hTl ((own7.rs (b0 := b0)).kp (ow.kp o4.2))
              have ho5 := o5.1
              rw [upd_can, upd_can, ← HX1.out] at ho5
              have hgt := grown_trans HGR.out (grown_trans (grown_of_below (HBC.out.trans (hb9.mono (by omega))) _) (grown_trans o4.2 o5.2))
              have HO5 := Lib.hid ho5
              have HGT := Lib.hid hgt
              clear ow o4 o5 ho5 hgt
              go_wp2
              go_roundw
              case rel => exact ⟨k + 1, by omega, by go_num, HO5.out, HGT.out⟩
              case measure => simp [intOf]; omega
        · rw [hdd rfl] at x5
          clear hdd
          go_upto_region 6 with fail
          go_cut [13, 14] from 33 to 46 (fun p e wx => e = .nilIface ∧ Res13 (wr.alloc (.cells #[.int .i64 (u : Int), .int .i64 (y : Int), .bool s, .slice A1 n1 c1, .slice B1 m1 d1] 46)) (wr.heap.size + 1) (S k) p wx)
          case first =>
            go_region_held3 (fun W => W.cell? ⟨wr.heap.size, 0, none⟩ = some (.int .i64 (u : Int)) ∧ W.cell? ⟨wr.heap.size, 2, none⟩ = some (.bool s) ∧ W.cell? ⟨wr.heap.size, 3, none⟩ = some (.slice A1 n1 c1) ∧ W.cell? ⟨wr.heap.size, 4, none⟩ = some (.slice B1 m1 d1) ∧ W.cell? ⟨bv, ov + u * 3, none⟩ = some (.bool s2) ∧ W.cell? ⟨bv, ov + u * 3 + 1, none⟩ = some (.slice A2 n2 c2) ∧ W.cell? ⟨bv, ov + u * 3 + 2, none⟩ = some (.slice B2 m2 d2) ∧ W.cell? ⟨w.heap.size + 1, 0, none⟩ = some (.bool s0) ∧ W.cell? ⟨w.heap.size + 1, 1, none⟩ = some (.slice A0 n0 c0) ∧ W.cell? ⟨w.heap.size + 1, 2, none⟩ = some (.slice B0 m0 d0)) (go_keep)
              (first | ((go_at_call 139; (with_reducible refine (K1.out _ (by (skip); repeat' (first | (with_reducible exact Below.refl _ _) | (with_reducible assumption) | (with_reducible refine Below.alloc ?_ ?_ _) | (with_reducible refine Below.drew ?_) | (with_reducible refine below_drewN ?_ _) | (with_reducible refine Below.setCell ?_ ?_ _) | (with_reducible refine Below.trans ?_ (Below.mono (by with_reducible assumption) ?_)) | omega | (simp only [ZA, ZS, ZD, ZN]; omega) | go_size))).mono ?_); rintro e w3 ⟨⟨v3, rfl, own3⟩, hb3⟩; have hb3z := Below.size hb3; (try simp only [ZA, ZS, ZD] at hb3z); have hb3c0 := fun o => below_at hb3 (g) o (by first | omega | (simp only [ZA, ZS, ZD]; omega)); have hb3f0 := fun o => below_fr hb3 (g) o (by first | omega | (simp only [ZA, ZS, ZD]; omega)); have hb3l0 : g < (w3).heap.size := (by omega); have hb3c1 := fun o => below_at hb3 (wr.heap.size) o (by first | omega | (simp only [ZA, ZS, ZD]; omega)); have hb3f1 := fun o => below_fr hb3 (wr.heap.size) o (by first | omega | (simp only [ZA, ZS, ZD]; omega)); have hb3l1 : wr.heap.size < (w3).heap.size := (by omega); have hb3c2 := fun o => below_at hb3 (w.heap.size + 1) o (by first | omega | (simp only [ZA, ZS, ZD]; omega)); have hb3f2 := fun o => below_fr hb3 (w.heap.size + 1) o (by first | omega | (simp only [ZA, ZS, ZD]; omega)); have hb3l2 : w.heap.size + 1 < (w3).heap.size := (by omega); have hb3c3 := fun o => below_at hb3 (bv) o (by first | omega | (simp only [ZA, ZS, ZD]; omega)); have hb3f3 := fun o => below_fr hb3 (bv) o (by first | omega | (simp only [ZA, ZS, ZD]; omega)); have hb3l3 : bv < (w3).heap.size := (by omega); have hb3c4 := fun o => below_at hb3 (wr.heap.size + 1) o (by first | omega | (simp only [ZA, ZS, ZD]; omega)); have hb3f4 := fun o => below_fr hb3 (wr.heap.size + 1) o (by first | omega | (simp only [ZA, ZS, ZD]; omega)); have hb3l4 : wr.heap.size + 1 < (w3).heap.size := (by omega)); obtain ⟨s3, A3, n3, c3', B3, m3, d3, rfl⟩ := own3.form; have ne1 : ¬ (wr.heap.size + 1 = wr.heap.size) := (by omega); have ne2 : ¬ (wr.heap.size + 1 = bv) := (by omega); have ne3 : ¬ (wr.heap.size + 1 = w.heap.size + 1) := (by omega); have ne4 : ¬ (wr.heap.size + 1 = g) := (by omega); have ne5 : ¬ (wr.heap.size = wr.heap.size + 1) := (by omega); have ne6 : ¬ (g = wr.heap.size + 1) := (by omega)) | ((go_at_call 139; (with_reducible refine (K1.out _ (by (skip); repeat' (first | (with_reducible exact Below.refl _ _) | (with_reducible assumption) | (with_reducible refine Below.alloc ?_ ?_ _) | (with_reducible refine Below.drew ?_) | (with_reducible refine below_drewN ?_ _) | (with_reducible refine Below.setCell ?_ ?_ _) | (with_reducible refine Below.trans ?_ (Below.mono (by with_reducible assumption) ?_)) | omega | (simp only [ZA, ZS, ZD, ZN]; omega) | go_size))).mono ?_); rintro e w3 ⟨⟨v3, rfl, own3⟩, hb3⟩; have hb3z := Below.size hb3; (try simp only [ZA, ZS, ZD] at hb3z); have hb3c0 := fun o => below_at hb3 (g) o (by first | omega | (simp only [ZA, ZS, ZD]; omega)); have hb3f0 := fun o => below_fr hb3 (g) o (by first | omega | (simp only [ZA, ZS, ZD]; omega)); have hb3l0 : g < (w3).heap.size := (by omega); have hb3c1 := fun o => below_at hb3 (wr.heap.size) o (by first | omega | (simp only [ZA, ZS, ZD]; omega)); have hb3f1 := fun o => below_fr hb3 (wr.heap.size) o (by first | omega | (simp only [ZA, ZS, ZD]; omega)); have hb3l1 : wr.heap.size < (w3).heap.size := (by omega); have hb3c2 := fun o => below_at hb3 (w.heap.size + 1) o (by first | omega | (simp only [ZA, ZS, ZD]; omega)); have hb3f2 := fun o => below_fr hb3 (w.heap.size + 1) o (by first | omega | (simp only [ZA, ZS, ZD]; omega)); have hb3l2 : w.heap.size + 1 < (w3).heap.size := (by omega); have hb3c3 := fun o => below_at hb3 (bv) o (by first | omega | (simp only [ZA, ZS, ZD]; omega)); have hb3f3 := fun o => below_fr hb3 (bv) o (by first | omega | (simp only [ZA, ZS, ZD]; omega)); have hb3l3 : bv < (w3).heap.size := (by omega)); obtain ⟨s3, A3, n3, c3', B3, m3, d3, rfl⟩ := own3.form) | ((go_at_call 138; (with_reducible refine (K2.out _ _ _ (by have z0 := Below.size hb3; (try simp only [ZA, ZS, ZD, ZN] at z0 ⊢; skip); repeat' (first | (with_reducible exact Below.refl _ _) | (with_reducible assumption) | (with_reducible refine Below.alloc ?_ ?_ _) | (with_reducible refine Below.drew ?_) | (with_reducible refine below_drewN ?_ _) | (with_reducible refine Below.setCell ?_ ?_ _) | (with_reducible refine Below.trans ?_ (Below.mono (by with_reducible assumption) ?_)) | omega | (simp only [ZA, ZS, ZD, ZN]; omega) | go_size)) own3).mono ?_); rintro e w4 ⟨⟨v4, rfl, own4⟩, hb4⟩; have hb4z := Below.size hb4; (try simp only [ZA, ZS, ZD] at hb4z); have hb4c0 := fun o => below_at hb4 (g) o (by first | omega | (simp only [ZA, ZS, ZD]; omega)); have hb4f0 := fun o => below_fr hb4 (g) o (by first | omega | (simp only [ZA, ZS, ZD]; omega)); have hb4l0 : g < (w4).heap.size := (by omega); have hb4c1 := fun o => below_at hb4 (wr.heap.size) o (by first | omega | (simp only [ZA, ZS, ZD]; omega)); have hb4f1 := fun o => below_fr hb4 (wr.heap.size) o (by first | omega | (simp only [ZA, ZS, ZD]; omega)); have hb4l1 : wr.heap.size < (w4).heap.size := (by omega); have hb4c2 := fun o => below_at hb4 (w.heap.size + 1) o (by first | omega | (simp only [ZA, ZS, ZD]; omega)); have hb4f2 := fun o => below_fr hb4 (w.heap.size + 1) o (by first | omega | (simp only [ZA, ZS, ZD]; omega)); have hb4l2 : w.heap.size + 1 < (w4).heap.size := (by omega); have hb4c3 := fun o => below_at hb4 (bv) o (by first | omega | (simp only [ZA, ZS, ZD]; omega)); have hb4f3 := fun o => below_fr hb4 (bv) o (by first | omega | (simp only [ZA, ZS, ZD]; omega)); have hb4l3 : bv < (w4).heap.size := (by omega); have hb4c4 := fun o => below_at hb4 (wr.heap.size + 1) o (by first | omega | (simp only [ZA, ZS, ZD]; omega)); have hb4f4 := fun o => below_fr hb4 (wr.heap.size + 1) o (by first | omega | (simp only [ZA, ZS, ZD]; omega)); have hb4l4 : wr.heap.size + 1 < (w4).heap.size := (by omega)); obtain ⟨s4, A4, n4, c4, B4, m4, d4, rfl⟩ := own4.form) | ((go_at_call 138; (with_reducible refine (K2.out _ _ _ (by have z0 := Below.size hb3; (try simp only [ZA, ZS, ZD, ZN] at z0 ⊢; skip); repeat' (first | (with_reducible exact Below.refl _ _) | (with_reducible assumption) | (with_reducible refine Below.alloc ?_ ?_ _) | (with_reducible refine Below.drew ?_) | (with_reducible refine below_drewN ?_ _) | (with_reducible refine Below.setCell ?_ ?_ _) | (with_reducible refine Below.trans ?_ (Below.mono (by with_reducible assumption) ?_)) | omega | (simp only [ZA, ZS, ZD, ZN]; omega) | go_size)) own3).mono ?_); rintro e w4 ⟨⟨v4, rfl, own4⟩, hb4⟩; have hb4z := Below.size hb4; (try simp only [ZA, ZS, ZD] at hb4z); have hb4c0 := fun o => below_at hb4 (g) o (by first | omega | (simp only [ZA, ZS, ZD]; omega)); have hb4f0 := fun o => below_fr hb4 (g) o (by first | omega | (simp only [ZA, ZS, ZD]; omega)); have hb4l0 : g < (w4).heap.size := (by omega); have hb4c1 := fun o => below_at hb4 (wr.heap.size) o (by first | omega | (simp only [ZA, ZS, ZD]; omega)); have hb4f1 := fun o => below_fr hb4 (wr.heap.size) o (by first | omega | (simp only [ZA, ZS, ZD]; omega)); have hb4l1 : wr.heap.size < (w4).heap.size := (by omega); have hb4c2 := fun o => below_at hb4 (w.heap.size + 1) o (by first | omega | (simp only [ZA, ZS, ZD]; omega)); have hb4f2 := fun o => below_fr hb4 (w.heap.size + 1) o (by first | omega | (simp only [ZA, ZS, ZD]; omega)); have hb4l2 : w.heap.size + 1 < (w4).heap.size := (by omega); have hb4c3 := fun o => below_at hb4 (bv) o (by first | omega | (simp only [ZA, ZS, ZD]; omega)); have hb4f3 := fun o => below_fr hb4 (bv) o (by first | omega | (simp only [ZA, ZS, ZD]; omega)); have hb4l3 : bv < (w4).heap.size := (by omega)); obtain ⟨s4, A4, n4, c4, B4, m4, d4, rfl⟩ := own4.form) | ((go_at_call 138; (with_reducible refine (K2.out _ _ _ (by have z0 := Below.size hb3; (try simp only [ZA, ZS, ZD, ZN] at z0 ⊢; skip); repeat' (first | (with_reducible exact Below.refl _ _) | (with_reducible assumption) | (with_reducible refine Below.alloc ?_ ?_ _) | (with_reducible refine Below.drew ?_) | (with_reducible refine below_drewN ?_ _) | (with_reducible refine Below.setCell ?_ ?_ _) | (with_reducible refine Below.trans ?_ (Below.mono (by with_reducible assumption) ?_)) | omega | (simp only [ZA, ZS, ZD, ZN]; omega) | go_size)) (own3.alloc _)).mono ?_); rintro e w4 ⟨⟨v4, rfl, own4⟩, hb4⟩; have hb4z := Below.size hb4; (try simp only [ZA, ZS, ZD] at hb4z); have hb4c0 := fun o => below_at hb4 (g) o (by first | omega | (simp only [ZA, ZS, ZD]; omega)); have hb4f0 := fun o => below_fr hb4 (g) o (by first | omega | (simp only [ZA, ZS, ZD]; omega)); have hb4l0 : g < (w4).heap.size := (by omega); have hb4c1 := fun o => below_at hb4 (wr.heap.size) o (by first | omega | (simp only [ZA, ZS, ZD]; omega)); have hb4f1 := fun o => below_fr hb4 (wr.heap.size) o (by first | omega | (simp only [ZA, ZS, ZD]; omega)); have hb4l1 : wr.heap.size < (w4).heap.size := (by omega); have hb4c2 := fun o => below_at hb4 (w.heap.size + 1) o (by first | omega | (simp only [ZA, ZS, ZD]; omega)); have hb4f2 := fun o => below_fr hb4 (w.heap.size + 1) o (by first | omega | (simp only [ZA, ZS, ZD]; omega)); have hb4l2 : w.heap.size + 1 < (w4).heap.size := (by omega); have hb4c3 := fun o => below_at hb4 (bv) o (by first | omega | (simp only [ZA, ZS, ZD]; omega)); have hb4f3 := fun o => below_fr hb4 (bv) o (by first | omega | (simp only [ZA, ZS, ZD]; omega)); have hb4l3 : bv < (w4).heap.size := (by omega); have hb4c4 := fun o => below_at hb4 (w3.heap.size) o (by first | omega | (simp only [ZA, ZS, ZD]; omega)); have hb4f4 := fun o => below_fr hb4 (w3.heap.size) o (by first | omega | (simp only [ZA, ZS, ZD]; omega)); have hb4l4 : w3.heap.size < (w4).heap.size := (by omega)); obtain ⟨s4, A4, n4, c4, B4, m4, d4, rfl⟩ := own4.form; have ne1 : ¬ (w3.heap.size = wr.heap.size) := (by omega); have ne2 : ¬ (w3.heap.size = bv) := (by omega); have ne3 : ¬ (w3.heap.size = w.heap.size + 1) := (by omega); have ne4 : ¬ (w3.heap.size = g) := (by omega); have ne5 : ¬ (wr.heap.size = w3.heap.size) := (by omega); have ne6 : ¬ (g = w3.heap.size) := (by omega)) | fail)
            · go_wp2
              go_meet
              exact ⟨rfl, res13_new own4 (by have z0 := Below.size hb3; have z1 := Below.size hb4; (try simp only [ZA, ZS, ZD, ZN] at z0 z1 ⊢; skip); repeat' (first | (with_reducible exact Below.refl _ _) | (with_reducible assumption) | (with_reducible refine Below.alloc ?_ ?_ _) | (with_reducible refine Below.drew ?_) | (with_reducible refine below_drewN ?_ _) | (with_reducible refine Below.setCell ?_ ?_ _) | (with_reducible refine Below.trans ?_ (Below.mono (by with_reducible assumption) ?_)) | omega | (simp only [ZA, ZS, ZD, ZN]; omega) | go_size)) (by omega)⟩
            · go_wp2
              go_meet
              exact ⟨rfl, res13_set (a' := .bool false) (b' := .slice none 0 0) (d' := .slice none 0 0) own4 (by have z0 := Below.size hb3; have z1 := Below.size hb4; (try simp only [ZA, ZS, ZD, ZN] at z0 z1 ⊢; skip); repeat' (first | (with_reducible exact Below.refl _ _) | (with_reducible assumption) | (with_reducible refine Below.alloc ?_ ?_ _) | (with_reducible refine Below.drew ?_) | (with_reducible refine below_drewN ?_ _) | (with_reducible refine Below.setCell ?_ ?_ _) | (with_reducible refine Below.trans ?_ (Below.mono (by with_reducible assumption) ?_)) | omega | (simp only [ZA, ZS, ZD, ZN]; omega) | go_size)) (by omega) (by omega) ((RatB.new w3 _).below hb4 (by simp)) (by rw [hb4c4]; simp) (by rw [hb4c4]; simp) (by rw [hb4c4]; simp)⟩
            · go_wp2
              go_meet
              have hB3 : RatB w3 (wr.heap.size + 1) := by
                have h := RatB.new (wr.alloc (.cells #[.int .i64 (u : Int), .int .i64 (y : Int), .bool s, .slice A1 n1 c1, .slice B1 m1 d1] 46)) #[.bool false, .slice none 0 0, .slice none 0 0]
                rw [World.size_alloc] at h
                exact RatB.below (w := ((wr.alloc (.cells #[.int .i64 (u : Int), .int .i64 (y : Int), .bool s, .slice A1 n1 c1, .slice B1 m1 d1] 46)).alloc (.cells #[.bool false, .slice none 0 0, .slice none 0 0] 44)).drew) h hb3 (by simp)
              exact ⟨rfl, res13_set (a' := .bool false) (b' := .slice none 0 0) (d' := .slice none 0 0) own4 (by have z0 := Below.size hb3; have z1 := Below.size hb4; (try simp only [ZA, ZS, ZD, ZN] at z0 z1 ⊢; skip); repeat' (first | (with_reducible exact Below.refl _ _) | (with_reducible assumption) | (with_reducible refine Below.alloc ?_ ?_ _) | (with_reducible refine Below.drew ?_) | (with_reducible refine below_drewN ?_ _) | (with_reducible refine Below.setCell ?_ ?_ _) | (with_reducible refine Below.trans ?_ (Below.mono (by with_reducible assumption) ?_)) | omega | (simp only [ZA, ZS, ZD, ZN]; omega) | go_size)) (by omega) (by omega) (hB3.below hb4 (by omega)) (by rw [hb4c4, hb3c4]; simp) (by rw [hb4c4, hb3c4]; simp) (by rw [hb4c4, hb3c4]; simp)⟩
          case rest =>
            obtain ⟨rfl, o13, s4, A4, n4, c4, B4, m4, d4, rfl, ho1, ho2, k0, k1, k2, kS, hbc⟩ := hcut
            have hbz := hbc.size
            simp only [World.size_alloc] at hbz
            have hbr : Below wr.heap.size wr wc := ((Below.refl _ _).alloc (Nat.le_refl _) _).trans (hbc.mono (by omega))
            have K3 := Lib.hid (fun W (hb : Below wc.heap.size wc W) => subQ (q5.below (hbr.trans (hb.mono (by omega)))) ((kS.kp (Kp.of_below hb)).canQ hS9) hL1 (by omega))
            have K4 := Lib.hid (fun W (hb : Below wc.heap.size wc W) => addQ (q6.below (hbr.trans (hb.mono (by omega)))) ((kS.kp (Kp.of_below hb)).canQ hS9) hL1 (by omega))
            have e0 := (hbc.cell (p := ⟨wr.heap.size, 0, none⟩) (by show wr.heap.size < _; omega)).trans (by simp : (wr.alloc (.cells #[.int .i64 (u : Int), .int .i64 (y : Int), .bool s, .slice A1 n1 c1, .slice B1 m1 d1] 46)).cell? ⟨wr.heap.size, 0, none⟩ = some (.int .i64 (u : Int)))
            have e1 := (hbc.cell (p := ⟨wr.heap.size, 1, none⟩) (by show wr.heap.size < _; omega)).trans (by simp : (wr.alloc (.cells #[.int .i64 (u : Int), .int .i64 (y : Int), .bool s, .slice A1 n1 c1, .slice B1 m1 d1] 46)).cell? ⟨wr.heap.size, 1, none⟩ = some (.int .i64 (y : Int)))
            have e2 := (hbr.cell (p := ⟨g, u * 3, none⟩) hg9).trans g0
            have e3 := (hbr.cell (p := ⟨g, u * 3 + 1, none⟩) hg9).trans g1
            have e4 := (hbr.cell (p := ⟨g, u * 3 + 2, none⟩) hg9).trans g2
            have e5 := (hbr.cell (p := ⟨g, y * 3, none⟩) hg9).trans g3
            have e6 := (hbr.cell (p := ⟨g, y * 3 + 1, none⟩) hg9).trans g4
            have e7 := (hbr.cell (p := ⟨g, y * 3 + 2, none⟩) hg9).trans g5
            have e8 : ∀ i, wc.frozen? ⟨g, i, none⟩ = false := fun i => (hbr.frozen (p := ⟨g, i, none⟩) hg9).trans (hfz i)
            have i00 : ¬ (u * 3 = y * 3) := by omega
            have i01 : ¬ (u * 3 = y * 3 + 1) := by omega
            have i02 : ¬ (u * 3 = y * 3 + 2) := by omega
            have i10 : ¬ (u * 3 + 1 = y * 3) := by omega
            have i11 : ¬ (u * 3 + 1 = y * 3 + 1) := by omega
            have i12 : ¬ (u * 3 + 1 = y * 3 + 2) := by omega
            have i20 : ¬ (u * 3 + 2 = y * 3) := by omega
            have i21 : ¬ (u * 3 + 2 = y * 3 + 1) := by omega
            have i22 : ¬ (u * 3 + 2 = y * 3 + 2) := by omega
            have iuy : ¬ (u = y) := hFT
            have ne1 : ¬ (g = o13) := by omega
            have ne2 : ¬ (o13 = g) := by omega
            have ne3 : ¬ (g = wr.heap.size) := by omega
            have ne4 : ¬ (wr.heap.size = g) := by omega
            have HOC := Lib.hid (HO.out.below hbr)
            have HBC := Lib.hid hbr
            clear x0 x1 x2 x3 x4 x5 x6 x7 x8 y0' y1' y2' y3' y4' g0 g1 g2 g3 g4 g5 hfz olc olf omc omf oddc oddf ogc ogf ovvc ovvf q5 q6 kS hbc hbr
            go_wp2
            rw [ld_later 44 (.tmp 58), ld_later 44 (.tmp 65)]
            go_region_held3 (fun W => W.cell? ⟨wr.heap.size, 0, none⟩ = some (.int .i64 (u : Int)) ∧ W.cell? ⟨wr.heap.size, 1, none⟩ = some (.int .i64 (y : Int)) ∧ W.cell? ⟨o13, 0, none⟩ = some (.bool s4) ∧ W.cell? ⟨o13, 1, none⟩ = some (.slice A4 n4 c4) ∧ W.cell? ⟨o13, 2, none⟩ = some (.slice B4 m4 d4)) (go_keep)
              (first | ((go_at_call 19; (with_reducible refine (K3.out _ (by (skip); repeat' (first | (with_reducible exact Below.refl _ _) | (with_reducible assumption) | (with_reducible refine Below.alloc ?_ ?_ _) | (with_reducible refine Below.drew ?_) | (with_reducible refine below_drewN ?_ _) | (with_reducible refine Below.setCell ?_ ?_ _) | (with_reducible refine Below.trans ?_ (Below.mono (by with_reducible assumption) ?_)) | omega | (simp only [ZA, ZS, ZD, ZN]; omega) | go_size))).mono ?_); rintro e w6 ⟨⟨v6, rfl, own6⟩, hb6⟩; have hb6z := Below.size hb6; (try simp only [ZA, ZS, ZD] at hb6z); have hb6c0 := fun o => below_at hb6 (g) o (by first | omega | (simp only [ZA, ZS, ZD]; omega)); have hb6f0 := fun o => below_fr hb6 (g) o (by first | omega | (simp only [ZA, ZS, ZD]; omega)); have hb6l0 : g < (w6).heap.size := (by omega); have hb6c1 := fun o => below_at hb6 (wr.heap.size) o (by first | omega | (simp only [ZA, ZS, ZD]; omega)); have hb6f1 := fun o => below_fr hb6 (wr.heap.size) o (by first | omega | (simp only [ZA, ZS, ZD]; omega)); have hb6l1 : wr.heap.size < (w6).heap.size := (by omega); have hb6c2 := fun o => below_at hb6 (o13) o (by first | omega | (simp only [ZA, ZS, ZD]; omega)); have hb6f2 := fun o => below_fr hb6 (o13) o (by first | omega | (simp only [ZA, ZS, ZD]; omega)); have hb6l2 : o13 < (w6).heap.size := (by omega)); obtain ⟨s7, A7, n7, c7, B7, m7, d7, rfl⟩ := own6.form) | ((go_at_call 18; (with_reducible refine (K4.out _ (by have z0 := Below.size hb6; (try simp only [ZA, ZS, ZD, ZN] at z0 ⊢; skip); repeat' (first | (with_reducible exact Below.refl _ _) | (with_reducible assumption) | (with_reducible refine Below.alloc ?_ ?_ _) | (with_reducible refine Below.drew ?_) | (with_reducible refine below_drewN ?_ _) | (with_reducible refine Below.setCell ?_ ?_ _) | (with_reducible refine Below.trans ?_ (Below.mono (by with_reducible assumption) ?_)) | omega | (simp only [ZA, ZS, ZD, ZN]; omega) | go_size))).mono ?_); rintro e w7 ⟨⟨v7, rfl, own7⟩, hb7⟩; have hb7z := Below.size hb7; (try simp only [ZA, ZS, ZD] at hb7z); have hb7c0 := fun o => below_at hb7 (g) o (by first | omega | (simp only [ZA, ZS, ZD]; omega)); have hb7f0 := fun o => below_fr hb7 (g) o (by first | omega | (simp only [ZA, ZS, ZD]; omega)); have hb7l0 : g < (w7).heap.size := (by omega); have hb7c1 := fun o => below_at hb7 (wr.heap.size) o (by first | omega | (simp only [ZA, ZS, ZD]; omega)); have hb7f1 := fun o => below_fr hb7 (wr.heap.size) o (by first | omega | (simp only [ZA, ZS, ZD]; omega)); have hb7l1 : wr.heap.size < (w7).heap.size := (by omega); have hb7c2 := fun o => below_at hb7 (o13) o (by first | omega | (simp only [ZA, ZS, ZD]; omega)); have hb7f2 := fun o => below_fr hb7 (o13) o (by first | omega | (simp only [ZA, ZS, ZD]; omega)); have hb7l2 : o13 < (w7).heap.size := (by omega)); obtain ⟨s8, A8, n8, c8, B8, m8, d8, rfl⟩ := own7.form) | ((go_at_call 18; (with_reducible refine (K4.out _ (by (skip); repeat' (first | (with_reducible exact Below.refl _ _) | (with_reducible assumption) | (with_reducible refine Below.alloc ?_ ?_ _) | (with_reducible refine Below.drew ?_) | (with_reducible refine below_drewN ?_ _) | (with_reducible refine Below.setCell ?_ ?_ _) | (with_reducible refine Below.trans ?_ (Below.mono (by with_reducible assumption) ?_)) | omega | (simp only [ZA, ZS, ZD, ZN]; omega) | go_size))).mono ?_); rintro e w7 ⟨⟨v7, rfl, own7⟩, hb7⟩; have hb7z := Below.size hb7; (try simp only [ZA, ZS, ZD] at hb7z); have hb7c0 := fun o => below_at hb7 (g) o (by first | omega | (simp only [ZA, ZS, ZD]; omega)); have hb7f0 := fun o => below_fr hb7 (g) o (by first | omega | (simp only [ZA, ZS, ZD]; omega)); have hb7l0 : g < (w7).heap.size := (by omega); have hb7c1 := fun o => below_at hb7 (wr.heap.size) o (by first | omega | (simp only [ZA, ZS, ZD]; omega)); have hb7f1 := fun o => below_fr hb7 (wr.heap.size) o (by first | omega | (simp only [ZA, ZS, ZD]; omega)); have hb7l1 : wr.heap.size < (w7).heap.size := (by omega); have hb7c2 := fun o => below_at hb7 (o13) o (by first | omega | (simp only [ZA, ZS, ZD]; omega)); have hb7f2 := fun o => below_fr hb7 (o13) o (by first | omega | (simp only [ZA, ZS, ZD]; omega)); have hb7l2 : o13 < (w7).heap.size := (by omega)); obtain ⟨s8, A8, n8, c8, B8, m8, d8, rfl⟩ := own7.form) | ((go_at_call 19; (with_reducible refine (K3.out _ (by have z0 := Below.size hb7; (try simp only [ZA, ZS, ZD, ZN] at z0 ⊢; skip); repeat' (first | (with_reducible exact Below.refl _ _) | (with_reducible assumption) | (with_reducible refine Below.alloc ?_ ?_ _) | (with_reducible refine Below.drew ?_) | (with_reducible refine below_drewN ?_ _) | (with_reducible refine Below.setCell ?_ ?_ _) | (with_reducible refine Below.trans ?_ (Below.mono (by with_reducible assumption) ?_)) | omega | (simp only [ZA, ZS, ZD, ZN]; omega) | go_size))).mono ?_); rintro e w6 ⟨⟨v6, rfl, own6⟩, hb6⟩; have hb6z := Below.size hb6; (try simp only [ZA, ZS, ZD] at hb6z); have hb6c0 := fun o => below_at hb6 (g) o (by first | omega | (simp only [ZA, ZS, ZD]; omega)); have hb6f0 := fun o => below_fr hb6 (g) o (by first | omega | (simp only [ZA, ZS, ZD]; omega)); have hb6l0 : g < (w6).heap.size := (by omega); have hb6c1 := fun o => below_at hb6 (wr.heap.size) o (by first | omega | (simp only [ZA, ZS, ZD]; omega)); have hb6f1 := fun o => below_fr hb6 (wr.heap.size) o (by first | omega | (simp only [ZA, ZS, ZD]; omega)); have hb6l1 : wr.heap.size < (w6).heap.size := (by omega); have hb6c2 := fun o => below_at hb6 (o13) o (by first | omega | (simp only [ZA, ZS, ZD]; omega)); have hb6f2 := fun o => below_fr hb6 (o13) o (by first | omega | (simp only [ZA, ZS, ZD]; omega)); have hb6l2 : o13 < (w6).heap.size := (by omega)); obtain ⟨s7, A7, n7, c7, B7, m7, d7, rfl⟩ := own6.form) | fail)
            all_goals
              have hb9 : Below wc.heap.size wc w7 := (by have z0 := Below.size hb6; have z1 := Below.size hb7; (try simp only [ZA, ZS, ZD, ZN] at z0 z1 ⊢; skip); repeat' (first | (with_reducible exact Below.refl _ _) | (with_reducible assumption) | (with_reducible refine Below.alloc ?_ ?_ _) | (with_reducible refine Below.drew ?_) | (with_reducible refine below_drewN ?_ _) | (with_reducible refine Below.setCell ?_ ?_ _) | (with_reducible refine Below.trans ?_ (Below.mono (by with_reducible assumption) ?_)) | omega | (simp only [ZA, ZS, ZD, ZN]; omega) | go_size))
              have ow := HOC.out.below hb9
              have o4 := ow.set hFl ((own6.below hb7).rs (b0 := b0))
              have o5 := o4.1.set hTl ((own7.rs (b0 := b0)).kp (ow.kp o4.2))
              have ho5 := o5.1
              rw [upd_can, upd_can, ← HX1.out] at ho5
              have hgt := grown_trans HGR.out (grown_trans (grown_of_below (HBC.out.trans (hb9.mono (by omega))) _) (grown_trans o4.2 o5.2))
              have HO5 := Lib.hid ho5
              have HGT := Lib.hid hgt
              clear ow o4 o5 ho5 hgt
              go_wp2
              go_roundw
              case rel => exact ⟨k + 1, by omega, by go_num, HO5.out, HGT.out⟩
              case measure => simp [intOf]; omega
    · have hkn : k = nm := by omega
      subst hkn
      have HO := Lib.hid own
      have HB := Lib.hid hbw
      clear own hgr hbw
      go_wp2
      go_ret2
      exact ⟨⟨_, _, rfl, HO.out, fun q hq => by have h2 : g = q := (by injection hq); omega⟩, HB.out⟩
end Go.Proofs.YtlncafhgmbhocaaGreatDoor
