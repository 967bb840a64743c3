/- Contracts of functions and lemmas, used by the proofs of the given statements. No condition beyond those that each lemma names. -/
import Derived.Test.YtoiopnmphbnjaaaGreatDoorJChW1
import Derived.Test.YtoiopnmphbnjaaaGreatDoorJBase
import Derived.Test.YtoiopnmphbnjaaaGreatDoorJRetW
namespace Go.Proofs.YtoiopnmphbnjaaaGreatDoor
open Go.RowKit
set_option linter.unusedSimpArgs false
set_option linter.unusedVariables false
set_option maxRecDepth 20000
attribute [local irreducible] nv wp win plainB validR valR canR mvE chkM codeC exK
/-! ## package chain: exit, Exit -/
def Chn.f (c : Chn) (k : Nat) : Nat := (c.F k).toNat
def Chn.t (c : Chn) (k : Nat) : Nat := (c.T k).toNat
/-- the sum of the rates out of a state -/
def Chn.ex (c : Chn) (s : Nat) : Rat := exK c.f c.q s c.nm
def Chn.Ok (c : Chn) : Prop := OkC c.st c.sr c.nm c.F c.T c.q c.nd
theorem Chn.ok_iff {c : Chn} : c.code = 0 ↔ c.Ok := codeC_ok
/-- the rates and their sums are short -/
structure SizC (c : Chn) (L : Nat) : Prop where
  nm : c.nm ≤ 1000000
  L1 : 1 ≤ L
  L2 : L ≤ 1000
  raw : ∀ k, k < c.nm → (c.R k).2.1.length ≤ L ∧ (c.R k).2.2.length ≤ L
  ex : ∀ s k, k ≤ c.nm → Sz L (exK c.f c.q s k)
/-- a row of the call's own, its words in blocks of words -/
def OwV (w : World) (base : Nat) (A : Option Addr) (c n : Nat) (x : Nat → Rat) : Prop := OwR w 0 A c n (can x) ∧ ∀ q, (Value.slice A n c).ownBlock = some q → base ≤ q
theorem OwV.base_ {w : World} {b b' c n : Nat} {A : Option Addr} {x : Nat → Rat} (h : OwV w b A c n x) (hb : b' ≤ b) : OwV w b' A c n x := ⟨h.1, fun q hq => Nat.le_trans hb (h.2 q hq)⟩
theorem OwV.ra {w : World} {b c n : Nat} {A : Option Addr} {x : Nat → Rat} (h : OwV w b A c n x) : RowA w 0 A n (can x) := h.1.ra
theorem OwR.alloc {w : World} {b0 c n : Nat} {A : Option Addr} {R : Nat → Rw} (h : OwR w b0 A c n R) (o : Obj) : OwR (w.alloc o) b0 A c n R := h.below ((Below.refl _ _).alloc (Nat.le_refl _) o)
/-- a store into a block of other cells than words -/
theorem Kp.store {b0 : Nat} {w w2 : World} (h : Kp b0 w w2) {p : Addr} {cur : Array Value} {e : TypeId} {fz : Nat × Nat} (hg : w2.heap[p.block]? = some (.cells cur e fz)) (he : e ≠ 157) (hb : b0 ≤ p.block) (u : Value) : Kp b0 w (w2.setCell p u) := by
  refine h.trans ⟨rfl, rfl, rfl, by simp, fun k hk hw => Below.heap_setCell w2 p u k ?_⟩
  intro e1
  rcases hw with hw | ⟨cur', fz', hw⟩
  · omega
  · rw [e1, hg] at hw
    injection hw with hw
    injection hw with _ hw _
    exact he hw
/-- three cells are stored -/
theorem set3 {w : World} {g o : Nat} {a b d a' b' d' : Value} (h0 : w.cell? ⟨g, o, none⟩ = some a') (h1 : w.cell? ⟨g, o + 1, none⟩ = some b') (h2 : w.cell? ⟨g, o + 2, none⟩ = some d') :
    (((w.setCell ⟨g, o, none⟩ a).setCell ⟨g, o + 1, none⟩ b).setCell ⟨g, o + 2, none⟩ d).cell? ⟨g, o, none⟩ = some a ∧ (((w.setCell ⟨g, o, none⟩ a).setCell ⟨g, o + 1, none⟩ b).setCell ⟨g, o + 2, none⟩ d).cell? ⟨g, o + 1, none⟩ = some b ∧ (((w.setCell ⟨g, o, none⟩ a).setCell ⟨g, o + 1, none⟩ b).setCell ⟨g, o + 2, none⟩ d).cell? ⟨g, o + 2, none⟩ = some d := by
  have n1 : (⟨g, o + 1, none⟩ : Addr) ≠ ⟨g, o, none⟩ := fun e => by injection e with _ e; omega
  have n2 : (⟨g, o + 2, none⟩ : Addr) ≠ ⟨g, o, none⟩ := fun e => by injection e with _ e; omega
  have n3 : (⟨g, o + 2, none⟩ : Addr) ≠ ⟨g, o + 1, none⟩ := fun e => by injection e with _ e; omega
  refine ⟨?_, ?_, ?_⟩
  · rw [World.cell?_setCell_other (h := n2), World.cell?_setCell_other (h := n1)]; exact World.cell?_setCell_same _ _ _ h0
  · rw [World.cell?_setCell_other (h := n3)]; exact World.cell?_setCell_same (u := b') _ _ _ (by rw [World.cell?_setCell_other (h := Ne.symm n1)]; exact h1)
  · exact World.cell?_setCell_same (u := d') _ _ _ (by rw [World.cell?_setCell_other (h := Ne.symm n3), World.cell?_setCell_other (h := Ne.symm n2)]; exact h2)
set_option maxHeartbeats 4000000 in
theorem exit_any {w : World} {AM AD : Option Addr} {cm cd L : Nat} {c : Chn} (h : ChI w w.heap.size AM cm AD cd c) (ok : c.Ok) (hs : SizC c L) :
    Calls Tryz.prog 77 #[cv c.st c.sr AM c.nm cm AD c.nd cd] w fun e w' => RetW w.heap.size c.nd c.ex e w' ∧ Below w.heap.size w w' := by
  obtain ⟨x, hx⟩ : ∃ x : Nat → Nat → Rat, x = fun k s => exK c.f c.q s k := ⟨_, rfl⟩
  have hex : c.ex = x c.nm := by rw [hx]; rfl
  have hx0 : ∀ s, x 0 s = 0 := fun s => by rw [hx]; unfold exK; rfl
  have hxs : ∀ k s, x (k + 1) s = if c.f k = s then x k s + valR (c.R k) else x k s := fun k s => by rw [hx]; show exK c.f c.q s (k + 1) = _; rw [exK]; rfl
  have hsz : ∀ s k, k ≤ c.nm → Sz L (x k s) := fun s k hk => by rw [hx]; exact hs.ex s k hk
  have hmv := ok.mv
  have hst := ok.st
  have hnd := ok.hi
  have hL1 := hs.L1
  have hL2 := hs.L2
  have hraw := hs.raw
  have hnm := hs.nm
  have hM := h.mv.1
  rw [hex]
  clear h ok hs hx hex
  obtain ⟨f, hf⟩ : ∃ f : Nat → Nat, f = c.f := ⟨_, rfl⟩
  rw [← hf] at hxs
  have hfk : ∀ k, k < c.nm → c.F k = (f k : Int) ∧ f k < c.nd := fun k hk => by
    have := hmv k hk
    rw [hf]
    unfold Chn.f
    omega
  clear hmv hf
  obtain ⟨st, sr, nm, F, T, R, nd, D⟩ := c
  simp only at *
  subst hst
  have HX0 := Lib.hid hx0
  have HXS := Lib.hid hxs
  have HZ := Lib.hid hsz
  have HF := Lib.hid hfk
  have HR := Lib.hid hraw
  have HM := Lib.hid hM
  clear hx0 hxs hsz hfk hraw hM
  go_enter Tryz.func77, Tryz.ntmps77
  go_wp2_with (at_make; refine wpList_makeR rfl (.tmp 7) (.tmp 7) rfl 0 nd (nd : Int) (nd : Int) (by simp [Act.eval]) (by simp [Act.eval]) rfl rfl (by omega) (Nat.zero_le _) ?_; intro w1 own1 hb1; have y0 : w1.cell? ⟨w.heap.size, 2, none⟩ = some (.slice AM nm cm) := (hb1.cell (p := ⟨w.heap.size, 2, none⟩) (by simp)).trans (by simp))
  have hz1 := hb1.size
  simp only [World.size_alloc] at hz1 own1
  have hlt1 := own1.lt
  have hb1' : Below w.heap.size w w1 := ((Below.refl _ _).alloc (Nat.le_refl _) _).trans (hb1.mono (by simp))
  go_loopw [12] (fun i wr => ∃ k : Nat, k ≤ nm ∧ i = .int .i64 (k : Int) ∧ OwR wr 0 (some ⟨w.heap.size + 1, 0, none⟩) nd nd (can (x k)) ∧ w1.grownBy wr (some (w.heap.size + 1))) (fun i _ => nm - (intOf i).toNat)
  case atStart => exact ⟨0, Nat.zero_le _, rfl, own1.congr (fun s _ => by unfold can; rw [HX0.out]), World.grownBy.refl w1 _⟩
  case round =>
    obtain ⟨k, hk, rfl, own, hgr⟩ := hrel
    have hz := hgr.size
    have hfz := own.frozen
    have hkp : Kp w.heap.size w wr := (Kp.of_below hb1').trans ((own1.raise (b := w.heap.size) (fun q hq => by have h2 : w.heap.size + 1 = q := (by injection hq); omega)).kp hgr)
    have hbw : Below w.heap.size w wr := hb1'.trans (below_of_row hgr (fun q hq => by injection hq with hq; omega) (by omega))
    by_cases hlt : k < nm
    · obtain ⟨b, off, s, A1, n1, c1, B1, m1, d1, rfl, hbb, f0, f1, f2, f3, f4, r0⟩ := HM.out.at_ hlt
      obtain ⟨hFk, hFl⟩ := HF.out k hlt
      rw [hFk] at f0
      obtain ⟨u, hu⟩ : ∃ u, u = f k := ⟨_, rfl⟩
      rw [← hu] at f0 hFl
      obtain ⟨z1, z2⟩ := HR.out k hlt
      have r1 := (r0.kp hkp).rdq z1 z2
      have tc : ∀ {o : Nat} {v : Value}, w.cell? ⟨b, o, none⟩ = some v → wr.cell? ⟨b, o, none⟩ = some v := fun h => (hbw.cell (lt_of_cell h)).trans h
      have x0 := tc f0
      have x1 := tc f1
      have x2 := tc f2
      have x3 := tc f3
      have x4 := tc f4
      have y1 : wr.cell? ⟨w.heap.size, 2, none⟩ = some (.slice (some ⟨b, off, none⟩) nm cm) := (grown_at hgr 2 (by omega) (by omega)).trans y0
      obtain ⟨s3, A3, n3, c3', B3, m3, d3, g0, g1, g2, r3⟩ := own.at_ hFl
      have q3 := r3.canQ (HZ.out u k hk)
      have K1 := Lib.hid (fun W (hb : Below wr.heap.size wr W) => addQ (q3.below hb) (r1.below hb) hL1 (by omega))
      have hk0 : (0 : Int) ≤ (k : Int) := by omega
      have hk1 : (k : Int) < (nm : Int) := by omega
      have hu1 : (u : Int) < (nd : Int) := by omega
      have ne1 : ¬ (wr.heap.size = w.heap.size + 1) := by omega
      have ne2 : ¬ (w.heap.size + 1 = wr.heap.size) := by omega
      have HGR := Lib.hid hgr
      have HU := Lib.hid hu
      have HB := Lib.hid hbw
      clear f0 f1 f2 f3 f4 r0 r1 q3 r3 tc hFk hgr hu hbw
      (have olc := fun o i => below_at ((Below.refl wr.heap.size wr).alloc (Nat.le_refl _) o) (w.heap.size) i (by omega)); (have olf := fun o i => below_fr ((Below.refl wr.heap.size wr).alloc (Nat.le_refl _) o) (w.heap.size) i (by omega))
      (have omc := fun o i => below_at ((Below.refl wr.heap.size wr).alloc (Nat.le_refl _) o) (w.heap.size + 1) i (by omega)); (have omf := fun o i => below_fr ((Below.refl wr.heap.size wr).alloc (Nat.le_refl _) o) (w.heap.size + 1) i (by omega))
      go_wp2
      rw [ld_later 56 (.tmp 22)]
      go_region_held3 (fun W => W.cell? ⟨wr.heap.size, 0, none⟩ = some (.int .i64 (u : Int)) ∧ W.cell? ⟨wr.heap.size, 2, none⟩ = some (.bool s) ∧ W.cell? ⟨wr.heap.size, 3, none⟩ = some (.slice A1 n1 c1) ∧ W.cell? ⟨wr.heap.size, 4, none⟩ = some (.slice B1 m1 d1)) (go_keep)
        (first | ((go_at_call 22; (with_reducible refine (K1.out _ (by (skip); repeat' (first | (with_reducible exact Below.refl _ _) | (with_reducible assumption) | (with_reducible refine Below.alloc ?_ ?_ _) | (with_reducible refine Below.drew ?_) | (with_reducible refine below_drewN ?_ _) | (with_reducible refine Below.setCell ?_ ?_ _) | (with_reducible refine Below.trans ?_ (Below.mono (by with_reducible assumption) ?_)) | omega | (simp only [ZA, ZS, ZD, ZN]; omega) | go_size))).mono ?_); rintro e w3 ⟨⟨v3, rfl, own3⟩, hb3⟩; have hb3z := Below.size hb3; (try simp only [ZA, ZS, ZD] at hb3z); have hb3c0 := fun o => below_at hb3 (w.heap.size + 1) o (by first | omega | (simp only [ZA, ZS, ZD]; omega)); have hb3f0 := fun o => below_fr hb3 (w.heap.size + 1) o (by first | omega | (simp only [ZA, ZS, ZD]; omega)); have hb3l0 : w.heap.size + 1 < (w3).heap.size := (by omega); have hb3c1 := fun o => below_at hb3 (wr.heap.size) o (by first | omega | (simp only [ZA, ZS, ZD]; omega)); have hb3f1 := fun o => below_fr hb3 (wr.heap.size) o (by first | omega | (simp only [ZA, ZS, ZD]; omega)); have hb3l1 : wr.heap.size < (w3).heap.size := (by omega)); obtain ⟨s4, A4, n4, c4, B4, m4, d4, rfl⟩ := own3.form) | fail)
      all_goals
        have hb9 : Below wr.heap.size wr w3 := (by have z0 := Below.size hb3; (try simp only [ZA, ZS, ZD, ZN] at z0 ⊢; skip); repeat' (first | (with_reducible exact Below.refl _ _) | (with_reducible assumption) | (with_reducible refine Below.alloc ?_ ?_ _) | (with_reducible refine Below.drew ?_) | (with_reducible refine below_drewN ?_ _) | (with_reducible refine Below.setCell ?_ ?_ _) | (with_reducible refine Below.trans ?_ (Below.mono (by with_reducible assumption) ?_)) | omega | (simp only [ZA, ZS, ZD, ZN]; omega) | go_size))
        have o4 := (own.below hb9).set hFl (own3.rs (b0 := 0))
        have HO := Lib.hid o4
        clear o4
        go_wp2
        go_roundw
        case rel =>
          refine ⟨k + 1, by omega, by go_num, HO.out.1.congr fun s hs => ?_, grown_trans HGR.out (grown_trans (grown_of_below hb9 _) HO.out.2)⟩
          unfold upd can
          rw [HXS.out k s, ← HU.out]
          by_cases e : s = u
          · subst e; simp
          · simp [e, Ne.symm e]
        case measure => simp [intOf]; omega
    · have hkn : k = nm := by omega
      subst hkn
      have HO := Lib.hid own
      clear own hgr
      go_wp2
      go_ret
      exact ⟨⟨_, _, rfl, HO.out, fun q hq => by have h2 : w.heap.size + 1 = q := (by injection hq); omega⟩, hbw⟩
def RetVe (base n : Nat) (x : Nat → Rat) (code : Int) (e : Ending) (w' : World) : Prop := if code = 0 then ∃ A c, e = .returned (.tuple #[.slice A n c, .nilIface]) ∧ OwV w' base A c n x else e = .returned (.tuple #[.slice none 0 0, errM code])
set_option maxHeartbeats 4000000 in
theorem Exit_any {w : World} {AM AD : Option Addr} {cm cd L : Nat} {c : Chn} (h : ChI w w.heap.size AM cm AD cd c) (hs : c.Ok → SizC c L) (hn : c.nm ≤ 1000000) (hz : Short c.nm c.R) :
    Calls Tryz.prog 30 #[cv c.st c.sr AM c.nm cm AD c.nd cd] w fun e w' => RetVe w.heap.size c.nd c.ex c.code e w' ∧ Below w.heap.size w w' := by
  have K1 := Lib.hid (fun W (hb : Below w.heap.size w W) => chCheck (h.below hb) hn hz)
  have hok := Chn.ok_iff (c := c)
  obtain ⟨cc, hcc⟩ : ∃ cc, cc = c.code := ⟨_, rfl⟩
  obtain ⟨X, hX⟩ : ∃ X, X = c.ex := ⟨_, rfl⟩
  rw [← hcc] at K1 hok ⊢
  rw [← hX]
  clear hcc
  by_cases h0 : cc = 0
  · have ok := hok.1 h0
    have K2 := Lib.hid (fun W (hb : Below w.heap.size w W) => exit_any (h.below hb) ok (hs ok))
    rw [← hX] at K2
    rw [h0, errM_0] at K1
    have H0 := Lib.hid h0
    clear h0 ok h hs hz hok hX
    obtain ⟨st, sr, nm, F, T, R, nd, D⟩ := c
    simp only at *
    go_enter Tryz.func30, Tryz.ntmps30
    (go_wp2_with fail; (with_reducible refine (K1.out _ (by (skip); repeat' (first | (with_reducible exact Below.refl _ _) | (with_reducible assumption) | (with_reducible refine Below.alloc ?_ ?_ _) | (with_reducible refine Below.drew ?_) | (with_reducible refine below_drewN ?_ _) | (with_reducible refine Below.setCell ?_ ?_ _) | (with_reducible refine Below.trans ?_ (Below.mono (by with_reducible assumption) ?_)) | omega | (simp only [ZA, ZS, ZD, ZN]; omega) | go_size))).mono ?_); rintro e w1 ⟨rfl, hb1⟩; have hb1z := Below.size hb1; (try simp only [ZA, ZS, ZD, ZN] at hb1z); have hb1c0 := fun o => below_at hb1 (w.heap.size) o (by first | omega | (simp only [ZA, ZS, ZD, ZN]; omega)); have hb1f0 := fun o => below_fr hb1 (w.heap.size) o (by first | omega | (simp only [ZA, ZS, ZD, ZN]; omega)))
    (go_wp2_with fail; (with_reducible refine (K2.out _ (by have z0 := Below.size hb1; (try simp only [ZA, ZS, ZD, ZN] at z0 ⊢; skip); repeat' (first | (with_reducible exact Below.refl _ _) | (with_reducible assumption) | (with_reducible refine Below.alloc ?_ ?_ _) | (with_reducible refine Below.drew ?_) | (with_reducible refine below_drewN ?_ _) | (with_reducible refine Below.setCell ?_ ?_ _) | (with_reducible refine Below.trans ?_ (Below.mono (by with_reducible assumption) ?_)) | omega | (simp only [ZA, ZS, ZD, ZN]; omega) | go_size))).mono ?_); rintro e w2 ⟨⟨A, c, rfl, own⟩, hb2⟩; have hb2z := Below.size hb2; (try simp only [ZA, ZS, ZD, ZN] at hb2z))
    go_wp2
    go_ret2
    refine ⟨?_, (by have z0 := Below.size hb1; have z1 := Below.size hb2; (try simp only [ZA, ZS, ZD, ZN] at z0 z1 ⊢; skip); repeat' (first | (with_reducible exact Below.refl _ _) | (with_reducible assumption) | (with_reducible refine Below.alloc ?_ ?_ _) | (with_reducible refine Below.drew ?_) | (with_reducible refine below_drewN ?_ _) | (with_reducible refine Below.setCell ?_ ?_ _) | (with_reducible refine Below.trans ?_ (Below.mono (by with_reducible assumption) ?_)) | omega | (simp only [ZA, ZS, ZD, ZN]; omega) | go_size))⟩
    unfold RetVe
    rw [if_pos H0.out]
    exact ⟨_, _, rfl, OwV.base_ own (by simp at *; omega)⟩
  · have hE := errM_n h0
    rw [hE] at K1
    have H0 := Lib.hid h0
    have HE := Lib.hid hE
    clear h0 h hs hz hE hok hX
    obtain ⟨st, sr, nm, F, T, R, nd, D⟩ := c
    simp only at *
    go_enter Tryz.func30, Tryz.ntmps30
    (go_wp2_with fail; (with_reducible refine (K1.out _ (by (skip); repeat' (first | (with_reducible exact Below.refl _ _) | (with_reducible assumption) | (with_reducible refine Below.alloc ?_ ?_ _) | (with_reducible refine Below.drew ?_) | (with_reducible refine below_drewN ?_ _) | (with_reducible refine Below.setCell ?_ ?_ _) | (with_reducible refine Below.trans ?_ (Below.mono (by with_reducible assumption) ?_)) | omega | (simp only [ZA, ZS, ZD, ZN]; omega) | go_size))).mono ?_); rintro e w1 ⟨rfl, hb1⟩; have hb1z := Below.size hb1; (try simp only [ZA, ZS, ZD, ZN] at hb1z); have hb1c0 := fun o => below_at hb1 (w.heap.size) o (by first | omega | (simp only [ZA, ZS, ZD, ZN]; omega)); have hb1f0 := fun o => below_fr hb1 (w.heap.size) o (by first | omega | (simp only [ZA, ZS, ZD, ZN]; omega)))
    go_wp2
    go_ret2
    refine ⟨?_, (by have z0 := Below.size hb1; (try simp only [ZA, ZS, ZD, ZN] at z0 ⊢; skip); repeat' (first | (with_reducible exact Below.refl _ _) | (with_reducible assumption) | (with_reducible refine Below.alloc ?_ ?_ _) | (with_reducible refine Below.drew ?_) | (with_reducible refine below_drewN ?_ _) | (with_reducible refine Below.setCell ?_ ?_ _) | (with_reducible refine Below.trans ?_ (Below.mono (by with_reducible assumption) ?_)) | omega | (simp only [ZA, ZS, ZD, ZN]; omega) | go_size))⟩
    unfold RetVe
    rw [if_neg H0.out, HE.out]
    rfl
end Go.Proofs.YtoiopnmphbnjaaaGreatDoor
