/- Contracts of functions and lemmas, used by the proofs of the given statements. No condition beyond those that each lemma names. -/
import Derived.Test.YtglpknhcneggeaaGreatDoorTrR6
namespace Go.Proofs.YtglpknhcneggeaaGreatDoor
open Go.RowKit
set_option linter.unusedSimpArgs false
set_option linter.unusedVariables false
set_option maxRecDepth 20000
attribute [local irreducible] nv wp win plainB validR valR canR mvE chkM codeC exK maxF dsum
/-! ## reference: After -/
def RetVxc (n : Nat) (x : Nat → Rat) (code : Int) (e : Ending) (w' : World) : Prop := if code = 0 then ∃ A c b, e = .returned (.tuple #[.slice A n c, .int .i64 0]) ∧ b ≤ w'.heap.size ∧ OwR w' b A c n (can x) else e = .returned (.tuple #[.slice none 0 0, .int .i64 code])
theorem retVxc_0 {n : Nat} {x : Nat → Rat} {code : Int} {A : Option Addr} {c b : Nat} {w' : World} (h : code = 0) (hb : b ≤ w'.heap.size) (hr : OwR w' b A c n (can x)) : RetVxc n x code (.returned (.tuple #[.slice A n c, .int .i64 0])) w' := by
  unfold RetVxc; rw [if_pos h]; exact ⟨A, c, b, rfl, hb, hr⟩
theorem retVxc_n {n : Nat} {x : Nat → Rat} {code : Int} {w' : World} (h : code ≠ 0) : RetVxc n x code (.returned (.tuple #[.slice none 0 0, .int .i64 code])) w' := by
  unfold RetVxc; rw [if_neg h]
set_option maxHeartbeats 4000000 in
theorem rafter_any {w : World} {AM AD : Option Addr} {cm cd L : Nat} {c : Chn} {v : Value} {r : Rw} {n : Int} (h : ChI w w.heap.size AM cm AD cd c) (hs : ChS c L) (hr : RdS w w.heap.size v r) (hr1 : r.2.1.length ≤ 4) (hr2 : r.2.2.length ≤ 4)
    (hst : c.codeN r n = 0 → ∀ k : Nat, (k : Int) < n → StS c (valR r) (c.run false (valR r) k) L) :
    Calls Tryz.prog 17 #[cv c.st c.sr AM c.nm cm AD c.nd cd, v, .int .i64 n] w fun e w' => RetVxc c.nd (c.run false (valR r) n.toNat) (c.codeN r n) e w' ∧ Below w.heap.size w w' := by
  have K1 := Lib.hid (fun W (hb : Below w.heap.size w W) => given_any (n := n) (h.below hb) hs ((hr.kp (Kp.of_below hb)).base hb.size) hr1 hr2)
  have K2 := Lib.hid (fun W (hb : Below w.heap.size w W) => rstart_any (h.below hb) hs)
  have hN := Chn.codeN_0 (c := c) (r := r) (n := n)
  have hR0 := Chn.codeR_0 (c := c) (r := r)
  have hok := Chn.ok_iff (c := c)
  obtain ⟨ct, hct⟩ : ∃ ct, ct = c.codeN r n := ⟨_, rfl⟩
  obtain ⟨X, hX⟩ : ∃ X, X = c.run false (valR r) := ⟨_, rfl⟩
  rw [← hct] at K1 hN hst ⊢
  rw [← hX] at hst ⊢
  obtain ⟨s0, A0, n0, c0, B0, m0, d0, rfl⟩ := hr.form
  by_cases h0 : ct = 0
  · obtain ⟨hN1, h1, h2⟩ := hN h0
    obtain ⟨k1, k2, k3⟩ := hR0 hN1
    have ok := hok.1 k1
    obtain ⟨m, rfl⟩ : ∃ m : Nat, n = (m : Int) := ⟨n.toNat, by omega⟩
    have hm : m ≤ 48 := by omega
    have hst3 := hst h0
    have hrc : RdS w w.heap.size (rv s0 A0 n0 c0 B0 m0 d0) (canR (valR r)) := by rw [valR_pos_can hr.ok k2]; exact hr
    have K3 : Hid (∀ W (k : Nat) AV ca, k < m → Below w.heap.size w W → OwR W w.heap.size AV ca c.nd (can (X k)) → Calls Tryz.prog 57 #[cv c.st c.sr AM c.nm cm AD c.nd cd, rv s0 A0 n0 c0 B0 m0 d0, .slice AV c.nd ca] W fun e w' => (∃ A' c', e = .returned (.slice A' c.nd c') ∧ OwF w' w.heap.size W.heap.size A' c' c.nd (X (k + 1))) ∧ Below W.heap.size W w') := by
      show ∀ _, _
      intro W k AV ca hk hb hv
      have := rstep_any (ca := ca) (h.below hb) ok ((hrc.kp (Kp.of_below hb)).base hb.size) (fun e => by rw [e] at k2; exact absurd k2 (by decide)) hv.ra hb.size (hst3 k (by omega))
      rw [hX] at this ⊢
      exact this
    rw [k1] at K2
    have hX0 : c.v0 = X 0 := by rw [hX]; rfl
    rw [hX0] at K2
    have H0 := Lib.hid h0
    rw [h0] at K1
    rw [Int.toNat_natCast]
    clear hN hR0 hok hct hX k1 k2 k3 ok h0 h1 h2 hN1 h hs hr hst hst3 hrc hX0
    obtain ⟨st, sr, nm, F, T, R', nd, D⟩ := c
    simp only at *
    go_enter Tryz.func17, Tryz.ntmps17
    (go_wp2_with fail; (with_reducible refine (K1.out _ (by (skip); repeat' (first | (with_reducible exact Below.refl _ _) | (with_reducible assumption) | (with_reducible refine Below.alloc ?_ ?_ _) | (with_reducible refine Below.drew ?_) | (with_reducible refine below_drewN ?_ _) | (with_reducible refine Below.setCell ?_ ?_ _) | (with_reducible refine Below.trans ?_ (Below.mono (by with_reducible assumption) ?_)) | omega | (simp only [World.size_alloc, World.size_setCell, World.size_drew, size_drewN']; omega) | go_size))).mono ?_); rintro e w1 ⟨rfl, hb1⟩; have hb1z := Below.size hb1; (try simp only [World.size_alloc, World.size_setCell, World.size_drew, size_drewN'] at hb1z); have hb1c0 := fun o => below_at hb1 (w.heap.size) o (by first | omega | (simp only [World.size_alloc, World.size_setCell, World.size_drew, size_drewN']; omega)); have hb1f0 := fun o => below_fr hb1 (w.heap.size) o (by first | omega | (simp only [World.size_alloc, World.size_setCell, World.size_drew, size_drewN']; omega)); have hb1c1 := fun o => below_at hb1 (w.heap.size + 1) o (by first | omega | (simp only [World.size_alloc, World.size_setCell, World.size_drew, size_drewN']; omega)); have hb1f1 := fun o => below_fr hb1 (w.heap.size + 1) o (by first | omega | (simp only [World.size_alloc, World.size_setCell, World.size_drew, size_drewN']; omega)))
    (go_wp2_with fail; (with_reducible refine (K2.out _ (by have z0 := Below.size hb1; (try simp only [World.size_alloc, World.size_setCell, World.size_drew, size_drewN'] at z0 ⊢; skip); repeat' (first | (with_reducible exact Below.refl _ _) | (with_reducible assumption) | (with_reducible refine Below.alloc ?_ ?_ _) | (with_reducible refine Below.drew ?_) | (with_reducible refine below_drewN ?_ _) | (with_reducible refine Below.setCell ?_ ?_ _) | (with_reducible refine Below.trans ?_ (Below.mono (by with_reducible assumption) ?_)) | omega | (simp only [World.size_alloc, World.size_setCell, World.size_drew, size_drewN']; omega) | go_size))).mono ?_); rintro e w2 ⟨hR, hb2⟩; have hb2z := Below.size hb2; (try simp only [World.size_alloc, World.size_setCell, World.size_drew, size_drewN'] at hb2z); have hb2c0 := fun o => below_at hb2 (w.heap.size) o (by first | omega | (simp only [World.size_alloc, World.size_setCell, World.size_drew, size_drewN']; omega)); have hb2f0 := fun o => below_fr hb2 (w.heap.size) o (by first | omega | (simp only [World.size_alloc, World.size_setCell, World.size_drew, size_drewN']; omega)); have hb2c1 := fun o => below_at hb2 (w.heap.size + 1) o (by first | omega | (simp only [World.size_alloc, World.size_setCell, World.size_drew, size_drewN']; omega)); have hb2f1 := fun o => below_fr hb2 (w.heap.size + 1) o (by first | omega | (simp only [World.size_alloc, World.size_setCell, World.size_drew, size_drewN']; omega)))
    unfold RetVc at hR
    rw [if_pos rfl] at hR
    obtain ⟨A2, c2, rfl, own2⟩ := hR
    have hw2 : w.heap.size + 1 < w2.heap.size := by have := hb1.size; have := hb2.size; simp at *; omega
    have ow2 : OwR w2 w.heap.size A2 c2 nd (can (X 0)) := OwV.rs own2 (by have := hb1.size; simp at *; omega)
    have y0 : w2.cell? ⟨w.heap.size, 0, none⟩ = some (.int .i64 st) := by rw [hb2c0, hb1c0]; simp
    have y1 : w2.cell? ⟨w.heap.size, 1, none⟩ = some (.int .i64 sr) := by rw [hb2c0, hb1c0]; simp
    have y2 : w2.cell? ⟨w.heap.size, 2, none⟩ = some (.slice AM nm cm) := by rw [hb2c0, hb1c0]; simp
    have y3 : w2.cell? ⟨w.heap.size, 3, none⟩ = some (.slice AD nd cd) := by rw [hb2c0, hb1c0]; simp
    have y4 : w2.cell? ⟨w.heap.size + 1, 0, none⟩ = some (.bool s0) := by rw [hb2c1, hb1c1]; simp
    have y5 : w2.cell? ⟨w.heap.size + 1, 1, none⟩ = some (.slice A0 n0 c0) := by rw [hb2c1, hb1c1]; simp
    have y6 : w2.cell? ⟨w.heap.size + 1, 2, none⟩ = some (.slice B0 m0 d0) := by rw [hb2c1, hb1c1]; simp
    have hbw2 : Below w.heap.size w w2 := (by have z0 := Below.size hb1; have z1 := Below.size hb2; (try simp only [World.size_alloc, World.size_setCell, World.size_drew, size_drewN'] at z0 z1 ⊢; skip); repeat' (first | (with_reducible exact Below.refl _ _) | (with_reducible assumption) | (with_reducible refine Below.alloc ?_ ?_ _) | (with_reducible refine Below.drew ?_) | (with_reducible refine below_drewN ?_ _) | (with_reducible refine Below.setCell ?_ ?_ _) | (with_reducible refine Below.trans ?_ (Below.mono (by with_reducible assumption) ?_)) | omega | (simp only [World.size_alloc, World.size_setCell, World.size_drew, size_drewN']; omega) | go_size))
    clear hb1c0 hb1c1 hb1f0 hb1f1 hb2c0 hb2c1 hb2f0 hb2f1 own2
    go_wp2
    go_loopw [9, 24] (fun vv i wr => ∃ (k : Nat) (A9 : Option Addr) (c9 : Nat), k ≤ m ∧ i = .int .i64 (k : Int) ∧ vv = .slice A9 nd c9 ∧ OwR wr w.heap.size A9 c9 nd (can (X k)) ∧ Below w2.heap.size w2 wr) (fun _ i _ => m - (intOf i).toNat)
    case atStart => exact ⟨0, A2, c2, Nat.zero_le _, rfl, rfl, ow2, Below.refl _ _⟩
    case round =>
      obtain ⟨k, A9, c9, hk, rfl, rfl, ow9, hb⟩ := hrel
      have hbz := hb.size
      have hbw : Below w.heap.size w wr := hbw2.trans (hb.mono (by omega))
      by_cases hlt : k < m
      · have tv : ∀ {b o : Nat} {v : Value}, b < w.heap.size + 2 → w2.cell? ⟨b, o, none⟩ = some v → wr.cell? ⟨b, o, none⟩ = some v := fun hb9 h => (hb.cell (p := ⟨_, _, none⟩) (Nat.lt_of_lt_of_le hb9 (by omega))).trans h
        have z0 := tv (by omega) y0
        have z1 := tv (by omega) y1
        have z2 := tv (by omega) y2
        have z3 := tv (by omega) y3
        have z4 := tv (by omega) y4
        have z5 := tv (by omega) y5
        have z6 := tv (by omega) y6
        have hki : (k : Int) < (m : Int) := by omega
        have KS := Lib.hid (K3.out wr k A9 c9 hlt hbw ow9)
        clear ow9 tv
        (go_wp2_with fail; (with_reducible refine (KS.out).mono ?_); rintro e w7 ⟨⟨A7, c7, rfl, own7⟩, hb7⟩; have hb7z := Below.size hb7; (try simp only [World.size_alloc, World.size_setCell, World.size_drew, size_drewN'] at hb7z))
        have HO7 := Lib.hid own7
        clear own7
        go_wp2
        go_roundw
        case rel => exact ⟨k + 1, A7, c7, by omega, by go_num, rfl, HO7.out.1, hb.trans (hb7.mono hbz)⟩
        case measure => simp [intOf]; omega
      · have hkm : k = m := by omega
        subst hkm
        have HO := Lib.hid ow9
        clear ow9
        go_wp2
        go_ret2
        exact ⟨retVxc_0 H0.out hbw.size HO.out, hbw⟩
  · have H0 := Lib.hid h0
    have e5 : (ct != 0) = true := by simpa using h0
    have e6 : (ct == 0) = false := by simpa using h0
    clear hN hR0 hok hct hX h0 h hs hr hst K2
    obtain ⟨st, sr, nm, F, T, R', nd, D⟩ := c
    simp only at *
    go_enter Tryz.func17, Tryz.ntmps17
    (go_wp2_with fail; (with_reducible refine (K1.out _ (by (skip); repeat' (first | (with_reducible exact Below.refl _ _) | (with_reducible assumption) | (with_reducible refine Below.alloc ?_ ?_ _) | (with_reducible refine Below.drew ?_) | (with_reducible refine below_drewN ?_ _) | (with_reducible refine Below.setCell ?_ ?_ _) | (with_reducible refine Below.trans ?_ (Below.mono (by with_reducible assumption) ?_)) | omega | (simp only [World.size_alloc, World.size_setCell, World.size_drew, size_drewN']; omega) | go_size))).mono ?_); rintro e w1 ⟨rfl, hb1⟩; have hb1z := Below.size hb1; (try simp only [World.size_alloc, World.size_setCell, World.size_drew, size_drewN'] at hb1z); have hb1c0 := fun o => below_at hb1 (w.heap.size) o (by first | omega | (simp only [World.size_alloc, World.size_setCell, World.size_drew, size_drewN']; omega)); have hb1f0 := fun o => below_fr hb1 (w.heap.size) o (by first | omega | (simp only [World.size_alloc, World.size_setCell, World.size_drew, size_drewN']; omega)); have hb1c1 := fun o => below_at hb1 (w.heap.size + 1) o (by first | omega | (simp only [World.size_alloc, World.size_setCell, World.size_drew, size_drewN']; omega)); have hb1f1 := fun o => below_fr hb1 (w.heap.size + 1) o (by first | omega | (simp only [World.size_alloc, World.size_setCell, World.size_drew, size_drewN']; omega)))
    go_wp2
    go_ret2
    exact ⟨retVxc_n H0.out, (by have z0 := Below.size hb1; (try simp only [World.size_alloc, World.size_setCell, World.size_drew, size_drewN'] at z0 ⊢; skip); repeat' (first | (with_reducible exact Below.refl _ _) | (with_reducible assumption) | (with_reducible refine Below.alloc ?_ ?_ _) | (with_reducible refine Below.drew ?_) | (with_reducible refine below_drewN ?_ _) | (with_reducible refine Below.setCell ?_ ?_ _) | (with_reducible refine Below.trans ?_ (Below.mono (by with_reducible assumption) ?_)) | omega | (simp only [World.size_alloc, World.size_setCell, World.size_drew, size_drewN']; omega) | go_size))⟩
end Go.Proofs.YtglpknhcneggeaaGreatDoor
