/- Contracts of functions and lemmas, used by the proofs of the given statements. No condition beyond those that each lemma names. -/
import Derived.Test.YtoiopnmphbnjaaaGreatDoorJSumRw
import Derived.Test.YtoiopnmphbnjaaaGreatDoorJBaseEq
import Derived.Test.YtoiopnmphbnjaaaGreatDoorJDynEx
namespace Go.Proofs.YtoiopnmphbnjaaaGreatDoor
open Go.RowKit
set_option linter.unusedSimpArgs false
set_option linter.unusedVariables false
set_option maxRecDepth 20000
attribute [local irreducible] nv wp win plainB validR valR canR mvE chkM codeC exK qK cT sT Chn.mvs sumN
/-! ## ChainSums -/
def SumX (w : World) (b : Nat) (q : Rat) : Prop := ∃ s A n c B m d, w.cell? ⟨b, 0, none⟩ = some (.bool s) ∧ w.cell? ⟨b, 1, none⟩ = some (.slice A n c) ∧ w.cell? ⟨b, 2, none⟩ = some (.slice B m d) ∧ RdS w 0 (rv s A n c B m d) (canR q)
structure SumI (wS w : World) (q : Rat) : Prop where
  sx : SumX w wS.heap.size q
  bel : Below wS.heap.size wS w
  lt : wS.heap.size < w.heap.size
  rb : RatB w wS.heap.size
  fz : ∀ i, w.frozen? ⟨wS.heap.size, i, none⟩ = false
theorem SumI.start (wS : World) : SumI wS (wS.alloc (.cells #[.bool false, .slice none 0 0, .slice none 0 0] 56)) 0 :=
  ⟨⟨false, none, 0, 0, none, 0, 0, (World.cell?_alloc_at _ _ _ _ (by simp)).trans rfl, (World.cell?_alloc_at _ _ _ _ (by simp)).trans rfl, (World.cell?_alloc_at _ _ _ _ (by simp)).trans rfl, (OwQ.zero _ 0).rs⟩, (Below.refl _ _).alloc (by simp) _, by simp, RatB.new wS _, fun i => World.frozen?_alloc_at _ _ _ _ (by simp)⟩
theorem SumI.below {wS w w' : World} {q : Rat} (h : SumI wS w q) (hb : Below w.heap.size w w') : SumI wS w' q := by
  obtain ⟨⟨s, A, n, c, B, m, d, g0, g1, g2, r⟩, hbel, hlt, hrb, hfz⟩ := h
  have hz := hbel.size
  exact ⟨⟨s, A, n, c, B, m, d, (below_at hb _ 0 hlt).trans g0, (below_at hb _ 1 hlt).trans g1, (below_at hb _ 2 hlt).trans g2, r.kp (Kp.of_below hb)⟩, hbel.trans (hb.mono hz), Nat.lt_of_lt_of_le hlt hb.size, hrb.below hb hlt, fun i => (below_fr hb _ i hlt).trans (hfz i)⟩
theorem SumI.put {wS w : World} {q q' : Rat} {base : Nat} {s : Bool} {A : Option Addr} {n c : Nat} {B : Option Addr} {m d : Nat} (h : SumI wS w q) (own : OwQ w base (rv s A n c B m d) q') :
    SumI wS (((w.setCell ⟨wS.heap.size, 0, none⟩ (.bool s)).setCell ⟨wS.heap.size, 1, none⟩ (.slice A n c)).setCell ⟨wS.heap.size, 2, none⟩ (.slice B m d)) q' := by
  obtain ⟨⟨s0, A0, n0, c0, B0, m0, d0, g0, g1, g2, r⟩, hbel, hlt, hrb, hfz⟩ := h
  have s9 := set3 (w := w) (g := wS.heap.size) (o := 0) (a := .bool s) (b := .slice A n c) (d := .slice B m d) g0 g1 g2
  refine ⟨⟨s, A, n, c, B, m, d, s9.1, s9.2.1, s9.2.2, own.rs.kp (Kp.store3 hrb (Nat.zero_le _) _ _ _)⟩, ((hbel.setCell (Nat.le_refl _) _).setCell (Nat.le_refl _) _).setCell (Nat.le_refl _) _, by simpa using hlt, ((hrb.set _ _).set _ _).set _ _, fun i => ?_⟩
  rw [World.frozen?_setCell, World.frozen?_setCell, World.frozen?_setCell]
  exact hfz i
theorem far3 {w : World} {g b o : Nat} {a x d v : Value} (h : w.cell? ⟨b, o, none⟩ = some v) (hne : g ≠ b) : (((w.setCell ⟨g, 0, none⟩ a).setCell ⟨g, 1, none⟩ x).setCell ⟨g, 2, none⟩ d).cell? ⟨b, o, none⟩ = some v := by
  rw [World.cell?_setCell_far _ ⟨g, 2, none⟩ ⟨b, o, none⟩ _ hne, World.cell?_setCell_far _ ⟨g, 1, none⟩ ⟨b, o, none⟩ _ hne, World.cell?_setCell_far _ ⟨g, 0, none⟩ ⟨b, o, none⟩ _ hne]
  exact h
theorem sgn_self (x : Rat) : sgnQ (x - x) = 0 := sgnQ_zero.2 (by grind)
set_option maxHeartbeats 32000000 in
theorem chainSums_law {w : World} {AM AD : Option Addr} {cm cd : Nat} {c : Chn} (h : ChI w w.heap.size AM cm AD cd c) (hmx : c.nm ≤ maxLen) (ht : TabW w) :
    Calls Tryz.prog 6 #[cv c.st c.sr AM c.nm cm AD c.nd cd] w fun e w' => e = .returned (.bool true) ∧ Below w.heap.size w w' := by
  have KA := Lib.hid (fun W (hb : Below w.heap.size w W) => awake49_any (ht.below hb))
  have KL := Lib.hid (fun W (hb : Below w.heap.size w W) => light49_any (h.below hb) hmx)
  have HI := Lib.hid (fun W (hb : Below w.heap.size w W) => h.below hb)
  have HOK9 := Lib.hid (fun k (hk : k < c.nm) => h.ok9 hk)
  clear h ht
  go_enter Tryz.func6, Tryz.ntmps6
  (go_wp2_with fail; (with_reducible refine (KA.out _ (by (skip); repeat' (first | (with_reducible exact Below.refl _ _) | (with_reducible assumption) | (with_reducible refine Below.alloc ?_ ?_ _) | (with_reducible refine Below.drew ?_) | (with_reducible refine below_drewN ?_ _) | (with_reducible refine Below.setCell ?_ ?_ _) | (with_reducible refine Below.trans ?_ (Below.mono (by with_reducible assumption) ?_)) | omega | (simp only [ZA, ZS, ZD, ZN]; omega) | go_size))).mono ?_); rintro e w1 ⟨rfl, hb1⟩; have hb1z := Below.size hb1; (try simp only [ZA, ZS, ZD, ZN] at hb1z); have hb1c0 := fun o => below_at hb1 (w.heap.size) o (by first | omega | (simp only [ZA, ZS, ZD, ZN]; omega)); have hb1f0 := fun o => below_fr hb1 (w.heap.size) o (by first | omega | (simp only [ZA, ZS, ZD, ZN]; omega)))
  have hB1 : Below w.heap.size w w1 := (by have z0 := Below.size hb1; (try simp only [ZA, ZS, ZD, ZN] at z0 ⊢; skip); repeat' (first | (with_reducible exact Below.refl _ _) | (with_reducible assumption) | (with_reducible refine Below.alloc ?_ ?_ _) | (with_reducible refine Below.drew ?_) | (with_reducible refine below_drewN ?_ _) | (with_reducible refine Below.setCell ?_ ?_ _) | (with_reducible refine Below.trans ?_ (Below.mono (by with_reducible assumption) ?_)) | omega | (simp only [ZA, ZS, ZD, ZN]; omega) | go_size))
  (go_wp2_with fail; (with_reducible refine (KL.out _ hB1).mono ?_); rintro e w2 ⟨⟨bb, rfl, hbb⟩, hb2⟩; have hb2z := Below.size hb2; (try simp only [ZA, ZS, ZD, ZN] at hb2z); have hb2c0 := fun o => below_at hb2 (w.heap.size) o (by first | omega | (simp only [ZA, ZS, ZD, ZN]; omega)); have hb2f0 := fun o => below_fr hb2 (w.heap.size) o (by first | omega | (simp only [ZA, ZS, ZD, ZN]; omega)))
  have hB2 : Below w.heap.size w w2 := hB1.trans (hb2.mono hB1.size)
  cases bb with
  | false =>
    clear hbb
    (go_wp2_with fail; (with_reducible refine (KA.out _ hB2).mono ?_); rintro e w3 ⟨rfl, hb3⟩; have hb3z := Below.size hb3; (try simp only [ZA, ZS, ZD, ZN] at hb3z))
    go_wp2
    go_ret
    exact ⟨rfl, hB2.trans (hb3.mono hB2.size)⟩
  | true =>
    have hlt := hbb (by trivial)
    clear hbb KL
    by_cases h40 : 40 < c.st
    · have e1 : decide (40 < c.st) = true := by simpa using h40
      clear h40
      (go_wp2_with fail; (with_reducible refine (KA.out _ hB2).mono ?_); rintro e w3 ⟨rfl, hb3⟩; have hb3z := Below.size hb3; (try simp only [ZA, ZS, ZD, ZN] at hb3z))
      go_wp2
      go_ret
      exact ⟨rfl, hB2.trans (hb3.mono hB2.size)⟩
    · have e1 : decide (40 < c.st) = false := by simpa using h40
      have hn6 : c.nm ≤ 1000000 := by have := hlt.nm; omega
      have hsh : Short c.nm c.R := fun k hk => by have := (hlt.br k hk).two; omega
      have hsz : c.Ok → SizC c 640 := fun ok => hlt.siz ok HOK9.out
      have KR := Lib.hid (fun W (hb : Below w.heap.size w W) => rows_any (HI.out W hb) hsz hn6 hsh)
      have KX := Lib.hid (fun W (hb : Below w.heap.size w W) => Exit_any (HI.out W hb) hsz hn6 hsh)
      have KM := Lib.hid (fun W s (hb : Below w.heap.size w W) => moves_any (s := s) (HI.out W hb) hn6 hsh)
      clear h40
      have hw2 : w.heap.size < w2.heap.size := by have := hb1.size; have := hb2.size; simp at *; omega
      have y0 : w2.cell? ⟨w.heap.size, 0, none⟩ = some (.int .i64 c.st) := by rw [hb2c0, hb1c0]; simp
      have y1 : w2.cell? ⟨w.heap.size, 1, none⟩ = some (.int .i64 c.sr) := by rw [hb2c0, hb1c0]; simp
      have y2 : w2.cell? ⟨w.heap.size, 2, none⟩ = some (.slice AM c.nm cm) := by rw [hb2c0, hb1c0]; simp
      have y3 : w2.cell? ⟨w.heap.size, 3, none⟩ = some (.slice AD c.nd cd) := by rw [hb2c0, hb1c0]; simp
      clear hb1c0 hb2c0 hb1f0 hb2f0 hb1 hb2 hB1
      by_cases h0 : c.code = 0
      · have ok := Chn.ok_iff.1 h0
        have hn1 := ok.lo
        have hnd : c.nd ≤ 40 := by have := ok.st; simp at e1; omega
        have KR3 : Hid (∀ W, Below w.heap.size w W → Calls Tryz.prog 29 #[cv c.st c.sr AM c.nm cm AD c.nd cd] W fun e w' => (∃ A cp, e = .returned (.tuple #[.slice A c.nd cp, .nilIface]) ∧ MatI w' w'.heap.size A c.nd (fun _ => c.nd) (fun i => can (c.Q i))) ∧ Below W.heap.size W w') := fun W hb => (KR.out W hb).mono fun e w' ⟨h1, h2⟩ => ⟨by unfold RetRw at h1; rw [if_pos h0] at h1; exact h1, h2⟩
        have KX3 : Hid (∀ W, Below w.heap.size w W → Calls Tryz.prog 30 #[cv c.st c.sr AM c.nm cm AD c.nd cd] W fun e w' => (∃ A cp, e = .returned (.tuple #[.slice A c.nd cp, .nilIface]) ∧ RowA w' 0 A c.nd (can c.ex)) ∧ Below W.heap.size W w') := fun W hb => (KX.out W hb).mono fun e w' ⟨h1, h2⟩ => ⟨by
          unfold RetVe at h1
          rw [if_pos h0] at h1
          obtain ⟨A, cp, he, ho⟩ := h1
          exact ⟨A, cp, he, ho.ra⟩, h2⟩
        obtain ⟨L, hL⟩ : ∃ L : Nat → List (Nat × Rat), L = fun i => c.mvs i c.nm := ⟨_, rfl⟩
        have KM3 : Hid (∀ W (k : Nat), k < c.nd → Below w.heap.size w W → Calls Tryz.prog 26 #[cv c.st c.sr AM c.nm cm AD c.nd cd, .int .i64 (k : Int)] W fun e w' => (∃ A cp, e = .returned (.tuple #[.slice A (L k).length cp, .nilIface]) ∧ OwT w' W.heap.size A cp k (L k)) ∧ Below W.heap.size W w') := fun W k hk hb => (KM.out W (k : Int) hb).mono fun e w' ⟨h1, h2⟩ => ⟨by
          unfold RetMv at h1
          have hst := ok.st
          rw [if_neg (by omega), if_neg (by omega)] at h1
          rw [hL]
          exact h1, h2⟩
        obtain ⟨N, hN⟩ : ∃ N : Nat → Nat → Nat, N = fun i j => cT (L i) j := ⟨_, rfl⟩
        have HN0 : Hid (∀ i, N i 0 = 0) := fun i => by rw [hN]; exact cT_ge fun p _ => Nat.zero_le _
        have HQD : Hid (∀ i, c.Q i i = -(c.ex i) ∧ N i (i + 1) = N i i) := fun i => by rw [hN, hL]; exact ⟨(Chn.Q_diag ok).1, (Chn.Q_diag ok).2.1⟩
        have HQO : Hid (∀ i j, j ≠ i → (c.Q i j = 0 ∧ N i (j + 1) = N i j) ∨ (0 < c.Q i j ∧ (L i)[N i j]? = some (j, c.Q i j) ∧ N i (j + 1) = N i j + 1)) := fun i j hj => by
          rw [hN, hL]
          rcases Chn.Q_off (i := i) ok hj with ⟨h1, h2, -⟩ | ⟨h1, h2, h3, -⟩
          · exact .inl ⟨h1, h2⟩
          · exact .inr ⟨h1, h2, h3⟩
        have HQZ : Hid (∀ i, i < c.nd → sumN (fun j => c.Q i j) c.nd = 0 ∧ N i c.nd = (L i).length) := fun i hi => by rw [hN, hL]; exact Chn.Q_zero ok hi
        have hall := hlt.all ok HOK9.out
        have HSQ : Hid (∀ i j, Sz 640 (c.Q i j)) := fun i j => hall.2.1 i j c.nm (Nat.le_refl _)
        have HSX : Hid (∀ i, Sz 640 (c.ex i)) := fun i => hall.1 i c.nm (Nat.le_refl _)
        have HSS : Hid (∀ i n, n ≤ 1000 → Sz 640 (sumN (fun j => c.Q i j) n)) := hall.2.2
        have HLL : Hid (∀ i, (L i).length ≤ 1000000) := fun i => by rw [hL]; show (c.mvs i c.nm).length ≤ _; have := c.mvs_len i c.nm; omega
        have hst := ok.st
        rw [hst] at KR3 KX3 KM3 y0 e1
        rw [hst]
        obtain ⟨Q, hQ⟩ : ∃ Q, Q = c.Q := ⟨_, rfl⟩
        obtain ⟨X, hX⟩ : ∃ X, X = c.ex := ⟨_, rfl⟩
        rw [← hQ] at KR3 HQD HQO HQZ HSQ HSS
        rw [← hX] at KX3 HQD HSX
        obtain ⟨st, sr, nm, F, T, R, nd, D⟩ := c
        simp only at *
        clear hall hQ hX hN hL hst ok h0 KR KX KM HI KA hlt hsz hsh HOK9 hmx hn6
        have hw9 := hB2.size
        (go_wp2_with fail; (with_reducible refine (KR3.out _ hB2).mono ?_); rintro e w3 ⟨⟨AQ, cQ, rfl, hQ⟩, hb3⟩; have hb3z := Below.size hb3; (try simp only [ZA, ZS, ZD, ZN] at hb3z); have hb3c0 := fun o => below_at hb3 (w.heap.size) o (by first | omega | (simp only [ZA, ZS, ZD, ZN]; omega)); have hb3f0 := fun o => below_fr hb3 (w.heap.size) o (by first | omega | (simp only [ZA, ZS, ZD, ZN]; omega)))
        have hB3 : Below w.heap.size w w3 := hB2.trans (hb3.mono hB2.size)
        (go_wp2_with fail; (with_reducible refine (KX3.out _ hB3).mono ?_); rintro e w4 ⟨⟨AX, cX, rfl, hX⟩, hb4⟩; have hb4z := Below.size hb4; (try simp only [ZA, ZS, ZD, ZN] at hb4z); have hb4c0 := fun o => below_at hb4 (w.heap.size) o (by first | omega | (simp only [ZA, ZS, ZD, ZN]; omega)); have hb4f0 := fun o => below_fr hb4 (w.heap.size) o (by first | omega | (simp only [ZA, ZS, ZD, ZN]; omega)))
        have hB4 : Below w.heap.size w w4 := hB3.trans (hb4.mono hB3.size)
        have hw4 : w.heap.size < w4.heap.size := by have := hb3.size; have := hb4.size; omega
        have z0 := (hb4c0 0).trans ((hb3c0 0).trans y0)
        have z1 := (hb4c0 1).trans ((hb3c0 1).trans y1)
        have z2 := (hb4c0 2).trans ((hb3c0 2).trans y2)
        have z3 := (hb4c0 3).trans ((hb3c0 3).trans y3)
        have e2 : ((nd : Int) != (nd : Int)) = false := by simp
        have HQ := Lib.hid (hQ.kp (Kp.of_below hb4))
        have HX := Lib.hid hX
        have hz34 := hb4.size
        clear hb3c0 hb4c0 hb3f0 hb4f0 y0 y1 y2 y3 KR3 KX3 hQ hX hb3 hb4 hB2 hB3
        go_wp2_with fail
        go_loopw [68] (fun i wr => ∃ k : Nat, k ≤ nd ∧ i = .int .i64 (k : Int) ∧ Below w4.heap.size w4 wr) (fun i _ => nd - (intOf i).toNat)
        case atStart => exact ⟨0, Nat.zero_le _, rfl, Below.refl _ _⟩
        case round =>
          obtain ⟨k, hk, rfl, hb⟩ := hrel
          have hbz := hb.size
          have hB : Below w.heap.size w wr := hB4.trans (hb.mono (by omega))
          by_cases hlt : k < nd
          · have q0 := (below_at hb w.heap.size 0 hw4).trans z0
            have q1 := (below_at hb w.heap.size 1 hw4).trans z1
            have q2 := (below_at hb w.heap.size 2 hw4).trans z2
            have q3 := (below_at hb w.heap.size 3 hw4).trans z3
            obtain ⟨bq, oq, Ar, cr, rfl, hbq, hcell, -, hrow⟩ := HQ.out.at_ hlt
            have hc0 := (below_at hb bq (oq + k) hbq).trans hcell
            have hk0 : (0 : Int) ≤ (k : Int) := by omega
            have hki : (k : Int) < (nd : Int) := by omega
            have HRow := Lib.hid hrow.ra
            have KMk := Lib.hid (KM3.out wr k hlt hB)
            have HBr := Lib.hid hb
            clear hrow hcell hb
            go_wp2_with fail
            refine KMk.out.mono ?_
            rintro e w5 ⟨⟨Am, cpm, rfl, own⟩, hb5⟩
            have hb45 : Below w4.heap.size w4 w5 := HBr.out.trans (hb5.mono (by omega))
            have hB5 : Below w.heap.size w w5 := hB4.trans (hb45.mono (by omega))
            have hz5 := hb5.size
            have y0 := (below_at hb5 w.heap.size 0 (by omega)).trans q0
            have y1 := (below_at hb5 w.heap.size 1 (by omega)).trans q1
            have y2 := (below_at hb5 w.heap.size 2 (by omega)).trans q2
            have y3 := (below_at hb5 w.heap.size 3 (by omega)).trans q3
            obtain ⟨br, or, s1, A1, n1, c1, B1, m1, d1, rfl, hbr, f0, f1, f2, r1⟩ := HRow.out.at_ hlt
            have p0 := (hb45.cell (lt_of_cell f0)).trans f0
            have p1 := (hb45.cell (lt_of_cell f1)).trans f1
            have p2 := (hb45.cell (lt_of_cell f2)).trans f2
            have qr := (r1.kp (Kp.of_below hb45)).canQ (HSQ.out k k)
            obtain ⟨bx, ox, s2, A2, n2, c2, B2, m2, d2, rfl, hbx, f3, f4, f5, r2⟩ := HX.out.at_ hlt
            have p3 := (hb45.cell (lt_of_cell f3)).trans f3
            have p4 := (hb45.cell (lt_of_cell f4)).trans f4
            have p5 := (hb45.cell (lt_of_cell f5)).trans f5
            have qx := (r2.kp (Kp.of_below hb45)).canQ (HSX.out k)
            have KNeg := Lib.hid (fun W (hb : Below w5.heap.size w5 W) => neg_any (qx.below hb) (by omega) (by omega))
            have KCmp : Hid (∀ W base v, Below w5.heap.size w5 W → OwQ W base v (-(X k)) → Calls Tryz.prog 27 #[rv s1 A1 n1 c1 B1 m1 d1, v] W fun e w' => e = .returned (.int .i64 0) ∧ Below W.heap.size W w') := fun W base v hW ho => by
              have := cmpQ (qr.below hW) (ho.rq (HSX.out k).neg) (by omega) (by omega)
              rw [(HQD.out k).1, sgn_self] at this
              exact this
            have HOw := Lib.hid own
            have H45 := Lib.hid hb45
            have HB5 := Lib.hid hB5
            have hbq5 : bq < w5.heap.size := by omega
            have hbr5 : br < w5.heap.size := by omega
            have hbx5 : bx < w5.heap.size := by omega
            have hw5 : w.heap.size < w5.heap.size := by omega
            clear own hb5 hb45 hB5 f0 f1 f2 f3 f4 f5 r1 r2 qr qx q0 q1 q2 q3 hB hc0 KMk
            go_upto_region 13 with fail
            go_cut [100] from 79 to 100 (fun v wx => v = .bool false ∧ Below w5.heap.size w5 wx)
            case first =>
              clear HRow HQ HX KM3 HQO HQZ HSS HLL HOw
              go_region_held3 (fun W => W.cell? ⟨w.heap.size, 0, none⟩ = some (.int .i64 (nd : Int)) ∧ W.cell? ⟨br, or + k * 3, none⟩ = some (.bool s1) ∧ W.cell? ⟨br, or + k * 3 + 1, none⟩ = some (.slice A1 n1 c1) ∧ W.cell? ⟨br, or + k * 3 + 2, none⟩ = some (.slice B1 m1 d1) ∧ W.cell? ⟨bx, ox + k * 3, none⟩ = some (.bool s2) ∧ W.cell? ⟨bx, ox + k * 3 + 1, none⟩ = some (.slice A2 n2 c2) ∧ W.cell? ⟨bx, ox + k * 3 + 2, none⟩ = some (.slice B2 m2 d2)) (go_keep)
                (first | ((go_at_call 27; (with_reducible refine (KCmp.out _ _ _ (by (skip); repeat' (first | (with_reducible exact Below.refl _ _) | (with_reducible assumption) | (with_reducible refine Below.alloc ?_ ?_ _) | (with_reducible refine Below.drew ?_) | (with_reducible refine below_drewN ?_ _) | (with_reducible refine Below.setCell ?_ ?_ _) | (with_reducible refine Below.trans ?_ (Below.mono (by with_reducible assumption) ?_)) | omega | (simp only [ZA, ZS, ZD, ZN]; omega) | go_size)) own7).mono ?_); rintro e w8 ⟨rfl, hb8⟩; have hb8z := Below.size hb8; (try simp only [ZA, ZS, ZD] at hb8z); have hb8c0 := fun o => below_at hb8 (w.heap.size) o (by first | omega | (simp only [ZA, ZS, ZD]; omega)); have hb8f0 := fun o => below_fr hb8 (w.heap.size) o (by first | omega | (simp only [ZA, ZS, ZD]; omega)); have hb8l0 : w.heap.size < (w8).heap.size := (by omega); have hb8c1 := fun o => below_at hb8 (br) o (by first | omega | (simp only [ZA, ZS, ZD]; omega)); have hb8f1 := fun o => below_fr hb8 (br) o (by first | omega | (simp only [ZA, ZS, ZD]; omega)); have hb8l1 : br < (w8).heap.size := (by omega); have hb8c2 := fun o => below_at hb8 (bx) o (by first | omega | (simp only [ZA, ZS, ZD]; omega)); have hb8f2 := fun o => below_fr hb8 (bx) o (by first | omega | (simp only [ZA, ZS, ZD]; omega)); have hb8l2 : bx < (w8).heap.size := (by omega))) | ((go_at_call 31; (with_reducible refine (KNeg.out _ (by (skip); repeat' (first | (with_reducible exact Below.refl _ _) | (with_reducible assumption) | (with_reducible refine Below.alloc ?_ ?_ _) | (with_reducible refine Below.drew ?_) | (with_reducible refine below_drewN ?_ _) | (with_reducible refine Below.setCell ?_ ?_ _) | (with_reducible refine Below.trans ?_ (Below.mono (by with_reducible assumption) ?_)) | omega | (simp only [ZA, ZS, ZD, ZN]; omega) | go_size))).mono ?_); rintro e w7 ⟨⟨v7, rfl, own7⟩, hb7⟩; have hb7z := Below.size hb7; (try simp only [ZA, ZS, ZD] at hb7z); have hb7c0 := fun o => below_at hb7 (w.heap.size) o (by first | omega | (simp only [ZA, ZS, ZD]; omega)); have hb7f0 := fun o => below_fr hb7 (w.heap.size) o (by first | omega | (simp only [ZA, ZS, ZD]; omega)); have hb7l0 : w.heap.size < (w7).heap.size := (by omega); have hb7c1 := fun o => below_at hb7 (br) o (by first | omega | (simp only [ZA, ZS, ZD]; omega)); have hb7f1 := fun o => below_fr hb7 (br) o (by first | omega | (simp only [ZA, ZS, ZD]; omega)); have hb7l1 : br < (w7).heap.size := (by omega); have hb7c2 := fun o => below_at hb7 (bx) o (by first | omega | (simp only [ZA, ZS, ZD]; omega)); have hb7f2 := fun o => below_fr hb7 (bx) o (by first | omega | (simp only [ZA, ZS, ZD]; omega)); have hb7l2 : bx < (w7).heap.size := (by omega)); obtain ⟨s7, A7, n7, c7, B7, m7, d7, rfl⟩ := own7.form) | fail)
              all_goals
                go_wp2_with fail
                go_meet
                case rel => exact ⟨rfl, (by have z0 := Below.size hb7; have z1 := Below.size hb8; (try simp only [ZA, ZS, ZD, ZN] at z0 z1 ⊢; skip); repeat' (first | (with_reducible exact Below.refl _ _) | (with_reducible assumption) | (with_reducible refine Below.alloc ?_ ?_ _) | (with_reducible refine Below.drew ?_) | (with_reducible refine below_drewN ?_ _) | (with_reducible refine Below.setCell ?_ ?_ _) | (with_reducible refine Below.trans ?_ (Below.mono (by with_reducible assumption) ?_)) | omega | (simp only [ZA, ZS, ZD, ZN]; omega) | go_size))⟩
            case rest =>
              obtain ⟨rfl, hbc⟩ := hcut
              have hzc := hbc.size
              have hB8 : Below w.heap.size w wc := HB5.out.trans (hbc.mono (by omega))
              have hb48 : Below w4.heap.size w4 wc := H45.out.trans (hbc.mono (by omega))
              have own8 := HOw.out.below hbc
              have HOw8 := Lib.hid own8
              have y8 := (below_at hbc w.heap.size 0 hw5).trans y0
              have y81 := (below_at hbc w.heap.size 1 hw5).trans y1
              have y82 := (below_at hbc w.heap.size 2 hw5).trans y2
              have y83 := (below_at hbc w.heap.size 3 hw5).trans y3
              obtain ⟨wS, rfl⟩ : ∃ wS : World, wS = wc := ⟨_, rfl⟩
              have H48 := Lib.hid hb48
              have HB8 := Lib.hid hB8
              clear KNeg KCmp p0 p1 p2 p3 p4 p5 y0 y1 y2 y3 own8 hb48 hB8 hbc HOw H45 HB5 z0 z1 z2 z3
              go_wp2_with fail
              have HS1 : Hid (∀ j, sumN (fun j => Q k j) (j + 1) = sumN (fun j => Q k j) j + Q k j) := fun j => by rw [sumN]
              have HS0 : Hid (sumN (fun j => Q k j) 0 = 0) := by show sumN (fun j => Q k j) 0 = 0; rw [sumN]
              have HSk := Lib.hid (HSS.out k)
              have HSZ := Lib.hid (HQZ.out k hlt)
              have HDk := Lib.hid (HQD.out k)
              have HOk := Lib.hid (HQO.out k)
              have HNk := Lib.hid (HN0.out k)
              have HLk := Lib.hid (HLL.out k)
              have HQk := Lib.hid (HSQ.out k)
              generalize (sumN fun j => Q k j) = S at *
              generalize N k = Nk at *
              generalize L k = Lk at *
              go_loopw [12, 104] (fun nv jv wr => ∃ j : Nat, j ≤ nd ∧ nv = .int .i64 (Nk j : Nat) ∧ jv = .int .i64 (j : Int) ∧ SumI wS wr (S j)) (fun _ j _ => nd - (intOf j).toNat)
              case atStart => exact ⟨0, Nat.zero_le _, by rw [HNk.out]; rfl, rfl, by rw [HS0.out]; exact SumI.start wS⟩
              case round =>
                obtain ⟨j, hj, rfl, rfl, hs⟩ := hrel
                obtain ⟨wo, rfl⟩ : ∃ wo : World, wo = wr := ⟨_, rfl⟩
                have HSI := Lib.hid hs
                obtain ⟨⟨s3, A3, n3, c3', B3, m3, d3, g0, g1, g2, r3⟩, hb, hz, -, hfz⟩ := hs
                have hzo := hb.size
                have hb4 : Below w4.heap.size w4 wo := H48.out.trans (hb.mono (by omega))
                by_cases hlj : j < nd
                · obtain ⟨bx', ox', s1', A1', n1', c1', B1', m1', d1', ea, hbx', f0, f1, f2, r1⟩ := HRow.out.at_ hlj
                  cases ea
                  have x0 := (hb4.cell (lt_of_cell f0)).trans f0
                  have x1 := (hb4.cell (lt_of_cell f1)).trans f1
                  have x2 := (hb4.cell (lt_of_cell f2)).trans f2
                  have r1o := r1.kp (Kp.of_below hb4)
                  have qx := r1o.canQ (HQk.out j)
                  have qs := r3.canQ (HSk.out j (by omega))
                  have K2 := Lib.hid (fun W (hb : Below wo.heap.size wo W) => addQ (qs.below hb) (qx.below hb) (by omega) (by omega))
                  have hj0 : (0 : Int) ≤ (j : Int) := by omega
                  have hji : (j : Int) < (nd : Int) := by omega
                  have HRo := Lib.hid r1o
                  have hS1 := HS1.out j
                  have ne1 : ¬ (wS.heap.size = wo.heap.size) := by omega
                  have ne2 : ¬ (wo.heap.size = wS.heap.size) := by omega
                  have ne3 : ¬ (br = wo.heap.size) := by omega
                  clear f0 f1 f2 r1 r1o qx qs r3 hb hb4
                  by_cases hjk : j = k
                  · have e5 : ((j : Int) != (k : Int)) = false := by subst hjk; simp
                    have hNj : Nk (j + 1) = Nk j := by subst hjk; exact HDk.out.2
                    clear hjk
                    go_wp2_with fail
                    refine (K2.out _ (by (skip); repeat' (first | (with_reducible exact Below.refl _ _) | (with_reducible assumption) | (with_reducible refine Below.alloc ?_ ?_ _) | (with_reducible refine Below.drew ?_) | (with_reducible refine below_drewN ?_ _) | (with_reducible refine Below.setCell ?_ ?_ _) | (with_reducible refine Below.trans ?_ (Below.mono (by with_reducible assumption) ?_)) | omega | (simp only [ZA, ZS, ZD, ZN]; omega) | go_size))).mono ?_
                    rintro e w6 ⟨⟨v6, rfl, own6⟩, hb6⟩
                    obtain ⟨s6, A6, n6, c6, B6, m6, d6, rfl⟩ := own6.form
                    have hb96 : Below wo.heap.size wo w6 := (by have z0 := Below.size hb6; (try simp only [ZA, ZS, ZD, ZN] at z0 ⊢; skip); repeat' (first | (with_reducible exact Below.refl _ _) | (with_reducible assumption) | (with_reducible refine Below.alloc ?_ ?_ _) | (with_reducible refine Below.drew ?_) | (with_reducible refine below_drewN ?_ _) | (with_reducible refine Below.setCell ?_ ?_ _) | (with_reducible refine Below.trans ?_ (Below.mono (by with_reducible assumption) ?_)) | omega | (simp only [ZA, ZS, ZD, ZN]; omega) | go_size))
                    have HP6 := Lib.hid ((HSI.out.below hb96).put own6)
                    have u0 := (below_at hb96 wS.heap.size 0 hz).trans g0
                    have u1 := (below_at hb96 wS.heap.size 1 hz).trans g1
                    have u2 := (below_at hb96 wS.heap.size 2 hz).trans g2
                    have uf := fun i => (below_fr hb96 wS.heap.size i hz).trans (hfz i)
                    clear own6 hb6 hb96 g0 g1 g2 hfz K2 x0 x1 x2
                    go_wp2_with fail
                    go_roundw
                    case rel => exact ⟨j + 1, by omega, by rw [hNj], by go_num, by rw [hS1]; exact HP6.out⟩
                    case measure => simp [intOf]; omega
                  · have e5 : ((j : Int) != (k : Int)) = true := by simp; omega
                    have hO := HOk.out j hjk
                    go_wp2_with fail
                    refine (K2.out _ (by (skip); repeat' (first | (with_reducible exact Below.refl _ _) | (with_reducible assumption) | (with_reducible refine Below.alloc ?_ ?_ _) | (with_reducible refine Below.drew ?_) | (with_reducible refine below_drewN ?_ _) | (with_reducible refine Below.setCell ?_ ?_ _) | (with_reducible refine Below.trans ?_ (Below.mono (by with_reducible assumption) ?_)) | omega | (simp only [ZA, ZS, ZD, ZN]; omega) | go_size))).mono ?_
                    rintro e w6 ⟨⟨v6, rfl, own6⟩, hb6⟩
                    obtain ⟨s6, A6, n6, c6, B6, m6, d6, rfl⟩ := own6.form
                    have hb96 : Below wo.heap.size wo w6 := (by have z0 := Below.size hb6; (try simp only [ZA, ZS, ZD, ZN] at z0 ⊢; skip); repeat' (first | (with_reducible exact Below.refl _ _) | (with_reducible assumption) | (with_reducible refine Below.alloc ?_ ?_ _) | (with_reducible refine Below.drew ?_) | (with_reducible refine below_drewN ?_ _) | (with_reducible refine Below.setCell ?_ ?_ _) | (with_reducible refine Below.trans ?_ (Below.mono (by with_reducible assumption) ?_)) | omega | (simp only [ZA, ZS, ZD, ZN]; omega) | go_size))
                    have HP6 := Lib.hid ((HSI.out.below hb96).put own6)
                    have u0 := (below_at hb96 wS.heap.size 0 hz).trans g0
                    have u1 := (below_at hb96 wS.heap.size 1 hz).trans g1
                    have u2 := (below_at hb96 wS.heap.size 2 hz).trans g2
                    have uf := fun i => (below_fr hb96 wS.heap.size i hz).trans (hfz i)
                    have b0 := (below_at hb6 wo.heap.size 0 (by simp)).trans ((World.cell?_alloc_at _ _ _ _ rfl).trans rfl : _ = some (.bool s1'))
                    have b1 := (below_at hb6 wo.heap.size 1 (by simp)).trans ((World.cell?_alloc_at _ _ _ _ rfl).trans rfl : _ = some (.slice A1' n1' c1'))
                    have b2 := (below_at hb6 wo.heap.size 2 (by simp)).trans ((World.cell?_alloc_at _ _ _ _ rfl).trans rfl : _ = some (.slice B1' m1' d1'))
                    have hz6 : wo.heap.size < w6.heap.size := by have := hb6.size; simp at this; omega
                    have v0 := far3 (a := .bool s6) (x := .slice A6 n6 c6) (d := .slice B6 m6 d6) b0 ne1
                    have v1 := far3 (a := .bool s6) (x := .slice A6 n6 c6) (d := .slice B6 m6 d6) b1 ne1
                    have v2 := far3 (a := .bool s6) (x := .slice A6 n6 c6) (d := .slice B6 m6 d6) b2 ne1
                    have r16 := (HRo.out.kp (Kp.of_below hb96)).kp (Kp.store3 (HSI.out.below hb96).rb (by omega) (.bool s6) (.slice A6 n6 c6) (.slice B6 m6 d6))
                    obtain ⟨W7, hW7⟩ : ∃ W7, W7 = (((w6.setCell ⟨wS.heap.size, 0, none⟩ (.bool s6)).setCell ⟨wS.heap.size, 1, none⟩ (.slice A6 n6 c6)).setCell ⟨wS.heap.size, 2, none⟩ (.slice B6 m6 d6)) := ⟨_, rfl⟩
                    have HP7 : Hid (SumI wS W7 (S j + Q k j)) := by show SumI _ _ _; rw [hW7]; exact HP6.out
                    have hz7 : w6.heap.size = W7.heap.size := by rw [hW7]; simp
                    have V0 := v0
                    have V1 := v1
                    have V2 := v2
                    rw [← hW7] at V0 V1 V2 r16
                    have HR16 := Lib.hid r16
                    have KS : Hid (∀ z, sgnQ (Q k j) = z → Calls Tryz.prog 23 #[rv s1' A1' n1' c1' B1' m1' d1'] W7 fun e w' => e = .returned (.int .i64 z) ∧ Below W7.heap.size W7 w') := fun z hz => by
                      have := signQ (r16.canQ (HQk.out j)) (by omega) (by omega)
                      rw [hz] at this
                      exact this
                    have HHW := Lib.hid hW7
                    clear own6 hb6 hb96 g0 g1 g2 hfz K2 x0 x1 x2 HP6 b0 b1 b2 r16 HRo HSI hW7
                    go_wp2_with fail
                    rw [← HHW.out]
                    clear u0 u1 u2 uf HHW v0 v1 v2
                    rcases hO with ⟨hq0, hN0⟩ | ⟨hq0, hget, hN0⟩
                    · refine (KS.out 0 (sgnQ_zero.2 hq0)).mono ?_
                      rintro e w9 ⟨rfl, hb9⟩
                      have HF9 := Lib.hid (HP7.out.below hb9)
                      clear V0 V1 V2 hb9 KS HP7 HR16
                      go_wp2_with fail
                      go_roundw
                      case rel => exact ⟨j + 1, by omega, by rw [hN0], by go_num, by rw [hS1]; exact HF9.out⟩
                      case measure => simp [intOf]; omega
                    · refine (KS.out 1 (sgn_pos hq0)).mono ?_
                      rintro e w9 ⟨rfl, hb9⟩
                      have HF9 := Lib.hid (HP7.out.below hb9)
                      have hl := (List.getElem?_eq_some_iff.1 hget).1
                      have hbS := HF9.out.bel
                      obtain ⟨bm, om, sg, A8, n8, c8, B8, m8, d8, rfl, hbm, m0, m1, m2, m3, m4, rm⟩ := (OwM.ra (HOw8.out.below hbS)).at_ hl
                      have hgd : Lk.getD (Nk j) (0, 0) = (j, Q k j) := by rw [List.getD_eq_getElem?_getD, hget]; rfl
                      simp only [hgd] at m1 rm
                      have t0 := (below_at hb9 wo.heap.size 0 (by omega)).trans V0
                      have t1 := (below_at hb9 wo.heap.size 1 (by omega)).trans V1
                      have t2 := (below_at hb9 wo.heap.size 2 (by omega)).trans V2
                      have qm := rm.canQ (HQk.out j)
                      have qy := (HR16.out.kp (Kp.of_below hb9)).canQ (HQk.out j)
                      have KC : Hid (∀ W, Below w9.heap.size w9 W → Calls Tryz.prog 27 #[rv sg A8 n8 c8 B8 m8 d8, rv s1' A1' n1' c1' B1' m1' d1'] W fun e w' => e = .returned (.int .i64 0) ∧ Below W.heap.size W w') := fun W hW => by
                        have := cmpQ (qm.below hW) (qy.below hW) (by omega) (by omega)
                        rw [sgn_self] at this
                        exact this
                      have h6l := HLk.out
                      have e6 : decide ((Lk.length : Int) ≤ ((Nk j : Nat) : Int)) = false := by simp; omega
                      have e6' : decide (Lk.length ≤ Nk j) = false := by simp; omega
                      have i0 : (0 : Int) ≤ ((Nk j : Nat) : Int) := by omega
                      have i1 : ((Nk j : Nat) : Int) < (Lk.length : Int) := by omega
                      have e7 : ((k : Int) != (k : Int)) = false := by simp
                      have e8 : ((j : Int) != (j : Int)) = false := by simp
                      have hz9 := hb9.size
                      have hbm9 : bm < w9.heap.size := hbm
                      have hwo9 : wo.heap.size < w9.heap.size := by omega
                      clear V0 V1 V2 hb9 KS HP7 HR16 qm qy rm hget hgd hbm
                      go_upto_region 21 with fail
                      go_cut [151] from 120 to 151 (fun v wx => v = .bool false ∧ Below w9.heap.size w9 wx)
                      case first =>
                        clear HF9 HOk HLk HSZ HS1 HSk HQk HNk HS0 HDk HRow HQ HX HQO HQZ HSS HLL H48 HB8 HOw8 KM3
                        go_region_held3 (fun W => W.cell? ⟨bm, om + Nk j * 5, none⟩ = some (.int .i64 (k : Int)) ∧ W.cell? ⟨bm, om + Nk j * 5 + 1, none⟩ = some (.int .i64 (j : Int)) ∧ W.cell? ⟨bm, om + Nk j * 5 + 2, none⟩ = some (.bool sg) ∧ W.cell? ⟨bm, om + Nk j * 5 + 3, none⟩ = some (.slice A8 n8 c8) ∧ W.cell? ⟨bm, om + Nk j * 5 + 4, none⟩ = some (.slice B8 m8 d8) ∧ W.cell? ⟨wo.heap.size, 0, none⟩ = some (.bool s1') ∧ W.cell? ⟨wo.heap.size, 1, none⟩ = some (.slice A1' n1' c1') ∧ W.cell? ⟨wo.heap.size, 2, none⟩ = some (.slice B1' m1' d1')) (go_keep)
                          (first | ((go_at_call 27; (with_reducible refine (KC.out _ (by (skip); repeat' (first | (with_reducible exact Below.refl _ _) | (with_reducible assumption) | (with_reducible refine Below.alloc ?_ ?_ _) | (with_reducible refine Below.drew ?_) | (with_reducible refine below_drewN ?_ _) | (with_reducible refine Below.setCell ?_ ?_ _) | (with_reducible refine Below.trans ?_ (Below.mono (by with_reducible assumption) ?_)) | omega | (simp only [ZA, ZS, ZD, ZN]; omega) | go_size))).mono ?_); rintro e w8 ⟨rfl, hb8⟩; have hb8z := Below.size hb8; (try simp only [ZA, ZS, ZD] at hb8z); have hb8c0 := fun o => below_at hb8 (bm) o (by first | omega | (simp only [ZA, ZS, ZD]; omega)); have hb8f0 := fun o => below_fr hb8 (bm) o (by first | omega | (simp only [ZA, ZS, ZD]; omega)); have hb8l0 : bm < (w8).heap.size := (by omega); have hb8c1 := fun o => below_at hb8 (wo.heap.size) o (by first | omega | (simp only [ZA, ZS, ZD]; omega)); have hb8f1 := fun o => below_fr hb8 (wo.heap.size) o (by first | omega | (simp only [ZA, ZS, ZD]; omega)); have hb8l1 : wo.heap.size < (w8).heap.size := (by omega))) | fail)
                        all_goals
                          go_wp2_with fail
                          go_meet
                          case rel => exact ⟨rfl, (by have z0 := Below.size hb8; (try simp only [ZA, ZS, ZD, ZN] at z0 ⊢; skip); repeat' (first | (with_reducible exact Below.refl _ _) | (with_reducible assumption) | (with_reducible refine Below.alloc ?_ ?_ _) | (with_reducible refine Below.drew ?_) | (with_reducible refine below_drewN ?_ _) | (with_reducible refine Below.setCell ?_ ?_ _) | (with_reducible refine Below.trans ?_ (Below.mono (by with_reducible assumption) ?_)) | omega | (simp only [ZA, ZS, ZD, ZN]; omega) | go_size))⟩
                      case rest =>
                        obtain ⟨rfl, hbc⟩ := hcut
                        have HFc := Lib.hid (HF9.out.below hbc)
                        clear hbc m0 m1 m2 m3 m4 t0 t1 t2 KC HF9
                        go_wp2_with fail
                        go_roundw
                        case rel => exact ⟨j + 1, by omega, by rw [hN0]; go_num, by go_num, by rw [hS1]; exact HFc.out⟩
                        case measure => simp [intOf]; omega
                · obtain rfl : j = nd := by omega
                  have hZ := HSZ.out
                  have qs := r3.canQ (HSk.out j (by omega))
                  have KS : Hid (Calls Tryz.prog 23 #[rv s3 A3 n3 c3' B3 m3 d3] wo fun e w' => e = .returned (.int .i64 0) ∧ Below wo.heap.size wo w') := by
                    show Calls _ _ _ _ _
                    have := signQ qs (by omega) (by omega)
                    rw [hZ.1] at this
                    exact this
                  have e9 : ((Nk j : Int) != (Lk.length : Int)) = false := by rw [hZ.2]; simp
                  have e9' : (Nk j != Lk.length) = false := by rw [hZ.2]; simp
                  have HBF := Lib.hid hb4
                  clear hZ qs r3 hb hfz hb4 HSI
                  go_wp2_with fail
                  refine KS.out.mono ?_
                  rintro e w6 ⟨rfl, hb6⟩
                  have HBG := Lib.hid (HBF.out.trans (hb6.mono (by omega)))
                  clear hb6 KS g0 g1 g2 HBF
                  go_wp2_with fail
                  go_roundw
                  case rel => exact ⟨k + 1, by omega, by go_num, HBG.out⟩
                  case measure => simp [intOf]; omega
          · obtain rfl : k = nd := by omega
            go_wp2_with fail
            go_ret
            exact ⟨rfl, hB⟩
      · have KR2 : Hid (∀ W, Below w.heap.size w W → Calls Tryz.prog 29 #[cv c.st c.sr AM c.nm cm AD c.nd cd] W fun e w' => e = .returned (.tuple #[.slice none 0 0, errM c.code]) ∧ Below W.heap.size W w') := fun W hb => (KR.out W hb).mono fun e w' ⟨h1, h2⟩ => ⟨by unfold RetRw at h1; rw [if_neg h0] at h1; exact h1, h2⟩
        have KX2 : Hid (∀ W, Below w.heap.size w W → Calls Tryz.prog 30 #[cv c.st c.sr AM c.nm cm AD c.nd cd] W fun e w' => e = .returned (.tuple #[.slice none 0 0, errM c.code]) ∧ Below W.heap.size W w') := fun W hb => (KX.out W hb).mono fun e w' ⟨h1, h2⟩ => ⟨by unfold RetVe at h1; rw [if_neg h0] at h1; exact h1, h2⟩
        have KN := Lib.hid (fun W => bnum_n (c.code) W)
        rw [errM_n h0] at KR2 KX2
        obtain ⟨cc, hcc⟩ : ∃ cc, cc = c.code := ⟨_, rfl⟩
        rw [← hcc] at KR2 KX2 KN
        clear h0 hcc KR KX KM HI KA hlt hsz hsh HOK9
        (go_wp2_with fail; (with_reducible refine (KR2.out _ hB2).mono ?_); rintro e w3 ⟨rfl, hb3⟩; have hb3z := Below.size hb3; (try simp only [ZA, ZS, ZD, ZN] at hb3z); have hb3c0 := fun o => below_at hb3 (w.heap.size) o (by first | omega | (simp only [ZA, ZS, ZD, ZN]; omega)); have hb3f0 := fun o => below_fr hb3 (w.heap.size) o (by first | omega | (simp only [ZA, ZS, ZD, ZN]; omega)))
        have hB3 : Below w.heap.size w w3 := hB2.trans (hb3.mono hB2.size)
        (go_wp2_with fail; (with_reducible refine (KX2.out _ hB3).mono ?_); rintro e w4 ⟨rfl, hb4⟩; have hb4z := Below.size hb4; (try simp only [ZA, ZS, ZD, ZN] at hb4z); have hb4c0 := fun o => below_at hb4 (w.heap.size) o (by first | omega | (simp only [ZA, ZS, ZD, ZN]; omega)); have hb4f0 := fun o => below_fr hb4 (w.heap.size) o (by first | omega | (simp only [ZA, ZS, ZD, ZN]; omega)))
        have hB4 : Below w.heap.size w w4 := hB3.trans (hb4.mono hB3.size)
        go_wp2_with (first | (go_at_call 13; (with_reducible refine (KN.out _).mono ?_); rintro e _ ⟨rfl, rfl⟩) | fail)
        go_ret
        exact ⟨rfl, hB4⟩
end Go.Proofs.YtoiopnmphbnjaaaGreatDoor
