/- Contracts of functions and lemmas, used by the proofs of the given statements. No condition beyond those that each lemma names. -/
import Derived.Test.YtoiopnmphbnjaaaGreatDoorLawCh2
import Derived.Test.YtoiopnmphbnjaaaGreatDoorJMkC
import Derived.Test.YtoiopnmphbnjaaaGreatDoorFaiH
import Derived.Test.YtoiopnmphbnjaaaGreatDoorOpenU8
import Derived.Deep.CutRange
namespace Go.Proofs.YtoiopnmphbnjaaaGreatDoor
open Go.RowKit
set_option linter.unusedSimpArgs false
set_option linter.unusedVariables false
set_option maxRecDepth 20000
attribute [local irreducible] nv wp win plainB validR valR canR mvE chkM codeC topL prs Chn.mvs
/-! ## ChainFollows -/
/-- the state's box -/
structure SBox (w : World) (g b0 ng : Nat) (s : DS) : Prop where
  cs : ∃ A c, w.cell? ⟨g, 0, none⟩ = some (.int .i64 ((s.1 : Nat) : Int)) ∧ w.cell? ⟨g, 1, none⟩ = some (.slice A ng c) ∧ RdK w b0 (.slice A ng c) ng (fun i => s.2.getD i 0)
  lt : g < w.heap.size
  ty : TyB 45 w g
  fz : ∀ i, w.frozen? ⟨g, i, none⟩ = false
theorem SBox.below {w w' : World} {g b0 ng : Nat} {s : DS} (h : SBox w g b0 ng s) (hb : Below w.heap.size w w') : SBox w' g b0 ng s := by
  obtain ⟨⟨A, c, h0, h1, h2⟩, h3, h4, h5⟩ := h
  exact ⟨⟨A, c, (below_at hb _ 0 h3).trans h0, (below_at hb _ 1 h3).trans h1, h2.below hb⟩, Nat.lt_of_lt_of_le h3 hb.size, h4.below hb h3, fun i => (below_fr hb _ i h3).trans (h5 i)⟩
theorem SBox.new {w : World} {b0 ng c : Nat} {A : Option Addr} {s : DS} (h : RdK w b0 (.slice A ng c) ng (fun i => s.2.getD i 0)) : SBox (w.alloc (.cells #[.int .i64 ((s.1 : Nat) : Int), .slice A ng c] 45)) w.heap.size b0 ng s :=
  ⟨⟨A, c, (World.cell?_alloc_at _ _ _ _ (by simp)).trans rfl, (World.cell?_alloc_at _ _ _ _ (by simp)).trans rfl, h.below ((Below.refl _ _).alloc (Nat.le_refl _) _)⟩, by simp, TyB.new w _, fun i => World.frozen?_alloc_at _ _ _ _ (by simp)⟩
structure SBox0 (w : World) (g : Nat) : Prop where
  cs : ∃ u v, w.cell? ⟨g, 0, none⟩ = some u ∧ w.cell? ⟨g, 1, none⟩ = some v
  lt : g < w.heap.size
  ty : TyB 45 w g
  fz : ∀ i, w.frozen? ⟨g, i, none⟩ = false
theorem SBox0.below {w w' : World} {g : Nat} (h : SBox0 w g) (hb : Below w.heap.size w w') : SBox0 w' g := by
  obtain ⟨⟨A, c, h0, h1⟩, h3, h4, h5⟩ := h
  exact ⟨⟨A, c, (below_at hb _ 0 h3).trans h0, (below_at hb _ 1 h3).trans h1⟩, Nat.lt_of_lt_of_le h3 hb.size, h4.below hb h3, fun i => (below_fr hb _ i h3).trans (h5 i)⟩
theorem SBox0.new {a b : Value} (w : World) : SBox0 (w.alloc (.cells #[a, b] 45)) w.heap.size :=
  ⟨⟨a, b, (World.cell?_alloc_at _ _ _ _ (by simp)).trans rfl, (World.cell?_alloc_at _ _ _ _ (by simp)).trans rfl⟩, by simp, TyB.new w _, fun i => World.frozen?_alloc_at _ _ _ _ (by simp)⟩
theorem SBox.zero {w : World} {g b0 ng : Nat} {s : DS} (h : SBox w g b0 ng s) : SBox0 w g := by
  obtain ⟨⟨A, c, h0, h1, h2⟩, h3, h4, h5⟩ := h
  exact ⟨⟨_, _, h0, h1⟩, h3, h4, h5⟩
theorem SBox0.put {w : World} {g b0 ng c : Nat} {A : Option Addr} {y : DS} (h : SBox0 w g) (hg : b0 ≤ g) (hr : RdK w b0 (.slice A ng c) ng (fun i => y.2.getD i 0)) :
    SBox ((w.setCell ⟨g, 0, none⟩ (.int .i64 ((y.1 : Nat) : Int))).setCell ⟨g, 1, none⟩ (.slice A ng c)) g b0 ng y := by
  obtain ⟨⟨A0, c0, h0, h1⟩, h3, h4, h5⟩ := h
  have n1 : NotI w b0 (some g) := NotI.of_ty h4 hg (by decide) (by decide)
  have t2 : TyB 45 (w.setCell ⟨g, 0, none⟩ (.int .i64 ((y.1 : Nat) : Int))) g := h4.set g 0 _
  have n2 : NotI (w.setCell ⟨g, 0, none⟩ (.int .i64 ((y.1 : Nat) : Int))) b0 (some g) := NotI.of_ty t2 hg (by decide) (by decide)
  refine ⟨⟨A, c, ?_, ?_, (hr.grown (grownBy_setK _ _ _ _) n1).grown (grownBy_setK _ _ _ _) n2⟩, by simpa using h3, t2.set g 1 _, fun i => ?_⟩
  · simp [go_sem, h0]
  · simp [go_sem, h1]
  · rw [World.frozen?_setCell, World.frozen?_setCell]
    exact h5 i
theorem SBox.put {w : World} {g b0 ng c : Nat} {A : Option Addr} {s y : DS} (h : SBox w g b0 ng s) (hg : b0 ≤ g) (hr : RdK w b0 (.slice A ng c) ng (fun i => y.2.getD i 0)) :
    SBox ((w.setCell ⟨g, 0, none⟩ (.int .i64 ((y.1 : Nat) : Int))).setCell ⟨g, 1, none⟩ (.slice A ng c)) g b0 ng y := h.zero.put hg hr
theorem far2 {w : World} {g b o : Nat} {a x v : Value} (h : w.cell? ⟨b, o, none⟩ = some v) (hne : ¬ g = b) : ((w.setCell ⟨g, 0, none⟩ a).setCell ⟨g, 1, none⟩ x).cell? ⟨b, o, none⟩ = some v := by
  rw [World.cell?_setCell_far _ ⟨g, 1, none⟩ ⟨b, o, none⟩ _ hne, World.cell?_setCell_far _ ⟨g, 0, none⟩ ⟨b, o, none⟩ _ hne]
  exact h
theorem ibeq_f {a b : Int} (h : a ≠ b) : (a == b) = false := by simpa using h
theorem nbeq_f {a b : Nat} (h : a ≠ b) : (a == b) = false := by simpa using h
theorem sgn_ge {x : Rat} (h : 0 ≤ x) : 0 ≤ sgnQ x := by
  by_cases e : x = 0
  · rw [sgnQ_zero.2 e]; decide
  · rw [sgn_pos (by grind)]; decide
theorem sgn_sub {a b : Rat} (h : a ≤ b) : 0 ≤ sgnQ (b - a) := sgn_ge (by grind)
set_option maxHeartbeats 32000000 in
theorem chainFollows_law {w : World} {AG AF AR AA : Option Addr} {cg cf cr nA cA : Nat} {r : DyR} {P : Nat → Nat} (h : DyI w AG AF AR r) (hmx : r.ng ≤ maxLen) (ha : BysA w AA nA P) (ht : TabW w) :
    Calls Tryz.prog 5 #[dyv r AG cg AF cf AR cr, .slice AA nA cA] w fun e w' => e = .returned (.bool true) ∧ Below w.heap.size w w' := by
  have KA := Lib.hid (fun W (hb : Below w.heap.size w W) => awake49_any (ht.below hb))
  have KL := Lib.hid (fun W (hb : Below w.heap.size w W) => light48_any (cg := cg) (cf := cf) (cr := cr) (h.below hb) hmx)
  have KS := Lib.hid (fun W (hl : Lt48 r) (hb : Below w.heap.size w W) => slight_any (cg := cg) (cf := cf) (cr := cr) (h.below hb) hl)
  have HH := Lib.hid h
  have HT := Lib.hid ht
  have HP := Lib.hid ha
  clear h ht hmx ha
  have hbA : Below w.heap.size w (w.alloc (.cells #[.int .i64 r.v, .slice AG r.ng cg, .int .i64 r.top, .slice AF r.nf cf, .slice AR r.nr cr] 25)) := (Below.refl _ _).alloc (Nat.le_refl _) _
  unfold dyv at KL KS ⊢
  go_enter Tryz.func5, Tryz.ntmps5
  (go_wp2_with fail; (with_reducible refine (KA.out _ (by (skip); repeat' (first | (with_reducible exact Below.refl _ _) | (with_reducible assumption) | (with_reducible refine Below.alloc ?_ ?_ _) | (with_reducible refine Below.drew ?_) | (with_reducible refine below_drewN ?_ _) | (with_reducible refine Below.setCell ?_ ?_ _) | (with_reducible refine Below.trans ?_ (Below.mono (by with_reducible assumption) ?_)) | omega | (simp only [ZA, ZS, ZD, ZN]; omega) | go_size))).mono ?_); rintro e w1 ⟨rfl, hb1⟩; have hb1z := Below.size hb1; (try simp only [ZA, ZS, ZD, ZN] at hb1z); have hb1c0 := fun o => below_at hb1 (w.heap.size) o (by first | omega | (simp only [ZA, ZS, ZD, ZN]; omega)); have hb1f0 := fun o => below_fr hb1 (w.heap.size) o (by first | omega | (simp only [ZA, ZS, ZD, ZN]; omega)))
  have hB1 : Below w.heap.size w w1 := (by have z0 := Below.size hb1; (try simp only [ZA, ZS, ZD, ZN] at z0 ⊢; skip); repeat' (first | (with_reducible exact Below.refl _ _) | (with_reducible assumption) | (with_reducible refine Below.alloc ?_ ?_ _) | (with_reducible refine Below.drew ?_) | (with_reducible refine below_drewN ?_ _) | (with_reducible refine Below.setCell ?_ ?_ _) | (with_reducible refine Below.trans ?_ (Below.mono (by with_reducible assumption) ?_)) | omega | (simp only [ZA, ZS, ZD, ZN]; omega) | go_size))
  (go_wp2_with fail; (with_reducible refine (KL.out _ hB1).mono ?_); rintro e w2 ⟨⟨bb, rfl, hbb⟩, hb2⟩; have hb2z := Below.size hb2; (try simp only [ZA, ZS, ZD, ZN] at hb2z); have hb2c0 := fun o => below_at hb2 (w.heap.size) o (by first | omega | (simp only [ZA, ZS, ZD, ZN]; omega)); have hb2f0 := fun o => below_fr hb2 (w.heap.size) o (by first | omega | (simp only [ZA, ZS, ZD, ZN]; omega)))
  have hB2 : Below w.heap.size w w2 := hB1.trans (hb2.mono hB1.size)
  cases bb with
  | false =>
    clear hbb
    (go_wp2_with fail; (with_reducible refine (KA.out _ hB2).mono ?_); rintro e w3 ⟨rfl, hb3⟩; have hb3z := Below.size hb3; (try simp only [ZA, ZS, ZD, ZN] at hb3z))
    go_wp2
    go_ret
    exact ⟨rfl, hB2.trans (hb3.mono hB2.size)⟩
  | true =>
    have hlt := hbb (by trivial)
    clear hbb KL
    (go_wp2_with fail; (with_reducible refine (KS.out _ hlt hB2).mono ?_); rintro e w3 ⟨⟨b2, rfl, hbb⟩, hb3⟩; have hb3z := Below.size hb3; (try simp only [ZA, ZS, ZD, ZN] at hb3z); have hb3c0 := fun o => below_at hb3 (w.heap.size) o (by first | omega | (simp only [ZA, ZS, ZD, ZN]; omega)); have hb3f0 := fun o => below_fr hb3 (w.heap.size) o (by first | omega | (simp only [ZA, ZS, ZD, ZN]; omega)))
    have hB3 : Below w.heap.size w w3 := hB2.trans (hb3.mono hB2.size)
    cases b2 with
    | false =>
      clear hbb
      (go_wp2_with fail; (with_reducible refine (KA.out _ hB3).mono ?_); rintro e w4 ⟨rfl, hb4⟩; have hb4z := Below.size hb4; (try simp only [ZA, ZS, ZD, ZN] at hb4z))
      go_wp2
      go_ret
      exact ⟨rfl, hB3.trans (hb4.mono hB3.size)⟩
    | true =>
      have hsl := hbb (by trivial)
      clear hbb KS
      by_cases h5 : 5 < r.v
      · have e1 : decide (5 < r.v) = true := by simpa using h5
        clear h5
        (go_wp2_with fail; (with_reducible refine (KA.out _ hB3).mono ?_); rintro e w4 ⟨rfl, hb4⟩; have hb4z := Below.size hb4; (try simp only [ZA, ZS, ZD, ZN] at hb4z))
        go_wp2
        go_ret
        exact ⟨rfl, hB3.trans (hb4.mono hB3.size)⟩
      · have e1 : decide (5 < r.v) = false := by simpa using h5
        by_cases h60 : 60 < nA
        · have e60 : decide ((60 : Int) < (nA : Int)) = true := by simp; omega
          have e61 : decide (60 < nA) = true := by simpa using h60
          clear h60
          (go_wp2_with fail; (with_reducible refine (KA.out _ hB3).mono ?_); rintro e w4 ⟨rfl, hb4⟩; have hb4z := Below.size hb4; (try simp only [ZA, ZS, ZD, ZN] at hb4z))
          go_wp2
          go_ret
          exact ⟨rfl, hB3.trans (hb4.mono hB3.size)⟩
        have e60 : decide ((60 : Int) < (nA : Int)) = false := by simp; omega
        have e61 : decide (60 < nA) = false := by simpa using h60
        have hw3 : w.heap.size < w3.heap.size := by have := hb1.size; have := hb2.size; have := hb3.size; simp at *; omega
        have y0 : w3.cell? ⟨w.heap.size, 0, none⟩ = some (.int .i64 r.v) := by rw [hb3c0, hb2c0, hb1c0]; simp
        have y1 : w3.cell? ⟨w.heap.size, 1, none⟩ = some (.slice AG r.ng cg) := by rw [hb3c0, hb2c0, hb1c0]; simp
        have y2 : w3.cell? ⟨w.heap.size, 2, none⟩ = some (.int .i64 r.top) := by rw [hb3c0, hb2c0, hb1c0]; simp
        have y3 : w3.cell? ⟨w.heap.size, 3, none⟩ = some (.slice AF r.nf cf) := by rw [hb3c0, hb2c0, hb1c0]; simp
        have y4 : w3.cell? ⟨w.heap.size, 4, none⟩ = some (.slice AR r.nr cr) := by rw [hb3c0, hb2c0, hb1c0]; simp
        clear hb1c0 hb2c0 hb3c0 hb1f0 hb2f0 hb3f0 hb1 hb2 hb3 hB1 hB2 KA
        have hs := hlt.s
        by_cases hc : codeD r = 0
        · have tt := mk_t HH.out hc hsl
          have ok := codeD_ok hc
          have KM := Lib.hid (make_ok (cg := cg) (cf := cf) (cr := cr) (HH.out.below hB3) hs hc tt.ts (HT.out.below hB3))
          cases hz : r.tr.make with
          | none =>
            rw [hz] at KM
            have KM2 : Hid (Calls Tryz.prog 12 #[.agg #[.int .i64 r.v, .slice AG r.ng cg, .int .i64 r.top, .slice AF r.nf cf, .slice AR r.nr cr]] w3 fun e w' => e = .returned (.tuple #[cv 0 0 none 0 0 none 0 0, .slice none 0 0, .iface 80 (.int .i64 4)]) ∧ Below w3.heap.size w3 w') := KM.out
            clear KM hz tt ok hc hs hsl hlt HH HT
            (go_wp2_with fail; (with_reducible refine (KM2.out).mono ?_); rintro e w4 ⟨rfl, hb4⟩; have hb4z := Below.size hb4; (try simp only [ZA, ZS, ZD, ZN] at hb4z))
            go_wp2
            go_ret
            exact ⟨rfl, (by have z0 := Below.size hB3; have z1 := Below.size hb4; (try simp only [ZA, ZS, ZD, ZN] at z0 z1 ⊢; skip); repeat' (first | (with_reducible exact Below.refl _ _) | (with_reducible assumption) | (with_reducible refine Below.alloc ?_ ?_ _) | (with_reducible refine Below.drew ?_) | (with_reducible refine below_drewN ?_ _) | (with_reducible refine Below.setCell ?_ ?_ _) | (with_reducible refine Below.trans ?_ (Below.mono (by with_reducible assumption) ?_)) | omega | (simp only [ZA, ZS, ZD, ZN]; omega) | go_size))⟩
          | some z =>
            have mz := mk_z ok tt (by omega) hz
            rw [hz] at KM
            obtain ⟨l, R⟩ := z
            have n1 := mz.n1
            have n2 := mz.n2
            dsimp only at n1 n2
            have hcode : (mkC l.length R (topL r l)).code = 0 := Chn.ok_iff.2 (mkC_ok n1 n2)
            have hsh : Short (mkC l.length R (topL r l)).nm (mkC l.length R (topL r l)).R := mkC_short mz.sz
            have hnm : (mkC l.length R (topL r l)).nm ≤ 1000000 := by
              show (prs l.length R).length ≤ _
              have h1 := prs_len (n := l.length) (R := R)
              have h2 := Nat.mul_le_mul n2 n2
              omega
            have hv1 := ok.v1
            obtain ⟨vN, hvN⟩ : ∃ vN : Nat, r.v = vN := ⟨r.v.toNat, by omega⟩
            have hvt : r.v.toNat = vN := by omega
            have hv0 : 0 < vN := by omega
            have hv5 : vN ≤ 5 := by omega
            have hng : r.ng ≤ 1000000 := by have := hlt.ng; omega
            have KMv0 := Lib.hid (fun (W : World) (AM AD : Option Addr) (cm cd k : Nat) (hci : ChI W W.heap.size AM cm AD cd (mkC l.length R (topL r l))) => moves_any (s := (k : Int)) hci hnm hsh)
            have HIN := Lib.hid (fun (W : World) (b0 cm cd : Nat) (AM AD : Option Addr) (h1 : OwPr W b0 AM cm (prs l.length R) R) (h2 : OwVb W b0 AD cd l.length (topL r l)) hb => mkC_in h1 h2 hb)
            have KM2 : Hid (Calls Tryz.prog 12 #[.agg #[.int .i64 (vN : Int), .slice AG r.ng cg, .int .i64 r.top, .slice AF r.nf cf, .slice AR r.nr cr]] w3 fun e w' => (∃ AM cm AD cd As cs, e = .returned (.tuple #[cv (l.length : Nat) 0 AM (prs l.length R).length cm AD l.length cd, .slice As l.length cs, .nilIface]) ∧ OwPr w' w3.heap.size AM cm (prs l.length R) R ∧ OwVb w' w3.heap.size AD cd l.length (topL r l) ∧ OwS w' w3.heap.size As cs r.ng l) ∧ Below w3.heap.size w3 w') := by
              have := KM.out
              unfold dyv at this
              rw [hvN] at this
              exact this
            obtain ⟨L, hL⟩ : ∃ L : Nat → List (Nat × Rat), L = fun k => (mkC l.length R (topL r l)).mvs k (mkC l.length R (topL r l)).nm := ⟨_, rfl⟩
            have HLL : Hid (∀ k, (L k).length ≤ 1000000) := fun k => by
              rw [hL]
              show ((mkC l.length R (topL r l)).mvs k (mkC l.length R (topL r l)).nm).length ≤ _
              have := (mkC l.length R (topL r l)).mvs_len k (mkC l.length R (topL r l)).nm
              omega
            have HMEM : Hid (∀ s, s ∈ l → StOk r s.1 s.2) := fun s hs => mz.st s hs
            have HACT : Hid (∀ s i, i < vN → ActI r s i) := fun s i hi => act_i ok tt (by omega)
            have HFOL : Hid (∀ k s y, l[k]? = some s → y ∈ r.tr.nx s vN → 0 < y.2 → ∃ p, FolI l s y.1 y.2 (L k) p) := fun k s y h1 h2 h3 => by
              rw [hL]
              rw [← hvt] at h2
              exact follow mz h1 h2 h3
            have HSTR : Hid (∀ W, Below w.heap.size w W → Calls Tryz.prog 20 #[.agg #[.int .i64 (vN : Int), .slice AG r.ng cg, .int .i64 r.top, .slice AF r.nf cf, .slice AR r.nr cr]] W fun e w' => (∃ A c s0, l[0]? = some s0 ∧ e = .returned (.tuple #[.agg #[.int .i64 ((s0.1 : Nat) : Int), .slice A r.ng c], .nilIface]) ∧ OwJ w' W.heap.size A c r.ng (fun i => s0.2.getD i 0)) ∧ Below W.heap.size W w') := fun W hW => by
              have h0 := dstart_any (cg := cg) (cf := cf) (cr := cr) (HH.out.below hW) hs
              rw [hc] at h0
              unfold dyv at h0
              rw [hvN] at h0
              refine h0.mono fun e w' ⟨h1, h2⟩ => ⟨?_, h2⟩
              unfold StRet at h1
              rw [if_pos rfl] at h1
              obtain ⟨A, c, e1, o⟩ := h1
              exact ⟨A, c, _, mz.s0, e1, o⟩
            have KRt : Hid (∀ W (s : DS) A (c i : Nat), Below w.heap.size w W → s ∈ l → RdJ W A r.ng (fun i => s.2.getD i 0) → i < vN → Calls Tryz.prog 21 #[.agg #[.int .i64 (vN : Int), .slice AG r.ng cg, .int .i64 r.top, .slice AF r.nf cf, .slice AR r.nr cr], .agg #[.int .i64 ((s.1 : Nat) : Int), .slice A r.ng c], .int .i64 (i : Int)] W fun e w' => RatRet W.heap.size (r.tr.fr s i) (r.tr.rr s i) e w' ∧ Below W.heap.size W w') := fun W s A c i hW hm rj hi => by
              have h0 := drate_ok (cg := cg) (cf := cf) (cr := cr) (cm := c) (e := i) (HH.out.below hW) hs hc (mz.st s hm) rj (by omega)
              unfold dyv at h0
              rw [hvN] at h0
              exact h0
            have KF1 : Hid (∀ W (s : DS) A (c i : Nat), Below w.heap.size w W → s ∈ l → RdJ W A r.ng (fun i => s.2.getD i 0) → i < vN → s.1.testBit i = true → Calls Tryz.prog 24 #[.agg #[.int .i64 (vN : Int), .slice AG r.ng cg, .int .i64 r.top, .slice AF r.nf cf, .slice AR r.nr cr], .agg #[.int .i64 ((s.1 : Nat) : Int), .slice A r.ng c], .int .i64 (i : Int)] W fun e w' => e = .returned (.tuple #[.agg #[.int .i64 0, .slice none 0 0], .iface 80 (.int .i64 12)]) ∧ Below W.heap.size W w') := fun W s A c i hW hm rj hi hb => by
              have h0 := dfail_held (cg := cg) (cf := cf) (cr := cr) (cm := c) (e := i) (HH.out.below hW) hs hc (mz.st s hm) rj (by omega) hb
              unfold dyv at h0
              rw [hvN] at h0
              exact h0
            have KF0 : Hid (∀ W (s : DS) A (c i : Nat), Below w.heap.size w W → s ∈ l → RdJ W A r.ng (fun i => s.2.getD i 0) → i < vN → s.1.testBit i = false → Calls Tryz.prog 24 #[.agg #[.int .i64 (vN : Int), .slice AG r.ng cg, .int .i64 r.top, .slice AF r.nf cf, .slice AR r.nr cr], .agg #[.int .i64 ((s.1 : Nat) : Int), .slice A r.ng c], .int .i64 (i : Int)] W fun e w' => (∃ A c, e = .returned (.tuple #[.agg #[.int .i64 (((stF r.dy s i).1 : Nat) : Int), .slice A r.ng c], .nilIface]) ∧ OwJ w' W.heap.size A c r.ng (fun j => (stF r.dy s i).2.getD j 0)) ∧ Below W.heap.size W w') := fun W s A c i hW hm rj hi hb => by
              have h0 := dfail_ok (cg := cg) (cf := cf) (cr := cr) (cm := c) (e := i) (HH.out.below hW) hs hc (mz.st s hm) rj (by omega) hb
              unfold dyv at h0
              rw [hvN] at h0
              refine h0.mono fun e w' ⟨h1, h2⟩ => ⟨?_, h2⟩
              unfold StRet at h1
              rw [if_pos rfl] at h1
              exact h1
            have KRp : Hid (∀ W (s : DS) A (c i : Nat), Below w.heap.size w W → s ∈ l → RdJ W A r.ng (fun i => s.2.getD i 0) → i < vN → s.1.testBit i = true → heldD r.dy s i = false → Calls Tryz.prog 25 #[.agg #[.int .i64 (vN : Int), .slice AG r.ng cg, .int .i64 r.top, .slice AF r.nf cf, .slice AR r.nr cr], .agg #[.int .i64 ((s.1 : Nat) : Int), .slice A r.ng c], .int .i64 (i : Int)] W fun e w' => (∃ A c, e = .returned (.tuple #[.agg #[.int .i64 (((stR r.dy s i).1 : Nat) : Int), .slice A r.ng c], .nilIface]) ∧ OwJ w' W.heap.size A c r.ng (fun j => (stR r.dy s i).2.getD j 0)) ∧ Below W.heap.size W w') := fun W s A c i hW hm rj hi hb hh => by
              have h0 := drepair_ok (cg := cg) (cf := cf) (cr := cr) (cm := c) (e := i) (HH.out.below hW) hs hc (mz.st s hm) rj (by omega) hb hh
              unfold dyv at h0
              rw [hvN] at h0
              refine h0.mono fun e w' ⟨h1, h2⟩ => ⟨?_, h2⟩
              unfold StRet at h1
              rw [if_pos rfl] at h1
              exact h1
            have HEXT : Hid (∀ s t : DS, s ∈ l → t ∈ l → ((s.1 : Nat) : Int) = ((t.1 : Nat) : Int) → (∀ i, i < r.ng → s.2.getD i 0 = t.2.getD i 0) → s = t) := fun s t h1 h2 h3 h4 => ds_ext (mz.st s h1).l (mz.st t h2).l h3 h4
            have HCODE := Lib.hid hcode
            have HVT := Lib.hid hvt
            have HN2 : Hid (l.length ≤ 256) := n2
            obtain ⟨FR, hFR⟩ : ∃ FR : DS → Nat → Rat, FR = fun s i => r.tr.fr s i := ⟨_, rfl⟩
            obtain ⟨RR, hRR⟩ : ∃ RR : DS → Nat → Rat, RR = fun s i => r.tr.rr s i := ⟨_, rfl⟩
            have KMv : Hid (∀ (W : World) (AM AD : Option Addr) (cm cd k : Nat), k < l.length → ChI W W.heap.size AM cm AD cd (mkC l.length R (topL r l)) → Calls Tryz.prog 26 #[cv (l.length : Nat) 0 AM (prs l.length R).length cm AD l.length cd, .int .i64 (k : Int)] W fun e w' => (∃ A cp, e = .returned (.tuple #[.slice A (L k).length cp, .nilIface]) ∧ OwT w' W.heap.size A cp k (L k)) ∧ Below W.heap.size W w') := fun W AM AD cm cd k hk hci => by
              refine (KMv0.out W AM AD cm cd k hci).mono fun e w' ⟨h1, h2⟩ => ⟨?_, h2⟩
              unfold RetMv at h1
              rw [if_neg (fun hh => hh HCODE.out), if_neg (by show ¬ (((k : Int)) < 0 ∨ (l.length : Int) ≤ (k : Int)); omega)] at h1
              rw [hL]
              exact h1
            have hn0 : 0 < l.length := n1
            rw [hvN] at y0 e1
            clear KM hz tt ok hc hs hsl hlt HH HT mz hcode hsh hnm KMv0 hL hvt hvN hv1 HCODE n1 n2 hFR hRR FR RR
            (go_wp2_with fail; (with_reducible refine (KM2.out).mono ?_); rintro e w4 ⟨⟨AM, cm, AD, cd, As, cs, rfl, oP, oV, oS⟩, hb4⟩; have hb4z := Below.size hb4; (try simp only [ZA, ZS, ZD, ZN] at hb4z); have hb4c0 := fun o => below_at hb4 (w.heap.size) o (by first | omega | (simp only [ZA, ZS, ZD, ZN]; omega)); have hb4f0 := fun o => below_fr hb4 (w.heap.size) o (by first | omega | (simp only [ZA, ZS, ZD, ZN]; omega)))
            have hB4 : Below w.heap.size w w4 := hB3.trans (hb4.mono hB3.size)
            have hz4 := hb4.size
            have hci := HIN.out _ _ _ _ _ _ oP oV hz4
            have HCI := Lib.hid hci
            have u0 := (hb4c0 0).trans y0
            have u1 := (hb4c0 1).trans y1
            have u2 := (hb4c0 2).trans y2
            have u3 := (hb4c0 3).trans y3
            have u4 := (hb4c0 4).trans y4
            have hw4 : w.heap.size < w4.heap.size := by omega
            have HSt := Lib.hid oS
            obtain ⟨gS, Bs, ds, eA, -, hgS, c0, c1, rk0⟩ := oS.at_ hn0
            subst eA
            have hcap : l.length ≤ cs := by
              obtain ⟨V, -, ho⟩ := oS
              obtain ⟨A', c', e, h2⟩ := own_form ho
              injection e with _ _ e3
              omega
            have hz43 : w3.heap.size ≤ w4.heap.size := hz4
            clear KM2 HIN hci oP oV oS hb4 hb4c0 hb4f0 y0 y1 y2 y3 y4
            generalize hm : (prs l.length R).length = m at *
            have hAL : Below w4.heap.size w4 (w4.alloc (.cells #[.int .i64 ((l.length : Nat) : Int), .int .i64 0, .slice AM m cm, .slice AD l.length cd] 32)) := (Below.refl _ _).alloc (Nat.le_refl _) _
            clear hm
            go_wp2_with fail
            refine (HSTR.out _ (hB4.trans (hAL.mono (by omega)))).mono ?_
            rintro e w5 ⟨⟨A0, cc0, s0, hs0, rfl, oj0⟩, hb5⟩
            have hb45 : Below w4.heap.size w4 w5 := (by have z0 := Below.size hb5; (try simp only [ZA, ZS, ZD, ZN] at z0 ⊢; skip); repeat' (first | (with_reducible exact Below.refl _ _) | (with_reducible assumption) | (with_reducible refine Below.alloc ?_ ?_ _) | (with_reducible refine Below.drew ?_) | (with_reducible refine below_drewN ?_ _) | (with_reducible refine Below.setCell ?_ ?_ _) | (with_reducible refine Below.trans ?_ (Below.mono (by with_reducible assumption) ?_)) | omega | (simp only [ZA, ZS, ZD, ZN]; omega) | go_size))
            have b0 := (below_at hb5 w4.heap.size 0 (by simp)).trans ((World.cell?_alloc_at _ _ _ _ rfl).trans rfl : _ = some (.int .i64 ((l.length : Nat) : Int)))
            have b1 := (below_at hb5 w4.heap.size 1 (by simp)).trans ((World.cell?_alloc_at _ _ _ _ rfl).trans rfl : _ = some (.int .i64 0))
            have b2 := (below_at hb5 w4.heap.size 2 (by simp)).trans ((World.cell?_alloc_at _ _ _ _ rfl).trans rfl : _ = some (.slice AM m cm))
            have b3 := (below_at hb5 w4.heap.size 3 (by simp)).trans ((World.cell?_alloc_at _ _ _ _ rfl).trans rfl : _ = some (.slice AD l.length cd))
            have hz5 : w4.heap.size < w5.heap.size := by have := hb5.size; simp at this; omega
            have x0 := (below_at hb45 w.heap.size 0 hw4).trans u0
            have x1 := (below_at hb45 w.heap.size 1 hw4).trans u1
            have x2 := (below_at hb45 w.heap.size 2 hw4).trans u2
            have x3 := (below_at hb45 w.heap.size 3 hw4).trans u3
            have x4 := (below_at hb45 w.heap.size 4 hw4).trans u4
            have hB5 : Below w.heap.size w w5 := hB4.trans (hb45.mono (by omega))
            have HCI5 := Lib.hid (HCI.out.below hb45)
            have HS5 := Lib.hid (HSt.out.below hb45)
            have rk5 := (oj0.rg w3.heap.size)
            have hsl0 : l[0] = s0 := by rw [List.getElem?_eq_getElem hn0] at hs0; injection hs0
            rw [hsl0] at c0 rk0
            have c05 := (below_at hb45 gS _ hgS).trans c0
            have c15 := (below_at hb45 gS _ hgS).trans c1
            have rk05 := rk0.below hb45
            have hgS5 : gS < w5.heap.size := by omega
            have hw35 : w3.heap.size ≤ w5.heap.size := by omega
            clear hAL hb45 hb5 u0 u1 u2 u3 u4 HCI HSt oj0 c0 c1 rk0 hB4 hsl0 hgS
            go_upto_region 8 with fail
            have HBX : Hid (SBox (w5.alloc (.cells #[.int .i64 ((s0.1 : Nat) : Int), .slice A0 r.ng cc0] 45)) w5.heap.size w3.heap.size r.ng s0) := SBox.new rk5
            have hAL : Below w5.heap.size w5 (w5.alloc (.cells #[.int .i64 ((s0.1 : Nat) : Int), .slice A0 r.ng cc0] 45)) := (Below.refl _ _).alloc (Nat.le_refl _) _
            have hALz : (w5.alloc (.cells #[.int .i64 ((s0.1 : Nat) : Int), .slice A0 r.ng cc0] 45)).heap.size = w5.heap.size + 1 := by simp
            have t0 : (w5.alloc (.cells #[.int .i64 ((s0.1 : Nat) : Int), .slice A0 r.ng cc0] 45)).cell? ⟨w5.heap.size, 0, none⟩ = some (.int .i64 ((s0.1 : Nat) : Int)) := by simp
            have t1 : (w5.alloc (.cells #[.int .i64 ((s0.1 : Nat) : Int), .slice A0 r.ng cc0] 45)).cell? ⟨w5.heap.size, 1, none⟩ = some (.slice A0 r.ng cc0) := by simp
            generalize w5.alloc (.cells #[.int .i64 ((s0.1 : Nat) : Int), .slice A0 r.ng cc0] 45) = W5 at *
            have KS0 : Hid (∀ W, Below W5.heap.size W5 W → Calls Tryz.prog 16 #[.agg #[.int .i64 ((s0.1 : Nat) : Int), .slice Bs r.ng ds], .agg #[.int .i64 ((s0.1 : Nat) : Int), .slice A0 r.ng cc0]] W fun e w' => e = .returned (.bool true) ∧ Below W.heap.size W w') := fun W hW => by
              refine (sameS_any (F := ((s0.1 : Nat) : Int)) (G := ((s0.1 : Nat) : Int)) (c := ds) (d := cc0) (((rk05.below hAL).below hW).rj) (((rk5.below hAL).below hW).rj) hng).mono fun e w' ⟨⟨b, h1, h2⟩, h3⟩ => ⟨?_, h3⟩
              rw [h2.2 ⟨rfl, rfl, fun _ _ => rfl⟩] at h1
              exact h1
            have q0 := fun y : Sub W5 => y.cell t0
            have q1 := fun y : Sub W5 => y.cell t1
            have q2 := fun y : Sub W5 => y.cell ((below_at hAL gS _ hgS5).trans c05)
            have q3 := fun y : Sub W5 => y.cell ((below_at hAL gS _ hgS5).trans c15)
            have q4 := fun y : Sub W5 => y.cell ((below_at hAL w4.heap.size 0 hz5).trans b0)
            simp only [Nat.zero_mul, Nat.zero_add] at q2 q3
            have e4 : ((l.length : Int) != (l.length : Int)) = false := by simp
            have e5 : ((l.length : Int) == 0) = false := ibeq_f (by omega)
            have e6 : (l.length == 0) = false := nbeq_f (by omega)
            have i0 : (0 : Int) < (l.length : Int) := by omega
            have i1 : (0 : Int) < (cs : Int) := by omega
            obtain ⟨F0, hF0⟩ : ∃ F0 : Int, F0 = ((s0.1 : Nat) : Int) := ⟨_, rfl⟩
            rw [← hF0] at KS0 q0 q2 t0
            clear hF0 c05 c15 rk05 rk5
            clear t0 t1
            ((refine wp_region_quiet_bel (by kernel_rfl) (by kernel_rfl) ?_); (repeat (go_big_quiet_step ((go_at_call 16; with_reducible exact Calls.quiet_bel (KS0.out _ (Sub.bel _)))))); (refine wpQuiet_nil ?_); rintro w6 ⟨⟨_, hb6⟩, rfl⟩; (try dsimp only))
            have hz6 := hb6.size
            have hb56 : Below w5.heap.size w5 w6 := hAL.trans (hb6.mono (by omega))
            have HBX6 := Lib.hid (HBX.out.below hb6)
            have HB56 := Lib.hid hb56
            have HB5 := Lib.hid hB5
            have HS0 := Lib.hid hs0
            clear q0 q1 q2 q3 q4 hAL hb6 hb56 KS0 HBX hB5 hs0 HSTR e4 e5 e6 i0 i1
            go_wp2_with fail
            go_loopw [88, 10] (fun i a wr => ∃ (k p : Nat) (s : DS), k ≤ nA ∧ i = .int .i64 (k : Int) ∧ a = .int .i64 (p : Int) ∧ l[p]? = some s ∧ SBox wr w5.heap.size w3.heap.size r.ng s ∧ Below w5.heap.size w5 wr) (fun i _ _ => nA - (intOf i).toNat)
            case atStart => exact ⟨0, 0, s0, Nat.zero_le _, rfl, rfl, HS0.out, HBX6.out, HB56.out⟩
            case round =>
              obtain ⟨k, p, s, hk, rfl, rfl, hps, hbx, hb⟩ := hrel
              obtain ⟨wo, rfl⟩ : ∃ wo : World, wo = wr := ⟨_, rfl⟩
              have hbz := hb.size
              have hBo : Below w.heap.size w wo := HB5.out.trans (hb.mono (by omega))
              by_cases hkl : k < nA
              · have hsm : s ∈ l := List.mem_of_getElem? hps
                have hpl : p < l.length := (List.getElem?_eq_some_iff.1 hps).1
                obtain ⟨bA, oA, rfl, hbA, hcA, hPk⟩ := HP.out k hkl
                have ca := (below_at hBo bA _ hbA).trans hcA
                have HBo := Lib.hid hbx
                obtain ⟨⟨As, css, g0, g1, rk⟩, hlt8, -, -⟩ := hbx
                obtain ⟨i, hi⟩ : ∃ i, i = P k % vN := ⟨_, rfl⟩
                have hiv : i < vN := by rw [hi]; exact Nat.mod_lt _ hv0
                obtain ⟨pk, hpk⟩ : ∃ pk, pk = P k := ⟨_, rfl⟩
                rw [← hpk] at hi ca hPk
                have t1 : Int.tmod (pk : Int) (vN : Int) = (i : Int) := by rw [Int.tmod_eq_emod_of_nonneg (by omega), hi]; rfl
                have t3 : (pk : Int) % (vN : Int) = (i : Int) := by rw [hi]; rfl
                have t5 : IntKind.i64.wrap (i : Int) = (i : Int) := by rw [IntKind.wrap_i64]; omega
                have t6 : ((vN : Int) == 0) = false := by simp; omega
                have t7 : ¬ ((vN : Int) = 0) := by omega
                have k0 : (0 : Int) ≤ (k : Int) := by omega
                have k1 : (k : Int) < (nA : Int) := by omega
                have y0 := (below_at hb w.heap.size 0 (by omega)).trans x0
                have y1 := (below_at hb w.heap.size 1 (by omega)).trans x1
                have y2 := (below_at hb w.heap.size 2 (by omega)).trans x2
                have y3 := (below_at hb w.heap.size 3 (by omega)).trans x3
                have y4 := (below_at hb w.heap.size 4 (by omega)).trans x4
                have HRK := Lib.hid rk
                have HBW := Lib.hid hBo
                have HB5o := Lib.hid hb
                have KR := Lib.hid (KRt.out wo s As css i hBo hsm rk.rj hiv)
                have hac := HACT.out s i hiv
                obtain ⟨f, hf⟩ : ∃ f, f = r.tr.fr s i := ⟨_, rfl⟩
                obtain ⟨u, hu⟩ : ∃ u, u = r.tr.rr s i := ⟨_, rfl⟩
                rw [← hf, ← hu] at KR
                have hfz := hac.fz
                have hrz := hac.rz
                have hcs := hac.cs
                rw [← hf] at hfz hcs
                rw [← hu] at hrz hcs
                clear hi hpk rk hBo hb hf hu hac hcA
                go_wp2_with fail
                refine KR.out.mono ?_
                rintro e w7 ⟨⟨v, uu, rfl, ov, ou⟩, hb7⟩
                obtain ⟨sv, Av, nv_, cv_, Bv, mv, dv, rfl⟩ := ov.form
                obtain ⟨su, Au, nu, cu, Bu, mu, du, rfl⟩ := ou.form
                have hz7 := hb7.size
                have qv := ov.rq hfz
                have qu := ou.rq hrz
                obtain ⟨q, hq⟩ : ∃ q, q = f + u := ⟨_, rfl⟩
                have hqz : Sz 17 q := by rw [hq]; exact (hfz.add hrz).more (by omega)
                have hc3 : (u = 0 ∧ q = 0) ∨ (s.1.testBit i = true ∧ heldD r.dy s i = false ∧ 0 < u ∧ 0 < q ∧ (stR r.dy s i, q) ∈ r.tr.nx s vN) ∨ (s.1.testBit i = false ∧ u = 0 ∧ 0 < q ∧ (stF r.dy s i, q) ∈ r.tr.nx s vN) := by
                  rw [HVT.out] at hcs
                  rcases hcs with ⟨h1, h2⟩ | ⟨h1, h2, h3, h4, h5⟩ | ⟨h1, h2, h3, h4⟩
                  · exact .inl ⟨h2, by rw [hq, h1, h2]; exact Rat.add_zero 0⟩
                  · have e : q = u := by rw [hq, h3]; exact Rat.zero_add u
                    exact .inr (.inl ⟨h1, h2, h4, by rw [e]; exact h4, by rw [e]; exact h5⟩)
                  · have e : q = f := by rw [hq, h2]; exact Rat.add_zero f
                    exact .inr (.inr ⟨h1, h2, by rw [e]; exact h3, by rw [e]; exact h4⟩)
                have KAd : Hid (∀ W, Below w7.heap.size w7 W → Calls Tryz.prog 22 #[rv sv Av nv_ cv_ Bv mv dv, rv su Au nu cu Bu mu du] W fun e w' => RetQ W.heap.size q e w' ∧ Below W.heap.size W w') := fun W hW => by
                  rw [hq]
                  exact addQ (qv.below hW) (qu.below hW) (by omega) (by omega)
                have KSu : Hid (∀ W z, sgnQ u = z → Below w7.heap.size w7 W → Calls Tryz.prog 23 #[rv su Au nu cu Bu mu du] W fun e w' => e = .returned (.int .i64 z) ∧ Below W.heap.size W w') := fun W z hz hW => by
                  rw [← hz]
                  exact signQ (qu.below hW) (by omega) (by omega)
                have hbo7 : Below wo.heap.size wo w7 := hb7
                have HBO7 := Lib.hid hbo7
                have HRK7 := Lib.hid (HRK.out.below hb7)
                have z0 := (below_at hb7 w.heap.size 0 (by omega)).trans y0
                have z1 := (below_at hb7 w.heap.size 1 (by omega)).trans y1
                have z2 := (below_at hb7 w.heap.size 2 (by omega)).trans y2
                have z3 := (below_at hb7 w.heap.size 3 (by omega)).trans y3
                have z4 := (below_at hb7 w.heap.size 4 (by omega)).trans y4
                have g0 := (below_at hb7 w5.heap.size 0 hlt8).trans g0
                have g1 := (below_at hb7 w5.heap.size 1 hlt8).trans g1
                have hlt7 : w5.heap.size < w7.heap.size := by omega
                have hww7 : w.heap.size < w7.heap.size := by omega
                have HC3 := Lib.hid hc3
                clear hc3 hcs hq hb7 hbo7 ov ou qv qu hfz hrz y0 y1 y2 y3 y4 KR ca HRK t1 t3 t5 t6 t7 k0 k1
                go_wp2_with fail
                refine (KAd.out _ (by (skip); repeat' (first | (with_reducible exact Below.refl _ _) | (with_reducible assumption) | (with_reducible refine Below.alloc ?_ ?_ _) | (with_reducible refine Below.drew ?_) | (with_reducible refine below_drewN ?_ _) | (with_reducible refine Below.setCell ?_ ?_ _) | (with_reducible refine Below.trans ?_ (Below.mono (by with_reducible assumption) ?_)) | omega | (simp only [ZA, ZS, ZD, ZN]; omega) | go_size))).mono ?_
                rintro e w8 ⟨⟨xx, rfl, ox⟩, hb8⟩
                obtain ⟨sx, Ax, nx_, cx, Bx, mx, dx, rfl⟩ := ox.form
                have hb78 : Below w7.heap.size w7 w8 := (by have z0 := Below.size hb8; (try simp only [ZA, ZS, ZD, ZN] at z0 ⊢; skip); repeat' (first | (with_reducible exact Below.refl _ _) | (with_reducible assumption) | (with_reducible refine Below.alloc ?_ ?_ _) | (with_reducible refine Below.drew ?_) | (with_reducible refine below_drewN ?_ _) | (with_reducible refine Below.setCell ?_ ?_ _) | (with_reducible refine Below.trans ?_ (Below.mono (by with_reducible assumption) ?_)) | omega | (simp only [ZA, ZS, ZD, ZN]; omega) | go_size))
                have s0' := (below_at hb8 (w7.heap.size + 1) 0 (by simp)).trans (by simp [go_sem] : _ = some (.bool su))
                have s1' := (below_at hb8 (w7.heap.size + 1) 1 (by simp)).trans (by simp [go_sem] : _ = some (.slice Au nu cu))
                have s2' := (below_at hb8 (w7.heap.size + 1) 2 (by simp)).trans (by simp [go_sem] : _ = some (.slice Bu mu du))
                have hz78 : w7.heap.size + 1 < w8.heap.size := by have := hb8.size; simp at this; omega
                have qx := ox.rq hqz
                have KSx : Hid (∀ W z, sgnQ q = z → Below w8.heap.size w8 W → Calls Tryz.prog 23 #[rv sx Ax nx_ cx Bx mx dx] W fun e w' => e = .returned (.int .i64 z) ∧ Below W.heap.size W w') := fun W z hz hW => by
                  rw [← hz]
                  exact signQ (qx.below hW) (by omega) (by omega)
                have aL8 : ∀ ob, Below w8.heap.size w8 (w8.alloc ob) := fun ob => (Below.refl _ _).alloc (Nat.le_refl _) ob
                have HB78 := Lib.hid hb78
                have HQ8 := Lib.hid qx
                clear hb8 hb78 ox qx hqz KAd
                rcases HC3.out with ⟨hu0, hq0⟩ | ⟨htb, hhd, hu0, hqp, hyn⟩ | ⟨htb, hu0, hqp, hyn⟩
                · have KS := Lib.hid (KSx.out (w8.alloc (.cells #[.bool sx, .slice Ax nx_ cx, .slice Bx mx dx] 56)) 0 (sgnQ_zero.2 hq0) (aL8 _))
                  clear KSx s0' s1' s2' z0 z1 z2 z3 z4 g0 g1 hu0 hq0
                  go_wp2_with fail
                  refine KS.out.mono ?_
                  rintro e w9 ⟨rfl, hb9⟩
                  have hbo9 : Below wo.heap.size wo w9 := HBO7.out.trans ((HB78.out.trans ((show Below w8.heap.size w8 w9 from (by have z0 := Below.size hb9; (try simp only [ZA, ZS, ZD, ZN] at z0 ⊢; skip); repeat' (first | (with_reducible exact Below.refl _ _) | (with_reducible assumption) | (with_reducible refine Below.alloc ?_ ?_ _) | (with_reducible refine Below.drew ?_) | (with_reducible refine below_drewN ?_ _) | (with_reducible refine Below.setCell ?_ ?_ _) | (with_reducible refine Below.trans ?_ (Below.mono (by with_reducible assumption) ?_)) | omega | (simp only [ZA, ZS, ZD, ZN]; omega) | go_size))).mono (by omega))).mono hz7)
                  have HB9 := Lib.hid (HBo.out.below hbo9)
                  have HB59 := Lib.hid (HB5o.out.trans (hbo9.mono hbz))
                  clear hb9 hbo9 KS aL8
                  go_wp2_with fail
                  go_roundw
                  case rel => exact ⟨k + 1, p, s, by omega, by go_num, rfl, hps, HB9.out, HB59.out⟩
                  case measure => simp [intOf]; omega
                · have KS := Lib.hid (KSx.out (w8.alloc (.cells #[.bool sx, .slice Ax nx_ cx, .slice Bx mx dx] 56)) 1 (sgn_pos hqp) (aL8 _))
                  clear KSx
                  clear aL8
                  go_wp2_with fail
                  refine KS.out.mono ?_
                  rintro e w9 ⟨rfl, hb9⟩
                  have hb89 : Below w8.heap.size w8 w9 := (by have z0 := Below.size hb9; (try simp only [ZA, ZS, ZD, ZN] at z0 ⊢; skip); repeat' (first | (with_reducible exact Below.refl _ _) | (with_reducible assumption) | (with_reducible refine Below.alloc ?_ ?_ _) | (with_reducible refine Below.drew ?_) | (with_reducible refine below_drewN ?_ _) | (with_reducible refine Below.setCell ?_ ?_ _) | (with_reducible refine Below.trans ?_ (Below.mono (by with_reducible assumption) ?_)) | omega | (simp only [ZA, ZS, ZD, ZN]; omega) | go_size))
                  have v0 := (below_at hb9 w8.heap.size 0 (by simp)).trans (by simp [go_sem] : _ = some (.bool sx))
                  have v1 := (below_at hb9 w8.heap.size 1 (by simp)).trans (by simp [go_sem] : _ = some (.slice Ax nx_ cx))
                  have v2 := (below_at hb9 w8.heap.size 2 (by simp)).trans (by simp [go_sem] : _ = some (.slice Bx mx dx))
                  have hz89 : w8.heap.size < w9.heap.size := by have := hb9.size; simp at this; omega
                  have hb79 : Below w7.heap.size w7 w9 := HB78.out.trans (hb89.mono (by omega))
                  have hbo9 : Below wo.heap.size wo w9 := HBO7.out.trans (hb79.mono hz7)
                  have hz9 : wo.heap.size ≤ w9.heap.size := by omega
                  have hb9W : Below w.heap.size w w9 := HBW.out.trans (hbo9.mono (by omega))
                  have rk9 := HRK7.out.below hb79
                  have q9 := HQ8.out.below hb89
                  have z0 := (below_at hb79 w.heap.size 0 (by omega)).trans z0
                  have z1 := (below_at hb79 w.heap.size 1 (by omega)).trans z1
                  have z2 := (below_at hb79 w.heap.size 2 (by omega)).trans z2
                  have z3 := (below_at hb79 w.heap.size 3 (by omega)).trans z3
                  have z4 := (below_at hb79 w.heap.size 4 (by omega)).trans z4
                  have g0 := (below_at hb79 w5.heap.size 0 (by omega)).trans g0
                  have g1 := (below_at hb79 w5.heap.size 1 (by omega)).trans g1
                  have s0' := (below_at hb89 (w7.heap.size + 1) 0 (by omega)).trans s0'
                  have s1' := (below_at hb89 (w7.heap.size + 1) 1 (by omega)).trans s1'
                  have s2' := (below_at hb89 (w7.heap.size + 1) 2 (by omega)).trans s2'
                  have H79 := Lib.hid hb79
                  clear hb9 hb79 hb89 KS HRK7 HQ8 HB78
                  have KF := Lib.hid (KF1.out w9 s As css i hb9W hsm rk9.rj hiv htb)
                  have KU := Lib.hid (fun W => KSu.out W 1 (sgn_pos hu0))
                  obtain ⟨Y, hY⟩ : ∃ Y, Y = stR r.dy s i := ⟨_, rfl⟩
                  rw [← hY] at hyn
                  have KP : Hid (∀ W, Below w9.heap.size w9 W → Calls Tryz.prog 25 #[.agg #[.int .i64 (vN : Int), .slice AG r.ng cg, .int .i64 r.top, .slice AF r.nf cf, .slice AR r.nr cr], .agg #[.int .i64 ((s.1 : Nat) : Int), .slice As r.ng css], .int .i64 (i : Int)] W fun e w' => (∃ A c, e = .returned (.tuple #[.agg #[.int .i64 ((Y.1 : Nat) : Int), .slice A r.ng c], .nilIface]) ∧ OwJ w' W.heap.size A c r.ng (fun j => Y.2.getD j 0)) ∧ Below W.heap.size W w') := fun W hW => by
                    rw [hY]
                    exact KRp.out W s As css i (hb9W.trans (hW.mono hb9W.size)) hsm (rk9.below hW).rj hiv htb hhd
                  obtain ⟨FS, hFS⟩ : ∃ FS : Int, FS = ((s.1 : Nat) : Int) := ⟨_, rfl⟩
                  rw [← hFS] at KF KP g0
                  clear hFS hY htb hhd hu0 rk9 hb9W KSu
                  go_wp2_with fail
                  refine KF.out.mono ?_
                  rintro e w10 ⟨rfl, hb10⟩
                  have hz10 := hb10.size
                  have hg58 : w5.heap.size < w10.heap.size := by omega
                  have z0 := (below_at hb10 w.heap.size 0 (by omega)).trans z0
                  have z1 := (below_at hb10 w.heap.size 1 (by omega)).trans z1
                  have z2 := (below_at hb10 w.heap.size 2 (by omega)).trans z2
                  have z3 := (below_at hb10 w.heap.size 3 (by omega)).trans z3
                  have z4 := (below_at hb10 w.heap.size 4 (by omega)).trans z4
                  have g0 := (below_at hb10 w5.heap.size 0 (by omega)).trans g0
                  have g1 := (below_at hb10 w5.heap.size 1 (by omega)).trans g1
                  have s0' := (below_at hb10 (w7.heap.size + 1) 0 (by omega)).trans s0'
                  have s1' := (below_at hb10 (w7.heap.size + 1) 1 (by omega)).trans s1'
                  have s2' := (below_at hb10 (w7.heap.size + 1) 2 (by omega)).trans s2'
                  have v0 := (below_at hb10 w8.heap.size 0 (by omega)).trans v0
                  have v1 := (below_at hb10 w8.heap.size 1 (by omega)).trans v1
                  have v2 := (below_at hb10 w8.heap.size 2 (by omega)).trans v2
                  have KU2 := Lib.hid (fun W (hW : Below w10.heap.size w10 W) => KU.out W (H79.out.trans ((hb10.trans (hW.mono hb10.size)).mono (by omega))))
                  have KP2 := Lib.hid (fun W (hW : Below w10.heap.size w10 W) => KP.out W (hb10.trans (hW.mono hb10.size)))
                  have H10 := Lib.hid hb10
                  have aL10 : ∀ ob, Below w10.heap.size w10 (w10.alloc ob) := fun ob => (Below.refl _ _).alloc (Nat.le_refl _) ob
                  (have osc := fun o i => below_at ((Below.refl w10.heap.size w10).alloc (Nat.le_refl _) o) (w7.heap.size + 1) i (by omega)); (have osf := fun o i => below_fr ((Below.refl w10.heap.size w10).alloc (Nat.le_refl _) o) (w7.heap.size + 1) i (by omega))
                  clear hb10 KF KU KP
                  go_wp2_with fail
                  refine (KU2.out _ (aL10 _)).mono ?_
                  rintro e w11 ⟨rfl, hb11⟩
                  have hb1011 : Below w10.heap.size w10 w11 := (by have z0 := Below.size hb11; (try simp only [ZA, ZS, ZD, ZN] at z0 ⊢; skip); repeat' (first | (with_reducible exact Below.refl _ _) | (with_reducible assumption) | (with_reducible refine Below.alloc ?_ ?_ _) | (with_reducible refine Below.drew ?_) | (with_reducible refine below_drewN ?_ _) | (with_reducible refine Below.setCell ?_ ?_ _) | (with_reducible refine Below.trans ?_ (Below.mono (by with_reducible assumption) ?_)) | omega | (simp only [ZA, ZS, ZD, ZN]; omega) | go_size))
                  have hz11 : w10.heap.size < w11.heap.size := by have := hb11.size; simp at this; omega
                  have SB11 := (SBox0.new (a := .int .i64 0) (b := .slice none 0 0) w10).below hb11
                  have z0 := (below_at hb1011 w.heap.size 0 (by omega)).trans z0
                  have z1 := (below_at hb1011 w.heap.size 1 (by omega)).trans z1
                  have z2 := (below_at hb1011 w.heap.size 2 (by omega)).trans z2
                  have z3 := (below_at hb1011 w.heap.size 3 (by omega)).trans z3
                  have z4 := (below_at hb1011 w.heap.size 4 (by omega)).trans z4
                  have g0 := (below_at hb1011 w5.heap.size 0 (by omega)).trans g0
                  have g1 := (below_at hb1011 w5.heap.size 1 (by omega)).trans g1
                  have v0 := (below_at hb1011 w8.heap.size 0 (by omega)).trans v0
                  have v1 := (below_at hb1011 w8.heap.size 1 (by omega)).trans v1
                  have v2 := (below_at hb1011 w8.heap.size 2 (by omega)).trans v2
                  have KP3 := Lib.hid (KP2.out w11 hb1011)
                  have H11 := Lib.hid hb1011
                  clear hb11 hb1011 KU2 KP2 aL10 osc osf
                  go_wp2_with fail
                  refine KP3.out.mono ?_
                  rintro e w12 ⟨⟨Ay, cy, rfl, oj⟩, hb12⟩
                  have hz12 := hb12.size
                  have SB12 := SB11.below hb12
                  have hPY := SB12.put (by omega : w3.heap.size ≤ w10.heap.size) (oj.rg w3.heap.size)
                  obtain ⟨⟨ua, ub, u0, u1⟩, u2, -, u3⟩ := SB12
                  have v0 := (below_at hb12 w8.heap.size 0 (by omega)).trans v0
                  have v1 := (below_at hb12 w8.heap.size 1 (by omega)).trans v1
                  have v2 := (below_at hb12 w8.heap.size 2 (by omega)).trans v2
                  have hne : ¬ (w10.heap.size = w8.heap.size) := by omega
                  have hbTT : Below w9.heap.size w9 ((w12.setCell ⟨w10.heap.size, 0, none⟩ (.int .i64 ((Y.1 : Nat) : Int))).setCell ⟨w10.heap.size, 1, none⟩ (.slice Ay r.ng cy)) := (((H10.out.trans (H11.out.mono (by omega))).trans (hb12.mono (by omega))).setCell (by show _ ≤ w10.heap.size; omega) _).setCell (by show _ ≤ w10.heap.size; omega) _
                  have vv0 : ((w12.setCell ⟨w10.heap.size, 0, none⟩ (.int .i64 ((Y.1 : Nat) : Int))).setCell ⟨w10.heap.size, 1, none⟩ (.slice Ay r.ng cy)).cell? ⟨w8.heap.size, 0, none⟩ = some (.bool sx) := far2 v0 hne
                  have vv1 : ((w12.setCell ⟨w10.heap.size, 0, none⟩ (.int .i64 ((Y.1 : Nat) : Int))).setCell ⟨w10.heap.size, 1, none⟩ (.slice Ay r.ng cy)).cell? ⟨w8.heap.size, 1, none⟩ = some (.slice Ax nx_ cx) := far2 v1 hne
                  have vv2 : ((w12.setCell ⟨w10.heap.size, 0, none⟩ (.int .i64 ((Y.1 : Nat) : Int))).setCell ⟨w10.heap.size, 1, none⟩ (.slice Ay r.ng cy)).cell? ⟨w8.heap.size, 2, none⟩ = some (.slice Bx mx dx) := far2 v2 hne
                  obtain ⟨FYY, hFYY⟩ : ∃ FYY : Int, FYY = ((Y.1 : Nat) : Int) := ⟨_, rfl⟩
                  rw [← hFYY] at hbTT vv0 vv1 vv2 hPY
                  have HPY := Lib.hid hPY
                  have HBTT := Lib.hid hbTT
                  rw [← hFYY]
                  have hzT8 : w8.heap.size < ((w12.setCell ⟨w10.heap.size, 0, none⟩ (.int .i64 FYY)).setCell ⟨w10.heap.size, 1, none⟩ (.slice Ay r.ng cy)).heap.size := by simp; omega
                  clear hPY hbTT oj hb12 KP3 SB11 hFYY v0 v1 v2
                  go_upto_region 22 with fail
                  obtain ⟨wT, hwT⟩ : ∃ wT, wT = ((w12.setCell ⟨w10.heap.size, 0, none⟩ (.int .i64 FYY)).setCell ⟨w10.heap.size, 1, none⟩ (.slice Ay r.ng cy)) := ⟨_, rfl⟩
                  have HBY := HPY.out
                  have hb9T := HBTT.out
                  rw [← hwT] at HBY hb9T vv0 vv1 vv2 hzT8
                  rw [← hwT]
                  clear HPY HBTT hwT u0 u1 u2 u3 H10 H11 z0 z1 z2 z3 z4 g0 g1 s0' s1' s2' hne hz10 hz11 hz12
                  have HBY := Lib.hid HBY
                  have hbT : Below wo.heap.size wo wT := hbo9.trans (hb9T.mono hz9)
                  have qx := q9.below hb9T
                  have v0 := vv0
                  have v1 := vv1
                  have v2 := vv2
                  have hg17 := hzT8
                  clear vv0 vv1 vv2 hb9T q9 hzT8
                  -- the state that follows: SBox wT w10.heap.size .. y, rate q in the box w8.heap.size
                  have hzT := hbT.size
                  have hb5T : Below w5.heap.size w5 wT := HB5o.out.trans (hbT.mono (by omega))
                  obtain ⟨p2, FO⟩ := HFOL.out p s (Y, q) hps hyn hqp
                  dsimp only at FO
                  obtain ⟨Lp, hLp⟩ : ∃ Lp, Lp = L p := ⟨_, rfl⟩
                  rw [← hLp] at FO
                  have KMp := Lib.hid (KMv.out wT AM AD cm cd p hpl (HCI5.out.below hb5T))
                  rw [← hLp] at KMp
                  have hLn : Lp.length ≤ 1000000 := by rw [hLp]; exact HLL.out p
                  have d0 := (below_at hb5T w4.heap.size 0 hz5).trans b0
                  have d1 := (below_at hb5T w4.heap.size 1 hz5).trans b1
                  have d2 := (below_at hb5T w4.heap.size 2 hz5).trans b2
                  have d3 := (below_at hb5T w4.heap.size 3 hz5).trans b3
                  have hYm : Y ∈ l := List.mem_of_getElem? FO.hp
                  have HFO := Lib.hid FO
                  have HB5T := Lib.hid hb5T
                  have HBT := Lib.hid hbT
                  clear hLp FO hb5T hbT hyn
                  go_wp2_with fail
                  refine KMp.out.mono ?_
                  rintro e w13 ⟨⟨Am, cpm, rfl, own⟩, hb13⟩
                  have hz13 := hb13.size
                  obtain ⟨⟨Ay, cy, f0, f1, rky⟩, hlt18, -, -⟩ := HBY.out.below hb13
                  have HBS := Lib.hid (HBo.out.below (HBT.out.trans (hb13.mono hzT)))
                  obtain ⟨⟨As', cs', g0, g1, rks⟩, hlt8, -, gfz⟩ := HBS.out
                  have v0 := (below_at hb13 w8.heap.size 0 hg17).trans v0
                  have v1 := (below_at hb13 w8.heap.size 1 hg17).trans v1
                  have v2 := (below_at hb13 w8.heap.size 2 hg17).trans v2
                  have qx := qx.below hb13
                  have HOw := Lib.hid own
                  have hb513 : Below w5.heap.size w5 w13 := HB5T.out.trans (hb13.mono (by omega))
                  have HB513 := Lib.hid hb513
                  have KSy : Hid (Calls Tryz.prog 16 #[.agg #[.int .i64 ((Y.1 : Nat) : Int), .slice Ay r.ng cy], .agg #[.int .i64 ((s.1 : Nat) : Int), .slice As' r.ng cs']] w13 fun e w' => (∃ b : Bool, e = .returned (.bool b) ∧ (b = true ↔ Y = s)) ∧ Below w13.heap.size w13 w') :=
                    (sameS_any (F := ((Y.1 : Nat) : Int)) (G := ((s.1 : Nat) : Int)) (c := cy) (d := cs') rky.rj rks.rj hng).mono fun e w' ⟨⟨b, h1, h2⟩, h3⟩ => ⟨⟨b, h1, by
                      rw [h2]
                      exact ⟨fun hh => HEXT.out Y s hYm hsm hh.1 hh.2.2, fun hh => by subst hh; exact ⟨rfl, rfl, fun _ _ => rfl⟩⟩⟩, h3⟩
                  have HRY := Lib.hid rky
                  obtain ⟨FY, hFY⟩ : ∃ FY : Int, FY = ((Y.1 : Nat) : Int) := ⟨_, rfl⟩
                  obtain ⟨FS, hFS⟩ : ∃ FS : Int, FS = ((s.1 : Nat) : Int) := ⟨_, rfl⟩
                  rw [← hFY] at KSy f0
                  rw [← hFS] at KSy g0
                  have HFY := Lib.hid hFY
                  clear own hb13 KMp hb513 rky rks d0 d1 d2 d3 hFY hFS HBY
                  go_wp2_with fail
                  refine KSy.out.mono ?_
                  rintro e w14 ⟨⟨bb, rfl, hbb⟩, hb14⟩
                  have hz14 := hb14.size
                  have HBB := Lib.hid hbb
                  have h0 := (below_at hb14 w10.heap.size 0 hlt18).trans f0
                  have h1 := (below_at hb14 w10.heap.size 1 hlt18).trans f1
                  have k0 := (below_at hb14 w5.heap.size 0 hlt8).trans g0
                  have k1 := (below_at hb14 w5.heap.size 1 hlt8).trans g1
                  have v0 := (below_at hb14 w8.heap.size 0 (by omega)).trans v0
                  have v1 := (below_at hb14 w8.heap.size 1 (by omega)).trans v1
                  have v2 := (below_at hb14 w8.heap.size 2 (by omega)).trans v2
                  have kfz := fun i => (below_fr hb14 w5.heap.size i hlt8).trans (gfz i)
                  have HQX := Lib.hid (qx.below hb14)
                  have HRY := Lib.hid (HRY.out.below hb14)
                  have HOw := Lib.hid (HOw.out.below hb14)
                  have HBS := Lib.hid (HBS.out.below hb14)
                  have HB514 := Lib.hid (HB513.out.trans (hb14.mono (by omega)))
                  have hlt18 : w10.heap.size < w14.heap.size := by omega
                  have hlt8 : w5.heap.size < w14.heap.size := by omega
                  have hg17 : w8.heap.size < w14.heap.size := by omega
                  clear hbb hb14 f0 f1 g0 g1 gfz qx KSy HB513 HB5T HBT HBo
                  go_wp2_with fail
                  go_loopw [145, 10, 22] (fun i a f wr => ∃ j : Nat, j ≤ Lp.length ∧ i = .int .i64 (j : Int) ∧ a = .int .i64 (p : Int) ∧ f = .bool bb ∧ (∀ j', j' < j → (Lp.getD j' (0, 0)).1 ≠ p2) ∧ Below w14.heap.size w14 wr) (fun i _ _ _ => Lp.length - (intOf i).toNat)
                  case atStart => exact ⟨0, Nat.zero_le _, rfl, rfl, rfl, fun j' h => absurd h (Nat.not_lt_zero _), Below.refl _ _⟩
                  case round =>
                    obtain ⟨j, hj, rfl, rfl, rfl, hno, hbi⟩ := hrel
                    obtain ⟨wi, rfl⟩ : ∃ wi : World, wi = wr := ⟨_, rfl⟩
                    have hzi := hbi.size
                    have HNO := Lib.hid hno
                    clear hno
                    have hb5i : Below w5.heap.size w5 wi := HB514.out.trans (hbi.mono (by omega))
                    by_cases hjl : j < Lp.length
                    · obtain ⟨bm, om, sg, A8, n8, c8, B8, m8, d8, rfl, hbm, m0, m1, m2, m3, m4, rm⟩ := (OwM.ra (HOw.out.below hbi)).at_ hjl
                      have hsz := HFO.out.sz j hjl
                      have htl := HFO.out.lt j hjl
                      have hge := Lib.hid (HFO.out.ge j hjl)
                      have hne := Lib.hid (HFO.out.ne j hjl)
                      obtain ⟨t, qt, htq⟩ : ∃ t qt, Lp.getD j (0, 0) = (t, qt) := ⟨_, _, rfl⟩
                      have hnj : ¬ t = p2 → ∀ j', j' < j + 1 → (Lp.getD j' (0, 0)).1 ≠ p2 := fun hn j' hj' => by
                        by_cases e : j' = j
                        · rw [e, htq]; exact hn
                        · exact HNO.out j' (by omega)
                      have HNJ := Lib.hid hnj
                      rw [htq] at hsz htl hge hne
                      simp only [htq] at m1 rm
                      dsimp only at hsz htl
                      obtain ⟨z, hze⟩ : ∃ z, l[t] = z := ⟨_, rfl⟩
                      have hzt : l[t]? = some z := by rw [List.getElem?_eq_getElem htl, hze]
                      obtain ⟨gS', Bt, dt, eA, -, hgS', c0, c1, rkt⟩ := (HS5.out.below hb5i).at_ htl
                      cases eA
                      rw [hze] at c0 rkt
                      have w0 := (below_at hbi w10.heap.size 0 hlt18).trans h0
                      have w1' := (below_at hbi w10.heap.size 1 hlt18).trans h1
                      have r0 := (below_at hbi w8.heap.size 0 hg17).trans v0
                      have r1 := (below_at hbi w8.heap.size 1 hg17).trans v1
                      have r2 := (below_at hbi w8.heap.size 2 hg17).trans v2
                      have rkY := HRY.out.below hbi
                      have qX := HQX.out.below hbi
                      have qT := rm.canQ hsz
                      have j0 : (0 : Int) ≤ (j : Int) := by omega
                      have j1 : (j : Int) < (Lp.length : Int) := by omega
                      have t0 : (0 : Int) ≤ (t : Int) := by omega
                      have t1 : (t : Int) < (l.length : Int) := by omega
                      have t2 : (t : Int) < (cs : Int) := by omega
                      have t3 : decide ((0 : Int) ≤ (t : Int)) = true := by simp
                      have t4 : decide ((t : Int) < (l.length : Int)) = true := by simpa using htl
                      have hzm : z ∈ l := List.mem_of_getElem? hzt
                      have KSt : Hid (∀ W (b : Bool), (b = true ↔ z = Y) → Below wi.heap.size wi W → Calls Tryz.prog 16 #[.agg #[.int .i64 ((z.1 : Nat) : Int), .slice Bt r.ng dt], .agg #[.int .i64 FY, .slice Ay r.ng cy]] W fun e w' => e = .returned (.bool b) ∧ Below W.heap.size W w') := fun W b hb hW => by
                        rw [HFY.out]
                        refine (sameS_any (F := ((z.1 : Nat) : Int)) (G := ((Y.1 : Nat) : Int)) (c := dt) (d := cy) ((rkt.below hW).rj) ((rkY.below hW).rj) hng).mono fun e w' ⟨⟨b', e1, e2⟩, e3⟩ => ⟨?_, e3⟩
                        rw [e1]
                        have : (b' = true) ↔ (b = true) := by
                          rw [e2, hb]
                          exact ⟨fun hh => HEXT.out z Y hzm hYm hh.1 hh.2.2, fun hh => by subst hh; exact ⟨rfl, rfl, fun _ _ => rfl⟩⟩
                        cases b <;> cases b' <;> simp_all
                      have KCm : Hid (∀ W, Below wi.heap.size wi W → Calls Tryz.prog 27 #[rv sg A8 n8 c8 B8 m8 d8, rv sx Ax nx_ cx Bx mx dx] W fun e w' => e = .returned (.int .i64 (sgnQ (qt - q))) ∧ Below W.heap.size W w') := fun W hW => cmpQ (qT.below hW) ((qX.more (by omega)).below hW) (by omega) (by omega)
                      obtain ⟨FZ, hFZ⟩ : ∃ FZ : Int, FZ = ((z.1 : Nat) : Int) := ⟨_, rfl⟩
                      rw [← hFZ] at KSt c0
                      have HBi := Lib.hid hbi
                      have HB5i := Lib.hid hb5i
                      have HZT := Lib.hid hzt
                      clear hFZ hzt hze rkt rkY qX qT rm hsz hbi hb5i htq hnj
                      go_upto_region 31 with fail
                      have aL : Below wi.heap.size wi (wi.alloc (.cells #[.int .i64 (p : Int), .int .i64 (t : Int), .bool sg, .slice A8 n8 c8, .slice B8 m8 d8] 65)) := (Below.refl _ _).alloc (Nat.le_refl _) _
                      have aZ : (wi.alloc (.cells #[.int .i64 (p : Int), .int .i64 (t : Int), .bool sg, .slice A8 n8 c8, .slice B8 m8 d8] 65)).heap.size = wi.heap.size + 1 := by simp
                      have a1 : (wi.alloc (.cells #[.int .i64 (p : Int), .int .i64 (t : Int), .bool sg, .slice A8 n8 c8, .slice B8 m8 d8] 65)).cell? ⟨wi.heap.size, 1, none⟩ = some (.int .i64 (t : Int)) := by simp
                      have a2 : (wi.alloc (.cells #[.int .i64 (p : Int), .int .i64 (t : Int), .bool sg, .slice A8 n8 c8, .slice B8 m8 d8] 65)).cell? ⟨wi.heap.size, 2, none⟩ = some (.bool sg) := by simp
                      have a3 : (wi.alloc (.cells #[.int .i64 (p : Int), .int .i64 (t : Int), .bool sg, .slice A8 n8 c8, .slice B8 m8 d8] 65)).cell? ⟨wi.heap.size, 3, none⟩ = some (.slice A8 n8 c8) := by simp
                      have a4 : (wi.alloc (.cells #[.int .i64 (p : Int), .int .i64 (t : Int), .bool sg, .slice A8 n8 c8, .slice B8 m8 d8] 65)).cell? ⟨wi.heap.size, 4, none⟩ = some (.slice B8 m8 d8) := by simp
                      generalize wi.alloc (.cells #[.int .i64 (p : Int), .int .i64 (t : Int), .bool sg, .slice A8 n8 c8, .slice B8 m8 d8] 65) = Wi at *
                      have q0 := fun y : Sub Wi => y.cell a1
                      have q1 := fun y : Sub Wi => y.cell ((below_at aL gS _ hgS').trans c0)
                      have q2 := fun y : Sub Wi => y.cell ((below_at aL gS _ hgS').trans c1)
                      have q3 := fun y : Sub Wi => y.cell ((below_at aL w10.heap.size _ (by omega)).trans w0)
                      have q4 := fun y : Sub Wi => y.cell ((below_at aL w10.heap.size _ (by omega)).trans w1')
                      have s2 := (below_at aL w8.heap.size 0 (by omega)).trans r0
                      have s3 := (below_at aL w8.heap.size 1 (by omega)).trans r1
                      have s4 := (below_at aL w8.heap.size 2 (by omega)).trans r2
                      have wif : wi.heap.size < Wi.heap.size := by omega
                      clear c0 c1 w0 w1' r0 r1 r2 m0 m1 m2 m3 m4
                      by_cases htp : t = p2
                      · have hzY : z = Y := by
                          have := HFO.out.hp
                          rw [← htp, HZT.out] at this
                          injection this
                        have KSw := Lib.hid (fun W hW => KSt.out W true (by simp [hzY]) hW)
                        have hqq := hge.out htp
                        have hs0' : 0 ≤ sgnQ (qt - q) := sgn_sub hqq
                        obtain ⟨zz, hzz⟩ : ∃ zz, zz = sgnQ (qt - q) := ⟨_, rfl⟩
                        rw [← hzz] at KCm hs0'
                        have e9 : decide ((0 : Int) ≤ zz) = true := by simpa using hs0'
                        have hpY : l[t]? = some Y := by rw [← hzY]; exact HZT.out
                        clear hzY hzz hqq KSt hzm hge hne HNJ htp HZT
                        ((refine wp_region_quiet_bel (by kernel_rfl) (by kernel_rfl) ?_); (repeat (go_big_quiet_step ((go_at_call 16; with_reducible exact Calls.quiet_bel (KSw.out _ (aL.trans ((Sub.bel _).mono (by omega)))))))); (refine wpQuiet_nil ?_); rintro w15 ⟨⟨_, hb15⟩, rfl⟩; (try dsimp only))
                        have hz15 := hb15.size
                        have aL15 : Below wi.heap.size wi w15 := aL.trans (hb15.mono (by omega))
                        have p1 := fun y : Sub w15 => y.cell ((below_at hb15 wi.heap.size 1 wif).trans a1)
                        have p2' := fun y : Sub w15 => y.cell ((below_at hb15 wi.heap.size 2 wif).trans a2)
                        have p3 := fun y : Sub w15 => y.cell ((below_at hb15 wi.heap.size 3 wif).trans a3)
                        have p4 := fun y : Sub w15 => y.cell ((below_at hb15 wi.heap.size 4 wif).trans a4)
                        have p5 := fun y : Sub w15 => y.cell ((below_at hb15 w8.heap.size 0 (by omega)).trans s2)
                        have p6 := fun y : Sub w15 => y.cell ((below_at hb15 w8.heap.size 1 (by omega)).trans s3)
                        have p7 := fun y : Sub w15 => y.cell ((below_at hb15 w8.heap.size 2 (by omega)).trans s4)
                        clear q0 q1 q2 q3 q4 a1 a2 a3 a4 s2 s3 s4 aL hb15
                        go_upto_region 32 with fail
                        ((refine wp_region_quiet_bel (by kernel_rfl) (by kernel_rfl) ?_); (repeat (go_big_quiet_step ((go_at_call 27; with_reducible exact Calls.quiet_bel (KCm.out _ (aL15.trans ((Sub.bel _).mono (by omega)))))))); (refine wpQuiet_nil ?_); rintro w16 ⟨⟨_, hb16⟩, rfl⟩; (try dsimp only))
                        have hbi6 : Below wi.heap.size wi w16 := aL15.trans (hb16.mono (by omega))
                        have hb14F : Below w14.heap.size w14 w16 := HBi.out.trans (hbi6.mono (by omega))
                        have l0 := (below_at hb14F w10.heap.size 0 hlt18).trans h0
                        have l1 := (below_at hb14F w10.heap.size 1 hlt18).trans h1
                        have n0 := (below_at hb14F w5.heap.size 0 hlt8).trans k0
                        have n1 := (below_at hb14F w5.heap.size 1 hlt8).trans k1
                        have nf := fun i => (below_fr hb14F w5.heap.size i hlt8).trans (kfz i)
                        have hPUT := (HBS.out.below hb14F).put hw35 (HRY.out.below hb14F)
                        have hb5F : Below w5.heap.size w5 ((w16.setCell ⟨w5.heap.size, 0, none⟩ (.int .i64 ((Y.1 : Nat) : Int))).setCell ⟨w5.heap.size, 1, none⟩ (.slice Ay r.ng cy)) := ((HB514.out.trans (hb14F.mono (by omega))).setCell (Nat.le_refl _) _).setCell (Nat.le_refl _) _
                        rw [← HFY.out] at hPUT hb5F
                        have HPUT := Lib.hid hPUT
                        have HB5F := Lib.hid hb5F
                        have hgne : ¬ (w5.heap.size = w10.heap.size) := by omega
                        have hgne2 : ¬ (w10.heap.size = w5.heap.size) := by omega
                        have hz16 := hb14F.size
                        clear hPUT hb5F hb14F HBS HRY
                        go_wp2_with fail
                        go_roundw
                        case rel => exact ⟨k + 1, t, Y, by omega, by go_num, rfl, hpY, HPUT.out, HB5F.out⟩
                        case measure => simp [intOf]; omega
                      · have hzY : ¬ z = Y := fun hh => htp (hne.out (by rw [HZT.out, hh]))
                        have KSw := Lib.hid (fun W hW => KSt.out W false (by simp [hzY]) hW)
                        have HN2 := Lib.hid (HNJ.out htp)
                        clear hzY KSt hzm hge hne HNJ htp HZT
                        ((refine wp_region_quiet_bel (by kernel_rfl) (by kernel_rfl) ?_); (repeat (go_big_quiet_step ((go_at_call 16; with_reducible exact Calls.quiet_bel (KSw.out _ (aL.trans ((Sub.bel _).mono (by omega)))))))); (refine wpQuiet_nil ?_); rintro w15 ⟨⟨_, hb15⟩, rfl⟩; (try dsimp only))
                        have hbW : Below w14.heap.size w14 w15 := HBi.out.trans ((aL.trans (hb15.mono (by omega))).mono (by omega))
                        have HBW := Lib.hid hbW
                        clear q0 q1 q2 q3 q4 a1 a2 a3 a4 s2 s3 s4 aL hb15 hbW
                        go_wp2_with fail
                        go_roundw
                        case rel => exact ⟨j + 1, by omega, by go_num, rfl, rfl, HN2.out, HBW.out⟩
                        case measure => simp [intOf]; omega
                    · obtain rfl : j = Lp.length := by omega
                      have hYs : Y = s := Classical.byContradiction fun hn => by
                        obtain ⟨j, hj, e⟩ := HFO.out.ex hn
                        exact HNO.out j hj e
                      have hbt : bb = true := HBB.out.2 hYs
                      have hpY : l[p]? = some Y := by rw [hYs]; exact hps
                      obtain rfl : bb = true := hbt
                      obtain ⟨w16, rfl⟩ : ∃ w16 : World, w16 = wi := ⟨_, rfl⟩
                      have hb14F : Below w14.heap.size w14 w16 := hbi
                      clear hYs hbi hb5i
                      have l0 := (below_at hb14F w10.heap.size 0 hlt18).trans h0
                      have l1 := (below_at hb14F w10.heap.size 1 hlt18).trans h1
                      have n0 := (below_at hb14F w5.heap.size 0 hlt8).trans k0
                      have n1 := (below_at hb14F w5.heap.size 1 hlt8).trans k1
                      have nf := fun i => (below_fr hb14F w5.heap.size i hlt8).trans (kfz i)
                      have hPUT := (HBS.out.below hb14F).put hw35 (HRY.out.below hb14F)
                      have hb5F : Below w5.heap.size w5 ((w16.setCell ⟨w5.heap.size, 0, none⟩ (.int .i64 ((Y.1 : Nat) : Int))).setCell ⟨w5.heap.size, 1, none⟩ (.slice Ay r.ng cy)) := ((HB514.out.trans (hb14F.mono (by omega))).setCell (Nat.le_refl _) _).setCell (Nat.le_refl _) _
                      rw [← HFY.out] at hPUT hb5F
                      have HPUT := Lib.hid hPUT
                      have HB5F := Lib.hid hb5F
                      have hgne : ¬ (w5.heap.size = w10.heap.size) := by omega
                      have hgne2 : ¬ (w10.heap.size = w5.heap.size) := by omega
                      have hz16 := hb14F.size
                      clear hPUT hb5F hb14F HBS HRY
                      go_wp2_with fail
                      go_roundw
                      case rel => exact ⟨k + 1, p, Y, by omega, by go_num, rfl, hpY, HPUT.out, HB5F.out⟩
                      case measure => simp [intOf]; omega
                · have KS := Lib.hid (KSx.out (w8.alloc (.cells #[.bool sx, .slice Ax nx_ cx, .slice Bx mx dx] 56)) 1 (sgn_pos hqp) (aL8 _))
                  clear KSx
                  clear aL8
                  go_wp2_with fail
                  refine KS.out.mono ?_
                  rintro e w9 ⟨rfl, hb9⟩
                  have hb89 : Below w8.heap.size w8 w9 := (by have z0 := Below.size hb9; (try simp only [ZA, ZS, ZD, ZN] at z0 ⊢; skip); repeat' (first | (with_reducible exact Below.refl _ _) | (with_reducible assumption) | (with_reducible refine Below.alloc ?_ ?_ _) | (with_reducible refine Below.drew ?_) | (with_reducible refine below_drewN ?_ _) | (with_reducible refine Below.setCell ?_ ?_ _) | (with_reducible refine Below.trans ?_ (Below.mono (by with_reducible assumption) ?_)) | omega | (simp only [ZA, ZS, ZD, ZN]; omega) | go_size))
                  have v0 := (below_at hb9 w8.heap.size 0 (by simp)).trans (by simp [go_sem] : _ = some (.bool sx))
                  have v1 := (below_at hb9 w8.heap.size 1 (by simp)).trans (by simp [go_sem] : _ = some (.slice Ax nx_ cx))
                  have v2 := (below_at hb9 w8.heap.size 2 (by simp)).trans (by simp [go_sem] : _ = some (.slice Bx mx dx))
                  have hz89 : w8.heap.size < w9.heap.size := by have := hb9.size; simp at this; omega
                  have hb79 : Below w7.heap.size w7 w9 := HB78.out.trans (hb89.mono (by omega))
                  have hbo9 : Below wo.heap.size wo w9 := HBO7.out.trans (hb79.mono hz7)
                  have hz9 : wo.heap.size ≤ w9.heap.size := by omega
                  have hb9W : Below w.heap.size w w9 := HBW.out.trans (hbo9.mono (by omega))
                  have rk9 := HRK7.out.below hb79
                  have q9 := HQ8.out.below hb89
                  have z0 := (below_at hb79 w.heap.size 0 (by omega)).trans z0
                  have z1 := (below_at hb79 w.heap.size 1 (by omega)).trans z1
                  have z2 := (below_at hb79 w.heap.size 2 (by omega)).trans z2
                  have z3 := (below_at hb79 w.heap.size 3 (by omega)).trans z3
                  have z4 := (below_at hb79 w.heap.size 4 (by omega)).trans z4
                  have g0 := (below_at hb79 w5.heap.size 0 (by omega)).trans g0
                  have g1 := (below_at hb79 w5.heap.size 1 (by omega)).trans g1
                  have s0' := (below_at hb89 (w7.heap.size + 1) 0 (by omega)).trans s0'
                  have s1' := (below_at hb89 (w7.heap.size + 1) 1 (by omega)).trans s1'
                  have s2' := (below_at hb89 (w7.heap.size + 1) 2 (by omega)).trans s2'
                  have H79 := Lib.hid hb79
                  clear hb9 hb79 hb89 KS HRK7 HQ8 HB78
                  obtain ⟨Y, hY⟩ : ∃ Y, Y = stF r.dy s i := ⟨_, rfl⟩
                  have KF := Lib.hid (KF0.out w9 s As css i hb9W hsm rk9.rj hiv htb)
                  rw [← hY] at hyn KF
                  have KU := Lib.hid (fun W => KSu.out W 0 (sgnQ_zero.2 hu0))
                  obtain ⟨FS, hFS⟩ : ∃ FS : Int, FS = ((s.1 : Nat) : Int) := ⟨_, rfl⟩
                  rw [← hFS] at KF g0
                  clear hFS hY htb hu0 rk9 hb9W KSu
                  go_wp2_with fail
                  refine KF.out.mono ?_
                  rintro e w10 ⟨⟨Ay, cy, rfl, oj⟩, hb10⟩
                  have hz10 := hb10.size
                  have hg58 : w5.heap.size < w10.heap.size := by omega
                  have s0' := (below_at hb10 (w7.heap.size + 1) 0 (by omega)).trans s0'
                  have s1' := (below_at hb10 (w7.heap.size + 1) 1 (by omega)).trans s1'
                  have s2' := (below_at hb10 (w7.heap.size + 1) 2 (by omega)).trans s2'
                  have v0 := (below_at hb10 w8.heap.size 0 (by omega)).trans v0
                  have v1 := (below_at hb10 w8.heap.size 1 (by omega)).trans v1
                  have v2 := (below_at hb10 w8.heap.size 2 (by omega)).trans v2
                  have HBN := Lib.hid (SBox.new (w := w10) (c := cy) (s := Y) (oj.rg w3.heap.size))
                  have KU2 := Lib.hid (fun W (hW : Below w10.heap.size w10 W) => KU.out W (H79.out.trans ((hb10.trans (hW.mono hb10.size)).mono (by omega))))
                  have H10 := Lib.hid hb10
                  have aL10 : ∀ ob, Below w10.heap.size w10 (w10.alloc ob) := fun ob => (Below.refl _ _).alloc (Nat.le_refl _) ob
                  (have osc := fun o i => below_at ((Below.refl w10.heap.size w10).alloc (Nat.le_refl _) o) (w7.heap.size + 1) i (by omega)); (have osf := fun o i => below_fr ((Below.refl w10.heap.size w10).alloc (Nat.le_refl _) o) (w7.heap.size + 1) i (by omega))
                  clear hb10 KF KU oj
                  go_wp2_with fail
                  refine (KU2.out _ (aL10 _)).mono ?_
                  rintro e wT ⟨rfl, hb11⟩
                  have HBY := Lib.hid (HBN.out.below hb11)
                  have hb1011 : Below w10.heap.size w10 wT := (by have z0 := Below.size hb11; (try simp only [ZA, ZS, ZD, ZN] at z0 ⊢; skip); repeat' (first | (with_reducible exact Below.refl _ _) | (with_reducible assumption) | (with_reducible refine Below.alloc ?_ ?_ _) | (with_reducible refine Below.drew ?_) | (with_reducible refine below_drewN ?_ _) | (with_reducible refine Below.setCell ?_ ?_ _) | (with_reducible refine Below.trans ?_ (Below.mono (by with_reducible assumption) ?_)) | omega | (simp only [ZA, ZS, ZD, ZN]; omega) | go_size))
                  have hzT8 := hb1011.size
                  have v0 := (below_at hb1011 w8.heap.size 0 (by omega)).trans v0
                  have v1 := (below_at hb1011 w8.heap.size 1 (by omega)).trans v1
                  have v2 := (below_at hb1011 w8.heap.size 2 (by omega)).trans v2
                  have hb9T : Below w9.heap.size w9 wT := H10.out.trans (hb1011.mono (by omega))
                  have hg17 : w8.heap.size < wT.heap.size := by omega
                  have hbT : Below wo.heap.size wo wT := hbo9.trans (hb9T.mono hz9)
                  have qx := q9.below hb9T
                  clear hb11 hb1011 KU2 aL10 osc osf HBN H10 hb9T q9 z0 z1 z2 z3 z4 g0 g1 s0' s1' s2' hz10 hzT8
                  -- the state that follows: SBox wT w10.heap.size .. y, rate q in the box w8.heap.size
                  have hzT := hbT.size
                  have hb5T : Below w5.heap.size w5 wT := HB5o.out.trans (hbT.mono (by omega))
                  obtain ⟨p2, FO⟩ := HFOL.out p s (Y, q) hps hyn hqp
                  dsimp only at FO
                  obtain ⟨Lp, hLp⟩ : ∃ Lp, Lp = L p := ⟨_, rfl⟩
                  rw [← hLp] at FO
                  have KMp := Lib.hid (KMv.out wT AM AD cm cd p hpl (HCI5.out.below hb5T))
                  rw [← hLp] at KMp
                  have hLn : Lp.length ≤ 1000000 := by rw [hLp]; exact HLL.out p
                  have d0 := (below_at hb5T w4.heap.size 0 hz5).trans b0
                  have d1 := (below_at hb5T w4.heap.size 1 hz5).trans b1
                  have d2 := (below_at hb5T w4.heap.size 2 hz5).trans b2
                  have d3 := (below_at hb5T w4.heap.size 3 hz5).trans b3
                  have hYm : Y ∈ l := List.mem_of_getElem? FO.hp
                  have HFO := Lib.hid FO
                  have HB5T := Lib.hid hb5T
                  have HBT := Lib.hid hbT
                  clear hLp FO hb5T hbT hyn
                  go_wp2_with fail
                  refine KMp.out.mono ?_
                  rintro e w13 ⟨⟨Am, cpm, rfl, own⟩, hb13⟩
                  have hz13 := hb13.size
                  obtain ⟨⟨Ay, cy, f0, f1, rky⟩, hlt18, -, -⟩ := HBY.out.below hb13
                  have HBS := Lib.hid (HBo.out.below (HBT.out.trans (hb13.mono hzT)))
                  obtain ⟨⟨As', cs', g0, g1, rks⟩, hlt8, -, gfz⟩ := HBS.out
                  have v0 := (below_at hb13 w8.heap.size 0 hg17).trans v0
                  have v1 := (below_at hb13 w8.heap.size 1 hg17).trans v1
                  have v2 := (below_at hb13 w8.heap.size 2 hg17).trans v2
                  have qx := qx.below hb13
                  have HOw := Lib.hid own
                  have hb513 : Below w5.heap.size w5 w13 := HB5T.out.trans (hb13.mono (by omega))
                  have HB513 := Lib.hid hb513
                  have KSy : Hid (Calls Tryz.prog 16 #[.agg #[.int .i64 ((Y.1 : Nat) : Int), .slice Ay r.ng cy], .agg #[.int .i64 ((s.1 : Nat) : Int), .slice As' r.ng cs']] w13 fun e w' => (∃ b : Bool, e = .returned (.bool b) ∧ (b = true ↔ Y = s)) ∧ Below w13.heap.size w13 w') :=
                    (sameS_any (F := ((Y.1 : Nat) : Int)) (G := ((s.1 : Nat) : Int)) (c := cy) (d := cs') rky.rj rks.rj hng).mono fun e w' ⟨⟨b, h1, h2⟩, h3⟩ => ⟨⟨b, h1, by
                      rw [h2]
                      exact ⟨fun hh => HEXT.out Y s hYm hsm hh.1 hh.2.2, fun hh => by subst hh; exact ⟨rfl, rfl, fun _ _ => rfl⟩⟩⟩, h3⟩
                  have HRY := Lib.hid rky
                  obtain ⟨FY, hFY⟩ : ∃ FY : Int, FY = ((Y.1 : Nat) : Int) := ⟨_, rfl⟩
                  obtain ⟨FS, hFS⟩ : ∃ FS : Int, FS = ((s.1 : Nat) : Int) := ⟨_, rfl⟩
                  rw [← hFY] at KSy f0
                  rw [← hFS] at KSy g0
                  have HFY := Lib.hid hFY
                  clear own hb13 KMp hb513 rky rks d0 d1 d2 d3 hFY hFS HBY
                  go_wp2_with fail
                  refine KSy.out.mono ?_
                  rintro e w14 ⟨⟨bb, rfl, hbb⟩, hb14⟩
                  have hz14 := hb14.size
                  have HBB := Lib.hid hbb
                  have h0 := (below_at hb14 w10.heap.size 0 hlt18).trans f0
                  have h1 := (below_at hb14 w10.heap.size 1 hlt18).trans f1
                  have k0 := (below_at hb14 w5.heap.size 0 hlt8).trans g0
                  have k1 := (below_at hb14 w5.heap.size 1 hlt8).trans g1
                  have v0 := (below_at hb14 w8.heap.size 0 (by omega)).trans v0
                  have v1 := (below_at hb14 w8.heap.size 1 (by omega)).trans v1
                  have v2 := (below_at hb14 w8.heap.size 2 (by omega)).trans v2
                  have kfz := fun i => (below_fr hb14 w5.heap.size i hlt8).trans (gfz i)
                  have HQX := Lib.hid (qx.below hb14)
                  have HRY := Lib.hid (HRY.out.below hb14)
                  have HOw := Lib.hid (HOw.out.below hb14)
                  have HBS := Lib.hid (HBS.out.below hb14)
                  have HB514 := Lib.hid (HB513.out.trans (hb14.mono (by omega)))
                  have hlt18 : w10.heap.size < w14.heap.size := by omega
                  have hlt8 : w5.heap.size < w14.heap.size := by omega
                  have hg17 : w8.heap.size < w14.heap.size := by omega
                  clear hbb hb14 f0 f1 g0 g1 gfz qx KSy HB513 HB5T HBT HBo
                  go_wp2_with fail
                  go_loopw [145, 10, 22] (fun i a f wr => ∃ j : Nat, j ≤ Lp.length ∧ i = .int .i64 (j : Int) ∧ a = .int .i64 (p : Int) ∧ f = .bool bb ∧ (∀ j', j' < j → (Lp.getD j' (0, 0)).1 ≠ p2) ∧ Below w14.heap.size w14 wr) (fun i _ _ _ => Lp.length - (intOf i).toNat)
                  case atStart => exact ⟨0, Nat.zero_le _, rfl, rfl, rfl, fun j' h => absurd h (Nat.not_lt_zero _), Below.refl _ _⟩
                  case round =>
                    obtain ⟨j, hj, rfl, rfl, rfl, hno, hbi⟩ := hrel
                    obtain ⟨wi, rfl⟩ : ∃ wi : World, wi = wr := ⟨_, rfl⟩
                    have hzi := hbi.size
                    have HNO := Lib.hid hno
                    clear hno
                    have hb5i : Below w5.heap.size w5 wi := HB514.out.trans (hbi.mono (by omega))
                    by_cases hjl : j < Lp.length
                    · obtain ⟨bm, om, sg, A8, n8, c8, B8, m8, d8, rfl, hbm, m0, m1, m2, m3, m4, rm⟩ := (OwM.ra (HOw.out.below hbi)).at_ hjl
                      have hsz := HFO.out.sz j hjl
                      have htl := HFO.out.lt j hjl
                      have hge := Lib.hid (HFO.out.ge j hjl)
                      have hne := Lib.hid (HFO.out.ne j hjl)
                      obtain ⟨t, qt, htq⟩ : ∃ t qt, Lp.getD j (0, 0) = (t, qt) := ⟨_, _, rfl⟩
                      have hnj : ¬ t = p2 → ∀ j', j' < j + 1 → (Lp.getD j' (0, 0)).1 ≠ p2 := fun hn j' hj' => by
                        by_cases e : j' = j
                        · rw [e, htq]; exact hn
                        · exact HNO.out j' (by omega)
                      have HNJ := Lib.hid hnj
                      rw [htq] at hsz htl hge hne
                      simp only [htq] at m1 rm
                      dsimp only at hsz htl
                      obtain ⟨z, hze⟩ : ∃ z, l[t] = z := ⟨_, rfl⟩
                      have hzt : l[t]? = some z := by rw [List.getElem?_eq_getElem htl, hze]
                      obtain ⟨gS', Bt, dt, eA, -, hgS', c0, c1, rkt⟩ := (HS5.out.below hb5i).at_ htl
                      cases eA
                      rw [hze] at c0 rkt
                      have w0 := (below_at hbi w10.heap.size 0 hlt18).trans h0
                      have w1' := (below_at hbi w10.heap.size 1 hlt18).trans h1
                      have r0 := (below_at hbi w8.heap.size 0 hg17).trans v0
                      have r1 := (below_at hbi w8.heap.size 1 hg17).trans v1
                      have r2 := (below_at hbi w8.heap.size 2 hg17).trans v2
                      have rkY := HRY.out.below hbi
                      have qX := HQX.out.below hbi
                      have qT := rm.canQ hsz
                      have j0 : (0 : Int) ≤ (j : Int) := by omega
                      have j1 : (j : Int) < (Lp.length : Int) := by omega
                      have t0 : (0 : Int) ≤ (t : Int) := by omega
                      have t1 : (t : Int) < (l.length : Int) := by omega
                      have t2 : (t : Int) < (cs : Int) := by omega
                      have t3 : decide ((0 : Int) ≤ (t : Int)) = true := by simp
                      have t4 : decide ((t : Int) < (l.length : Int)) = true := by simpa using htl
                      have hzm : z ∈ l := List.mem_of_getElem? hzt
                      have KSt : Hid (∀ W (b : Bool), (b = true ↔ z = Y) → Below wi.heap.size wi W → Calls Tryz.prog 16 #[.agg #[.int .i64 ((z.1 : Nat) : Int), .slice Bt r.ng dt], .agg #[.int .i64 FY, .slice Ay r.ng cy]] W fun e w' => e = .returned (.bool b) ∧ Below W.heap.size W w') := fun W b hb hW => by
                        rw [HFY.out]
                        refine (sameS_any (F := ((z.1 : Nat) : Int)) (G := ((Y.1 : Nat) : Int)) (c := dt) (d := cy) ((rkt.below hW).rj) ((rkY.below hW).rj) hng).mono fun e w' ⟨⟨b', e1, e2⟩, e3⟩ => ⟨?_, e3⟩
                        rw [e1]
                        have : (b' = true) ↔ (b = true) := by
                          rw [e2, hb]
                          exact ⟨fun hh => HEXT.out z Y hzm hYm hh.1 hh.2.2, fun hh => by subst hh; exact ⟨rfl, rfl, fun _ _ => rfl⟩⟩
                        cases b <;> cases b' <;> simp_all
                      have KCm : Hid (∀ W, Below wi.heap.size wi W → Calls Tryz.prog 27 #[rv sg A8 n8 c8 B8 m8 d8, rv sx Ax nx_ cx Bx mx dx] W fun e w' => e = .returned (.int .i64 (sgnQ (qt - q))) ∧ Below W.heap.size W w') := fun W hW => cmpQ (qT.below hW) ((qX.more (by omega)).below hW) (by omega) (by omega)
                      obtain ⟨FZ, hFZ⟩ : ∃ FZ : Int, FZ = ((z.1 : Nat) : Int) := ⟨_, rfl⟩
                      rw [← hFZ] at KSt c0
                      have HBi := Lib.hid hbi
                      have HB5i := Lib.hid hb5i
                      have HZT := Lib.hid hzt
                      clear hFZ hzt hze rkt rkY qX qT rm hsz hbi hb5i htq hnj
                      go_upto_region 31 with fail
                      have aL : Below wi.heap.size wi (wi.alloc (.cells #[.int .i64 (p : Int), .int .i64 (t : Int), .bool sg, .slice A8 n8 c8, .slice B8 m8 d8] 65)) := (Below.refl _ _).alloc (Nat.le_refl _) _
                      have aZ : (wi.alloc (.cells #[.int .i64 (p : Int), .int .i64 (t : Int), .bool sg, .slice A8 n8 c8, .slice B8 m8 d8] 65)).heap.size = wi.heap.size + 1 := by simp
                      have a1 : (wi.alloc (.cells #[.int .i64 (p : Int), .int .i64 (t : Int), .bool sg, .slice A8 n8 c8, .slice B8 m8 d8] 65)).cell? ⟨wi.heap.size, 1, none⟩ = some (.int .i64 (t : Int)) := by simp
                      have a2 : (wi.alloc (.cells #[.int .i64 (p : Int), .int .i64 (t : Int), .bool sg, .slice A8 n8 c8, .slice B8 m8 d8] 65)).cell? ⟨wi.heap.size, 2, none⟩ = some (.bool sg) := by simp
                      have a3 : (wi.alloc (.cells #[.int .i64 (p : Int), .int .i64 (t : Int), .bool sg, .slice A8 n8 c8, .slice B8 m8 d8] 65)).cell? ⟨wi.heap.size, 3, none⟩ = some (.slice A8 n8 c8) := by simp
                      have a4 : (wi.alloc (.cells #[.int .i64 (p : Int), .int .i64 (t : Int), .bool sg, .slice A8 n8 c8, .slice B8 m8 d8] 65)).cell? ⟨wi.heap.size, 4, none⟩ = some (.slice B8 m8 d8) := by simp
                      generalize wi.alloc (.cells #[.int .i64 (p : Int), .int .i64 (t : Int), .bool sg, .slice A8 n8 c8, .slice B8 m8 d8] 65) = Wi at *
                      have q0 := fun y : Sub Wi => y.cell a1
                      have q1 := fun y : Sub Wi => y.cell ((below_at aL gS _ hgS').trans c0)
                      have q2 := fun y : Sub Wi => y.cell ((below_at aL gS _ hgS').trans c1)
                      have q3 := fun y : Sub Wi => y.cell ((below_at aL w10.heap.size _ (by omega)).trans w0)
                      have q4 := fun y : Sub Wi => y.cell ((below_at aL w10.heap.size _ (by omega)).trans w1')
                      have s2 := (below_at aL w8.heap.size 0 (by omega)).trans r0
                      have s3 := (below_at aL w8.heap.size 1 (by omega)).trans r1
                      have s4 := (below_at aL w8.heap.size 2 (by omega)).trans r2
                      have wif : wi.heap.size < Wi.heap.size := by omega
                      clear c0 c1 w0 w1' r0 r1 r2 m0 m1 m2 m3 m4
                      by_cases htp : t = p2
                      · have hzY : z = Y := by
                          have := HFO.out.hp
                          rw [← htp, HZT.out] at this
                          injection this
                        have KSw := Lib.hid (fun W hW => KSt.out W true (by simp [hzY]) hW)
                        have hqq := hge.out htp
                        have hs0' : 0 ≤ sgnQ (qt - q) := sgn_sub hqq
                        obtain ⟨zz, hzz⟩ : ∃ zz, zz = sgnQ (qt - q) := ⟨_, rfl⟩
                        rw [← hzz] at KCm hs0'
                        have e9 : decide ((0 : Int) ≤ zz) = true := by simpa using hs0'
                        have hpY : l[t]? = some Y := by rw [← hzY]; exact HZT.out
                        clear hzY hzz hqq KSt hzm hge hne HNJ htp HZT
                        ((refine wp_region_quiet_bel (by kernel_rfl) (by kernel_rfl) ?_); (repeat (go_big_quiet_step ((go_at_call 16; with_reducible exact Calls.quiet_bel (KSw.out _ (aL.trans ((Sub.bel _).mono (by omega)))))))); (refine wpQuiet_nil ?_); rintro w15 ⟨⟨_, hb15⟩, rfl⟩; (try dsimp only))
                        have hz15 := hb15.size
                        have aL15 : Below wi.heap.size wi w15 := aL.trans (hb15.mono (by omega))
                        have p1 := fun y : Sub w15 => y.cell ((below_at hb15 wi.heap.size 1 wif).trans a1)
                        have p2' := fun y : Sub w15 => y.cell ((below_at hb15 wi.heap.size 2 wif).trans a2)
                        have p3 := fun y : Sub w15 => y.cell ((below_at hb15 wi.heap.size 3 wif).trans a3)
                        have p4 := fun y : Sub w15 => y.cell ((below_at hb15 wi.heap.size 4 wif).trans a4)
                        have p5 := fun y : Sub w15 => y.cell ((below_at hb15 w8.heap.size 0 (by omega)).trans s2)
                        have p6 := fun y : Sub w15 => y.cell ((below_at hb15 w8.heap.size 1 (by omega)).trans s3)
                        have p7 := fun y : Sub w15 => y.cell ((below_at hb15 w8.heap.size 2 (by omega)).trans s4)
                        clear q0 q1 q2 q3 q4 a1 a2 a3 a4 s2 s3 s4 aL hb15
                        go_upto_region 32 with fail
                        ((refine wp_region_quiet_bel (by kernel_rfl) (by kernel_rfl) ?_); (repeat (go_big_quiet_step ((go_at_call 27; with_reducible exact Calls.quiet_bel (KCm.out _ (aL15.trans ((Sub.bel _).mono (by omega)))))))); (refine wpQuiet_nil ?_); rintro w16 ⟨⟨_, hb16⟩, rfl⟩; (try dsimp only))
                        have hbi6 : Below wi.heap.size wi w16 := aL15.trans (hb16.mono (by omega))
                        have hb14F : Below w14.heap.size w14 w16 := HBi.out.trans (hbi6.mono (by omega))
                        have l0 := (below_at hb14F w10.heap.size 0 hlt18).trans h0
                        have l1 := (below_at hb14F w10.heap.size 1 hlt18).trans h1
                        have n0 := (below_at hb14F w5.heap.size 0 hlt8).trans k0
                        have n1 := (below_at hb14F w5.heap.size 1 hlt8).trans k1
                        have nf := fun i => (below_fr hb14F w5.heap.size i hlt8).trans (kfz i)
                        have hPUT := (HBS.out.below hb14F).put hw35 (HRY.out.below hb14F)
                        have hb5F : Below w5.heap.size w5 ((w16.setCell ⟨w5.heap.size, 0, none⟩ (.int .i64 ((Y.1 : Nat) : Int))).setCell ⟨w5.heap.size, 1, none⟩ (.slice Ay r.ng cy)) := ((HB514.out.trans (hb14F.mono (by omega))).setCell (Nat.le_refl _) _).setCell (Nat.le_refl _) _
                        rw [← HFY.out] at hPUT hb5F
                        have HPUT := Lib.hid hPUT
                        have HB5F := Lib.hid hb5F
                        have hgne : ¬ (w5.heap.size = w10.heap.size) := by omega
                        have hgne2 : ¬ (w10.heap.size = w5.heap.size) := by omega
                        have hz16 := hb14F.size
                        clear hPUT hb5F hb14F HBS HRY
                        go_wp2_with fail
                        go_roundw
                        case rel => exact ⟨k + 1, t, Y, by omega, by go_num, rfl, hpY, HPUT.out, HB5F.out⟩
                        case measure => simp [intOf]; omega
                      · have hzY : ¬ z = Y := fun hh => htp (hne.out (by rw [HZT.out, hh]))
                        have KSw := Lib.hid (fun W hW => KSt.out W false (by simp [hzY]) hW)
                        have HN2 := Lib.hid (HNJ.out htp)
                        clear hzY KSt hzm hge hne HNJ htp HZT
                        ((refine wp_region_quiet_bel (by kernel_rfl) (by kernel_rfl) ?_); (repeat (go_big_quiet_step ((go_at_call 16; with_reducible exact Calls.quiet_bel (KSw.out _ (aL.trans ((Sub.bel _).mono (by omega)))))))); (refine wpQuiet_nil ?_); rintro w15 ⟨⟨_, hb15⟩, rfl⟩; (try dsimp only))
                        have hbW : Below w14.heap.size w14 w15 := HBi.out.trans ((aL.trans (hb15.mono (by omega))).mono (by omega))
                        have HBW := Lib.hid hbW
                        clear q0 q1 q2 q3 q4 a1 a2 a3 a4 s2 s3 s4 aL hb15 hbW
                        go_wp2_with fail
                        go_roundw
                        case rel => exact ⟨j + 1, by omega, by go_num, rfl, rfl, HN2.out, HBW.out⟩
                        case measure => simp [intOf]; omega
                    · obtain rfl : j = Lp.length := by omega
                      have hYs : Y = s := Classical.byContradiction fun hn => by
                        obtain ⟨j, hj, e⟩ := HFO.out.ex hn
                        exact HNO.out j hj e
                      have hbt : bb = true := HBB.out.2 hYs
                      have hpY : l[p]? = some Y := by rw [hYs]; exact hps
                      obtain rfl : bb = true := hbt
                      obtain ⟨w16, rfl⟩ : ∃ w16 : World, w16 = wi := ⟨_, rfl⟩
                      have hb14F : Below w14.heap.size w14 w16 := hbi
                      clear hYs hbi hb5i
                      have l0 := (below_at hb14F w10.heap.size 0 hlt18).trans h0
                      have l1 := (below_at hb14F w10.heap.size 1 hlt18).trans h1
                      have n0 := (below_at hb14F w5.heap.size 0 hlt8).trans k0
                      have n1 := (below_at hb14F w5.heap.size 1 hlt8).trans k1
                      have nf := fun i => (below_fr hb14F w5.heap.size i hlt8).trans (kfz i)
                      have hPUT := (HBS.out.below hb14F).put hw35 (HRY.out.below hb14F)
                      have hb5F : Below w5.heap.size w5 ((w16.setCell ⟨w5.heap.size, 0, none⟩ (.int .i64 ((Y.1 : Nat) : Int))).setCell ⟨w5.heap.size, 1, none⟩ (.slice Ay r.ng cy)) := ((HB514.out.trans (hb14F.mono (by omega))).setCell (Nat.le_refl _) _).setCell (Nat.le_refl _) _
                      rw [← HFY.out] at hPUT hb5F
                      have HPUT := Lib.hid hPUT
                      have HB5F := Lib.hid hb5F
                      have hgne : ¬ (w5.heap.size = w10.heap.size) := by omega
                      have hgne2 : ¬ (w10.heap.size = w5.heap.size) := by omega
                      have hz16 := hb14F.size
                      clear hPUT hb5F hb14F HBS HRY
                      go_wp2_with fail
                      go_roundw
                      case rel => exact ⟨k + 1, p, Y, by omega, by go_num, rfl, hpY, HPUT.out, HB5F.out⟩
                      case measure => simp [intOf]; omega
              · obtain rfl : k = nA := by omega
                go_wp2_with fail
                go_ret
                exact ⟨rfl, hBo⟩
        · have KM := Lib.hid (make_err (cg := cg) (cf := cf) (cr := cr) (HH.out.below hB3) hs hc)
          rw [errM_n hc] at KM
          unfold dyv at KM
          clear hc hs hsl hlt HH HT
          (go_wp2_with fail; (with_reducible refine (KM.out).mono ?_); rintro e w4 ⟨rfl, hb4⟩; have hb4z := Below.size hb4; (try simp only [ZA, ZS, ZD, ZN] at hb4z))
          go_wp2
          go_ret
          exact ⟨rfl, (by have z0 := Below.size hB3; have z1 := Below.size hb4; (try simp only [ZA, ZS, ZD, ZN] at z0 z1 ⊢; skip); repeat' (first | (with_reducible exact Below.refl _ _) | (with_reducible assumption) | (with_reducible refine Below.alloc ?_ ?_ _) | (with_reducible refine Below.drew ?_) | (with_reducible refine below_drewN ?_ _) | (with_reducible refine Below.setCell ?_ ?_ _) | (with_reducible refine Below.trans ?_ (Below.mono (by with_reducible assumption) ?_)) | omega | (simp only [ZA, ZS, ZD, ZN]; omega) | go_size))⟩
end Go.Proofs.YtoiopnmphbnjaaaGreatDoor
