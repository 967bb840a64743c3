/- Contracts of functions and lemmas, used by the proofs of the given statements. No condition beyond those that each lemma names. -/
import Derived.Test.YtlncafhgmbhocaaGreatDoorJLmW8
namespace Go.Proofs.YtlncafhgmbhocaaGreatDoor
open Go.RowKit
set_option linter.unusedSimpArgs false
set_option linter.unusedVariables false
set_option maxRecDepth 20000
attribute [local irreducible] nv wp win plainB validR valR canR mvE chkM codeC smK alk badP nrm eqN eqZ blks firS isF cntB ixB kept dnK movP movB rateB
/-! ## package lump: Quotient -/
/-- an answer: a chain and the number of an error -/
def AnsC (z : Int → Value) (code : Int) (x : Chn) (e : Ending) (w' : World) : Prop := ∃ A a B b, e = .returned (.tuple #[cv x.st x.sr A x.nm a B x.nd b, z code]) ∧ ChI w' w'.heap.size A a B b x
theorem Chn.zero_in (w : World) : ChI w w.heap.size none 0 none 0 Chn.zero :=
  ⟨⟨MovA.nil_ _ _ _ _ _ _, fun h => absurd h (Nat.lt_irrefl 0)⟩, Rds.nil_ _ _ _ _, fun h => absurd h (Nat.lt_irrefl 0), Nat.le_refl _, Nat.le_refl _⟩
theorem AnsC.err {z : Int → Value} {code : Int} {x : Chn} {v : Value} {w' : World} (hx : x = Chn.zero) (hv : v = z code) : AnsC z code x (.returned (.tuple #[cv 0 0 none 0 0 none 0 0, v])) w' :=
  ⟨none, 0, none, 0, by rw [hx, hv]; rfl, by rw [hx]; exact Chn.zero_in w'⟩
set_option maxHeartbeats 8000000 in
theorem lQuo_err {w : World} {AM AD AV : Option Addr} {cm cd n ca : Nat} {c : Chn} {P : Nat → Int} (h : ChI w w.heap.size AM cm AD cd c) (hs : ChS c 400) (hv : PaI w AV n P) (hn : n ≤ 1000)
    (hsz : c.Ok → ∀ p k, k ≤ c.nm → ∀ i j, Sz 400 (smK c.f c.t c.q p k i j)) (h0 : c.codeL n P ≠ 0) :
    Calls Tryz.prog 12 #[cv c.st c.sr AM c.nm cm AD c.nd cd, .slice AV n ca] w fun e w' => AnsC errM (c.codeQ n P) (c.quoE n P) e w' ∧ Below w.heap.size w w' := by
  have hq := Chn.codeQ_l h0
  have HE := Lib.hid (show (Value.iface 61 (.int .i64 (c.codeL n P))) = errM (c.codeQ n P) by rw [hq]; exact (errM_n h0).symm)
  have HX := Lib.hid (Chn.quoE_n (c := c) (n := n) (P := P) (by rw [hq]; exact h0))
  have K1 : Hid (∀ W, Below w.heap.size w W → Calls Tryz.prog 17 #[cv c.st c.sr AM c.nm cm AD c.nd cd, .slice AV n ca] W fun e w' => e = .returned (.tuple #[.bool false, .agg #[.int .i64 0, .int .i64 0], .iface 61 (.int .i64 (c.codeL n P))]) ∧ Below W.heap.size W w') := fun W hb =>
    (lstable_any (ca := ca) (h.below hb) hs (hv.below hb) (by omega) hsz).mono fun e w' ⟨⟨ok, x, y, h1, _, h3⟩, h2⟩ => by
      obtain ⟨e1, e2, e3⟩ := h3 h0
      rw [e1, e2, e3, errM_n h0] at h1
      exact ⟨h1, h2⟩
  clear h hs hv hsz h0 hq hn
  go_enter Tryz.func12, Tryz.ntmps12
  (go_wp2_with fail; (with_reducible refine (K1.out _ (by (skip); repeat' (first | (with_reducible exact Below.refl _ _) | (with_reducible assumption) | (with_reducible refine Below.alloc ?_ ?_ _) | (with_reducible refine Below.drew ?_) | (with_reducible refine below_drewN ?_ _) | (with_reducible refine Below.setCell ?_ ?_ _) | (with_reducible refine Below.trans ?_ (Below.mono (by with_reducible assumption) ?_)) | omega | (simp only [ZA, ZS, ZD, ZN]; omega) | go_size))).mono ?_); rintro e w1 ⟨rfl, hb1⟩; have hb1z := Below.size hb1; (try simp only [ZA, ZS, ZD, ZN] at hb1z); have hb1c0 := fun o => below_at hb1 (w.heap.size) o (by first | omega | (simp only [ZA, ZS, ZD, ZN]; omega)); have hb1f0 := fun o => below_fr hb1 (w.heap.size) o (by first | omega | (simp only [ZA, ZS, ZD, ZN]; omega)); have hb1c1 := fun o => below_at hb1 (w.heap.size + 1) o (by first | omega | (simp only [ZA, ZS, ZD, ZN]; omega)); have hb1f1 := fun o => below_fr hb1 (w.heap.size + 1) o (by first | omega | (simp only [ZA, ZS, ZD, ZN]; omega)))
  have hB1 : Below w.heap.size w w1 := (((Below.refl _ _).alloc (Nat.le_refl _) _).alloc (by simp) _).trans (hb1.mono (by simp; omega))
  have y0 : w1.cell? ⟨w.heap.size + 1, 0, none⟩ = some (.int .i64 0) := by rw [hb1c1, World.cell?_alloc_at _ _ _ _ (by simp)]; rfl
  have y1 : w1.cell? ⟨w.heap.size + 1, 1, none⟩ = some (.int .i64 0) := by rw [hb1c1, World.cell?_alloc_at _ _ _ _ (by simp)]; rfl
  have y2 : w1.cell? ⟨w.heap.size + 1, 2, none⟩ = some (.slice none 0 0) := by rw [hb1c1, World.cell?_alloc_at _ _ _ _ (by simp)]; rfl
  have y3 : w1.cell? ⟨w.heap.size + 1, 3, none⟩ = some (.slice none 0 0) := by rw [hb1c1, World.cell?_alloc_at _ _ _ _ (by simp)]; rfl
  have hz1 : w.heap.size + 1 < w1.heap.size := by omega
  have HB1 := Lib.hid hB1
  clear hB1 hb1
  go_wp2
  (try simp only [Exit.inBlock, Exit.then])
  refine bodyPost_ret (v := .tuple #[cv 0 0 none 0 0 none 0 0, .iface 61 (.int .i64 (c.codeL n P))]) ?_ rfl ⟨AnsC.err HX.out HE.out, ?_⟩
  · rw [results_cell_tmp rfl]
    go_simp
  · have := HB1.out
    exact (by have z0 := Below.size this; (try simp only [ZA, ZS, ZD, ZN] at z0 ⊢; skip); repeat' (first | (with_reducible exact Below.refl _ _) | (with_reducible assumption) | (with_reducible refine Below.alloc ?_ ?_ _) | (with_reducible refine Below.drew ?_) | (with_reducible refine below_drewN ?_ _) | (with_reducible refine Below.setCell ?_ ?_ _) | (with_reducible refine Below.trans ?_ (Below.mono (by with_reducible assumption) ?_)) | omega | (simp only [ZA, ZS, ZD, ZN]; omega) | go_size))
set_option maxHeartbeats 8000000 in
theorem lQuo_uns {w : World} {AM AD AV : Option Addr} {cm cd n ca : Nat} {c : Chn} {P : Nat → Int} (h : ChI w w.heap.size AM cm AD cd c) (hs : ChS c 400) (hv : PaI w AV n P) (hn : n ≤ 1000)
    (hsz : c.Ok → ∀ p k, k ≤ c.nm → ∀ i j, Sz 400 (smK c.f c.t c.q p k i j)) (h0 : c.codeL n P = 0) (hst : ¬ StaB c.f c.t c.q c.nm c.nd (prt P)) :
    Calls Tryz.prog 12 #[cv c.st c.sr AM c.nm cm AD c.nd cd, .slice AV n ca] w fun e w' => AnsC errM (c.codeQ n P) (c.quoE n P) e w' ∧ Below w.heap.size w w' := by
  have hq := Chn.codeQ_15 h0 hst
  have HE := Lib.hid (show (Value.iface 61 (.int .i64 15)) = errM (c.codeQ n P) by rw [hq]; rfl)
  have HX := Lib.hid (Chn.quoE_n (c := c) (n := n) (P := P) (by rw [hq]; omega))
  have K1 : Hid (∀ W, Below w.heap.size w W → Calls Tryz.prog 17 #[cv c.st c.sr AM c.nm cm AD c.nd cd, .slice AV n ca] W fun e w' => (∃ x y : Int, e = .returned (.tuple #[.bool false, .agg #[.int .i64 x, .int .i64 y], .nilIface])) ∧ Below W.heap.size W w') := fun W hb =>
    (lstable_any (ca := ca) (h.below hb) hs (hv.below hb) (by omega) hsz).mono fun e w' ⟨⟨ok, x, y, h1, h3, _⟩, h2⟩ => by
      have h4 := pr_sta (h3 h0)
      cases ok with
      | true => exact absurd (h4.1 rfl) hst
      | false =>
        rw [h0, errM_0] at h1
        exact ⟨⟨_, _, h1⟩, h2⟩
  clear h hs hv hsz h0 hq hn hst
  go_enter Tryz.func12, Tryz.ntmps12
  (go_wp2_with fail; (with_reducible refine (K1.out _ (by (skip); repeat' (first | (with_reducible exact Below.refl _ _) | (with_reducible assumption) | (with_reducible refine Below.alloc ?_ ?_ _) | (with_reducible refine Below.drew ?_) | (with_reducible refine below_drewN ?_ _) | (with_reducible refine Below.setCell ?_ ?_ _) | (with_reducible refine Below.trans ?_ (Below.mono (by with_reducible assumption) ?_)) | omega | (simp only [ZA, ZS, ZD, ZN]; omega) | go_size))).mono ?_); rintro e w1 ⟨⟨x, y, rfl⟩, hb1⟩; have hb1z := Below.size hb1; (try simp only [ZA, ZS, ZD, ZN] at hb1z); have hb1c0 := fun o => below_at hb1 (w.heap.size) o (by first | omega | (simp only [ZA, ZS, ZD, ZN]; omega)); have hb1f0 := fun o => below_fr hb1 (w.heap.size) o (by first | omega | (simp only [ZA, ZS, ZD, ZN]; omega)); have hb1c1 := fun o => below_at hb1 (w.heap.size + 1) o (by first | omega | (simp only [ZA, ZS, ZD, ZN]; omega)); have hb1f1 := fun o => below_fr hb1 (w.heap.size + 1) o (by first | omega | (simp only [ZA, ZS, ZD, ZN]; omega)))
  have hB1 : Below w.heap.size w w1 := (((Below.refl _ _).alloc (Nat.le_refl _) _).alloc (by simp) _).trans (hb1.mono (by simp; omega))
  have y0 : w1.cell? ⟨w.heap.size + 1, 0, none⟩ = some (.int .i64 0) := by rw [hb1c1, World.cell?_alloc_at _ _ _ _ (by simp)]; rfl
  have y1 : w1.cell? ⟨w.heap.size + 1, 1, none⟩ = some (.int .i64 0) := by rw [hb1c1, World.cell?_alloc_at _ _ _ _ (by simp)]; rfl
  have y2 : w1.cell? ⟨w.heap.size + 1, 2, none⟩ = some (.slice none 0 0) := by rw [hb1c1, World.cell?_alloc_at _ _ _ _ (by simp)]; rfl
  have y3 : w1.cell? ⟨w.heap.size + 1, 3, none⟩ = some (.slice none 0 0) := by rw [hb1c1, World.cell?_alloc_at _ _ _ _ (by simp)]; rfl
  have hz1 : w.heap.size + 1 < w1.heap.size := by omega
  have HB1 := Lib.hid hB1
  clear hB1 hb1
  go_wp2
  (try simp only [Exit.inBlock, Exit.then])
  refine bodyPost_ret (v := .tuple #[cv 0 0 none 0 0 none 0 0, .iface 61 (.int .i64 15)]) ?_ rfl ⟨AnsC.err HX.out HE.out, ?_⟩
  · rw [results_cell_tmp rfl]
    go_simp
  · have := HB1.out
    exact (by have z0 := Below.size this; (try simp only [ZA, ZS, ZD, ZN] at z0 ⊢; skip); repeat' (first | (with_reducible exact Below.refl _ _) | (with_reducible assumption) | (with_reducible refine Below.alloc ?_ ?_ _) | (with_reducible refine Below.drew ?_) | (with_reducible refine below_drewN ?_ _) | (with_reducible refine Below.setCell ?_ ?_ _) | (with_reducible refine Below.trans ?_ (Below.mono (by with_reducible assumption) ?_)) | omega | (simp only [ZA, ZS, ZD, ZN]; omega) | go_size))
end Go.Proofs.YtlncafhgmbhocaaGreatDoor
