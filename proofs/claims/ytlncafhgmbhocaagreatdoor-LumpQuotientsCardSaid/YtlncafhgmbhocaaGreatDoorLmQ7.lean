/- Contracts of functions and lemmas, used by the proofs of the given statements. No condition beyond those that each lemma names. -/
import Derived.Test.YtlncafhgmbhocaaGreatDoorLmQ6
import Derived.Test.YtlncafhgmbhocaaGreatDoorJLmR4
import Derived.Test.YtlncafhgmbhocaaGreatDoorLmR2
namespace Go.Proofs.YtlncafhgmbhocaaGreatDoor
open Go.RowKit
set_option linter.unusedSimpArgs false
set_option linter.unusedVariables false
set_option maxRecDepth 20000
attribute [local irreducible] nv wp win plainB validR valR canR mvE chkM codeC smK alk badP nrm eqN eqZ blks firS isF cntB ixB kept dnK movP movB rateB
/-! ## Quotient whatever the partition; the reference's at a partition that has none -/
theorem lQuotient_any {w : World} {AM AD AV : Option Addr} {cm cd n ca : Nat} {c : Chn} {P : Nat → Int} (h : ChI w w.heap.size AM cm AD cd c) (hs : ChS c 400) (hv : PaI w AV n P) (hn : n ≤ 1000)
    (hsz : c.Ok → ∀ p k, k ≤ c.nm → ∀ i j, Sz 400 (smK c.f c.t c.q p k i j)) :
    Calls Tryz.prog 12 #[cv c.st c.sr AM c.nm cm AD c.nd cd, .slice AV n ca] w fun e w' => AnsC errM (c.codeQ n P) (c.quoE n P) e w' ∧ Below w.heap.size w w' := by
  by_cases h0 : c.codeL n P = 0
  · by_cases hst : StaB c.f c.t c.q c.nm c.nd (prt P)
    · obtain ⟨-, hnn, -⟩ := Chn.codeL_0 h0
      subst hnn
      exact lQuo_ok h hs hv hsz h0 hst
    · exact lQuo_uns h hs hv hn hsz h0 hst
  · exact lQuo_err h hs hv hn hsz h0
set_option maxHeartbeats 8000000 in
theorem lrQuo_err {w : World} {AM AD AV : Option Addr} {cm cd n ca : Nat} {c : Chn} {P : Nat → Int} (h : ChI w w.heap.size AM cm AD cd c) (hs : ChS c 400) (hv : PaI w AV n P) (hn : n ≤ 1000)
    (hsz : c.Ok → ∀ p s d k, k ≤ c.nm → Sz 400 (intoQ c.f c.t c.q k p s d)) (h0 : c.codeL n P ≠ 0) :
    Calls Tryz.prog 13 #[cv c.st c.sr AM c.nm cm AD c.nd cd, .slice AV n ca] w fun e w' => AnsC (.int .i64) (c.codeQ n P) (c.quoE n P) e w' ∧ Below w.heap.size w w' := by
  have hq := Chn.codeQ_l h0
  have HX := Lib.hid (Chn.quoE_n (c := c) (n := n) (P := P) (by rw [hq]; exact h0))
  have HSt := Lib.hid (fun W (hb : Below w.heap.size w W) => lrStable_any (ca := ca) (h.below hb) hs (hv.below hb) (by omega) hsz)
  obtain ⟨cc, hcc⟩ : ∃ cc, cc = c.codeL n P := ⟨_, rfl⟩
  have hc0 : cc ≠ 0 := by rw [hcc]; exact h0
  have K1 : Hid (∀ W, Below w.heap.size w W → Calls Tryz.prog 26 #[cv c.st c.sr AM c.nm cm AD c.nd cd, .slice AV n ca] W fun e w' => e = .returned (.tuple #[.bool false, .agg #[.int .i64 0, .int .i64 0], .int .i64 cc]) ∧ Below W.heap.size W w') := fun W hb =>
    (HSt.out W hb).mono fun e w' ⟨⟨ok, x, y, h1, _, h3⟩, h2⟩ => by
      obtain ⟨e1, e2, e3⟩ := h3 h0
      rw [e1, e2, e3, ← hcc] at h1
      exact ⟨h1, h2⟩
  have HE := Lib.hid (show (Value.int .i64 cc) = (Value.int .i64) (c.codeQ n P) by rw [hq, hcc])
  have e5 : (cc != 0) = true := by simpa using hc0
  clear h hs hv hsz h0 hq hn HSt hcc hc0
  go_enter Tryz.func13, Tryz.ntmps13
  (go_wp2_with fail; (with_reducible refine (K1.out _ (by (skip); repeat' (first | (with_reducible exact Below.refl _ _) | (with_reducible assumption) | (with_reducible refine Below.alloc ?_ ?_ _) | (with_reducible refine Below.drew ?_) | (with_reducible refine below_drewN ?_ _) | (with_reducible refine Below.setCell ?_ ?_ _) | (with_reducible refine Below.trans ?_ (Below.mono (by with_reducible assumption) ?_)) | omega | (simp only [ZA, ZS, ZD, ZN]; omega) | go_size))).mono ?_); rintro e w1 ⟨rfl, hb1⟩; have hb1z := Below.size hb1; (try simp only [ZA, ZS, ZD, ZN] at hb1z); have hb1c0 := fun o => below_at hb1 (w.heap.size) o (by first | omega | (simp only [ZA, ZS, ZD, ZN]; omega)); have hb1f0 := fun o => below_fr hb1 (w.heap.size) o (by first | omega | (simp only [ZA, ZS, ZD, ZN]; omega)); have hb1c1 := fun o => below_at hb1 (w.heap.size + 1) o (by first | omega | (simp only [ZA, ZS, ZD, ZN]; omega)); have hb1f1 := fun o => below_fr hb1 (w.heap.size + 1) o (by first | omega | (simp only [ZA, ZS, ZD, ZN]; omega)))
  have hB1 : Below w.heap.size w w1 := (((Below.refl _ _).alloc (Nat.le_refl _) _).alloc (by simp) _).trans (hb1.mono (by simp; omega))
  have y0 : w1.cell? ⟨w.heap.size + 1, 0, none⟩ = some (.int .i64 0) := by rw [hb1c1, World.cell?_alloc_at _ _ _ _ (by simp)]; rfl
  have y1 : w1.cell? ⟨w.heap.size + 1, 1, none⟩ = some (.int .i64 0) := by rw [hb1c1, World.cell?_alloc_at _ _ _ _ (by simp)]; rfl
  have y2 : w1.cell? ⟨w.heap.size + 1, 2, none⟩ = some (.slice none 0 0) := by rw [hb1c1, World.cell?_alloc_at _ _ _ _ (by simp)]; rfl
  have y3 : w1.cell? ⟨w.heap.size + 1, 3, none⟩ = some (.slice none 0 0) := by rw [hb1c1, World.cell?_alloc_at _ _ _ _ (by simp)]; rfl
  have hz1 : w.heap.size + 1 < w1.heap.size := by omega
  have HB1 := Lib.hid hB1
  clear hB1 hb1
  go_wp2
  (try simp only [Exit.inBlock, Exit.then])
  refine bodyPost_ret (v := .tuple #[cv 0 0 none 0 0 none 0 0, .int .i64 cc]) ?_ rfl ⟨AnsC.err HX.out HE.out, ?_⟩
  · rw [results_cell_tmp rfl]
    go_simp
  · have := HB1.out
    exact (by have z0 := Below.size this; (try simp only [ZA, ZS, ZD, ZN] at z0 ⊢; skip); repeat' (first | (with_reducible exact Below.refl _ _) | (with_reducible assumption) | (with_reducible refine Below.alloc ?_ ?_ _) | (with_reducible refine Below.drew ?_) | (with_reducible refine below_drewN ?_ _) | (with_reducible refine Below.setCell ?_ ?_ _) | (with_reducible refine Below.trans ?_ (Below.mono (by with_reducible assumption) ?_)) | omega | (simp only [ZA, ZS, ZD, ZN]; omega) | go_size))
set_option maxHeartbeats 8000000 in
theorem lrQuo_uns {w : World} {AM AD AV : Option Addr} {cm cd n ca : Nat} {c : Chn} {P : Nat → Int} (h : ChI w w.heap.size AM cm AD cd c) (hs : ChS c 400) (hv : PaI w AV n P) (hn : n ≤ 1000)
    (hsz : c.Ok → ∀ p s d k, k ≤ c.nm → Sz 400 (intoQ c.f c.t c.q k p s d)) (h0 : c.codeL n P = 0) (hst : ¬ StaB c.f c.t c.q c.nm c.nd (prt P)) :
    Calls Tryz.prog 13 #[cv c.st c.sr AM c.nm cm AD c.nd cd, .slice AV n ca] w fun e w' => AnsC (.int .i64) (c.codeQ n P) (c.quoE n P) e w' ∧ Below w.heap.size w w' := by
  have hq := Chn.codeQ_15 h0 hst
  have HE := Lib.hid (show (Value.int .i64 15) = (Value.int .i64) (c.codeQ n P) by rw [hq])
  have HX := Lib.hid (Chn.quoE_n (c := c) (n := n) (P := P) (by rw [hq]; omega))
  have HSt := Lib.hid (fun W (hb : Below w.heap.size w W) => lrStable_any (ca := ca) (h.below hb) hs (hv.below hb) (by omega) hsz)
  have K1 : Hid (∀ W, Below w.heap.size w W → Calls Tryz.prog 26 #[cv c.st c.sr AM c.nm cm AD c.nd cd, .slice AV n ca] W fun e w' => (∃ x y : Int, e = .returned (.tuple #[.bool false, .agg #[.int .i64 x, .int .i64 y], .int .i64 0])) ∧ Below W.heap.size W w') := fun W hb =>
    (HSt.out W hb).mono fun e w' ⟨⟨ok, x, y, h1, h3, _⟩, h2⟩ => by
      have h4 := pr_sta (h3 h0)
      cases ok with
      | true => exact absurd (h4.1 rfl) hst
      | false =>
        rw [h0] at h1
        exact ⟨⟨_, _, h1⟩, h2⟩
  clear h hs hv hsz h0 hq hn hst HSt
  go_enter Tryz.func13, Tryz.ntmps13
  (go_wp2_with fail; (with_reducible refine (K1.out _ (by (skip); repeat' (first | (with_reducible exact Below.refl _ _) | (with_reducible assumption) | (with_reducible refine Below.alloc ?_ ?_ _) | (with_reducible refine Below.drew ?_) | (with_reducible refine below_drewN ?_ _) | (with_reducible refine Below.setCell ?_ ?_ _) | (with_reducible refine Below.trans ?_ (Below.mono (by with_reducible assumption) ?_)) | omega | (simp only [ZA, ZS, ZD, ZN]; omega) | go_size))).mono ?_); rintro e w1 ⟨⟨x, y, rfl⟩, hb1⟩; have hb1z := Below.size hb1; (try simp only [ZA, ZS, ZD, ZN] at hb1z); have hb1c0 := fun o => below_at hb1 (w.heap.size) o (by first | omega | (simp only [ZA, ZS, ZD, ZN]; omega)); have hb1f0 := fun o => below_fr hb1 (w.heap.size) o (by first | omega | (simp only [ZA, ZS, ZD, ZN]; omega)); have hb1c1 := fun o => below_at hb1 (w.heap.size + 1) o (by first | omega | (simp only [ZA, ZS, ZD, ZN]; omega)); have hb1f1 := fun o => below_fr hb1 (w.heap.size + 1) o (by first | omega | (simp only [ZA, ZS, ZD, ZN]; omega)))
  have hB1 : Below w.heap.size w w1 := (((Below.refl _ _).alloc (Nat.le_refl _) _).alloc (by simp) _).trans (hb1.mono (by simp; omega))
  have y0 : w1.cell? ⟨w.heap.size + 1, 0, none⟩ = some (.int .i64 0) := by rw [hb1c1, World.cell?_alloc_at _ _ _ _ (by simp)]; rfl
  have y1 : w1.cell? ⟨w.heap.size + 1, 1, none⟩ = some (.int .i64 0) := by rw [hb1c1, World.cell?_alloc_at _ _ _ _ (by simp)]; rfl
  have y2 : w1.cell? ⟨w.heap.size + 1, 2, none⟩ = some (.slice none 0 0) := by rw [hb1c1, World.cell?_alloc_at _ _ _ _ (by simp)]; rfl
  have y3 : w1.cell? ⟨w.heap.size + 1, 3, none⟩ = some (.slice none 0 0) := by rw [hb1c1, World.cell?_alloc_at _ _ _ _ (by simp)]; rfl
  have hz1 : w.heap.size + 1 < w1.heap.size := by omega
  have HB1 := Lib.hid hB1
  clear hB1 hb1
  go_wp2
  (try simp only [Exit.inBlock, Exit.then])
  refine bodyPost_ret (v := .tuple #[cv 0 0 none 0 0 none 0 0, .int .i64 15]) ?_ rfl ⟨AnsC.err HX.out HE.out, ?_⟩
  · rw [results_cell_tmp rfl]
    go_simp
  · have := HB1.out
    exact (by have z0 := Below.size this; (try simp only [ZA, ZS, ZD, ZN] at z0 ⊢; skip); repeat' (first | (with_reducible exact Below.refl _ _) | (with_reducible assumption) | (with_reducible refine Below.alloc ?_ ?_ _) | (with_reducible refine Below.drew ?_) | (with_reducible refine below_drewN ?_ _) | (with_reducible refine Below.setCell ?_ ?_ _) | (with_reducible refine Below.trans ?_ (Below.mono (by with_reducible assumption) ?_)) | omega | (simp only [ZA, ZS, ZD, ZN]; omega) | go_size))
/-! ### what the reference's walk needs -/
theorem bls_succ (n : Nat) (f : Nat → Bool) : bls (n + 1) f = bls n f ++ [.bool (f n)] := by simp [bls, List.range_succ]
theorem OwB.nil_ (w : World) (base : Nat) (f : Nat → Bool) : OwB w base none 0 0 f := own_nil w base _ 1
/-- row = append(row, f n), at a step of a region that draws -/
theorem step_appBo {w : World} {ops : Array Oper} {o : Oper} {a : Act} {K : Act → World → Prop} {Q : Exit → Act → World → Prop} {E : Prop} (hgd : o.guard = none) (s x : Operand)
    (ho : o.op = .call { callee := .builtin .append, args := #[s, x], argTypes := #[23, 23] })
    (b0 : Nat) (A : Option Addr) (c n : Nat) (f : Nat → Bool) (hs : a.eval s = .slice A n c) (hown : OwB w b0 A c n f)
    (B : Nat) (hx : a.eval x = .slice (some ⟨B, 0, none⟩) 1 1) (hc0 : w.cell? ⟨B, 0, none⟩ = some (.bool (f n)))
    (hn : n ≤ 1000000) (hbase : b0 ≤ w.heap.size)
    (h : ∀ g cap w', OwB w' b0 (some ⟨g, 0, none⟩) cap (n + 1) f → w.grownBy w' (Value.slice A n c).ownBlock → ((Value.slice A n c).ownBlock = some g ∨ w.heap.size ≤ g) → g < w'.heap.size → K (a.put o.dst (.slice (some ⟨g, 0, none⟩) (n + 1) cap)) w') :
    if Region.wanted o (yielded ops a.tmps) = true then Oper.wp Tryz.prog o a w K Q else E := by
  obtain ⟨i0, hi0, hz0, hz1, hz2⟩ := info_parts boolInfo
  refine step_append_lies _ hgd s x 23 ho b0 4 i0 _ 1 1 Tryz.underlying23 hi0 hz0 hz1 hz2 rfl (by omega) _ n _ hs hown ⟨B, 0, none⟩ 1 1 [.bool (f n)] hx rfl ?_ ?_ (by omega) (by unfold maxLen; omega) (by omega) hbase w.heap.size rfl ?_
  · intro j u hu
    rw [addr_add, Nat.zero_add]
    match j, hu with
    | 0, hu => simp at hu; subst hu; exact hc0
    | j + 1, hu => simp at hu
  · intro u hu
    simp at hu
    subst hu; rfl
  · intro g cap w' h1 h2 h3 h4
    refine h g cap w' ?_ h2 (h3.imp id fun e => by omega) h4
    unfold OwB
    rw [bls_succ]
    exact h1
theorem OwZ.rowT {w : World} {b0 c n : Nat} {A : Option Addr} {f : Nat → Int} (h : OwZ w b0 A c n f) : RowT w b0 3 (Value.slice A n c).ownBlock := fun k hk => by
  rcases h.2 with ⟨e, _⟩ | ⟨g', cap, cur, e, hb, hg, _⟩
  · rw [e] at hk; cases hk
  · rw [e] at hk
    have e2 : g' = k := by injection hk
    subst e2
    exact ⟨hb, cur, hg⟩
theorem OwB.rowT {w : World} {b0 c n : Nat} {A : Option Addr} {f : Nat → Bool} (h : OwB w b0 A c n f) : RowT w b0 4 (Value.slice A n c).ownBlock := fun k hk => by
  rcases h.2 with ⟨e, _⟩ | ⟨g', cap, cur, e, hb, hg, _⟩
  · rw [e] at hk; cases hk
  · rw [e] at hk
    have e2 : g' = k := by injection hk
    subst e2
    exact ⟨hb, cur, hg⟩
theorem res13_newS {W0 w4 : World} {B : Nat} {q : Rat} {s4 : Bool} {A4 : Option Addr} {n4 c4 : Nat} {B4 : Option Addr} {m4 d4 : Nat} (r : RdS w4 0 (rv s4 A4 n4 c4 B4 m4 d4) (canR q)) (hb : Below B W0 w4) (hB : B ≤ w4.heap.size) :
    Res13 W0 B q (.pointer (some ⟨w4.heap.size, 0, none⟩)) (w4.alloc (.cells #[.bool s4, .slice A4 n4 c4, .slice B4 m4 d4] 44)) :=
  ⟨_, _, _, _, _, _, _, _, rfl, hB, by simp, by simp, by simp, by simp, r.kp ((Kp.refl _ _).alloc _), hb.alloc hB _⟩
theorem res13_setS {W0 w4 : World} {B g : Nat} {q : Rat} {s4 : Bool} {A4 : Option Addr} {n4 c4 : Nat} {B4 : Option Addr} {m4 d4 : Nat} {a' b' d' : Value} (r : RdS w4 0 (rv s4 A4 n4 c4 B4 m4 d4) (canR q)) (hb : Below B W0 w4) (hB : B ≤ g) (hg : g < w4.heap.size) (hR : RatB w4 g)
    (h0 : w4.cell? ⟨g, 0, none⟩ = some a') (h1 : w4.cell? ⟨g, 1, none⟩ = some b') (h2 : w4.cell? ⟨g, 2, none⟩ = some d') :
    Res13 W0 B q (.pointer (some ⟨g, 0, none⟩)) (((w4.setCell ⟨g, 0, none⟩ (.bool s4)).setCell ⟨g, 1, none⟩ (.slice A4 n4 c4)).setCell ⟨g, 2, none⟩ (.slice B4 m4 d4)) := by
  have h := set3 (a := .bool s4) (b := .slice A4 n4 c4) (d := .slice B4 m4 d4) h0 h1 h2
  exact ⟨_, _, _, _, _, _, _, _, rfl, hB, by simpa using hg, h.1, h.2.1, h.2.2, r.kp (Kp.store3 hR (Nat.zero_le _) _ _ _), ((hb.setCell hB _).setCell hB _).setCell hB _⟩
end Go.Proofs.YtlncafhgmbhocaaGreatDoor
