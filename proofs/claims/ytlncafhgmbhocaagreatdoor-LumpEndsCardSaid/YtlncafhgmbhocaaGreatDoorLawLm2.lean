/- Contracts of functions and lemmas, used by the proofs of the given statements. No condition beyond those that each lemma names. -/
import Derived.Test.YtlncafhgmbhocaaGreatDoorJLawLm0
import Derived.Laws.StructEq
namespace Go.Proofs.YtlncafhgmbhocaaGreatDoor
open Go.RowKit
set_option linter.unusedSimpArgs false
set_option linter.unusedVariables false
set_option maxRecDepth 20000
attribute [local irreducible] nv wp win plainB validR valR canR mvE chkM codeC smK alk badP nrm eqN eqZ blks memZ crsP itP rfn movB rateB
/-! ## LumpComputes -/
theorem run_eql_pair {Q : Program} (w : World) (t e : TypeId) (ht : Q.underlying t = some (.array 2 e)) (he : Q.underlying e = some (.int .i64)) (hsz : ∀ w, (Go.sizeOf e).run Q w = .ok 1 w) (x y : Int) :
    (binOp .eql t (.agg #[.int .i64 x, .int .i64 y]) (.agg #[.int .i64 x, .int .i64 y])).run Q w = .ok (.bool true) w := by
  have h : (Op.equalIn (9998 + 2) t (.agg #[.int .i64 x, .int .i64 y]) (.agg #[.int .i64 x, .int .i64 y])).run Q w = .ok true w := by
    rw [Op.equalIn]
    simp only [Sem.run_bind, run_underlying ht, Result.andThen_ok, hsz, Std.Legacy.Range.forIn_eq_forIn_range', Std.Legacy.Range.size, Nat.sub_zero, Nat.add_sub_cancel, Nat.div_one]
    have p0 : (part e #[.int .i64 x, .int .i64 y] (0 * 1)).run Q w = .ok (.int .i64 x) w := by simp [part, isAgg, run_underlying he]
    have p1 : (part e #[.int .i64 x, .int .i64 y] (1 * 1)).run Q w = .ok (.int .i64 y) w := by simp [part, isAgg, run_underlying he]
    have e0 : (Op.equalIn (9998 + 1) e (.int .i64 x) (.int .i64 x)).run Q w = .ok true w := by rw [run_equalIn_int w 9998 e .i64 .i64 _ _ he]; simp
    have e1 : (Op.equalIn (9998 + 1) e (.int .i64 y) (.int .i64 y)).run Q w = .ok true w := by rw [run_equalIn_int w 9998 e .i64 .i64 _ _ he]; simp
    simp only [show List.range' 0 2 1 = [0, 1] from rfl, List.forIn_cons, List.forIn_nil, Sem.run_bind, p0, p1, e0, e1, Result.andThen_ok, Bool.not_true, Bool.false_eq_true, if_false, Sem.run_pure]
  rw [run_eql_struct, h]
  rfl
set_option maxHeartbeats 16000000 in
theorem lumpComputes_law {w : World} {AM AD AV : Option Addr} {cm cd n ca : Nat} {c : Chn} {P : Nat → Int} (h : ChI w w.heap.size AM cm AD cd c) (hv : PaI w AV n P) (hca : n ≤ ca) :
    Calls Tryz.prog 6 #[cv c.st c.sr AM c.nm cm AD c.nd cd, .slice AV n ca] w fun e w' => e = .returned (.bool true) ∧ Below w.heap.size w w' := by
  have KF := Lib.hid (fun W (hb : Below w.heap.size w W) => few_any (h.below hb))
  have HI := Lib.hid (fun W (hb : Below w.heap.size w W) => h.below hb)
  have HSm := Lib.hid (fun (hf : FewP c) => hf.small h)
  have HV := Lib.hid (fun W (hb : Below w.heap.size w W) => hv.below hb)
  have hbA : Below w.heap.size w (w.alloc (.cells #[.int .i64 c.st, .int .i64 c.sr, .slice AM c.nm cm, .slice AD c.nd cd] 25)) := (Below.refl _ _).alloc (Nat.le_refl _) _
  have HBA := Lib.hid hbA
  clear h hv hbA
  go_enter Tryz.func6, Tryz.ntmps6
  (go_wp2_with fail; (with_reducible refine (KF.out _ HBA.out).mono ?_); rintro e w1 ⟨⟨bb, rfl, hbb⟩, hb1⟩; have hb1z := Below.size hb1; (try simp only [ZA, ZS, ZD, ZN] at hb1z); have hb1c0 := fun o => below_at hb1 (w.heap.size) o (by first | omega | (simp only [ZA, ZS, ZD, ZN]; omega)); have hb1f0 := fun o => below_fr hb1 (w.heap.size) o (by first | omega | (simp only [ZA, ZS, ZD, ZN]; omega)))
  have hB1 : Below w.heap.size w w1 := HBA.out.trans (hb1.mono (by simp))
  cases bb with
  | false =>
    clear hbb
    (go_wp2_with fail; (with_reducible refine (awake51_any _).mono ?_); rintro e w2 ⟨rfl, hb2⟩; have hb2z := Below.size hb2; (try simp only [ZA, ZS, ZD, ZN] at hb2z))
    go_wp2
    go_ret
    exact ⟨rfl, hB1.trans (hb2.mono hB1.size)⟩
  | true =>
    have HF := Lib.hid (hbb rfl)
    have HS := Lib.hid (HSm.out (hbb rfl))
    clear hbb
    have hw1 : w.heap.size < w1.heap.size := by omega
    by_cases hn : n ≤ 300
    · have e1 : decide ((300 : Int) < (n : Int)) = false := by simp; omega
      have e2 : decide (300 < n) = false := by simp; omega
      have hni : (n : Int) ≤ 300 := by omega
      have hnd := HF.out.nd
      obtain ⟨cc, hcc⟩ : ∃ cc, cc = c.codeL n P := ⟨_, rfl⟩
      obtain ⟨cb, hcb⟩ : ∃ cb, cb = c.code := ⟨_, rfl⟩
      obtain ⟨m1, hm1⟩ : ∃ m1, m1 = lenC cc n := ⟨_, rfl⟩
      obtain ⟨m2, hm2⟩ : ∃ m2, m2 = lenC cb c.nd := ⟨_, rfl⟩
      obtain ⟨f1, hf1⟩ : ∃ f1 : Nat → Int, f1 = nrmZ P := ⟨_, rfl⟩
      obtain ⟨f2, hf2⟩ : ∃ f2 : Nat → Int, f2 = fun i => ((crsP c.f c.t c.q c.nm c.nd (prt P) i : Nat) : Int) := ⟨_, rfl⟩
      obtain ⟨f3, hf3⟩ : ∃ f3 : Nat → Int, f3 = fun i => ((bydF c.D i : Nat) : Int) := ⟨_, rfl⟩
      have hl1 : m1 ≤ 1000000 := by rw [hm1]; unfold lenC; split <;> omega
      have hl2 : m2 ≤ 1000000 := by rw [hm2]; unfold lenC; split <;> omega
      have K1 : Hid (∀ W, Below w.heap.size w W → Calls Tryz.prog 24 #[cv c.st c.sr AM c.nm cm AD c.nd cd, .slice AV n ca] W fun e w' => AnsP errM m1 f1 cc e w' ∧ Below W.heap.size W w') := fun W hb => by rw [hm1, hf1, hcc]; exact lNorm_any (HI.out W hb) HS.out.chS (HV.out W hb) (by omega)
      have K5 : Hid (∀ W, Below w.heap.size w W → Calls Tryz.prog 25 #[cv c.st c.sr AM c.nm cm AD c.nd cd, .slice AV n ca] W fun e w' => AnsP (.int .i64) m1 f1 cc e w' ∧ Below W.heap.size W w') := fun W hb => by rw [hm1, hf1, hcc]; exact lrNormP_any (HI.out W hb) HS.out.chS (HV.out W hb) (by omega) hca
      have K3 : Hid (∀ W, Below w.heap.size w W → Calls Tryz.prog 23 #[cv c.st c.sr AM c.nm cm AD c.nd cd, .slice AV n ca] W fun e w' => AnsP errM m1 f2 cc e w' ∧ Below W.heap.size W w') := fun W hb => by rw [hm1, hf2, hcc]; exact lCoarsest_any (HI.out W hb) HS.out.chS (HV.out W hb) (by omega) HS.out.smS
      have K7 : Hid (∀ W, Below w.heap.size w W → Calls Tryz.prog 27 #[cv c.st c.sr AM c.nm cm AD c.nd cd, .slice AV n ca] W fun e w' => AnsP (.int .i64) m1 f2 cc e w' ∧ Below W.heap.size W w') := fun W hb => by rw [hm1, hf2, hcc]; exact lrCoarsest_any (HI.out W hb) HS.out.chS (HV.out W hb) (by omega) hca HS.out.inS
      have K4 : Hid (∀ W, Below w.heap.size w W → Calls Tryz.prog 22 #[cv c.st c.sr AM c.nm cm AD c.nd cd] W fun e w' => AnsP errM m2 f3 cb e w' ∧ Below W.heap.size W w') := fun W hb => by rw [hm2, hf3, hcb]; exact lByDown_any (HI.out W hb) HS.out.chS
      have K8 : Hid (∀ W, Below w.heap.size w W → Calls Tryz.prog 28 #[cv c.st c.sr AM c.nm cm AD c.nd cd] W fun e w' => AnsP (.int .i64) m2 f3 cb e w' ∧ Below W.heap.size W w') := fun W hb => by rw [hm2, hf3, hcb]; exact lrByDown_any (HI.out W hb) HS.out.chS
      have hpr : ∃ (ok : Bool) (x y : Int), (∀ W, Below w.heap.size w W → Calls Tryz.prog 17 #[cv c.st c.sr AM c.nm cm AD c.nd cd, .slice AV n ca] W fun e w' => e = .returned (.tuple #[.bool ok, .agg #[.int .i64 x, .int .i64 y], errM cc]) ∧ Below W.heap.size W w') ∧ (∀ W, Below w.heap.size w W → Calls Tryz.prog 26 #[cv c.st c.sr AM c.nm cm AD c.nd cd, .slice AV n ca] W fun e w' => e = .returned (.tuple #[.bool ok, .agg #[.int .i64 x, .int .i64 y], .int .i64 cc]) ∧ Below W.heap.size W w') := by
        have KA := fun W (hb : Below w.heap.size w W) => lstable_any (ca := ca) (HI.out W hb) HS.out.chS (HV.out W hb) (by omega) HS.out.smS
        have KB := fun W (hb : Below w.heap.size w W) => lrStable_any (ca := ca) (HI.out W hb) HS.out.chS (HV.out W hb) (by omega) HS.out.inS
        by_cases h0 : c.codeL n P = 0
        · by_cases hex : ∃ (ok : Bool) (x y : Nat), IsPr (badP c.f c.t c.q c.nm c.nd (prt P)) c.nd ok x y
          · obtain ⟨ok, x, y, hx⟩ := hex
            refine ⟨ok, x, y, fun W hb => (KA W hb).mono fun e w' ⟨⟨ok', x', y', h1, h2, _⟩, h3⟩ => ?_, fun W hb => (KB W hb).mono fun e w' ⟨⟨ok', x', y', h1, h2, _⟩, h3⟩ => ?_⟩
            · obtain ⟨g1, g2, g3⟩ := (h2 h0).uniq hx
              exact ⟨by rw [h1, g1, g2, g3, hcc], h3⟩
            · obtain ⟨g1, g2, g3⟩ := (h2 h0).uniq hx
              exact ⟨by rw [h1, g1, g2, g3, hcc], h3⟩
          · exact ⟨true, 0, 0, fun W hb => (KA W hb).mono fun e w' ⟨⟨ok', x', y', _, h2, _⟩, _⟩ => absurd ⟨ok', x', y', h2 h0⟩ hex, fun W hb => (KB W hb).mono fun e w' ⟨⟨ok', x', y', _, h2, _⟩, _⟩ => absurd ⟨ok', x', y', h2 h0⟩ hex⟩
        · refine ⟨false, 0, 0, fun W hb => (KA W hb).mono fun e w' ⟨⟨ok', x', y', h1, _, h2⟩, h3⟩ => ?_, fun W hb => (KB W hb).mono fun e w' ⟨⟨ok', x', y', h1, _, h2⟩, h3⟩ => ?_⟩
          · obtain ⟨g1, g2, g3⟩ := h2 h0
            exact ⟨by rw [h1, g1, g2, g3, hcc]; rfl, h3⟩
          · obtain ⟨g1, g2, g3⟩ := h2 h0
            exact ⟨by rw [h1, g1, g2, g3, hcc]; rfl, h3⟩
      obtain ⟨ok, x, y, k2, k6⟩ := hpr
      have K2 := Lib.hid k2
      have K6 := Lib.hid k6
      have ecc : (cc == cc) = true := by simp
      have heq := fun (W : World) => run_eql_pair (Q := Tryz.prog) W 38 3 Tryz.underlying38 Tryz.underlying3 Tryz.sizeOf3 x y
      have ecb : (cb == cb) = true := by simp
      have eok : (ok == ok) = true := by simp
      have ex : (x == x) = true := by simp
      have ey : (y == y) = true := by simp
      clear hcc hcb hm1 hm2 hf1 hf2 hf3 k2 k6 HF HS HSm HI HV KF
      (go_wp2_with fail; (with_reducible refine (awake51_any _).mono ?_); rintro e w2 ⟨rfl, hb2⟩; have hb2z := Below.size hb2; (try simp only [ZA, ZS, ZD, ZN] at hb2z); have hb2c0 := fun o => below_at hb2 (w.heap.size) o (by first | omega | (simp only [ZA, ZS, ZD, ZN]; omega)); have hb2f0 := fun o => below_fr hb2 (w.heap.size) o (by first | omega | (simp only [ZA, ZS, ZD, ZN]; omega)))
      have hB2 : Below w.heap.size w w2 := hB1.trans (hb2.mono hB1.size)
      (go_wp2_with fail; (with_reducible refine (K1.out _ hB2).mono ?_); rintro e w3 ⟨⟨A3, c3, rfl, r3⟩, hb3⟩; have hb3z := Below.size hb3; (try simp only [ZA, ZS, ZD, ZN] at hb3z); have hb3c0 := fun o => below_at hb3 (w.heap.size) o (by first | omega | (simp only [ZA, ZS, ZD, ZN]; omega)); have hb3f0 := fun o => below_fr hb3 (w.heap.size) o (by first | omega | (simp only [ZA, ZS, ZD, ZN]; omega)))
      have hB3 : Below w.heap.size w w3 := hB2.trans (hb3.mono hB2.size)
      (go_wp2_with fail; (with_reducible refine (K2.out _ hB3).mono ?_); rintro e w4 ⟨rfl, hb4⟩; have hb4z := Below.size hb4; (try simp only [ZA, ZS, ZD, ZN] at hb4z); have hb4c0 := fun o => below_at hb4 (w.heap.size) o (by first | omega | (simp only [ZA, ZS, ZD, ZN]; omega)); have hb4f0 := fun o => below_fr hb4 (w.heap.size) o (by first | omega | (simp only [ZA, ZS, ZD, ZN]; omega)))
      have hB4 : Below w.heap.size w w4 := hB3.trans (hb4.mono hB3.size)
      have R3 := Lib.hid (r3.below hb4)
      have HB4 := Lib.hid hB4
      have hz4 : w.heap.size < w4.heap.size := by omega
      clear r3 hb4 hB2 hB3 hB1 K1 K2
      (have ooc := fun o i => below_at ((Below.refl w4.heap.size w4).alloc (Nat.le_refl _) o) (w.heap.size) i (by omega)); (have oof := fun o i => below_fr ((Below.refl w4.heap.size w4).alloc (Nat.le_refl _) o) (w.heap.size) i (by omega))
      have h4a : Below w4.heap.size w4 (w4.alloc (.cells #[.int .i64 x, .int .i64 y] 38)) := (Below.refl _ _).alloc (Nat.le_refl _) _
      have H4A := Lib.hid h4a
      clear h4a
      (go_wp2_with fail; (with_reducible refine (K3.out _ (HB4.out.trans (H4A.out.mono (by omega)))).mono ?_); rintro e w5 ⟨⟨A5, c5, rfl, r5⟩, hb5⟩; have hb5z := Below.size hb5; (try simp only [ZA, ZS, ZD, ZN] at hb5z); have hb5c0 := fun o => below_at hb5 (w.heap.size) o (by first | omega | (simp only [ZA, ZS, ZD, ZN]; omega)); have hb5f0 := fun o => below_fr hb5 (w.heap.size) o (by first | omega | (simp only [ZA, ZS, ZD, ZN]; omega)); have hb5c1 := fun o => below_at hb5 (w4.heap.size) o (by first | omega | (simp only [ZA, ZS, ZD, ZN]; omega)); have hb5f1 := fun o => below_fr hb5 (w4.heap.size) o (by first | omega | (simp only [ZA, ZS, ZD, ZN]; omega)))
      have h45 : Below w4.heap.size w4 w5 := H4A.out.trans (hb5.mono (by simp))
      have HB5 := Lib.hid (HB4.out.trans (h45.mono HB4.out.size))
      have p0 : w5.cell? ⟨w4.heap.size, 0, none⟩ = some (.int .i64 x) := by rw [hb5c1]; simp
      have p1 : w5.cell? ⟨w4.heap.size, 1, none⟩ = some (.int .i64 y) := by rw [hb5c1]; simp
      have H45 := Lib.hid h45
      have R5 := Lib.hid r5
      clear hb5 h45 r5 hb5c1 K3
      (go_wp2_with fail; (with_reducible refine (K4.out _ HB5.out).mono ?_); rintro e w6 ⟨⟨A6, c6, rfl, r6⟩, hb6⟩; have hb6z := Below.size hb6; (try simp only [ZA, ZS, ZD, ZN] at hb6z); have hb6c0 := fun o => below_at hb6 (w.heap.size) o (by first | omega | (simp only [ZA, ZS, ZD, ZN]; omega)); have hb6f0 := fun o => below_fr hb6 (w.heap.size) o (by first | omega | (simp only [ZA, ZS, ZD, ZN]; omega)); have hb6c1 := fun o => below_at hb6 (w4.heap.size) o (by first | omega | (simp only [ZA, ZS, ZD, ZN]; omega)); have hb6f1 := fun o => below_fr hb6 (w4.heap.size) o (by first | omega | (simp only [ZA, ZS, ZD, ZN]; omega)))
      have HB6 := Lib.hid (HB5.out.trans (hb6.mono HB5.out.size))
      have H56 := Lib.hid (show Below w5.heap.size w5 w6 from hb6)
      have R6 := Lib.hid r6
      clear hb6 r6 K4
      (go_wp2_with fail; (with_reducible refine (K5.out _ HB6.out).mono ?_); rintro e w7 ⟨⟨A7, c7, rfl, r7⟩, hb7⟩; have hb7z := Below.size hb7; (try simp only [ZA, ZS, ZD, ZN] at hb7z); have hb7c0 := fun o => below_at hb7 (w.heap.size) o (by first | omega | (simp only [ZA, ZS, ZD, ZN]; omega)); have hb7f0 := fun o => below_fr hb7 (w.heap.size) o (by first | omega | (simp only [ZA, ZS, ZD, ZN]; omega)); have hb7c1 := fun o => below_at hb7 (w4.heap.size) o (by first | omega | (simp only [ZA, ZS, ZD, ZN]; omega)); have hb7f1 := fun o => below_fr hb7 (w4.heap.size) o (by first | omega | (simp only [ZA, ZS, ZD, ZN]; omega)))
      have HB7 := Lib.hid (HB6.out.trans (hb7.mono HB6.out.size))
      have H67 := Lib.hid (show Below w6.heap.size w6 w7 from hb7)
      have R7 := Lib.hid r7
      clear hb7 r7 K5
      (go_wp2_with fail; (with_reducible refine (K6.out _ HB7.out).mono ?_); rintro e w8 ⟨rfl, hb8⟩; have hb8z := Below.size hb8; (try simp only [ZA, ZS, ZD, ZN] at hb8z); have hb8c0 := fun o => below_at hb8 (w.heap.size) o (by first | omega | (simp only [ZA, ZS, ZD, ZN]; omega)); have hb8f0 := fun o => below_fr hb8 (w.heap.size) o (by first | omega | (simp only [ZA, ZS, ZD, ZN]; omega)); have hb8c1 := fun o => below_at hb8 (w4.heap.size) o (by first | omega | (simp only [ZA, ZS, ZD, ZN]; omega)); have hb8f1 := fun o => below_fr hb8 (w4.heap.size) o (by first | omega | (simp only [ZA, ZS, ZD, ZN]; omega)))
      have HB8 := Lib.hid (HB7.out.trans (hb8.mono HB7.out.size))
      have H78 := Lib.hid (show Below w7.heap.size w7 w8 from hb8)
      have h8a : Below w8.heap.size w8 (w8.alloc (.cells #[.int .i64 x, .int .i64 y] 38)) := (Below.refl _ _).alloc (Nat.le_refl _) _
      have H8A := Lib.hid h8a
      have hz8 : w.heap.size < w8.heap.size := by omega
      have hz84 : w4.heap.size < w8.heap.size := by omega
      clear hb8 h8a K6
      (have ppc := fun o i => below_at ((Below.refl w8.heap.size w8).alloc (Nat.le_refl _) o) (w.heap.size) i (by omega)); (have ppf := fun o i => below_fr ((Below.refl w8.heap.size w8).alloc (Nat.le_refl _) o) (w.heap.size) i (by omega))
      (have qqc := fun o i => below_at ((Below.refl w8.heap.size w8).alloc (Nat.le_refl _) o) (w4.heap.size) i (by omega)); (have qqf := fun o i => below_fr ((Below.refl w8.heap.size w8).alloc (Nat.le_refl _) o) (w4.heap.size) i (by omega))
      (go_wp2_with fail; (with_reducible refine (K7.out _ (HB8.out.trans (H8A.out.mono (by omega)))).mono ?_); rintro e w9 ⟨⟨A9, c9, rfl, r9⟩, hb9⟩; have hb9z := Below.size hb9; (try simp only [ZA, ZS, ZD, ZN] at hb9z); have hb9c0 := fun o => below_at hb9 (w.heap.size) o (by first | omega | (simp only [ZA, ZS, ZD, ZN]; omega)); have hb9f0 := fun o => below_fr hb9 (w.heap.size) o (by first | omega | (simp only [ZA, ZS, ZD, ZN]; omega)); have hb9c1 := fun o => below_at hb9 (w4.heap.size) o (by first | omega | (simp only [ZA, ZS, ZD, ZN]; omega)); have hb9f1 := fun o => below_fr hb9 (w4.heap.size) o (by first | omega | (simp only [ZA, ZS, ZD, ZN]; omega)); have hb9c2 := fun o => below_at hb9 (w8.heap.size) o (by first | omega | (simp only [ZA, ZS, ZD, ZN]; omega)); have hb9f2 := fun o => below_fr hb9 (w8.heap.size) o (by first | omega | (simp only [ZA, ZS, ZD, ZN]; omega)))
      have h89 : Below w8.heap.size w8 w9 := H8A.out.trans (hb9.mono (by simp))
      have HB9 := Lib.hid (HB8.out.trans (h89.mono HB8.out.size))
      have p2 : w9.cell? ⟨w8.heap.size, 0, none⟩ = some (.int .i64 x) := by rw [hb9c2]; simp
      have p3 : w9.cell? ⟨w8.heap.size, 1, none⟩ = some (.int .i64 y) := by rw [hb9c2]; simp
      have H89 := Lib.hid h89
      have R9 := Lib.hid r9
      clear hb9 h89 r9 hb9c2 K7
      (go_wp2_with fail; (with_reducible refine (K8.out _ HB9.out).mono ?_); rintro e wa ⟨⟨Aa, ca', rfl, ra⟩, hba⟩; have hbaz := Below.size hba; (try simp only [ZA, ZS, ZD, ZN] at hbaz); have hbac0 := fun o => below_at hba (w.heap.size) o (by first | omega | (simp only [ZA, ZS, ZD, ZN]; omega)); have hbaf0 := fun o => below_fr hba (w.heap.size) o (by first | omega | (simp only [ZA, ZS, ZD, ZN]; omega)); have hbac1 := fun o => below_at hba (w4.heap.size) o (by first | omega | (simp only [ZA, ZS, ZD, ZN]; omega)); have hbaf1 := fun o => below_fr hba (w4.heap.size) o (by first | omega | (simp only [ZA, ZS, ZD, ZN]; omega)); have hbac2 := fun o => below_at hba (w8.heap.size) o (by first | omega | (simp only [ZA, ZS, ZD, ZN]; omega)); have hbaf2 := fun o => below_fr hba (w8.heap.size) o (by first | omega | (simp only [ZA, ZS, ZD, ZN]; omega)))
      have HBa := Lib.hid (HB9.out.trans (hba.mono HB9.out.size))
      have h9a : Below w9.heap.size w9 wa := hba
      have h8a : Below w8.heap.size w8 wa := H89.out.trans (h9a.mono H89.out.size)
      have h7a : Below w7.heap.size w7 wa := H78.out.trans (h8a.mono H78.out.size)
      have h6a : Below w6.heap.size w6 wa := H67.out.trans (h7a.mono H67.out.size)
      have h5a : Below w5.heap.size w5 wa := H56.out.trans (h6a.mono H56.out.size)
      have h4a : Below w4.heap.size w4 wa := H45.out.trans (h5a.mono H45.out.size)
      have L1 := Lib.hid (fun W (hb : Below wa.heap.size wa W) => ints_same (c := c3) (d := c7) (R3.out.below (h4a.trans (hb.mono h4a.size))) (R7.out.below (h7a.trans (hb.mono h7a.size))) hl1)
      have L2 := Lib.hid (fun W (hb : Below wa.heap.size wa W) => ints_same (c := c5) (d := c9) (R5.out.below (h5a.trans (hb.mono h5a.size))) (R9.out.below (h9a.trans (hb.mono h9a.size))) hl1)
      have L3 := Lib.hid (fun W (hb : Below wa.heap.size wa W) => ints_same (c := c6) (d := ca') (R6.out.below (h6a.trans (hb.mono h6a.size))) (ra.below hb) hl2)
      clear hba ra h9a h8a h7a h6a h5a h4a K8
      go_wp2_with fail
      (with_reducible refine (bnum_e _ _).mono ?_)
      rintro e _ ⟨rfl, rfl⟩
      (go_wp2_with fail; (with_reducible refine (L1.out _ (Below.refl _ _)).mono ?_); rintro e wb ⟨rfl, hbb⟩; have hbbz := Below.size hbb; (try simp only [ZA, ZS, ZD, ZN] at hbbz); have hbbc0 := fun o => below_at hbb (w4.heap.size) o (by first | omega | (simp only [ZA, ZS, ZD, ZN]; omega)); have hbbf0 := fun o => below_fr hbb (w4.heap.size) o (by first | omega | (simp only [ZA, ZS, ZD, ZN]; omega)); have hbbc1 := fun o => below_at hbb (w8.heap.size) o (by first | omega | (simp only [ZA, ZS, ZD, ZN]; omega)); have hbbf1 := fun o => below_fr hbb (w8.heap.size) o (by first | omega | (simp only [ZA, ZS, ZD, ZN]; omega)))
      have hBb : Below wa.heap.size wa wb := hbb
      go_wp2_with fail
      (with_reducible refine (bnum_e _ _).mono ?_)
      rintro e _ ⟨rfl, rfl⟩
      go_wp2_with fail
      (with_reducible refine (bnum_e _ _).mono ?_)
      rintro e _ ⟨rfl, rfl⟩
      (go_wp2_with fail; (with_reducible refine (L2.out _ hBb).mono ?_); rintro e wc ⟨rfl, hbc⟩; have hbcz := Below.size hbc; (try simp only [ZA, ZS, ZD, ZN] at hbcz))
      have hBc : Below wa.heap.size wa wc := hBb.trans (hbc.mono hBb.size)
      go_wp2_with fail
      (with_reducible refine (bnum_e _ _).mono ?_)
      rintro e _ ⟨rfl, rfl⟩
      (go_wp2_with fail; (with_reducible refine (L3.out _ hBc).mono ?_); rintro e wd ⟨rfl, hbd⟩; have hbdz := Below.size hbd; (try simp only [ZA, ZS, ZD, ZN] at hbdz))
      go_wp2
      go_ret
      exact ⟨rfl, HBa.out.trans ((hBc.trans (hbd.mono hBc.size)).mono HBa.out.size)⟩
    · have e1 : decide ((300 : Int) < (n : Int)) = true := by simp; omega
      have e2 : decide (300 < n) = true := by simp; omega
      have hni : (300 : Int) < (n : Int) := by omega
      clear HF HS HSm HI HV KF
      (go_wp2_with fail; (with_reducible refine (awake51_any _).mono ?_); rintro e w2 ⟨rfl, hb2⟩; have hb2z := Below.size hb2; (try simp only [ZA, ZS, ZD, ZN] at hb2z))
      go_wp2
      go_ret
      exact ⟨rfl, hB1.trans (hb2.mono hB1.size)⟩
end Go.Proofs.YtlncafhgmbhocaaGreatDoor
