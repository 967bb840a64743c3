/- Contracts of functions and lemmas, used by the proofs of the given statements. No condition beyond those that each lemma names. -/
import Derived.Test.YtlncafhgmbhocaaGreatDoorLawLmV
namespace Go.Proofs.YtlncafhgmbhocaaGreatDoor
open Go.RowKit
set_option linter.unusedSimpArgs false
set_option linter.unusedVariables false
set_option maxRecDepth 20000
attribute [local irreducible] nv wp win plainB validR valR canR mvE chkM codeC smK alk badP nrm eqN eqZ blks memZ crsP itP rfn movB rateB
/-! ## LumpCoarsest -/
/-- the program's Stable answers one thing -/
theorem stable_one {w : World} {AM AD AV : Option Addr} {cm cd n ca : Nat} {c : Chn} {P : Nat → Int} (h : ChI w w.heap.size AM cm AD cd c) (hS : Small c) (hv : PaI w AV n P) (hn : n ≤ 1000) (h0 : c.codeL n P = 0) :
    ∃ (ok : Bool) (x y : Nat), (ok = true → StaB c.f c.t c.q c.nm c.nd (prt P)) ∧ (ok = false → IsPr (badP c.f c.t c.q c.nm c.nd (prt P)) c.nd false x y) ∧ (StaB c.f c.t c.q c.nm c.nd (prt P) → ok = true ∧ x = 0 ∧ y = 0) ∧ ∀ W, Below w.heap.size w W → Calls Tryz.prog 17 #[cv c.st c.sr AM c.nm cm AD c.nd cd, .slice AV n ca] W fun e w' => e = .returned (.tuple #[.bool ok, .agg #[.int .i64 (x : Int), .int .i64 (y : Int)], .nilIface]) ∧ Below W.heap.size W w' := by
  have KA := fun W (hb : Below w.heap.size w W) => lstable_any (ca := ca) (h.below hb) hS.chS (hv.below hb) (by omega) hS.smS
  by_cases hex : ∃ (ok : Bool) (x y : Nat), IsPr (badP c.f c.t c.q c.nm c.nd (prt P)) c.nd ok x y
  · obtain ⟨ok, x, y, hx⟩ := hex
    refine ⟨ok, x, y, (pr_sta hx).1, fun e => e ▸ hx, fun hs => ?_, fun W hb => (KA W hb).mono fun e w' ⟨⟨ok', x', y', h1, h2, _⟩, h3⟩ => ?_⟩
    · have e := (pr_sta hx).2 hs
      rcases hx with ⟨g1, g2, g3, -⟩ | ⟨g1, -⟩
      · exact ⟨g1, g2, g3⟩
      · rw [g1] at e; cases e
    · obtain ⟨g1, g2, g3⟩ := (h2 h0).uniq hx
      exact ⟨by rw [h1, g1, g2, g3, h0, errM_0], h3⟩
  · exfalso
    have hA := KA w (Below.refl _ _)
    refine hex ?_
    by_cases hs : StaB c.f c.t c.q c.nm c.nd (prt P)
    · refine ⟨true, 0, 0, .inl ⟨rfl, rfl, rfl, fun a b hab hb => ?_⟩⟩
      cases hB : badP c.f c.t c.q c.nm c.nd (prt P) a b
      · rfl
      · unfold badP at hB
        rw [Bool.and_eq_true] at hB
        have := hs a b (by omega) hb (by simpa using hB.1)
        rw [this] at hB
        simp at hB
    · have : ∃ a b, a < b ∧ b < c.nd ∧ badP c.f c.t c.q c.nm c.nd (prt P) a b = true := by
        apply Classical.byContradiction
        intro hno
        refine hs ((pr_sta (ok := true) (x := 0) (y := 0) (.inl ⟨rfl, rfl, rfl, fun a b hab hb => ?_⟩)).1 rfl)
        cases hB : badP c.f c.t c.q c.nm c.nd (prt P) a b
        · rfl
        · exact absurd ⟨a, b, hab, hb, hB⟩ hno
      -- the first of them
      have key : ∀ m, (∃ a b, a < b ∧ b < c.nd ∧ badP c.f c.t c.q c.nm c.nd (prt P) a b = true ∧ a * c.nd + b < m) → ∃ x y, x < y ∧ y < c.nd ∧ badP c.f c.t c.q c.nm c.nd (prt P) x y = true ∧ ∀ a b, a < b → b < c.nd → (a < x ∨ a = x ∧ b < y) → badP c.f c.t c.q c.nm c.nd (prt P) a b = false := by
        intro m
        induction m with
        | zero => rintro ⟨a, b, _, _, _, h⟩; omega
        | succ m ih =>
          rintro ⟨a, b, hab, hb, hB, hlt⟩
          by_cases h : ∃ a' b', a' < b' ∧ b' < c.nd ∧ (a' < a ∨ a' = a ∧ b' < b) ∧ badP c.f c.t c.q c.nm c.nd (prt P) a' b' = true
          · obtain ⟨a', b', h1, h2, h3, h4⟩ := h
            refine ih ⟨a', b', h1, h2, h4, ?_⟩
            rcases h3 with h3 | ⟨h3, h5⟩
            · have : (a' + 1) * c.nd ≤ a * c.nd := Nat.mul_le_mul_right _ h3
              rw [Nat.succ_mul] at this
              omega
            · subst h3; omega
          · refine ⟨a, b, hab, hb, hB, fun a' b' h1 h2 h3 => ?_⟩
            cases hB' : badP c.f c.t c.q c.nm c.nd (prt P) a' b'
            · rfl
            · exact absurd ⟨a', b', h1, h2, h3, hB'⟩ h
      obtain ⟨a, b, h1, h2, h3⟩ := this
      obtain ⟨x, y, g1, g2, g3, g4⟩ := key (a * c.nd + b + 1) ⟨a, b, h1, h2, h3, by omega⟩
      exact ⟨false, x, y, .inr ⟨rfl, g1, g2, g3, g4⟩⟩
set_option maxHeartbeats 16000000 in
theorem lumpCoarsest_law {w : World} {AM AD AV AO : Option Addr} {cm cd n n' ca co : Nat} {c : Chn} {P O : Nat → Int} (h : ChI w w.heap.size AM cm AD cd c) (hv : PaI w AV n P) (hw : PaI w AO n' O) :
    Calls Tryz.prog 7 #[cv c.st c.sr AM c.nm cm AD c.nd cd, .slice AV n ca, .slice AO n' co] w fun e w' => e = .returned (.bool true) ∧ Below w.heap.size w w' := by
  have KV := Lib.hid (fun W (hb : Below w.heap.size w W) => valid51_any (ca := ca) (h.below hb) (hv.below hb))
  have KW := Lib.hid (fun W (hb : Below w.heap.size w W) => valid51_any (ca := co) (h.below hb) (hw.below hb))
  have HI := Lib.hid (fun W (hb : Below w.heap.size w W) => h.below hb)
  have HSm := Lib.hid (fun (hf : FewP c) => hf.small h)
  have HV := Lib.hid (fun W (hb : Below w.heap.size w W) => hv.below hb)
  have HW := Lib.hid (fun W (hb : Below w.heap.size w W) => hw.below hb)
  have HOne := Lib.hid (fun (hf : FewP c) (h0 : c.codeL n' O = 0) (hn : n' ≤ 1000) => stable_one (ca := co) h (hf.small h) hw hn h0)
  have hbA : Below w.heap.size w (w.alloc (.cells #[.int .i64 c.st, .int .i64 c.sr, .slice AM c.nm cm, .slice AD c.nd cd] 25)) := (Below.refl _ _).alloc (Nat.le_refl _) _
  have HBA := Lib.hid hbA
  clear h hv hw hbA
  go_enter Tryz.func7, Tryz.ntmps7
  (go_wp2_with fail; (with_reducible refine (KV.out _ HBA.out).mono ?_); rintro e w1 ⟨⟨bb, rfl, hbb⟩, hb1⟩; have hb1z := Below.size hb1; (try simp only [ZA, ZS, ZD, ZN] at hb1z); have hb1c0 := fun o => below_at hb1 (w.heap.size) o (by first | omega | (simp only [ZA, ZS, ZD, ZN]; omega)); have hb1f0 := fun o => below_fr hb1 (w.heap.size) o (by first | omega | (simp only [ZA, ZS, ZD, ZN]; omega)))
  have hB1 : Below w.heap.size w w1 := HBA.out.trans (hb1.mono (by simp))
  have hw1 : w.heap.size < w1.heap.size := by omega
  cases bb with
  | false =>
    clear hbb
    (go_wp2_with fail; (with_reducible refine (awake51_any _).mono ?_); rintro e w2 ⟨rfl, hb2⟩; have hb2z := Below.size hb2; (try simp only [ZA, ZS, ZD, ZN] at hb2z))
    go_wp2
    go_ret
    exact ⟨rfl, hB1.trans (hb2.mono hB1.size)⟩
  | true =>
    have HF := Lib.hid (hbb rfl).1
    have HC1 := Lib.hid (hbb rfl).2
    clear hbb
    (go_wp2_with fail; (with_reducible refine (KW.out _ hB1).mono ?_); rintro e w2 ⟨⟨b2, rfl, hb2'⟩, hb2⟩; have hb2z := Below.size hb2; (try simp only [ZA, ZS, ZD, ZN] at hb2z); have hb2c0 := fun o => below_at hb2 (w.heap.size) o (by first | omega | (simp only [ZA, ZS, ZD, ZN]; omega)); have hb2f0 := fun o => below_fr hb2 (w.heap.size) o (by first | omega | (simp only [ZA, ZS, ZD, ZN]; omega)))
    have hB2 : Below w.heap.size w w2 := hB1.trans (hb2.mono hB1.size)
    cases b2 with
    | false =>
      clear hb2'
      (go_wp2_with fail; (with_reducible refine (awake51_any _).mono ?_); rintro e w3 ⟨rfl, hb3⟩; have hb3z := Below.size hb3; (try simp only [ZA, ZS, ZD, ZN] at hb3z))
      go_wp2
      go_ret
      exact ⟨rfl, hB2.trans (hb3.mono hB2.size)⟩
    | true =>
      have hC2 := (hb2' rfl).2
      clear hb2'
      have hC1 := HC1.out
      have HS := Lib.hid (HSm.out HF.out)
      obtain ⟨hc0, hnn, hin⟩ := Chn.codeL_0 hC1
      obtain ⟨-, hnn2, hin2⟩ := Chn.codeL_0 hC2
      have ok := Chn.ok_iff.1 hc0
      subst hnn
      subst hnn2
      have hnd := HF.out.nd
      have hT := Chn.lt_t ok
      have hpp := prt_is hin
      have hoo := prt_is hin2
      have hlo := ok.lo
      obtain ⟨Zc, hZc⟩ : ∃ Zc : Nat → Int, Zc = fun i => ((crsP c.f c.t c.q c.nm c.nd (prt P) i : Nat) : Int) := ⟨_, rfl⟩
      have hprt : prt Zc = crsP c.f c.t c.q c.nm c.nd (prt P) := by rw [hZc]; exact prt_cast _
      have hcrl : ∀ i, i < c.nd → crsP c.f c.t c.q c.nm c.nd (prt P) i < c.nd := fun i hi => by
        unfold crsP
        exact itP_lt hlo c.nd i hi
      have hCq : c.codeL c.nd Zc = 0 := Chn.codeL_z hc0 rfl (inP_iff.2 fun j hj => by
        have := hcrl j hj
        rw [hZc]
        show 0 ≤ ((crsP c.f c.t c.q c.nm c.nd (prt P) j : Nat) : Int) ∧ ((crsP c.f c.t c.q c.nm c.nd (prt P) j : Nat) : Int) < (c.nd : Int)
        omega)
      have hsta : StaB c.f c.t c.q c.nm c.nd (prt Zc) := by rw [hprt]; exact crsP_stable hT hlo
      have KC : Hid (∀ W, Below w.heap.size w W → Calls Tryz.prog 23 #[cv c.st c.sr AM c.nm cm AD c.nd cd, .slice AV c.nd ca] W fun e w' => (∃ A d, e = .returned (.tuple #[.slice A c.nd d, .nilIface]) ∧ PaI w' A c.nd Zc) ∧ Below W.heap.size W w') := fun W hb => by
        have := lCoarsest_any (ca := ca) (HI.out W hb) HS.out.chS (HV.out W hb) (by omega) HS.out.smS
        rw [hC1, lenC_0] at this
        rw [hZc]
        exact this
      have KR : Hid (∀ W A d, Below w.heap.size w W → PaI W A c.nd Zc → Calls Tryz.prog 30 #[.slice A c.nd d, .slice AV c.nd ca] W fun e w' => e = .returned (.bool true) ∧ Below W.heap.size W w') := fun W A d hb hA =>
        (lrRefines_any hA (HV.out W hb) (by omega)).mono fun e w' ⟨⟨r, h1, h2⟩, h3⟩ => by
          have : r = true := h2.2 (fun i k hi hk he => by
            rw [(hpp i hi).1, (hpp k hk).1]
            rw [hZc] at he
            have he : crsP c.f c.t c.q c.nm c.nd (prt P) i = crsP c.f c.t c.q c.nm c.nd (prt P) k := by
              have he : ((crsP c.f c.t c.q c.nm c.nd (prt P) i : Nat) : Int) = ((crsP c.f c.t c.q c.nm c.nd (prt P) k : Nat) : Int) := he
              omega
            have := itP_fine (F := c.f) (T := c.t) (q := c.q) (nm := c.nm) (n := c.nd) (p := prt P) c.nd i k hi hk (by unfold crsP at he; exact he)
            rw [this])
          exact ⟨by rw [h1, this], h3⟩
      have KS : Hid (∀ W A d, Below w.heap.size w W → PaI W A c.nd Zc → Calls Tryz.prog 17 #[cv c.st c.sr AM c.nm cm AD c.nd cd, .slice A c.nd d] W fun e w' => e = .returned (.tuple #[.bool true, .agg #[.int .i64 0, .int .i64 0], .nilIface]) ∧ Below W.heap.size W w') := fun W A d hb hA => by
        obtain ⟨ok', x', y', -, -, g3, g4⟩ := stable_one (ca := d) (HI.out W hb) HS.out hA (by omega) hCq
        obtain ⟨e1, e2, e3⟩ := g3 hsta
        have := g4 W (Below.refl _ _)
        rw [e1, e2, e3] at this
        exact this
      have KN : Hid (∀ W A d, Below w.heap.size w W → PaI W A c.nd Zc → Calls Tryz.prog 24 #[cv c.st c.sr AM c.nm cm AD c.nd cd, .slice A c.nd d] W fun e w' => (∃ A' d', e = .returned (.tuple #[.slice A' c.nd d', .nilIface]) ∧ PaI w' A' c.nd Zc) ∧ Below W.heap.size W w') := fun W A d hb hA => by
        have := lNorm_any (ca := d) (HI.out W hb) HS.out.chS hA (by omega)
        rw [hCq, lenC_0] at this
        have e : nrmZ Zc = Zc := by
          unfold nrmZ
          rw [hprt, hZc]
          funext i
          show ((nrm (relP (crsP c.f c.t c.q c.nm c.nd (prt P))) i : Nat) : Int) = _
          unfold crsP
          rw [itP_normed]
        rw [e] at this
        exact this
      obtain ⟨good, x, y, hg1, -, -, hg4⟩ := HOne.out HF.out hC2 (by omega)
      have KO := Lib.hid hg4
      have KOP := Lib.hid (fun W (hb : Below w.heap.size w W) => lrRefines_any (c := co) (d := ca) (HW.out W hb) (HV.out W hb) (by omega))
      have KOQ : Hid (good = true → RefZ c.nd O P → ∀ W A d, Below w.heap.size w W → PaI W A c.nd Zc → Calls Tryz.prog 30 #[.slice AO c.nd co, .slice A c.nd d] W fun e w' => e = .returned (.bool true) ∧ Below W.heap.size W w') := fun hgd hrz W A d hb hA =>
        (lrRefines_any (HW.out W hb) hA (by omega)).mono fun e w' ⟨⟨r, h1, h2⟩, h3⟩ => by
          have hfo : Fine c.nd (prt O) (prt P) := fun a b ha hb2 he => by
            have := hrz a b ha hb2 (by rw [(hoo a ha).1, (hoo b hb2).1, he])
            rw [(hpp a ha).1, (hpp b hb2).1] at this
            omega
          have hco := itP_coarse (F := c.f) (T := c.t) (q := c.q) (nm := c.nm) (n := c.nd) (p := prt P) hT (fun s hs => (hoo s hs).2) (hg1 hgd) hfo c.nd
          have : r = true := h2.2 (fun i k hi hk he => by
            have := hco i k hi hk (by
              rw [(hoo i hi).1, (hoo k hk).1] at he
              omega)
            rw [hZc]
            show ((crsP c.f c.t c.q c.nm c.nd (prt P) i : Nat) : Int) = ((crsP c.f c.t c.q c.nm c.nd (prt P) k : Nat) : Int)
            unfold crsP
            rw [this])
          exact ⟨by rw [h1, this], h3⟩
      have hst := ok.st
      have e1 : ((c.nd : Int) != (c.nd : Int)) = false := by simp
      rw [hst] at KC KS KN KO
      have hst9 := hst
      clear hC1 hC2 HC1 HS HSm HI HV HW HOne HF hc0 hin hin2 hT hpp hoo hZc hprt hcrl hCq hsta hg1 hg4 KV KW hb1 hb2 ok
      (go_wp2_with fail; (with_reducible refine (awake51_any _).mono ?_); rintro e w3 ⟨rfl, hb3⟩; have hb3z := Below.size hb3; (try simp only [ZA, ZS, ZD, ZN] at hb3z); have hb3c0 := fun o => below_at hb3 (w.heap.size) o (by first | omega | (simp only [ZA, ZS, ZD, ZN]; omega)); have hb3f0 := fun o => below_fr hb3 (w.heap.size) o (by first | omega | (simp only [ZA, ZS, ZD, ZN]; omega)))
      have hB3 : Below w.heap.size w w3 := hB2.trans (hb3.mono hB2.size)
      (go_wp2_with fail; (with_reducible refine (KC.out _ hB3).mono ?_); rintro e w4 ⟨⟨A4, c4, rfl, r4⟩, hb4⟩; have hb4z := Below.size hb4; (try simp only [ZA, ZS, ZD, ZN] at hb4z); have hb4c0 := fun o => below_at hb4 (w.heap.size) o (by first | omega | (simp only [ZA, ZS, ZD, ZN]; omega)); have hb4f0 := fun o => below_fr hb4 (w.heap.size) o (by first | omega | (simp only [ZA, ZS, ZD, ZN]; omega)))
      have hB4 : Below w.heap.size w w4 := hB3.trans (hb4.mono hB3.size)
      (go_wp2_with fail; (with_reducible refine (KR.out _ _ _ hB4 r4).mono ?_); rintro e w5 ⟨rfl, hb5⟩; have hb5z := Below.size hb5; (try simp only [ZA, ZS, ZD, ZN] at hb5z); have hb5c0 := fun o => below_at hb5 (w.heap.size) o (by first | omega | (simp only [ZA, ZS, ZD, ZN]; omega)); have hb5f0 := fun o => below_fr hb5 (w.heap.size) o (by first | omega | (simp only [ZA, ZS, ZD, ZN]; omega)))
      have r5 := r4.below hb5
      have hB5 : Below w.heap.size w w5 := hB4.trans (hb5.mono hB4.size)
      (go_wp2_with fail; (with_reducible refine (KS.out _ _ _ hB5 r5).mono ?_); rintro e w6 ⟨rfl, hb6⟩; have hb6z := Below.size hb6; (try simp only [ZA, ZS, ZD, ZN] at hb6z); have hb6c0 := fun o => below_at hb6 (w.heap.size) o (by first | omega | (simp only [ZA, ZS, ZD, ZN]; omega)); have hb6f0 := fun o => below_fr hb6 (w.heap.size) o (by first | omega | (simp only [ZA, ZS, ZD, ZN]; omega)))
      have r6 := r5.below hb6
      have hB6 : Below w.heap.size w w6 := hB5.trans (hb6.mono hB5.size)
      have h6a : Below w6.heap.size w6 (w6.alloc (.cells #[.int .i64 0, .int .i64 0] 38)) := (Below.refl _ _).alloc (Nat.le_refl _) _
      have hz6 : w.heap.size < w6.heap.size := by omega
      have HB6 := Lib.hid hB6
      have H6A := Lib.hid h6a
      have R6 := Lib.hid r6
      clear hB1 hB2 hB3 hB4 hB5 hB6 r4 r5 r6 h6a hb3 hb4 hb5 hb6 KC KR KS
      (have ooc := fun o i => below_at ((Below.refl w6.heap.size w6).alloc (Nat.le_refl _) o) (w.heap.size) i (by omega)); (have oof := fun o i => below_fr ((Below.refl w6.heap.size w6).alloc (Nat.le_refl _) o) (w.heap.size) i (by omega))
      (go_wp2_with fail; (with_reducible refine (KN.out _ _ _ (HB6.out.trans (H6A.out.mono (by omega))) (R6.out.below H6A.out)).mono ?_); rintro e w7 ⟨⟨A7, c7, rfl, r7⟩, hb7⟩; have hb7z := Below.size hb7; (try simp only [ZA, ZS, ZD, ZN] at hb7z); have hb7c0 := fun o => below_at hb7 (w.heap.size) o (by first | omega | (simp only [ZA, ZS, ZD, ZN]; omega)); have hb7f0 := fun o => below_fr hb7 (w.heap.size) o (by first | omega | (simp only [ZA, ZS, ZD, ZN]; omega)))
      have h67 : Below w6.heap.size w6 w7 := H6A.out.trans (hb7.mono (by simp))
      have r67 := R6.out.below h67
      have hB7 : Below w.heap.size w w7 := HB6.out.trans (h67.mono HB6.out.size)
      have R7 := Lib.hid r67
      have HB7 := Lib.hid hB7
      have KI := Lib.hid (ints_same (c := c7) (d := c4) r7 r67 (by omega))
      clear hb7 r7 h67 r67 hB7 KN
      (go_wp2_with fail; (with_reducible refine (KI.out).mono ?_); rintro e w8 ⟨rfl, hb8⟩; have hb8z := Below.size hb8; (try simp only [ZA, ZS, ZD, ZN] at hb8z); have hb8c0 := fun o => below_at hb8 (w.heap.size) o (by first | omega | (simp only [ZA, ZS, ZD, ZN]; omega)); have hb8f0 := fun o => below_fr hb8 (w.heap.size) o (by first | omega | (simp only [ZA, ZS, ZD, ZN]; omega)))
      have hB8 : Below w.heap.size w w8 := HB7.out.trans (hb8.mono HB7.out.size)
      have R8 := Lib.hid (R7.out.below hb8)
      have HB8 := Lib.hid hB8
      have hz8 : w.heap.size < w8.heap.size := by omega
      clear hb8 hB8 KI
      (go_wp2_with fail; (with_reducible refine (KO.out _ HB8.out).mono ?_); rintro e w9 ⟨rfl, hb9⟩; have hb9z := Below.size hb9; (try simp only [ZA, ZS, ZD, ZN] at hb9z); have hb9c0 := fun o => below_at hb9 (w.heap.size) o (by first | omega | (simp only [ZA, ZS, ZD, ZN]; omega)); have hb9f0 := fun o => below_fr hb9 (w.heap.size) o (by first | omega | (simp only [ZA, ZS, ZD, ZN]; omega)))
      have hB9 : Below w.heap.size w w9 := HB8.out.trans (hb9.mono HB8.out.size)
      have h9a : Below w9.heap.size w9 (w9.alloc (.cells #[.int .i64 (x : Int), .int .i64 (y : Int)] 38)) := (Below.refl _ _).alloc (Nat.le_refl _) _
      have R9 := Lib.hid ((R8.out.below hb9).below h9a)
      have HB9 := Lib.hid (hB9.trans (h9a.mono hB9.size))
      have H9A := Lib.hid h9a
      have HB99 := Lib.hid hB9
      clear hb9 hB9 h9a KO
      cases good with
      | false =>
        go_wp2
        go_ret
        exact ⟨rfl, HB9.out⟩
      | true =>
        (go_wp2_with fail; (with_reducible refine (KOP.out _ HB9.out).mono ?_); rintro e wa ⟨⟨r, rfl, hr⟩, hba⟩; have hbaz := Below.size hba; (try simp only [ZA, ZS, ZD, ZN] at hbaz))
        have hBa := HB9.out.trans (hba.mono HB9.out.size)
        have Ra := R9.out.below hba
        cases r with
        | false =>
          clear hr
          go_wp2
          go_ret
          exact ⟨rfl, hBa⟩
        | true =>
          have hz := hr.1 rfl
          have KF := Lib.hid (KOQ.out (by first | rfl | trivial) hz)
          clear hr hz
          (go_wp2_with fail; (with_reducible refine (KF.out _ _ _ hBa Ra).mono ?_); rintro e wb ⟨rfl, hbb⟩; have hbbz := Below.size hbb; (try simp only [ZA, ZS, ZD, ZN] at hbbz))
          go_wp2
          go_ret
          exact ⟨rfl, hBa.trans (hbb.mono hBa.size)⟩
end Go.Proofs.YtlncafhgmbhocaaGreatDoor
