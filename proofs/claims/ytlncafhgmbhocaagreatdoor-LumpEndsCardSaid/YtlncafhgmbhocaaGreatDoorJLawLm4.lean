/- Contracts of functions and lemmas, used by the proofs of the given statements. No condition beyond those that each lemma names. -/
import Derived.Test.YtlncafhgmbhocaaGreatDoorLawLm3
import Derived.Test.YtlncafhgmbhocaaGreatDoorJRatK
namespace Go.Proofs.YtlncafhgmbhocaaGreatDoor
open Go.RowKit
set_option linter.unusedSimpArgs false
set_option linter.unusedVariables false
set_option maxRecDepth 20000
/-! ## LumpPair -/
section
variable {F T : Nat → Nat} {q : Nat → Rat} {p : Nat → Nat}
/-- the difference of what two states send into the blocks, after k moves -/
def difK (F T : Nat → Nat) (q : Nat → Rat) (p : Nat → Nat) (x y k d : Nat) : Rat := intoQ F T q k p x d - intoQ F T q k p y d
theorem difK_0 {x y : Nat} : difK F T q p x y 0 = fun _ => 0 := by
  funext d
  unfold difK intoQ sumN
  grind
theorem difK_x {x y k : Nat} (hxy : x ≠ y) (h : F k = x) : difK F T q p x y (k + 1) = upd (difK F T q p x y k) (p (T k)) (difK F T q p x y k (p (T k)) + q k) := by
  funext d
  have hy : intoQ F T q (k + 1) p y d = intoQ F T q k p y d := into_no (fun e => hxy (h.symm.trans e.1))
  by_cases e : d = p (T k)
  · rw [e, upd_same]
    rw [e] at hy
    unfold difK
    rw [into_yes h rfl, hy]
    grind
  · rw [upd_ne _ _ e]
    unfold difK
    rw [hy, into_no (fun e2 => e e2.2.symm)]
theorem difK_y {x y k : Nat} (hxy : x ≠ y) (h : F k = y) : difK F T q p x y (k + 1) = upd (difK F T q p x y k) (p (T k)) (difK F T q p x y k (p (T k)) - q k) := by
  funext d
  have hx : intoQ F T q (k + 1) p x d = intoQ F T q k p x d := into_no (fun e => hxy (e.1.symm.trans h))
  by_cases e : d = p (T k)
  · rw [e, upd_same]
    rw [e] at hx
    unfold difK
    rw [into_yes h rfl, hx]
    grind
  · rw [upd_ne _ _ e]
    unfold difK
    rw [hx, into_no (fun e2 => e e2.2.symm)]
theorem difK_n {x y k : Nat} (h1 : F k ≠ x) (h2 : F k ≠ y) : difK F T q p x y (k + 1) = difK F T q p x y k := by
  funext d
  unfold difK
  rw [into_no (fun e => h1 e.1), into_no (fun e => h2 e.1)]
theorem difK_sz {nm Q : Nat} (h : Rts nm q Q) (x y d : Nat) {k : Nat} (hk : k ≤ nm) : Sz 400 (difK F T q p x y k d) := by
  have h1 := (into_fz (n := 0) (F := F) (T := T) (p := p) h x d k hk).sub (into_fz (n := 0) (F := F) (T := T) (p := p) h y d k hk)
  refine Sz.more (L := 20) (h1.sz h.ne (by omega) (lt_wp_more h.lt (by omega)) ?_) (by omega)
  have h2 : k * 4294967296 < wp 2 := Nat.lt_of_le_of_lt (Nat.mul_le_mul_right _ (by have := h.few; omega)) wp2b
  have h3 := wp_mul_lt h2 h.lt
  rw [Nat.mul_assoc] at h3
  have h4 := wp_mul_lt (show 2 < wp 1 by rw [wp_one]; omega) h3
  have e : k * (4294967296 * Q) + k * (4294967296 * Q) = 2 * (k * (4294967296 * Q)) := by omega
  rw [e]
  exact lt_wp_more h4 (by omega)
end
end Go.Proofs.YtlncafhgmbhocaaGreatDoor
namespace Go.Proofs.YtlncafhgmbhocaaGreatDoor
open Go.RowKit
set_option linter.unusedSimpArgs false
set_option linter.unusedVariables false
set_option maxRecDepth 20000
attribute [local irreducible] nv wp win plainB validR valR canR mvE chkM codeC smK alk badP nrm eqN eqZ blks memZ crsP itP rfn movB rateB difK
set_option maxHeartbeats 32000000 in
theorem lumpPair_law {w : World} {AM AD AV : Option Addr} {cm cd n ca : Nat} {c : Chn} {P : Nat → Int} (h : ChI w w.heap.size AM cm AD cd c) (hv : PaI w AV n P) :
    Calls Tryz.prog 4 #[cv c.st c.sr AM c.nm cm AD c.nd cd, .slice AV n ca] w fun e w' => e = .returned (.bool true) ∧ Below w.heap.size w w' := by
  have KV := Lib.hid (fun W (hb : Below w.heap.size w W) => valid51_any (ca := ca) (h.below hb) (hv.below hb))
  have HSm := Lib.hid (fun (hf : FewP c) => hf.small h)
  have HOne := Lib.hid (fun (hf : FewP c) (h0 : c.codeL n P = 0) (hn : n ≤ 1000) => stable_one (ca := ca) h (hf.small h) hv hn h0)
  have HMV := Lib.hid (fun (ok : c.Ok) W hb k hk => h.mv_later (W := W) ok hb (k := k) hk)
  have HVL := Lib.hid (fun W (hb : Below w.heap.size w W) k (hk : k < n) => hv.later hb hk)
  have hbA : Below w.heap.size w (w.alloc (.cells #[.int .i64 c.st, .int .i64 c.sr, .slice AM c.nm cm, .slice AD c.nd cd] 25)) := (Below.refl _ _).alloc (Nat.le_refl _) _
  have HBA := Lib.hid hbA
  clear h hv hbA
  go_enter Tryz.func4, Tryz.ntmps4
  (go_wp2_with fail; (with_reducible refine (KV.out _ HBA.out).mono ?_); rintro e w1 ⟨⟨bb, rfl, hbb⟩, hb1⟩; have hb1z := Below.size hb1; (try simp only [ZA, ZS, ZD, ZN] at hb1z); have hb1c0 := fun o => below_at hb1 (w.heap.size) o (by first | omega | (simp only [ZA, ZS, ZD, ZN]; omega)); have hb1f0 := fun o => below_fr hb1 (w.heap.size) o (by first | omega | (simp only [ZA, ZS, ZD, ZN]; omega)))
  have hB1 : Below w.heap.size w w1 := HBA.out.trans (hb1.mono (by simp))
  have hw1 : w.heap.size < w1.heap.size := by omega
  cases bb with
  | false =>
    clear hbb
    (go_wp2_with fail; (with_reducible refine (awake51_any _).mono ?_); rintro e w2 ⟨rfl, hb2⟩; have hb2z := Below.size hb2; (try simp only [ZA, ZS, ZD, ZN] at hb2z))
    go_wp2
    go_ret
    exact ⟨rfl, hB1.trans (hb2.mono hB1.size)⟩
  | true =>
    have hF := (hbb rfl).1
    have hC1 := (hbb rfl).2
    clear hbb
    have hS := HSm.out hF
    obtain ⟨hc0, hnn, hin⟩ := Chn.codeL_0 hC1
    have ok := Chn.ok_iff.1 hc0
    subst hnn
    have hnd := hF.nd
    have hnm := hF.nm
    have hpp := prt_is hin
    have hlo := ok.lo
    have hst := ok.st
    obtain ⟨good, x, y, -, hg2, -, hg4⟩ := HOne.out hF hC1 (by omega)
    have KO := Lib.hid hg4
    obtain ⟨p, hp⟩ : ∃ p, p = prt P := ⟨_, rfl⟩
    rw [← hp] at hg2 hpp
    have HMW := Lib.hid (HMV.out ok)
    have HSQ := Lib.hid (fun k hk => (hS.chS.siz ok).raw k hk)
    obtain ⟨bp, op, rfl, hbp, -⟩ := HVL.out w (Below.refl _ _) 0 (by omega)
    have HPL : Hid (∀ W, Below w.heap.size w W → ∀ k, k < c.nd → W.cell? ⟨bp, op + k, none⟩ = some (.int .i64 ((p k : Nat) : Int))) := fun W hb k hk => by
      obtain ⟨b', o', e, _, e2⟩ := HVL.out W hb k hk
      cases e
      rw [e2, (hpp k hk).1]
    have HPT : Hid (∀ k, k < c.nd → p k < c.nd) := fun k hk => (hpp k hk).2
    rw [hst] at KO
    have hst9 := hst
    clear hC1 HSm HOne HMV HVL hc0 hin hp hg4 KV hb1 hpp
    (go_wp2_with fail; (with_reducible refine (awake51_any _).mono ?_); rintro e w3 ⟨rfl, hb3⟩; have hb3z := Below.size hb3; (try simp only [ZA, ZS, ZD, ZN] at hb3z); have hb3c0 := fun o => below_at hb3 (w.heap.size) o (by first | omega | (simp only [ZA, ZS, ZD, ZN]; omega)); have hb3f0 := fun o => below_fr hb3 (w.heap.size) o (by first | omega | (simp only [ZA, ZS, ZD, ZN]; omega)))
    have hB3 : Below w.heap.size w w3 := hB1.trans (hb3.mono hB1.size)
    (go_wp2_with fail; (with_reducible refine (KO.out _ hB3).mono ?_); rintro e w4 ⟨rfl, hb4⟩; have hb4z := Below.size hb4; (try simp only [ZA, ZS, ZD, ZN] at hb4z); have hb4c0 := fun o => below_at hb4 (w.heap.size) o (by first | omega | (simp only [ZA, ZS, ZD, ZN]; omega)); have hb4f0 := fun o => below_fr hb4 (w.heap.size) o (by first | omega | (simp only [ZA, ZS, ZD, ZN]; omega)))
    have hB4 : Below w.heap.size w w4 := hB3.trans (hb4.mono hB3.size)
    cases good with
    | true =>
      go_wp2
      go_ret
      exact ⟨rfl, (by have z0 := Below.size hB4; (try simp only [ZA, ZS, ZD, ZN] at z0 ⊢; skip); repeat' (first | (with_reducible exact Below.refl _ _) | (with_reducible assumption) | (with_reducible refine Below.alloc ?_ ?_ _) | (with_reducible refine Below.drew ?_) | (with_reducible refine below_drewN ?_ _) | (with_reducible refine Below.setCell ?_ ?_ _) | (with_reducible refine Below.trans ?_ (Below.mono (by with_reducible assumption) ?_)) | omega | (simp only [ZA, ZS, ZD, ZN]; omega) | go_size))⟩
    | false =>
      have hpr := hg2 (by first | rfl | trivial)
      clear hg2
      rcases hpr with ⟨h, -⟩ | ⟨-, hxy, hyn, hbd, -⟩
      · cases h
      · have hbd2 : p x = p y ∧ alk c.f c.t c.q c.nm c.nd p x y = false := by
          unfold badP at hbd
          rw [Bool.and_eq_true] at hbd
          exact ⟨by simpa using hbd.1, by simpa using hbd.2⟩
        obtain ⟨hpe, halk⟩ := hbd2
        have hdif : ∃ d, d < c.nd ∧ d ≠ p x ∧ difK c.f c.t c.q p x y c.nm d ≠ 0 := by
          apply Classical.byContradiction
          intro hno
          have : alk c.f c.t c.q c.nm c.nd p x y = true := alk_iff.2 fun d hd hne => by
            apply Classical.byContradiction
            intro hne2
            refine hno ⟨d, hd, hne, fun e => hne2 ?_⟩
            unfold difK at e
            grind
          rw [this] at halk
          cases halk
        have HDF := Lib.hid hdif
        obtain ⟨S, hSS⟩ : ∃ S : Nat → Nat → Rat, S = difK c.f c.t c.q p x y := ⟨_, rfl⟩
        rw [← hSS] at HDF
        have hne : x ≠ y := by omega
        have HSZ : Hid (∀ k, k ≤ c.nm → ∀ d, Sz 400 (S k d)) := fun k hk d => by rw [hSS]; exact difK_sz (hS.rts ok) x y d hk
        have HS0 : Hid (S 0 = fun _ => 0) := by rw [hSS]; exact difK_0
        have HSX : Hid (∀ k, c.f k = x → S (k + 1) = upd (S k) (p (c.t k)) (S k (p (c.t k)) + c.q k)) := fun k e => by rw [hSS]; exact difK_x hne e
        have HSY : Hid (∀ k, c.f k = y → S (k + 1) = upd (S k) (p (c.t k)) (S k (p (c.t k)) - c.q k)) := fun k e => by rw [hSS]; exact difK_y hne e
        have HSN : Hid (∀ k, c.f k ≠ x → c.f k ≠ y → S (k + 1) = S k) := fun k e1 e2 => by rw [hSS]; exact difK_n e1 e2
        have HPE := Lib.hid hpe
        have hbpl : bp < w4.heap.size := by have := hB4.size; omega
        have hz4 : w.heap.size < w4.heap.size := by omega
        have HB4 := Lib.hid hB4
        clear hSS hdif hbd halk hpe ok hS hF hB1 hB3 hB4 hst hb3 hb4
        obtain ⟨W6, hW6⟩ : ∃ W6, W6 = w4.alloc (.cells #[.int .i64 (x : Int), .int .i64 (y : Int)] 38) := ⟨_, rfl⟩
        have h46 : Below w4.heap.size w4 W6 := by rw [hW6]; exact (Below.refl _ _).alloc (Nat.le_refl _) _
        have hz6 : w4.heap.size < W6.heap.size := by rw [hW6]; simp
        have c0 : W6.cell? ⟨w4.heap.size, 0, none⟩ = some (.int .i64 (x : Int)) := by rw [hW6]; simp
        have c1 : W6.cell? ⟨w4.heap.size, 1, none⟩ = some (.int .i64 (y : Int)) := by rw [hW6]; simp
        have H46 := Lib.hid h46
        have x0 := fun z : Sub W6 => z.cell c0
        have x1 := fun z : Sub W6 => z.cell c1
        go_wp2
        rw [← hW6]
        clear hW6 c0 c1 h46
        ((refine wp_region_quiet_bel (by kernel_rfl) (by kernel_rfl) ?_); (repeat (go_big_quiet_step (fail))); (refine wpQuiet_nil ?_); rintro w7 ⟨⟨_, hb7⟩, rfl⟩; (try dsimp only))
        have h47 : Below w4.heap.size w4 w7 := H46.out.trans (hb7.mono H46.out.size)
        have hbw7 := HB4.out.trans (h47.mono HB4.out.size)
        have y0 : w4.cell? ⟨w.heap.size, 0, none⟩ = some (.int .i64 (c.nd : Int)) := by rw [hb4c0, hb3c0, hb1c0, World.cell?_alloc_at _ _ _ _ rfl, ← hst9]; rfl
        have y2 : w4.cell? ⟨w.heap.size, 2, none⟩ = some (.slice AM c.nm cm) := by rw [hb4c0, hb3c0, hb1c0, World.cell?_alloc_at _ _ _ _ rfl]; rfl
        have q0 := (h47.cell (p := ⟨w.heap.size, 0, none⟩) hz4).trans y0
        have q2 := (h47.cell (p := ⟨w.heap.size, 2, none⟩) hz4).trans y2
        have g0 := HPL.out w7 hbw7 x (by omega)
        have g1 := HPL.out w7 hbw7 y hyn
        rw [← HPE.out] at g1
        obtain ⟨z, hz⟩ : ∃ z, z = p x := ⟨_, rfl⟩
        rw [← hz] at g0 g1
        have HZ := Lib.hid hz
        have hz7 : w.heap.size < w7.heap.size := by have := h47.size; omega
        have hbp7 : bp < w7.heap.size := by have := h47.size; omega
        have x0 := fun z : Sub w7 => z.cell q0
        have x1 := fun z : Sub w7 => z.cell g0
        have x2 := fun z : Sub w7 => z.cell g1
        have ez : ((z : Int) != (z : Int)) = false := by simp
        have a1 : decide ((x : Int) < 0) = false := by simp
        have a2 : decide ((y : Int) ≤ (x : Int)) = false := by simp; omega
        have a3 : decide ((c.nd : Int) ≤ (y : Int)) = false := by simp; omega
        have a4 : decide (y ≤ x) = false := by simp; omega
        have a5 : decide (c.nd ≤ y) = false := by simp; omega
        have b1 : (x : Int) < (c.nd : Int) := by omega
        have b2 : (y : Int) < (c.nd : Int) := by omega
        have b3 : (0 : Int) ≤ (x : Int) := by omega
        have b4 : (0 : Int) ≤ (y : Int) := by omega
        have HB7 := Lib.hid hbw7
        have Q2 := Lib.hid q2
        have Q0 := Lib.hid q0
        have G0 := Lib.hid g0
        clear hb7 h47 hbw7 q0 q2 g0 g1 hz hb1c0 hb3c0 hb4c0 hb1f0 hb3f0 hb4f0 y0 y2
        go_wp2
        ((refine wp_region_quiet_bel (by kernel_rfl) (by kernel_rfl) ?_); (repeat (go_big_quiet_step (fail))); (refine wpQuiet_nil ?_); rintro w8 ⟨⟨_, hb8⟩, rfl⟩; (try dsimp only))
        have q0 := (hb8.cell (p := ⟨w.heap.size, 0, none⟩) hz7).trans Q0.out
        have q2 := (hb8.cell (p := ⟨w.heap.size, 2, none⟩) hz7).trans Q2.out
        have g0 := (hb8.cell (p := ⟨bp, op + x, none⟩) hbp7).trans G0.out
        have HB8 := Lib.hid (HB7.out.trans (hb8.mono HB7.out.size))
        have hz8 : w.heap.size < w8.heap.size := by have := hb8.size; omega
        have hbp8 : bp < w8.heap.size := by have := hb8.size; omega
        clear hb8 x0 x1 x2 a1 a2 a3 a4 a5
        trace "X"
        go_wp2_with (first | (at_make; refine wpList_makeR rfl (.tmp 67) (.tmp 67) rfl w8.heap.size c.nd (c.nd : Int) (c.nd : Int) (by first | rfl | simp [Act.eval]) (by first | rfl | simp [Act.eval]) rfl rfl (by omega) (by omega) ?_; intro w9 own9 hb9; (have q2' := (hb9.cell (p := ⟨w.heap.size, 2, none⟩) hz8).trans q2)) | fail)
        have HO9 := Lib.hid (show OwR w9 w8.heap.size (some ⟨w8.heap.size, 0, none⟩) c.nd c.nd (can (S 0)) from by rw [HS0.out]; exact own9)
        have HB9 := Lib.hid hb9
        clear own9 hb9 q0 q2 g0 q2'
        go_loopw [72] (fun i wr => ∃ k : Nat, k ≤ c.nm ∧ i = .int .i64 (k : Int) ∧ OwR wr w8.heap.size (some ⟨w8.heap.size, 0, none⟩) c.nd c.nd (can (S k)) ∧ Below w8.heap.size w8 wr) (fun i _ => c.nm - (intOf i).toNat)
        case atStart => exact ⟨0, Nat.zero_le _, rfl, HO9.out, HB9.out⟩
        case round =>
          clear HO9 HB9
          obtain ⟨k, hk, rfl, own, hb⟩ := hrel
          have hzr := hb.size
          have hbw := HB8.out.trans (hb.mono HB8.out.size)
          have hgl := own.lt
          by_cases hlt : k < c.nm
          · obtain ⟨bm, om, s1, A1, n1, c1, B1, m1, d1, rfl, hbm, g0, g1, g2, g3, g4, r1, hfn, htn, hft⟩ := HMW.out wr hbw k hlt
            have pt := HPL.out wr hbw _ htn
            have hel := HPT.out _ htn
            obtain ⟨q1, q2⟩ := HSQ.out k hlt
            have qr : RdQ wr 400 (rv s1 A1 n1 c1 B1 m1 d1) (c.q k) := r1.rdq (L := 400) q1 q2
            obtain ⟨f, hf⟩ : ∃ f, f = c.f k := ⟨_, rfl⟩
            obtain ⟨tt, ht⟩ : ∃ tt, tt = c.t k := ⟨_, rfl⟩
            obtain ⟨q, hq⟩ : ∃ q, q = c.q k := ⟨_, rfl⟩
            rw [← hf] at g0 hfn
            rw [← ht] at g1 htn pt hel
            rw [← hq] at qr
            obtain ⟨e, he⟩ : ∃ e, e = p tt := ⟨_, rfl⟩
            rw [← he] at pt hel
            have hki : (k : Int) < (c.nm : Int) := by omega
            have hk0 : (0 : Int) ≤ (k : Int) := by omega
            have hti : (tt : Int) < (c.nd : Int) := by omega
            have ht0 : (0 : Int) ≤ (tt : Int) := by omega
            have hei : (e : Int) < (c.nd : Int) := by omega
            have he0 : (0 : Int) ≤ (e : Int) := by omega
            have hbpr : bp < wr.heap.size := by omega
            have HO := Lib.hid own
            have HBR := Lib.hid hb
            have hal : Below wr.heap.size wr (wr.alloc (.cells #[.int .i64 (f : Int), .int .i64 (tt : Int), .bool s1, .slice A1 n1 c1, .slice B1 m1 d1] 46)) := (Below.refl _ _).alloc (Nat.le_refl _) _
            have HAL := Lib.hid hal
            have HEE := Lib.hid he
            clear hal hbw hb q1 q2 hft
            by_cases hfx : f = x
            ·
              have HE := Lib.hid (HSX.out k (by rw [← hf]; exact hfx))
              have HSk := Lib.hid (HSZ.out k hk)
              have e1 : ((f : Int) == (x : Int)) = true := by simp [hfx]
              have e2 : ((f : Int) == (y : Int)) = false := by simp; omega
              rw [show p (c.t k) = e by rw [← ht]; exact he.symm, ← hq] at HE
              clear hf ht hq he hfx hfn r1 own
              go_wp2
              generalize hwq : wr.alloc (.cells #[.int .i64 (f : Int), .int .i64 (tt : Int), .bool s1, .slice A1 n1 c1, .slice B1 m1 d1] 46) = wq at *
              have z0 : wq.cell? ⟨wr.heap.size, 0, none⟩ = some (.int .i64 (f : Int)) := by rw [← hwq]; simp
              have z1 : wq.cell? ⟨wr.heap.size, 1, none⟩ = some (.int .i64 (tt : Int)) := by rw [← hwq]; simp
              have z2 : wq.cell? ⟨wr.heap.size, 2, none⟩ = some (.bool s1) := by rw [← hwq]; simp
              have z3 : wq.cell? ⟨wr.heap.size, 3, none⟩ = some (.slice A1 n1 c1) := by rw [← hwq]; simp
              have z4 : wq.cell? ⟨wr.heap.size, 4, none⟩ = some (.slice B1 m1 d1) := by rw [← hwq]; simp
              have hwz : wq.heap.size = wr.heap.size + 1 := by rw [← hwq]; simp
              have hAL := HAL.out
              have pt' := (hAL.cell (p := ⟨bp, op + tt, none⟩) hbpr).trans pt
              have hown := HO.out.below hAL
              obtain ⟨s0, A3, n3', c3', B3, m3, d3, o0, o1, o2, r0⟩ := hown.at_ hel
              have qd := (show RdS wq _ _ (canR (S k e)) from r0).canQ (HSk.out e)
              have qr2 := qr.below hAL
              have KA := Lib.hid (fun W (hb : Below wq.heap.size wq W) => addQ (qd.below hb) (qr2.below hb) (by omega) (by omega))
              have hfz := hown.frozen
              have HOn := Lib.hid hown
              have HAL2 := Lib.hid hAL
              clear hown r0 qd qr qr2 hwq pt HAL hAL
              have ne1 : ¬ (w8.heap.size = wr.heap.size) := by omega
              have ne2 : ¬ (wr.heap.size = w8.heap.size) := by omega
              have ne3 : ¬ (w8.heap.size = bp) := by omega
              have ne4 : ¬ (bp = w8.heap.size) := by omega
              rw [ld_later 44 (.tmp 92)]
              go_region_held3 (fun W => W.cell? ⟨wr.heap.size, 1, none⟩ = some (.int .i64 (tt : Int)) ∧ W.cell? ⟨wr.heap.size, 2, none⟩ = some (.bool s1) ∧ W.cell? ⟨wr.heap.size, 3, none⟩ = some (.slice A1 n1 c1) ∧ W.cell? ⟨wr.heap.size, 4, none⟩ = some (.slice B1 m1 d1) ∧ W.cell? ⟨bp, op + tt, none⟩ = some (.int .i64 (e : Int))) (go_keep)
                (first | ((go_at_call 18; (with_reducible refine (KA.out _ (by (skip); repeat' (first | (with_reducible exact Below.refl _ _) | (with_reducible assumption) | (with_reducible refine Below.alloc ?_ ?_ _) | (with_reducible refine Below.drew ?_) | (with_reducible refine below_drewN ?_ _) | (with_reducible refine Below.setCell ?_ ?_ _) | (with_reducible refine Below.trans ?_ (Below.mono (by with_reducible assumption) ?_)) | omega | (simp only [ZA, ZS, ZD, ZN]; omega) | go_size))).mono ?_); rintro e w6 ⟨⟨v4, rfl, own4⟩, hb6⟩; have hb6z := Below.size hb6; (try simp only [ZA, ZS, ZD] at hb6z); have hb6c0 := fun o => below_at hb6 (w8.heap.size) o (by first | omega | (simp only [ZA, ZS, ZD]; omega)); have hb6f0 := fun o => below_fr hb6 (w8.heap.size) o (by first | omega | (simp only [ZA, ZS, ZD]; omega)); have hb6l0 : w8.heap.size < (w6).heap.size := (by omega); have hb6c1 := fun o => below_at hb6 (wr.heap.size) o (by first | omega | (simp only [ZA, ZS, ZD]; omega)); have hb6f1 := fun o => below_fr hb6 (wr.heap.size) o (by first | omega | (simp only [ZA, ZS, ZD]; omega)); have hb6l1 : wr.heap.size < (w6).heap.size := (by omega); have hb6c2 := fun o => below_at hb6 (bp) o (by first | omega | (simp only [ZA, ZS, ZD]; omega)); have hb6f2 := fun o => below_fr hb6 (bp) o (by first | omega | (simp only [ZA, ZS, ZD]; omega)); have hb6l2 : bp < (w6).heap.size := (by omega)); obtain ⟨s4, A5, n5, c5, B5, m5, d5, rfl⟩ := own4.form) | fail)
              all_goals
                have hb9 : Below wq.heap.size wq w6 := (by have z0 := Below.size hb6; (try simp only [ZA, ZS, ZD, ZN] at z0 ⊢; skip); repeat' (first | (with_reducible exact Below.refl _ _) | (with_reducible assumption) | (with_reducible refine Below.alloc ?_ ?_ _) | (with_reducible refine Below.drew ?_) | (with_reducible refine below_drewN ?_ _) | (with_reducible refine Below.setCell ?_ ?_ _) | (with_reducible refine Below.trans ?_ (Below.mono (by with_reducible assumption) ?_)) | omega | (simp only [ZA, ZS, ZD, ZN]; omega) | go_size))
                have hst := (HOn.out.below hb9).set hel (own4.rs (b0 := w8.heap.size))
                have hs1 := hst.1.congr (U := can (S (k + 1))) (fun b _ => by
                  show upd (can (S k)) e (canR (S k e + q)) b = canR (S (k + 1) b)
                  rw [HE.out]
                  unfold upd
                  by_cases hbe : b = e
                  · rw [if_pos hbe, if_pos hbe]
                  · rw [if_neg hbe, if_neg hbe])
                have HF := Lib.hid hs1
                have y0 : w6.cell? ⟨wr.heap.size, 0, none⟩ = some (.int .i64 (f : Int)) := (hb9.cell (p := ⟨wr.heap.size, 0, none⟩) (by show wr.heap.size < _; omega)).trans z0
                have HBF := Lib.hid (((HBR.out.trans (HAL2.out.mono (by omega))).trans (hb9.mono (by omega))).trans (below_of_row hst.2 (fun j hj => by injection hj with hj; omega) (by have := hb9.size; omega)))
                clear hst hs1 hb9 hb6 own4
                go_wp2
                go_roundw
                case rel => exact ⟨k + 1, by omega, by go_num, HF.out, HBF.out⟩
                case measure => simp [intOf]; omega
            · have hfnx : f ≠ x := hfx
              clear hfx
              by_cases hfx : f = y
              ·
                have HE := Lib.hid (HSY.out k (by rw [← hf]; exact hfx))
                have HSk := Lib.hid (HSZ.out k hk)
                have e1 : ((f : Int) == (x : Int)) = false := by simp; omega
                have e2 : ((f : Int) == (y : Int)) = true := by simp [hfx]
                rw [show p (c.t k) = e by rw [← ht]; exact he.symm, ← hq] at HE
                clear hf ht hq he hfx hfn r1 own
                go_wp2
                generalize hwq : wr.alloc (.cells #[.int .i64 (f : Int), .int .i64 (tt : Int), .bool s1, .slice A1 n1 c1, .slice B1 m1 d1] 46) = wq at *
                have z0 : wq.cell? ⟨wr.heap.size, 0, none⟩ = some (.int .i64 (f : Int)) := by rw [← hwq]; simp
                have z1 : wq.cell? ⟨wr.heap.size, 1, none⟩ = some (.int .i64 (tt : Int)) := by rw [← hwq]; simp
                have z2 : wq.cell? ⟨wr.heap.size, 2, none⟩ = some (.bool s1) := by rw [← hwq]; simp
                have z3 : wq.cell? ⟨wr.heap.size, 3, none⟩ = some (.slice A1 n1 c1) := by rw [← hwq]; simp
                have z4 : wq.cell? ⟨wr.heap.size, 4, none⟩ = some (.slice B1 m1 d1) := by rw [← hwq]; simp
                have hwz : wq.heap.size = wr.heap.size + 1 := by rw [← hwq]; simp
                have hAL := HAL.out
                have pt' := (hAL.cell (p := ⟨bp, op + tt, none⟩) hbpr).trans pt
                have hown := HO.out.below hAL
                obtain ⟨s0, A3, n3', c3', B3, m3, d3, o0, o1, o2, r0⟩ := hown.at_ hel
                have qd := (show RdS wq _ _ (canR (S k e)) from r0).canQ (HSk.out e)
                have qr2 := qr.below hAL
                have KA := Lib.hid (fun W (hb : Below wq.heap.size wq W) => subQ (qd.below hb) (qr2.below hb) (by omega) (by omega))
                have hfz := hown.frozen
                have HOn := Lib.hid hown
                have HAL2 := Lib.hid hAL
                clear hown r0 qd qr qr2 hwq pt HAL hAL
                have ne1 : ¬ (w8.heap.size = wr.heap.size) := by omega
                have ne2 : ¬ (wr.heap.size = w8.heap.size) := by omega
                have ne3 : ¬ (w8.heap.size = bp) := by omega
                have ne4 : ¬ (bp = w8.heap.size) := by omega
                rw [ld_later 44 (.tmp 114)]
                go_region_held3 (fun W => W.cell? ⟨wr.heap.size, 1, none⟩ = some (.int .i64 (tt : Int)) ∧ W.cell? ⟨wr.heap.size, 2, none⟩ = some (.bool s1) ∧ W.cell? ⟨wr.heap.size, 3, none⟩ = some (.slice A1 n1 c1) ∧ W.cell? ⟨wr.heap.size, 4, none⟩ = some (.slice B1 m1 d1) ∧ W.cell? ⟨bp, op + tt, none⟩ = some (.int .i64 (e : Int))) (go_keep)
                  (first | ((go_at_call 19; (with_reducible refine (KA.out _ (by (skip); repeat' (first | (with_reducible exact Below.refl _ _) | (with_reducible assumption) | (with_reducible refine Below.alloc ?_ ?_ _) | (with_reducible refine Below.drew ?_) | (with_reducible refine below_drewN ?_ _) | (with_reducible refine Below.setCell ?_ ?_ _) | (with_reducible refine Below.trans ?_ (Below.mono (by with_reducible assumption) ?_)) | omega | (simp only [ZA, ZS, ZD, ZN]; omega) | go_size))).mono ?_); rintro e w6 ⟨⟨v4, rfl, own4⟩, hb6⟩; have hb6z := Below.size hb6; (try simp only [ZA, ZS, ZD] at hb6z); have hb6c0 := fun o => below_at hb6 (w8.heap.size) o (by first | omega | (simp only [ZA, ZS, ZD]; omega)); have hb6f0 := fun o => below_fr hb6 (w8.heap.size) o (by first | omega | (simp only [ZA, ZS, ZD]; omega)); have hb6l0 : w8.heap.size < (w6).heap.size := (by omega); have hb6c1 := fun o => below_at hb6 (wr.heap.size) o (by first | omega | (simp only [ZA, ZS, ZD]; omega)); have hb6f1 := fun o => below_fr hb6 (wr.heap.size) o (by first | omega | (simp only [ZA, ZS, ZD]; omega)); have hb6l1 : wr.heap.size < (w6).heap.size := (by omega); have hb6c2 := fun o => below_at hb6 (bp) o (by first | omega | (simp only [ZA, ZS, ZD]; omega)); have hb6f2 := fun o => below_fr hb6 (bp) o (by first | omega | (simp only [ZA, ZS, ZD]; omega)); have hb6l2 : bp < (w6).heap.size := (by omega)); obtain ⟨s4, A5, n5, c5, B5, m5, d5, rfl⟩ := own4.form) | fail)
                all_goals
                  have hb9 : Below wq.heap.size wq w6 := (by have z0 := Below.size hb6; (try simp only [ZA, ZS, ZD, ZN] at z0 ⊢; skip); repeat' (first | (with_reducible exact Below.refl _ _) | (with_reducible assumption) | (with_reducible refine Below.alloc ?_ ?_ _) | (with_reducible refine Below.drew ?_) | (with_reducible refine below_drewN ?_ _) | (with_reducible refine Below.setCell ?_ ?_ _) | (with_reducible refine Below.trans ?_ (Below.mono (by with_reducible assumption) ?_)) | omega | (simp only [ZA, ZS, ZD, ZN]; omega) | go_size))
                  have hst := (HOn.out.below hb9).set hel (own4.rs (b0 := w8.heap.size))
                  have hs1 := hst.1.congr (U := can (S (k + 1))) (fun b _ => by
                    show upd (can (S k)) e (canR (S k e - q)) b = canR (S (k + 1) b)
                    rw [HE.out]
                    unfold upd
                    by_cases hbe : b = e
                    · rw [if_pos hbe, if_pos hbe]
                    · rw [if_neg hbe, if_neg hbe])
                  have HF := Lib.hid hs1
                  have y0 : w6.cell? ⟨wr.heap.size, 0, none⟩ = some (.int .i64 (f : Int)) := (hb9.cell (p := ⟨wr.heap.size, 0, none⟩) (by show wr.heap.size < _; omega)).trans z0
                  have HBF := Lib.hid (((HBR.out.trans (HAL2.out.mono (by omega))).trans (hb9.mono (by omega))).trans (below_of_row hst.2 (fun j hj => by injection hj with hj; omega) (by have := hb9.size; omega)))
                  clear hst hs1 hb9 hb6 own4
                  go_wp2
                  go_roundw
                  case rel => exact ⟨k + 1, by omega, by go_num, HF.out, HBF.out⟩
                  case measure => simp [intOf]; omega

              · have HE := Lib.hid (HSN.out k (by rw [← hf]; exact hfnx) (by rw [← hf]; exact hfx))
                have e1 : ((f : Int) == (x : Int)) = false := by simp; omega
                have e2 : ((f : Int) == (y : Int)) = false := by simp; omega
                clear hf ht hq he hfx hfnx hfn r1 own qr
                go_wp2
                go_roundw
                case rel => exact ⟨k + 1, by omega, by go_num, by rw [HE.out]; exact HO.out.below HAL.out, HBR.out.trans (HAL.out.mono (by omega))⟩
                case measure => simp [intOf]; omega
          · have hkm : k = c.nm := by omega
            subst hkm
            have HO := Lib.hid own
            have HB := Lib.hid hb
            clear own hb
            go_wp2
            go_loopw [123] (fun j wr => ∃ d : Nat, d ≤ c.nd ∧ j = .int .i64 (d : Int) ∧ (∀ b, b < d → b ≠ z → S c.nm b = 0) ∧ OwR wr w8.heap.size (some ⟨w8.heap.size, 0, none⟩) c.nd c.nd (can (S c.nm)) ∧ Below w8.heap.size w8 wr) (fun j _ => c.nd - (intOf j).toNat)
            case atStart => exact ⟨0, Nat.zero_le _, rfl, fun b h => by omega, HO.out, HB.out⟩
            case round =>
              clear HO HB
              obtain ⟨d, hd, rfl, hall, own, hb⟩ := hrel
              have hzr := hb.size
              have hbw := HB8.out.trans (hb.mono HB8.out.size)
              by_cases hlt2 : d < c.nd
              · have pt := HPL.out wr hbw x (by omega)
                rw [← HZ.out] at pt
                obtain ⟨s0, A3, n3, c3', B3, m3, d3, o0, o1, o2, r0⟩ := own.at_ hlt2
                have R0 : RdS wr w8.heap.size (rv s0 A3 n3 c3' B3 m3 d3) (canR (S c.nm d)) := r0
                clear r0
                have KG := Lib.hid (fun W (hb : Below wr.heap.size wr W) => signQ ((R0.canQ (HSZ.out c.nm (Nat.le_refl _) d)).below hb) (by omega) (by omega))
                have hdi : (d : Int) < (c.nd : Int) := by omega
                have hd0 : (0 : Int) ≤ (d : Int) := by omega
                have hbpr : bp < wr.heap.size := by omega
                have hal : Below wr.heap.size wr (wr.alloc (.cells #[.bool s0, .slice A3 n3 c3', .slice B3 m3 d3] 44)) := (Below.refl _ _).alloc (Nat.le_refl _) _
                have HAL := Lib.hid hal
                have HOW := Lib.hid own
                have HALL := Lib.hid hall
                have HBR := Lib.hid hb
                have HBW9 := Lib.hid hbw
                (have ooc := fun o i => below_at ((Below.refl wr.heap.size wr).alloc (Nat.le_refl _) o) (bp) i (by omega)); (have oof := fun o i => below_fr ((Below.refl wr.heap.size wr).alloc (Nat.le_refl _) o) (bp) i (by omega))
                clear own hall hb R0 hal hbw
                by_cases hdz : d = z
                · have e1 : ((d : Int) != (z : Int)) = false := by simp [hdz]
                  have HDZ := Lib.hid hdz
                  clear hdz
                  go_wp2
                  go_roundw
                  case rel =>
                    refine ⟨d + 1, by omega, by go_num, fun b h1 h2 => ?_, HOW.out.below HAL.out, HBR.out.trans (HAL.out.mono (by omega))⟩
                    by_cases e : b = d
                    · exact absurd (e.trans HDZ.out) h2
                    · exact HALL.out b (by omega) h2
                  case measure => simp [intOf]; omega
                · have e1 : ((d : Int) != (z : Int)) = true := by rw [bne_iff_ne]; omega
                  clear hdz
                  by_cases hs0 : S c.nm d = 0
                  · have KG1 : Hid (∀ W, Below wr.heap.size wr W → Calls Tryz.prog 20 #[rv s0 A3 n3 c3' B3 m3 d3] W fun e w' => e = .returned (.int .i64 0) ∧ Below W.heap.size W w') := fun W hb => by
                      have := KG.out W hb
                      rw [hs0, show sgnQ 0 = 0 from rfl] at this
                      exact this
                    have HS0' := Lib.hid hs0
                    clear hs0 KG
                    (go_wp2_with fail; (with_reducible refine (KG1.out _ HAL.out).mono ?_); rintro e w6 ⟨rfl, hb6⟩; have hb6z := Below.size hb6; (try simp only [ZA, ZS, ZD, ZN] at hb6z))
                    have H6 := Lib.hid (HAL.out.trans (hb6.mono (by simp)))
                    clear hb6
                    go_wp2
                    go_roundw
                    case rel =>
                      refine ⟨d + 1, by omega, by go_num, fun b h1 h2 => ?_, HOW.out.below H6.out, HBR.out.trans (H6.out.mono (by omega))⟩
                      by_cases e : b = d
                      · rw [e]; exact HS0'.out
                      · exact HALL.out b (by omega) h2
                    case measure => simp [intOf]; omega
                  · have hsn : (sgnQ (S c.nm d) != 0) = true := by
                      rw [bne_iff_ne]
                      unfold sgnQ
                      rw [if_neg hs0]
                      split <;> omega
                    obtain ⟨sg, hsg⟩ : ∃ sg, sg = sgnQ (S c.nm d) := ⟨_, rfl⟩
                    rw [← hsg] at hsn
                    have KG1 : Hid (∀ W, Below wr.heap.size wr W → Calls Tryz.prog 20 #[rv s0 A3 n3 c3' B3 m3 d3] W fun e w' => e = .returned (.int .i64 sg) ∧ Below W.heap.size W w') := fun W hb => by
                      have := KG.out W hb
                      rw [← hsg] at this
                      exact this
                    clear hsg hs0 KG
                    (go_wp2_with fail; (with_reducible refine (KG1.out _ HAL.out).mono ?_); rintro e w6 ⟨rfl, hb6⟩; have hb6z := Below.size hb6; (try simp only [ZA, ZS, ZD, ZN] at hb6z))
                    go_wp2
                    go_ret
                    exact ⟨rfl, HBW9.out.trans ((HAL.out.trans (hb6.mono (by simp))).mono HBW9.out.size)⟩
              · exfalso
                obtain ⟨d', h1, h2, h3⟩ := HDF.out
                exact h3 (hall d' (by omega) (by rw [HZ.out]; exact h2))
end Go.Proofs.YtlncafhgmbhocaaGreatDoor
