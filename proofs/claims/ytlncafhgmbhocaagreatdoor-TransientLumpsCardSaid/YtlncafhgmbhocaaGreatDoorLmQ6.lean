/- Contracts of functions and lemmas, used by the proofs of the given statements. No condition beyond those that each lemma names. -/
import Derived.Test.YtlncafhgmbhocaaGreatDoorLmQ4
import Derived.Test.YtlncafhgmbhocaaGreatDoorJCmpI
namespace Go.Proofs.YtlncafhgmbhocaaGreatDoor
open Go.RowKit
set_option linter.unusedSimpArgs false
set_option linter.unusedVariables false
set_option maxRecDepth 20000
attribute [local irreducible] nv wp win plainB validR valR canR mvE chkM codeC smK alk badP nrm eqN eqZ blks firS isF cntB ixB kept dnK movP movB rateB
/-! ## package lump: Quotient of a stable partition -/
/-- the block of the result has been made -/
def OutP (w2 : World) (m z : Int) (p : Value) (wx : World) : Prop := ∃ o, p = .pointer (some ⟨o, 0, none⟩) ∧ w2.heap.size ≤ o ∧ OutB wx o m z none 0 0 none 0 0 ∧ Below w2.heap.size w2 wx
/-- what the answer is made of -/
theorem quo_ans {w : World} {c : Chn} {p : Nat → Nat} {b0 co d : Nat} {Ao AD : Option Addr} {P : Nat → Int} (hp : p = prt P) (h0 : c.codeQ c.nd P = 0) (hb : b0 ≤ w.heap.size)
    (hM : OwL w b0 Ao co (movB c.f c.t c.q c.nm c.nd (nrm (relP p)) (blks c.nd p)) (rateB c.f c.t c.q c.nm c.nd (nrm (relP p)))) (hD : OwB w 0 AD d (blks c.nd p) (fun b => c.D (ixB (isF (relP p)) c.nd b))) {v : Value} (hv : v = .nilIface) :
    AnsC errM (c.codeQ c.nd P) (c.quoE c.nd P) (.returned (.tuple #[cv (blks c.nd p : Nat) (nrm (relP p) c.sr.toNat : Nat) Ao (movB c.f c.t c.q c.nm c.nd (nrm (relP p)) (blks c.nd p)).length co AD (blks c.nd p) d, v])) w := by
  rw [Chn.quoE_0 h0, h0, hv]
  subst hp
  refine ⟨Ao, co, AD, d, rfl, ⟨?_, Rds.of_own hD, fun hn a ha => ?_, OwM.cap hM, ?_⟩⟩
  · exact (OwM.ra hM).mi hb
  · obtain ⟨b', off, e, hlt, _⟩ := (Rds.of_own hD).2 hn
    rw [e] at ha
    injection ha with ha
    subst ha
    exact hlt
  · rcases hD.2 with ⟨h, h2⟩ | ⟨g', cap, cur, e, _, _, h3, _⟩
    · show blks c.nd (prt P) ≤ d
      omega
    · injection e with _ _ e3
      show blks c.nd (prt P) ≤ d
      omega
theorem sgn_of {x : Rat} (h : 0 ≤ x) : (x = 0 ∧ sgnQ x = 0) ∨ (0 < x ∧ sgnQ x = 1) := by
  by_cases e : x = 0
  · left; subst e; exact ⟨rfl, by unfold sgnQ; rw [if_pos rfl]⟩
  · right
    have h1 : 0 < x := by grind
    exact ⟨h1, by unfold sgnQ; rw [if_neg e, if_neg (by grind)]⟩
set_option maxHeartbeats 64000000 in
theorem lQuo_ok {w : World} {AM AD AV : Option Addr} {cm cd ca : Nat} {c : Chn} {P : Nat → Int} (h : ChI w w.heap.size AM cm AD cd c) (hs : ChS c 400) (hv : PaI w AV c.nd P)
    (hsz : c.Ok → ∀ p k, k ≤ c.nm → ∀ i j, Sz 400 (smK c.f c.t c.q p k i j)) (h0 : c.codeL c.nd P = 0) (hst : StaB c.f c.t c.q c.nm c.nd (prt P)) :
    Calls Tryz.prog 12 #[cv c.st c.sr AM c.nm cm AD c.nd cd, .slice AV c.nd ca] w fun e w' => AnsC errM (c.codeQ c.nd P) (c.quoE c.nd P) e w' ∧ Below w.heap.size w w' := by
  obtain ⟨hc0, -, hin⟩ := Chn.codeL_0 h0
  have ok := Chn.ok_iff.1 hc0
  have hpp := prt_is hin
  have hn1 := ok.lo
  have hn2 := ok.hi
  have hstd := ok.st
  obtain ⟨p, hp⟩ : ∃ p, p = prt P := ⟨_, rfl⟩
  rw [← hp] at hst hpp
  have hE := relP_eqv p
  have hsr0 := ok.s0
  have hsr1 := ok.s1
  obtain ⟨s, hsr⟩ : ∃ s : Nat, c.sr = (s : Int) := ⟨c.sr.toNat, by omega⟩
  have hsl : s < c.nd := by omega
  have K1 : Hid (∀ W, Below w.heap.size w W → Calls Tryz.prog 17 #[cv c.st c.sr AM c.nm cm AD c.nd cd, .slice AV c.nd ca] W fun e w' => e = .returned (.tuple #[.bool true, .agg #[.int .i64 0, .int .i64 0], .nilIface]) ∧ Below W.heap.size W w') := fun W hb =>
    (lstable_any (ca := ca) (h.below hb) hs (hv.below hb) (by omega) hsz).mono fun e w' ⟨⟨ok, x, y, h1, h3, _⟩, h2⟩ => by
      have h5 := h3 h0
      have h4 := (pr_sta h5).2 (by rw [← hp]; exact hst)
      rcases h5 with ⟨g1, g2, g3, -⟩ | ⟨g1, -⟩
      · rw [g1, g2, g3, h0, errM_0] at h1
        exact ⟨h1, h2⟩
      · rw [g1] at h4; cases h4
  obtain ⟨m, hm⟩ : ∃ m, m = blks c.nd p := ⟨_, rfl⟩
  have hmc : m = cntB (isF (relP p)) c.nd := hm.trans (by unfold blks; rfl)
  have hm1 : m ≤ c.nd := by rw [hm]; exact blks_le
  have hm0 : 0 < m := by rw [hm]; exact blks_pos (by omega)
  obtain ⟨N, hN⟩ : ∃ N : Nat → Nat, N = nrm (relP p) := ⟨_, rfl⟩
  obtain ⟨fs, hfs⟩ : ∃ fs : Nat → Nat, fs = firS (relP p) := ⟨_, rfl⟩
  obtain ⟨ix, hix⟩ : ∃ ix : Nat → Nat, ix = ixB (isF (relP p)) c.nd := ⟨_, rfl⟩
  obtain ⟨S, hS⟩ : ∃ S : Mf, S = smK c.f c.t c.q N c.nm := ⟨_, rfl⟩
  obtain ⟨rt, hrt⟩ : ∃ rt : Nat → Nat → Rat, rt = rateB c.f c.t c.q c.nm c.nd N := ⟨_, rfl⟩
  obtain ⟨L, hL⟩ : ∃ L : Nat → Nat → List (Nat × Nat), L = movP c.f c.t c.q c.nm c.nd N m := ⟨_, rfl⟩
  obtain ⟨DK, hDK⟩ : ∃ DK : Nat → Nat → Bool, DK = dnK c.D (relP p) c.nd := ⟨_, rfl⟩
  obtain ⟨D, hD⟩ : ∃ D : Nat → Bool, D = c.D := ⟨_, rfl⟩
  have HNL : Hid (∀ i, i < c.nd → N i < m) := fun i hi => by rw [hN, hmc]; exact nrm_lt hE hi
  have HFL : Hid (∀ i, i < c.nd → fs i < c.nd) := fun i hi => by rw [hfs]; exact fir_lt hE hi
  have HIL : Hid (∀ b, b < m → ix b < c.nd) := fun b hb => by rw [hix]; exact (ixB_lt (by rw [← hmc]; exact hb)).1
  have HSZ : Hid (∀ i j, Sz 400 (S i j)) := by rw [hS]; exact fun i j => hsz ok N c.nm (Nat.le_refl _) i j
  have HSR : Hid (∀ b t, b < m → S (ix b) t = if t = b then 0 else rt b t) := fun b t hb => by
    rw [hS, hix, hrt, hN]
    exact row_rate hE (by rw [← hmc]; exact hb)
  have HRN : Hid (∀ b t, 0 ≤ rt b t) := by
    rw [hrt]
    exact fun b t => rateB_nn (fun k hk => Rat.le_of_lt (ok.mv k hk).2.2.2.2.2.1) b t
  have HL0 : Hid (L 0 0 = []) := by rw [hL]; exact movP_0
  have HLR : Hid (∀ b, L b m = L (b + 1) 0) := by rw [hL]; exact fun b => movP_row
  have HLY : Hid (∀ b t, b ≠ t → rt b t ≠ 0 → L b (t + 1) = L b t ++ [(b, t)]) := by rw [hL, hrt]; exact fun b t h1 h2 => movP_yes ⟨h1, h2⟩
  have HLN : Hid (∀ b t, ¬ (b ≠ t ∧ rt b t ≠ 0) → L b (t + 1) = L b t) := by rw [hL, hrt]; exact fun b t h1 => movP_no h1
  have HLB : Hid (∀ b t, b < m → t ≤ m → (L b t).length ≤ 65536) := by rw [hL]; exact fun b t h1 h2 => movP_bd (by omega) h1 h2
  have HLE : Hid (L m 0 = movB c.f c.t c.q c.nm c.nd N m) := by rw [hL]; exact movP_end
  have HD0 : Hid (DK 0 = fun _ => false) := by rw [hDK]; exact dnK_0
  have HDS : Hid (∀ k, k < c.nd → D k = D (fs k) → upd (DK k) (N k) (D k) = DK (k + 1)) := by rw [hDK, hN, hD, hfs]; exact fun k hk e => dnK_step hE hk e
  have HDE : Hid (∀ b, b < m → DK c.nd b = D (ix b)) := by
    rw [hDK, hix, hD]
    intro b hb
    unfold dnK
    rw [if_pos (by rw [← hmc]; exact hb)]
  have HQ7 : Hid (∀ k, k < c.nd → D k ≠ D (fs k) → c.codeQ c.nd P = 7) := by
    rw [hD, hfs]
    exact fun k hk e => Chn.codeQ_7 h0 (by rw [← hp]; exact hst) (fun ho => e (by rw [← hp] at ho; exact ho k hk))
  have HQ0 : Hid ((∀ k, k < c.nd → D k = D (fs k)) → c.codeQ c.nd P = 0) := by
    rw [hD, hfs]
    exact fun e => Chn.codeQ_z h0 (by rw [← hp]; exact hst) (by rw [← hp]; exact e)
  have HQX := Lib.hid (fun (e : c.codeQ c.nd P = 7) => Chn.quoE_n (c := c) (n := c.nd) (P := P) (by rw [e]; omega))
  have HSO : Hid (∀ i j, i < j → j < (L m 0).length → ((((L m 0).getD i (0, 0)).1 : Nat) : Int) < ((((L m 0).getD j (0, 0)).1 : Nat) : Int) ∨ ((((L m 0).getD i (0, 0)).1 : Nat) : Int) = ((((L m 0).getD j (0, 0)).1 : Nat) : Int) ∧ ((((L m 0).getD i (0, 0)).2 : Nat) : Int) < ((((L m 0).getD j (0, 0)).2 : Nat) : Int)) := by
    rw [HLE.out]
    intro i j hij hj
    have := List.pairwise_iff_getElem.1 (movB_sorted (F := c.f) (T := c.t) (q := c.q) (nm := c.nm) (n := c.nd) (p := N) m) i j (by omega) hj hij
    rw [List.getD_eq_getElem?_getD, List.getD_eq_getElem?_getD, List.getElem?_eq_getElem hj, List.getElem?_eq_getElem (Nat.lt_trans hij hj)]
    unfold lexP at this
    simp only [Option.getD_some]
    omega
  obtain ⟨Z, hZ⟩ : ∃ Z : Nat → Int, Z = fun i => ((N i : Nat) : Int) := ⟨_, rfl⟩
  have HZE : Hid (∀ i, Z i = ((N i : Nat) : Int)) := by rw [hZ]; exact fun _ => rfl
  have K2 : Hid (∀ W, Below w.heap.size w W → Calls Tryz.prog 38 #[.slice AV c.nd ca] W fun e w' => (∃ A' c', e = .returned (.slice A' c.nd c') ∧ PaI w' A' c.nd Z) ∧ Below W.heap.size W w') := fun W hb =>
    (lmNorm_any (c := ca) (hv.below hb) (fun i hi => (hpp i hi).1) (by omega)).mono fun e w' ⟨⟨A', c', e1, e2⟩, e3⟩ => ⟨⟨A', c', e1, by rw [hZ, hN]; exact e2.pa⟩, e3⟩
  obtain ⟨x, hx⟩ : ∃ x : Int, x + 1 = (m : Int) := ⟨(m : Int) - 1, by omega⟩
  have KM : Hid (∀ W A c', PaI W A c.nd Z → Calls Tryz.prog 39 #[.slice A c.nd c'] W fun e w' => e = .returned (.int .i64 x) ∧ Below W.heap.size W w') := fun W A c' hA =>
    (slMax_any hA (by omega) (by omega)).mono fun e w' ⟨⟨y, e1, e2⟩, e3⟩ => by
      rw [hZ, hN] at e2
      have := max_blk hE e2
      rw [← hmc] at this
      exact ⟨by rw [e1, show y = x by omega], e3⟩
  have KI1 : Hid (∀ W A c' k, PaI W A c.nd Z → k < c.nd → Calls Tryz.prog 40 #[.slice A c.nd c', .int .i64 ((N k : Nat) : Int)] W fun e w' => e = .returned (.int .i64 ((fs k : Nat) : Int)) ∧ Below W.heap.size W w') := fun W A c' k hA hk =>
    (lmIndex_any hA (by omega) _).mono fun e w' ⟨⟨r, e1, e2⟩, e3⟩ => by
      rw [hZ, hN] at e2
      exact ⟨by rw [e1, hfs, idx_fir hE hk rfl e2], e3⟩
  have KI2 : Hid (∀ W A c' b, PaI W A c.nd Z → b < m → Calls Tryz.prog 40 #[.slice A c.nd c', .int .i64 ((b : Nat) : Int)] W fun e w' => e = .returned (.int .i64 ((ix b : Nat) : Int)) ∧ Below W.heap.size W w') := fun W A c' b hA hb =>
    (lmIndex_any hA (by omega) _).mono fun e w' ⟨⟨r, e1, e2⟩, e3⟩ => by
      rw [hZ, hN] at e2
      exact ⟨by rw [e1, hix, idx_ix hE (by rw [← hmc]; exact hb) rfl e2], e3⟩
  have KS : Hid (∀ W A c', Below w.heap.size w W → PaI W A c.nd Z → Calls Tryz.prog 41 #[cv c.st c.sr AM c.nm cm AD c.nd cd, .slice A c.nd c'] W fun e w' => (e = .returned (.slice (some ⟨W.heap.size + 1, 0, none⟩) c.nd c.nd) ∧ MatG w' (W.heap.size + 1) (W.heap.size + 1) c.nd c.nd (fun _ => c.nd) S) ∧ Below W.heap.size W w') := fun W A c' hb hA => by
    rw [hS]
    exact lsumsG_any (p := N) (h.below hb) ok hs hA (fun i _ => by rw [hZ]) (fun i hi => Nat.lt_of_lt_of_le (HNL.out i hi) hm1) (fun k hk i j => hsz ok N k hk i j)
  have HFIN : Hid (∀ W b0 Ao co d A9, c.codeQ c.nd P = 0 → b0 ≤ W.heap.size → OwL W b0 Ao co (L m 0) rt → OwB W 0 A9 d m (fun b => D (ix b)) → AnsC errM (c.codeQ c.nd P) (c.quoE c.nd P) (.returned (.tuple #[cv (m : Int) (Z s) Ao (L m 0).length co A9 m d, .nilIface])) W) := by
    intro W b0 Ao co d A9 g0 g1 g2 g3
    have e1 : Z s = ((nrm (relP p) c.sr.toNat : Nat) : Int) := by rw [hZ, hN, hsr]; rfl
    rw [HLE.out] at g2 ⊢
    rw [e1]
    rw [hN] at g2 ⊢
    rw [hrt, hN] at g2
    rw [hix, hD] at g3
    rw [hm] at g2 g3 ⊢
    exact quo_ans hp g0 g1 g2 g3 rfl
  have HDN := Lib.hid (fun k (hk : k < c.nd) => (by
    obtain ⟨b, off, e, e1, -, e2⟩ := h.down hk
    exact ⟨b, off, e, e1, by rw [hD]; exact e2⟩ : ∃ b off, AD = some ⟨b, off, none⟩ ∧ b < w.heap.size ∧ w.cell? ⟨b, off + k, none⟩ = some (.bool (D k))))
  have hcd := h.cd
  obtain ⟨bd, od, rfl, hbd, -⟩ := HDN.out 0 (by omega)
  have HDC : Hid (∀ W, Below w.heap.size w W → ∀ k, k < c.nd → W.cell? ⟨bd, od + k, none⟩ = some (.bool (D k))) := fun W hb k hk => by
    obtain ⟨b', off', e, hlt, e2⟩ := HDN.out k hk
    cases e
    exact (hb.cell (p := ⟨bd, od + k, none⟩) hlt).trans e2
  rw [hsr, hstd] at K1 KS
  rw [hsr, hstd]
  clear HDN h hs hv hsz h0 hst hp hpp hE hin hc0 ok hm hmc hN hfs hix hS hrt hL hDK hD hZ hsr hstd hsr0 hsr1
  go_enter Tryz.func12, Tryz.ntmps12
  (go_wp2_with fail; (with_reducible refine (K1.out _ (by (skip); repeat' (first | (with_reducible exact Below.refl _ _) | (with_reducible assumption) | (with_reducible refine Below.alloc ?_ ?_ _) | (with_reducible refine Below.drew ?_) | (with_reducible refine below_drewN ?_ _) | (with_reducible refine Below.setCell ?_ ?_ _) | (with_reducible refine Below.trans ?_ (Below.mono (by with_reducible assumption) ?_)) | omega | (simp only [ZA, ZS, ZD, ZN]; omega) | go_size))).mono ?_); rintro e w1 ⟨rfl, hb1⟩; have hb1z := Below.size hb1; (try simp only [ZA, ZS, ZD, ZN] at hb1z); have hb1c0 := fun o => below_at hb1 (w.heap.size) o (by first | omega | (simp only [ZA, ZS, ZD, ZN]; omega)); have hb1f0 := fun o => below_fr hb1 (w.heap.size) o (by first | omega | (simp only [ZA, ZS, ZD, ZN]; omega)); have hb1c1 := fun o => below_at hb1 (w.heap.size + 1) o (by first | omega | (simp only [ZA, ZS, ZD, ZN]; omega)); have hb1f1 := fun o => below_fr hb1 (w.heap.size + 1) o (by first | omega | (simp only [ZA, ZS, ZD, ZN]; omega)))
  have hB1 : Below w.heap.size w w1 := (((Below.refl _ _).alloc (Nat.le_refl _) _).alloc (by simp) _).trans (hb1.mono (by simp; omega))
  have y0 : w1.cell? ⟨w.heap.size, 0, none⟩ = some (.int .i64 (c.nd : Int)) := by rw [hb1c0, World.cell?_alloc_past _ _ _ (by simp), World.cell?_alloc_at _ _ _ _ rfl]; rfl
  have y1 : w1.cell? ⟨w.heap.size, 1, none⟩ = some (.int .i64 (s : Int)) := by rw [hb1c0, World.cell?_alloc_past _ _ _ (by simp), World.cell?_alloc_at _ _ _ _ rfl]; rfl
  have y2 : w1.cell? ⟨w.heap.size, 2, none⟩ = some (.slice AM c.nm cm) := by rw [hb1c0, World.cell?_alloc_past _ _ _ (by simp), World.cell?_alloc_at _ _ _ _ rfl]; rfl
  have y3 : w1.cell? ⟨w.heap.size, 3, none⟩ = some (.slice (some ⟨bd, od, none⟩) c.nd cd) := by rw [hb1c0, World.cell?_alloc_past _ _ _ (by simp), World.cell?_alloc_at _ _ _ _ rfl]; rfl
  have ores : OutB w1 (w.heap.size + 1) 0 0 none 0 0 none 0 0 := by
    have h9 := OutB.new (w.alloc (.cells #[.int .i64 (c.nd : Int), .int .i64 (s : Int), .slice AM c.nm cm, .slice (some ⟨bd, od, none⟩) c.nd cd] 25)) 0 0 none 0 0 none 0 0
    rw [World.size_alloc] at h9
    exact h9.below hb1 (by simp)
  have hz1 : w.heap.size + 1 < w1.heap.size := ores.lt
  have HB1 := Lib.hid hB1
  have HO1 := Lib.hid ores
  clear hB1 hb1 hb1c0 hb1c1 hb1f0 hb1f1 ores
  (go_wp2_with fail; (with_reducible refine (K2.out _ (by have := HB1.out; exact (by have z0 := Below.size this; (try simp only [ZA, ZS, ZD, ZN] at z0 ⊢; skip); repeat' (first | (with_reducible exact Below.refl _ _) | (with_reducible assumption) | (with_reducible refine Below.alloc ?_ ?_ _) | (with_reducible refine Below.drew ?_) | (with_reducible refine below_drewN ?_ _) | (with_reducible refine Below.setCell ?_ ?_ _) | (with_reducible refine Below.trans ?_ (Below.mono (by with_reducible assumption) ?_)) | omega | (simp only [ZA, ZS, ZD, ZN]; omega) | go_size)))).mono ?_); rintro e w2 ⟨⟨A2, c2, rfl, pa2⟩, hb2⟩; have hb2z := Below.size hb2; (try simp only [ZA, ZS, ZD, ZN] at hb2z))
  have h12 : Below w1.heap.size w1 w2 := (by have z0 := Below.size hb2; (try simp only [ZA, ZS, ZD, ZN] at z0 ⊢; skip); repeat' (first | (with_reducible exact Below.refl _ _) | (with_reducible assumption) | (with_reducible refine Below.alloc ?_ ?_ _) | (with_reducible refine Below.drew ?_) | (with_reducible refine below_drewN ?_ _) | (with_reducible refine Below.setCell ?_ ?_ _) | (with_reducible refine Below.trans ?_ (Below.mono (by with_reducible assumption) ?_)) | omega | (simp only [ZA, ZS, ZD, ZN]; omega) | go_size))
  have HP2 := Lib.hid pa2
  have H12 := Lib.hid h12
  obtain ⟨b2, o2, rfl, hb2l, n0⟩ := pa2.later (Below.refl _ _) hsl
  have hz2 := h12.size
  have y1' := (h12.cell (p := ⟨w.heap.size, 1, none⟩) (by show w.heap.size < _; omega)).trans y1
  clear hb2 h12 pa2
  have hsn : (s : Int) < (c.nd : Int) := by omega
  have hs0 : (0 : Int) ≤ (s : Int) := by omega
  have hwx : IntKind.i64.wrap (m : Int) = (m : Int) := IntWalk.i64_in _ (by omega)
  have ne1 : ¬ (w2.heap.size = w.heap.size) := by omega
  have ne2 : ¬ (w2.heap.size = b2) := by omega
  go_upto_region 7 with fail
  go_cut [10] from 35 to 43 (fun q wx => OutP w2 (m : Int) (Z s) q wx)
  case first =>
    go_region_held3 (fun W => W.cell? ⟨w.heap.size, 1, none⟩ = some (.int .i64 (s : Int)) ∧ W.cell? ⟨b2, o2 + s, none⟩ = some (.int .i64 (Z s))) (go_keep)
      (first | ((go_at_call 39; (with_reducible refine (KM.out _ _ _ (HP2.out.below (by (skip); repeat' (first | (with_reducible exact Below.refl _ _) | (with_reducible assumption) | (with_reducible refine Below.alloc ?_ ?_ _) | (with_reducible refine Below.drew ?_) | (with_reducible refine below_drewN ?_ _) | (with_reducible refine Below.setCell ?_ ?_ _) | (with_reducible refine Below.trans ?_ (Below.mono (by with_reducible assumption) ?_)) | omega | (simp only [ZA, ZS, ZD, ZN]; omega) | go_size)))).mono ?_); rintro e w3 ⟨rfl, hb3⟩; have hb3z := Below.size hb3; (try simp only [ZA, ZS, ZD] at hb3z); have hb3c0 := fun o => below_at hb3 (w.heap.size) o (by first | omega | (simp only [ZA, ZS, ZD]; omega)); have hb3f0 := fun o => below_fr hb3 (w.heap.size) o (by first | omega | (simp only [ZA, ZS, ZD]; omega)); have hb3l0 : w.heap.size < (w3).heap.size := (by omega); have hb3c1 := fun o => below_at hb3 (b2) o (by first | omega | (simp only [ZA, ZS, ZD]; omega)); have hb3f1 := fun o => below_fr hb3 (b2) o (by first | omega | (simp only [ZA, ZS, ZD]; omega)); have hb3l1 : b2 < (w3).heap.size := (by omega); have hb3c2 := fun o => below_at hb3 (w2.heap.size) o (by first | omega | (simp only [ZA, ZS, ZD]; omega)); have hb3f2 := fun o => below_fr hb3 (w2.heap.size) o (by first | omega | (simp only [ZA, ZS, ZD]; omega)); have hb3l2 : w2.heap.size < (w3).heap.size := (by omega))) | ((go_at_call 39; (with_reducible refine (KM.out _ _ _ (HP2.out.below (by (skip); repeat' (first | (with_reducible exact Below.refl _ _) | (with_reducible assumption) | (with_reducible refine Below.alloc ?_ ?_ _) | (with_reducible refine Below.drew ?_) | (with_reducible refine below_drewN ?_ _) | (with_reducible refine Below.setCell ?_ ?_ _) | (with_reducible refine Below.trans ?_ (Below.mono (by with_reducible assumption) ?_)) | omega | (simp only [ZA, ZS, ZD, ZN]; omega) | go_size)))).mono ?_); rintro e w3 ⟨rfl, hb3⟩; have hb3z := Below.size hb3; (try simp only [ZA, ZS, ZD] at hb3z); have hb3c0 := fun o => below_at hb3 (w.heap.size) o (by first | omega | (simp only [ZA, ZS, ZD]; omega)); have hb3f0 := fun o => below_fr hb3 (w.heap.size) o (by first | omega | (simp only [ZA, ZS, ZD]; omega)); have hb3l0 : w.heap.size < (w3).heap.size := (by omega); have hb3c1 := fun o => below_at hb3 (b2) o (by first | omega | (simp only [ZA, ZS, ZD]; omega)); have hb3f1 := fun o => below_fr hb3 (b2) o (by first | omega | (simp only [ZA, ZS, ZD]; omega)); have hb3l1 : b2 < (w3).heap.size := (by omega)); have ne3 : ¬ (w3.heap.size = w.heap.size) := (by omega); have ne4 : ¬ (w3.heap.size = b2) := (by omega)) | fail)
    · go_wp2
      go_meet
      exact ⟨_, rfl, by omega, OutB.new w3 _ _ _ _ _ _ _ _, (by have z0 := Below.size hb3; (try simp only [ZA, ZS, ZD, ZN] at z0 ⊢; skip); repeat' (first | (with_reducible exact Below.refl _ _) | (with_reducible assumption) | (with_reducible refine Below.alloc ?_ ?_ _) | (with_reducible refine Below.drew ?_) | (with_reducible refine below_drewN ?_ _) | (with_reducible refine Below.setCell ?_ ?_ _) | (with_reducible refine Below.trans ?_ (Below.mono (by with_reducible assumption) ?_)) | omega | (simp only [ZA, ZS, ZD, ZN]; omega) | go_size))⟩
    · go_wp2
      go_meet
      exact ⟨_, rfl, Nat.le_refl _, ((show OutB (w2.alloc (.cells #[.int .i64 0, .int .i64 0, .slice none 0 0, .slice none 0 0] 25)).drew w2.heap.size 0 0 none 0 0 none 0 0 from OutB.new w2 _ _ _ _ _ _ _ _).below hb3 (by simp)).set4 _ _ _ _ _ _ _ _, (by have z0 := Below.size hb3; (try simp only [ZA, ZS, ZD, ZN] at z0 ⊢; skip); repeat' (first | (with_reducible exact Below.refl _ _) | (with_reducible assumption) | (with_reducible refine Below.alloc ?_ ?_ _) | (with_reducible refine Below.drew ?_) | (with_reducible refine below_drewN ?_ _) | (with_reducible refine Below.setCell ?_ ?_ _) | (with_reducible refine Below.trans ?_ (Below.mono (by with_reducible assumption) ?_)) | omega | (simp only [ZA, ZS, ZD, ZN]; omega) | go_size))⟩
  case rest =>
    obtain ⟨og, rfl, ho, hout, hb7⟩ := hcut
    have hol := hout.lt
    obtain ⟨v0, v1, v2, v3⟩ := hout.cells
    have vf := hout.frz
    have HOUT := Lib.hid hout
    have HB7 := Lib.hid hb7
    have hm9 : m ≤ 1000000 := by omega
    clear hout hb7 hx hwx
    go_wp2_with (first | (at_make; refine wpList_makeB rfl (.tmp 45) (.tmp 45) rfl 0 m (m : Int) (m : Int) (by first | rfl | simp [Act.eval]) (by first | rfl | simp [Act.eval]) rfl rfl (by omega) (by omega) ?_; intro w8 own8 hb8; (have u3 := (hb8.cell (p := ⟨og, 3, none⟩) hol).trans v3); (have uf : w8.frozen? ⟨og, 3, none⟩ = false := (hb8.frozen (p := ⟨og, 3, none⟩) hol).trans (vf 3))) | fail)
    have hg8 := (World.ownsRow.lt own8 wc.heap.size rfl).2
    have ho8 := HOUT.out.below hb8 hol
    have HOUT8 := Lib.hid (ho8.setD (some ⟨wc.heap.size, 0, none⟩) m m)
    have HDN8 : Hid (OwB (w8.setCell ⟨og, 3, none⟩ (.slice (some ⟨wc.heap.size, 0, none⟩) m m)) 0 (some ⟨wc.heap.size, 0, none⟩) m m (DK 0)) := by rw [HD0.out]; exact ownsRow_set own8 ho8.ty (by decide) _ _
    have HB8 := Lib.hid ((HB7.out.trans (hb8.mono (by have := HB7.out.size; omega))).setCell (p := ⟨og, 3, none⟩) ho (.slice (some ⟨wc.heap.size, 0, none⟩) m m))
    have hz8 : wc.heap.size < (w8.setCell ⟨og, 3, none⟩ (.slice (some ⟨wc.heap.size, 0, none⟩) m m)).heap.size := by simpa using hg8
    have hz7 : w2.heap.size ≤ wc.heap.size := HB7.out.size
    clear own8 hb8 u3 uf ho8 hg8 v0 v1 v2 v3 vf n0 y1'
    generalize w8.setCell ⟨og, 3, none⟩ (.slice (some ⟨wc.heap.size, 0, none⟩) m m) = W8 at *
    go_loopw [50] (fun i wr => ∃ k : Nat, k ≤ c.nd ∧ i = .int .i64 (k : Int) ∧ (∀ j, j < k → D j = D (fs j)) ∧ OwB wr 0 (some ⟨wc.heap.size, 0, none⟩) m m (DK k) ∧ Below wc.heap.size W8 wr) (fun i _ => c.nd - (intOf i).toNat)
    case atStart => exact ⟨0, Nat.zero_le _, rfl, fun j hj => by omega, HDN8.out, Below.refl _ _⟩
    case round =>
      obtain ⟨k, hk, rfl, hall, own, hb⟩ := hrel
      have hz := hb.size
      have hbw2 : Below w2.heap.size w2 wr := HB8.out.trans (hb.mono hz7)
      have hbw1 : Below w1.heap.size w1 wr := H12.out.trans (hbw2.mono hz2)
      have hbw : Below w.heap.size w wr := HB1.out.trans (hbw1.mono (by omega))
      have hou := HOUT8.out.below hb hol
      have q3 := (hbw1.cell (p := ⟨w.heap.size, 3, none⟩) (by show w.heap.size < _; omega)).trans y3
      have HALL := Lib.hid hall
      have HOW := Lib.hid own
      have HBR := Lib.hid hb
      clear hall own hb
      by_cases hlt : k < c.nd
      · obtain ⟨b', off', ee, hn2l, n1⟩ := HP2.out.later hbw2 hlt
        cases ee
        rw [HZE.out k] at n1
        obtain ⟨y, hy⟩ : ∃ y, y = N k := ⟨_, rfl⟩
        obtain ⟨f, hf⟩ : ∃ f, f = fs k := ⟨_, rfl⟩
        have KI : Hid (∀ W, Below wr.heap.size wr W → Calls Tryz.prog 40 #[.slice (some ⟨b2, o2, none⟩) c.nd c2, .int .i64 ((y : Nat) : Int)] W fun e w' => e = .returned (.int .i64 ((f : Nat) : Int)) ∧ Below W.heap.size W w') := fun W hb' => by
          rw [hy, hf]
          exact KI1.out W _ c2 k (HP2.out.below (hbw2.trans (hb'.mono hbw2.size))) hlt
        have hfl : f < c.nd := by rw [hf]; exact HFL.out k hlt
        have hyl : y < m := by rw [hy]; exact HNL.out k hlt
        have d1 := HDC.out wr hbw k hlt
        have d2 := HDC.out wr hbw f hfl
        have hds := HDS.out k hlt
        have h7 := HQ7.out k hlt
        rw [← hy] at n1 hds
        rw [← hf] at hds h7
        have HDD := Lib.hid (And.intro hds h7)
        have HFE := Lib.hid hf
        obtain ⟨p1, hp1⟩ : ∃ p1, p1 = D k := ⟨_, rfl⟩
        obtain ⟨p2, hp2⟩ : ∃ p2, p2 = D f := ⟨_, rfl⟩
        rw [← hp1] at d1
        rw [← hp2] at d2
        have HPP := Lib.hid (And.intro hp1 hp2)
        have hki : (k : Int) < (c.nd : Int) := by omega
        have hk0 : (0 : Int) ≤ (k : Int) := by omega
        have hfi : (f : Int) < (c.nd : Int) := by omega
        have hf0 : (0 : Int) ≤ (f : Int) := by omega
        have hyi : (y : Int) < (m : Int) := by omega
        have hy0 : (0 : Int) ≤ (y : Int) := by omega
        have HW2 := Lib.hid hbw2
        have HW1 := Lib.hid hbw1
        have HW := Lib.hid hbw
        have hwl : w.heap.size < wr.heap.size := by have := hbw1.size; omega
        have hbdl : bd < wr.heap.size := by have := hbw.size; omega
        have hoL := hou.lt
        obtain ⟨-, -, -, v3⟩ := hou.cells
        have HOU := Lib.hid hou
        clear hds h7 hy hf hp1 hp2 hbw2 hbw1 hbw hou
        (go_wp2_with fail; (with_reducible refine (KI.out _ (by exact (by (skip); repeat' (first | (with_reducible exact Below.refl _ _) | (with_reducible assumption) | (with_reducible refine Below.alloc ?_ ?_ _) | (with_reducible refine Below.drew ?_) | (with_reducible refine below_drewN ?_ _) | (with_reducible refine Below.setCell ?_ ?_ _) | (with_reducible refine Below.trans ?_ (Below.mono (by with_reducible assumption) ?_)) | omega | (simp only [ZA, ZS, ZD, ZN]; omega) | go_size)))).mono ?_); rintro e w3 ⟨rfl, hb3⟩; have hb3z := Below.size hb3; (try simp only [ZA, ZS, ZD, ZN] at hb3z); have hb3c0 := fun o => below_at hb3 (w.heap.size) o (by first | omega | (simp only [ZA, ZS, ZD, ZN]; omega)); have hb3f0 := fun o => below_fr hb3 (w.heap.size) o (by first | omega | (simp only [ZA, ZS, ZD, ZN]; omega)); have hb3c1 := fun o => below_at hb3 (bd) o (by first | omega | (simp only [ZA, ZS, ZD, ZN]; omega)); have hb3f1 := fun o => below_fr hb3 (bd) o (by first | omega | (simp only [ZA, ZS, ZD, ZN]; omega)); have hb3c2 := fun o => below_at hb3 (og) o (by first | omega | (simp only [ZA, ZS, ZD, ZN]; omega)); have hb3f2 := fun o => below_fr hb3 (og) o (by first | omega | (simp only [ZA, ZS, ZD, ZN]; omega)))
        have y3' : w3.cell? ⟨w.heap.size, 3, none⟩ = some (.slice (some ⟨bd, od, none⟩) c.nd cd) := (hb3c0 3).trans q3
        have d1' : w3.cell? ⟨bd, od + k, none⟩ = some (.bool p1) := (hb3c1 _).trans d1
        have d2' : w3.cell? ⟨bd, od + f, none⟩ = some (.bool p2) := (hb3c1 _).trans d2
        have v3' : w3.cell? ⟨og, 3, none⟩ = some (.slice (some ⟨wc.heap.size, 0, none⟩) m m) := (hb3c2 3).trans v3
        have own3 := HOW.out.below hb3
        have hgc := own3.at_ hyl
        have hgf := own3.frozen
        have HO3 := Lib.hid own3
        have HB3 := Lib.hid hb3
        clear own3 hb3 hb3c0 hb3c1 hb3c2 hb3f0 hb3f1 hb3f2 q3 d1 d2 v3 n1 KI
        by_cases hpp : p1 = p2
        · have HPE := Lib.hid hpp
          subst hpp
          have e1 : (p1 != p1) = false := by simp
          go_wp2
          go_region
          go_wp2
          go_region
          have hst := (HO3.out.below (show Below w3.heap.size w3 w3.drew from (by (skip); repeat' (first | (with_reducible exact Below.refl _ _) | (with_reducible assumption) | (with_reducible refine Below.alloc ?_ ?_ _) | (with_reducible refine Below.drew ?_) | (with_reducible refine below_drewN ?_ _) | (with_reducible refine Below.setCell ?_ ?_ _) | (with_reducible refine Below.trans ?_ (Below.mono (by with_reducible assumption) ?_)) | omega | (simp only [ZA, ZS, ZD, ZN]; omega) | go_size)))).set y p1
          have hp9 : p1 = D k := HPP.out.1
          have hDD := HDD.out.1 (by rw [← HPP.out.1]; exact HPP.out.2)
          rw [← hp9] at hDD
          rw [hDD] at hst
          have HST := Lib.hid hst
          clear hst hp9 hDD
          go_wp2
          go_roundw
          case rel =>
            refine ⟨k + 1, by omega, by go_num, fun j hj => ?_, ?_, ?_⟩
            · by_cases e : j = k
              · rw [e, ← HPP.out.1, HPP.out.2, HFE.out]
              · exact HALL.out j (by omega)
            · exact ownsRow_heap HST.out.1 rfl
            · have h9 := HBR.out.trans (HB3.out.mono (by omega))
              exact (by have z0 := Below.size h9; (try simp only [ZA, ZS, ZD, ZN] at z0 ⊢; skip); repeat' (first | (with_reducible exact Below.refl _ _) | (with_reducible assumption) | (with_reducible refine Below.alloc ?_ ?_ _) | (with_reducible refine Below.drew ?_) | (with_reducible refine below_drewN ?_ _) | (with_reducible refine Below.setCell ?_ ?_ _) | (with_reducible refine Below.trans ?_ (Below.mono (by with_reducible assumption) ?_)) | omega | (simp only [ZA, ZS, ZD, ZN]; omega) | go_size))
          case measure => simp [intOf]; omega
        · have HPE := Lib.hid hpp
          have e1 : (p1 != p2) = true := by rw [bne_iff_ne]; exact hpp
          have e2 : (p1 == p2) = false := by rw [beq_eq_false_iff_ne]; exact hpp
          have hor := HO1.out.below (HW1.out.trans (HB3.out.mono HW1.out.size)) hz1
          obtain ⟨r0, r1, r2, r3⟩ := hor.cells
          have rf := hor.frz
          have HOR := Lib.hid hor
          clear hor hpp
          go_wp2
          go_region
          go_wp2
          (try simp only [Exit.inBlock, Exit.then])
          have h7 := HDD.out.2 (by rw [← HPP.out.1, ← HPP.out.2]; exact HPE.out)
          refine bodyPost_ret (v := .tuple #[cv 0 0 none 0 0 none 0 0, .iface 61 (.int .i64 7)]) ?_ rfl ⟨AnsC.err (HQX.out h7) (by rw [h7]; rfl), ?_⟩
          · rw [results_cell_tmp rfl]
            go_simp
          · have h9 := HW.out.trans (HB3.out.mono HW.out.size)
            exact (by have z0 := Below.size h9; (try simp only [ZA, ZS, ZD, ZN] at z0 ⊢; skip); repeat' (first | (with_reducible exact Below.refl _ _) | (with_reducible assumption) | (with_reducible refine Below.alloc ?_ ?_ _) | (with_reducible refine Below.drew ?_) | (with_reducible refine below_drewN ?_ _) | (with_reducible refine Below.setCell ?_ ?_ _) | (with_reducible refine Below.trans ?_ (Below.mono (by with_reducible assumption) ?_)) | omega | (simp only [ZA, ZS, ZD, ZN]; omega) | go_size))
      · have hkn : k = c.nd := by omega
        subst hkn
        have HB9 := Lib.hid hbw
        have KS9 : Hid (∀ W, Below wr.heap.size wr W → Calls Tryz.prog 41 #[cv (c.nd : Int) (s : Int) AM c.nm cm (some ⟨bd, od, none⟩) c.nd cd, .slice (some ⟨b2, o2, none⟩) c.nd c2] W fun e w' => (e = .returned (.slice (some ⟨W.heap.size + 1, 0, none⟩) c.nd c.nd) ∧ MatG w' (W.heap.size + 1) (W.heap.size + 1) c.nd c.nd (fun _ => c.nd) S) ∧ Below W.heap.size W w') := fun W hb => KS.out W _ c2 (HB9.out.trans (hb.mono HB9.out.size)) (HP2.out.below (hbw2.trans (hb.mono hbw2.size)))
        have q0 := (hbw1.cell (p := ⟨w.heap.size, 0, none⟩) (by show w.heap.size < _; omega)).trans y0
        have q1 := (hbw1.cell (p := ⟨w.heap.size, 1, none⟩) (by show w.heap.size < _; omega)).trans y1
        have q2 := (hbw1.cell (p := ⟨w.heap.size, 2, none⟩) (by show w.heap.size < _; omega)).trans y2
        have HW2 := Lib.hid hbw2
        have HOU := Lib.hid hou
        have hsz := hbw2.size
        clear hbw hbw1 hbw2 hou
        (go_wp2_with fail; (with_reducible refine (KS9.out _ (by exact (by (skip); repeat' (first | (with_reducible exact Below.refl _ _) | (with_reducible assumption) | (with_reducible refine Below.alloc ?_ ?_ _) | (with_reducible refine Below.drew ?_) | (with_reducible refine below_drewN ?_ _) | (with_reducible refine Below.setCell ?_ ?_ _) | (with_reducible refine Below.trans ?_ (Below.mono (by with_reducible assumption) ?_)) | omega | (simp only [ZA, ZS, ZD, ZN]; omega) | go_size)))).mono ?_); rintro e w4 ⟨⟨rfl, mat⟩, hb4⟩; have hb4z := Below.size hb4; (try simp only [ZA, ZS, ZD, ZN] at hb4z))
        obtain ⟨w9, hw9⟩ : ∃ w9, w9 = wr := ⟨_, rfl⟩
        subst hw9
        have hml := mat.lt
        have hog9 := HOU.out.lt
        obtain ⟨D9, hD9⟩ : ∃ D9 : Nat → Bool, D9 = fun b => D (ix b) := ⟨_, rfl⟩
        have hown9 : OwB w4 0 (some ⟨wc.heap.size, 0, none⟩) m m D9 := (HOW.out.below hb4).congr_ (fun j hj => by rw [HDE.out j hj, hD9])
        have hqi : QInv w2 w4 og (w9.heap.size + 1) (m : Int) (Z s) (L 0 0) rt none 0 (some ⟨wc.heap.size, 0, none⟩) m m D9 := ⟨HW2.out.trans (hb4.mono hsz), ho, by omega, by omega, by rw [HL0.out]; exact HOU.out.below hb4 hog9, by rw [HL0.out]; exact OwL.nil_ _ _ _, hown9, fun q hq => by
          have hq : some wc.heap.size = some q := hq
          injection hq with hq
          omega⟩
        have HQI := Lib.hid hqi
        have HMAT := Lib.hid mat
        have HD9 := Lib.hid hD9
        have hc00 := (HOU.out.below hb4 hog9).cells.1
        clear hqi mat hown9 hb4 HOU HOW HW2 KS9 hD9
        go_wp2
        go_loopw [86] (fun i wr => ∃ (b : Nat) (Ao : Option Addr) (co : Nat), b ≤ m ∧ i = .int .i64 (b : Int) ∧ QInv w2 wr og (w9.heap.size + 1) (m : Int) (Z s) (L b 0) rt Ao co (some ⟨wc.heap.size, 0, none⟩) m m D9 ∧ MatG wr (w9.heap.size + 1) (w9.heap.size + 1) c.nd c.nd (fun _ => c.nd) S) (fun i _ => m - (intOf i).toNat)
        case atStart => exact ⟨0, none, 0, Nat.zero_le _, rfl, HQI.out, HMAT.out⟩
        case round =>
          clear HQI HMAT hc00
          obtain ⟨b, Ao, co, hbm, rfl, hq, hmat⟩ := hrel
          have hbw2 := hq.bel
          have hoc := hq.out.cells
          have hol3 := hq.out.lt
          have hmz := hmat.lt
          by_cases hlt : b < m
          · have hfl := HIL.out b hlt
            obtain ⟨A9, c9, hX⟩ := hmat.row (ix b)
            obtain ⟨g, rfl⟩ := hX.head hfl (by omega)
            have hrc := hX.cell hfl
            have hcap : c.nd ≤ c9 := OwR.cap_ (hX.own hfl)
            have hSR : ∀ t, S (ix b) t = if t = b then 0 else rt b t := fun t => HSR.out b t hlt
            obtain ⟨f, hf⟩ : ∃ f, f = ix b := ⟨_, rfl⟩
            have KI : Hid (∀ W, Below wr.heap.size wr W → Calls Tryz.prog 40 #[.slice (some ⟨b2, o2, none⟩) c.nd c2, .int .i64 ((b : Nat) : Int)] W fun e w' => e = .returned (.int .i64 ((f : Nat) : Int)) ∧ Below W.heap.size W w') := fun W hb' => by
              rw [hf]
              exact KI2.out W _ c2 b (HP2.out.below (hbw2.trans (hb'.mono hbw2.size))) hlt
            rw [← hf] at hrc hX hfl hSR
            obtain ⟨v0, -, -, -⟩ := hoc
            have HQ := Lib.hid hq
            have HX := Lib.hid hX
            have HSB := Lib.hid hSR
            have hfi : (f : Int) < (c.nd : Int) := by omega
            have hf0 : (0 : Int) ≤ (f : Int) := by omega
            have hmc9 : (m : Int) ≤ (c9 : Int) := by omega
            have hmi0 : (0 : Int) ≤ (m : Int) := by omega
            clear hq hX hSR hmat hf hbw2
            go_wp2
            go_region_held3 (fun W => W.cell? ⟨w9.heap.size + 1, f, none⟩ = some (.slice (some ⟨g, 0, none⟩) c.nd c9) ∧ W.cell? ⟨og, 0, none⟩ = some (.int .i64 (m : Int))) (go_keep)
              (first | ((go_at_call 40; (with_reducible refine (KI.out _ (by (skip); repeat' (first | (with_reducible exact Below.refl _ _) | (with_reducible assumption) | (with_reducible refine Below.alloc ?_ ?_ _) | (with_reducible refine Below.drew ?_) | (with_reducible refine below_drewN ?_ _) | (with_reducible refine Below.setCell ?_ ?_ _) | (with_reducible refine Below.trans ?_ (Below.mono (by with_reducible assumption) ?_)) | omega | (simp only [ZA, ZS, ZD, ZN]; omega) | go_size))).mono ?_); rintro e w5 ⟨rfl, hb5⟩; have hb5z := Below.size hb5; (try simp only [ZA, ZS, ZD] at hb5z); have hb5c0 := fun o => below_at hb5 (w9.heap.size + 1) o (by first | omega | (simp only [ZA, ZS, ZD]; omega)); have hb5f0 := fun o => below_fr hb5 (w9.heap.size + 1) o (by first | omega | (simp only [ZA, ZS, ZD]; omega)); have hb5l0 : w9.heap.size + 1 < (w5).heap.size := (by omega); have hb5c1 := fun o => below_at hb5 (og) o (by first | omega | (simp only [ZA, ZS, ZD]; omega)); have hb5f1 := fun o => below_fr hb5 (og) o (by first | omega | (simp only [ZA, ZS, ZD]; omega)); have hb5l1 : og < (w5).heap.size := (by omega))) | fail)
            all_goals
              have h35 : Below wr.heap.size wr w5 := (by have z0 := Below.size hb5; (try simp only [ZA, ZS, ZD, ZN] at z0 ⊢; skip); repeat' (first | (with_reducible exact Below.refl _ _) | (with_reducible assumption) | (with_reducible refine Below.alloc ?_ ?_ _) | (with_reducible refine Below.drew ?_) | (with_reducible refine below_drewN ?_ _) | (with_reducible refine Below.setCell ?_ ?_ _) | (with_reducible refine Below.trans ?_ (Below.mono (by with_reducible assumption) ?_)) | omega | (simp only [ZA, ZS, ZD, ZN]; omega) | go_size))
              have HQ5 := Lib.hid (HQ.out.below h35)
              have HX5 := Lib.hid (HX.out.below h35)
              have hc5 : w5.cell? ⟨w9.heap.size + 1, f, none⟩ = some (.slice (some ⟨g, 0, none⟩) c.nd c9) := (h35.cell (p := ⟨w9.heap.size + 1, f, none⟩) hmz).trans hrc
              clear hb5 hb5c0 hb5c1 hb5f0 hb5f1 hrc v0 h35 KI
              obtain ⟨wq, hwq⟩ : ∃ wq, wq = wr := ⟨_, rfl⟩
              subst hwq
              go_wp2
              go_loopw [99] (fun j wr => ∃ (t : Nat) (Ao : Option Addr) (co : Nat), t ≤ m ∧ j = .int .i64 (t : Int) ∧ QInv w2 wr og (w9.heap.size + 1) (m : Int) (Z s) (L b t) rt Ao co (some ⟨wc.heap.size, 0, none⟩) m m D9 ∧ MatX wr (w9.heap.size + 1) (w9.heap.size + 1) c.nd c.nd f (some ⟨g, 0, none⟩) c9 (fun _ => c.nd) S) (fun j _ => m - (intOf j).toNat)
              case atStart => exact ⟨0, Ao, co, Nat.zero_le _, rfl, HQ5.out.below (by (skip); repeat' (first | (with_reducible exact Below.refl _ _) | (with_reducible assumption) | (with_reducible refine Below.alloc ?_ ?_ _) | (with_reducible refine Below.drew ?_) | (with_reducible refine below_drewN ?_ _) | (with_reducible refine Below.setCell ?_ ?_ _) | (with_reducible refine Below.trans ?_ (Below.mono (by with_reducible assumption) ?_)) | omega | (simp only [ZA, ZS, ZD, ZN]; omega) | go_size)), HX5.out.below (by (skip); repeat' (first | (with_reducible exact Below.refl _ _) | (with_reducible assumption) | (with_reducible refine Below.alloc ?_ ?_ _) | (with_reducible refine Below.drew ?_) | (with_reducible refine below_drewN ?_ _) | (with_reducible refine Below.setCell ?_ ?_ _) | (with_reducible refine Below.trans ?_ (Below.mono (by with_reducible assumption) ?_)) | omega | (simp only [ZA, ZS, ZD, ZN]; omega) | go_size))⟩
              case round =>
                clear HQ5 HX5 HQ HX
                obtain ⟨t, Ao, co, htm, rfl, hq, hX⟩ := hrel
                by_cases htl : t < m
                · obtain ⟨s0, A3, n3, c3', B3, m3, d3, o0, o1, o2', r0⟩ := (hX.own hfl).at_ (show t < c.nd by omega)
                  have hgl := (hX.own hfl).lt
                  have R0 : RdS wr (w9.heap.size + 1) (rv s0 A3 n3 c3' B3 m3 d3) (canR (S f t)) := r0
                  clear r0
                  have KG := Lib.hid (fun W (hb : Below wr.heap.size wr W) => signQ ((R0.canQ (HSZ.out f t)).below hb) (by omega) (by omega))
                  have hti : (t : Int) < (m : Int) := by omega
                  have ht0 : (0 : Int) ≤ (t : Int) := by omega
                  have hSt := HSB.out t
                  have HR0 := Lib.hid R0
                  have HQ := Lib.hid hq
                  have HX := Lib.hid hX
                  have hlw : og < wr.heap.size := hq.out.lt
                  have hbs := hq.sz
                  obtain ⟨-, -, z2, -⟩ := hq.out.cells
                  have zf := hq.out.frz 2
                  have hLB := HLB.out b t hlt htm
                  have hrn := HRN.out b t
                  by_cases hyes : b ≠ t ∧ rt b t ≠ 0
                  · have hS1 : S f t = rt b t := by rw [hSt, if_neg (fun e => hyes.1 e.symm)]
                    have hsg : sgnQ (S f t) = 1 := by
                      rcases sgn_of hrn with ⟨e, _⟩ | ⟨_, e⟩
                      · exact absurd e hyes.2
                      · rw [hS1]; exact e
                    have hLe := HLY.out b t hyes.1 hyes.2
                    have KG1 : Hid (∀ W, Below wr.heap.size wr W → Calls Tryz.prog 20 #[rv s0 A3 n3 c3' B3 m3 d3] W fun e w' => e = .returned (.int .i64 1) ∧ Below W.heap.size W w') := fun W hb => by
                      have := KG.out W hb
                      rw [hsg] at this
                      exact this
                    obtain ⟨n, hn⟩ : ∃ n, n = (L b t).length := ⟨_, rfl⟩
                    obtain ⟨F, hF⟩ : ∃ F : Nat → Int, F = fun k => ((((L b t).getD k (0, 0)).1 : Nat) : Int) := ⟨_, rfl⟩
                    obtain ⟨T, hT⟩ : ∃ T : Nat → Int, T = fun k => ((((L b t).getD k (0, 0)).2 : Nat) : Int) := ⟨_, rfl⟩
                    obtain ⟨R, hR⟩ : ∃ R : Nat → Rw, R = fun k => canR (rt ((L b t).getD k (0, 0)).1 ((L b t).getD k (0, 0)).2) := ⟨_, rfl⟩
                    have hmv : OwM wr (w9.heap.size + 1) Ao co n F T R := by rw [hn, hF, hT, hR]; exact hq.mv
                    have HNE := Lib.hid ((OwM.rowT hmv).ne hq.out.ty (by decide))
                    have HMV := Lib.hid hmv
                    have HAPP : Hid (∀ W w7 g7 c7, Below wr.heap.size wr W → W.grownBy w7 (Value.slice Ao n co).ownBlock → OwM w7 (w9.heap.size + 1) (some ⟨g7, 0, none⟩) c7 (n + 1) (upd F n (b : Int)) (upd T n (t : Int)) (upd R n (canR (rt b t))) →
                        QInv w2 (w7.setCell ⟨og, 2, none⟩ (.slice (some ⟨g7, 0, none⟩) (n + 1) c7)) og (w9.heap.size + 1) (m : Int) (Z s) (L b (t + 1)) rt (some ⟨g7, 0, none⟩) c7 (some ⟨wc.heap.size, 0, none⟩) m m D9 ∧ MatX (w7.setCell ⟨og, 2, none⟩ (.slice (some ⟨g7, 0, none⟩) (n + 1) c7)) (w9.heap.size + 1) (w9.heap.size + 1) c.nd c.nd f (some ⟨g, 0, none⟩) c9 (fun _ => c.nd) S) := fun W w7 g7 c7 hW hg h7 => by
                      have hqW := HQ.out.below hW
                      have hrW := OwM.rowT hqW.mv
                      rw [hLe]
                      rw [hn] at hg h7 ⊢
                      rw [hF, hT, hR] at h7
                      have ho7 := hqW.out.grown hg (hrW.ne hqW.out.ty (by decide))
                      exact ⟨hqW.app hg h7, ((HX.out.below hW).grownT hg hrW).setN ho7.nwb ho7.ty _ _⟩
                    have HS1 := Lib.hid hS1
                    rw [← hn] at z2 hLB
                    clear hq hX R0 hSt hsg hLe hn hF hT hR hmv hS1 hrn KG
                    (go_wp2_with fail; (with_reducible refine (KG1.out _ (by exact (by (skip); repeat' (first | (with_reducible exact Below.refl _ _) | (with_reducible assumption) | (with_reducible refine Below.alloc ?_ ?_ _) | (with_reducible refine Below.drew ?_) | (with_reducible refine below_drewN ?_ _) | (with_reducible refine Below.setCell ?_ ?_ _) | (with_reducible refine Below.trans ?_ (Below.mono (by with_reducible assumption) ?_)) | omega | (simp only [ZA, ZS, ZD, ZN]; omega) | go_size)))).mono ?_); rintro e w6 ⟨rfl, hb6⟩; have hb6z := Below.size hb6; (try simp only [ZA, ZS, ZD, ZN] at hb6z); have hb6c0 := fun o => below_at hb6 (wr.heap.size) o (by first | omega | (simp only [ZA, ZS, ZD, ZN]; omega)); have hb6f0 := fun o => below_fr hb6 (wr.heap.size) o (by first | omega | (simp only [ZA, ZS, ZD, ZN]; omega)); have hb6c1 := fun o => below_at hb6 (og) o (by first | omega | (simp only [ZA, ZS, ZD, ZN]; omega)); have hb6f1 := fun o => below_fr hb6 (og) o (by first | omega | (simp only [ZA, ZS, ZD, ZN]; omega)))
                    have e0 : w6.cell? ⟨wr.heap.size, 0, none⟩ = some (.bool s0) := by rw [hb6c0]; simp
                    have e1 : w6.cell? ⟨wr.heap.size, 1, none⟩ = some (.slice A3 n3 c3') := by rw [hb6c0]; simp
                    have e2 : w6.cell? ⟨wr.heap.size, 2, none⟩ = some (.slice B3 m3 d3) := by rw [hb6c0]; simp
                    have h6 : Below wr.heap.size wr w6 := (by have z0 := Below.size hb6; (try simp only [ZA, ZS, ZD, ZN] at z0 ⊢; skip); repeat' (first | (with_reducible exact Below.refl _ _) | (with_reducible assumption) | (with_reducible refine Below.alloc ?_ ?_ _) | (with_reducible refine Below.drew ?_) | (with_reducible refine below_drewN ?_ _) | (with_reducible refine Below.setCell ?_ ?_ _) | (with_reducible refine Below.trans ?_ (Below.mono (by with_reducible assumption) ?_)) | omega | (simp only [ZA, ZS, ZD, ZN]; omega) | go_size))
                    have e3 : w6.cell? ⟨og, 2, none⟩ = some (.slice Ao n co) := (h6.cell (p := ⟨og, 2, none⟩) hlw).trans z2
                    have ef : w6.frozen? ⟨og, 2, none⟩ = false := (h6.frozen (p := ⟨og, 2, none⟩) hlw).trans zf
                    have H6 := Lib.hid h6
                    have hz6 := h6.size
                    have MV6 := Lib.hid (HMV.out.below h6)
                    have R6 : Hid (RdS w6 (w9.heap.size + 1) (rv s0 A3 n3 c3' B3 m3 d3) (canR (rt b t))) := by
                      have := (HR0.out.kp (Kp.of_below h6))
                      rw [HS1.out] at this
                      exact this
                    have hog6 : og < w6.heap.size := by omega
                    have hgt : ((0 : Int) < 1) = True := by simp
                    clear hb6 h6 hb6c0 hb6c1 hb6f0 hb6f1 z2 zf o0 o1 o2' KG1 hgt
                    go_wp2_with (first | (at_builtin; refine wpList_appM1 rfl (.tmp 108) (.tmp 113) rfl (w9.heap.size + 1) Ao co n F T R (by first | rfl | simp [Act.eval]) (MV6.out.below ((Below.refl _ _).alloc (Nat.le_refl _) _)) w6.heap.size (b : Int) (t : Int) s0 A3 n3 c3' B3 m3 d3 (canR (rt b t)) (by first | rfl | simp [Act.eval]) (by simp) (by simp) (by simp) (by simp) (by simp) (R6.out.kp ((Kp.refl _ _).alloc _)) (by omega) (by simp; omega) ?_; intro g7 c7 w7 own7 hgr7 hfr7 hlt7; (have hx7 : w7.cell? ⟨og, 2, none⟩ = some (.slice Ao n co) := (hgr7.cell_far ⟨og, 2, none⟩ (by first | omega | (simp only [World.size_alloc]; omega) | (simp; omega) | (show _ < _; simp; omega)) HNE.out).trans ((World.cell?_alloc_past _ _ _ (by first | omega | (simp only [World.size_alloc]; omega) | (simp; omega) | (show _ < _; simp; omega))).trans e3)); (have hy7 : w7.frozen? ⟨og, 2, none⟩ = false := (hgr7.frozen_far ⟨og, 2, none⟩ (by first | omega | (simp only [World.size_alloc]; omega) | (simp; omega) | (show _ < _; simp; omega)) HNE.out).trans ((World.frozen?_alloc_past _ _ _ (by first | omega | (simp only [World.size_alloc]; omega) | (simp; omega) | (show _ < _; simp; omega))).trans ef))) | fail)
                    have hap := HAPP.out _ w7 g7 c7 (H6.out.trans (by exact (by (skip); repeat' (first | (with_reducible exact Below.refl _ _) | (with_reducible assumption) | (with_reducible refine Below.alloc ?_ ?_ _) | (with_reducible refine Below.drew ?_) | (with_reducible refine below_drewN ?_ _) | (with_reducible refine Below.setCell ?_ ?_ _) | (with_reducible refine Below.trans ?_ (Below.mono (by with_reducible assumption) ?_)) | omega | (simp only [ZA, ZS, ZD, ZN]; omega) | go_size)))) hgr7 own7
                    have HAP := Lib.hid hap
                    clear hap own7 hgr7 hfr7
                    go_roundw
                    case rel => exact ⟨t + 1, _, _, by omega, by go_num, HAP.out.1, HAP.out.2⟩
                    case measure => simp [intOf]; omega
                  · have hSg : sgnQ (S f t) = 0 := by
                      have : S f t = 0 := by
                        rw [hSt]
                        by_cases e : t = b
                        · rw [if_pos e]
                        · rw [if_neg e]
                          exact Classical.byContradiction fun e2 => hyes ⟨fun e3 => e e3.symm, e2⟩
                      rw [this]
                      rfl
                    have hLe := HLN.out b t hyes
                    have KG1 : Hid (∀ W, Below wr.heap.size wr W → Calls Tryz.prog 20 #[rv s0 A3 n3 c3' B3 m3 d3] W fun e w' => e = .returned (.int .i64 0) ∧ Below W.heap.size W w') := fun W hb => by
                      have := KG.out W hb
                      rw [hSg] at this
                      exact this
                    have HLE2 := Lib.hid hLe
                    clear hq hX R0 hSt hSg hLe hrn KG hyes z2 zf
                    (go_wp2_with fail; (with_reducible refine (KG1.out _ (by exact (by (skip); repeat' (first | (with_reducible exact Below.refl _ _) | (with_reducible assumption) | (with_reducible refine Below.alloc ?_ ?_ _) | (with_reducible refine Below.drew ?_) | (with_reducible refine below_drewN ?_ _) | (with_reducible refine Below.setCell ?_ ?_ _) | (with_reducible refine Below.trans ?_ (Below.mono (by with_reducible assumption) ?_)) | omega | (simp only [ZA, ZS, ZD, ZN]; omega) | go_size)))).mono ?_); rintro e w6 ⟨rfl, hb6⟩; have hb6z := Below.size hb6; (try simp only [ZA, ZS, ZD, ZN] at hb6z); have hb6c0 := fun o => below_at hb6 (og) o (by first | omega | (simp only [ZA, ZS, ZD, ZN]; omega)); have hb6f0 := fun o => below_fr hb6 (og) o (by first | omega | (simp only [ZA, ZS, ZD, ZN]; omega)))
                    have h6 : Below wr.heap.size wr w6 := (by have z0 := Below.size hb6; (try simp only [ZA, ZS, ZD, ZN] at z0 ⊢; skip); repeat' (first | (with_reducible exact Below.refl _ _) | (with_reducible assumption) | (with_reducible refine Below.alloc ?_ ?_ _) | (with_reducible refine Below.drew ?_) | (with_reducible refine below_drewN ?_ _) | (with_reducible refine Below.setCell ?_ ?_ _) | (with_reducible refine Below.trans ?_ (Below.mono (by with_reducible assumption) ?_)) | omega | (simp only [ZA, ZS, ZD, ZN]; omega) | go_size))
                    have H6 := Lib.hid h6
                    clear hb6 h6 hb6c0 hb6f0 o0 o1 o2' KG1
                    go_wp2
                    go_roundw
                    case rel => exact ⟨t + 1, _, _, by omega, by go_num, by rw [HLE2.out]; exact HQ.out.below H6.out, HX.out.below H6.out⟩
                    case measure => simp [intOf]; omega
                · have htm2 : t = m := by omega
                  have hLr := HLR.out b
                  rw [htm2, hLr] at hq
                  have HQ := Lib.hid hq
                  have HX := Lib.hid hX
                  clear hq hX hLr
                  go_wp2
                  go_roundw
                  case rel => exact ⟨b + 1, _, _, by omega, by go_num, HQ.out, HX.out.mg⟩
                  case measure => simp [intOf]; omega
          · have hbm2 : b = m := by omega
            rw [hbm2] at hq
            have hmv := hq.mv
            obtain ⟨n, hn⟩ : ∃ n, n = (L m 0).length := ⟨_, rfl⟩
            have hnl : n ≤ 1000000 := by
              rw [hn, show (L m 0).length = (L (m - 1) m).length by rw [HLR.out (m - 1), show m - 1 + 1 = m by omega]]
              have := HLB.out (m - 1) m (by omega) (Nat.le_refl _)
              omega
            have KQ := Lib.hid (qsort_any hmv HSO.out (by rw [← hn]; exact hnl))
            rw [← hn] at KQ
            obtain ⟨z0, z1, z2, z3⟩ := hq.out.cells
            rw [← hn] at z2
            have hb1 : Below w1.heap.size w1 wr := H12.out.trans (hbw2.mono hz2)
            have hor := HO1.out.below hb1 hz1
            have HOR := Lib.hid hor
            have hgl : w.heap.size + 1 < wr.heap.size := hor.lt
            have HQ := Lib.hid hq
            have HBW := Lib.hid (HB1.out.trans (hb1.mono (by omega)))
            have HN := Lib.hid hn
            have hne : ¬ (w.heap.size + 1 = og) := by omega
            clear hq hmat hmv hoc hbw2 hor hb1 hn q0 q1 q2 q3 y0 y1 y2 y3
            (go_wp2_with fail; (with_reducible refine (KQ.out).mono ?_); rintro e w6 ⟨rfl, hb6⟩; have hb6z := Below.size hb6; (try simp only [ZA, ZS, ZD, ZN] at hb6z); have hb6c0 := fun o => below_at hb6 (w.heap.size + 1) o (by first | omega | (simp only [ZA, ZS, ZD, ZN]; omega)); have hb6f0 := fun o => below_fr hb6 (w.heap.size + 1) o (by first | omega | (simp only [ZA, ZS, ZD, ZN]; omega)); have hb6c1 := fun o => below_at hb6 (og) o (by first | omega | (simp only [ZA, ZS, ZD, ZN]; omega)); have hb6f1 := fun o => below_fr hb6 (og) o (by first | omega | (simp only [ZA, ZS, ZD, ZN]; omega)))
            have hq6 := HQ.out.below hb6
            have ho6 := HOR.out.below hb6 hgl
            obtain ⟨r0, r1, r2, r3⟩ := ho6.cells
            have rf := ho6.frz
            obtain ⟨z0', z1', z2', z3'⟩ := hq6.out.cells
            rw [← HN.out] at z2'
            have hset := ho6.set4 (m : Int) (Z s) Ao n co (some ⟨wc.heap.size, 0, none⟩) m m
            have hfin := HFIN.out ((((w6.setCell ⟨w.heap.size + 1, 0, none⟩ (.int .i64 (m : Int))).setCell ⟨w.heap.size + 1, 1, none⟩ (.int .i64 (Z s))).setCell ⟨w.heap.size + 1, 2, none⟩ (.slice Ao n co)).setCell ⟨w.heap.size + 1, 3, none⟩ (.slice (some ⟨wc.heap.size, 0, none⟩) m m)) (w9.heap.size + 1) Ao co m (some ⟨wc.heap.size, 0, none⟩) (HQ0.out (fun j hj => HALL.out j hj)) (by have := hq6.sz; simp; exact this) (OwM.set4 hq6.mv ho6 _ _ _ _ _ _ _ _) (by rw [← HD9.out]; exact OwB.set4 hq6.dn ho6 _ _ _ _ _ _ _ _)
            rw [← HN.out] at hfin
            have HFI := Lib.hid hfin
            have HB6 := Lib.hid (HBW.out.trans (hb6.mono HBW.out.size))
            obtain ⟨t0, t1, t2, t3⟩ := hset.cells
            have HT := Lib.hid (And.intro t0 (And.intro t1 (And.intro t2 t3)))
            clear hb6 hb6c0 hb6c1 hb6f0 hb6f1 hq6 ho6 hset hfin t0 t1 t2 t3 z0 z1 z2 z3
            go_wp2
            obtain ⟨t0, t1, t2, t3⟩ := HT.out
            (try simp only [Exit.inBlock, Exit.then])
            refine bodyPost_ret (v := .tuple #[cv (m : Int) (Z s) Ao n co (some ⟨wc.heap.size, 0, none⟩) m m, .nilIface]) ?_ rfl ⟨HFI.out, ?_⟩
            · rw [results_cell_tmp rfl]
              go_simp
            · have h9 := HB6.out
              exact (by have z0 := Below.size h9; (try simp only [ZA, ZS, ZD, ZN] at z0 ⊢; skip); repeat' (first | (with_reducible exact Below.refl _ _) | (with_reducible assumption) | (with_reducible refine Below.alloc ?_ ?_ _) | (with_reducible refine Below.drew ?_) | (with_reducible refine below_drewN ?_ _) | (with_reducible refine Below.setCell ?_ ?_ _) | (with_reducible refine Below.trans ?_ (Below.mono (by with_reducible assumption) ?_)) | omega | (simp only [ZA, ZS, ZD, ZN]; omega) | go_size))
end Go.Proofs.YtlncafhgmbhocaaGreatDoor
