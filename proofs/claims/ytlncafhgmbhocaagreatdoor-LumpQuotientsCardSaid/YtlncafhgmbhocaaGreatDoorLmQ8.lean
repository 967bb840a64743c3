/- Contracts of functions and lemmas, used by the proofs of the given statements. No condition beyond those that each lemma names. -/
import Derived.Test.YtlncafhgmbhocaaGreatDoorLmQ7
namespace Go.Proofs.YtlncafhgmbhocaaGreatDoor
open Go.RowKit
set_option linter.unusedSimpArgs false
set_option linter.unusedVariables false
set_option maxRecDepth 20000
attribute [local irreducible] nv wp win plainB validR valR canR mvE chkM codeC smK alk badP nrm eqN eqZ blks firS isF cntB ixB kept dnK movP movB rateB
/-! ## the reference: Quotient of a stable partition -/
theorem AnsC.toR {code : Int} {x : Chn} {X : Value} {w : World} (h : AnsC errM code x (.returned (.tuple #[X, .nilIface])) w) (h0 : code = 0) : AnsC (.int .i64) code x (.returned (.tuple #[X, .int .i64 0])) w := by
  obtain ⟨A, a, B, b, e, hc⟩ := h
  refine ⟨A, a, B, b, ?_, hc⟩
  have e : Value.tuple #[X, .nilIface] = .tuple #[cv x.st x.sr A x.nm a B x.nd b, errM code] := by injection e
  have e : #[X, Value.nilIface] = #[cv x.st x.sr A x.nm a B x.nd b, errM code] := by injection e
  have e : X = cv x.st x.sr A x.nm a B x.nd b := by
    have := congrArg (fun l : Array Value => l[0]?) e
    simpa using this
  rw [e, h0]
set_option maxHeartbeats 64000000 in
theorem lrQuo_ok {w : World} {AM AD AV : Option Addr} {cm cd ca : Nat} {c : Chn} {P : Nat → Int} (h : ChI w w.heap.size AM cm AD cd c) (hs : ChS c 400) (hv : PaI w AV c.nd P) (hca : c.nd ≤ ca)
    (hsz : c.Ok → ∀ p s d k, k ≤ c.nm → Sz 400 (intoQ c.f c.t c.q k p s d)) (h0 : c.codeL c.nd P = 0) (hst : StaB c.f c.t c.q c.nm c.nd (prt P)) :
    Calls Tryz.prog 13 #[cv c.st c.sr AM c.nm cm AD c.nd cd, .slice AV c.nd ca] w fun e w' => AnsC (.int .i64) (c.codeQ c.nd P) (c.quoE c.nd P) e w' ∧ Below w.heap.size w w' := by
  obtain ⟨hc0, -, hin⟩ := Chn.codeL_0 h0
  have ok := Chn.ok_iff.1 hc0
  have hpp := prt_is hin
  have hn1 := ok.lo
  have hn2 := ok.hi
  have hstd := ok.st
  obtain ⟨p, hp⟩ : ∃ p, p = prt P := ⟨_, rfl⟩
  rw [← hp] at hst hpp
  have hE := relP_eqv p
  have hsr0 := ok.s0
  have hsr1 := ok.s1
  obtain ⟨s, hsr⟩ : ∃ s : Nat, c.sr = (s : Int) := ⟨c.sr.toNat, by omega⟩
  have hsl : s < c.nd := by omega
  have hSt9 := fun W (hb : Below w.heap.size w W) => lrStable_any (ca := ca) (h.below hb) hs (hv.below hb) (by omega) hsz
  have K1 : Hid (∀ W, Below w.heap.size w W → Calls Tryz.prog 26 #[cv c.st c.sr AM c.nm cm AD c.nd cd, .slice AV c.nd ca] W fun e w' => e = .returned (.tuple #[.bool true, .agg #[.int .i64 0, .int .i64 0], .int .i64 0]) ∧ Below W.heap.size W w') := fun W hb =>
    (hSt9 W hb).mono fun e w' ⟨⟨ok, x, y, h1, h3, _⟩, h2⟩ => by
      have h5 := h3 h0
      have h4 := (pr_sta h5).2 (by rw [← hp]; exact hst)
      rcases h5 with ⟨g1, g2, g3, -⟩ | ⟨g1, -⟩
      · rw [g1, g2, g3, h0] at h1
        exact ⟨h1, h2⟩
      · rw [g1] at h4; cases h4
  obtain ⟨m, hm⟩ : ∃ m, m = blks c.nd p := ⟨_, rfl⟩
  have hmc : m = cntB (isF (relP p)) c.nd := hm.trans (by unfold blks; rfl)
  have hm1 : m ≤ c.nd := by rw [hm]; exact blks_le
  have hm0 : 0 < m := by rw [hm]; exact blks_pos (by omega)
  obtain ⟨N, hN⟩ : ∃ N : Nat → Nat, N = nrm (relP p) := ⟨_, rfl⟩
  obtain ⟨fs, hfs⟩ : ∃ fs : Nat → Nat, fs = firS (relP p) := ⟨_, rfl⟩
  obtain ⟨ix, hix⟩ : ∃ ix : Nat → Nat, ix = ixB (isF (relP p)) c.nd := ⟨_, rfl⟩
  obtain ⟨rt, hrt⟩ : ∃ rt : Nat → Nat → Rat, rt = rateB c.f c.t c.q c.nm c.nd N := ⟨_, rfl⟩
  obtain ⟨L, hL⟩ : ∃ L : Nat → Nat → List (Nat × Nat), L = movP c.f c.t c.q c.nm c.nd N m := ⟨_, rfl⟩
  obtain ⟨DK, hDK⟩ : ∃ DK : Nat → Nat → Bool, DK = dnK c.D (relP p) c.nd := ⟨_, rfl⟩
  obtain ⟨D, hD⟩ : ∃ D : Nat → Bool, D = c.D := ⟨_, rfl⟩
  have HNL : Hid (∀ i, i < c.nd → N i < m) := fun i hi => by rw [hN, hmc]; exact nrm_lt hE hi
  have HFL : Hid (∀ i, i < c.nd → fs i < c.nd) := fun i hi => by rw [hfs]; exact fir_lt hE hi
  have HIL : Hid (∀ b, b < m → ix b < c.nd) := fun b hb => by rw [hix]; exact (ixB_lt (by rw [← hmc]; exact hb)).1
  have HRN : Hid (∀ b t, 0 ≤ rt b t) := by
    rw [hrt]
    exact fun b t => rateB_nn (fun k hk => Rat.le_of_lt (ok.mv k hk).2.2.2.2.2.1) b t
  have HL0 : Hid (L 0 0 = []) := by rw [hL]; exact movP_0
  have HLR : Hid (∀ b, L b m = L (b + 1) 0) := by rw [hL]; exact fun b => movP_row
  have HLY : Hid (∀ b t, b ≠ t → rt b t ≠ 0 → L b (t + 1) = L b t ++ [(b, t)]) := by rw [hL, hrt]; exact fun b t h1 h2 => movP_yes ⟨h1, h2⟩
  have HLN : Hid (∀ b t, ¬ (b ≠ t ∧ rt b t ≠ 0) → L b (t + 1) = L b t) := by rw [hL, hrt]; exact fun b t h1 => movP_no h1
  have HLB : Hid (∀ b t, b < m → t ≤ m → (L b t).length ≤ 65536) := by rw [hL]; exact fun b t h1 h2 => movP_bd (by omega) h1 h2
  have HLE : Hid (L m 0 = movB c.f c.t c.q c.nm c.nd N m) := by rw [hL]; exact movP_end
  have HD0 : Hid (DK 0 = fun _ => false) := by rw [hDK]; exact dnK_0
  have HDS : Hid (∀ k, k < c.nd → D k = D (fs k) → upd (DK k) (N k) (D k) = DK (k + 1)) := by rw [hDK, hN, hD, hfs]; exact fun k hk e => dnK_step hE hk e
  have HDE : Hid (∀ b, b < m → DK c.nd b = D (ix b)) := by
    rw [hDK, hix, hD]
    intro b hb
    unfold dnK
    rw [if_pos (by rw [← hmc]; exact hb)]
  have HQ7 : Hid (∀ k, k < c.nd → D k ≠ D (fs k) → c.codeQ c.nd P = 7) := by
    rw [hD, hfs]
    exact fun k hk e => Chn.codeQ_7 h0 (by rw [← hp]; exact hst) (fun ho => e (by rw [← hp] at ho; exact ho k hk))
  have HQ0 : Hid ((∀ k, k < c.nd → D k = D (fs k)) → c.codeQ c.nd P = 0) := by
    rw [hD, hfs]
    exact fun e => Chn.codeQ_z h0 (by rw [← hp]; exact hst) (by rw [← hp]; exact e)
  have HQX := Lib.hid (fun (e : c.codeQ c.nd P = 7) => Chn.quoE_n (c := c) (n := c.nd) (P := P) (by rw [e]; omega))
  obtain ⟨Z, hZ⟩ : ∃ Z : Nat → Int, Z = fun i => ((N i : Nat) : Int) := ⟨_, rfl⟩
  have HZE : Hid (∀ i, Z i = ((N i : Nat) : Int)) := by rw [hZ]; exact fun _ => rfl
  obtain ⟨B, hB⟩ : ∃ B : Nat → Bool, B = isF (relP p) := ⟨_, rfl⟩
  obtain ⟨cs, hcs⟩ : ∃ cs : Nat → Nat, cs = cntB (isF (relP p)) := ⟨_, rfl⟩
  have HC0 : Hid (cs 0 = 0) := by show cs 0 = 0; rw [hcs]; exact cntB_zero
  have HCN : Hid (cs c.nd = m) := by show cs c.nd = m; rw [hcs, hmc]
  have HCL : Hid (∀ k, cs k ≤ k) := fun k => by rw [hcs]; exact cntB_le
  have HNW : Hid (∀ k, k < c.nd → B k = true → N k = cs k ∧ cs (k + 1) = cs k + 1 ∧ ix (cs k) = k ∧ fs k = k) := fun k hk hf => by
    rw [hB] at hf
    rw [hN, hcs, hix, hfs]
    exact ⟨(nrm_fir hf).1, cntB_yes hf, ixB_new hk hf, (nrm_fir hf).2⟩
  have HOL : Hid (∀ k, k < c.nd → B k = false → N k < cs k ∧ cs (k + 1) = cs k ∧ ix (N k) = fs k) := fun k hk hf => by
    rw [hB] at hf
    rw [hN, hcs, hix, hfs]
    exact ⟨(ixF_old hE hf).1, cntB_no hf, ix_nrm hE hk⟩
  have HSZ : Hid (∀ a b, Sz 400 (rt a b)) := fun a b => by
    rw [hrt]
    unfold rateB
    exact hsz ok N _ b c.nm (Nat.le_refl _)
  have K2 : Hid (∀ W, Below w.heap.size w W → Calls Tryz.prog 46 #[.slice AV c.nd ca] W fun e w' => (∃ A' c', e = .returned (.slice A' c.nd c') ∧ PaI w' A' c.nd Z) ∧ Below W.heap.size W w') := fun W hb =>
    (lrNorm_any (c := ca) (hv.below hb) (fun i hi => (hpp i hi).1) (by omega) hca).mono fun e w' ⟨⟨A', c', e1, _, e2⟩, e3⟩ => ⟨⟨A', c', e1, by rw [hZ, hN]; exact e2.pa⟩, e3⟩
  have KIN : Hid (∀ W A c' a b, Below w.heap.size w W → PaI W A c.nd Z → a < m → Calls Tryz.prog 47 #[cv c.st c.sr AM c.nm cm AD c.nd cd, .slice A c.nd c', .int .i64 ((ix a : Nat) : Int), .int .i64 ((b : Nat) : Int)] W fun e w' => (∃ v, e = .returned v ∧ RdS w' 0 v (canR (rt a b))) ∧ Below W.heap.size W w') := fun W A c' a b hb hA ha => by
    have := rintoS_any (p := N) (s := ix a) (d := b) (ca := c') (h.below hb) ok hs hA (fun i _ => by rw [hZ]) (fun k hk => hsz ok N (ix a) b k hk)
    have e : rt a b = intoQ c.f c.t c.q c.nm N (ix a) b := by
      rw [hrt, hix]
      unfold rateB
      rw [hN, relP_nrm hE]
    rw [e]
    exact this
  have HFIN : Hid (∀ W b0 Ao co d A9, c.codeQ c.nd P = 0 → b0 ≤ W.heap.size → OwL W b0 Ao co (L m 0) rt → OwB W 0 A9 d m (fun b => D (ix b)) → AnsC (.int .i64) (c.codeQ c.nd P) (c.quoE c.nd P) (.returned (.tuple #[cv (m : Int) (Z s) Ao (L m 0).length co A9 m d, .int .i64 0])) W) := by
    intro W b0 Ao co d A9 g0 g1 g2 g3
    have e1 : Z s = ((nrm (relP p) c.sr.toNat : Nat) : Int) := by rw [hZ, hN, hsr]; rfl
    rw [HLE.out] at g2 ⊢
    rw [e1]
    rw [hN] at g2 ⊢
    rw [hrt, hN] at g2
    rw [hix, hD] at g3
    rw [hm] at g2 g3 ⊢
    exact (quo_ans hp g0 g1 g2 g3 rfl).toR g0
  have HDN := Lib.hid (fun k (hk : k < c.nd) => (by
    obtain ⟨b, off, e, e1, -, e2⟩ := h.down hk
    exact ⟨b, off, e, e1, by rw [hD]; exact e2⟩ : ∃ b off, AD = some ⟨b, off, none⟩ ∧ b < w.heap.size ∧ w.cell? ⟨b, off + k, none⟩ = some (.bool (D k))))
  have hcd := h.cd
  obtain ⟨bd, od, rfl, hbd, -⟩ := HDN.out 0 (by omega)
  have HDC : Hid (∀ W, Below w.heap.size w W → ∀ k, k < c.nd → W.cell? ⟨bd, od + k, none⟩ = some (.bool (D k))) := fun W hb k hk => by
    obtain ⟨b', off', e, hlt, e2⟩ := HDN.out k hk
    cases e
    exact (hb.cell (p := ⟨bd, od + k, none⟩) hlt).trans e2
  rw [hsr, hstd] at K1 KIN
  rw [hsr, hstd]
  clear HDN h hs hv hsz h0 hst hp hpp hE hin hc0 ok hm hmc hN hfs hix hcs hB hSt9 hrt hL hDK hD hZ hsr hstd hsr0 hsr1
  go_enter Tryz.func13, Tryz.ntmps13
  (go_wp2_with fail; (with_reducible refine (K1.out _ (by (skip); repeat' (first | (with_reducible exact Below.refl _ _) | (with_reducible assumption) | (with_reducible refine Below.alloc ?_ ?_ _) | (with_reducible refine Below.drew ?_) | (with_reducible refine below_drewN ?_ _) | (with_reducible refine Below.setCell ?_ ?_ _) | (with_reducible refine Below.trans ?_ (Below.mono (by with_reducible assumption) ?_)) | omega | (simp only [ZA, ZS, ZD, ZN]; omega) | go_size))).mono ?_); rintro e w1 ⟨rfl, hb1⟩; have hb1z := Below.size hb1; (try simp only [ZA, ZS, ZD, ZN] at hb1z); have hb1c0 := fun o => below_at hb1 (w.heap.size) o (by first | omega | (simp only [ZA, ZS, ZD, ZN]; omega)); have hb1f0 := fun o => below_fr hb1 (w.heap.size) o (by first | omega | (simp only [ZA, ZS, ZD, ZN]; omega)); have hb1c1 := fun o => below_at hb1 (w.heap.size + 1) o (by first | omega | (simp only [ZA, ZS, ZD, ZN]; omega)); have hb1f1 := fun o => below_fr hb1 (w.heap.size + 1) o (by first | omega | (simp only [ZA, ZS, ZD, ZN]; omega)))
  have hB1 : Below w.heap.size w w1 := (((Below.refl _ _).alloc (Nat.le_refl _) _).alloc (by simp) _).trans (hb1.mono (by simp; omega))
  have y0 : w1.cell? ⟨w.heap.size, 0, none⟩ = some (.int .i64 (c.nd : Int)) := by rw [hb1c0, World.cell?_alloc_past _ _ _ (by simp), World.cell?_alloc_at _ _ _ _ rfl]; rfl
  have y1 : w1.cell? ⟨w.heap.size, 1, none⟩ = some (.int .i64 (s : Int)) := by rw [hb1c0, World.cell?_alloc_past _ _ _ (by simp), World.cell?_alloc_at _ _ _ _ rfl]; rfl
  have y2 : w1.cell? ⟨w.heap.size, 2, none⟩ = some (.slice AM c.nm cm) := by rw [hb1c0, World.cell?_alloc_past _ _ _ (by simp), World.cell?_alloc_at _ _ _ _ rfl]; rfl
  have y3 : w1.cell? ⟨w.heap.size, 3, none⟩ = some (.slice (some ⟨bd, od, none⟩) c.nd cd) := by rw [hb1c0, World.cell?_alloc_past _ _ _ (by simp), World.cell?_alloc_at _ _ _ _ rfl]; rfl
  have ores : OutB w1 (w.heap.size + 1) 0 0 none 0 0 none 0 0 := by
    have h9 := OutB.new (w.alloc (.cells #[.int .i64 (c.nd : Int), .int .i64 (s : Int), .slice AM c.nm cm, .slice (some ⟨bd, od, none⟩) c.nd cd] 25)) 0 0 none 0 0 none 0 0
    rw [World.size_alloc] at h9
    exact h9.below hb1 (by simp)
  have hz1 : w.heap.size + 1 < w1.heap.size := ores.lt
  have HB1 := Lib.hid hB1
  have HO1 := Lib.hid ores
  clear hB1 hb1 hb1c0 hb1c1 hb1f0 hb1f1 ores
  (go_wp2_with fail; (with_reducible refine (K2.out _ (by have := HB1.out; exact (by have z0 := Below.size this; (try simp only [ZA, ZS, ZD, ZN] at z0 ⊢; skip); repeat' (first | (with_reducible exact Below.refl _ _) | (with_reducible assumption) | (with_reducible refine Below.alloc ?_ ?_ _) | (with_reducible refine Below.drew ?_) | (with_reducible refine below_drewN ?_ _) | (with_reducible refine Below.setCell ?_ ?_ _) | (with_reducible refine Below.trans ?_ (Below.mono (by with_reducible assumption) ?_)) | omega | (simp only [ZA, ZS, ZD, ZN]; omega) | go_size)))).mono ?_); rintro e w2 ⟨⟨A2, c2, rfl, pa2⟩, hb2⟩; have hb2z := Below.size hb2; (try simp only [ZA, ZS, ZD, ZN] at hb2z))
  have h12 : Below w1.heap.size w1 w2 := (by have z0 := Below.size hb2; (try simp only [ZA, ZS, ZD, ZN] at z0 ⊢; skip); repeat' (first | (with_reducible exact Below.refl _ _) | (with_reducible assumption) | (with_reducible refine Below.alloc ?_ ?_ _) | (with_reducible refine Below.drew ?_) | (with_reducible refine below_drewN ?_ _) | (with_reducible refine Below.setCell ?_ ?_ _) | (with_reducible refine Below.trans ?_ (Below.mono (by with_reducible assumption) ?_)) | omega | (simp only [ZA, ZS, ZD, ZN]; omega) | go_size))
  have HP2 := Lib.hid pa2
  have H12 := Lib.hid h12
  obtain ⟨b2, o2, rfl, hb2l, n0⟩ := pa2.later (Below.refl _ _) hsl
  have hz2 := h12.size
  have y1' := (h12.cell (p := ⟨w.heap.size, 1, none⟩) (by show w.heap.size < _; omega)).trans y1
  clear hb2 h12 pa2
  have hsn : (s : Int) < (c.nd : Int) := by omega
  have hs0 : (0 : Int) ≤ (s : Int) := by omega
  go_wp2
  obtain ⟨W3, hW3⟩ : ∃ W3, W3 = w2.alloc (.cells #[.int .i64 0, .int .i64 (Z s), .slice none 0 0, .slice none 0 0] 25) := ⟨_, rfl⟩
  rw [← hW3]
  obtain ⟨G, hG⟩ : ∃ G : Nat → Int, G = fun j => ((ix j : Nat) : Int) := ⟨_, rfl⟩
  obtain ⟨DX, hDX⟩ : ∃ DX : Nat → Bool, DX = fun b => D (ix b) := ⟨_, rfl⟩
  have HG : Hid (∀ j, G j = ((ix j : Nat) : Int)) := fun j => by rw [hG]
  have HDX : Hid (∀ j, DX j = D (ix j)) := fun j => by rw [hDX]
  have HDXE := Lib.hid hDX
  clear hG hDX
  have hout : OutB W3 w2.heap.size 0 (Z s) none 0 0 none 0 0 := by rw [hW3]; exact OutB.new _ _ _ _ _ _ _ _ _
  have hb3 : Below w2.heap.size w2 W3 := by rw [hW3]; exact (Below.refl _ _).alloc (Nat.le_refl _) _
  have hz3 : W3.heap.size = w2.heap.size + 1 := by rw [hW3]; simp
  have HOUT := Lib.hid hout
  have HB3 := Lib.hid hb3
  have HZ3 := Lib.hid hz3
  clear hout hb3 hz3 hW3 n0 y1'
  go_loopw [41, 11] (fun i fv wr => ∃ (k : Nat) (A1 : Option Addr) (d1 : Nat) (A3 : Option Addr) (d3 : Nat), k ≤ c.nd ∧ i = .int .i64 (k : Int) ∧ fv = .slice A1 (cs k) d1 ∧ (∀ j, j < k → D j = D (fs j)) ∧ OwZ wr (w2.heap.size + 1) A1 d1 (cs k) G ∧ OwB wr (w2.heap.size + 1) A3 d3 (cs k) DX ∧ OutB wr w2.heap.size 0 (Z s) none 0 0 A3 (cs k) d3 ∧ Below w2.heap.size w2 wr ∧ w2.heap.size + 1 ≤ wr.heap.size) (fun i _ _ => c.nd - (intOf i).toNat)
  case atStart => exact ⟨0, none, 0, none, 0, Nat.zero_le _, rfl, by rw [HC0.out], fun j hj => by omega, by rw [HC0.out]; exact OwZ.nil_ _ _ _, by rw [HC0.out]; exact OwB.nil_ _ _ _, by rw [HC0.out]; exact HOUT.out, HB3.out, by have := HZ3.out; omega⟩
  case round =>
    clear HOUT HB3
    obtain ⟨k, A1, d1, A3, d3, hk, rfl, rfl, hall, ownF, ownD, hou, hbw2, hzr⟩ := hrel
    have hbw1 : Below w1.heap.size w1 wr := H12.out.trans (hbw2.mono hz2)
    have hbw : Below w.heap.size w wr := HB1.out.trans (hbw1.mono (by omega))
    have q3 := (hbw1.cell (p := ⟨w.heap.size, 3, none⟩) (by show w.heap.size < _; omega)).trans y3
    have HALL := Lib.hid hall
    have hol := hou.lt
    clear hall
    by_cases hlt : k < c.nd
    · obtain ⟨b', off', ee, hn2l, n1⟩ := HP2.out.later hbw2 hlt
      cases ee
      rw [HZE.out k] at n1
      have d1' := HDC.out wr hbw k hlt
      have hki : (k : Int) < (c.nd : Int) := by omega
      have hk0 : (0 : Int) ≤ (k : Int) := by omega
      have hcl := HCL.out k
      have hwl : w.heap.size < wr.heap.size := by have := hbw1.size; omega
      have hbdl : bd < wr.heap.size := by have := hbw.size; omega
      obtain ⟨-, -, -, v3⟩ := hou.cells
      have vf := hou.frz 3
      cases hB : B k
      · obtain ⟨hN1, hc1, hi1⟩ := HOL.out k hlt hB
        have HC1 := Lib.hid hc1
        generalize hn : cs k = n at *
        obtain ⟨y, hy⟩ : ∃ y, y = N k := ⟨_, rfl⟩
        rw [← hy] at n1 hN1 hi1
        have e1 : ((y : Int) == (n : Int)) = false := by simp; omega
        rcases ownD.2 with ⟨_, h⟩ | ⟨g3, cap, cur, e, _, hg3, -⟩
        · omega
        · injection e with e1' e2' e3'
          subst e1' e3'
          have dg := ownD.at_ hN1
          rw [HDX.out y, hi1] at dg
          have hyi : (y : Int) < (n : Int) := by omega
          have hy0 : (0 : Int) ≤ (y : Int) := by omega
          obtain ⟨p1, hp1⟩ : ∃ p1, p1 = D k := ⟨_, rfl⟩
          obtain ⟨p2, hp2⟩ : ∃ p2, p2 = D (fs k) := ⟨_, rfl⟩
          rw [← hp1] at d1'
          rw [← hp2] at dg
          have HPP := Lib.hid (And.intro hp1 hp2)
          have HF := Lib.hid ownF
          have HD3 := Lib.hid ownD
          have HOU := Lib.hid hou
          have HBW := Lib.hid hbw2
          have HBW0 := Lib.hid hbw
          have h7 := HQ7.out k hlt
          rw [← hp1, ← hp2] at h7
          have H7 := Lib.hid h7
          have hor := HO1.out.below hbw1 hz1
          have HOR := Lib.hid hor
          have HNn := Lib.hid hn
          clear hp1 hp2 ownF ownD hou hbw2 hbw hbw1 h7 hor hn hy hi1 hg3 hc1
          by_cases hpp : p1 = p2
          · have HPE := Lib.hid hpp
            subst hpp
            have e2 : (p1 != p1) = false := by simp
            go_wp2
            go_region
            go_wp2
            go_roundw
            case rel =>
              refine ⟨k + 1, A1, d1, _, _, by omega, by go_num, by rw [HC1.out], fun j hj => ?_, by rw [HC1.out]; exact ownsRow_heap HF.out rfl, by rw [HC1.out]; exact ownsRow_heap HD3.out rfl, by rw [HC1.out]; exact HOU.out, by have h9 := HBW.out; exact (by have z0 := Below.size h9; (try simp only [ZA, ZS, ZD, ZN] at z0 ⊢; skip); repeat' (first | (with_reducible exact Below.refl _ _) | (with_reducible assumption) | (with_reducible refine Below.alloc ?_ ?_ _) | (with_reducible refine Below.drew ?_) | (with_reducible refine below_drewN ?_ _) | (with_reducible refine Below.setCell ?_ ?_ _) | (with_reducible refine Below.trans ?_ (Below.mono (by with_reducible assumption) ?_)) | omega | (simp only [ZA, ZS, ZD, ZN]; omega) | go_size)), hzr⟩
              by_cases e : j = k
              · rw [e, ← HPP.out.1, HPP.out.2]
              · exact HALL.out j (by omega)
            case measure => simp [intOf]; omega
          · have HPE := Lib.hid hpp
            have e2 : (p1 != p2) = true := by rw [bne_iff_ne]; exact hpp
            have e3 : (p1 == p2) = false := by rw [beq_eq_false_iff_ne]; exact hpp
            obtain ⟨r0, r1, r2, r3⟩ := HOR.out.cells
            have rf := HOR.out.frz
            clear hpp
            go_wp2
            go_region
            go_wp2
            (try simp only [Exit.inBlock, Exit.then])
            have h7 := H7.out HPE.out
            refine bodyPost_ret (v := .tuple #[cv 0 0 none 0 0 none 0 0, .int .i64 7]) ?_ rfl ⟨AnsC.err (HQX.out h7) (by rw [h7]), ?_⟩
            · rw [results_cell_tmp rfl]
              go_simp
            · have h9 := HBW0.out
              exact (by have z0 := Below.size h9; (try simp only [ZA, ZS, ZD, ZN] at z0 ⊢; skip); repeat' (first | (with_reducible exact Below.refl _ _) | (with_reducible assumption) | (with_reducible refine Below.alloc ?_ ?_ _) | (with_reducible refine Below.drew ?_) | (with_reducible refine below_drewN ?_ _) | (with_reducible refine Below.setCell ?_ ?_ _) | (with_reducible refine Below.trans ?_ (Below.mono (by with_reducible assumption) ?_)) | omega | (simp only [ZA, ZS, ZD, ZN]; omega) | go_size))
      · obtain ⟨hN1, hc1, hi1, hf1⟩ := HNW.out k hlt hB
        have HC1 := Lib.hid hc1
        rw [hN1] at n1
        generalize hn : cs k = n at *
        obtain ⟨p1, hp1⟩ : ∃ p1, p1 = D k := ⟨_, rfl⟩
        have hgn : G n = (k : Int) := by rw [HG.out, hi1]
        have hdn : DX n = p1 := by rw [HDX.out, hi1, hp1]
        rw [← hp1] at d1'
        have HGN := Lib.hid hgn
        have HDN9 := Lib.hid hdn
        have HFS : Hid (D k = D (fs k)) := by show D k = D (fs k); rw [hf1]
        have hal : Below wr.heap.size wr (wr.alloc (.cells #[.int .i64 (k : Int)] 3)) := (Below.refl _ _).alloc (Nat.le_refl _) _
        have HAL := Lib.hid hal
        have HF := Lib.hid ownF
        have HD3 := Lib.hid ownD
        have HOU := Lib.hid hou
        have HBW := Lib.hid hbw2
        have e1 : ((n : Int) == (n : Int)) = true := by simp
        have hnk : n ≤ k := by omega
        clear hN1 hc1 hi1 hf1 hgn hdn hal ownF ownD hou hbw2 hbw hbw1 hn hp1 v3 vf q3
        go_wp2_with (first | (at_builtin; refine wpList_appZ rfl (.tmp 50) (.tmp 52) rfl (w2.heap.size + 1) A1 d1 n G (by first | rfl | simp [Act.eval]) (HF.out.below HAL.out) wr.heap.size (by first | rfl | simp [Act.eval]) (by rw [HGN.out]; simp) (by omega) (by first | omega | (simp; omega)) ?_; intro g5 c5 w5 own5 hgr5 hfr5 hlt5) | fail)
        have hrT := (HF.out.below HAL.out).rowT
        have ho5 := (HOU.out.below HAL.out hol).grown hgr5 (hrT.ne (HOU.out.below HAL.out hol).ty (by decide))
        have hD5 : OwB w5 (w2.heap.size + 1) A3 d3 n DX := ownsRow_grown (HD3.out.below HAL.out) hgr5 hrT (by decide)
        have hbw2 : Below w2.heap.size w2 w5 := (HBW.out.trans (HAL.out.mono (by omega))).trans (below_of_row hgr5 (fun k hk => by have := (hrT k hk).1; omega) (by simp; omega))
        have hbw1 : Below w1.heap.size w1 w5 := H12.out.trans (hbw2.mono hz2)
        have hbw : Below w.heap.size w w5 := HB1.out.trans (hbw1.mono (by omega))
        have q3 := (hbw1.cell (p := ⟨w.heap.size, 3, none⟩) (by show w.heap.size < _; omega)).trans y3
        have d5 : w5.cell? ⟨bd, od + k, none⟩ = some (.bool p1) := (HDC.out w5 hbw k hlt).trans (by have := HDC.out wr (HB1.out.trans ((H12.out.trans (HBW.out.mono hz2)).mono (by omega))) k hlt; rw [← this]; exact d1')
        obtain ⟨-, -, -, v3⟩ := ho5.cells
        have vf := ho5.frz 3
        have hzz := hgr5.size
        simp only [World.size_alloc] at hzz
        have hol5 : w2.heap.size < w5.heap.size := by omega
        have hwl5 : w.heap.size < w5.heap.size := by omega
        have hbdl5 : bd < w5.heap.size := by omega
        have HN1 := Lib.hid (hD5.rowT.ne ho5.ty (by decide))
        have hNE2 : some w.heap.size ≠ (Value.slice A3 n d3).ownBlock := fun e => by have := (hD5.rowT _ e.symm).1; omega
        have hNE3 : some bd ≠ (Value.slice A3 n d3).ownBlock := fun e => by have := (hD5.rowT _ e.symm).1; have := hbd; omega
        have HNE2 := Lib.hid hNE2
        have HNE3 := Lib.hid hNE3
        have HO5 := Lib.hid ho5
        have HD5 := Lib.hid hD5
        have HF5 := Lib.hid own5
        have HB5 := Lib.hid hbw2
        clear hrT ho5 hD5 hbw2 hbw1 hbw hNE2 hNE3 own5 hgr5 hfr5 d1' n1
        have ne1 : ¬ (w2.heap.size = w.heap.size) := by omega
        have ne2 : ¬ (w2.heap.size = bd) := by omega
        rw [ld_later 23 (.tmp 54)]
        go_region_held3 (fun W => W.cell? ⟨w.heap.size, 3, none⟩ = some (.slice (some ⟨bd, od, none⟩) c.nd cd) ∧ W.cell? ⟨bd, od + k, none⟩ = some (.bool p1)) (go_keep)
          (first | (refine step_appBo (by rfl) (.tmp 55) (.tmp 61) (by rfl) (w2.heap.size + 1) A3 d3 n DX (by rfl) (HD5.out.below (by (skip); repeat' (first | (with_reducible exact Below.refl _ _) | (with_reducible assumption) | (with_reducible refine Below.alloc ?_ ?_ _) | (with_reducible refine Below.drew ?_) | (with_reducible refine below_drewN ?_ _) | (with_reducible refine Below.setCell ?_ ?_ _) | (with_reducible refine Below.trans ?_ (Below.mono (by with_reducible assumption) ?_)) | omega | (simp only [ZA, ZS, ZD, ZN]; omega) | go_size))) w5.heap.size (by rfl) (by rw [HDN9.out]; simp) (by omega) (by simp; omega) ?_; intro g6 c6 w6 own6 hgr6 hfr6 hlt6; (have hbX : Below w5.heap.size w5 ((w5.alloc (.cells #[.bool p1] 4)).drew) := (by (skip); repeat' (first | (with_reducible exact Below.refl _ _) | (with_reducible assumption) | (with_reducible refine Below.alloc ?_ ?_ _) | (with_reducible refine Below.drew ?_) | (with_reducible refine below_drewN ?_ _) | (with_reducible refine Below.setCell ?_ ?_ _) | (with_reducible refine Below.trans ?_ (Below.mono (by with_reducible assumption) ?_)) | omega | (simp only [ZA, ZS, ZD, ZN]; omega) | go_size))); (have hx6 := (hgr6.cell_far ⟨w2.heap.size, 3, none⟩ (by simp; omega) HN1.out).trans ((hbX.cell (p := ⟨w2.heap.size, 3, none⟩) hol5).trans v3)); (have hy6 := (hgr6.frozen_far ⟨w2.heap.size, 3, none⟩ (by simp; omega) HN1.out).trans ((hbX.frozen (p := ⟨w2.heap.size, 3, none⟩) hol5).trans vf)); (have m0 := (hgr6.cell_far ⟨w.heap.size, 3, none⟩ (by simp; omega) HNE2.out).trans ((hbX.cell (p := ⟨w.heap.size, 3, none⟩) hwl5).trans q3)); (have m1 := (hgr6.cell_far ⟨bd, od + k, none⟩ (by simp; omega) HNE3.out).trans ((hbX.cell (p := ⟨bd, od + k, none⟩) hbdl5).trans d5))) | fail)
        all_goals
          have hT6 := (HD5.out.below hbX).rowT
          have ho6 := (HO5.out.below hbX hol5).grown hgr6 HN1.out
          have HO7 := Lib.hid (ho6.setD (some ⟨g6, 0, none⟩) (n + 1) c6)
          have HD7 := Lib.hid (show OwB (w6.setCell ⟨w2.heap.size, 3, none⟩ (.slice (some ⟨g6, 0, none⟩) (n + 1) c6)) _ _ _ _ _ from ownsRow_set own6 ho6.ty (by decide) 3 _)
          have HF7 := Lib.hid (show OwZ (w6.setCell ⟨w2.heap.size, 3, none⟩ (.slice (some ⟨g6, 0, none⟩) (n + 1) c6)) _ _ _ _ _ from ownsRow_set (ownsRow_grown (HF5.out.below hbX) hgr6 hT6 (by decide)) ho6.ty (by decide) 3 _)
          have hgb := (World.ownsRow.lt own6 g6 rfl).1
          have m2 : w6.cell? ⟨g6, n, none⟩ = some (.bool p1) := by
            have := own6.at_ (show n < n + 1 by omega)
            rw [HDN9.out] at this
            exact this
          have hb6 : Below w2.heap.size w2 w6 := (HB5.out.trans (hbX.mono (by omega))).trans (below_of_row hgr6 (fun k hk => by have := (hT6 k hk).1; omega) (by simp; omega))
          have hz6 : w2.heap.size + 1 ≤ w6.heap.size := by have := hgr6.size; simp at this; omega
          have HB6 := Lib.hid hb6
          have ne3 : ¬ (w2.heap.size = g6) := by omega
          have ne4 : ¬ (g6 = w2.heap.size) := by omega
          have hnn : (n : Int) < (n : Int) + 1 := by omega
          have e2 : (p1 != p1) = false := by simp
          clear hT6 ho6 own6 hgr6 hfr6 hbX hb6 hx6 hy6
          have mx : (w6.setCell ⟨w2.heap.size, 3, none⟩ (.slice (some ⟨g6, 0, none⟩) (n + 1) c6)).cell? ⟨w2.heap.size, 3, none⟩ = some (.slice (some ⟨g6, 0, none⟩) (n + 1) c6) := HO7.out.cells.2.2.2
          go_wp2
          go_region
          go_wp2
          go_roundw
          case rel =>
            refine ⟨k + 1, _, _, _, _, by omega, by go_num, by rw [HC1.out], fun j hj => ?_, by rw [HC1.out]; exact ownsRow_heap HF7.out rfl, by rw [HC1.out]; exact ownsRow_heap HD7.out rfl, by rw [HC1.out]; exact HO7.out, by have h9 := HB6.out; exact (by have z0 := Below.size h9; (try simp only [ZA, ZS, ZD, ZN] at z0 ⊢; skip); repeat' (first | (with_reducible exact Below.refl _ _) | (with_reducible assumption) | (with_reducible refine Below.alloc ?_ ?_ _) | (with_reducible refine Below.drew ?_) | (with_reducible refine below_drewN ?_ _) | (with_reducible refine Below.setCell ?_ ?_ _) | (with_reducible refine Below.trans ?_ (Below.mono (by with_reducible assumption) ?_)) | omega | (simp only [ZA, ZS, ZD, ZN]; omega) | go_size)), by simp; omega⟩
            by_cases e : j = k
            · rw [e, HFS.out]
            · exact HALL.out j (by omega)
          case measure => simp [intOf]; omega
    · have hkn : k = c.nd := by omega
      subst hkn
      generalize hn : cs c.nd = n at *
      have hmn : m = n := HCN.out.symm
      subst hmn
      rcases ownF.2 with ⟨_, h⟩ | ⟨g1, cap, cur, e, hg1, hg2, -⟩
      · omega
      · injection e with e1' e2' e3'
        subst e1' e3'
        have hbs : Below w2.heap.size w2 (wr.setCell ⟨w2.heap.size, 0, none⟩ (.int .i64 (m : Int))) := hbw2.setCell (by show _ ≤ w2.heap.size; exact Nat.le_refl _) _
        have hou9 := hou.setS (m : Int)
        have hqi : QInv w2 (wr.setCell ⟨w2.heap.size, 0, none⟩ (.int .i64 (m : Int))) w2.heap.size (w2.heap.size + 1) (m : Int) (Z s) (L 0 0) rt none 0 A3 d3 m DX := ⟨hbs, Nat.le_refl _, by omega, by simp; omega, by rw [HL0.out]; exact hou9, by rw [HL0.out]; exact OwL.nil_ _ _ _, ownsRow_set (own_base ownD (Nat.zero_le _)) hou.ty (by decide) 0 _, fun q hq => by have := (ownD.rowT q hq).1; omega⟩
        have hof : OwZ (wr.setCell ⟨w2.heap.size, 0, none⟩ (.int .i64 (m : Int))) (w2.heap.size + 1) (some ⟨g1, 0, none⟩) d1 m G := ownsRow_set ownF hou.ty (by decide) 0 _
        obtain ⟨v0, -, -, v3⟩ := hou.cells
        have vf := hou.frz
        have HQI := Lib.hid hqi
        have HOF := Lib.hid hof
        clear hqi hof hbs hou9 ownF ownD hou hbw2 hbw1 hbw q3 hg2 hn
        go_wp2
        generalize wr.setCell ⟨w2.heap.size, 0, none⟩ (.int .i64 (m : Int)) = W9 at *
        go_loopw [82] (fun i wr => ∃ (a : Nat) (Ao : Option Addr) (co : Nat), a ≤ m ∧ i = .int .i64 (a : Int) ∧ QInv w2 wr w2.heap.size (w2.heap.size + 1) (m : Int) (Z s) (L a 0) rt Ao co A3 d3 m DX ∧ OwZ wr (w2.heap.size + 1) (some ⟨g1, 0, none⟩) d1 m G) (fun i _ => m - (intOf i).toNat)
        case atStart => exact ⟨0, none, 0, Nat.zero_le _, rfl, HQI.out, HOF.out⟩
        case round =>
          clear HQI HOF v0 v3 vf
          obtain ⟨a, Ao, co, ham, rfl, hq, hof⟩ := hrel
          by_cases hlt : a < m
          · have hfl := HIL.out a hlt
            obtain ⟨f, hf⟩ : ∃ f, f = ix a := ⟨_, rfl⟩
            have KI : Hid (∀ W t, Below w.heap.size w W → Below w2.heap.size w2 W → Calls Tryz.prog 47 #[cv (c.nd : Int) (s : Int) AM c.nm cm (some ⟨bd, od, none⟩) c.nd cd, .slice (some ⟨b2, o2, none⟩) c.nd c2, .int .i64 ((f : Nat) : Int), .int .i64 ((t : Nat) : Int)] W fun e w' => (∃ v, e = .returned v ∧ RdS w' 0 v (canR (rt a t))) ∧ Below W.heap.size W w') := fun W t hb1 hb2 => by
              rw [hf]
              exact KIN.out W _ c2 a t hb1 (HP2.out.below hb2) hlt
            have HGF : Hid (G a = (f : Int)) := by show G a = (f : Int); rw [HG.out, hf]
            have hai : (a : Int) < (m : Int) := by omega
            have ha0 : (0 : Int) ≤ (a : Int) := by omega
            have HQ5 := Lib.hid hq
            have HF5 := Lib.hid hof
            clear hq hof hf
            obtain ⟨wq, hwq⟩ : ∃ wq, wq = wr := ⟨_, rfl⟩
            subst hwq
            go_wp2
            go_loopw [87] (fun j wr => ∃ (t : Nat) (Ao : Option Addr) (co : Nat), t ≤ m ∧ j = .int .i64 (t : Int) ∧ QInv w2 wr w2.heap.size (w2.heap.size + 1) (m : Int) (Z s) (L a t) rt Ao co A3 d3 m DX ∧ OwZ wr (w2.heap.size + 1) (some ⟨g1, 0, none⟩) d1 m G) (fun j _ => m - (intOf j).toNat)
            case atStart => exact ⟨0, Ao, co, Nat.zero_le _, rfl, HQ5.out, HF5.out⟩
            case round =>
              clear HQ5 HF5
              obtain ⟨t, Ao, co, htm, rfl, hq, hof⟩ := hrel
              by_cases htl : t < m
              · have hbw2 := hq.bel
                have hbw1 : Below w1.heap.size w1 wr := H12.out.trans (hbw2.mono hz2)
                have hbw : Below w.heap.size w wr := HB1.out.trans (hbw1.mono (by omega))
                have q0 := (hbw1.cell (p := ⟨w.heap.size, 0, none⟩) (by show w.heap.size < _; omega)).trans y0
                have q1 := (hbw1.cell (p := ⟨w.heap.size, 1, none⟩) (by show w.heap.size < _; omega)).trans y1
                have q2 := (hbw1.cell (p := ⟨w.heap.size, 2, none⟩) (by show w.heap.size < _; omega)).trans y2
                have q3 := (hbw1.cell (p := ⟨w.heap.size, 3, none⟩) (by show w.heap.size < _; omega)).trans y3
                have f0 := hof.at_ hlt
                rw [HGF.out] at f0
                have hgw := (World.ownsRow.lt hof g1 rfl).2
                have hwl : w.heap.size < wr.heap.size := by have := hbw1.size; omega
                have KIW : Hid (∀ W, Below wr.heap.size wr W → Calls Tryz.prog 47 #[cv (c.nd : Int) (s : Int) AM c.nm cm (some ⟨bd, od, none⟩) c.nd cd, .slice (some ⟨b2, o2, none⟩) c.nd c2, .int .i64 ((f : Nat) : Int), .int .i64 ((t : Nat) : Int)] W fun e w' => (∃ v, e = .returned v ∧ RdS w' 0 v (canR (rt a t))) ∧ Below W.heap.size W w') := fun W hb => KI.out W t (hbw.trans (hb.mono hbw.size)) (hbw2.trans (hb.mono hbw2.size))
                have hti : (t : Int) < (m : Int) := by omega
                have ht0 : (0 : Int) ≤ (t : Int) := by omega
                have HQ := Lib.hid hq
                have HF := Lib.hid hof
                have hlw : w2.heap.size < wr.heap.size := hq.out.lt
                have hbs := hq.sz
                obtain ⟨-, -, z2, -⟩ := hq.out.cells
                have zf := hq.out.frz 2
                have hLB := HLB.out a t hlt htm
                have ne1 : ¬ (wr.heap.size = w.heap.size) := by omega
                have ne2 : ¬ (wr.heap.size = g1) := by omega
                have ne3 : ¬ (w.heap.size = wr.heap.size) := by omega
                have ne4 : ¬ (g1 = wr.heap.size) := by omega
                have hmvn : some w2.heap.size ≠ (Value.slice Ao (L a t).length co).ownBlock := (OwM.rowT hq.mv).ne hq.out.ty (by decide)
                have HNE := Lib.hid hmvn
                clear hq hof hbw2 hbw1 hbw hmvn
                go_upto_region 25 with fail
                go_cut [16] from 90 to 97 (fun q wx => Res13 wr wr.heap.size (rt a t) q wx)
                case first =>
                  go_region_held3 (fun W => W.cell? ⟨w.heap.size, 0, none⟩ = some (.int .i64 (c.nd : Int)) ∧ W.cell? ⟨w.heap.size, 1, none⟩ = some (.int .i64 (s : Int)) ∧ W.cell? ⟨w.heap.size, 2, none⟩ = some (.slice AM c.nm cm) ∧ W.cell? ⟨w.heap.size, 3, none⟩ = some (.slice (some ⟨bd, od, none⟩) c.nd cd) ∧ W.cell? ⟨g1, a, none⟩ = some (.int .i64 (f : Int))) (go_keep)
                    (first | ((go_at_call 47; (with_reducible refine (KIW.out _ (by (skip); repeat' (first | (with_reducible exact Below.refl _ _) | (with_reducible assumption) | (with_reducible refine Below.alloc ?_ ?_ _) | (with_reducible refine Below.drew ?_) | (with_reducible refine below_drewN ?_ _) | (with_reducible refine Below.setCell ?_ ?_ _) | (with_reducible refine Below.trans ?_ (Below.mono (by with_reducible assumption) ?_)) | omega | (simp only [ZA, ZS, ZD, ZN]; omega) | go_size))).mono ?_); rintro e w3 ⟨⟨v3, rfl, r3⟩, hb3⟩; have hb3z := Below.size hb3; (try simp only [ZA, ZS, ZD] at hb3z); have hb3c0 := fun o => below_at hb3 (w.heap.size) o (by first | omega | (simp only [ZA, ZS, ZD]; omega)); have hb3f0 := fun o => below_fr hb3 (w.heap.size) o (by first | omega | (simp only [ZA, ZS, ZD]; omega)); have hb3l0 : w.heap.size < (w3).heap.size := (by omega); have hb3c1 := fun o => below_at hb3 (g1) o (by first | omega | (simp only [ZA, ZS, ZD]; omega)); have hb3f1 := fun o => below_fr hb3 (g1) o (by first | omega | (simp only [ZA, ZS, ZD]; omega)); have hb3l1 : g1 < (w3).heap.size := (by omega); have hb3c2 := fun o => below_at hb3 (wr.heap.size) o (by first | omega | (simp only [ZA, ZS, ZD]; omega)); have hb3f2 := fun o => below_fr hb3 (wr.heap.size) o (by first | omega | (simp only [ZA, ZS, ZD]; omega)); have hb3l2 : wr.heap.size < (w3).heap.size := (by omega)); obtain ⟨s4, A4, n4, c4, B4, m4, d4, rfl⟩ := r3.form) | ((go_at_call 47; (with_reducible refine (KIW.out _ (by (skip); repeat' (first | (with_reducible exact Below.refl _ _) | (with_reducible assumption) | (with_reducible refine Below.alloc ?_ ?_ _) | (with_reducible refine Below.drew ?_) | (with_reducible refine below_drewN ?_ _) | (with_reducible refine Below.setCell ?_ ?_ _) | (with_reducible refine Below.trans ?_ (Below.mono (by with_reducible assumption) ?_)) | omega | (simp only [ZA, ZS, ZD, ZN]; omega) | go_size))).mono ?_); rintro e w3 ⟨⟨v3, rfl, r3⟩, hb3⟩; have hb3z := Below.size hb3; (try simp only [ZA, ZS, ZD] at hb3z); have hb3c0 := fun o => below_at hb3 (w.heap.size) o (by first | omega | (simp only [ZA, ZS, ZD]; omega)); have hb3f0 := fun o => below_fr hb3 (w.heap.size) o (by first | omega | (simp only [ZA, ZS, ZD]; omega)); have hb3l0 : w.heap.size < (w3).heap.size := (by omega); have hb3c1 := fun o => below_at hb3 (g1) o (by first | omega | (simp only [ZA, ZS, ZD]; omega)); have hb3f1 := fun o => below_fr hb3 (g1) o (by first | omega | (simp only [ZA, ZS, ZD]; omega)); have hb3l1 : g1 < (w3).heap.size := (by omega)); obtain ⟨s4, A4, n4, c4, B4, m4, d4, rfl⟩ := r3.form; have ne5 : ¬ (w3.heap.size = w.heap.size) := (by omega); have ne6 : ¬ (w3.heap.size = g1) := (by omega)) | fail)
                  · go_wp2
                    go_meet
                    exact res13_newS r3 (by have z0 := Below.size hb3; (try simp only [ZA, ZS, ZD, ZN] at z0 ⊢; skip); repeat' (first | (with_reducible exact Below.refl _ _) | (with_reducible assumption) | (with_reducible refine Below.alloc ?_ ?_ _) | (with_reducible refine Below.drew ?_) | (with_reducible refine below_drewN ?_ _) | (with_reducible refine Below.setCell ?_ ?_ _) | (with_reducible refine Below.trans ?_ (Below.mono (by with_reducible assumption) ?_)) | omega | (simp only [ZA, ZS, ZD, ZN]; omega) | go_size)) (by omega)
                  · go_wp2
                    go_meet
                    exact res13_setS (a' := .bool false) (b' := .slice none 0 0) (d' := .slice none 0 0) r3 (by have z0 := Below.size hb3; (try simp only [ZA, ZS, ZD, ZN] at z0 ⊢; skip); repeat' (first | (with_reducible exact Below.refl _ _) | (with_reducible assumption) | (with_reducible refine Below.alloc ?_ ?_ _) | (with_reducible refine Below.drew ?_) | (with_reducible refine below_drewN ?_ _) | (with_reducible refine Below.setCell ?_ ?_ _) | (with_reducible refine Below.trans ?_ (Below.mono (by with_reducible assumption) ?_)) | omega | (simp only [ZA, ZS, ZD, ZN]; omega) | go_size)) (Nat.le_refl _) (by omega) ((show RatB (wr.alloc (.cells #[.bool false, .slice none 0 0, .slice none 0 0] 44)).drew wr.heap.size from RatB.new wr _).below hb3 (by simp)) (by rw [hb3c2]; simp) (by rw [hb3c2]; simp) (by rw [hb3c2]; simp)
                case rest =>
                  obtain ⟨o3, s4, A4, n4, c4, B4, m4, d4, rfl, ho1, ho2, k0, k1, k2, kS, hbc⟩ := hcut
                  have hqc := HQ.out.below hbc
                  have hfc := HF.out.below hbc
                  have hzc := hbc.size
                  have z2' := (hbc.cell (p := ⟨w2.heap.size, 2, none⟩) hlw).trans z2
                  have zf' := (hbc.frozen (p := ⟨w2.heap.size, 2, none⟩) hlw).trans zf
                  have hrn := HRN.out a t
                  have HKS := Lib.hid kS
                  have HQC := Lib.hid hqc
                  have HFC := Lib.hid hfc
                  have hlc : w2.heap.size < wc.heap.size := by omega
                  clear hbc q0 q1 q2 q3 f0 KIW z2 zf HQ HF hfc
                  by_cases hat : a = t
                  · have HLe := Lib.hid (HLN.out a t (fun e => e.1 hat))
                    have e1 : ((a : Int) != (t : Int)) = false := by simp [hat]
                    clear hqc kS hat hrn
                    go_wp2
                    go_roundw
                    case rel => exact ⟨t + 1, _, _, by omega, by go_num, by rw [HLe.out]; exact HQC.out, HFC.out⟩
                    case measure => simp [intOf]; omega
                  · have e1 : ((a : Int) != (t : Int)) = true := by rw [bne_iff_ne]; omega
                    have KG := Lib.hid (fun W (hb : Below wc.heap.size wc W) => rsignQ ((kS.canQ (HSZ.out a t)).below hb) (by omega) (by omega))
                    rcases sgn_of hrn with ⟨hr0, hsg⟩ | ⟨hr1, hsg⟩
                    · have HLe := Lib.hid (HLN.out a t (fun e => e.2 hr0))
                      have KG1 : Hid (∀ W, Below wc.heap.size wc W → Calls Tryz.prog 48 #[rv s4 A4 n4 c4 B4 m4 d4] W fun e w' => e = .returned (.int .i64 0) ∧ Below W.heap.size W w') := fun W hb => by
                        have := KG.out W hb
                        rw [hsg] at this
                        exact this
                      clear hqc kS hat hrn KG hr0 hsg z2' zf'
                      (go_wp2_with fail; (with_reducible refine (KG1.out _ (by exact (by (skip); repeat' (first | (with_reducible exact Below.refl _ _) | (with_reducible assumption) | (with_reducible refine Below.alloc ?_ ?_ _) | (with_reducible refine Below.drew ?_) | (with_reducible refine below_drewN ?_ _) | (with_reducible refine Below.setCell ?_ ?_ _) | (with_reducible refine Below.trans ?_ (Below.mono (by with_reducible assumption) ?_)) | omega | (simp only [ZA, ZS, ZD, ZN]; omega) | go_size)))).mono ?_); rintro e w6 ⟨rfl, hb6⟩; have hb6z := Below.size hb6; (try simp only [ZA, ZS, ZD, ZN] at hb6z))
                      have H6 := Lib.hid (show Below wc.heap.size wc w6 from (by have z0 := Below.size hb6; (try simp only [ZA, ZS, ZD, ZN] at z0 ⊢; skip); repeat' (first | (with_reducible exact Below.refl _ _) | (with_reducible assumption) | (with_reducible refine Below.alloc ?_ ?_ _) | (with_reducible refine Below.drew ?_) | (with_reducible refine below_drewN ?_ _) | (with_reducible refine Below.setCell ?_ ?_ _) | (with_reducible refine Below.trans ?_ (Below.mono (by with_reducible assumption) ?_)) | omega | (simp only [ZA, ZS, ZD, ZN]; omega) | go_size)))
                      clear hb6 KG1 k0 k1 k2
                      go_wp2
                      go_roundw
                      case rel => exact ⟨t + 1, _, _, by omega, by go_num, by rw [HLe.out]; exact HQC.out.below H6.out, HFC.out.below H6.out⟩
                      case measure => simp [intOf]; omega
                    · have hLe := HLY.out a t hat (fun e => by rw [e] at hr1; exact absurd hr1 (by decide))
                      have KG1 : Hid (∀ W, Below wc.heap.size wc W → Calls Tryz.prog 48 #[rv s4 A4 n4 c4 B4 m4 d4] W fun e w' => e = .returned (.int .i64 1) ∧ Below W.heap.size W w') := fun W hb => by
                        have := KG.out W hb
                        rw [hsg] at this
                        exact this
                      obtain ⟨n, hn⟩ : ∃ n, n = (L a t).length := ⟨_, rfl⟩
                      obtain ⟨F, hF⟩ : ∃ F : Nat → Int, F = fun k => ((((L a t).getD k (0, 0)).1 : Nat) : Int) := ⟨_, rfl⟩
                      obtain ⟨T, hT⟩ : ∃ T : Nat → Int, T = fun k => ((((L a t).getD k (0, 0)).2 : Nat) : Int) := ⟨_, rfl⟩
                      obtain ⟨R, hR⟩ : ∃ R : Nat → Rw, R = fun k => canR (rt ((L a t).getD k (0, 0)).1 ((L a t).getD k (0, 0)).2) := ⟨_, rfl⟩
                      have hmv : OwM wc (w2.heap.size + 1) Ao co n F T R := by rw [hn, hF, hT, hR]; exact hqc.mv
                      have HMV := Lib.hid hmv
                      have HAPP : Hid (∀ W w7 g7 c7, Below wc.heap.size wc W → W.grownBy w7 (Value.slice Ao n co).ownBlock → OwM w7 (w2.heap.size + 1) (some ⟨g7, 0, none⟩) c7 (n + 1) (upd F n (a : Int)) (upd T n (t : Int)) (upd R n (canR (rt a t))) →
                          QInv w2 (w7.setCell ⟨w2.heap.size, 2, none⟩ (.slice (some ⟨g7, 0, none⟩) (n + 1) c7)) w2.heap.size (w2.heap.size + 1) (m : Int) (Z s) (L a (t + 1)) rt (some ⟨g7, 0, none⟩) c7 A3 d3 m DX ∧ OwZ (w7.setCell ⟨w2.heap.size, 2, none⟩ (.slice (some ⟨g7, 0, none⟩) (n + 1) c7)) (w2.heap.size + 1) (some ⟨g1, 0, none⟩) d1 m G) := fun W w7 g7 c7 hW hg h7 => by
                        have hqW := HQC.out.below hW
                        have hrW := OwM.rowT hqW.mv
                        rw [hLe]
                        rw [hn] at hg h7 ⊢
                        rw [hF, hT, hR] at h7
                        have ho7 := hqW.out.grown hg (hrW.ne hqW.out.ty (by decide))
                        exact ⟨hqW.app hg h7, ownsRow_set (ownsRow_grown (HFC.out.below hW) hg hrW (by decide)) ho7.ty (by decide) _ _⟩
                      rw [← hn] at z2' hLB HNE
                      clear hqc kS hat hrn KG hr1 hsg hLe hn hF hT hR hmv
                      (go_wp2_with fail; (with_reducible refine (KG1.out _ (by exact (by (skip); repeat' (first | (with_reducible exact Below.refl _ _) | (with_reducible assumption) | (with_reducible refine Below.alloc ?_ ?_ _) | (with_reducible refine Below.drew ?_) | (with_reducible refine below_drewN ?_ _) | (with_reducible refine Below.setCell ?_ ?_ _) | (with_reducible refine Below.trans ?_ (Below.mono (by with_reducible assumption) ?_)) | omega | (simp only [ZA, ZS, ZD, ZN]; omega) | go_size)))).mono ?_); rintro e w6 ⟨rfl, hb6⟩; have hb6z := Below.size hb6; (try simp only [ZA, ZS, ZD, ZN] at hb6z); have hb6c0 := fun o => below_at hb6 (o3) o (by first | omega | (simp only [ZA, ZS, ZD, ZN]; omega)); have hb6f0 := fun o => below_fr hb6 (o3) o (by first | omega | (simp only [ZA, ZS, ZD, ZN]; omega)); have hb6c1 := fun o => below_at hb6 (w2.heap.size) o (by first | omega | (simp only [ZA, ZS, ZD, ZN]; omega)); have hb6f1 := fun o => below_fr hb6 (w2.heap.size) o (by first | omega | (simp only [ZA, ZS, ZD, ZN]; omega)))
                      have h6 : Below wc.heap.size wc w6 := (by have z0 := Below.size hb6; (try simp only [ZA, ZS, ZD, ZN] at z0 ⊢; skip); repeat' (first | (with_reducible exact Below.refl _ _) | (with_reducible assumption) | (with_reducible refine Below.alloc ?_ ?_ _) | (with_reducible refine Below.drew ?_) | (with_reducible refine below_drewN ?_ _) | (with_reducible refine Below.setCell ?_ ?_ _) | (with_reducible refine Below.trans ?_ (Below.mono (by with_reducible assumption) ?_)) | omega | (simp only [ZA, ZS, ZD, ZN]; omega) | go_size))
                      have e0 : w6.cell? ⟨o3, 0, none⟩ = some (.bool s4) := (h6.cell (p := ⟨o3, 0, none⟩) ho2).trans k0
                      have e2 : w6.cell? ⟨o3, 1, none⟩ = some (.slice A4 n4 c4) := (h6.cell (p := ⟨o3, 1, none⟩) ho2).trans k1
                      have e4 : w6.cell? ⟨o3, 2, none⟩ = some (.slice B4 m4 d4) := (h6.cell (p := ⟨o3, 2, none⟩) ho2).trans k2
                      have e3 : w6.cell? ⟨w2.heap.size, 2, none⟩ = some (.slice Ao n co) := (h6.cell (p := ⟨w2.heap.size, 2, none⟩) hlc).trans z2'
                      have ef : w6.frozen? ⟨w2.heap.size, 2, none⟩ = false := (h6.frozen (p := ⟨w2.heap.size, 2, none⟩) hlc).trans zf'
                      have H6 := Lib.hid h6
                      have hz6 := h6.size
                      have MV6 := Lib.hid (HMV.out.below h6)
                      have R6 : Hid (RdS w6 (w2.heap.size + 1) (rv s4 A4 n4 c4 B4 m4 d4) (canR (rt a t))) := (HKS.out.kp (Kp.of_below h6)).base (Nat.zero_le _)
                      have hog6 : w2.heap.size < w6.heap.size := by omega
                      clear hb6 h6 hb6c0 hb6c1 hb6f0 hb6f1 z2' zf' k0 k1 k2 KG1
                      go_wp2_with (first | (at_builtin; refine wpList_appM1 rfl (.tmp 107) (.tmp 112) rfl (w2.heap.size + 1) Ao co n F T R (by first | rfl | simp [Act.eval]) (MV6.out.below ((Below.refl _ _).alloc (Nat.le_refl _) _)) w6.heap.size (a : Int) (t : Int) s4 A4 n4 c4 B4 m4 d4 (canR (rt a t)) (by first | rfl | simp [Act.eval]) (by simp) (by simp) (by simp) (by simp) (by simp) (R6.out.kp ((Kp.refl _ _).alloc _)) (by omega) (by simp; omega) ?_; intro g7 c7 w7 own7 hgr7 hfr7 hlt7; (have hx7 : w7.cell? ⟨w2.heap.size, 2, none⟩ = some (.slice Ao n co) := (hgr7.cell_far ⟨w2.heap.size, 2, none⟩ (by first | omega | (simp only [World.size_alloc]; omega) | (simp; omega) | (show _ < _; simp; omega)) HNE.out).trans ((World.cell?_alloc_past _ _ _ (by first | omega | (simp only [World.size_alloc]; omega) | (simp; omega))).trans e3)); (have hy7 : w7.frozen? ⟨w2.heap.size, 2, none⟩ = false := (hgr7.frozen_far ⟨w2.heap.size, 2, none⟩ (by first | omega | (simp only [World.size_alloc]; omega) | (simp; omega) | (show _ < _; simp; omega)) HNE.out).trans ((World.frozen?_alloc_past _ _ _ (by first | omega | (simp only [World.size_alloc]; omega) | (simp; omega))).trans ef))) | fail)
                      have hap := HAPP.out _ w7 g7 c7 (H6.out.trans (by exact (by (skip); repeat' (first | (with_reducible exact Below.refl _ _) | (with_reducible assumption) | (with_reducible refine Below.alloc ?_ ?_ _) | (with_reducible refine Below.drew ?_) | (with_reducible refine below_drewN ?_ _) | (with_reducible refine Below.setCell ?_ ?_ _) | (with_reducible refine Below.trans ?_ (Below.mono (by with_reducible assumption) ?_)) | omega | (simp only [ZA, ZS, ZD, ZN]; omega) | go_size)))) hgr7 own7
                      have HAP := Lib.hid hap
                      clear hap own7 hgr7 hfr7
                      go_roundw
                      case rel => exact ⟨t + 1, _, _, by omega, by go_num, HAP.out.1, HAP.out.2⟩
                      case measure => simp [intOf]; omega
              · have htm2 : t = m := by omega
                have hLr := HLR.out a
                rw [htm2, hLr] at hq
                have HQ := Lib.hid hq
                have HF := Lib.hid hof
                clear hq hof hLr
                go_wp2
                go_roundw
                case rel => exact ⟨a + 1, _, _, by omega, by go_num, HQ.out, HF.out⟩
                case measure => simp [intOf]; omega
          · have ham2 : a = m := by omega
            rw [ham2] at hq
            have hbw2 := hq.bel
            obtain ⟨n, hn⟩ : ∃ n, n = (L m 0).length := ⟨_, rfl⟩
            have hb1 : Below w1.heap.size w1 wr := H12.out.trans (hbw2.mono hz2)
            have ho6 := HO1.out.below hb1 hz1
            have HBW := Lib.hid (HB1.out.trans (hb1.mono (by omega)))
            obtain ⟨r0, r1, r2, r3⟩ := ho6.cells
            have rf := ho6.frz
            obtain ⟨z0', z1', z2', z3'⟩ := hq.out.cells
            rw [← hn] at z2'
            have hset := ho6.set4 (m : Int) (Z s) Ao n co A3 m d3
            have hfin := HFIN.out ((((wr.setCell ⟨w.heap.size + 1, 0, none⟩ (.int .i64 (m : Int))).setCell ⟨w.heap.size + 1, 1, none⟩ (.int .i64 (Z s))).setCell ⟨w.heap.size + 1, 2, none⟩ (.slice Ao n co)).setCell ⟨w.heap.size + 1, 3, none⟩ (.slice A3 m d3)) (w2.heap.size + 1) Ao co d3 A3 (HQ0.out (fun j hj => HALL.out j hj)) (by have := hq.sz; simp; exact this) (OwM.set4 hq.mv ho6 _ _ _ _ _ _ _ _) (by rw [← HDXE.out]; exact OwB.set4 hq.dn ho6 _ _ _ _ _ _ _ _)
            rw [← hn] at hfin
            have HFI := Lib.hid hfin
            obtain ⟨t0, t1, t2, t3⟩ := hset.cells
            have HT := Lib.hid (And.intro t0 (And.intro t1 (And.intro t2 t3)))
            have hne : ¬ (w.heap.size + 1 = w2.heap.size) := by omega
            clear hq hof ho6 hset hfin t0 t1 t2 t3 hb1 hbw2 hn
            go_wp2
            obtain ⟨t0, t1, t2, t3⟩ := HT.out
            (try simp only [Exit.inBlock, Exit.then])
            refine bodyPost_ret (v := .tuple #[cv (m : Int) (Z s) Ao n co A3 m d3, .int .i64 0]) ?_ rfl ⟨HFI.out, ?_⟩
            · rw [results_cell_tmp rfl]
              go_simp
            · have h9 := HBW.out
              exact (by have z0 := Below.size h9; (try simp only [ZA, ZS, ZD, ZN] at z0 ⊢; skip); repeat' (first | (with_reducible exact Below.refl _ _) | (with_reducible assumption) | (with_reducible refine Below.alloc ?_ ?_ _) | (with_reducible refine Below.drew ?_) | (with_reducible refine below_drewN ?_ _) | (with_reducible refine Below.setCell ?_ ?_ _) | (with_reducible refine Below.trans ?_ (Below.mono (by with_reducible assumption) ?_)) | omega | (simp only [ZA, ZS, ZD, ZN]; omega) | go_size))
theorem lrQuotient_any {w : World} {AM AD AV : Option Addr} {cm cd n ca : Nat} {c : Chn} {P : Nat → Int} (h : ChI w w.heap.size AM cm AD cd c) (hs : ChS c 400) (hv : PaI w AV n P) (hn : n ≤ 1000) (hca : n ≤ ca)
    (hsz : c.Ok → ∀ p s d k, k ≤ c.nm → Sz 400 (intoQ c.f c.t c.q k p s d)) :
    Calls Tryz.prog 13 #[cv c.st c.sr AM c.nm cm AD c.nd cd, .slice AV n ca] w fun e w' => AnsC (.int .i64) (c.codeQ n P) (c.quoE n P) e w' ∧ Below w.heap.size w w' := by
  by_cases h0 : c.codeL n P = 0
  · by_cases hst : StaB c.f c.t c.q c.nm c.nd (prt P)
    · obtain ⟨-, hnn, -⟩ := Chn.codeL_0 h0
      subst hnn
      exact lrQuo_ok h hs hv hca hsz h0 hst
    · exact lrQuo_uns h hs hv hn hsz h0 hst
  · exact lrQuo_err h hs hv hn hsz h0
end Go.Proofs.YtlncafhgmbhocaaGreatDoor
