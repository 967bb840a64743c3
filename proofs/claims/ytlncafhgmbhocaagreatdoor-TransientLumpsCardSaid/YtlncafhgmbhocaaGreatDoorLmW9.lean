/- Contracts of functions and lemmas, used by the proofs of the given statements. No condition beyond those that each lemma names. -/
import Derived.Test.YtlncafhgmbhocaaGreatDoorJLmW8
namespace Go.Proofs.YtlncafhgmbhocaaGreatDoor
open Go.RowKit
set_option linter.unusedSimpArgs false
set_option linter.unusedVariables false
set_option maxRecDepth 20000
attribute [local irreducible] nv wp win plainB validR valR canR mvE chkM codeC smK alk badP nrm eqN eqZ blks memZ crsP itP rfn
/-! ## package lump: Coarsest -/
set_option maxHeartbeats 16000000 in
theorem lCoarsest_any {w : World} {AM AD AV : Option Addr} {cm cd n ca : Nat} {c : Chn} {P : Nat → Int} (h : ChI w w.heap.size AM cm AD cd c) (hs : ChS c 400) (hv : PaI w AV n P) (hn : n ≤ 1000)
    (hsz : c.Ok → ∀ p k, k ≤ c.nm → ∀ i j, Sz 400 (smK c.f c.t c.q p k i j)) :
    Calls Tryz.prog 23 #[cv c.st c.sr AM c.nm cm AD c.nd cd, .slice AV n ca] w fun e w' => AnsP errM (lenC (c.codeL n P) n) (fun i => ((crsP c.f c.t c.q c.nm c.nd (prt P) i : Nat) : Int)) (c.codeL n P) e w' ∧ Below w.heap.size w w' := by
  have K1 := Lib.hid (fun W (hb : Below w.heap.size w W) => lcheck_any (ca := ca) (h.below hb) hs (hv.below hb) (by omega))
  have hmf : ∀ (fn : Fn) (first cap : Array Value) (w : World), (Instr.makeFunc fn first cap).run Tryz.prog w = .ok (.func fn first cap) w := fun _ _ _ _ => rfl
  by_cases h0 : c.codeL n P = 0
  · obtain ⟨hc0, hnn, hin⟩ := Chn.codeL_0 h0
    have ok := Chn.ok_iff.1 hc0
    subst hnn
    have hn1 := ok.lo
    have hn2 := ok.hi
    have hpp := prt_is hin
    have hst := ok.st
    rw [h0, errM_0] at K1
    obtain ⟨it, hit⟩ : ∃ it : Nat → Nat → Nat, it = itP c.f c.t c.q c.nm c.nd (prt P) := ⟨_, rfl⟩
    have hit0 : it 0 = nrm (relP (prt P)) := by rw [hit]; unfold itP; rfl
    have hits : ∀ t, it (t + 1) = refP c.f c.t c.q c.nm c.nd (it t) := fun t => by rw [hit]; conv => lhs; unfold itP
    have hlt9 : ∀ t i, i < c.nd → it t i < c.nd := fun t i hi => by rw [hit]; exact itP_lt ok.lo t i hi
    obtain ⟨Z, hZ⟩ : ∃ Z : Nat → Nat → Int, Z = fun t i => ((it t i : Nat) : Int) := ⟨_, rfl⟩
    obtain ⟨S, hS⟩ : ∃ S : Nat → Mf, S = fun t => smK c.f c.t c.q (it t) c.nm := ⟨_, rfl⟩
    obtain ⟨gN, hgN⟩ : ∃ gN : Nat → Nat → Nat, gN = fun t j => ixB (isF (rfn c.f c.t c.q c.nm c.nd (it t))) c.nd j := ⟨_, rfl⟩
    obtain ⟨G, hG⟩ : ∃ G : Nat → Nat → Int, G = fun t j => ((gN t j : Nat) : Int) := ⟨_, rfl⟩
    obtain ⟨cs, hcs⟩ : ∃ cs : Nat → Nat → Nat, cs = fun t k => cntB (isF (rfn c.f c.t c.q c.nm c.nd (it t))) k := ⟨_, rfl⟩
    obtain ⟨bl, hbl⟩ : ∃ bl : Nat → Nat, bl = fun t => blks c.nd (it t) := ⟨_, rfl⟩
    have K2 : Hid (∀ W, Below w.heap.size w W → Calls Tryz.prog 38 #[.slice AV c.nd ca] W fun e w' => (∃ A' c', e = .returned (.slice A' c.nd c') ∧ OwZ w' W.heap.size A' c' c.nd (Z 0)) ∧ Below W.heap.size W w') := fun W hb => by
      have := lmNorm_any (c := ca) (hv.below hb) (fun i hi => (hpp i hi).1) hn
      rw [← hit0] at this
      rw [hZ]
      exact this
    have K3 : Hid (∀ t W A d, PaI W A c.nd (Z t) → Below w.heap.size w W → Calls Tryz.prog 41 #[cv c.st c.sr AM c.nm cm AD c.nd cd, .slice A c.nd d] W fun e w' => (∃ A' c', e = .returned (.slice A' c.nd c') ∧ MatI w' w'.heap.size A' c.nd (fun _ => c.nd) (fun i => can (S t i))) ∧ Below W.heap.size W w') := fun t W A d hp hb => by
      rw [hS]
      exact lsums_any (p := it t) (h.below hb) ok hs hp (fun i _ => by rw [hZ]) (fun i hi => hlt9 t i hi) (hsz ok (it t))
    have HST : Hid (∀ t k x, k < c.nd → IsIdx (fun j => decide (Z t (gN t j) = Z t k) && eqN c.nd (S t (gN t j)) (S t k)) (cs t k) x → (x = -1 ∧ Z (t + 1) k = (cs t k : Int) ∧ cs t (k + 1) = cs t k + 1 ∧ G t (cs t k) = (k : Int)) ∨ (∃ q : Nat, x = (q : Int) ∧ Z (t + 1) k = (q : Int) ∧ cs t (k + 1) = cs t k)) := fun t k x hk hx => by
      rw [hZ, hS, hgN, hcs] at hx
      rw [hZ, hcs, hG, hgN]
      have := crs_step (F := c.f) (T := c.t) (q := c.q) (nm := c.nm) (n := c.nd) (p := it t) hk hx
      rw [← hits t] at this
      rcases this with ⟨h1, h2, h3, h4⟩ | ⟨h1, h2⟩
      · exact .inl ⟨h1, congrArg (fun x : Nat => (x : Int)) h2, h3, congrArg (fun x : Nat => (x : Int)) h4⟩
      · exact .inr ⟨it (t + 1) k, h1, rfl, h2⟩
    have HGL : Hid (∀ t k j, k ≤ c.nd → j < cs t k → G t j = ((gN t j : Nat) : Int) ∧ gN t j < c.nd) := fun t k j hk hj => by
      rw [hcs] at hj
      rw [hG, hgN]
      exact ⟨rfl, (ixB_lt (Nat.lt_of_lt_of_le hj (cntB_mono hk))).1⟩
    have HC0 : Hid (∀ t, cs t 0 = 0) := fun t => by rw [hcs]; exact cntB_zero
    have HCL : Hid (∀ t k, cs t k ≤ k) := fun t k => by rw [hcs]; exact cntB_le
    have HSS : Hid (∀ t i j, Sz 400 (S t i j)) := fun t i j => by rw [hS]; exact hsz ok (it t) c.nm (Nat.le_refl _) i j
    obtain ⟨C, hC⟩ : ∃ C : Nat → Int, C = fun i => ((crsP c.f c.t c.q c.nm c.nd (prt P) i : Nat) : Int) := ⟨_, rfl⟩
    have HEQ : Hid (∀ t, (∀ j, j < c.nd → Z (t + 1) j = Z t j) → ∀ i, i < c.nd → Z t i = C i) := fun t he i hi => by
      rw [hZ, hC]
      rw [hZ] at he
      have := crsP_at (F := c.f) (T := c.t) (q := c.q) (nm := c.nm) (n := c.nd) (p := prt P) (Chn.lt_t ok) ok.lo (j := t) (fun i hi => by have h9 : ((it (t + 1) i : Nat) : Int) = ((it t i : Nat) : Int) := he i hi; rw [← hit]; omega) i hi
      rw [← hit] at this
      show ((it t i : Nat) : Int) = _
      rw [this]
    have HGR : Hid (∀ t, ¬ (∀ j, j < c.nd → Z (t + 1) j = Z t j) → bl t < bl (t + 1)) := fun t he => by
      rw [hbl]
      rcases refP_grow (F := c.f) (T := c.t) (q := c.q) (nm := c.nm) (n := c.nd) (p := it t) (fun i _ => by rw [hit, itP_normed]) with h1 | h1
      · refine absurd (fun j hj => ?_) he
        rw [hZ]
        show ((it (t + 1) j : Nat) : Int) = ((it t j : Nat) : Int)
        rw [hits, h1 j hj]
      · rw [← hits] at h1
        exact h1
    have HBL : Hid (∀ t, bl t ≤ c.nd) := fun t => by rw [hbl]; exact blks_le
    have HME : Hid (∀ W g t A d, W.cell? ⟨g, 0, none⟩ = some (.slice A c.nd d) → PaI W A c.nd (Z t) → blks c.nd (memZ W g) = bl t) := fun W g t A d h1 h2 => by
      rw [hbl]
      rw [hZ] at h2
      exact blks_congr (memZ_is h1 h2)
    rw [h0, lenC_0, ← hC]
    obtain ⟨sr, hsr⟩ : ∃ sr, sr = c.sr := ⟨_, rfl⟩
    rw [← hsr, hst] at K1 K3 ⊢
    clear hC hbl hcs hG hgN hS hZ hits hit0 hit hlt9 hpp hst hsr h hs hv h0 hc0 hin ok hsz
    have HPB := Lib.hid (fun W hb => par_below (W := W) (w := w) (o := .cells #[.int .i64 (c.nd : Int), .int .i64 sr, .slice AM c.nm cm, .slice AD c.nd cd] 25) hb)
    have HPC := Lib.hid (fun W hb => par_cells (W := W) (w := w) (a := .int .i64 (c.nd : Int)) (b := .int .i64 sr) (d := .slice AM c.nm cm) (e := .slice AD c.nd cd) (t := 25) hb)
    have hW0z : (w.alloc (.cells #[.int .i64 (c.nd : Int), .int .i64 sr, .slice AM c.nm cm, .slice AD c.nd cd] 25)).heap.size = w.heap.size + 1 := by simp
    go_enter Tryz.func23, Tryz.ntmps23
    (go_wp2_with fail; (with_reducible refine (K1.out _ (by (skip); repeat' (first | (with_reducible exact Below.refl _ _) | (with_reducible assumption) | (with_reducible refine Below.alloc ?_ ?_ _) | (with_reducible refine Below.drew ?_) | (with_reducible refine below_drewN ?_ _) | (with_reducible refine Below.setCell ?_ ?_ _) | (with_reducible refine Below.trans ?_ (Below.mono (by with_reducible assumption) ?_)) | omega | (simp only [ZA, ZS, ZD, ZN]; omega) | go_size))).mono ?_); rintro e w1 ⟨rfl, hb1⟩; have hb1z := Below.size hb1; (try simp only [ZA, ZS, ZD, ZN] at hb1z); have hb1c0 := fun o => below_at hb1 (w.heap.size) o (by first | omega | (simp only [ZA, ZS, ZD, ZN]; omega)); have hb1f0 := fun o => below_fr hb1 (w.heap.size) o (by first | omega | (simp only [ZA, ZS, ZD, ZN]; omega)))
    have hB1 : Below (w.heap.size + 1) (w.alloc (.cells #[.int .i64 (c.nd : Int), .int .i64 sr, .slice AM c.nm cm, .slice AD c.nd cd] 25)) w1 := by rw [← hW0z]; exact hb1
    (go_wp2_with fail; (with_reducible refine (K2.out _ (HPB.out _ hB1)).mono ?_); rintro e w2 ⟨⟨A2, d2, rfl, own2⟩, hb2⟩; have hb2z := Below.size hb2; (try simp only [ZA, ZS, ZD, ZN] at hb2z); have hb2c0 := fun o => below_at hb2 (w.heap.size) o (by first | omega | (simp only [ZA, ZS, ZD, ZN]; omega)); have hb2f0 := fun o => below_fr hb2 (w.heap.size) o (by first | omega | (simp only [ZA, ZS, ZD, ZN]; omega)))
    have hB2 := hB1.trans (hb2.mono (by have := hB1.size; simp at this; omega))
    have hz2 : w.heap.size + 1 ≤ w2.heap.size := by have := hB2.size; simp at this; omega
    have HP2 := Lib.hid (own2.pa.below ((Below.refl _ _).alloc (Nat.le_refl _) (.cells #[.slice A2 c.nd d2] 26)))
    have HB2 := Lib.hid hB2
    clear hb1 hb2 hB1 hB2 own2 hb1c0 hb2c0 hb1f0 hb2f0 K1 K2
    generalize w.alloc (.cells #[.int .i64 (c.nd : Int), .int .i64 sr, .slice AM c.nm cm, .slice AD c.nd cd] 25) = W0 at *
    go_wp2
    go_loopw [] (fun wr => ∃ (t : Nat) (A : Option Addr) (d : Nat), wr.cell? ⟨w2.heap.size, 0, none⟩ = some (.slice A c.nd d) ∧ wr.frozen? ⟨w2.heap.size, 0, none⟩ = false ∧ PaI wr A c.nd (Z t) ∧ Below (w.heap.size + 1) W0 wr ∧ w2.heap.size < wr.heap.size) (fun wr => c.nd - blks c.nd (memZ wr w2.heap.size))
    case atStart => exact ⟨0, A2, d2, by simp, by simp, HP2.out, HB2.out.trans ((Below.refl _ _).alloc hz2 _), by simp⟩
    case round =>
      clear HP2 HB2
      obtain ⟨t, A, d, z0, zf, hp, hb, hg⟩ := hrel
      have hbw := HPB.out _ hb
      obtain ⟨y0, y1, y2, y3⟩ := HPC.out _ hb
      have hbz := hb.size
      have HP := Lib.hid hp
      have HB := Lib.hid hb
      have HBW := Lib.hid hbw
      clear hp hb hbw
      obtain ⟨wo, hwo⟩ : ∃ wo, wo = wr := ⟨_, rfl⟩
      subst hwo
      have HM0 := Lib.hid (HME.out wo w2.heap.size t A d z0 HP.out)
      (go_wp2_with fail; (with_reducible refine (K3.out t _ A d HP.out HBW.out).mono ?_); rintro e w5 ⟨⟨A4, c4, rfl, r4⟩, hb5⟩; have hb5z := Below.size hb5; (try simp only [ZA, ZS, ZD, ZN] at hb5z); have hb5c0 := fun o => below_at hb5 (w.heap.size) o (by first | omega | (simp only [ZA, ZS, ZD, ZN]; omega)); have hb5f0 := fun o => below_fr hb5 (w.heap.size) o (by first | omega | (simp only [ZA, ZS, ZD, ZN]; omega)); have hb5c1 := fun o => below_at hb5 (w2.heap.size) o (by first | omega | (simp only [ZA, ZS, ZD, ZN]; omega)); have hb5f1 := fun o => below_fr hb5 (w2.heap.size) o (by first | omega | (simp only [ZA, ZS, ZD, ZN]; omega)))
      have H4 := Lib.hid r4
      have HB5 := Lib.hid hb5
      have hz5 := hb5.size
      clear r4
      have y5 : w5.cell? ⟨w.heap.size, 0, none⟩ = some (.int .i64 (c.nd : Int)) := (HB5.out.cell (p := ⟨w.heap.size, 0, none⟩) (by show w.heap.size < _; omega)).trans y0
      have hl5 : w.heap.size < w5.heap.size := by omega
      (have oyc := fun o i => below_at ((Below.refl w5.heap.size w5).alloc (Nat.le_refl _) o) (w.heap.size) i (by omega)); (have oyf := fun o i => below_fr ((Below.refl w5.heap.size w5).alloc (Nat.le_refl _) o) (w.heap.size) i (by omega))
      go_wp2_with (first | (at_make; refine wpList_makeZ rfl (.tmp 24) (.tmp 24) rfl (w5.heap.size + 1) c.nd (c.nd : Int) (c.nd : Int) (by first | rfl | simp [Act.eval]) (by first | rfl | simp [Act.eval]) rfl rfl (by omega) (by simp) ?_; intro w7 own7 hb7) | fail)
      have hW6z : (w5.alloc (.cells #[.slice A4 c.nd c4] 73)).heap.size = w5.heap.size + 1 := by simp
      rw [hW6z] at own7 hb7
      have c8 : (w5.alloc (.cells #[.slice A4 c.nd c4] 73)).cell? ⟨w5.heap.size, 0, none⟩ = some (.slice A4 c.nd c4) := by simp
      have h56 : Below w5.heap.size w5 (w5.alloc (.cells #[.slice A4 c.nd c4] 73)) := (Below.refl _ _).alloc (Nat.le_refl _) _
      have H6 : Hid (∀ W, Below (w5.heap.size + 1) (w5.alloc (.cells #[.slice A4 c.nd c4] 73)) W → Below w5.heap.size w5 W ∧ W.cell? ⟨w2.heap.size, 0, none⟩ = some (.slice A c.nd d) ∧ W.frozen? ⟨w2.heap.size, 0, none⟩ = false ∧ W.cell? ⟨w5.heap.size, 0, none⟩ = some (.slice A4 c.nd c4) ∧ PaI W A c.nd (Z t) ∧ W.cell? ⟨w.heap.size, 0, none⟩ = some (.int .i64 (c.nd : Int))) := fun W hW => by
        have hb9 := h56.trans (hW.mono (by omega))
        exact ⟨hb9, (hb9.cell (p := ⟨w2.heap.size, 0, none⟩) (by show w2.heap.size < _; omega)).trans ((HB5.out.cell (p := ⟨w2.heap.size, 0, none⟩) hg).trans z0), (hb9.frozen (p := ⟨w2.heap.size, 0, none⟩) (by show w2.heap.size < _; omega)).trans ((HB5.out.frozen (p := ⟨w2.heap.size, 0, none⟩) hg).trans zf), (hW.cell (p := ⟨w5.heap.size, 0, none⟩) (by show w5.heap.size < _; omega)).trans c8, (HP.out.below HB5.out).below hb9, (hb9.cell (p := ⟨w.heap.size, 0, none⟩) (by show w.heap.size < _; omega)).trans ((HB5.out.cell (p := ⟨w.heap.size, 0, none⟩) (by show w.heap.size < _; omega)).trans y0)⟩
      have HO7 := Lib.hid own7
      have HB7 := Lib.hid hb7
      clear own7 hb7 hb5 c8 h56 z0 zf y0 y1 y2 y3 y5 oyc oyf hb5c0 hb5c1 hb5f0 hb5f1 hW6z
      generalize w5.alloc (.cells #[.slice A4 c.nd c4] 73) = W6 at *
      go_loopw [28, 10] (fun i fs wr => ∃ (k : Nat) (A1 : Option Addr) (d1 m : Nat), k ≤ c.nd ∧ i = .int .i64 (k : Int) ∧ fs = .slice A1 m d1 ∧ m = cs t k ∧ OwZ wr (w5.heap.size + 1) A1 d1 m (G t) ∧ OwZ wr (w5.heap.size + 1) (some ⟨w5.heap.size + 1, 0, none⟩) c.nd c.nd (fun j => if j < k then Z (t + 1) j else 0) ∧ Apt (.slice A1 m d1) (.slice (some ⟨w5.heap.size + 1, 0, none⟩) c.nd c.nd) ∧ Below (w5.heap.size + 1) W6 wr) (fun i _ _ => c.nd - (intOf i).toNat)
      case atStart => exact ⟨0, none, 0, 0, Nat.zero_le _, rfl, rfl, (HC0.out t).symm, OwZ.nil_ _ _ _, HO7.out.congr (fun j hj => by simp), Apt.none_, HB7.out⟩
      case round =>
        clear HO7 HB7
        obtain ⟨k, A1, d1, m, hk, rfl, rfl, hm, own1, own2, ap, hb⟩ := hrel
        have hzr := hb.size
        have hg9 := (World.ownsRow.lt own2 (w5.heap.size + 1) rfl).2
        by_cases hlt : k < c.nd
        · obtain ⟨h05, q7, q7f, q8, qP, qy⟩ := H6.out _ hb
          have hki : (k : Int) < (c.nd : Int) := by omega
          have hk0 : (0 : Int) ≤ (k : Int) := by omega
          have hal : Below wr.heap.size wr (wr.alloc (.cells #[.int .i64 (k : Int)] 3)) := (Below.refl _ _).alloc (Nat.le_refl _) _
          have hmk := HCL.out t k
          have hmk2 : m ≤ 1000 := by omega
          have HGk := Lib.hid (HGL.out t k)
          have HE9 : Hid (CrsE (wr.alloc (.cells #[.int .i64 (k : Int)] 3)) w2.heap.size wr.heap.size w5.heap.size c.nd A d (Z t) k A4 c4 (S t)) := ⟨(hal.cell (lt_of_cell q7)).trans q7, qP.below hal, by simp, (hal.cell (lt_of_cell q8)).trans q8, ⟨w5, h05.trans (hal.mono h05.size), H4.out⟩⟩
          have H1 := Lib.hid (own1.below hal)
          have H2 := Lib.hid (own2.below hal)
          have HAP := Lib.hid ap
          have HBR := Lib.hid (hb.trans (hal.mono (by omega)))
          have HM := Lib.hid hm
          have HSk := Lib.hid (HST.out t k)
          clear own1 own2 ap hb hm q7 q7f q8 qP qy hal hmk h05
          go_wp2
          generalize hwq : wr.alloc (.cells #[.int .i64 (k : Int)] 3) = wq at *
          have z9 : wq.cell? ⟨wr.heap.size, 0, none⟩ = some (.int .i64 (k : Int)) := by rw [← hwq]; simp
          have hwz : wr.heap.size < wq.heap.size := by rw [← hwq]; simp
          have KI := Lib.hid (fun W (hb' : Below wq.heap.size wq W) => cindexf_any (c1 := d1) (HE9.out.below hb') (H1.out.below hb').pa (fun j hj => HGk.out j hk (by rw [← HM.out]; exact hj)) hlt (HSS.out t) hn hmk2)
          have hfz := H2.out.frozen
          obtain ⟨v9, hv9⟩ : ∃ v, wq.cell? ⟨w5.heap.size + 1, k, none⟩ = some v := ⟨_, H2.out.at_ hlt⟩
          have ne1 : ¬ (w5.heap.size + 1 = wr.heap.size) := by omega
          have ne2 : ¬ (wr.heap.size = w5.heap.size + 1) := by omega
          have hl9 : w5.heap.size + 1 < wq.heap.size := by omega
          clear hwq
          go_region_held3 (fun W => W.cell? ⟨wr.heap.size, 0, none⟩ = some (.int .i64 (k : Int))) (go_keep)
            (first | ((go_at_call 62; (with_reducible refine (KI.out _ (by (skip); repeat' (first | (with_reducible exact Below.refl _ _) | (with_reducible assumption) | (with_reducible refine Below.alloc ?_ ?_ _) | (with_reducible refine Below.drew ?_) | (with_reducible refine below_drewN ?_ _) | (with_reducible refine Below.setCell ?_ ?_ _) | (with_reducible refine Below.trans ?_ (Below.mono (by with_reducible assumption) ?_)) | omega | (simp only [ZA, ZS, ZD, ZN]; omega) | go_size))).mono ?_); rintro e w8 ⟨⟨r, rfl, hr⟩, hb8⟩; have hb8z := Below.size hb8; (try simp only [ZA, ZS, ZD] at hb8z); have hb8c0 := fun o => below_at hb8 (w5.heap.size + 1) o (by first | omega | (simp only [ZA, ZS, ZD]; omega)); have hb8f0 := fun o => below_fr hb8 (w5.heap.size + 1) o (by first | omega | (simp only [ZA, ZS, ZD]; omega)); have hb8l0 : w5.heap.size + 1 < (w8).heap.size := (by omega); have hb8c1 := fun o => below_at hb8 (wr.heap.size) o (by first | omega | (simp only [ZA, ZS, ZD]; omega)); have hb8f1 := fun o => below_fr hb8 (wr.heap.size) o (by first | omega | (simp only [ZA, ZS, ZD]; omega)); have hb8l1 : wr.heap.size < (w8).heap.size := (by omega))) | fail)
          all_goals
            have hst := HSk.out r hlt (by rw [← HM.out]; exact hr)
            have hb9 : Below wq.heap.size wq w8 := (by have z0 := Below.size hb8; (try simp only [ZA, ZS, ZD, ZN] at z0 ⊢; skip); repeat' (first | (with_reducible exact Below.refl _ _) | (with_reducible assumption) | (with_reducible refine Below.alloc ?_ ?_ _) | (with_reducible refine Below.drew ?_) | (with_reducible refine below_drewN ?_ _) | (with_reducible refine Below.setCell ?_ ?_ _) | (with_reducible refine Below.trans ?_ (Below.mono (by with_reducible assumption) ?_)) | omega | (simp only [ZA, ZS, ZD, ZN]; omega) | go_size))
            have o1 := H1.out.below hb9
            have o2 := H2.out.below hb9
            have st := o2.set k r
            have o1a := o1.kept_ st.2 HAP.out
            have hbs := (HBR.out.trans (hb9.mono (by omega))).trans (below_of_row st.2 (fun q hq => by injection hq with hq; omega) (by have := hb9.size; omega))
            have HO1 := Lib.hid o1a
            have HO2 := Lib.hid st.1
            have HBS := Lib.hid hbs
            have hvk : w8.cell? ⟨w5.heap.size + 1, k, none⟩ = some v9 := (hb9.cell (p := ⟨w5.heap.size + 1, k, none⟩) hl9).trans hv9
            have hzk : w8.cell? ⟨wr.heap.size, 0, none⟩ = some (.int .i64 (k : Int)) := (hb9.cell (p := ⟨wr.heap.size, 0, none⟩) hwz).trans z9
            have hz8 : wq.heap.size ≤ w8.heap.size := hb9.size
            have hf8 : ∀ i, w8.frozen? ⟨w5.heap.size + 1, i, none⟩ = false := o2.frozen
            clear o1 o2 st o1a hbs hb9 hr hb8 KI
            rcases hst with ⟨rfl, hz, hc, hgk⟩ | ⟨x, rfl, hz, hc⟩
            · rw [← HM.out] at hz hc hgk
              have st2 := HO2.out.set k (m : Int)
              have o1b := HO1.out.kept_ st2.2 HAP.out
              have hbs2 := HBS.out.trans (below_of_row st2.2 (fun q hq => by injection hq with hq; omega) (by simp; omega))
              have HO1b := Lib.hid o1b
              have HO2b := Lib.hid st2.1
              have HBS2 := Lib.hid hbs2
              have HC := Lib.hid hc
              have HZ := Lib.hid hz
              have HGK := Lib.hid hgk
              have HBK := Lib.hid HO1.out.blk
              clear st2 o1b hbs2 hc hz hgk
              go_wp2_with (first | (at_builtin; refine wpList_appZ rfl (.tmp 47) (.tmp 49) rfl (w5.heap.size + 1) A1 d1 m (G t) (by first | rfl | simp [Act.eval]) (HO1b.out.below ((Below.refl _ _).alloc (Nat.le_refl _) _)) w8.heap.size (by first | rfl | simp [Act.eval]) (by rw [HGK.out, World.cell?_alloc_at _ _ _ _ (by simp)]; rfl) (by omega) (by first | omega | (simp; omega)) ?_; intro g6 cap6 w6 own6 hgr6 hor6 hlt6) | fail)
              have hal9 := (Below.refl ((w8.setCell ⟨w5.heap.size + 1, k, none⟩ (.int .i64 (-1))).setCell ⟨w5.heap.size + 1, k, none⟩ (.int .i64 (m : Int))).heap.size ((w8.setCell ⟨w5.heap.size + 1, k, none⟩ (.int .i64 (-1))).setCell ⟨w5.heap.size + 1, k, none⟩ (.int .i64 (m : Int)))).alloc (Nat.le_refl _) (.cells #[.int .i64 (k : Int)] 3)
              have o2c := (HO2b.out.below hal9).kept_ hgr6 (fun q hq => HAP.out.symm q hq)
              have hu6 : ∀ q, (Value.slice (some ⟨w5.heap.size + 1, 0, none⟩) c.nd c.nd).ownBlock = some q → q < (((w8.setCell ⟨w5.heap.size + 1, k, none⟩ (.int .i64 (-1))).setCell ⟨w5.heap.size + 1, k, none⟩ (.int .i64 (m : Int))).alloc (.cells #[.int .i64 (k : Int)] 3)).heap.size := fun q hq => by
                have e9 : w5.heap.size + 1 = q := by simpa [Value.ownBlock] using hq
                subst e9
                simp
                omega
              have ap6 : Apt (.slice (some ⟨g6, 0, none⟩) (m + 1) cap6) (.slice (some ⟨w5.heap.size + 1, 0, none⟩) c.nd c.nd) := apt_grow HAP.out hu6 hor6
              have hb6 := (HBS2.out.trans (hal9.mono (by simp; omega))).trans (below_of_row hgr6 (fun q hq => (HBK.out q hq).1) (by simp; omega))
              have HF := Lib.hid (And.intro own6 (And.intro o2c (And.intro ap6 hb6)))
              clear own6 o2c ap6 hb6 hal9 hgr6 hor6
              go_roundw
              case rel =>
                refine ⟨k + 1, _, _, m + 1, by omega, by go_num, rfl, HC.out.symm, HF.out.1, HF.out.2.1.congr (fun j hj => ?_), HF.out.2.2.1, HF.out.2.2.2⟩
                unfold upd
                by_cases e : j = k
                · rw [if_pos e, if_pos (by omega), e, HZ.out]
                · rw [if_neg e, if_neg e]
                  show (if j < k then Z (t + 1) j else 0) = if j < k + 1 then Z (t + 1) j else 0
                  by_cases e2 : j < k
                  · rw [if_pos e2, if_pos (by omega)]
                  · rw [if_neg e2, if_neg (by omega)]
              case measure => simp [intOf]; omega
            · have HC := Lib.hid hc
              have HZ := Lib.hid hz
              have e3 : decide ((x : Int) < 0) = false := by simp
              clear hz hc
              go_wp2
              go_roundw
              case rel =>
                refine ⟨k + 1, A1, d1, m, by omega, by go_num, rfl, by rw [HM.out]; exact HC.out.symm, HO1.out, HO2.out.congr (fun j hj => ?_), HAP.out, HBS.out⟩
                unfold upd
                by_cases e : j = k
                · rw [if_pos e, if_pos (by omega), e, HZ.out]
                · rw [if_neg e]
                  show (if j < k then Z (t + 1) j else 0) = if j < k + 1 then Z (t + 1) j else 0
                  by_cases e2 : j < k
                  · rw [if_pos e2, if_pos (by omega)]
                  · rw [if_neg e2, if_neg (by omega)]
              case measure => simp [intOf]; omega
        · have hkn : k = c.nd := by omega
          obtain ⟨h05, q7, q7f, q8, qP, qy⟩ := H6.out _ hb
          have KE := Lib.hid (fun W (hb' : Below wr.heap.size wr W) => slEqual_any (c := c.nd) (d := d) (own2.below hb').pa (qP.below hb') (by omega))
          have HKN := Lib.hid hkn
          have HO2 := Lib.hid own2
          have HQP := Lib.hid qP
          have h5w := HB5.out.trans (h05.mono hz5)
          have HB0 := Lib.hid (HB.out.trans (h5w.mono (by omega)))
          have hz0 := h05.size
          obtain ⟨ans, hans⟩ : ∃ ans, ans = eqZ c.nd (fun j => if j < k then Z (t + 1) j else 0) (Z t) := ⟨_, rfl⟩
          rw [← hans] at KE
          have HANS := Lib.hid hans
          clear own1 own2 ap hm qP q8 qy hb hkn h05 h5w hans
          cases ans
          · (go_wp2_with fail; (with_reducible refine (KE.out _ (by (skip); repeat' (first | (with_reducible exact Below.refl _ _) | (with_reducible assumption) | (with_reducible refine Below.alloc ?_ ?_ _) | (with_reducible refine Below.drew ?_) | (with_reducible refine below_drewN ?_ _) | (with_reducible refine Below.setCell ?_ ?_ _) | (with_reducible refine Below.trans ?_ (Below.mono (by with_reducible assumption) ?_)) | omega | (simp only [ZA, ZS, ZD, ZN]; omega) | go_size))).mono ?_); rintro e w8 ⟨rfl, hb8⟩; have hb8z := Below.size hb8; (try simp only [ZA, ZS, ZD, ZN] at hb8z))
            have hgr := HGR.out t (fun he => by
              have h1 := HANS.out
              rw [eqZ_iff.2 (fun j hj => by
                show (if j < k then Z (t + 1) j else 0) = Z t j
                rw [if_pos (by rw [HKN.out]; exact hj)]
                exact he j hj)] at h1
              cases h1)
            have hbl9 := HBL.out (t + 1)
            have h2w : w2.heap.size < wr.heap.size := by omega
            have v7 : w8.cell? ⟨w2.heap.size, 0, none⟩ = some (.slice A c.nd d) := (hb8.cell (p := ⟨w2.heap.size, 0, none⟩) h2w).trans q7
            have v7f : w8.frozen? ⟨w2.heap.size, 0, none⟩ = false := (hb8.frozen (p := ⟨w2.heap.size, 0, none⟩) h2w).trans q7f
            have N8 : PaI w8 (some ⟨w5.heap.size + 1, 0, none⟩) c.nd (Z (t + 1)) := ((HO2.out.below hb8).pa).congr (fun j hj => by
              show (if j < k then Z (t + 1) j else 0) = _
              rw [if_pos (by rw [HKN.out]; exact hj)])
            have N9 := N8.far (g := w2.heap.size) (j := 0) (v := .slice (some ⟨w5.heap.size + 1, 0, none⟩) c.nd c.nd) (fun b o e => by cases e; omega)
            have hcs : (w8.setCell ⟨w2.heap.size, 0, none⟩ (.slice (some ⟨w5.heap.size + 1, 0, none⟩) c.nd c.nd)).cell? ⟨w2.heap.size, 0, none⟩ = some (.slice (some ⟨w5.heap.size + 1, 0, none⟩) c.nd c.nd) := World.cell?_setCell_same _ _ _ v7
            have HM9 := Lib.hid (HME.out _ w2.heap.size (t + 1) _ _ hcs N9)
            have HCS := Lib.hid hcs
            have HN9 := Lib.hid N9
            have HB9 := Lib.hid ((HB0.out.trans (hb8.mono (by omega))).setCell (p := ⟨w2.heap.size, 0, none⟩) (by show _ ≤ w2.heap.size; omega) (.slice (some ⟨w5.heap.size + 1, 0, none⟩) c.nd c.nd))
            have HGR9 := Lib.hid hgr
            have hz8 := hb8.size
            have HVF := Lib.hid v7f
            clear hb8 N8 N9 hcs hgr q7 q7f
            go_wp2
            go_roundw
            case rel => exact ⟨t + 1, _, _, HCS.out, by first | exact HVF.out | (simp; exact HVF.out) | simpa using HVF.out, HN9.out, HB9.out, by simp; omega⟩
            case measure =>
              have h1 := HGR9.out
              show c.nd - _ < c.nd - _
              rw [HM9.out, HM0.out]
              omega
          · (go_wp2_with fail; (with_reducible refine (KE.out _ (by (skip); repeat' (first | (with_reducible exact Below.refl _ _) | (with_reducible assumption) | (with_reducible refine Below.alloc ?_ ?_ _) | (with_reducible refine Below.drew ?_) | (with_reducible refine below_drewN ?_ _) | (with_reducible refine Below.setCell ?_ ?_ _) | (with_reducible refine Below.trans ?_ (Below.mono (by with_reducible assumption) ?_)) | omega | (simp only [ZA, ZS, ZD, ZN]; omega) | go_size))).mono ?_); rintro e w8 ⟨rfl, hb8⟩; have hb8z := Below.size hb8; (try simp only [ZA, ZS, ZD, ZN] at hb8z))
            have v7 : w8.cell? ⟨w2.heap.size, 0, none⟩ = some (.slice A c.nd d) := (hb8.cell (p := ⟨w2.heap.size, 0, none⟩) (by show w2.heap.size < _; omega)).trans q7
            have HC9 := Lib.hid (HEQ.out t (fun j hj => by
              have := eqZ_iff.1 HANS.out.symm j hj
              simp only [show j < k by rw [HKN.out]; exact hj, if_true] at this
              exact this))
            have HB9 := Lib.hid (HPB.out _ (HB0.out.trans (hb8.mono (by omega))))
            have HP9 := Lib.hid ((HQP.out.below hb8).congr HC9.out)
            clear hb8
            go_wp2
            go_ret2
            exact ⟨⟨_, _, by rw [errM_0]; rfl, HP9.out⟩, HB9.out⟩
  · have HE := Lib.hid (errM_n h0)
    rw [errM_n h0] at K1
    rw [lenC_n h0]
    have HPB := Lib.hid (fun W hb => par_below (W := W) (w := w) (o := .cells #[.int .i64 c.st, .int .i64 c.sr, .slice AM c.nm cm, .slice AD c.nd cd] 25) hb)
    have hW0z : (w.alloc (.cells #[.int .i64 c.st, .int .i64 c.sr, .slice AM c.nm cm, .slice AD c.nd cd] 25)).heap.size = w.heap.size + 1 := by simp
    clear h hs hv h0 hsz
    go_enter Tryz.func23, Tryz.ntmps23
    (go_wp2_with fail; (with_reducible refine (K1.out _ (by (skip); repeat' (first | (with_reducible exact Below.refl _ _) | (with_reducible assumption) | (with_reducible refine Below.alloc ?_ ?_ _) | (with_reducible refine Below.drew ?_) | (with_reducible refine below_drewN ?_ _) | (with_reducible refine Below.setCell ?_ ?_ _) | (with_reducible refine Below.trans ?_ (Below.mono (by with_reducible assumption) ?_)) | omega | (simp only [ZA, ZS, ZD, ZN]; omega) | go_size))).mono ?_); rintro e w1 ⟨rfl, hb1⟩; have hb1z := Below.size hb1; (try simp only [ZA, ZS, ZD, ZN] at hb1z); have hb1c0 := fun o => below_at hb1 (w.heap.size) o (by first | omega | (simp only [ZA, ZS, ZD, ZN]; omega)); have hb1f0 := fun o => below_fr hb1 (w.heap.size) o (by first | omega | (simp only [ZA, ZS, ZD, ZN]; omega)))
    have hB1 := HPB.out w1 (by rw [← hW0z]; exact hb1)
    go_wp2
    go_ret2
    exact ⟨⟨_, _, by rw [HE.out]; rfl, PaI.nil_ _ _⟩, hB1⟩
end Go.Proofs.YtlncafhgmbhocaaGreatDoor
