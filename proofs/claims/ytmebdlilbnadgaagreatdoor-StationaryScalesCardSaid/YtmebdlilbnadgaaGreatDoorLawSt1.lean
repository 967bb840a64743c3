/- Contracts of functions and lemmas, used by the proofs of the given statements. No condition beyond those that each lemma names. -/
import Derived.Test.YtmebdlilbnadgaaGreatDoorStaAw
import Derived.Test.YtmebdlilbnadgaaGreatDoorJLinY
import Derived.Test.YtmebdlilbnadgaaGreatDoorBaseBig
import Derived.Test.YtmebdlilbnadgaaGreatDoorBis
import Derived.Test.YtmebdlilbnadgaaGreatDoorJOpenNum
namespace Go.Proofs.YtmebdlilbnadgaaGreatDoor
open Go.RowKit
set_option linter.unusedSimpArgs false
set_option linter.unusedVariables false
set_option maxRecDepth 20000
attribute [local irreducible] nv wp win plainB validR valR canR mvE chkM codeC spr sprN chg cnt cntB ixB kept netS sumN dsum floG staX
/-! ## StationaryScales -/
set_option maxHeartbeats 16000000 in
theorem stationaryScales_law {w : World} {AM AD : Option Addr} {cm cd p : Nat} {c : Chn} (h : ChI w w.heap.size AM cm AD cd c) (hp : p < 256) :
    Calls Tryz.prog 3 #[cv c.st c.sr AM c.nm cm AD c.nd cd, .int .u8 (p : Int)] w fun e w' => e = .returned (.bool true) ∧ Below w.heap.size w w' := by
  have KF := Lib.hid (fun W (hb : Below w.heap.size w W) => valid52_any (h.below hb))
  have hbA : Below w.heap.size w (w.alloc (.cells #[.int .i64 c.st, .int .i64 c.sr, .slice AM c.nm cm, .slice AD c.nd cd] 25)) := (Below.refl _ _).alloc (Nat.le_refl _) _
  have HBA := Lib.hid hbA
  have HI := Lib.hid h
  have ew : IntKind.i64.wrap (1 + (p : Int)) = 1 + (p : Int) := by rw [IntKind.wrap_i64]; omega
  have ew2 : IntKind.i64.wrap (p : Int) = (p : Int) := by rw [IntKind.wrap_i64]; omega
  clear h hbA
  go_enter Tryz.func3, Tryz.ntmps3
  (go_wp2_with fail; (with_reducible refine (KF.out _ HBA.out).mono ?_); rintro e w1 ⟨⟨bb, rfl, hbb⟩, hb1⟩; have hb1z := Below.size hb1; (try simp only [ZA, ZS, ZD, ZN] at hb1z); have hb1c0 := fun o => below_at hb1 (w.heap.size) o (by first | omega | (simp only [ZA, ZS, ZD, ZN]; omega)); have hb1f0 := fun o => below_fr hb1 (w.heap.size) o (by first | omega | (simp only [ZA, ZS, ZD, ZN]; omega)))
  have hB1 : Below w.heap.size w w1 := HBA.out.trans (hb1.mono (by simp))
  cases bb with
  | false =>
    clear hbb
    (go_wp2_with fail; (with_reducible refine (awake52_any _).mono ?_); rintro e w2 ⟨rfl, hb2⟩; have hb2z := Below.size hb2; (try simp only [ZA, ZS, ZD, ZN] at hb2z))
    go_wp2
    go_ret
    exact ⟨rfl, hB1.trans (hb2.mono hB1.size)⟩
  | true =>
    have HF := Lib.hid (hbb rfl)
    clear hbb
    have hw1 : w.heap.size < w1.heap.size := by have := hb1.size; simp at this; omega
    have hS := HF.out.1.small HI.out
    have h0 := HF.out.2
    have ok := Chn.ok_iff.1 h0
    have hst := ok.st
    have hn9 := hS.nd ok
    have hnm := hS.nm
    obtain ⟨fq, hfq⟩ : ∃ fq : Rat, fq = ((1 + p : Nat) : Rat) := ⟨_, rfl⟩
    have hf : 0 < fq := by rw [hfq]; exact_mod_cast (show 0 < 1 + p by omega)
    have hfs : Sz 1 fq := by rw [hfq]; exact Sz_nat (by omega) (by omega)
    have KO : Hid (∀ W : World, Calls Tryz.prog 11 #[.int .i64 (1 + (p : Int))] W fun e w' => RetQ W.heap.size fq e w' ∧ Below W.heap.size W w') := fun W => by
      rw [hfq, show (1 + (p : Int)) = ((1 + p : Nat) : Int) by omega]
      exact ofQ (1 + p) W (by omega)
    have hSm := hS.mul_sizP hf hfs ok
    have h0m := Chn.mul_code h0 hf
    have K3a : c.ncl = 1 → ∀ W, Below w.heap.size w W → Calls Tryz.prog 13 #[cv c.st c.sr AM c.nm cm AD c.nd cd] W fun e w' => (∃ A d, e = .returned (.tuple #[.slice A c.nd d, .nilIface]) ∧ RowA w' w'.heap.size A c.nd (can c.pi)) ∧ Below W.heap.size W w' := fun h1 W hb => solve_ok (HI.out.below hb) hS.sizP h0 h1
    have K4a : c.ncl = 1 → ∀ W A' c', ChI W W.heap.size A' c' AD cd (c.mul fq) → Calls Tryz.prog 13 #[cv c.st c.sr A' c.nm c' AD c.nd cd] W fun e w' => (∃ A d, e = .returned (.tuple #[.slice A c.nd d, .nilIface]) ∧ RowA w' w'.heap.size A c.nd (can c.pi)) ∧ Below W.heap.size W w' := fun h1 W A' c' hi => by
      have := solve_ok hi hSm h0m h1
      rw [Chn.mul_pi ok hf h1] at this
      exact this
    have K3b : c.ncl ≠ 1 → ∀ W, Below w.heap.size w W → Calls Tryz.prog 13 #[cv c.st c.sr AM c.nm cm AD c.nd cd] W fun e w' => (∃ A d, e = .returned (.tuple #[.slice A 0 d, .iface 41 (.int .i64 16)])) ∧ Below W.heap.size W w' := fun h1 W hb => solve_no (HI.out.below hb) hS.sizP h0 h1
    have K4b : c.ncl ≠ 1 → ∀ W A' c', ChI W W.heap.size A' c' AD cd (c.mul fq) → Calls Tryz.prog 13 #[cv c.st c.sr A' c.nm c' AD c.nd cd] W fun e w' => (∃ A d, e = .returned (.tuple #[.slice A 0 d, .iface 41 (.int .i64 16)])) ∧ Below W.heap.size W w' := fun h1 W A' c' hi => solve_no (c := c.mul fq) hi hSm h0m h1
    have K5a : c.ncl = 1 → ∀ W A ca, Below w.heap.size w W → RowA W W.heap.size A c.nd (can c.pi) → Calls Tryz.prog 15 #[cv c.st c.sr AM c.nm cm AD c.nd cd, .slice A c.nd ca] W fun e w' => (∃ v, e = .returned (.tuple #[v, .nilIface]) ∧ RdS w' 0 v (canR (c.frq c.pi c.nm))) ∧ Below W.heap.size W w' := fun h1 W A ca hb hr => by
      have := Frequency_any (ca := ca) (pi_dist (HI.out.below hb) hS ok hr)
      rw [Chn.pi_codeCe h0 h1, Chn.pi_frqV h0 h1] at this
      refine this.mono fun e w' ⟨h1, h2⟩ => ⟨?_, h2⟩
      obtain ⟨v, e1, r⟩ := h1
      rw [errM_0] at e1
      exact ⟨v, e1, r⟩
    have K6a : c.ncl = 1 → ∀ W A' c' A ca, ChI W W.heap.size A' c' AD cd (c.mul fq) → RowA W W.heap.size A c.nd (can c.pi) → Calls Tryz.prog 15 #[cv c.st c.sr A' c.nm c' AD c.nd cd, .slice A c.nd ca] W fun e w' => (∃ v, e = .returned (.tuple #[v, .nilIface]) ∧ RdS w' 0 v (canR (fq * c.frq c.pi c.nm))) ∧ Below W.heap.size W w' := fun h1 W A' c' A ca hi hr => by
      have hcb : (c.mul fq).codeB c.nd (can c.pi) = 0 := Chn.codeB_z h0m rfl (allV_yes fun k _ => canR_valid _)
      have hbal : (c.mul fq).balB (vecQ c.nd (can c.pi)) = true := Chn.mul_bal hf _ (Chn.pi_bal h0 h1)
      have hce : (c.mul fq).codeCe c.nd (can c.pi) = 0 := Chn.codeCe_z hcb hbal
      have hd : DistS W A' c' AD cd (c.mul fq) A c.nd (can c.pi) := ⟨hi, hSm, hr, hS.pi_big ok _, by omega, fun _ => by rw [Chn.pi_vec]; exact hS.pi_fz ok⟩
      have := Frequency_any (ca := ca) hd
      rw [hce, show (c.mul fq).frqV c.nd (can c.pi) = fq * c.frq c.pi c.nm by unfold Chn.frqV; rw [if_pos hce, Chn.pi_vec]; exact Chn.mul_frq _ _] at this
      refine this.mono fun e w' ⟨h1, h2⟩ => ⟨?_, h2⟩
      obtain ⟨v, e1, r⟩ := h1
      rw [errM_0] at e1
      exact ⟨v, e1, r⟩
    obtain ⟨M, hM⟩ : ∃ M, M = 220000200 := ⟨_, rfl⟩
    have hM2 : 400 ≤ M ∧ M ≤ 1000000000 := by omega
    have hSF : Sz 220000040 (c.frq c.pi c.nm) := by
      obtain ⟨-, -, -, b4, -⟩ := hS.sizP.bal ok 220000000 c.pi (hS.pi_fz ok)
      exact (b4 c.nm (Nat.le_refl _) _).more (by omega)
    have HSF : Hid (Sz M (c.frq c.pi c.nm)) := hSF.more (by omega)
    have HSG : Hid (Sz M (fq * c.frq c.pi c.nm)) := by
      show Sz M _
      rw [Rat.mul_comm]
      exact (hSF.mul hfs (by omega)).more (by omega)
    have HBE : Hid (∀ k, k < c.nd → (can c.pi k).2.1.length ≤ 1000000000 ∧ (can c.pi k).2.2.length ≤ 1000000000) := hS.pi_big ok c.nd
    have HCH : Hid (∀ W A' c' b0, Below w.heap.size w W → OwM W b0 A' c' c.nm c.F c.T (fun k => canR (c.q k * fq)) → b0 ≤ W.heap.size → ChI W W.heap.size A' c' AD cd (c.mul fq)) := fun W A' c' b0 hb ho hb0 => Chn.mul_chi HI.out hb ho hb0
    have HMV : Hid (MovA w w.heap.size AM c.nm c.F c.T c.R) := HI.out.mv.1
    have HSQ := Lib.hid (fun k hk => (hS.chS.siz ok).raw k hk)
    have hMC : ∃ MC, MC = c.mul fq := ⟨_, rfl⟩
    obtain ⟨MC, hMC⟩ := hMC
    rw [← hMC] at K4a K4b K6a HCH
    obtain ⟨XP, hXP⟩ : ∃ XP, XP = c.pi := ⟨_, rfl⟩
    obtain ⟨FR, hFR⟩ : ∃ FR, FR = c.frq c.pi c.nm := ⟨_, rfl⟩
    rw [← hFR] at K5a K6a HSF HSG
    rw [← hXP] at K3a K4a K5a K6a HBE
    have HK1 := Lib.hid (fun h1 => And.intro (K3a h1) (And.intro (K4a h1) (And.intro (K5a h1) (K6a h1))))
    have HK2 := Lib.hid (fun h1 => And.intro (K3b h1) (K4b h1))
    obtain ⟨ncl, hncl⟩ : ∃ ncl, ncl = c.ncl := ⟨_, rfl⟩
    rw [← hncl] at HK1 HK2
    have HFS := Lib.hid (hfs.more (show 1 ≤ M by omega))
    clear K3a K3b K4a K4b K5a K6a hMC hXP hFR hncl hst ok h0 h0m hS hSm HF HI KF HBA hM hSF hfs hf hfq
    (go_wp2_with fail; (with_reducible refine (awake52_any _).mono ?_); rintro e w3 ⟨rfl, hb3⟩; have hb3z := Below.size hb3; (try simp only [ZA, ZS, ZD, ZN] at hb3z); have hb3c0 := fun o => below_at hb3 (w.heap.size) o (by first | omega | (simp only [ZA, ZS, ZD, ZN]; omega)); have hb3f0 := fun o => below_fr hb3 (w.heap.size) o (by first | omega | (simp only [ZA, ZS, ZD, ZN]; omega)))
    have hB3 : Below w.heap.size w w3 := hB1.trans (hb3.mono hB1.size)
    (go_wp2_with fail; (with_reducible refine (KO.out _).mono ?_); rintro e w4 ⟨⟨v4, rfl, own4⟩, hb4⟩; have hb4z := Below.size hb4; (try simp only [ZA, ZS, ZD, ZN] at hb4z); have hb4c0 := fun o => below_at hb4 (w.heap.size) o (by first | omega | (simp only [ZA, ZS, ZD, ZN]; omega)); have hb4f0 := fun o => below_fr hb4 (w.heap.size) o (by first | omega | (simp only [ZA, ZS, ZD, ZN]; omega)))
    have hB4 : Below w.heap.size w w4 := hB3.trans (hb4.mono hB3.size)
    obtain ⟨s4, A4, n4, c4, B4, m4, d4, rfl⟩ := own4.form
    have hz4 : w.heap.size < w4.heap.size := by have := hb1.size; have := hb3.size; have := hb4.size; omega
    have y0 : ∀ i, w4.cell? ⟨w.heap.size, i, none⟩ = (w.alloc (.cells #[.int .i64 c.st, .int .i64 c.sr, .slice AM c.nm cm, .slice AD c.nd cd] 25)).cell? ⟨w.heap.size, i, none⟩ := fun i => by rw [hb4c0, hb3c0, hb1c0]
    have u0 : w4.cell? ⟨w.heap.size, 0, none⟩ = some (.int .i64 c.st) := by rw [y0]; simp
    have u1 : w4.cell? ⟨w.heap.size, 1, none⟩ = some (.int .i64 c.sr) := by rw [y0]; simp
    have u2 : w4.cell? ⟨w.heap.size, 2, none⟩ = some (.slice AM c.nm cm) := by rw [y0]; simp
    have u3 : w4.cell? ⟨w.heap.size, 3, none⟩ = some (.slice AD c.nd cd) := by rw [y0]; simp
    have uu0 := fun o => Lib.cell?_alloc_some o u0
    have uu1 := fun o => Lib.cell?_alloc_some o u1
    have uu3 := fun o => Lib.cell?_alloc_some o u3
    have uu2 := fun o1 o2 => Lib.cell?_alloc_some o2 (Lib.cell?_alloc_some o1 u2)
    have HQF := Lib.hid (own4.rq HFS.out)
    have HB4 := Lib.hid hB4
    clear y0 hb1 hb3 hb4 hb1c0 hb3c0 hb4c0 hb1f0 hb3f0 hb4f0 hB1 hB3 hB4 own4
    go_wp2
    go_loopw [39] (fun i wr => ∃ (k : Nat) (A : Option Addr) (cp : Nat), k ≤ c.nm ∧ i = .int .i64 (k : Int) ∧ OwM wr w4.heap.size A cp k c.F c.T (fun k => canR (c.q k * fq)) ∧ (∀ q, (Value.slice A k cp).ownBlock = some q → w4.heap.size + 2 ≤ q)
      ∧ Below w4.heap.size w4 wr ∧ w4.heap.size + 2 ≤ wr.heap.size ∧ TyB 25 wr (w4.heap.size + 1)
      ∧ (wr.cell? ⟨w4.heap.size, 0, none⟩ = some (.bool s4) ∧ wr.cell? ⟨w4.heap.size, 1, none⟩ = some (.slice A4 n4 c4) ∧ wr.cell? ⟨w4.heap.size, 2, none⟩ = some (.slice B4 m4 d4))
      ∧ (wr.cell? ⟨w4.heap.size + 1, 0, none⟩ = some (.int .i64 c.st) ∧ wr.cell? ⟨w4.heap.size + 1, 1, none⟩ = some (.int .i64 c.sr) ∧ wr.cell? ⟨w4.heap.size + 1, 2, none⟩ = some (.slice A k cp) ∧ wr.cell? ⟨w4.heap.size + 1, 3, none⟩ = some (.slice AD c.nd cd))
      ∧ (∀ i, wr.frozen? ⟨w4.heap.size + 1, i, none⟩ = false)) (fun i _ => c.nm - (intOf i).toNat)
    case atStart =>
      have hs1 : (w4.alloc (.cells #[.bool s4, .slice A4 n4 c4, .slice B4 m4 d4] 30)).heap.size = w4.heap.size + 1 := by simp
      have hty : TyB 25 ((w4.alloc (.cells #[.bool s4, .slice A4 n4 c4, .slice B4 m4 d4] 30)).alloc (.cells #[.int .i64 c.st, .int .i64 c.sr, .slice none 0 0, .slice AD c.nd cd] 25)) (w4.heap.size + 1) := by rw [← hs1]; exact TyB.new _ _
      have hp0 : ∀ j, ((w4.alloc (.cells #[.bool s4, .slice A4 n4 c4, .slice B4 m4 d4] 30)).alloc (.cells #[.int .i64 c.st, .int .i64 c.sr, .slice none 0 0, .slice AD c.nd cd] 25)).cell? ⟨w4.heap.size, j, none⟩ = (#[.bool s4, .slice A4 n4 c4, .slice B4 m4 d4] : Array Value)[j]? := fun j => (World.cell?_alloc_past _ _ _ (by simp)).trans (World.cell?_alloc_at _ _ _ _ rfl)
      have hp1 : ∀ j, ((w4.alloc (.cells #[.bool s4, .slice A4 n4 c4, .slice B4 m4 d4] 30)).alloc (.cells #[.int .i64 c.st, .int .i64 c.sr, .slice none 0 0, .slice AD c.nd cd] 25)).cell? ⟨w4.heap.size + 1, j, none⟩ = (#[.int .i64 c.st, .int .i64 c.sr, .slice none 0 0, .slice AD c.nd cd] : Array Value)[j]? := fun j => World.cell?_alloc_at _ _ _ _ (by simp)
      exact ⟨0, none, 0, Nat.zero_le _, rfl, OwM.nil_ _ _ _ _ _, (fun q hq => nomatch hq), ((Below.refl _ _).alloc (Nat.le_refl _) _).alloc (by simp) _, by simp, hty, ⟨hp0 0, hp0 1, hp0 2⟩, ⟨hp1 0, hp1 1, hp1 2, hp1 3⟩, fun i => World.frozen?_alloc_at _ _ _ _ (by simp)⟩
    case round =>
      clear uu0 uu1 uu2 uu3
      obtain ⟨k, A, cp, hk, rfl, ho, hoq, hb, hz, hTy, ⟨f0, f1, f2⟩, ⟨x0, x1, x2, x3⟩, fz⟩ := hrel
      have hbW : Below w.heap.size w wr := HB4.out.trans (hb.mono (by omega))
      by_cases hlt : k < c.nm
      · obtain ⟨bm, om, s1, A1, n1, c1, B1, m1, d1, rfl, hbm, p0, p1, p2, p3, p4, r1⟩ := HMV.out.at_ hlt
        have g0 := (hbW.cell (p := ⟨bm, om + k * 5, none⟩) hbm).trans p0
        have g1 := (hbW.cell (p := ⟨bm, om + k * 5 + 1, none⟩) hbm).trans p1
        have g2 := (hbW.cell (p := ⟨bm, om + k * 5 + 2, none⟩) hbm).trans p2
        have g3 := (hbW.cell (p := ⟨bm, om + k * 5 + 3, none⟩) hbm).trans p3
        have g4 := (hbW.cell (p := ⟨bm, om + k * 5 + 4, none⟩) hbm).trans p4
        obtain ⟨q1, q2⟩ := HSQ.out k hlt
        have qm := r1.rdq (L := M) (by omega) (by omega)
        rw [show valR (c.R k) = c.q k from rfl] at qm
        obtain ⟨F, hF⟩ : ∃ F, F = c.F k := ⟨_, rfl⟩
        obtain ⟨T, hT⟩ : ∃ T, T = c.T k := ⟨_, rfl⟩
        obtain ⟨q, hq⟩ : ∃ q, q = c.q k := ⟨_, rfl⟩
        rw [← hF] at g0
        rw [← hT] at g1
        rw [← hq] at qm
        have HFk := Lib.hid hF
        have HTk := Lib.hid hT
        have HQk := Lib.hid hq
        have HO := Lib.hid ho
        have HOQ := Lib.hid hoq
        have HB := Lib.hid hb
        have HTY := Lib.hid hTy
        have KM := Lib.hid (fun W (hb : Below w.heap.size w W) (hb4 : Below w4.heap.size w4 W) => mulQ (qm.below hb) (HQF.out.below hb4) (by omega) (by omega))
        have hki : (k : Int) < (c.nm : Int) := by omega
        have hk0 : (0 : Int) ≤ (k : Int) := by omega
        have hN9 : Hid (∀ j, j < w4.heap.size + 2 → some j ≠ (Value.slice A k cp).ownBlock) := fun j hj e => absurd (HOQ.out j e.symm) (by omega)
        clear hF hT hq p0 p1 p2 p3 p4 r1 qm q1 q2 ho hoq hb hTy
        (have oac := fun o i => below_at ((Below.refl wr.heap.size wr).alloc (Nat.le_refl _) o) (w4.heap.size) i (by omega)); (have oaf := fun o i => below_fr ((Below.refl wr.heap.size wr).alloc (Nat.le_refl _) o) (w4.heap.size) i (by omega))
        (have occ := fun o i => below_at ((Below.refl wr.heap.size wr).alloc (Nat.le_refl _) o) (w4.heap.size + 1) i (by omega)); (have ocf := fun o i => below_fr ((Below.refl wr.heap.size wr).alloc (Nat.le_refl _) o) (w4.heap.size + 1) i (by omega))
        go_wp2
        obtain ⟨wq, hwq⟩ : ∃ wq, wq = wr.alloc (.cells #[.int .i64 F, .int .i64 T, .bool s1, .slice A1 n1 c1, .slice B1 m1 d1] 33) := ⟨_, rfl⟩
        rw [← hwq]
        have hal : Below wr.heap.size wr wq := by rw [hwq]; exact (Below.refl _ _).alloc (Nat.le_refl _) _
        have HAL := Lib.hid hal
        have z0 : wq.cell? ⟨wr.heap.size, 0, none⟩ = some (.int .i64 F) := by rw [hwq]; simp
        have z1 : wq.cell? ⟨wr.heap.size, 1, none⟩ = some (.int .i64 T) := by rw [hwq]; simp
        have z2 : wq.cell? ⟨wr.heap.size, 2, none⟩ = some (.bool s1) := by rw [hwq]; simp
        have z3 : wq.cell? ⟨wr.heap.size, 3, none⟩ = some (.slice A1 n1 c1) := by rw [hwq]; simp
        have z4 : wq.cell? ⟨wr.heap.size, 4, none⟩ = some (.slice B1 m1 d1) := by rw [hwq]; simp
        have hwz : wq.heap.size = wr.heap.size + 1 := by rw [hwq]; simp
        have v0 := (hal.cell (p := ⟨w4.heap.size, 0, none⟩) (by show w4.heap.size < _; omega)).trans f0
        have v1 := (hal.cell (p := ⟨w4.heap.size, 1, none⟩) (by show w4.heap.size < _; omega)).trans f1
        have v2 := (hal.cell (p := ⟨w4.heap.size, 2, none⟩) (by show w4.heap.size < _; omega)).trans f2
        have pd := (hal.cell (p := ⟨w4.heap.size + 1, 2, none⟩) (by show w4.heap.size + 1 < _; omega)).trans x2
        have hbWq : Below w.heap.size w wq := hbW.trans (hal.mono (by omega))
        have hb4q : Below w4.heap.size w4 wq := HB.out.trans (hal.mono (by omega))
        have HC2 : Hid (∀ W', Below wq.heap.size wq W' → W'.cell? ⟨w4.heap.size + 1, 2, none⟩ = some (.slice A k cp)) := fun W' hb' => (hb'.cell (p := ⟨w4.heap.size + 1, 2, none⟩) (by show w4.heap.size + 1 < _; omega)).trans pd
        have HFr : Hid (∀ W', Below wq.heap.size wq W' → W'.frozen? ⟨w4.heap.size + 1, 2, none⟩ = false) := fun W' hb' => (hb'.frozen (p := ⟨w4.heap.size + 1, 2, none⟩) (by show w4.heap.size + 1 < _; omega)).trans ((hal.frozen (p := ⟨w4.heap.size + 1, 2, none⟩) (by show w4.heap.size + 1 < _; omega)).trans (fz 2))
        have HOq := Lib.hid (HO.out.below hal)
        have HM3 : Hid (∀ W' o, Below wq.heap.size wq W' → W'.cell? ⟨wr.heap.size, o, none⟩ = wq.cell? ⟨wr.heap.size, o, none⟩) := fun W' o hb' => hb'.cell (p := ⟨wr.heap.size, o, none⟩) (by show wr.heap.size < _; omega)
        have HM4 : Hid (∀ W' o, Below wq.heap.size wq W' → W'.cell? ⟨w4.heap.size, o, none⟩ = wq.cell? ⟨w4.heap.size, o, none⟩) := fun W' o hb' => hb'.cell (p := ⟨w4.heap.size, o, none⟩) (by show w4.heap.size < _; omega)
        have HNq : Hid (some wr.heap.size ≠ (Value.slice A k cp).ownBlock) := fun e => by
          obtain ⟨V, _, h2⟩ := HO.out
          have := (World.ownsRow.lt h2 _ e.symm).2
          omega
        clear hwq hal g0 g1 g2 g3 g4
        have ne1 : ¬ (w4.heap.size + 1 = wr.heap.size) := by omega
        have ne2 : ¬ (w4.heap.size + 1 = w4.heap.size) := by omega
        rw [ld_later 22 (.tmp 43)]
        go_region_held3 (fun W => W.cell? ⟨wr.heap.size, 0, none⟩ = some (.int .i64 F) ∧ W.cell? ⟨wr.heap.size, 1, none⟩ = some (.int .i64 T) ∧ W.cell? ⟨wr.heap.size, 2, none⟩ = some (.bool s1) ∧ W.cell? ⟨wr.heap.size, 3, none⟩ = some (.slice A1 n1 c1) ∧ W.cell? ⟨wr.heap.size, 4, none⟩ = some (.slice B1 m1 d1) ∧ W.cell? ⟨w4.heap.size, 0, none⟩ = some (.bool s4) ∧ W.cell? ⟨w4.heap.size, 1, none⟩ = some (.slice A4 n4 c4) ∧ W.cell? ⟨w4.heap.size, 2, none⟩ = some (.slice B4 m4 d4)) (go_keep)
          (first | ((go_at_call 12; (with_reducible refine (KM.out _ (by (skip); repeat' (first | (with_reducible exact Below.refl _ _) | (with_reducible assumption) | (with_reducible refine Below.alloc ?_ ?_ _) | (with_reducible refine Below.drew ?_) | (with_reducible refine below_drewN ?_ _) | (with_reducible refine Below.setCell ?_ ?_ _) | (with_reducible refine Below.trans ?_ (Below.mono (by with_reducible assumption) ?_)) | omega | (simp only [ZA, ZS, ZD, ZN]; omega) | go_size)) (by (skip); repeat' (first | (with_reducible exact Below.refl _ _) | (with_reducible assumption) | (with_reducible refine Below.alloc ?_ ?_ _) | (with_reducible refine Below.drew ?_) | (with_reducible refine below_drewN ?_ _) | (with_reducible refine Below.setCell ?_ ?_ _) | (with_reducible refine Below.trans ?_ (Below.mono (by with_reducible assumption) ?_)) | omega | (simp only [ZA, ZS, ZD, ZN]; omega) | go_size))).mono ?_); rintro e w5 ⟨⟨v5, rfl, own5⟩, hb5⟩; have hb5z := Below.size hb5; (try simp only [ZA, ZS, ZD] at hb5z); have hb5c0 := fun o => below_at hb5 (wr.heap.size) o (by first | omega | (simp only [ZA, ZS, ZD]; omega)); have hb5f0 := fun o => below_fr hb5 (wr.heap.size) o (by first | omega | (simp only [ZA, ZS, ZD]; omega)); have hb5l0 : wr.heap.size < (w5).heap.size := (by omega); have hb5c1 := fun o => below_at hb5 (w4.heap.size + 1) o (by first | omega | (simp only [ZA, ZS, ZD]; omega)); have hb5f1 := fun o => below_fr hb5 (w4.heap.size + 1) o (by first | omega | (simp only [ZA, ZS, ZD]; omega)); have hb5l1 : w4.heap.size + 1 < (w5).heap.size := (by omega); have hb5c2 := fun o => below_at hb5 (w4.heap.size) o (by first | omega | (simp only [ZA, ZS, ZD]; omega)); have hb5f2 := fun o => below_fr hb5 (w4.heap.size) o (by first | omega | (simp only [ZA, ZS, ZD]; omega)); have hb5l2 : w4.heap.size < (w5).heap.size := (by omega)); obtain ⟨s5, A5, n5, c5, B5, m5, d5, rfl⟩ := own5.form) | (refine step_appM (by rfl) (.tmp 44) (.tmp 54) (by rfl) w4.heap.size A cp k c.F c.T (fun k => canR (c.q k * fq)) (by rfl) (by exact HOq.out.below (by have z0 := Below.size hb5; (try simp only [ZA, ZS, ZD, ZN] at z0 ⊢; skip); repeat' (first | (with_reducible exact Below.refl _ _) | (with_reducible assumption) | (with_reducible refine Below.alloc ?_ ?_ _) | (with_reducible refine Below.drew ?_) | (with_reducible refine below_drewN ?_ _) | (with_reducible refine Below.setCell ?_ ?_ _) | (with_reducible refine Below.trans ?_ (Below.mono (by with_reducible assumption) ?_)) | omega | (simp only [ZA, ZS, ZD, ZN]; omega) | go_size))) w5.heap.size F T s5 A5 n5 c5 B5 m5 d5 (canR (q * fq)) (by rfl) (by simp) (by simp) (by simp) (by simp) (by simp) (by exact (own5.alloc _).rs) (by omega) (by simp; omega) ?_; intro g6 c6 w6 own6 hgr6 hfr6 hlt6; (have hx6 : w6.cell? ⟨w4.heap.size + 1, 2, none⟩ = some (.slice A k cp) := (hgr6.cell_far ⟨w4.heap.size + 1, 2, none⟩ (by simp; omega) (hN9.out (w4.heap.size + 1) (by omega))).trans (HC2.out _ (by have z0 := Below.size hb5; (try simp only [ZA, ZS, ZD, ZN] at z0 ⊢; skip); repeat' (first | (with_reducible exact Below.refl _ _) | (with_reducible assumption) | (with_reducible refine Below.alloc ?_ ?_ _) | (with_reducible refine Below.drew ?_) | (with_reducible refine below_drewN ?_ _) | (with_reducible refine Below.setCell ?_ ?_ _) | (with_reducible refine Below.trans ?_ (Below.mono (by with_reducible assumption) ?_)) | omega | (simp only [ZA, ZS, ZD, ZN]; omega) | go_size)))); (have hy6 : w6.frozen? ⟨w4.heap.size + 1, 2, none⟩ = false := (hgr6.frozen_far ⟨w4.heap.size + 1, 2, none⟩ (by simp; omega) (hN9.out (w4.heap.size + 1) (by omega))).trans (HFr.out _ (by have z0 := Below.size hb5; (try simp only [ZA, ZS, ZD, ZN] at z0 ⊢; skip); repeat' (first | (with_reducible exact Below.refl _ _) | (with_reducible assumption) | (with_reducible refine Below.alloc ?_ ?_ _) | (with_reducible refine Below.drew ?_) | (with_reducible refine below_drewN ?_ _) | (with_reducible refine Below.setCell ?_ ?_ _) | (with_reducible refine Below.trans ?_ (Below.mono (by with_reducible assumption) ?_)) | omega | (simp only [ZA, ZS, ZD, ZN]; omega) | go_size)))); (have m0 := fun o => (hgr6.cell_far ⟨wr.heap.size, o, none⟩ (by simp; omega) HNq.out).trans (HM3.out _ o (by have z0 := Below.size hb5; (try simp only [ZA, ZS, ZD, ZN] at z0 ⊢; skip); repeat' (first | (with_reducible exact Below.refl _ _) | (with_reducible assumption) | (with_reducible refine Below.alloc ?_ ?_ _) | (with_reducible refine Below.drew ?_) | (with_reducible refine below_drewN ?_ _) | (with_reducible refine Below.setCell ?_ ?_ _) | (with_reducible refine Below.trans ?_ (Below.mono (by with_reducible assumption) ?_)) | omega | (simp only [ZA, ZS, ZD, ZN]; omega) | go_size)))); (have m1' := fun o => (hgr6.cell_far ⟨w4.heap.size, o, none⟩ (by simp; omega) (hN9.out w4.heap.size (by omega))).trans (HM4.out _ o (by have z0 := Below.size hb5; (try simp only [ZA, ZS, ZD, ZN] at z0 ⊢; skip); repeat' (first | (with_reducible exact Below.refl _ _) | (with_reducible assumption) | (with_reducible refine Below.alloc ?_ ?_ _) | (with_reducible refine Below.drew ?_) | (with_reducible refine below_drewN ?_ _) | (with_reducible refine Below.setCell ?_ ?_ _) | (with_reducible refine Below.trans ?_ (Below.mono (by with_reducible assumption) ?_)) | omega | (simp only [ZA, ZS, ZD, ZN]; omega) | go_size)))); (have HZ6 : Hid (∃ W', Below wq.heap.size wq W' ∧ W'.grownBy w6 (Value.slice A k cp).ownBlock) := ⟨_, (by have z0 := Below.size hb5; (try simp only [ZA, ZS, ZD, ZN] at z0 ⊢; skip); repeat' (first | (with_reducible exact Below.refl _ _) | (with_reducible assumption) | (with_reducible refine Below.alloc ?_ ?_ _) | (with_reducible refine Below.drew ?_) | (with_reducible refine below_drewN ?_ _) | (with_reducible refine Below.setCell ?_ ?_ _) | (with_reducible refine Below.trans ?_ (Below.mono (by with_reducible assumption) ?_)) | omega | (simp only [ZA, ZS, ZD, ZN]; omega) | go_size)), hgr6⟩)) | fail)
        all_goals
          obtain ⟨W', hbW', hgW⟩ := HZ6.out
          have hWz := hbW'.size
          have h6z := hgW.size
          have hAL := HAL.out
          have hT : ∀ j o, j < w4.heap.size + 2 → w6.cell? ⟨j, o, none⟩ = wr.cell? ⟨j, o, none⟩ := fun j o hj => (hgW.cell_far ⟨j, o, none⟩ (by show j < _; omega) (hN9.out j hj)).trans ((hbW'.cell (p := ⟨j, o, none⟩) (by show j < _; omega)).trans (hAL.cell (p := ⟨j, o, none⟩) (by show j < _; omega)))
          have hFz : ∀ j o, j < w4.heap.size + 2 → w6.frozen? ⟨j, o, none⟩ = wr.frozen? ⟨j, o, none⟩ := fun j o hj => (hgW.frozen_far ⟨j, o, none⟩ (by show j < _; omega) (hN9.out j hj)).trans ((hbW'.frozen (p := ⟨j, o, none⟩) (by show j < _; omega)).trans (hAL.frozen (p := ⟨j, o, none⟩) (by show j < _; omega)))
          have hgq : w4.heap.size + 2 ≤ g6 := by
            rcases hfr6 with e | e
            · exact HOQ.out _ e
            · have := hWz; simp at e; have h9 := (show wr.heap.size ≤ w5.heap.size by have := hb5z; omega); omega
          have hT2' := ((HTY.out.below hAL (by omega)).below hbW' (by omega)).grown hgW (hN9.out (w4.heap.size + 1) (by omega))
          have hb6 : Below w4.heap.size w4 w6 := ((HB.out.trans (hAL.mono (by omega))).trans (hbW'.mono (by omega))).trans (below_of_row hgW (fun q hq => by have := HOQ.out q hq; omega) (by omega))
          have own7 := own6.congr (F' := c.F) (T' := c.T) (U := fun k => canR (c.q k * fq)) fun i hi => by
            by_cases e : i = k
            · rw [e, upd_same, upd_same, upd_same, HFk.out, HTk.out, HQk.out]
              exact ⟨rfl, rfl, rfl⟩
            · rw [upd_ne _ _ e, upd_ne _ _ e, upd_ne _ _ e]
              exact ⟨rfl, rfl, rfl⟩
          have o7 := own7.set1 hT2' (by decide) (by omega) (fun q hq => by have hq : some g6 = some q := hq; injection hq with hq; omega) 2 (.slice (some ⟨g6, 0, none⟩) (k + 1) c6)
          have O7 := Lib.hid o7
          have HT' := Lib.hid hT
          have HFz := Lib.hid hFz
          have HT2' := Lib.hid hT2'
          have HB6 := Lib.hid hb6
          clear o7 own7 own6 hT hFz hT2' hb6 hbW' hgW hgr6 hx6 hy6 m0 m1' own5 hb5
          go_wp2
          go_roundw
          case rel =>
            refine ⟨k + 1, some ⟨g6, 0, none⟩, c6, by omega, by go_num, O7.out, ?_, HB6.out.setCell (by show w4.heap.size ≤ w4.heap.size + 1; omega) _, by simp; omega, HT2'.out.set _ _ _, ⟨?_, ?_, ?_⟩, ⟨?_, ?_, ?_, ?_⟩, fun i => ?_⟩
            · intro q hq
              have hq : some g6 = some q := hq
              injection hq with hq
              omega
            · rw [World.cell?_setCell_far _ _ _ _ (by show w4.heap.size + 1 ≠ w4.heap.size; omega)]; exact (HT'.out w4.heap.size 0 (by omega)).trans f0
            · rw [World.cell?_setCell_far _ _ _ _ (by show w4.heap.size + 1 ≠ w4.heap.size; omega)]; exact (HT'.out w4.heap.size 1 (by omega)).trans f1
            · rw [World.cell?_setCell_far _ _ _ _ (by show w4.heap.size + 1 ≠ w4.heap.size; omega)]; exact (HT'.out w4.heap.size 2 (by omega)).trans f2
            · rw [setCell_ne (by omega)]; exact (HT'.out (w4.heap.size + 1) 0 (by omega)).trans x0
            · rw [setCell_ne (by omega)]; exact (HT'.out (w4.heap.size + 1) 1 (by omega)).trans x1
            · exact World.cell?_setCell_same (u := .slice A k cp) _ _ _ ((HT'.out (w4.heap.size + 1) 2 (by omega)).trans x2)
            · rw [setCell_ne (by omega)]; exact (HT'.out (w4.heap.size + 1) 3 (by omega)).trans x3
            · rw [World.frozen?_setCell]; exact (HFz.out _ i (by omega)).trans (fz i)
          case measure => simp [intOf]; omega
      · have hkm : k = c.nm := by omega
        subst hkm
        have hch := HCH.out wr A cp w4.heap.size hbW ho hb.size
        obtain ⟨wo, hwo⟩ : ∃ wo, wo = wr := ⟨_, rfl⟩
        subst hwo
        have X0 := (hb.cell (p := ⟨w.heap.size, 0, none⟩) hz4).trans u0
        have X1 := (hb.cell (p := ⟨w.heap.size, 1, none⟩) hz4).trans u1
        have X2 := (hb.cell (p := ⟨w.heap.size, 2, none⟩) hz4).trans u2
        have X3 := (hb.cell (p := ⟨w.heap.size, 3, none⟩) hz4).trans u3
        have hwo9 : w.heap.size < wo.heap.size := by omega
        have qf := HQF.out.below hb
        have HQ9 := Lib.hid qf
        have HCI := Lib.hid hch
        clear ho hoq hb hTy fz u0 u1 u2 u3 hch qf HMV HSQ
        by_cases hn1 : ncl = 1
        · obtain ⟨k3, k4, k5, k6⟩ := HK1.out hn1
          have K3 := Lib.hid k3
          have K4 := Lib.hid k4
          have K5 := Lib.hid k5
          have K6 := Lib.hid k6
          clear k3 k4 k5 k6 HK1 HK2 hn1
          (go_wp2_with fail; (with_reducible refine (K3.out _ hbW).mono ?_); rintro e w5 ⟨⟨A5, c5, rfl, r5⟩, hb5⟩; have hb5z := Below.size hb5; (try simp only [ZA, ZS, ZD, ZN] at hb5z); have hb5c0 := fun o => below_at hb5 (w.heap.size) o (by first | omega | (simp only [ZA, ZS, ZD, ZN]; omega)); have hb5f0 := fun o => below_fr hb5 (w.heap.size) o (by first | omega | (simp only [ZA, ZS, ZD, ZN]; omega)); have hb5c1 := fun o => below_at hb5 (w4.heap.size + 1) o (by first | omega | (simp only [ZA, ZS, ZD, ZN]; omega)); have hb5f1 := fun o => below_fr hb5 (w4.heap.size + 1) o (by first | omega | (simp only [ZA, ZS, ZD, ZN]; omega)); have hb5c2 := fun o => below_at hb5 (w4.heap.size) o (by first | omega | (simp only [ZA, ZS, ZD, ZN]; omega)); have hb5f2 := fun o => below_fr hb5 (w4.heap.size) o (by first | omega | (simp only [ZA, ZS, ZD, ZN]; omega)))
          have hB5 : Below w.heap.size w w5 := hbW.trans (hb5.mono hbW.size)
          have CI5 := Lib.hid (HCI.out.below hb5)
          (go_wp2_with fail; (with_reducible refine (K4.out _ _ _ CI5.out).mono ?_); rintro e w6 ⟨⟨A6, c6, rfl, r6⟩, hb6⟩; have hb6z := Below.size hb6; (try simp only [ZA, ZS, ZD, ZN] at hb6z); have hb6c0 := fun o => below_at hb6 (w.heap.size) o (by first | omega | (simp only [ZA, ZS, ZD, ZN]; omega)); have hb6f0 := fun o => below_fr hb6 (w.heap.size) o (by first | omega | (simp only [ZA, ZS, ZD, ZN]; omega)); have hb6c1 := fun o => below_at hb6 (w4.heap.size + 1) o (by first | omega | (simp only [ZA, ZS, ZD, ZN]; omega)); have hb6f1 := fun o => below_fr hb6 (w4.heap.size + 1) o (by first | omega | (simp only [ZA, ZS, ZD, ZN]; omega)); have hb6c2 := fun o => below_at hb6 (w4.heap.size) o (by first | omega | (simp only [ZA, ZS, ZD, ZN]; omega)); have hb6f2 := fun o => below_fr hb6 (w4.heap.size) o (by first | omega | (simp only [ZA, ZS, ZD, ZN]; omega)))
          have hB6 : Below w.heap.size w w6 := hB5.trans (hb6.mono hB5.size)
          have CI6 := Lib.hid (CI5.out.below hb6)
          have R6 := Lib.hid ((r5.below hb6).up hb6.size)
          have S6 := Lib.hid r6
          (go_wp2_with fail; (with_reducible refine (K5.out _ _ _ hB6 R6.out).mono ?_); rintro e w7 ⟨⟨v7, rfl, r7⟩, hb7⟩; have hb7z := Below.size hb7; (try simp only [ZA, ZS, ZD, ZN] at hb7z); have hb7c0 := fun o => below_at hb7 (w.heap.size) o (by first | omega | (simp only [ZA, ZS, ZD, ZN]; omega)); have hb7f0 := fun o => below_fr hb7 (w.heap.size) o (by first | omega | (simp only [ZA, ZS, ZD, ZN]; omega)); have hb7c1 := fun o => below_at hb7 (w4.heap.size + 1) o (by first | omega | (simp only [ZA, ZS, ZD, ZN]; omega)); have hb7f1 := fun o => below_fr hb7 (w4.heap.size + 1) o (by first | omega | (simp only [ZA, ZS, ZD, ZN]; omega)); have hb7c2 := fun o => below_at hb7 (w4.heap.size) o (by first | omega | (simp only [ZA, ZS, ZD, ZN]; omega)); have hb7f2 := fun o => below_fr hb7 (w4.heap.size) o (by first | omega | (simp only [ZA, ZS, ZD, ZN]; omega)))
          have hB7 : Below w.heap.size w w7 := hB6.trans (hb7.mono hB6.size)
          have CI7 := Lib.hid (CI6.out.below hb7)
          have R7 := Lib.hid ((R6.out.below hb7).up hb7.size)
          have S7 := Lib.hid (S6.out.below hb7)
          obtain ⟨s7, A7, n7, c7, B7, m7, d7, rfl⟩ := r7.form
          have hAL7 : Below w7.heap.size w7 (w7.alloc (.cells #[.bool s7, .slice A7 n7 c7, .slice B7 m7 d7] 30)) := (Below.refl _ _).alloc (Nat.le_refl _) _
          have hz7 : w4.heap.size + 1 < w7.heap.size := by have := hb5.size; have := hb6.size; have := hb7.size; omega
          have hzw7 : w.heap.size < w7.heap.size := by omega
          have CI8 := Lib.hid (CI7.out.below hAL7)
          have R8 := Lib.hid ((R7.out.below hAL7).up hAL7.size)
          (have o7c := fun o i => below_at ((Below.refl w7.heap.size w7).alloc (Nat.le_refl _) o) (w4.heap.size + 1) i (by omega)); (have o7f := fun o i => below_fr ((Below.refl w7.heap.size w7).alloc (Nat.le_refl _) o) (w4.heap.size + 1) i (by omega))
          (have p7c := fun o i => below_at ((Below.refl w7.heap.size w7).alloc (Nat.le_refl _) o) (w4.heap.size) i (by omega)); (have p7f := fun o i => below_fr ((Below.refl w7.heap.size w7).alloc (Nat.le_refl _) o) (w4.heap.size) i (by omega))
          (go_wp2_with fail; (with_reducible refine (K6.out _ _ _ _ _ CI8.out R8.out).mono ?_); rintro e w8 ⟨⟨v8, rfl, r8⟩, hb8⟩; have hb8z := Below.size hb8; (try simp only [ZA, ZS, ZD, ZN] at hb8z); have hb8c0 := fun o => below_at hb8 (w4.heap.size + 1) o (by first | omega | (simp only [ZA, ZS, ZD, ZN]; omega)); have hb8f0 := fun o => below_fr hb8 (w4.heap.size + 1) o (by first | omega | (simp only [ZA, ZS, ZD, ZN]; omega)); have hb8c1 := fun o => below_at hb8 (w4.heap.size) o (by first | omega | (simp only [ZA, ZS, ZD, ZN]; omega)); have hb8f1 := fun o => below_fr hb8 (w4.heap.size) o (by first | omega | (simp only [ZA, ZS, ZD, ZN]; omega)); have hb8c2 := fun o => below_at hb8 (w7.heap.size) o (by first | omega | (simp only [ZA, ZS, ZD, ZN]; omega)); have hb8f2 := fun o => below_fr hb8 (w7.heap.size) o (by first | omega | (simp only [ZA, ZS, ZD, ZN]; omega)))
          have hB8' : Below w7.heap.size w7 w8 := hAL7.trans (hb8.mono (by simp))
          have hbo8 : Below wo.heap.size wo w8 := ((hb5.trans (hb6.mono hb5.size)).trans (hb7.mono (by have := hb5.size; have := hb6.size; omega))).trans (hB8'.mono (by have := hb5.size; have := hb6.size; have := hb7.size; omega))
          obtain ⟨s8, A8, n8, c8, B8, m8, d8, rfl⟩ := r8.form
          have hBw8 : Below w.heap.size w w8 := hB7.trans (hB8'.mono hB7.size)
          have hAL8 : Below w8.heap.size w8 (w8.alloc (.cells #[.bool s8, .slice A8 n8 c8, .slice B8 m8 d8] 30)) := (Below.refl _ _).alloc (Nat.le_refl _) _
          have hz8 := hbo8.size
          have hz78 : w7.heap.size < w8.heap.size := by have := hb8.size; simp at this; omega
          have HQN := Lib.hid (fun W (hb : Below w8.heap.size w8 W) => (r7.kp (Kp.of_below (hB8'.trans (hb.mono hB8'.size)))).canQ HSF.out)
          have HQM := Lib.hid (fun W (hb : Below w8.heap.size w8 W) => (r8.kp (Kp.of_below hb)).canQ HSG.out)
          have HQf := Lib.hid (fun W (hb : Below w8.heap.size w8 W) => HQ9.out.below (hbo8.trans (hb.mono hz8)))
          have KR := Lib.hid (fun W (hb : Below w8.heap.size w8 W) => rats_sameB (c := c5) (d := c6) ((R7.out.below hB8').below hb) ((S7.out.below hB8').below hb) (by omega) HBE.out)
          have KM := Lib.hid (fun W (hb : Below w8.heap.size w8 W) => mulQ (HQN.out W hb) (HQf.out W hb) (by omega) (by omega))
          have KC : Hid (∀ W b v, Below w8.heap.size w8 W → OwQ W b v (FR * fq) → Calls Tryz.prog 17 #[v, rv s8 A8 n8 c8 B8 m8 d8] W fun e w' => e = .returned (.int .i64 0) ∧ Below W.heap.size W w') := by
            show ∀ _, _
            intro W b v hb hv
            have := cmpQ (hv.rq (L := M) (by rw [Rat.mul_comm]; exact HSG.out)) (HQM.out W hb) (by omega) (by omega)
            rw [show FR * fq - fq * FR = 0 by rw [Rat.mul_comm fq FR]; exact Rat.sub_self] at this
            exact this
          have V0 := ((hbo8.cell (p := ⟨w4.heap.size, 0, none⟩) (by show w4.heap.size < _; omega)).trans f0)
          have V1 := ((hbo8.cell (p := ⟨w4.heap.size, 1, none⟩) (by show w4.heap.size < _; omega)).trans f1)
          have V2 := ((hbo8.cell (p := ⟨w4.heap.size, 2, none⟩) (by show w4.heap.size < _; omega)).trans f2)
          have N0 : w8.cell? ⟨w7.heap.size, 0, none⟩ = some (.bool s7) := by rw [hb8c2]; simp
          have N1 : w8.cell? ⟨w7.heap.size, 1, none⟩ = some (.slice A7 n7 c7) := by rw [hb8c2]; simp
          have N2 : w8.cell? ⟨w7.heap.size, 2, none⟩ = some (.slice B7 m7 d7) := by rw [hb8c2]; simp
          have HB9 := Lib.hid hAL8
          have HBW8 := Lib.hid hBw8
          obtain ⟨W9, hW9⟩ : ∃ W9, W9 = w8.alloc (.cells #[.bool s8, .slice A8 n8 c8, .slice B8 m8 d8] 30) := ⟨_, rfl⟩
          rw [← hW9] at HB9
          have v0 := (HB9.out.cell (p := ⟨w4.heap.size, 0, none⟩) (by show w4.heap.size < _; omega)).trans V0
          have v1 := (HB9.out.cell (p := ⟨w4.heap.size, 1, none⟩) (by show w4.heap.size < _; omega)).trans V1
          have v2 := (HB9.out.cell (p := ⟨w4.heap.size, 2, none⟩) (by show w4.heap.size < _; omega)).trans V2
          have u0' := (HB9.out.cell (p := ⟨w7.heap.size, 0, none⟩) hz78).trans N0
          have u1' := (HB9.out.cell (p := ⟨w7.heap.size, 1, none⟩) hz78).trans N1
          have u2' := (HB9.out.cell (p := ⟨w7.heap.size, 2, none⟩) hz78).trans N2
          have i0 : W9.cell? ⟨w8.heap.size, 0, none⟩ = some (.bool s8) := by rw [hW9]; simp
          have i1 : W9.cell? ⟨w8.heap.size, 1, none⟩ = some (.slice A8 n8 c8) := by rw [hW9]; simp
          have i2 : W9.cell? ⟨w8.heap.size, 2, none⟩ = some (.slice B8 m8 d8) := by rw [hW9]; simp
          have hz9 : W9.heap.size = w8.heap.size + 1 := by rw [hW9]; simp
          have HW9 := Lib.hid hW9
          have hq1 : w4.heap.size < W9.heap.size := by omega
          have hq2 : w7.heap.size < W9.heap.size := by omega
          have hq3 : w8.heap.size < W9.heap.size := by omega
          clear hW9 hAL7 hAL8 hB8' hbo8 hBw8 r7 r8 R6 R7 R8 S6 S7 CI5 CI6 CI7 CI8 V0 V1 V2 N0 N1 N2 K3 K4 K5 K6 hb5 hb6 hb7 hb8 hb5c0 hb5c1 hb5c2 hb6c0 hb6c1 hb6c2 hb7c0 hb7c1 hb7c2 hb8c0 hb8c1 hb8c2 hb5f0 hb5f1 hb5f2 hb6f0 hb6f1 hb6f2 hb7f0 hb7f1 hb7f2 hb8f0 hb8f1 hb8f2 o7c o7f p7c p7f hB5 hB6 hB7 f0 f1 f2 x0 x1 x2 x3 X0 X1 X2 X3
          go_wp2
          rw [← HW9.out]
          go_region_held3 (fun W => W.cell? ⟨w7.heap.size, 0, none⟩ = some (.bool s7) ∧ W.cell? ⟨w7.heap.size, 1, none⟩ = some (.slice A7 n7 c7) ∧ W.cell? ⟨w7.heap.size, 2, none⟩ = some (.slice B7 m7 d7) ∧ W.cell? ⟨w4.heap.size, 0, none⟩ = some (.bool s4) ∧ W.cell? ⟨w4.heap.size, 1, none⟩ = some (.slice A4 n4 c4) ∧ W.cell? ⟨w4.heap.size, 2, none⟩ = some (.slice B4 m4 d4) ∧ W.cell? ⟨w8.heap.size, 0, none⟩ = some (.bool s8) ∧ W.cell? ⟨w8.heap.size, 1, none⟩ = some (.slice A8 n8 c8) ∧ W.cell? ⟨w8.heap.size, 2, none⟩ = some (.slice B8 m8 d8)) (go_keep)
            (first | ((go_at_call 16; (with_reducible refine (KR.out _ (HB9.out.trans ((show Below W9.heap.size W9 _ from (by (skip); repeat' (first | (with_reducible exact Below.refl _ _) | (with_reducible assumption) | (with_reducible refine Below.alloc ?_ ?_ _) | (with_reducible refine Below.drew ?_) | (with_reducible refine below_drewN ?_ _) | (with_reducible refine Below.setCell ?_ ?_ _) | (with_reducible refine Below.trans ?_ (Below.mono (by with_reducible assumption) ?_)) | omega | (simp only [ZA, ZS, ZD, ZN]; omega) | go_size))).mono (by omega)))).mono ?_); rintro e wa ⟨rfl, hba⟩; have hbaz := Below.size hba; (try simp only [ZA, ZS, ZD] at hbaz); have hbac0 := fun o => below_at hba (w7.heap.size) o (by first | omega | (simp only [ZA, ZS, ZD]; omega)); have hbaf0 := fun o => below_fr hba (w7.heap.size) o (by first | omega | (simp only [ZA, ZS, ZD]; omega)); have hbal0 : w7.heap.size < (wa).heap.size := (by omega); have hbac1 := fun o => below_at hba (w4.heap.size) o (by first | omega | (simp only [ZA, ZS, ZD]; omega)); have hbaf1 := fun o => below_fr hba (w4.heap.size) o (by first | omega | (simp only [ZA, ZS, ZD]; omega)); have hbal1 : w4.heap.size < (wa).heap.size := (by omega); have hbac2 := fun o => below_at hba (w8.heap.size) o (by first | omega | (simp only [ZA, ZS, ZD]; omega)); have hbaf2 := fun o => below_fr hba (w8.heap.size) o (by first | omega | (simp only [ZA, ZS, ZD]; omega)); have hbal2 : w8.heap.size < (wa).heap.size := (by omega))) | ((go_at_call 12; (with_reducible refine (KM.out _ (HB9.out.trans ((show Below W9.heap.size W9 _ from (by have z0 := Below.size hba; (try simp only [ZA, ZS, ZD, ZN] at z0 ⊢; skip); repeat' (first | (with_reducible exact Below.refl _ _) | (with_reducible assumption) | (with_reducible refine Below.alloc ?_ ?_ _) | (with_reducible refine Below.drew ?_) | (with_reducible refine below_drewN ?_ _) | (with_reducible refine Below.setCell ?_ ?_ _) | (with_reducible refine Below.trans ?_ (Below.mono (by with_reducible assumption) ?_)) | omega | (simp only [ZA, ZS, ZD, ZN]; omega) | go_size))).mono (by omega)))).mono ?_); rintro e wb ⟨⟨vb, rfl, ob⟩, hbm⟩; have hbmz := Below.size hbm; (try simp only [ZA, ZS, ZD] at hbmz); have hbmc0 := fun o => below_at hbm (w7.heap.size) o (by first | omega | (simp only [ZA, ZS, ZD]; omega)); have hbmf0 := fun o => below_fr hbm (w7.heap.size) o (by first | omega | (simp only [ZA, ZS, ZD]; omega)); have hbml0 : w7.heap.size < (wb).heap.size := (by omega); have hbmc1 := fun o => below_at hbm (w4.heap.size) o (by first | omega | (simp only [ZA, ZS, ZD]; omega)); have hbmf1 := fun o => below_fr hbm (w4.heap.size) o (by first | omega | (simp only [ZA, ZS, ZD]; omega)); have hbml1 : w4.heap.size < (wb).heap.size := (by omega); have hbmc2 := fun o => below_at hbm (w8.heap.size) o (by first | omega | (simp only [ZA, ZS, ZD]; omega)); have hbmf2 := fun o => below_fr hbm (w8.heap.size) o (by first | omega | (simp only [ZA, ZS, ZD]; omega)); have hbml2 : w8.heap.size < (wb).heap.size := (by omega))) | ((go_at_call 17; (with_reducible refine (KC.out _ _ _ (HB9.out.trans ((show Below W9.heap.size W9 _ from (by have z0 := Below.size hba; have z1 := Below.size hbm; (try simp only [ZA, ZS, ZD, ZN] at z0 z1 ⊢; skip); repeat' (first | (with_reducible exact Below.refl _ _) | (with_reducible assumption) | (with_reducible refine Below.alloc ?_ ?_ _) | (with_reducible refine Below.drew ?_) | (with_reducible refine below_drewN ?_ _) | (with_reducible refine Below.setCell ?_ ?_ _) | (with_reducible refine Below.trans ?_ (Below.mono (by with_reducible assumption) ?_)) | omega | (simp only [ZA, ZS, ZD, ZN]; omega) | go_size))).mono (by omega))) ob).mono ?_); rintro e wc ⟨rfl, hbc⟩; have hbcz := Below.size hbc; (try simp only [ZA, ZS, ZD] at hbcz); have hbcc0 := fun o => below_at hbc (w7.heap.size) o (by first | omega | (simp only [ZA, ZS, ZD]; omega)); have hbcf0 := fun o => below_fr hbc (w7.heap.size) o (by first | omega | (simp only [ZA, ZS, ZD]; omega)); have hbcl0 : w7.heap.size < (wc).heap.size := (by omega); have hbcc1 := fun o => below_at hbc (w4.heap.size) o (by first | omega | (simp only [ZA, ZS, ZD]; omega)); have hbcf1 := fun o => below_fr hbc (w4.heap.size) o (by first | omega | (simp only [ZA, ZS, ZD]; omega)); have hbcl1 : w4.heap.size < (wc).heap.size := (by omega); have hbcc2 := fun o => below_at hbc (w8.heap.size) o (by first | omega | (simp only [ZA, ZS, ZD]; omega)); have hbcf2 := fun o => below_fr hbc (w8.heap.size) o (by first | omega | (simp only [ZA, ZS, ZD]; omega)); have hbcl2 : w8.heap.size < (wc).heap.size := (by omega))) | fail)
          all_goals
            have hBz : Below W9.heap.size W9 wc := (by have z0 := Below.size hba; have z1 := Below.size hbm; have z2 := Below.size hbc; (try simp only [ZA, ZS, ZD, ZN] at z0 z1 z2 ⊢; skip); repeat' (first | (with_reducible exact Below.refl _ _) | (with_reducible assumption) | (with_reducible refine Below.alloc ?_ ?_ _) | (with_reducible refine Below.drew ?_) | (with_reducible refine below_drewN ?_ _) | (with_reducible refine Below.setCell ?_ ?_ _) | (with_reducible refine Below.trans ?_ (Below.mono (by with_reducible assumption) ?_)) | omega | (simp only [ZA, ZS, ZD, ZN]; omega) | go_size))
            go_wp2
            go_ret
            exact ⟨rfl, HBW8.out.trans ((HB9.out.trans (hBz.mono (by omega))).mono (by have := HBW8.out.size; omega))⟩
        · obtain ⟨k3, k4⟩ := HK2.out hn1
          have K3 := Lib.hid k3
          have K4 := Lib.hid k4
          clear k3 k4 HK1 HK2 hn1
          (go_wp2_with fail; (with_reducible refine (K3.out _ hbW).mono ?_); rintro e w5 ⟨⟨A5, c5, rfl⟩, hb5⟩; have hb5z := Below.size hb5; (try simp only [ZA, ZS, ZD, ZN] at hb5z); have hb5c0 := fun o => below_at hb5 (w.heap.size) o (by first | omega | (simp only [ZA, ZS, ZD, ZN]; omega)); have hb5f0 := fun o => below_fr hb5 (w.heap.size) o (by first | omega | (simp only [ZA, ZS, ZD, ZN]; omega)); have hb5c1 := fun o => below_at hb5 (w4.heap.size + 1) o (by first | omega | (simp only [ZA, ZS, ZD, ZN]; omega)); have hb5f1 := fun o => below_fr hb5 (w4.heap.size + 1) o (by first | omega | (simp only [ZA, ZS, ZD, ZN]; omega)); have hb5c2 := fun o => below_at hb5 (w4.heap.size) o (by first | omega | (simp only [ZA, ZS, ZD, ZN]; omega)); have hb5f2 := fun o => below_fr hb5 (w4.heap.size) o (by first | omega | (simp only [ZA, ZS, ZD, ZN]; omega)))
          have hB5 : Below w.heap.size w w5 := hbW.trans (hb5.mono hbW.size)
          have CI5 := Lib.hid (HCI.out.below hb5)
          (go_wp2_with fail; (with_reducible refine (K4.out _ _ _ CI5.out).mono ?_); rintro e w6 ⟨⟨A6, c6, rfl⟩, hb6⟩; have hb6z := Below.size hb6; (try simp only [ZA, ZS, ZD, ZN] at hb6z); have hb6c0 := fun o => below_at hb6 (w.heap.size) o (by first | omega | (simp only [ZA, ZS, ZD, ZN]; omega)); have hb6f0 := fun o => below_fr hb6 (w.heap.size) o (by first | omega | (simp only [ZA, ZS, ZD, ZN]; omega)); have hb6c1 := fun o => below_at hb6 (w4.heap.size + 1) o (by first | omega | (simp only [ZA, ZS, ZD, ZN]; omega)); have hb6f1 := fun o => below_fr hb6 (w4.heap.size + 1) o (by first | omega | (simp only [ZA, ZS, ZD, ZN]; omega)); have hb6c2 := fun o => below_at hb6 (w4.heap.size) o (by first | omega | (simp only [ZA, ZS, ZD, ZN]; omega)); have hb6f2 := fun o => below_fr hb6 (w4.heap.size) o (by first | omega | (simp only [ZA, ZS, ZD, ZN]; omega)))
          have hB6 : Below w.heap.size w w6 := hB5.trans (hb6.mono hB5.size)
          go_wp2_with fail
          (with_reducible refine (bis_eq _ _).mono ?_)
          rintro e _ ⟨rfl, rfl⟩
          go_wp2_with fail
          (with_reducible refine (bis_eq _ _).mono ?_)
          rintro e _ ⟨rfl, rfl⟩
          go_wp2
          go_ret
          exact ⟨rfl, hB6⟩
end Go.Proofs.YtmebdlilbnadgaaGreatDoor
