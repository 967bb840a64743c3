/- Contracts of functions and lemmas, used by the proofs of the given statements. No condition beyond those that each lemma names. -/
import Derived.Test.YtomkdgcpmpbfhaaDoorJAbZ
import Derived.Test.YtomkdgcpmpbfhaaDoorAbEd
import Derived.Test.YtomkdgcpmpbfhaaDoorAcB
import Derived.Test.YtomkdgcpmpbfhaaDoorAbL
import Derived.Test.YtomkdgcpmpbfhaaDoorBaseBig
import Derived.Test.YtomkdgcpmpbfhaaDoorAcS
namespace Go.Proofs.YtomkdgcpmpbfhaaDoor
open Go.RowKit
set_option linter.unusedSimpArgs false
set_option linter.unusedVariables false
set_option maxRecDepth 20000
attribute [local irreducible] nv wp win plainB validR valR canR mvE chkM codeC spr sprN chg cnt cntB ixB kept sysK plB parM outK gj sumN
/-! ## AbsorbScales -/
theorem Sz_nat {n L : Nat} (hL : 1 ≤ L) (hn : n < 4294967296) : Sz L ((n : Nat) : Rat) := by
  refine Sz.more (L := 1) ⟨?_, ?_⟩ hL
  · rw [Rat.num_natCast, Int.natAbs_natCast, wp_one]; exact hn
  · rw [Rat.den_natCast, wp_one]; decide
theorem Chn.mul_chi {w W : World} {AM AD A' : Option Addr} {cm cd c' b0 : Nat} {c : Chn} {f : Rat} (h : ChI w w.heap.size AM cm AD cd c) (hb : Below w.heap.size w W) (ho : OwM W b0 A' c' c.nm c.F c.T (fun k => canR (c.q k * f))) (hb0 : b0 ≤ W.heap.size) : ChI W W.heap.size A' c' AD cd (c.mul f) :=
  ⟨ho.ra.mi hb0, (h.below hb).dn, (h.below hb).db, ho.cap, h.cd⟩
set_option maxHeartbeats 16000000 in
theorem absorbScales_law {w : World} {AM AD : Option Addr} {cm cd p : Nat} {c : Chn} (h : ChI w w.heap.size AM cm AD cd c) (hp : p < 256) :
    Calls Tryd.prog 4 #[cv c.st c.sr AM c.nm cm AD c.nd cd, .int .u8 (p : Int)] w fun e w' => e = .returned (.bool true) ∧ Below w.heap.size w w' := by
  have KF := Lib.hid (fun W (hb : Below w.heap.size w W) => valid54_any (h.below hb))
  have hbA : Below w.heap.size w (w.alloc (.cells #[.int .i64 c.st, .int .i64 c.sr, .slice AM c.nm cm, .slice AD c.nd cd] 25)) := (Below.refl _ _).alloc (Nat.le_refl _) _
  have HBA := Lib.hid hbA
  have HI := Lib.hid h
  have ew : IntKind.i64.wrap (1 + (p : Int)) = 1 + (p : Int) := by rw [IntKind.wrap_i64]; omega
  have ew2 : IntKind.i64.wrap (p : Int) = (p : Int) := by rw [IntKind.wrap_i64]; omega
  clear h hbA
  go_enter Tryd.func4, Tryd.ntmps4
  (go_wp2_with fail; (with_reducible refine (KF.out _ HBA.out).mono ?_); rintro e w1 ⟨⟨bb, rfl, hbb⟩, hb1⟩; have hb1z := Below.size hb1; (try simp only [World.size_alloc, World.size_setCell, World.size_drew, size_drewN'] at hb1z); have hb1c0 := fun o => below_at hb1 (w.heap.size) o (by first | omega | (simp only [World.size_alloc, World.size_setCell, World.size_drew, size_drewN']; omega)); have hb1f0 := fun o => below_fr hb1 (w.heap.size) o (by first | omega | (simp only [World.size_alloc, World.size_setCell, World.size_drew, size_drewN']; omega)))
  have hB1 : Below w.heap.size w w1 := HBA.out.trans (hb1.mono (by simp))
  cases bb with
  | false =>
    clear hbb
    (go_wp2_with fail; (with_reducible refine (awake4_any _).mono ?_); rintro e w2 ⟨rfl, hb2⟩; have hb2z := Below.size hb2; (try simp only [World.size_alloc, World.size_setCell, World.size_drew, size_drewN'] at hb2z))
    go_wp2
    go_ret
    exact ⟨rfl, hB1.trans (hb2.mono hB1.size)⟩
  | true =>
    have HF := Lib.hid (hbb rfl)
    clear hbb
    have hw1 : w.heap.size < w1.heap.size := by have := hb1.size; simp at this; omega
    have hS := HF.out.1.small HI.out
    have h0 := HF.out.2
    have ok := Chn.codeA_ok h0
    have hst := ok.st
    have hn9 := hS.nd ok
    have hnm := hS.nm
    obtain ⟨fq, hfq⟩ : ∃ fq : Rat, fq = ((1 + p : Nat) : Rat) := ⟨_, rfl⟩
    have hf : 0 < fq := by rw [hfq]; exact_mod_cast (show 0 < 1 + p by omega)
    have hfs : Sz 1 fq := by rw [hfq]; exact Sz_nat (by omega) (by omega)
    have KO : Hid (∀ W : World, Calls Tryd.prog 13 #[.int .i64 (1 + (p : Int))] W fun e w' => RetQ W.heap.size fq e w' ∧ Below W.heap.size W w') := fun W => by
      rw [hfq, show (1 + (p : Int)) = ((1 + p : Nat) : Int) by omega]
      exact ofQ (1 + p) W (by omega)
    have K3 : Hid (∀ W, Below w.heap.size w W → Calls Tryd.prog 7 #[cv c.st c.sr AM c.nm cm AD c.nd cd] W fun e w' => (∃ A d, e = .returned (.tuple #[.slice A c.nd d, .nilIface]) ∧ RowA w' w'.heap.size A c.nd (can c.times)) ∧ Below W.heap.size W w') := fun W hb => (Times_any (HI.out.below hb) hS.sysS).mono fun e w' h => ⟨by have := h.1; rw [h0, outN_0] at this; obtain ⟨A, d, e1, r⟩ := this; rw [errM_0] at e1; exact ⟨A, d, e1, r⟩, h.2⟩
    have K4 : Hid (∀ W, Below w.heap.size w W → Calls Tryd.prog 8 #[cv c.st c.sr AM c.nm cm AD c.nd cd] W fun e w' => (∃ A d, e = .returned (.tuple #[.slice A c.nd d, .nilIface]) ∧ RowA w' w'.heap.size A c.nd (can c.visits)) ∧ Below W.heap.size W w') := fun W hb => (Visits_any (HI.out.below hb) hS.sysS).mono fun e w' h => ⟨by have := h.1; rw [h0, outN_0] at this; obtain ⟨A, d, e1, r⟩ := this; rw [errM_0] at e1; exact ⟨A, d, e1, r⟩, h.2⟩
    have K5 : Hid (∀ W, Below w.heap.size w W → Calls Tryd.prog 9 #[cv c.st c.sr AM c.nm cm AD c.nd cd] W fun e w' => (∃ A d, e = .returned (.tuple #[.slice A c.nd d, .nilIface]) ∧ RowA w' w'.heap.size A c.nd (can c.ends)) ∧ Below W.heap.size W w') := fun W hb => (Ends_anyS (HI.out.below hb) hS.endS).mono fun e w' h => ⟨by have := h.1; rw [h0, outN_0] at this; obtain ⟨A, d, e1, r⟩ := this; rw [errM_0] at e1; exact ⟨A, d, e1, r⟩, h.2⟩
    have hE := hS.mul_endS hf hfs h0
    have hA' := Chn.mul_A h0 hf
    have hnd' : (c.mul fq).nd = c.nd := rfl
    have K6 : Hid (∀ W A' c', ChI W W.heap.size A' c' AD cd (c.mul fq) → Calls Tryd.prog 7 #[cv c.st c.sr A' c.nm c' AD c.nd cd] W fun e w' => (∃ A d, e = .returned (.tuple #[.slice A c.nd d, .nilIface]) ∧ RowA w' w'.heap.size A c.nd (can (c.mul fq).times)) ∧ Below W.heap.size W w') := fun W A' c' hi => (Times_any hi hE.sys).mono fun e w' h => ⟨by have := h.1; rw [hA', outN_0, hnd'] at this; obtain ⟨A, d, e1, r⟩ := this; rw [errM_0] at e1; exact ⟨A, d, e1, r⟩, h.2⟩
    have K7 : Hid (∀ W A' c', ChI W W.heap.size A' c' AD cd (c.mul fq) → Calls Tryd.prog 8 #[cv c.st c.sr A' c.nm c' AD c.nd cd] W fun e w' => (∃ A d, e = .returned (.tuple #[.slice A c.nd d, .nilIface]) ∧ RowA w' w'.heap.size A c.nd (can (c.mul fq).visits)) ∧ Below W.heap.size W w') := fun W A' c' hi => (Visits_any hi hE.sys).mono fun e w' h => ⟨by have := h.1; rw [hA', outN_0, hnd'] at this; obtain ⟨A, d, e1, r⟩ := this; rw [errM_0] at e1; exact ⟨A, d, e1, r⟩, h.2⟩
    have K8 : Hid (∀ W A' c', ChI W W.heap.size A' c' AD cd (c.mul fq) → Calls Tryd.prog 9 #[cv c.st c.sr A' c.nm c' AD c.nd cd] W fun e w' => (∃ A d, e = .returned (.tuple #[.slice A c.nd d, .nilIface]) ∧ RowA w' w'.heap.size A c.nd (can c.ends)) ∧ Below W.heap.size W w') := fun W A' c' hi => (Ends_anyS hi hE).mono fun e w' h => ⟨by have := h.1; rw [hA', outN_0, hnd', Chn.mul_ends h0 hf] at this; obtain ⟨A, d, e1, r⟩ := this; rw [errM_0] at e1; exact ⟨A, d, e1, r⟩, h.2⟩
    obtain ⟨M, hM⟩ : ∃ M, M = 220000100 := ⟨_, rfl⟩
    have hM2 : 400 ≤ M ∧ M ≤ 1000000000 := by omega
    have HST : Hid (∀ s, Sz M (c.times s)) := fun s => ((hS.sol_fz h0 false : FzL 220000000 c.times).sz (by omega) s).more (by omega)
    have HSV : Hid (∀ s, Sz M (c.visits s)) := fun s => ((hS.sol_fz h0 true : FzL 220000000 c.visits).sz (by omega) s).more (by omega)
    have HSU : Hid (∀ s, Sz M ((c.mul fq).times s)) := fun s => (hS.mul_tS hf hfs h0 s).more (by omega)
    have HSW : Hid (∀ s, Sz M ((c.mul fq).visits s)) := fun s => (hS.mul_vS hf hfs h0 s).more (by omega)
    have HBE : Hid (∀ k, k < c.nd → (can c.ends k).2.1.length ≤ 1000000000 ∧ (can c.ends k).2.2.length ≤ 1000000000) := fun k hk => by
      have h1 : Sz M (c.ends k) := by rw [hM]; exact hS.endS.ek h0 c.nm (Nat.le_refl _) k
      have := Sz_canR h1
      show (canR (c.ends k)).2.1.length ≤ _ ∧ (canR (c.ends k)).2.2.length ≤ _
      omega
    have HTU : Hid (∀ s, c.times s = (c.mul fq).times s * fq) := Chn.mul_times h0 hf
    have HVW : Hid (∀ s, c.visits s = (c.mul fq).visits s * fq) := Chn.mul_visits h0 hf
    have HCH : Hid (∀ W A' c' b0, Below w.heap.size w W → OwM W b0 A' c' c.nm c.F c.T (fun k => canR (c.q k * fq)) → b0 ≤ W.heap.size → ChI W W.heap.size A' c' AD cd (c.mul fq)) := fun W A' c' b0 hb ho hb0 => Chn.mul_chi HI.out hb ho hb0
    have HMV : Hid (MovA w w.heap.size AM c.nm c.F c.T c.R) := HI.out.mv.1
    have HSQ := Lib.hid (fun k hk => (hS.chS.siz ok).raw k hk)
    generalize c.mul fq = cf at K6 K7 K8 HSU HSW HTU HVW HCH
    obtain ⟨XT, hXT⟩ : ∃ XT, XT = c.times := ⟨_, rfl⟩
    obtain ⟨XV, hXV⟩ : ∃ XV, XV = c.visits := ⟨_, rfl⟩
    obtain ⟨XE, hXE⟩ : ∃ XE, XE = c.ends := ⟨_, rfl⟩
    obtain ⟨XU, hXU⟩ : ∃ XU, XU = cf.times := ⟨_, rfl⟩
    obtain ⟨XW, hXW⟩ : ∃ XW, XW = cf.visits := ⟨_, rfl⟩
    rw [← hXT] at K3 HST HTU
    rw [← hXV] at K4 HSV HVW
    rw [← hXE] at K5 K8 HBE
    rw [← hXU] at K6 HSU HTU
    rw [← hXW] at K7 HSW HVW
    have HFS := Lib.hid (hfs.more (show 1 ≤ M by omega))
    have e1 : ((c.nd : Int) != c.st) = false := by rw [hst]; simp
    clear hXT hXV hXE hXU hXW hst ok h0 hS HF HI KF HBA hM hE hA' hnd' hfs hf hfq
    (go_wp2_with fail; (with_reducible refine (awake4_any _).mono ?_); rintro e w3 ⟨rfl, hb3⟩; have hb3z := Below.size hb3; (try simp only [World.size_alloc, World.size_setCell, World.size_drew, size_drewN'] at hb3z); have hb3c0 := fun o => below_at hb3 (w.heap.size) o (by first | omega | (simp only [World.size_alloc, World.size_setCell, World.size_drew, size_drewN']; omega)); have hb3f0 := fun o => below_fr hb3 (w.heap.size) o (by first | omega | (simp only [World.size_alloc, World.size_setCell, World.size_drew, size_drewN']; omega)))
    have hB3 : Below w.heap.size w w3 := hB1.trans (hb3.mono hB1.size)
    (go_wp2_with fail; (with_reducible refine (KO.out _).mono ?_); rintro e w4 ⟨⟨v4, rfl, own4⟩, hb4⟩; have hb4z := Below.size hb4; (try simp only [World.size_alloc, World.size_setCell, World.size_drew, size_drewN'] at hb4z); have hb4c0 := fun o => below_at hb4 (w.heap.size) o (by first | omega | (simp only [World.size_alloc, World.size_setCell, World.size_drew, size_drewN']; omega)); have hb4f0 := fun o => below_fr hb4 (w.heap.size) o (by first | omega | (simp only [World.size_alloc, World.size_setCell, World.size_drew, size_drewN']; omega)))
    have hB4 : Below w.heap.size w w4 := hB3.trans (hb4.mono hB3.size)
    obtain ⟨s4, A4, n4, c4, B4, m4, d4, rfl⟩ := own4.form
    have hz4 : w.heap.size < w4.heap.size := by have := hb1.size; have := hb3.size; have := hb4.size; omega
    have y0 : ∀ i, w4.cell? ⟨w.heap.size, i, none⟩ = (w.alloc (.cells #[.int .i64 c.st, .int .i64 c.sr, .slice AM c.nm cm, .slice AD c.nd cd] 25)).cell? ⟨w.heap.size, i, none⟩ := fun i => by rw [hb4c0, hb3c0, hb1c0]
    have u0 : w4.cell? ⟨w.heap.size, 0, none⟩ = some (.int .i64 c.st) := by rw [y0]; simp
    have u1 : w4.cell? ⟨w.heap.size, 1, none⟩ = some (.int .i64 c.sr) := by rw [y0]; simp
    have u2 : w4.cell? ⟨w.heap.size, 2, none⟩ = some (.slice AM c.nm cm) := by rw [y0]; simp
    have u3 : w4.cell? ⟨w.heap.size, 3, none⟩ = some (.slice AD c.nd cd) := by rw [y0]; simp
    have uu0 := fun o => Lib.cell?_alloc_some o u0
    have uu1 := fun o => Lib.cell?_alloc_some o u1
    have uu3 := fun o => Lib.cell?_alloc_some o u3
    have uu2 := fun o1 o2 => Lib.cell?_alloc_some o2 (Lib.cell?_alloc_some o1 u2)
    have HQF := Lib.hid (own4.rq HFS.out)
    have HB4 := Lib.hid hB4
    clear y0 hb1 hb3 hb4 hb1c0 hb3c0 hb4c0 hb1f0 hb3f0 hb4f0 hB1 hB3 hB4 own4
    go_wp2
    go_loopw [44] (fun i wr => ∃ (k : Nat) (A : Option Addr) (cp : Nat), k ≤ c.nm ∧ i = .int .i64 (k : Int) ∧ OwM wr w4.heap.size A cp k c.F c.T (fun k => canR (c.q k * fq)) ∧ (∀ q, (Value.slice A k cp).ownBlock = some q → w4.heap.size + 2 ≤ q)
      ∧ Below w4.heap.size w4 wr ∧ w4.heap.size + 2 ≤ wr.heap.size ∧ TyB 25 wr (w4.heap.size + 1)
      ∧ (wr.cell? ⟨w4.heap.size, 0, none⟩ = some (.bool s4) ∧ wr.cell? ⟨w4.heap.size, 1, none⟩ = some (.slice A4 n4 c4) ∧ wr.cell? ⟨w4.heap.size, 2, none⟩ = some (.slice B4 m4 d4))
      ∧ (wr.cell? ⟨w4.heap.size + 1, 0, none⟩ = some (.int .i64 c.st) ∧ wr.cell? ⟨w4.heap.size + 1, 1, none⟩ = some (.int .i64 c.sr) ∧ wr.cell? ⟨w4.heap.size + 1, 2, none⟩ = some (.slice A k cp) ∧ wr.cell? ⟨w4.heap.size + 1, 3, none⟩ = some (.slice AD c.nd cd))
      ∧ (∀ i, wr.frozen? ⟨w4.heap.size + 1, i, none⟩ = false)) (fun i _ => c.nm - (intOf i).toNat)
    case atStart =>
      have hs1 : (w4.alloc (.cells #[.bool s4, .slice A4 n4 c4, .slice B4 m4 d4] 36)).heap.size = w4.heap.size + 1 := by simp
      have hty : TyB 25 ((w4.alloc (.cells #[.bool s4, .slice A4 n4 c4, .slice B4 m4 d4] 36)).alloc (.cells #[.int .i64 c.st, .int .i64 c.sr, .slice none 0 0, .slice AD c.nd cd] 25)) (w4.heap.size + 1) := by rw [← hs1]; exact TyB.new _ _
      have hp0 : ∀ j, ((w4.alloc (.cells #[.bool s4, .slice A4 n4 c4, .slice B4 m4 d4] 36)).alloc (.cells #[.int .i64 c.st, .int .i64 c.sr, .slice none 0 0, .slice AD c.nd cd] 25)).cell? ⟨w4.heap.size, j, none⟩ = (#[.bool s4, .slice A4 n4 c4, .slice B4 m4 d4] : Array Value)[j]? := fun j => (World.cell?_alloc_past _ _ _ (by simp)).trans (World.cell?_alloc_at _ _ _ _ rfl)
      have hp1 : ∀ j, ((w4.alloc (.cells #[.bool s4, .slice A4 n4 c4, .slice B4 m4 d4] 36)).alloc (.cells #[.int .i64 c.st, .int .i64 c.sr, .slice none 0 0, .slice AD c.nd cd] 25)).cell? ⟨w4.heap.size + 1, j, none⟩ = (#[.int .i64 c.st, .int .i64 c.sr, .slice none 0 0, .slice AD c.nd cd] : Array Value)[j]? := fun j => World.cell?_alloc_at _ _ _ _ (by simp)
      exact ⟨0, none, 0, Nat.zero_le _, rfl, OwM.nil_ _ _ _ _ _, (fun q hq => nomatch hq), ((Below.refl _ _).alloc (Nat.le_refl _) _).alloc (by simp) _, by simp, hty, ⟨hp0 0, hp0 1, hp0 2⟩, ⟨hp1 0, hp1 1, hp1 2, hp1 3⟩, fun i => World.frozen?_alloc_at _ _ _ _ (by simp)⟩
    case round =>
      clear uu0 uu1 uu2 uu3
      obtain ⟨k, A, cp, hk, rfl, ho, hoq, hb, hz, hTy, ⟨f0, f1, f2⟩, ⟨x0, x1, x2, x3⟩, fz⟩ := hrel
      have hbW : Below w.heap.size w wr := HB4.out.trans (hb.mono (by omega))
      by_cases hlt : k < c.nm
      · obtain ⟨bm, om, s1, A1, n1, c1, B1, m1, d1, rfl, hbm, p0, p1, p2, p3, p4, r1⟩ := HMV.out.at_ hlt
        have g0 := (hbW.cell (p := ⟨bm, om + k * 5, none⟩) hbm).trans p0
        have g1 := (hbW.cell (p := ⟨bm, om + k * 5 + 1, none⟩) hbm).trans p1
        have g2 := (hbW.cell (p := ⟨bm, om + k * 5 + 2, none⟩) hbm).trans p2
        have g3 := (hbW.cell (p := ⟨bm, om + k * 5 + 3, none⟩) hbm).trans p3
        have g4 := (hbW.cell (p := ⟨bm, om + k * 5 + 4, none⟩) hbm).trans p4
        obtain ⟨q1, q2⟩ := HSQ.out k hlt
        have qm := r1.rdq (L := M) (by omega) (by omega)
        rw [show valR (c.R k) = c.q k from rfl] at qm
        obtain ⟨F, hF⟩ : ∃ F, F = c.F k := ⟨_, rfl⟩
        obtain ⟨T, hT⟩ : ∃ T, T = c.T k := ⟨_, rfl⟩
        obtain ⟨q, hq⟩ : ∃ q, q = c.q k := ⟨_, rfl⟩
        rw [← hF] at g0
        rw [← hT] at g1
        rw [← hq] at qm
        have HFk := Lib.hid hF
        have HTk := Lib.hid hT
        have HQk := Lib.hid hq
        have HO := Lib.hid ho
        have HOQ := Lib.hid hoq
        have HB := Lib.hid hb
        have HTY := Lib.hid hTy
        have KM := Lib.hid (fun W (hb : Below w.heap.size w W) (hb4 : Below w4.heap.size w4 W) => mulQ (qm.below hb) (HQF.out.below hb4) (by omega) (by omega))
        have hki : (k : Int) < (c.nm : Int) := by omega
        have hk0 : (0 : Int) ≤ (k : Int) := by omega
        have hN9 : Hid (∀ j, j < w4.heap.size + 2 → some j ≠ (Value.slice A k cp).ownBlock) := fun j hj e => absurd (HOQ.out j e.symm) (by omega)
        clear hF hT hq p0 p1 p2 p3 p4 r1 qm q1 q2 ho hoq hb hTy
        (have oac := fun o i => below_at ((Below.refl wr.heap.size wr).alloc (Nat.le_refl _) o) (w4.heap.size) i (by omega)); (have oaf := fun o i => below_fr ((Below.refl wr.heap.size wr).alloc (Nat.le_refl _) o) (w4.heap.size) i (by omega))
        (have occ := fun o i => below_at ((Below.refl wr.heap.size wr).alloc (Nat.le_refl _) o) (w4.heap.size + 1) i (by omega)); (have ocf := fun o i => below_fr ((Below.refl wr.heap.size wr).alloc (Nat.le_refl _) o) (w4.heap.size + 1) i (by omega))
        go_wp2
        obtain ⟨wq, hwq⟩ : ∃ wq, wq = wr.alloc (.cells #[.int .i64 F, .int .i64 T, .bool s1, .slice A1 n1 c1, .slice B1 m1 d1] 41) := ⟨_, rfl⟩
        rw [← hwq]
        have hal : Below wr.heap.size wr wq := by rw [hwq]; exact (Below.refl _ _).alloc (Nat.le_refl _) _
        have HAL := Lib.hid hal
        have z0 : wq.cell? ⟨wr.heap.size, 0, none⟩ = some (.int .i64 F) := by rw [hwq]; simp
        have z1 : wq.cell? ⟨wr.heap.size, 1, none⟩ = some (.int .i64 T) := by rw [hwq]; simp
        have z2 : wq.cell? ⟨wr.heap.size, 2, none⟩ = some (.bool s1) := by rw [hwq]; simp
        have z3 : wq.cell? ⟨wr.heap.size, 3, none⟩ = some (.slice A1 n1 c1) := by rw [hwq]; simp
        have z4 : wq.cell? ⟨wr.heap.size, 4, none⟩ = some (.slice B1 m1 d1) := by rw [hwq]; simp
        have hwz : wq.heap.size = wr.heap.size + 1 := by rw [hwq]; simp
        have v0 := (hal.cell (p := ⟨w4.heap.size, 0, none⟩) (by show w4.heap.size < _; omega)).trans f0
        have v1 := (hal.cell (p := ⟨w4.heap.size, 1, none⟩) (by show w4.heap.size < _; omega)).trans f1
        have v2 := (hal.cell (p := ⟨w4.heap.size, 2, none⟩) (by show w4.heap.size < _; omega)).trans f2
        have pd := (hal.cell (p := ⟨w4.heap.size + 1, 2, none⟩) (by show w4.heap.size + 1 < _; omega)).trans x2
        have hbWq : Below w.heap.size w wq := hbW.trans (hal.mono (by omega))
        have hb4q : Below w4.heap.size w4 wq := HB.out.trans (hal.mono (by omega))
        have HC2 : Hid (∀ W', Below wq.heap.size wq W' → W'.cell? ⟨w4.heap.size + 1, 2, none⟩ = some (.slice A k cp)) := fun W' hb' => (hb'.cell (p := ⟨w4.heap.size + 1, 2, none⟩) (by show w4.heap.size + 1 < _; omega)).trans pd
        have HFr : Hid (∀ W', Below wq.heap.size wq W' → W'.frozen? ⟨w4.heap.size + 1, 2, none⟩ = false) := fun W' hb' => (hb'.frozen (p := ⟨w4.heap.size + 1, 2, none⟩) (by show w4.heap.size + 1 < _; omega)).trans ((hal.frozen (p := ⟨w4.heap.size + 1, 2, none⟩) (by show w4.heap.size + 1 < _; omega)).trans (fz 2))
        have HOq := Lib.hid (HO.out.below hal)
        have HM3 : Hid (∀ W' o, Below wq.heap.size wq W' → W'.cell? ⟨wr.heap.size, o, none⟩ = wq.cell? ⟨wr.heap.size, o, none⟩) := fun W' o hb' => hb'.cell (p := ⟨wr.heap.size, o, none⟩) (by show wr.heap.size < _; omega)
        have HM4 : Hid (∀ W' o, Below wq.heap.size wq W' → W'.cell? ⟨w4.heap.size, o, none⟩ = wq.cell? ⟨w4.heap.size, o, none⟩) := fun W' o hb' => hb'.cell (p := ⟨w4.heap.size, o, none⟩) (by show w4.heap.size < _; omega)
        have HNq : Hid (some wr.heap.size ≠ (Value.slice A k cp).ownBlock) := fun e => by
          obtain ⟨V, _, h2⟩ := HO.out
          have := (World.ownsRow.lt h2 _ e.symm).2
          omega
        clear hwq hal g0 g1 g2 g3 g4
        have ne1 : ¬ (w4.heap.size + 1 = wr.heap.size) := by omega
        have ne2 : ¬ (w4.heap.size + 1 = w4.heap.size) := by omega
        rw [ld_later 22 (.tmp 48)]
        go_region_held3 (fun W => W.cell? ⟨wr.heap.size, 0, none⟩ = some (.int .i64 F) ∧ W.cell? ⟨wr.heap.size, 1, none⟩ = some (.int .i64 T) ∧ W.cell? ⟨wr.heap.size, 2, none⟩ = some (.bool s1) ∧ W.cell? ⟨wr.heap.size, 3, none⟩ = some (.slice A1 n1 c1) ∧ W.cell? ⟨wr.heap.size, 4, none⟩ = some (.slice B1 m1 d1) ∧ W.cell? ⟨w4.heap.size, 0, none⟩ = some (.bool s4) ∧ W.cell? ⟨w4.heap.size, 1, none⟩ = some (.slice A4 n4 c4) ∧ W.cell? ⟨w4.heap.size, 2, none⟩ = some (.slice B4 m4 d4)) (go_keep)
          (first | ((go_at_call 14; (with_reducible refine (KM.out _ (by (skip); repeat' (first | (with_reducible exact Below.refl _ _) | (with_reducible assumption) | (with_reducible refine Below.alloc ?_ ?_ _) | (with_reducible refine Below.drew ?_) | (with_reducible refine below_drewN ?_ _) | (with_reducible refine Below.setCell ?_ ?_ _) | (with_reducible refine Below.trans ?_ (Below.mono (by with_reducible assumption) ?_)) | omega | (simp only [World.size_alloc, World.size_setCell, World.size_drew, size_drewN']; omega) | go_size)) (by (skip); repeat' (first | (with_reducible exact Below.refl _ _) | (with_reducible assumption) | (with_reducible refine Below.alloc ?_ ?_ _) | (with_reducible refine Below.drew ?_) | (with_reducible refine below_drewN ?_ _) | (with_reducible refine Below.setCell ?_ ?_ _) | (with_reducible refine Below.trans ?_ (Below.mono (by with_reducible assumption) ?_)) | omega | (simp only [World.size_alloc, World.size_setCell, World.size_drew, size_drewN']; omega) | go_size))).mono ?_); rintro e w5 ⟨⟨v5, rfl, own5⟩, hb5⟩; have hb5z := Below.size hb5; (try simp only [World.size_alloc, World.size_setCell, World.size_drew] at hb5z); have hb5c0 := fun o => below_at hb5 (wr.heap.size) o (by first | omega | (simp only [World.size_alloc, World.size_setCell, World.size_drew]; omega)); have hb5f0 := fun o => below_fr hb5 (wr.heap.size) o (by first | omega | (simp only [World.size_alloc, World.size_setCell, World.size_drew]; omega)); have hb5l0 : wr.heap.size < (w5).heap.size := (by omega); have hb5c1 := fun o => below_at hb5 (w4.heap.size + 1) o (by first | omega | (simp only [World.size_alloc, World.size_setCell, World.size_drew]; omega)); have hb5f1 := fun o => below_fr hb5 (w4.heap.size + 1) o (by first | omega | (simp only [World.size_alloc, World.size_setCell, World.size_drew]; omega)); have hb5l1 : w4.heap.size + 1 < (w5).heap.size := (by omega); have hb5c2 := fun o => below_at hb5 (w4.heap.size) o (by first | omega | (simp only [World.size_alloc, World.size_setCell, World.size_drew]; omega)); have hb5f2 := fun o => below_fr hb5 (w4.heap.size) o (by first | omega | (simp only [World.size_alloc, World.size_setCell, World.size_drew]; omega)); have hb5l2 : w4.heap.size < (w5).heap.size := (by omega)); obtain ⟨s5, A5, n5, c5, B5, m5, d5, rfl⟩ := own5.form) | (refine step_appM (by rfl) (.tmp 49) (.tmp 59) (by rfl) w4.heap.size A cp k c.F c.T (fun k => canR (c.q k * fq)) (by rfl) (by exact HOq.out.below (by have z0 := Below.size hb5; (try simp only [World.size_alloc, World.size_setCell, World.size_drew, size_drewN'] at z0 ⊢; skip); repeat' (first | (with_reducible exact Below.refl _ _) | (with_reducible assumption) | (with_reducible refine Below.alloc ?_ ?_ _) | (with_reducible refine Below.drew ?_) | (with_reducible refine below_drewN ?_ _) | (with_reducible refine Below.setCell ?_ ?_ _) | (with_reducible refine Below.trans ?_ (Below.mono (by with_reducible assumption) ?_)) | omega | (simp only [World.size_alloc, World.size_setCell, World.size_drew, size_drewN']; omega) | go_size))) w5.heap.size F T s5 A5 n5 c5 B5 m5 d5 (canR (q * fq)) (by rfl) (by simp) (by simp) (by simp) (by simp) (by simp) (by exact (own5.alloc _).rs) (by omega) (by simp; omega) ?_; intro g6 c6 w6 own6 hgr6 hfr6 hlt6; (have hx6 : w6.cell? ⟨w4.heap.size + 1, 2, none⟩ = some (.slice A k cp) := (hgr6.cell_far ⟨w4.heap.size + 1, 2, none⟩ (by simp; omega) (hN9.out (w4.heap.size + 1) (by omega))).trans (HC2.out _ (by have z0 := Below.size hb5; (try simp only [World.size_alloc, World.size_setCell, World.size_drew, size_drewN'] at z0 ⊢; skip); repeat' (first | (with_reducible exact Below.refl _ _) | (with_reducible assumption) | (with_reducible refine Below.alloc ?_ ?_ _) | (with_reducible refine Below.drew ?_) | (with_reducible refine below_drewN ?_ _) | (with_reducible refine Below.setCell ?_ ?_ _) | (with_reducible refine Below.trans ?_ (Below.mono (by with_reducible assumption) ?_)) | omega | (simp only [World.size_alloc, World.size_setCell, World.size_drew, size_drewN']; omega) | go_size)))); (have hy6 : w6.frozen? ⟨w4.heap.size + 1, 2, none⟩ = false := (hgr6.frozen_far ⟨w4.heap.size + 1, 2, none⟩ (by simp; omega) (hN9.out (w4.heap.size + 1) (by omega))).trans (HFr.out _ (by have z0 := Below.size hb5; (try simp only [World.size_alloc, World.size_setCell, World.size_drew, size_drewN'] at z0 ⊢; skip); repeat' (first | (with_reducible exact Below.refl _ _) | (with_reducible assumption) | (with_reducible refine Below.alloc ?_ ?_ _) | (with_reducible refine Below.drew ?_) | (with_reducible refine below_drewN ?_ _) | (with_reducible refine Below.setCell ?_ ?_ _) | (with_reducible refine Below.trans ?_ (Below.mono (by with_reducible assumption) ?_)) | omega | (simp only [World.size_alloc, World.size_setCell, World.size_drew, size_drewN']; omega) | go_size)))); (have m0 := fun o => (hgr6.cell_far ⟨wr.heap.size, o, none⟩ (by simp; omega) HNq.out).trans (HM3.out _ o (by have z0 := Below.size hb5; (try simp only [World.size_alloc, World.size_setCell, World.size_drew, size_drewN'] at z0 ⊢; skip); repeat' (first | (with_reducible exact Below.refl _ _) | (with_reducible assumption) | (with_reducible refine Below.alloc ?_ ?_ _) | (with_reducible refine Below.drew ?_) | (with_reducible refine below_drewN ?_ _) | (with_reducible refine Below.setCell ?_ ?_ _) | (with_reducible refine Below.trans ?_ (Below.mono (by with_reducible assumption) ?_)) | omega | (simp only [World.size_alloc, World.size_setCell, World.size_drew, size_drewN']; omega) | go_size)))); (have m1' := fun o => (hgr6.cell_far ⟨w4.heap.size, o, none⟩ (by simp; omega) (hN9.out w4.heap.size (by omega))).trans (HM4.out _ o (by have z0 := Below.size hb5; (try simp only [World.size_alloc, World.size_setCell, World.size_drew, size_drewN'] at z0 ⊢; skip); repeat' (first | (with_reducible exact Below.refl _ _) | (with_reducible assumption) | (with_reducible refine Below.alloc ?_ ?_ _) | (with_reducible refine Below.drew ?_) | (with_reducible refine below_drewN ?_ _) | (with_reducible refine Below.setCell ?_ ?_ _) | (with_reducible refine Below.trans ?_ (Below.mono (by with_reducible assumption) ?_)) | omega | (simp only [World.size_alloc, World.size_setCell, World.size_drew, size_drewN']; omega) | go_size)))); (have HZ6 : Hid (∃ W', Below wq.heap.size wq W' ∧ W'.grownBy w6 (Value.slice A k cp).ownBlock) := ⟨_, (by have z0 := Below.size hb5; (try simp only [World.size_alloc, World.size_setCell, World.size_drew, size_drewN'] at z0 ⊢; skip); repeat' (first | (with_reducible exact Below.refl _ _) | (with_reducible assumption) | (with_reducible refine Below.alloc ?_ ?_ _) | (with_reducible refine Below.drew ?_) | (with_reducible refine below_drewN ?_ _) | (with_reducible refine Below.setCell ?_ ?_ _) | (with_reducible refine Below.trans ?_ (Below.mono (by with_reducible assumption) ?_)) | omega | (simp only [World.size_alloc, World.size_setCell, World.size_drew, size_drewN']; omega) | go_size)), hgr6⟩)) | fail)
        all_goals
          obtain ⟨W', hbW', hgW⟩ := HZ6.out
          have hWz := hbW'.size
          have h6z := hgW.size
          have hAL := HAL.out
          have hT : ∀ j o, j < w4.heap.size + 2 → w6.cell? ⟨j, o, none⟩ = wr.cell? ⟨j, o, none⟩ := fun j o hj => (hgW.cell_far ⟨j, o, none⟩ (by show j < _; omega) (hN9.out j hj)).trans ((hbW'.cell (p := ⟨j, o, none⟩) (by show j < _; omega)).trans (hAL.cell (p := ⟨j, o, none⟩) (by show j < _; omega)))
          have hFz : ∀ j o, j < w4.heap.size + 2 → w6.frozen? ⟨j, o, none⟩ = wr.frozen? ⟨j, o, none⟩ := fun j o hj => (hgW.frozen_far ⟨j, o, none⟩ (by show j < _; omega) (hN9.out j hj)).trans ((hbW'.frozen (p := ⟨j, o, none⟩) (by show j < _; omega)).trans (hAL.frozen (p := ⟨j, o, none⟩) (by show j < _; omega)))
          have hgq : w4.heap.size + 2 ≤ g6 := by
            rcases hfr6 with e | e
            · exact HOQ.out _ e
            · have := hWz; simp at e; have h9 := (show wr.heap.size ≤ w5.heap.size by have := hb5z; omega); omega
          have hT2' := ((HTY.out.below hAL (by omega)).below hbW' (by omega)).grown hgW (hN9.out (w4.heap.size + 1) (by omega))
          have hb6 : Below w4.heap.size w4 w6 := ((HB.out.trans (hAL.mono (by omega))).trans (hbW'.mono (by omega))).trans (below_of_row hgW (fun q hq => by have := HOQ.out q hq; omega) (by omega))
          have own7 := own6.congr (F' := c.F) (T' := c.T) (U := fun k => canR (c.q k * fq)) fun i hi => by
            by_cases e : i = k
            · rw [e, upd_same, upd_same, upd_same, HFk.out, HTk.out, HQk.out]
              exact ⟨rfl, rfl, rfl⟩
            · rw [upd_ne _ _ e, upd_ne _ _ e, upd_ne _ _ e]
              exact ⟨rfl, rfl, rfl⟩
          have o7 := own7.set1 hT2' (by decide) (by omega) (fun q hq => by have hq : some g6 = some q := hq; injection hq with hq; omega) 2 (.slice (some ⟨g6, 0, none⟩) (k + 1) c6)
          have O7 := Lib.hid o7
          have HT' := Lib.hid hT
          have HFz := Lib.hid hFz
          have HT2' := Lib.hid hT2'
          have HB6 := Lib.hid hb6
          clear o7 own7 own6 hT hFz hT2' hb6 hbW' hgW hgr6 hx6 hy6 m0 m1' own5 hb5
          go_wp2
          go_roundw
          case rel =>
            refine ⟨k + 1, some ⟨g6, 0, none⟩, c6, by omega, by go_num, O7.out, ?_, HB6.out.setCell (by show w4.heap.size ≤ w4.heap.size + 1; omega) _, by simp; omega, HT2'.out.set _ _ _, ⟨?_, ?_, ?_⟩, ⟨?_, ?_, ?_, ?_⟩, fun i => ?_⟩
            · intro q hq
              have hq : some g6 = some q := hq
              injection hq with hq
              omega
            · rw [World.cell?_setCell_far _ _ _ _ (by show w4.heap.size + 1 ≠ w4.heap.size; omega)]; exact (HT'.out w4.heap.size 0 (by omega)).trans f0
            · rw [World.cell?_setCell_far _ _ _ _ (by show w4.heap.size + 1 ≠ w4.heap.size; omega)]; exact (HT'.out w4.heap.size 1 (by omega)).trans f1
            · rw [World.cell?_setCell_far _ _ _ _ (by show w4.heap.size + 1 ≠ w4.heap.size; omega)]; exact (HT'.out w4.heap.size 2 (by omega)).trans f2
            · rw [setCell_ne (by omega)]; exact (HT'.out (w4.heap.size + 1) 0 (by omega)).trans x0
            · rw [setCell_ne (by omega)]; exact (HT'.out (w4.heap.size + 1) 1 (by omega)).trans x1
            · exact World.cell?_setCell_same (u := .slice A k cp) _ _ _ ((HT'.out (w4.heap.size + 1) 2 (by omega)).trans x2)
            · rw [setCell_ne (by omega)]; exact (HT'.out (w4.heap.size + 1) 3 (by omega)).trans x3
            · rw [World.frozen?_setCell]; exact (HFz.out _ i (by omega)).trans (fz i)
          case measure => simp [intOf]; omega
      · have hkm : k = c.nm := by omega
        subst hkm
        have hch := HCH.out wr A cp w4.heap.size hbW ho hb.size
        obtain ⟨wo, hwo⟩ : ∃ wo, wo = wr := ⟨_, rfl⟩
        subst hwo
        have X0 := (hb.cell (p := ⟨w.heap.size, 0, none⟩) hz4).trans u0
        have X1 := (hb.cell (p := ⟨w.heap.size, 1, none⟩) hz4).trans u1
        have X2 := (hb.cell (p := ⟨w.heap.size, 2, none⟩) hz4).trans u2
        have X3 := (hb.cell (p := ⟨w.heap.size, 3, none⟩) hz4).trans u3
        have hwo9 : w.heap.size < wo.heap.size := by omega
        have qf := HQF.out.below hb
        have HQ9 := Lib.hid qf
        have HCI := Lib.hid hch
        clear ho hoq hb hTy fz u0 u1 u2 u3 hch qf HMV HSQ
        (go_wp2_with fail; (with_reducible refine (K3.out _ hbW).mono ?_); rintro e w5 ⟨⟨A5, c5, rfl, r5⟩, hb5⟩; have hb5z := Below.size hb5; (try simp only [World.size_alloc, World.size_setCell, World.size_drew, size_drewN'] at hb5z); have hb5c0 := fun o => below_at hb5 (w.heap.size) o (by first | omega | (simp only [World.size_alloc, World.size_setCell, World.size_drew, size_drewN']; omega)); have hb5f0 := fun o => below_fr hb5 (w.heap.size) o (by first | omega | (simp only [World.size_alloc, World.size_setCell, World.size_drew, size_drewN']; omega)); have hb5c1 := fun o => below_at hb5 (w4.heap.size + 1) o (by first | omega | (simp only [World.size_alloc, World.size_setCell, World.size_drew, size_drewN']; omega)); have hb5f1 := fun o => below_fr hb5 (w4.heap.size + 1) o (by first | omega | (simp only [World.size_alloc, World.size_setCell, World.size_drew, size_drewN']; omega)); have hb5c2 := fun o => below_at hb5 (w4.heap.size) o (by first | omega | (simp only [World.size_alloc, World.size_setCell, World.size_drew, size_drewN']; omega)); have hb5f2 := fun o => below_fr hb5 (w4.heap.size) o (by first | omega | (simp only [World.size_alloc, World.size_setCell, World.size_drew, size_drewN']; omega)))
        have hB5 : Below w.heap.size w w5 := hbW.trans (hb5.mono hbW.size)
        have CI5 := Lib.hid (HCI.out.below hb5)
        (go_wp2_with fail; (with_reducible refine (K6.out _ _ _ CI5.out).mono ?_); rintro e w6 ⟨⟨A6, c6, rfl, r6⟩, hb6⟩; have hb6z := Below.size hb6; (try simp only [World.size_alloc, World.size_setCell, World.size_drew, size_drewN'] at hb6z); have hb6c0 := fun o => below_at hb6 (w.heap.size) o (by first | omega | (simp only [World.size_alloc, World.size_setCell, World.size_drew, size_drewN']; omega)); have hb6f0 := fun o => below_fr hb6 (w.heap.size) o (by first | omega | (simp only [World.size_alloc, World.size_setCell, World.size_drew, size_drewN']; omega)); have hb6c1 := fun o => below_at hb6 (w4.heap.size + 1) o (by first | omega | (simp only [World.size_alloc, World.size_setCell, World.size_drew, size_drewN']; omega)); have hb6f1 := fun o => below_fr hb6 (w4.heap.size + 1) o (by first | omega | (simp only [World.size_alloc, World.size_setCell, World.size_drew, size_drewN']; omega)); have hb6c2 := fun o => below_at hb6 (w4.heap.size) o (by first | omega | (simp only [World.size_alloc, World.size_setCell, World.size_drew, size_drewN']; omega)); have hb6f2 := fun o => below_fr hb6 (w4.heap.size) o (by first | omega | (simp only [World.size_alloc, World.size_setCell, World.size_drew, size_drewN']; omega)))
        have hB6 : Below w.heap.size w w6 := hB5.trans (hb6.mono hB5.size)
        have CI6 := Lib.hid (CI5.out.below hb6)
        (go_wp2_with fail; (with_reducible refine (K4.out _ hB6).mono ?_); rintro e w7 ⟨⟨A7, c7, rfl, r7⟩, hb7⟩; have hb7z := Below.size hb7; (try simp only [World.size_alloc, World.size_setCell, World.size_drew, size_drewN'] at hb7z); have hb7c0 := fun o => below_at hb7 (w.heap.size) o (by first | omega | (simp only [World.size_alloc, World.size_setCell, World.size_drew, size_drewN']; omega)); have hb7f0 := fun o => below_fr hb7 (w.heap.size) o (by first | omega | (simp only [World.size_alloc, World.size_setCell, World.size_drew, size_drewN']; omega)); have hb7c1 := fun o => below_at hb7 (w4.heap.size + 1) o (by first | omega | (simp only [World.size_alloc, World.size_setCell, World.size_drew, size_drewN']; omega)); have hb7f1 := fun o => below_fr hb7 (w4.heap.size + 1) o (by first | omega | (simp only [World.size_alloc, World.size_setCell, World.size_drew, size_drewN']; omega)); have hb7c2 := fun o => below_at hb7 (w4.heap.size) o (by first | omega | (simp only [World.size_alloc, World.size_setCell, World.size_drew, size_drewN']; omega)); have hb7f2 := fun o => below_fr hb7 (w4.heap.size) o (by first | omega | (simp only [World.size_alloc, World.size_setCell, World.size_drew, size_drewN']; omega)))
        have hB7 : Below w.heap.size w w7 := hB6.trans (hb7.mono hB6.size)
        have CI7 := Lib.hid (CI6.out.below hb7)
        (go_wp2_with fail; (with_reducible refine (K7.out _ _ _ CI7.out).mono ?_); rintro e w8 ⟨⟨A8, c8, rfl, r8⟩, hb8⟩; have hb8z := Below.size hb8; (try simp only [World.size_alloc, World.size_setCell, World.size_drew, size_drewN'] at hb8z); have hb8c0 := fun o => below_at hb8 (w.heap.size) o (by first | omega | (simp only [World.size_alloc, World.size_setCell, World.size_drew, size_drewN']; omega)); have hb8f0 := fun o => below_fr hb8 (w.heap.size) o (by first | omega | (simp only [World.size_alloc, World.size_setCell, World.size_drew, size_drewN']; omega)); have hb8c1 := fun o => below_at hb8 (w4.heap.size + 1) o (by first | omega | (simp only [World.size_alloc, World.size_setCell, World.size_drew, size_drewN']; omega)); have hb8f1 := fun o => below_fr hb8 (w4.heap.size + 1) o (by first | omega | (simp only [World.size_alloc, World.size_setCell, World.size_drew, size_drewN']; omega)); have hb8c2 := fun o => below_at hb8 (w4.heap.size) o (by first | omega | (simp only [World.size_alloc, World.size_setCell, World.size_drew, size_drewN']; omega)); have hb8f2 := fun o => below_fr hb8 (w4.heap.size) o (by first | omega | (simp only [World.size_alloc, World.size_setCell, World.size_drew, size_drewN']; omega)))
        have hB8 : Below w.heap.size w w8 := hB7.trans (hb8.mono hB7.size)
        have CI8 := Lib.hid (CI7.out.below hb8)
        (go_wp2_with fail; (with_reducible refine (K5.out _ hB8).mono ?_); rintro e w9 ⟨⟨A9, c9, rfl, r9⟩, hb9⟩; have hb9z := Below.size hb9; (try simp only [World.size_alloc, World.size_setCell, World.size_drew, size_drewN'] at hb9z); have hb9c0 := fun o => below_at hb9 (w.heap.size) o (by first | omega | (simp only [World.size_alloc, World.size_setCell, World.size_drew, size_drewN']; omega)); have hb9f0 := fun o => below_fr hb9 (w.heap.size) o (by first | omega | (simp only [World.size_alloc, World.size_setCell, World.size_drew, size_drewN']; omega)); have hb9c1 := fun o => below_at hb9 (w4.heap.size + 1) o (by first | omega | (simp only [World.size_alloc, World.size_setCell, World.size_drew, size_drewN']; omega)); have hb9f1 := fun o => below_fr hb9 (w4.heap.size + 1) o (by first | omega | (simp only [World.size_alloc, World.size_setCell, World.size_drew, size_drewN']; omega)); have hb9c2 := fun o => below_at hb9 (w4.heap.size) o (by first | omega | (simp only [World.size_alloc, World.size_setCell, World.size_drew, size_drewN']; omega)); have hb9f2 := fun o => below_fr hb9 (w4.heap.size) o (by first | omega | (simp only [World.size_alloc, World.size_setCell, World.size_drew, size_drewN']; omega)))
        have hB9 : Below w.heap.size w w9 := hB8.trans (hb9.mono hB8.size)
        have CI9 := Lib.hid (CI8.out.below hb9)
        (go_wp2_with fail; (with_reducible refine (K8.out _ _ _ CI9.out).mono ?_); rintro e w10 ⟨⟨A10, c10, rfl, r10⟩, hb10⟩; have hb10z := Below.size hb10; (try simp only [World.size_alloc, World.size_setCell, World.size_drew, size_drewN'] at hb10z); have hb10c0 := fun o => below_at hb10 (w.heap.size) o (by first | omega | (simp only [World.size_alloc, World.size_setCell, World.size_drew, size_drewN']; omega)); have hb10f0 := fun o => below_fr hb10 (w.heap.size) o (by first | omega | (simp only [World.size_alloc, World.size_setCell, World.size_drew, size_drewN']; omega)); have hb10c1 := fun o => below_at hb10 (w4.heap.size + 1) o (by first | omega | (simp only [World.size_alloc, World.size_setCell, World.size_drew, size_drewN']; omega)); have hb10f1 := fun o => below_fr hb10 (w4.heap.size + 1) o (by first | omega | (simp only [World.size_alloc, World.size_setCell, World.size_drew, size_drewN']; omega)); have hb10c2 := fun o => below_at hb10 (w4.heap.size) o (by first | omega | (simp only [World.size_alloc, World.size_setCell, World.size_drew, size_drewN']; omega)); have hb10f2 := fun o => below_fr hb10 (w4.heap.size) o (by first | omega | (simp only [World.size_alloc, World.size_setCell, World.size_drew, size_drewN']; omega)))
        have hB10 : Below w.heap.size w w10 := hB9.trans (hb10.mono hB9.size)
        have RT := Lib.hid (((((r5.below hb6).below hb7).below hb8).below hb9).below hb10)
        have RU := Lib.hid ((((r6.below hb7).below hb8).below hb9).below hb10)
        have RV := Lib.hid (((r7.below hb8).below hb9).below hb10)
        have RW := Lib.hid ((r8.below hb9).below hb10)
        have RE := Lib.hid (r9.below hb10)
        have RE' := Lib.hid r10
        have hbo10 : Below wo.heap.size wo w10 := ((((hb5.trans (hb6.mono hb5.size)).trans (hb7.mono (by have := hb5.size; have := hb6.size; omega))).trans (hb8.mono (by have := hb5.size; have := hb6.size; have := hb7.size; omega))).trans (hb9.mono (by have := hb5.size; have := hb6.size; have := hb7.size; have := hb8.size; omega))).trans (hb10.mono (by have := hb5.size; have := hb6.size; have := hb7.size; have := hb8.size; have := hb9.size; omega))
        have HQ10 := Lib.hid (HQ9.out.below hbo10)
        have HBW10 := Lib.hid hB10
        have hz10 := hbo10.size
        have U0 := (hbo10.cell (p := ⟨w.heap.size, 0, none⟩) hwo9).trans X0
        have V0 := (hbo10.cell (p := ⟨w4.heap.size, 0, none⟩) (by show w4.heap.size < _; omega)).trans f0
        have V1 := (hbo10.cell (p := ⟨w4.heap.size, 1, none⟩) (by show w4.heap.size < _; omega)).trans f1
        have V2 := (hbo10.cell (p := ⟨w4.heap.size, 2, none⟩) (by show w4.heap.size < _; omega)).trans f2
        clear r5 r6 r7 r8 r9 r10 hB5 hB6 hB7 hB8 hB9 hB10 CI5 CI6 CI7 CI8 CI9 HCI hb5 hb6 hb7 hb8 hb9 hb10 hb5c0 hb5c1 hb5c2 hb6c0 hb6c1 hb6c2 hb7c0 hb7c1 hb7c2 hb8c0 hb8c1 hb8c2 hb9c0 hb9c1 hb9c2 hb10c0 hb10c1 hb10c2 hb5f0 hb5f1 hb5f2 hb6f0 hb6f1 hb6f2 hb7f0 hb7f1 hb7f2 hb8f0 hb8f1 hb8f2 hb9f0 hb9f1 hb9f2 hb10f0 hb10f1 hb10f2 K3 K4 K5 K6 K7 K8 hbW hbo10 X0 X1 X2 X3 f0 f1 f2 x0 x1 x2 x3
        go_wp2
        go_loopw [145] (fun i wr => ∃ k : Nat, k ≤ c.nd ∧ i = .int .i64 (k : Int) ∧ Below w10.heap.size w10 wr) (fun i _ => c.nd - (intOf i).toNat)
        case atStart => exact ⟨0, Nat.zero_le _, rfl, Below.refl _ _⟩
        case round =>
          obtain ⟨k, hk, rfl, hb⟩ := hrel
          have hzr := hb.size
          by_cases hlt : k < c.nd
          · obtain ⟨bt, ot, st', At, nt', ct', Bt, mt', dt, rfl, hbt, p0, p1, p2, rt'⟩ := RT.out.at_ hlt
            obtain ⟨bu, ou, su', Au, nu', cu', Bu, mu', du, rfl, hbu, q0, q1, q2, ru'⟩ := RU.out.at_ hlt
            obtain ⟨bv, ov, sv', Av, nv', cv', Bv, mv', dv, rfl, hbv, i0, i1, i2, rv'⟩ := RV.out.at_ hlt
            obtain ⟨bw, ow, sw', Aw, nw', cw', Bw, mw', dw, rfl, hbw, j0, j1, j2, rw'⟩ := RW.out.at_ hlt
            have a0 := (hb.cell (lt_of_cell p0)).trans p0
            have a1 := (hb.cell (lt_of_cell p1)).trans p1
            have a2 := (hb.cell (lt_of_cell p2)).trans p2
            have b0 := (hb.cell (lt_of_cell q0)).trans q0
            have b1 := (hb.cell (lt_of_cell q1)).trans q1
            have b2 := (hb.cell (lt_of_cell q2)).trans q2
            have d0 := (hb.cell (lt_of_cell i0)).trans i0
            have d1 := (hb.cell (lt_of_cell i1)).trans i1
            have d2 := (hb.cell (lt_of_cell i2)).trans i2
            have e0 := (hb.cell (lt_of_cell j0)).trans j0
            have e1' := (hb.cell (lt_of_cell j1)).trans j1
            have e2 := (hb.cell (lt_of_cell j2)).trans j2
            have g0 := (hb.cell (p := ⟨w4.heap.size, 0, none⟩) (by show w4.heap.size < _; omega)).trans V0
            have g1 := (hb.cell (p := ⟨w4.heap.size, 1, none⟩) (by show w4.heap.size < _; omega)).trans V1
            have g2 := (hb.cell (p := ⟨w4.heap.size, 2, none⟩) (by show w4.heap.size < _; omega)).trans V2
            have qt := (rt'.kp (Kp.of_below hb)).canQ (HST.out k)
            have qu := (ru'.kp (Kp.of_below hb)).canQ (HSU.out k)
            have qv := (rv'.kp (Kp.of_below hb)).canQ (HSV.out k)
            have qw := (rw'.kp (Kp.of_below hb)).canQ (HSW.out k)
            have qf := HQ10.out.below hb
            have KMu := Lib.hid (fun W (hb' : Below wr.heap.size wr W) => mulQ (qu.below hb') (qf.below hb') (by omega) (by omega))
            have KMw := Lib.hid (fun W (hb' : Below wr.heap.size wr W) => mulQ (qw.below hb') (qf.below hb') (by omega) (by omega))
            have KCt : Hid (∀ W b v, Below wr.heap.size wr W → OwQ W b v (XU k * fq) → Calls Tryd.prog 11 #[rv st' At nt' ct' Bt mt' dt, v] W fun e w' => e = .returned (.int .i64 0) ∧ Below W.heap.size W w') := by
              show ∀ _, _
              intro W b v hb' h2
              have := cmpQ (qt.below hb') (h2.rq (L := M) (by rw [← HTU.out]; exact HST.out k)) (by omega) (by omega)
              rw [HTU.out, Rat.sub_self] at this
              exact this
            have KCv : Hid (∀ W b v, Below wr.heap.size wr W → OwQ W b v (XW k * fq) → Calls Tryd.prog 11 #[rv sv' Av nv' cv' Bv mv' dv, v] W fun e w' => e = .returned (.int .i64 0) ∧ Below W.heap.size W w') := by
              show ∀ _, _
              intro W b v hb' h2
              have := cmpQ (qv.below hb') (h2.rq (L := M) (by rw [← HVW.out]; exact HSV.out k)) (by omega) (by omega)
              rw [HVW.out, Rat.sub_self] at this
              exact this
            have hki : (k : Int) < (c.nd : Int) := by omega
            have hk0 : (0 : Int) ≤ (k : Int) := by omega
            have HB := Lib.hid hb
            have hbt2 : bt < wr.heap.size := by omega
            have hbu2 : bu < wr.heap.size := by omega
            have hbv2 : bv < wr.heap.size := by omega
            have hbw2 : bw < wr.heap.size := by omega
            have hbf2 : w4.heap.size < wr.heap.size := by omega
            clear p0 p1 p2 q0 q1 q2 i0 i1 i2 j0 j1 j2 rt' ru' rv' rw' qt qu qv qw qf hb
            go_wp2
            go_region_held3 (fun W => W.cell? ⟨bt, ot + k * 3, none⟩ = some (.bool st') ∧ W.cell? ⟨bt, ot + k * 3 + 1, none⟩ = some (.slice At nt' ct') ∧ W.cell? ⟨bt, ot + k * 3 + 2, none⟩ = some (.slice Bt mt' dt) ∧ W.cell? ⟨bu, ou + k * 3, none⟩ = some (.bool su') ∧ W.cell? ⟨bu, ou + k * 3 + 1, none⟩ = some (.slice Au nu' cu') ∧ W.cell? ⟨bu, ou + k * 3 + 2, none⟩ = some (.slice Bu mu' du) ∧ W.cell? ⟨bv, ov + k * 3, none⟩ = some (.bool sv') ∧ W.cell? ⟨bv, ov + k * 3 + 1, none⟩ = some (.slice Av nv' cv') ∧ W.cell? ⟨bv, ov + k * 3 + 2, none⟩ = some (.slice Bv mv' dv) ∧ W.cell? ⟨bw, ow + k * 3, none⟩ = some (.bool sw') ∧ W.cell? ⟨bw, ow + k * 3 + 1, none⟩ = some (.slice Aw nw' cw') ∧ W.cell? ⟨bw, ow + k * 3 + 2, none⟩ = some (.slice Bw mw' dw) ∧ W.cell? ⟨w4.heap.size, 0, none⟩ = some (.bool s4) ∧ W.cell? ⟨w4.heap.size, 1, none⟩ = some (.slice A4 n4 c4) ∧ W.cell? ⟨w4.heap.size, 2, none⟩ = some (.slice B4 m4 d4)) (go_keep)
              (first | ((go_at_call 14; (with_reducible refine (KMu.out _ (by (skip); repeat' (first | (with_reducible exact Below.refl _ _) | (with_reducible assumption) | (with_reducible refine Below.alloc ?_ ?_ _) | (with_reducible refine Below.drew ?_) | (with_reducible refine below_drewN ?_ _) | (with_reducible refine Below.setCell ?_ ?_ _) | (with_reducible refine Below.trans ?_ (Below.mono (by with_reducible assumption) ?_)) | omega | (simp only [World.size_alloc, World.size_setCell, World.size_drew, size_drewN']; omega) | go_size))).mono ?_); rintro e wa ⟨⟨va, rfl, oa⟩, hba⟩; have hbaz := Below.size hba; (try simp only [World.size_alloc, World.size_setCell, World.size_drew] at hbaz); have hbac0 := fun o => below_at hba (bt) o (by first | omega | (simp only [World.size_alloc, World.size_setCell, World.size_drew]; omega)); have hbaf0 := fun o => below_fr hba (bt) o (by first | omega | (simp only [World.size_alloc, World.size_setCell, World.size_drew]; omega)); have hbal0 : bt < (wa).heap.size := (by omega); have hbac1 := fun o => below_at hba (bu) o (by first | omega | (simp only [World.size_alloc, World.size_setCell, World.size_drew]; omega)); have hbaf1 := fun o => below_fr hba (bu) o (by first | omega | (simp only [World.size_alloc, World.size_setCell, World.size_drew]; omega)); have hbal1 : bu < (wa).heap.size := (by omega); have hbac2 := fun o => below_at hba (bv) o (by first | omega | (simp only [World.size_alloc, World.size_setCell, World.size_drew]; omega)); have hbaf2 := fun o => below_fr hba (bv) o (by first | omega | (simp only [World.size_alloc, World.size_setCell, World.size_drew]; omega)); have hbal2 : bv < (wa).heap.size := (by omega); have hbac3 := fun o => below_at hba (bw) o (by first | omega | (simp only [World.size_alloc, World.size_setCell, World.size_drew]; omega)); have hbaf3 := fun o => below_fr hba (bw) o (by first | omega | (simp only [World.size_alloc, World.size_setCell, World.size_drew]; omega)); have hbal3 : bw < (wa).heap.size := (by omega); have hbac4 := fun o => below_at hba (w4.heap.size) o (by first | omega | (simp only [World.size_alloc, World.size_setCell, World.size_drew]; omega)); have hbaf4 := fun o => below_fr hba (w4.heap.size) o (by first | omega | (simp only [World.size_alloc, World.size_setCell, World.size_drew]; omega)); have hbal4 : w4.heap.size < (wa).heap.size := (by omega))) | ((go_at_call 11; (with_reducible refine (KCt.out _ _ _ (by have z0 := Below.size hba; (try simp only [World.size_alloc, World.size_setCell, World.size_drew, size_drewN'] at z0 ⊢; skip); repeat' (first | (with_reducible exact Below.refl _ _) | (with_reducible assumption) | (with_reducible refine Below.alloc ?_ ?_ _) | (with_reducible refine Below.drew ?_) | (with_reducible refine below_drewN ?_ _) | (with_reducible refine Below.setCell ?_ ?_ _) | (with_reducible refine Below.trans ?_ (Below.mono (by with_reducible assumption) ?_)) | omega | (simp only [World.size_alloc, World.size_setCell, World.size_drew, size_drewN']; omega) | go_size)) oa).mono ?_); rintro e wb ⟨rfl, hbb⟩; have hbbz := Below.size hbb; (try simp only [World.size_alloc, World.size_setCell, World.size_drew] at hbbz); have hbbc0 := fun o => below_at hbb (bt) o (by first | omega | (simp only [World.size_alloc, World.size_setCell, World.size_drew]; omega)); have hbbf0 := fun o => below_fr hbb (bt) o (by first | omega | (simp only [World.size_alloc, World.size_setCell, World.size_drew]; omega)); have hbbl0 : bt < (wb).heap.size := (by omega); have hbbc1 := fun o => below_at hbb (bu) o (by first | omega | (simp only [World.size_alloc, World.size_setCell, World.size_drew]; omega)); have hbbf1 := fun o => below_fr hbb (bu) o (by first | omega | (simp only [World.size_alloc, World.size_setCell, World.size_drew]; omega)); have hbbl1 : bu < (wb).heap.size := (by omega); have hbbc2 := fun o => below_at hbb (bv) o (by first | omega | (simp only [World.size_alloc, World.size_setCell, World.size_drew]; omega)); have hbbf2 := fun o => below_fr hbb (bv) o (by first | omega | (simp only [World.size_alloc, World.size_setCell, World.size_drew]; omega)); have hbbl2 : bv < (wb).heap.size := (by omega); have hbbc3 := fun o => below_at hbb (bw) o (by first | omega | (simp only [World.size_alloc, World.size_setCell, World.size_drew]; omega)); have hbbf3 := fun o => below_fr hbb (bw) o (by first | omega | (simp only [World.size_alloc, World.size_setCell, World.size_drew]; omega)); have hbbl3 : bw < (wb).heap.size := (by omega); have hbbc4 := fun o => below_at hbb (w4.heap.size) o (by first | omega | (simp only [World.size_alloc, World.size_setCell, World.size_drew]; omega)); have hbbf4 := fun o => below_fr hbb (w4.heap.size) o (by first | omega | (simp only [World.size_alloc, World.size_setCell, World.size_drew]; omega)); have hbbl4 : w4.heap.size < (wb).heap.size := (by omega))) | ((go_at_call 14; (with_reducible refine (KMw.out _ (by have z0 := Below.size hba; have z1 := Below.size hbb; (try simp only [World.size_alloc, World.size_setCell, World.size_drew, size_drewN'] at z0 z1 ⊢; skip); repeat' (first | (with_reducible exact Below.refl _ _) | (with_reducible assumption) | (with_reducible refine Below.alloc ?_ ?_ _) | (with_reducible refine Below.drew ?_) | (with_reducible refine below_drewN ?_ _) | (with_reducible refine Below.setCell ?_ ?_ _) | (with_reducible refine Below.trans ?_ (Below.mono (by with_reducible assumption) ?_)) | omega | (simp only [World.size_alloc, World.size_setCell, World.size_drew, size_drewN']; omega) | go_size))).mono ?_); rintro e wc ⟨⟨vc, rfl, oc⟩, hbc⟩; have hbcz := Below.size hbc; (try simp only [World.size_alloc, World.size_setCell, World.size_drew] at hbcz); have hbcc0 := fun o => below_at hbc (bt) o (by first | omega | (simp only [World.size_alloc, World.size_setCell, World.size_drew]; omega)); have hbcf0 := fun o => below_fr hbc (bt) o (by first | omega | (simp only [World.size_alloc, World.size_setCell, World.size_drew]; omega)); have hbcl0 : bt < (wc).heap.size := (by omega); have hbcc1 := fun o => below_at hbc (bu) o (by first | omega | (simp only [World.size_alloc, World.size_setCell, World.size_drew]; omega)); have hbcf1 := fun o => below_fr hbc (bu) o (by first | omega | (simp only [World.size_alloc, World.size_setCell, World.size_drew]; omega)); have hbcl1 : bu < (wc).heap.size := (by omega); have hbcc2 := fun o => below_at hbc (bv) o (by first | omega | (simp only [World.size_alloc, World.size_setCell, World.size_drew]; omega)); have hbcf2 := fun o => below_fr hbc (bv) o (by first | omega | (simp only [World.size_alloc, World.size_setCell, World.size_drew]; omega)); have hbcl2 : bv < (wc).heap.size := (by omega); have hbcc3 := fun o => below_at hbc (bw) o (by first | omega | (simp only [World.size_alloc, World.size_setCell, World.size_drew]; omega)); have hbcf3 := fun o => below_fr hbc (bw) o (by first | omega | (simp only [World.size_alloc, World.size_setCell, World.size_drew]; omega)); have hbcl3 : bw < (wc).heap.size := (by omega); have hbcc4 := fun o => below_at hbc (w4.heap.size) o (by first | omega | (simp only [World.size_alloc, World.size_setCell, World.size_drew]; omega)); have hbcf4 := fun o => below_fr hbc (w4.heap.size) o (by first | omega | (simp only [World.size_alloc, World.size_setCell, World.size_drew]; omega)); have hbcl4 : w4.heap.size < (wc).heap.size := (by omega))) | ((go_at_call 11; (with_reducible refine (KCv.out _ _ _ (by have z0 := Below.size hba; have z1 := Below.size hbb; have z2 := Below.size hbc; (try simp only [World.size_alloc, World.size_setCell, World.size_drew, size_drewN'] at z0 z1 z2 ⊢; skip); repeat' (first | (with_reducible exact Below.refl _ _) | (with_reducible assumption) | (with_reducible refine Below.alloc ?_ ?_ _) | (with_reducible refine Below.drew ?_) | (with_reducible refine below_drewN ?_ _) | (with_reducible refine Below.setCell ?_ ?_ _) | (with_reducible refine Below.trans ?_ (Below.mono (by with_reducible assumption) ?_)) | omega | (simp only [World.size_alloc, World.size_setCell, World.size_drew, size_drewN']; omega) | go_size)) oc).mono ?_); rintro e wd ⟨rfl, hbd⟩; have hbdz := Below.size hbd; (try simp only [World.size_alloc, World.size_setCell, World.size_drew] at hbdz); have hbdc0 := fun o => below_at hbd (bt) o (by first | omega | (simp only [World.size_alloc, World.size_setCell, World.size_drew]; omega)); have hbdf0 := fun o => below_fr hbd (bt) o (by first | omega | (simp only [World.size_alloc, World.size_setCell, World.size_drew]; omega)); have hbdl0 : bt < (wd).heap.size := (by omega); have hbdc1 := fun o => below_at hbd (bu) o (by first | omega | (simp only [World.size_alloc, World.size_setCell, World.size_drew]; omega)); have hbdf1 := fun o => below_fr hbd (bu) o (by first | omega | (simp only [World.size_alloc, World.size_setCell, World.size_drew]; omega)); have hbdl1 : bu < (wd).heap.size := (by omega); have hbdc2 := fun o => below_at hbd (bv) o (by first | omega | (simp only [World.size_alloc, World.size_setCell, World.size_drew]; omega)); have hbdf2 := fun o => below_fr hbd (bv) o (by first | omega | (simp only [World.size_alloc, World.size_setCell, World.size_drew]; omega)); have hbdl2 : bv < (wd).heap.size := (by omega); have hbdc3 := fun o => below_at hbd (bw) o (by first | omega | (simp only [World.size_alloc, World.size_setCell, World.size_drew]; omega)); have hbdf3 := fun o => below_fr hbd (bw) o (by first | omega | (simp only [World.size_alloc, World.size_setCell, World.size_drew]; omega)); have hbdl3 : bw < (wd).heap.size := (by omega); have hbdc4 := fun o => below_at hbd (w4.heap.size) o (by first | omega | (simp only [World.size_alloc, World.size_setCell, World.size_drew]; omega)); have hbdf4 := fun o => below_fr hbd (w4.heap.size) o (by first | omega | (simp only [World.size_alloc, World.size_setCell, World.size_drew]; omega)); have hbdl4 : w4.heap.size < (wd).heap.size := (by omega))) | fail)
            all_goals
              have hB9 : Below wr.heap.size wr wd := (by have z0 := Below.size hba; have z1 := Below.size hbb; have z2 := Below.size hbc; have z3 := Below.size hbd; (try simp only [World.size_alloc, World.size_setCell, World.size_drew, size_drewN'] at z0 z1 z2 z3 ⊢; skip); repeat' (first | (with_reducible exact Below.refl _ _) | (with_reducible assumption) | (with_reducible refine Below.alloc ?_ ?_ _) | (with_reducible refine Below.drew ?_) | (with_reducible refine below_drewN ?_ _) | (with_reducible refine Below.setCell ?_ ?_ _) | (with_reducible refine Below.trans ?_ (Below.mono (by with_reducible assumption) ?_)) | omega | (simp only [World.size_alloc, World.size_setCell, World.size_drew, size_drewN']; omega) | go_size))
              have HB9 := Lib.hid (HB.out.trans (hB9.mono hzr))
              clear hB9
              go_wp2
              go_roundw
              case rel => exact ⟨k + 1, by omega, by go_num, HB9.out⟩
              case measure => simp [intOf]; omega
          · have hkn : k = c.nd := by omega
            subst hkn
            have KR := Lib.hid (fun W (hb' : Below wr.heap.size wr W) => rats_sameB (c := c9) (d := c10) ((RE.out.below hb).below hb') ((RE'.out.below hb).below hb') (by omega) HBE.out)
            have HBF := Lib.hid (HBW10.out.trans (hb.mono (by have := HBW10.out.size; omega)))
            clear hb
            (go_wp2_with fail; (with_reducible refine (KR.out _ (Below.refl _ _)).mono ?_); rintro e wf ⟨rfl, hbf⟩; have hbfz := Below.size hbf; (try simp only [World.size_alloc, World.size_setCell, World.size_drew, size_drewN'] at hbfz))
            go_wp2
            go_ret
            exact ⟨rfl, HBF.out.trans (hbf.mono HBF.out.size)⟩
end Go.Proofs.YtomkdgcpmpbfhaaDoor
