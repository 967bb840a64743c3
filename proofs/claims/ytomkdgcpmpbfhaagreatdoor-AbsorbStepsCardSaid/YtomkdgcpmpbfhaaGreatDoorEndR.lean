/- Contracts of functions and lemmas, used by the proofs of the given statements. No condition beyond those that each lemma names. -/
import Derived.Test.YtomkdgcpmpbfhaaGreatDoorJLawTr
import Derived.Test.YtomkdgcpmpbfhaaGreatDoorJLinY
namespace Go.Proofs.YtomkdgcpmpbfhaaGreatDoor
open Go.RowKit
set_option linter.unusedSimpArgs false
set_option linter.unusedVariables false
set_option maxRecDepth 20000
attribute [local irreducible] nv wp win plainB validR valR canR mvE chkM codeC exK maxF dsum cntB ixB
/-! ## reference: Ending, First -/
set_option maxHeartbeats 8000000 in
theorem ending_any {w : World} {AM AD : Option Addr} {cm cd : Nat} {c : Chn} (h : ChI w w.heap.size AM cm AD cd c) (ok : c.Ok) (hnm : c.nm ≤ 1000000) :
    Calls Tryz.prog 31 #[cv c.st c.sr AM c.nm cm AD c.nd cd] w fun e w' => (∃ A' c', e = .returned (cv c.st c.sr A' c.ending.nm c' AD c.nd cd) ∧ ChI w' w'.heap.size A' c' AD cd c.ending) ∧ Below w.heap.size w w' := by
  have HM := Lib.hid h.mv.1
  have HDN := Lib.hid (fun k (hk : k < c.nd) => h.down hk)
  have HOK := Lib.hid (fun k hk => ok.mv k hk)
  have hch : ∀ W A' c', Below w.heap.size w W → OwM W w.heap.size A' c' (cntB (c.act true) c.nm) (fun i => c.F (ixB (c.act true) c.nm i)) (fun i => c.T (ixB (c.act true) c.nm i)) (fun i => c.R (ixB (c.act true) c.nm i)) → ChI W W.heap.size A' c' AD cd c.ending := fun W A' c' hb ho => ⟨ho.ra.mi hb.size, (h.below hb).dn, (h.below hb).db, ho.cap, h.cd⟩
  have HCH := Lib.hid hch
  obtain ⟨B, hB⟩ : ∃ B, B = c.act true := ⟨_, rfl⟩
  have hBk : ∀ k, B k = !c.D (c.f k) := fun k => by rw [hB]; rfl
  have HBK := Lib.hid hBk
  have HC0 := Lib.hid (cntB_zero (B := B))
  have hen : c.ending.nm = cntB B c.nm := by rw [hB]; rfl
  rw [hen]
  rw [← hB] at HCH
  clear hB hch hen ok h hBk
  obtain ⟨st, sr, nm, F, T, R, nd, D⟩ := c
  simp only [Chn.f] at *
  go_enter Tryz.func31, Tryz.ntmps31
  go_wp2
  go_loopw [16] (fun i wr => ∃ (k : Nat) (Ao : Option Addr) (co : Nat), k ≤ nm ∧ i = .int .i64 (k : Int) ∧ OwM wr w.heap.size Ao co (cntB B k) (fun i => F (ixB B nm i)) (fun i => T (ixB B nm i)) (fun i => R (ixB B nm i)) ∧ (∀ q, (Value.slice Ao (cntB B k) co).ownBlock = some q → w.heap.size + 3 ≤ q)
      ∧ Below w.heap.size w wr ∧ w.heap.size + 3 ≤ wr.heap.size ∧ TyB 25 wr (w.heap.size + 2)
      ∧ (wr.cell? ⟨w.heap.size, 2, none⟩ = some (.slice AM nm cm) ∧ wr.cell? ⟨w.heap.size, 3, none⟩ = some (.slice AD nd cd))
      ∧ (wr.cell? ⟨w.heap.size + 2, 0, none⟩ = some (.int .i64 st) ∧ wr.cell? ⟨w.heap.size + 2, 1, none⟩ = some (.int .i64 sr) ∧ wr.cell? ⟨w.heap.size + 2, 2, none⟩ = some (.slice Ao (cntB B k) co) ∧ wr.cell? ⟨w.heap.size + 2, 3, none⟩ = some (.slice AD nd cd))
      ∧ (∃ a b d e, wr.cell? ⟨w.heap.size + 1, 0, none⟩ = some a ∧ wr.cell? ⟨w.heap.size + 1, 1, none⟩ = some b ∧ wr.cell? ⟨w.heap.size + 1, 2, none⟩ = some d ∧ wr.cell? ⟨w.heap.size + 1, 3, none⟩ = some e)
      ∧ (∀ i, wr.frozen? ⟨w.heap.size + 1, i, none⟩ = false) ∧ (∀ i, wr.frozen? ⟨w.heap.size + 2, i, none⟩ = false) ∧ TyB 25 wr (w.heap.size + 1)) (fun i _ => nm - (intOf i).toNat)
  case atStart =>
    obtain ⟨W, hW, hb, hz, k0, k1, k2, f1, f2, y1, y2⟩ := alloc3 w #[.int .i64 st, .int .i64 sr, .slice AM nm cm, .slice AD nd cd] #[.int .i64 0, .int .i64 0, .slice none 0 0, .slice none 0 0] #[.int .i64 st, .int .i64 sr, .slice none 0 0, .slice AD nd cd] 25 25 25
    rw [← hW]
    exact ⟨0, none, 0, Nat.zero_le _, rfl, (by rw [HC0.out]; exact OwM.nil_ _ _ _ _ _), fun q hq => (by rw [HC0.out] at hq; cases hq), hb, by omega, y2, ⟨k0 2, k0 3⟩, ⟨k2 0, k2 1, (k2 2).trans (by rw [HC0.out]; rfl), k2 3⟩, ⟨_, _, _, _, k1 0, k1 1, k1 2, k1 3⟩, f1, f2, y1⟩
  case round =>
    obtain ⟨k, Ao, co, hk, rfl, ho, hoq, hb, hz, hT, ⟨y2, y3⟩, ⟨x0, x1, x2, x3⟩, ⟨u0, u1, u2, u3, z0, z1, z2, z3⟩, fz1, fz2, hT1⟩ := hrel
    have HT1 := Lib.hid hT1
    clear hT1
    by_cases hlt : k < nm
    · obtain ⟨bm, om, s1, A1, n1, c1, B1, m1, d1, rfl, hbm, f0, f1, f2, f3, f4, r1⟩ := HM.out.at_ hlt
      obtain ⟨e0, e1, e2, e3, e4, e5, -⟩ := HOK.out k hlt
      obtain ⟨f, hf⟩ : ∃ f : Nat, F k = (f : Int) := ⟨(F k).toNat, by omega⟩
      have hfn : f < nd := by omega
      obtain ⟨bd, od, rfl, hbd, -, p0⟩ := HDN.out f hfn
      have hbk := HBK.out k
      rw [hf, Int.toNat_natCast] at hbk
      have g0 := (hb.cell (p := ⟨bm, om + k * 5, none⟩) hbm).trans f0
      have g1 := (hb.cell (p := ⟨bm, om + k * 5 + 1, none⟩) hbm).trans f1
      have g2 := (hb.cell (p := ⟨bm, om + k * 5 + 2, none⟩) hbm).trans f2
      have g3 := (hb.cell (p := ⟨bm, om + k * 5 + 3, none⟩) hbm).trans f3
      have g4 := (hb.cell (p := ⟨bm, om + k * 5 + 4, none⟩) hbm).trans f4
      have g5 := (hb.cell (p := ⟨bd, od + f, none⟩) hbd).trans p0
      rw [hf] at g0
      have hki : (k : Int) < (nm : Int) := by omega
      have hk0 : (0 : Int) ≤ (k : Int) := by omega
      have hfi : (f : Int) < (nd : Int) := by omega
      have hf0 : (0 : Int) ≤ (f : Int) := by omega
      have HO := Lib.hid ho
      have HR1 := Lib.hid (r1.kp (Kp.of_below hb))
      have HOQ := Lib.hid hoq
      have HB := Lib.hid hb
      have HT := Lib.hid hT
      have hbw : bd < wr.heap.size := by have := hb.size; omega
      have HF := Lib.hid hf
      clear f0 f1 f2 f3 f4 p0 r1 ho hoq hb hT e0 e1 e2 e3 e4 e5 hf
      (have oac := fun o i => below_at ((Below.refl wr.heap.size wr).alloc (Nat.le_refl _) o) (w.heap.size) i (by omega)); (have oaf := fun o i => below_fr ((Below.refl wr.heap.size wr).alloc (Nat.le_refl _) o) (w.heap.size) i (by omega))
      (have obc := fun o i => below_at ((Below.refl wr.heap.size wr).alloc (Nat.le_refl _) o) (w.heap.size + 1) i (by omega)); (have obf := fun o i => below_fr ((Below.refl wr.heap.size wr).alloc (Nat.le_refl _) o) (w.heap.size + 1) i (by omega))
      (have occ := fun o i => below_at ((Below.refl wr.heap.size wr).alloc (Nat.le_refl _) o) (w.heap.size + 2) i (by omega)); (have ocf := fun o i => below_fr ((Below.refl wr.heap.size wr).alloc (Nat.le_refl _) o) (w.heap.size + 2) i (by omega))
      (have oec := fun o i => below_at ((Below.refl wr.heap.size wr).alloc (Nat.le_refl _) o) (bd) i (by omega)); (have oef := fun o i => below_fr ((Below.refl wr.heap.size wr).alloc (Nat.le_refl _) o) (bd) i (by omega))
      have hal : Below wr.heap.size wr (wr.alloc (.cells #[.int .i64 (f : Int), .int .i64 (T k), .bool s1, .slice A1 n1 c1, .slice B1 m1 d1] 65)) := (Below.refl _ _).alloc (Nat.le_refl _) _
      have HAL := Lib.hid hal
      clear hal
      cases hD : D f
      · rw [hD] at hbk g5
        have HBK1 := Lib.hid (show B k = true from hbk)
        have HC1 := Lib.hid (cntB_yes HBK1.out)
        have HIX := Lib.hid (ixB_new hlt HBK1.out)
        obtain ⟨m, hm⟩ : ∃ m, m = cntB B k := ⟨_, rfl⟩
        have hmle : m ≤ k := by rw [hm]; exact cntB_le
        rw [← hm] at HC1 HIX HO HOQ x2
        have HM9 := Lib.hid hm
        have HN : Hid (∀ j, j < w.heap.size + 3 → some j ≠ (Value.slice Ao m co).ownBlock) := fun j hj e => absurd (HOQ.out j e.symm) (by omega)
        clear hm hbk hD
        go_wp2_with (first | (at_builtin; refine wpList_appM1 rfl (.tmp 28) (.tmp 30) rfl w.heap.size Ao co m (fun i => F (ixB B nm i)) (fun i => T (ixB B nm i)) (fun i => R (ixB B nm i)) (by simp [Act.eval]) ((HO.out.below HAL.out).below ((Below.refl _ _).alloc (Nat.le_refl _) _)) (wr.heap.size + 1) (f : Int) (T k) s1 A1 n1 c1 B1 m1 d1 (R k) (by simp [Act.eval]) (by simp) (by simp) (by simp) (by simp) (by simp) ((HR1.out.kp (Kp.of_below HAL.out)).kp ((Kp.refl _ _).alloc _)) (by omega) (by simp; omega) ?_; intro g5 c5 w5 own5 hgr5 hfr5 hlt5; (have hx6 : w5.cell? ⟨w.heap.size + 1 + 1, 2, none⟩ = some (.slice Ao m co) := ((hgr5.cell_far ⟨w.heap.size + 2, 2, none⟩ (by simp; omega) (HN.out (w.heap.size + 2) (by omega))).trans ((World.cell?_alloc_past _ _ _ (by simp; omega)).trans (occ _ _))).trans x2); (have hy6 : w5.frozen? ⟨w.heap.size + 1 + 1, 2, none⟩ = false := ((hgr5.frozen_far ⟨w.heap.size + 2, 2, none⟩ (by simp; omega) (HN.out (w.heap.size + 2) (by omega))).trans ((World.frozen?_alloc_past _ _ _ (by simp; omega)).trans (ocf _ _))).trans (fz2 2))) | fail)
        go_roundw
        case rel =>
          have hal2 := HAL.out.trans (((Below.refl wr.heap.size _).alloc (by simp) (.cells #[.int .i64 (f : Int), .int .i64 (T k), .bool s1, .slice A1 n1 c1, .slice B1 m1 d1] 65)))
          have hz5 := hgr5.size
          simp only [World.size_alloc] at hz5
          have hb5 : Below w.heap.size w w5 := (HB.out.trans (hal2.mono (by omega))).trans (below_of_row hgr5 (fun q hq => by have := HOQ.out q hq; omega) (by simp; omega))
          have ha5 := fun o => hgr5.cell_far ⟨w.heap.size, o, none⟩ (by simp; omega) (HN.out w.heap.size (by omega))
          have hb5' := fun o => hgr5.cell_far ⟨w.heap.size + 1, o, none⟩ (by simp; omega) (HN.out (w.heap.size + 1) (by omega))
          have hc5 := fun o => hgr5.frozen_far ⟨w.heap.size + 1, o, none⟩ (by simp; omega) (HN.out (w.heap.size + 1) (by omega))
          have hx5 := fun o => hgr5.cell_far ⟨w.heap.size + 2, o, none⟩ (by simp; omega) (HN.out (w.heap.size + 2) (by omega))
          have hy5 := fun o => hgr5.frozen_far ⟨w.heap.size + 2, o, none⟩ (by simp; omega) (HN.out (w.heap.size + 2) (by omega))
          have hgq : w.heap.size + 3 ≤ g5 := by
            rcases hfr5 with e | e
            · exact HOQ.out _ e
            · simp at e; omega
          have hT5 : TyB 25 w5 (w.heap.size + 2) := (HT.out.below hal2 (by omega)).grown hgr5 (HN.out (w.heap.size + 2) (by omega))
          have own6 := own5.congr (F' := fun i => F (ixB B nm i)) (T' := fun i => T (ixB B nm i)) (U := fun i => R (ixB B nm i)) fun i hi => by
            by_cases e : i = m
            · rw [e, upd_same, upd_same, upd_same, HIX.out, HF.out]
              exact ⟨rfl, rfl, rfl⟩
            · rw [upd_ne _ _ e, upd_ne _ _ e, upd_ne _ _ e]
              exact ⟨rfl, rfl, rfl⟩
          refine ⟨k + 1, some ⟨g5, 0, none⟩, c5, by omega, by go_num, ?_, ?_, hb5.setCell (by show w.heap.size ≤ w.heap.size + 1 + 1; omega) _, by simp; omega, hT5.set _ _ _, ⟨?_, ?_⟩, ⟨?_, ?_, ?_, ?_⟩, ⟨u0, u1, u2, u3, ?_, ?_, ?_, ?_⟩, fun i => ?_, fun i => ?_, (((HT1.out.below hal2 (by omega)).grown hgr5 (HN.out (w.heap.size + 1) (by omega))).set _ _ _)⟩
          · rw [HC1.out]
            exact own6.set1 hT5 (by decide) (by omega) (fun q hq => by have hq : some g5 = some q := hq; injection hq with hq; omega) 2 _
          · intro q hq
            have hq : some g5 = some q := hq
            injection hq with hq
            omega
          · rw [World.cell?_setCell_far _ _ _ _ (by show w.heap.size + 1 + 1 ≠ w.heap.size; omega), ha5, World.cell?_alloc_past _ _ _ (by simp; omega), oac]; exact y2
          · rw [World.cell?_setCell_far _ _ _ _ (by show w.heap.size + 1 + 1 ≠ w.heap.size; omega), ha5, World.cell?_alloc_past _ _ _ (by simp; omega), oac]; exact y3
          · rw [setCell_ne (by omega)]; exact ((hx5 0).trans ((World.cell?_alloc_past _ _ _ (by simp; omega)).trans (occ _ _))).trans x0
          · rw [setCell_ne (by omega)]; exact ((hx5 1).trans ((World.cell?_alloc_past _ _ _ (by simp; omega)).trans (occ _ _))).trans x1
          · rw [HC1.out]; exact World.cell?_setCell_same (u := .slice Ao m co) _ _ _ (((hx5 2).trans ((World.cell?_alloc_past _ _ _ (by simp; omega)).trans (occ _ _))).trans x2)
          · rw [setCell_ne (by omega)]; exact ((hx5 3).trans ((World.cell?_alloc_past _ _ _ (by simp; omega)).trans (occ _ _))).trans x3
          · rw [World.cell?_setCell_far _ _ _ _ (by show w.heap.size + 1 + 1 ≠ w.heap.size + 1; omega), hb5', World.cell?_alloc_past _ _ _ (by simp; omega), obc]; exact z0
          · rw [World.cell?_setCell_far _ _ _ _ (by show w.heap.size + 1 + 1 ≠ w.heap.size + 1; omega), hb5', World.cell?_alloc_past _ _ _ (by simp; omega), obc]; exact z1
          · rw [World.cell?_setCell_far _ _ _ _ (by show w.heap.size + 1 + 1 ≠ w.heap.size + 1; omega), hb5', World.cell?_alloc_past _ _ _ (by simp; omega), obc]; exact z2
          · rw [World.cell?_setCell_far _ _ _ _ (by show w.heap.size + 1 + 1 ≠ w.heap.size + 1; omega), hb5', World.cell?_alloc_past _ _ _ (by simp; omega), obc]; exact z3
          · rw [World.frozen?_setCell, hc5, World.frozen?_alloc_past _ _ _ (by simp; omega), obf]; exact fz1 i
          · rw [World.frozen?_setCell, hy5, World.frozen?_alloc_past _ _ _ (by simp; omega), ocf]; exact fz2 i
        case measure => simp [intOf]; omega
      · rw [hD] at hbk g5
        have HBK1 := Lib.hid (show B k = false from hbk)
        have HC1 := Lib.hid (cntB_no HBK1.out)
        clear hbk hD
        go_wp2
        go_roundw
        case rel => exact ⟨k + 1, Ao, co, by omega, by go_num, HC1.out ▸ HO.out.below HAL.out, HC1.out ▸ HOQ.out, HB.out.trans (HAL.out.mono (by omega)), by simp; omega, HT.out.below HAL.out (by omega), ⟨by rw [oac]; exact y2, by rw [oac]; exact y3⟩, ⟨by rw [occ]; exact x0, by rw [occ]; exact x1, by rw [occ, HC1.out]; exact x2, by rw [occ]; exact x3⟩, ⟨u0, u1, u2, u3, by rw [obc]; exact z0, by rw [obc]; exact z1, by rw [obc]; exact z2, by rw [obc]; exact z3⟩, fun i => by rw [obf]; exact fz1 i, fun i => by rw [ocf]; exact fz2 i, HT1.out.below HAL.out (by omega)⟩
        case measure => simp [intOf]; omega
    · have hkm : k = nm := by omega
      subst hkm
      have HO := Lib.hid ho
      have HB := Lib.hid hb
      have HOQ := Lib.hid hoq
      clear ho hb hoq
      go_wp2
      obtain ⟨s0, s1, s2, s3⟩ := same4 (.int .i64 st) (.int .i64 sr) (.slice Ao (cntB B k) co) (.slice AD nd cd) z0 z1 z2 z3
      refine bodyPost_ret (v := (cv st sr Ao (cntB B k) co AD nd cd)) (by simp [results, Tryz.results31, go_sem, s0, s1, s2, s3]) rfl ?_
      have hb4 := (((HB.out.setCell (p := ⟨w.heap.size + 1, 0, none⟩) (by show w.heap.size ≤ w.heap.size + 1; omega) (.int .i64 st)).setCell (p := ⟨w.heap.size + 1, 1, none⟩) (by show w.heap.size ≤ w.heap.size + 1; omega) (.int .i64 sr)).setCell (p := ⟨w.heap.size + 1, 2, none⟩) (by show w.heap.size ≤ w.heap.size + 1; omega) (.slice Ao (cntB B k) co)).setCell (p := ⟨w.heap.size + 1, 3, none⟩) (by show w.heap.size ≤ w.heap.size + 1; omega) (.slice AD nd cd)
      have hq : ∀ q, (Value.slice Ao (cntB B k) co).ownBlock = some q → q ≠ w.heap.size + 1 := fun q hq => by have := HOQ.out q hq; omega
      have o1 := HO.out.set1 HT1.out (by decide) (by omega) hq 0 (.int .i64 st)
      have o2 := o1.set1 (HT1.out.set _ _ _) (by decide) (by omega) hq 1 (.int .i64 sr)
      have o3 := o2.set1 ((HT1.out.set _ _ _).set _ _ _) (by decide) (by omega) hq 2 (.slice Ao (cntB B k) co)
      have o4 := o3.set1 (((HT1.out.set _ _ _).set _ _ _).set _ _ _) (by decide) (by omega) hq 3 (.slice AD nd cd)
      exact ⟨⟨Ao, co, rfl, HCH.out _ _ _ hb4 o4⟩, hb4⟩
end Go.Proofs.YtomkdgcpmpbfhaaGreatDoor
