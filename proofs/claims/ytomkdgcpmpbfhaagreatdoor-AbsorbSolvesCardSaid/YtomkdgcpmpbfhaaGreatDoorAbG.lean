/- Contracts of functions and lemmas, used by the proofs of the given statements. No condition beyond those that each lemma names. -/
import Derived.Test.YtomkdgcpmpbfhaaGreatDoorJAbG0
namespace Go.Proofs.YtomkdgcpmpbfhaaGreatDoor
open Go.RowKit
set_option linter.unusedSimpArgs false
set_option linter.unusedVariables false
set_option maxRecDepth 20000
attribute [local irreducible] nv wp win plainB validR valR canR mvE chkM codeC spr sprN chg cnt gj ful0 fulK onK
/-! ## reference: solve -/
set_option maxHeartbeats 16000000 in
theorem rsolveA_any {w : World} {B g : Nat} {AM AD : Option Addr} {cm cd : Nat} {c : Chn} {y : Nat → Rat} (back : Bool) (h : ChI w B AM cm AD cd c) (hB : B ≤ w.heap.size) (hS : SysS c) (h0 : c.codeA = 0) (hy : OwR w B (some ⟨g, 0, none⟩) c.nd c.nd (can y)) (hys : ∀ i, Sz 400 (y i)) (hyr : onL c.lv y = onL c.lv (c.rhs back)) :
    Calls Tryz.prog 44 #[cv c.st c.sr AM c.nm cm AD c.nd cd, .slice (some ⟨g, 0, none⟩) c.nd c.nd, .bool back] w fun e w' => (∃ A' d, e = .returned (.slice A' c.nd d) ∧ RowA w' w'.heap.size A' c.nd (can (c.sol back))) ∧ Below B w w' := by
  have ok := Chn.codeA_ok h0
  have hn1 := ok.lo
  have hn9 := hS.nd ok
  have hnm := hS.ch.nm
  have hA := Chn.abS h0
  have hgB := hy.block.1
  have hgl := hy.lt
  obtain ⟨-, curg, hcg⟩ := hy.block
  have KL := Lib.hid (fun W (hb : Below w.heap.size w W) => rlive_any ((h.kp (Kp.of_below hb)).base (by have := hb.size; omega)) ok hnm)
  have HMV := Lib.hid (fun W (hk : Kp B w W) k hkn => h.mv_kp (W := W) ok hk (k := k) hkn)
  have HSQ := Lib.hid (fun k hk => (hS.ch.siz ok).raw k hk)
  have HSP : Hid (∀ k, k ≤ c.nm → ∀ a b, Sz 400 (fulK c.lv c.f c.t c.q back k a b)) := fun k hk a b => fulK_sz hS ok back hk a b
  have HF0 : Hid (∀ i j, i < c.nd → ful0 c.lv c.nd i j = fulK c.lv c.f c.t c.q back 0 i j) := fun i j hi => ful0_all hi
  have HFY := Lib.hid (fun k (h : c.lv k = true) i j => ful0_yes h i j)
  have HFN := Lib.hid (fun k (h : c.lv k = false) => ful0_no h)
  have HFR := Lib.hid (fun k j => (ful0_row (l := c.lv) (Nat.le_refl k) j))
  have HO0 := Lib.hid (onK_0 (l := c.lv) y)
  have HOY := Lib.hid (fun k (h : c.lv k = true) => onK_yes (y := y) h)
  have HON := Lib.hid (fun k (h : c.lv k = false) => onK_no (y := y) h)
  have HPN := Lib.hid (fun k (h : c.lv (c.f k) = false) => fulK_no (T := c.t) (q := c.q) (back := back) h)
  have HP1 := Lib.hid (fun k (h : c.lv (c.f k) = true) (ht : c.lv (c.t k) = false) a b => fulK_one (F := c.f) (T := c.t) (q := c.q) (back := back) (k := k) h ht a b)
  have HP2 := Lib.hid (fun k (h : c.lv (c.f k) = true) (ht : c.lv (c.t k) = true) hne a b => fulK_two (F := c.f) (T := c.t) (q := c.q) (back := back) (k := k) h ht hne a b)
  -- the solution
  have hfull := hA.full back (c.rhs back)
  have HS0 : Hid (codeS c.nd c.nd (wide (fulK c.lv c.f c.t c.q back c.nm) (onL c.lv (c.rhs back)) c.nd) = 0 ∧ ∀ s, s < c.nd → (gj c.nd (wide (fulK c.lv c.f c.t c.q back c.nm) (onL c.lv (c.rhs back)) c.nd) (c.nd + 1)).1 s c.nd = c.sol back s) := by
    unfold fulK
    refine ⟨hfull.1, fun s hs => ?_⟩
    exact (hA.solC_eq (c.rhs back) hs).symm
  have KS : Hid (∀ W A ca Bp cb, MatI W W.heap.size A c.nd (fun _ => c.nd) (fun i => can (fulK c.lv c.f c.t c.q back c.nm i)) → RowI W W.heap.size Bp c.nd (can (onL c.lv (c.rhs back))) →
      Calls Tryz.prog 74 #[.slice A c.nd ca, .slice Bp c.nd cb] W fun e w' => (∃ A' d, e = .returned (.tuple #[.slice A' c.nd d, .int .i64 0]) ∧ RowA w' w'.heap.size A' c.nd (can (c.sol back))) ∧ Below W.heap.size W w') := by
    intro W A ca Bp cb hm hb
    have hol : ∀ i, Sz 400 (onL c.lv (c.rhs back) i) := fun i => by
      unfold onL
      split
      · exact c.rhs_sz back _
      · exact Sz.zero (by omega)
    have := rsolve_any (ca := ca) (cb := cb) (L := 400) hm hb (codeM_sq (by omega) (by omega)) rfl (fun i k _ _ => Sz_canR (HSP.out c.nm (Nat.le_refl _) i k)) (fun i _ => Sz_canR (hol i)) (by omega) (gl_10 (by omega))
    have e1 : (fun i k => valR (can (fulK c.lv c.f c.t c.q back c.nm i) k)) = fulK c.lv c.f c.t c.q back c.nm := by funext i k; exact valR_canR _
    have e2 : (fun i => valR (can (onL c.lv (c.rhs back)) i)) = onL c.lv (c.rhs back) := by funext i; exact valR_canR _
    rw [e1, e2] at this
    refine this.mono fun e w' hh => ⟨?_, hh.2⟩
    rcases hh.1 with ⟨-, A', d, e1, hr, -⟩ | ⟨hn, -⟩
    · exact ⟨A', d, e1, hr.ra.congr fun s hs => by have := HS0.out.2 s hs; show canR _ = canR _; rw [← this]⟩
    · exact absurd HS0.out.1 hn
  obtain ⟨SO, hSO⟩ : ∃ SO, SO = c.sol back := ⟨_, rfl⟩
  obtain ⟨OL, hOL⟩ : ∃ OL, OL = onL c.lv (c.rhs back) := ⟨_, rfl⟩
  have HOE : Hid (∀ i, i < c.nd → onK c.lv y c.nd i = OL i) := fun i hi => by rw [hOL, ← hyr]; exact onK_all hi
  obtain ⟨FK, hFK⟩ : ∃ FK : Nat → Mf, FK = fun k => fulK c.lv c.f c.t c.q back k := ⟨_, rfl⟩
  have hFn : fulK c.lv c.f c.t c.q back c.nm = FK c.nm := by rw [hFK]
  rw [hFn, ← hOL, ← hSO] at KS
  rw [← hSO]
  have HSP' : Hid (∀ k, k ≤ c.nm → ∀ a b, Sz 400 (FK k a b)) := by rw [hFK]; exact HSP
  have HF0' : Hid (∀ i j, i < c.nd → ful0 c.lv c.nd i j = FK 0 i j) := by rw [hFK]; exact HF0
  have HPN' : Hid (∀ k, c.lv (c.f k) = false → FK (k + 1) = FK k) := by rw [hFK]; exact HPN
  have HP1' : Hid (∀ k, c.lv (c.f k) = true → c.lv (c.t k) = false → ∀ a b, FK (k + 1) a b = if a = c.f k ∧ b = c.f k then FK k a b + c.q k else FK k a b) := by rw [hFK]; exact HP1
  have HP2' : Hid (∀ k, c.lv (c.f k) = true → c.lv (c.t k) = true → c.f k ≠ c.t k → ∀ a b, FK (k + 1) a b = if a = (if back then c.t k else c.f k) ∧ b = (if back then c.f k else c.t k) then FK k a b - c.q k else if a = c.f k ∧ b = c.f k then FK k a b + c.q k else FK k a b) := by rw [hFK]; exact HP2
  obtain ⟨LV, hLV⟩ : ∃ LV, LV = c.lv := ⟨_, rfl⟩
  rw [← hLV] at KL HF0' HFY HFN HFR HO0 HOY HON HPN' HP1' HP2' HOE
  obtain ⟨ON, hON⟩ : ∃ ON : Nat → Nat → Rat, ON = fun k => onK LV y k := ⟨_, rfl⟩
  have HO0' : Hid (ON 0 = y) := by rw [hON]; exact HO0
  have HOY' : Hid (∀ k, LV k = true → ON k = ON (k + 1)) := by rw [hON]; exact HOY
  have HON' : Hid (∀ k, LV k = false → upd (ON k) k 0 = ON (k + 1)) := by rw [hON]; exact HON
  have HOE' : Hid (∀ i, i < c.nd → ON c.nd i = OL i) := by rw [hON]; exact HOE
  have HY : Hid (OwR w B (some ⟨g, 0, none⟩) c.nd c.nd (can (ON 0))) := by rw [HO0'.out]; exact hy
  have hst := ok.st
  rw [hst] at KL
  rw [hst]
  obtain ⟨sr, hsr⟩ : ∃ sr, sr = c.sr := ⟨_, rfl⟩
  rw [← hsr] at KL ⊢
  clear hON HO0 HOY HON HOE hLV hFK hFn hSO hOL HSP HF0 HPN HP1 HP2 HS0 hfull hst hsr hy hys hyr hA ok h0 hS h HO0'
  have HPC := Lib.hid (fun W hb => par_cells (W := W) (w := w) (a := .int .i64 (c.nd : Int)) (b := .int .i64 sr) (d := .slice AM c.nm cm) (e := .slice AD c.nd cd) (t := 25) hb)
  have hW0z : (w.alloc (.cells #[.int .i64 (c.nd : Int), .int .i64 sr, .slice AM c.nm cm, .slice AD c.nd cd] 25)).heap.size = w.heap.size + 1 := by simp
  have hW0b : Below w.heap.size w (w.alloc (.cells #[.int .i64 (c.nd : Int), .int .i64 sr, .slice AM c.nm cm, .slice AD c.nd cd] 25)) := (Below.refl _ _).alloc (Nat.le_refl _) _
  go_enter Tryz.func44, Tryz.ntmps44
  (go_wp2_with fail; (with_reducible refine (KL.out _ (by (skip); repeat' (first | (with_reducible exact Below.refl _ _) | (with_reducible assumption) | (with_reducible refine Below.alloc ?_ ?_ _) | (with_reducible refine Below.drew ?_) | (with_reducible refine below_drewN ?_ _) | (with_reducible refine Below.setCell ?_ ?_ _) | (with_reducible refine Below.trans ?_ (Below.mono (by with_reducible assumption) ?_)) | omega | (simp only [World.size_alloc, World.size_setCell, World.size_drew, size_drewN']; omega) | go_size))).mono ?_); rintro e w1 ⟨⟨A1, c1, rfl, own1⟩, hb1⟩; have hb1z := Below.size hb1; (try simp only [World.size_alloc, World.size_setCell, World.size_drew, size_drewN'] at hb1z))
  obtain ⟨g1, rfl, hg1, hg1l⟩ := own1.head hn1
  have HB1 : Hid (Below (w.heap.size + 1) (w.alloc (.cells #[.int .i64 (c.nd : Int), .int .i64 sr, .slice AM c.nm cm, .slice AD c.nd cd] 25)) w1) := by show Below _ _ _; simpa using hb1
  rw [hW0z] at hg1
  have hz1 := HB1.out.size
  rw [hW0z] at hz1
  have HM1 := Lib.hid own1
  have hbw1 : Below w.heap.size w w1 := hW0b.trans (HB1.out.mono (by omega))
  have HBW1 := Lib.hid hbw1
  clear own1 hb1 hW0z hW0b hbw1
  generalize w.alloc (.cells #[.int .i64 (c.nd : Int), .int .i64 sr, .slice AM c.nm cm, .slice AD c.nd cd] 25) = W0 at *
  obtain ⟨y0, -, -, -⟩ := HPC.out _ HB1.out
  have HG0 : Hid (w1.heap[g]? = some (.cells curg 50 (0, 0))) := (HBW1.out.block g hgl).trans hcg
  -- what stays of the world behind live, when the row has been written
  have HPG : Hid (∀ W, w1.grownBy W (some g) → W.cell? ⟨w.heap.size, 0, none⟩ = some (.int .i64 (c.nd : Int)) ∧ W.cell? ⟨w.heap.size, 2, none⟩ = some (.slice AM c.nm cm)) := fun W hG => by
    obtain ⟨p0, -, p2, -⟩ := HPC.out _ HB1.out
    exact ⟨(hG.cell_far ⟨w.heap.size, 0, none⟩ (by show w.heap.size < _; omega) (fun e => by have e : some w.heap.size = some g := e; injection e with e; omega)).trans p0, (hG.cell_far ⟨w.heap.size, 2, none⟩ (by show w.heap.size < _; omega) (fun e => by have e : some w.heap.size = some g := e; injection e with e; omega)).trans p2⟩
  have HMG : Hid (∀ W, w1.grownBy W (some g) → ∀ i, i < c.nd → W.cell? ⟨g1, i, none⟩ = some (.bool (LV i))) := fun W hG i hi => by
    exact (hG.cell_far ⟨g1, i, none⟩ hg1l (fun e => by have e : some g1 = some g := e; injection e with e; omega)).trans (HM1.out.at_ hi)
  have HKG : Hid (∀ W, w1.grownBy W (some g) → Kp B w W) := fun W hG => (Kp.of_below HBW1.out).trans (Kp.grown hG hgB HG0.out (by decide))
  have HY1 := Lib.hid (HY.out.below HBW1.out)
  clear HY HM1
  go_wp2_with (first | (at_make; refine wpList_makeM rfl (.tmp 17) (.tmp 17) rfl w1.heap.size c.nd (ful0 LV 0) (c.nd : Int) (c.nd : Int) (by first | rfl | simp [Act.eval]) (by first | rfl | simp [Act.eval]) rfl rfl (by omega) (Nat.le_refl _) ?_; intro w3 own3 hb3) | fail)
  have own4 := own3.congr (len' := fun j => if j < 0 then c.nd else 0) (M' := ful0 LV 0) (fun i _ => by simp) (fun i k _ hk => rfl)
  have HO3 := Lib.hid own4
  have HB3 := Lib.hid (grown_of_below hb3 (some g))
  have HY3 := Lib.hid (HY1.out.below hb3)
  have hz3 := hb3.size
  clear own3 own4 hb3 HY1 y0
  go_loopw [21] (fun i wr => ∃ k : Nat, k ≤ c.nd ∧ i = .int .i64 (k : Int) ∧ MatG wr w1.heap.size w1.heap.size c.nd c.nd (fun j => if j < k then c.nd else 0) (ful0 LV k) ∧ OwR wr B (some ⟨g, 0, none⟩) c.nd c.nd (can (ON k)) ∧ w1.grownBy wr (some g)) (fun i _ => c.nd - (intOf i).toNat)
  case atStart => exact ⟨0, Nat.zero_le _, rfl, HO3.out, HY3.out, HB3.out⟩
  case round =>
    clear HO3 HY3 HB3
    obtain ⟨i, hi, rfl, own, oy, hG⟩ := hrel
    have hbz2 := hG.size
    by_cases hlt : i < c.nd
    · obtain ⟨A9, c9, hX⟩ := own.row i
      have hcell := hX.cell hlt
      have hfz := own.frozen
      have holt := own.lt
      simp only [Nat.lt_irrefl, if_false] at hcell
      obtain ⟨p0, p2⟩ := HPG.out _ hG
      have hwg : w.heap.size < wr.heap.size := by omega
      have hgg : g < wr.heap.size := by omega
      have hg1g : g1 < wr.heap.size := by omega
      have HX := Lib.hid hX
      have HG := Lib.hid hG
      have HY := Lib.hid oy
      have hi0 : (0 : Int) ≤ (i : Int) := by omega
      have hi1 : (i : Int) < (c.nd : Int) := by omega
      clear hX own oy hG
      cases hA : LV i
      ·
        go_wp2_with (first | (at_make; refine wpList_makeR rfl (.tmp 27) (.tmp 27) rfl w1.heap.size c.nd (c.nd : Int) (c.nd : Int) (by first | rfl | simp [Act.eval]) (by first | rfl | simp [Act.eval]) rfl rfl (by omega) (by omega) ?_; intro w5 own5 hb5; (have hcell5 := (hb5.cell (p := ⟨w1.heap.size, i, none⟩) holt).trans hcell); (have hfz5 := fun o => (below_fr hb5 (w1.heap.size) o holt)); (have mi5 := (World.cell?_setCell_far w5 ⟨w1.heap.size, i, none⟩ ⟨g1, i, none⟩ (.slice (some ⟨wr.heap.size, 0, none⟩) c.nd c.nd) (by show w1.heap.size ≠ g1; omega)).trans (HMG.out _ (grown_belowR HG.out (hb5.mono (by omega))) i hlt)); rw [hA] at mi5) | fail)
        have hp := HX.out.put' hlt (grown_of_below hb5 (Value.slice A9 0 c9).ownBlock) own5 (.inr (Nat.le_refl _)) (by omega)
        have hp1 := hp.1.congr (len' := fun j => if j < i + 1 then c.nd else 0) (M' := ful0 LV i) (fun j hj => by
          unfold upd
          by_cases e : j = i
          · subst e; simp
          · by_cases e2 : j < i
            · simp [e, e2, show j < i + 1 by omega]
            · simp [e, e2, show ¬ j < i + 1 by omega]) (fun j k hj hk => by
          unfold upd
          by_cases e : j = i
          · rw [if_pos e, e, HFR.out]
          · rw [if_neg e])
        have HPW := Lib.hid hp1
        have HGW := Lib.hid (grown_belowR HG.out hp.2.2)
        have HYW := Lib.hid (HY.out.stay hp.2.2 (by omega) (hp.2.1.low (by omega)))
        clear hp hp1 own5 hb5 hcell5 hfz5 mi5
        have HON1 := Lib.hid (HON'.out i hA)
        have HFN1 := Lib.hid (HFN.out i hA)
        clear hA
        obtain ⟨wM, hwM⟩ : ∃ wM, wM = w5.setCell ⟨w1.heap.size, i, none⟩ (.slice (some ⟨wr.heap.size, 0, none⟩) c.nd c.nd) := ⟨_, rfl⟩
        rw [← hwM] at HPW HGW HYW ⊢
        clear hwM
        obtain ⟨A8, c8, hX8⟩ := HPW.out.row i
        obtain ⟨g2, rfl⟩ := hX8.head hlt (by simp; omega)
        have hcell2 : wM.cell? ⟨w1.heap.size, i, none⟩ = some (.slice (some ⟨g2, 0, none⟩) c.nd c8) := by have := hX8.cell hlt; simpa using this
        have hown2 : OwR wM w1.heap.size (some ⟨g2, 0, none⟩) c8 c.nd (can (ful0 LV i i)) := by have := hX8.own hlt; simpa using this
        have hne2 : g2 ≠ w1.heap.size := hX8.ne hlt rfl
        have hgl2 := hown2.lt
        have hgb2 := hown2.block.1
        have hol2 := HPW.out.lt
        obtain ⟨s0, A3, n3, c3', B3, m3, d3, o0, o1, o2, -⟩ := hown2.at_ hlt
        have hfz2 := hown2.frozen
        have HX8 := Lib.hid hX8
        have HOn2 := Lib.hid hown2
        clear hX8 hown2 p0 p2 hcell hfz
        have nf1 : ¬ (w1.heap.size = g2) := fun e => hne2 e.symm
        have nf2 : ¬ (g2 = w1.heap.size) := hne2
        go_wp2
        go_region_held3 (fun W => W.cell? ⟨w1.heap.size, i, none⟩ = some (.slice (some ⟨g2, 0, none⟩) c.nd c8)) (go_keep)
          (first | ((go_at_call 43; (with_reducible refine (rofOne _).mono ?_); rintro e w6 ⟨⟨v6, rfl, own6⟩, hb6⟩; have hb6z := Below.size hb6; (try simp only [World.size_alloc, World.size_setCell, World.size_drew] at hb6z); have hb6c0 := fun o => below_at hb6 (w1.heap.size) o (by first | omega | (simp only [World.size_alloc, World.size_setCell, World.size_drew]; omega)); have hb6f0 := fun o => below_fr hb6 (w1.heap.size) o (by first | omega | (simp only [World.size_alloc, World.size_setCell, World.size_drew]; omega)); have hb6l0 : w1.heap.size < (w6).heap.size := (by omega); have hb6c1 := fun o => below_at hb6 (g2) o (by first | omega | (simp only [World.size_alloc, World.size_setCell, World.size_drew]; omega)); have hb6f1 := fun o => below_fr hb6 (g2) o (by first | omega | (simp only [World.size_alloc, World.size_setCell, World.size_drew]; omega)); have hb6l1 : g2 < (w6).heap.size := (by omega)); obtain ⟨s6, A6, n6, c6, B6, m6, d6, rfl⟩ := own6.form) | fail)
        all_goals
          have hb9 : Below wM.heap.size wM w6 := (by have z0 := Below.size hb6; (try simp only [World.size_alloc, World.size_setCell, World.size_drew, size_drewN'] at z0 ⊢; skip); repeat' (first | (with_reducible exact Below.refl _ _) | (with_reducible assumption) | (with_reducible refine Below.alloc ?_ ?_ _) | (with_reducible refine Below.drew ?_) | (with_reducible refine below_drewN ?_ _) | (with_reducible refine Below.setCell ?_ ?_ _) | (with_reducible refine Below.trans ?_ (Below.mono (by with_reducible assumption) ?_)) | omega | (simp only [World.size_alloc, World.size_setCell, World.size_drew, size_drewN']; omega) | go_size))
          have hst := (HOn2.out.below hb9).set hlt (own6.rs (b0 := w1.heap.size))
          have hs := (HX8.out.below hb9).same hlt hst.2 (f' := fun j => if j = i then 1 else 0) (by
            simp only [Nat.lt_succ_self, if_true]
            refine hst.1.congr fun j _ => ?_
            rw [upd_can]
            unfold can upd
            by_cases e : j = i
            · simp [e]
            · simp only [e, if_false]
              rw [HFR.out]) (by have := hb9.size; have := HGW.out.size; omega)
          have hmz := hs.1.mg
          rw [HFN1.out] at hmz
          have hbz := (hb9.mono (by have := HGW.out.size; omega : w1.heap.size ≤ wM.heap.size)).trans hs.2.2
          have hgz := grown_belowR HGW.out hbz
          have hyz := HYW.out.stay hbz (by omega) (((Kp.of_below hb9).trans (hs.2.1.low (by omega : B ≤ w1.heap.size))))
          obtain ⟨wN, hwN⟩ : ∃ wN, wN = (((w6.setCell ⟨g2, i * 3, none⟩ (.bool s6)).setCell ⟨g2, i * 3 + 1, none⟩ (.slice A6 n6 c6)).setCell ⟨g2, i * 3 + 2, none⟩ (.slice B6 m6 d6)) := ⟨_, rfl⟩
          rw [← hwN] at hmz hbz hgz hyz ⊢
          obtain ⟨u0, u1, u2, u3, u4, u5, u6, v0, v1, v2, -⟩ := hyz.at_ hlt
          have hfy := hyz.frozen
          have hst9 := hyz.set hlt (RdS.zr wN B)
          rw [upd_can, HON1.out] at hst9
          have HF1 := Lib.hid (hmz.keepN hst9.2 hyz.nwb_ (by omega))
          have HF2 := Lib.hid hst9.1
          have HF3 := Lib.hid (grown_trans hgz hst9.2)
          clear hwN hmz hbz hgz hyz hst9 hs hst hb9 hb6 own6
          go_wp2
          go_roundw
          case rel => exact ⟨i + 1, by omega, by go_num, HF1.out, HF2.out, HF3.out⟩
          case measure => simp [intOf]; omega
      ·
        go_wp2_with (first | (at_make; refine wpList_makeR rfl (.tmp 27) (.tmp 27) rfl w1.heap.size c.nd (c.nd : Int) (c.nd : Int) (by first | rfl | simp [Act.eval]) (by first | rfl | simp [Act.eval]) rfl rfl (by omega) (by omega) ?_; intro w5 own5 hb5; (have hcell5 := (hb5.cell (p := ⟨w1.heap.size, i, none⟩) holt).trans hcell); (have hfz5 := fun o => (below_fr hb5 (w1.heap.size) o holt)); (have mi5 := (World.cell?_setCell_far w5 ⟨w1.heap.size, i, none⟩ ⟨g1, i, none⟩ (.slice (some ⟨wr.heap.size, 0, none⟩) c.nd c.nd) (by show w1.heap.size ≠ g1; omega)).trans (HMG.out _ (grown_belowR HG.out (hb5.mono (by omega))) i hlt)); rw [hA] at mi5) | fail)
        have hp := HX.out.put' hlt (grown_of_below hb5 (Value.slice A9 0 c9).ownBlock) own5 (.inr (Nat.le_refl _)) (by omega)
        have hp1 := hp.1.congr (len' := fun j => if j < i + 1 then c.nd else 0) (M' := ful0 LV i) (fun j hj => by
          unfold upd
          by_cases e : j = i
          · subst e; simp
          · by_cases e2 : j < i
            · simp [e, e2, show j < i + 1 by omega]
            · simp [e, e2, show ¬ j < i + 1 by omega]) (fun j k hj hk => by
          unfold upd
          by_cases e : j = i
          · rw [if_pos e, e, HFR.out]
          · rw [if_neg e])
        have HPW := Lib.hid hp1
        have HGW := Lib.hid (grown_belowR HG.out hp.2.2)
        have HYW := Lib.hid (HY.out.stay hp.2.2 (by omega) (hp.2.1.low (by omega)))
        clear hp hp1 own5 hb5 hcell5 hfz5 mi5
        have HOY1 := Lib.hid (HOY'.out i hA)
        have HFY1 := Lib.hid (funext fun a => funext fun b => HFY.out i hA a b : ful0 LV (i + 1) = ful0 LV i)
        clear hA
        go_roundw
        case rel => exact ⟨i + 1, by omega, by go_num, by rw [HFY1.out]; exact HPW.out, by rw [← HOY1.out]; exact HYW.out, HGW.out⟩
        case measure => simp [intOf]; omega
    · have hin : i = c.nd := by omega
      subst hin
      have own4 := own.congr (len' := fun _ => c.nd) (M' := FK 0) (fun j hj => by simp [hj]) (fun j k hj _ => by rw [HF0'.out j k hj])
      have HO4 := Lib.hid own4
      have HY4 := Lib.hid oy
      have HG4 := Lib.hid hG
      obtain ⟨-, p2⟩ := HPG.out _ hG
      clear own own4 oy hG hlt hi
      go_wp2
      go_loopw [50] (fun j wr => ∃ k : Nat, k ≤ c.nm ∧ j = .int .i64 (k : Int) ∧ MatG wr w1.heap.size w1.heap.size c.nd c.nd (fun _ => c.nd) (FK k) ∧ OwR wr B (some ⟨g, 0, none⟩) c.nd c.nd (can (ON c.nd)) ∧ w1.grownBy wr (some g)) (fun i _ => c.nm - (intOf i).toNat)
      case atStart => exact ⟨0, Nat.zero_le _, rfl, HO4.out, HY4.out, HG4.out⟩
      case round =>
        clear HO4 HY4 HG4 p2
        obtain ⟨k, hk, rfl, own, oy, hG⟩ := hrel
        have hz := hG.size
        by_cases hlt : k < c.nm
        · obtain ⟨bm, om, s1, A1, n1, c1', B1, m1, d1, rfl, hbm, g0, g1', g2', g3, g4, r1, hfn, htn, hft⟩ := HMV.out wr (HKG.out wr hG) k hlt
          have mf := HMG.out wr hG _ hfn
          have mt := HMG.out wr hG _ htn
          have hPN := HPN'.out k
          have hP1 := HP1'.out k
          have hP2 := HP2'.out k
          obtain ⟨q1, q2⟩ := HSQ.out k hlt
          have r1B := r1.base (b1 := w1.heap.size) (by omega)
          have hqq : ∀ W, RdS W w1.heap.size (rv s1 A1 n1 c1' B1 m1 d1) (c.R k) → RdQ W 400 (rv s1 A1 n1 c1' B1 m1 d1) (c.q k) := fun W hr => hr.rdq (L := 400) q1 q2
          have hsk := HSP'.out k hk
          obtain ⟨f, hf⟩ : ∃ f, f = c.f k := ⟨_, rfl⟩
          obtain ⟨tt, ht⟩ : ∃ tt, tt = c.t k := ⟨_, rfl⟩
          obtain ⟨q, hq⟩ : ∃ q, q = c.q k := ⟨_, rfl⟩
          rw [← hf] at mf g0 hfn hPN hP1 hP2 hft
          rw [← ht] at mt g1' htn hP1 hP2 hft
          rw [← hq] at hP1 hP2
          have HQQ : Hid (∀ W, RdS W w1.heap.size (rv s1 A1 n1 c1' B1 m1 d1) (c.R k) → RdQ W 400 (rv s1 A1 n1 c1' B1 m1 d1) q) := by rw [hq]; exact hqq
          clear hf ht hq q1 q2 hqq
          have hfN : f < c.nd := hfn
          have htN : tt < c.nd := htn
          have hki : (k : Int) < (c.nm : Int) := by omega
          have hk0 : (0 : Int) ≤ (k : Int) := by omega
          have hfi : (f : Int) < (c.nd : Int) := by omega
          have hf0 : (0 : Int) ≤ (f : Int) := by omega
          have hti : (tt : Int) < (c.nd : Int) := by omega
          have ht0 : (0 : Int) ≤ (tt : Int) := by omega
          have hgw : g1 < wr.heap.size := by omega
          have hggw : g < wr.heap.size := by omega
          have HG := Lib.hid hG
          have HO := Lib.hid own
          have HY := Lib.hid oy
          clear own hG oy
          (have obc := fun o i => below_at ((Below.refl wr.heap.size wr).alloc (Nat.le_refl _) o) (g1) i (by omega)); (have obf := fun o i => below_fr ((Below.refl wr.heap.size wr).alloc (Nat.le_refl _) o) (g1) i (by omega))
          have hal : Below wr.heap.size wr (wr.alloc (.cells #[.int .i64 (f : Int), .int .i64 (tt : Int), .bool s1, .slice A1 n1 c1', .slice B1 m1 d1] 65)) := (Below.refl _ _).alloc (Nat.le_refl _) _
          have HAL := Lib.hid hal
          clear hal
          cases hA : LV f
          · rw [hA] at mf
            have HE := Lib.hid (hPN hA)
            clear hA hPN hP1 hP2 r1B r1
            go_wp2
            go_roundw
            case rel => exact ⟨k + 1, by omega, by go_num, by rw [HE.out]; exact HO.out.below HAL.out, HY.out.below HAL.out, grown_belowR HG.out (HAL.out.mono (by omega))⟩
            case measure => simp [intOf]; omega
          · rw [hA] at mf
            have hP1' := hP1 hA
            have hP2' := hP2 hA
            clear hPN hP1 hP2
            go_wp2
            generalize hwq : wr.alloc (.cells #[.int .i64 (f : Int), .int .i64 (tt : Int), .bool s1, .slice A1 n1 c1', .slice B1 m1 d1] 65) = wq at *
            have hAL := HAL.out
            have z0 : wq.cell? ⟨wr.heap.size, 0, none⟩ = some (.int .i64 (f : Int)) := by rw [← hwq]; simp
            have z1 : wq.cell? ⟨wr.heap.size, 1, none⟩ = some (.int .i64 (tt : Int)) := by rw [← hwq]; simp
            have z2 : wq.cell? ⟨wr.heap.size, 2, none⟩ = some (.bool s1) := by rw [← hwq]; simp
            have z3 : wq.cell? ⟨wr.heap.size, 3, none⟩ = some (.slice A1 n1 c1') := by rw [← hwq]; simp
            have z4 : wq.cell? ⟨wr.heap.size, 4, none⟩ = some (.slice B1 m1 d1) := by rw [← hwq]; simp
            have hTq : TyB 65 wq wr.heap.size := by rw [← hwq]; exact TyB.new _ _
            have hwz : wq.heap.size = wr.heap.size + 1 := by rw [← hwq]; simp
            have mtq := (hAL.cell (p := ⟨g1, tt, none⟩) hgw).trans mt
            have r1q := r1B.kp (Kp.of_below hAL)
            have qr := HQQ.out _ r1q
            obtain ⟨A9, c9, hX'⟩ := HO.out.row f
            obtain ⟨gr, rfl⟩ := hX'.head hfN (by omega)
            have hgl3 := (hX'.own hfN).lt
            have hgb := (hX'.own hfN).block.1
            have hol := HO.out.lt
            have hne : gr ≠ w1.heap.size := hX'.ne hfN rfl
            have hX := hX'.below hAL
            have hcell : wq.cell? ⟨w1.heap.size, f, none⟩ = some (.slice (some ⟨gr, 0, none⟩) c.nd c9) := hX.cell hfN
            have hown : OwR wq w1.heap.size (some ⟨gr, 0, none⟩) c9 c.nd (can (FK k f)) := hX.own hfN
            obtain ⟨s0, A3, n3', c3', B3, m3, d3, o0, o1, o2, r0⟩ := hown.at_ hfN
            have qd := (show RdS wq _ _ (canR (FK k f f)) from r0).canQ (hsk f f)
            have KA := Lib.hid (fun W (hb : Below wq.heap.size wq W) => raddQ (qd.below hb) (qr.below hb) (by omega) (by omega))
            have hfz := hown.frozen
            have HX := Lib.hid hX
            have HOn := Lib.hid hown
            have HAL2 := Lib.hid hAL
            have HR1 := Lib.hid r1q
            clear hX hX' hown r0 qd hAL HAL hwq mt g0 g1' g2' g3 g4 mf obc obf r1q r1B r1
            have ne1 : ¬ (w1.heap.size = gr) := fun e => hne e.symm
            have ne2 : ¬ (wr.heap.size = gr) := by omega
            have ne3 : ¬ (gr = wr.heap.size) := by omega
            have ne4 : ¬ (g1 = gr) := by omega
            rw [ld_later 50 (.tmp 74)]
            go_region_held3 (fun W => W.cell? ⟨w1.heap.size, f, none⟩ = some (.slice (some ⟨gr, 0, none⟩) c.nd c9) ∧ W.cell? ⟨wr.heap.size, 0, none⟩ = some (.int .i64 (f : Int)) ∧ W.cell? ⟨wr.heap.size, 2, none⟩ = some (.bool s1) ∧ W.cell? ⟨wr.heap.size, 3, none⟩ = some (.slice A1 n1 c1') ∧ W.cell? ⟨wr.heap.size, 4, none⟩ = some (.slice B1 m1 d1)) (go_keep)
              (first | ((go_at_call 45; (with_reducible refine (KA.out _ (by (skip); repeat' (first | (with_reducible exact Below.refl _ _) | (with_reducible assumption) | (with_reducible refine Below.alloc ?_ ?_ _) | (with_reducible refine Below.drew ?_) | (with_reducible refine below_drewN ?_ _) | (with_reducible refine Below.setCell ?_ ?_ _) | (with_reducible refine Below.trans ?_ (Below.mono (by with_reducible assumption) ?_)) | omega | (simp only [World.size_alloc, World.size_setCell, World.size_drew, size_drewN']; omega) | go_size))).mono ?_); rintro e w4 ⟨⟨v4, rfl, own4⟩, hb6⟩; have hb6z := Below.size hb6; (try simp only [World.size_alloc, World.size_setCell, World.size_drew] at hb6z); have hb6c0 := fun o => below_at hb6 (w1.heap.size) o (by first | omega | (simp only [World.size_alloc, World.size_setCell, World.size_drew]; omega)); have hb6f0 := fun o => below_fr hb6 (w1.heap.size) o (by first | omega | (simp only [World.size_alloc, World.size_setCell, World.size_drew]; omega)); have hb6l0 : w1.heap.size < (w4).heap.size := (by omega); have hb6c1 := fun o => below_at hb6 (gr) o (by first | omega | (simp only [World.size_alloc, World.size_setCell, World.size_drew]; omega)); have hb6f1 := fun o => below_fr hb6 (gr) o (by first | omega | (simp only [World.size_alloc, World.size_setCell, World.size_drew]; omega)); have hb6l1 : gr < (w4).heap.size := (by omega); have hb6c2 := fun o => below_at hb6 (wr.heap.size) o (by first | omega | (simp only [World.size_alloc, World.size_setCell, World.size_drew]; omega)); have hb6f2 := fun o => below_fr hb6 (wr.heap.size) o (by first | omega | (simp only [World.size_alloc, World.size_setCell, World.size_drew]; omega)); have hb6l2 : wr.heap.size < (w4).heap.size := (by omega); have hb6c3 := fun o => below_at hb6 (g1) o (by first | omega | (simp only [World.size_alloc, World.size_setCell, World.size_drew]; omega)); have hb6f3 := fun o => below_fr hb6 (g1) o (by first | omega | (simp only [World.size_alloc, World.size_setCell, World.size_drew]; omega)); have hb6l3 : g1 < (w4).heap.size := (by omega)); obtain ⟨s4, A5, n5, c5, B5, m5, d5, rfl⟩ := own4.form) | fail)
            all_goals
              have hb9 : Below wq.heap.size wq w4 := (by have z0 := Below.size hb6; (try simp only [World.size_alloc, World.size_setCell, World.size_drew, size_drewN'] at z0 ⊢; skip); repeat' (first | (with_reducible exact Below.refl _ _) | (with_reducible assumption) | (with_reducible refine Below.alloc ?_ ?_ _) | (with_reducible refine Below.drew ?_) | (with_reducible refine below_drewN ?_ _) | (with_reducible refine Below.setCell ?_ ?_ _) | (with_reducible refine Below.trans ?_ (Below.mono (by with_reducible assumption) ?_)) | omega | (simp only [World.size_alloc, World.size_setCell, World.size_drew, size_drewN']; omega) | go_size))
              have hst := (HOn.out.below hb9).set hfN (own4.rs (b0 := w1.heap.size))
              have hs := (HX.out.below hb9).same hfN hst.2 (f' := fun b => if b = f then FK k f f + q else FK k f b) (hst.1.congr fun b _ => by
                rw [upd_can]
                unfold can upd
                by_cases e : b = f
                · simp [e]
                · simp [e]) (by have := hb9.size; omega)
              have hcz : ∀ b o, b < wq.heap.size → b ≠ gr → (((w4.setCell ⟨gr, f * 3, none⟩ (.bool s4)).setCell ⟨gr, f * 3 + 1, none⟩ (.slice A5 n5 c5)).setCell ⟨gr, f * 3 + 2, none⟩ (.slice B5 m5 d5)).cell? ⟨b, o, none⟩ = wq.cell? ⟨b, o, none⟩ := fun b o h1 h2 => by
                rw [World.cell?_setCell_far _ _ _ _ (fun e => h2 e.symm), World.cell?_setCell_far _ _ _ _ (fun e => h2 e.symm), World.cell?_setCell_far _ _ _ _ (fun e => h2 e.symm)]
                exact hb9.cell (p := ⟨b, o, none⟩) h1
              have hbzz := (HAL2.out.mono (by omega : w1.heap.size ≤ wr.heap.size)).trans ((hb9.mono (by omega : w1.heap.size ≤ wq.heap.size)).trans hs.2.2)
              have hkp := (Kp.of_below HAL2.out).trans ((Kp.of_below hb9).trans (hs.2.1.low (by omega : B ≤ w1.heap.size)))
              have hgz := grown_belowR HG.out hbzz
              have hyz := HY.out.stay hbzz (by omega) hkp
              have hsz9 := hs.2.2.size
              have hmz := hs.1.mg
              have hrz := (HR1.out.kp (Kp.of_below hb9)).kp hs.2.1
              have hTz := (((hTq.below hb9 (by omega)).set gr (f * 3) (.bool s4)).set gr (f * 3 + 1) (.slice A5 n5 c5)).set gr (f * 3 + 2) (.slice B5 m5 d5)
              obtain ⟨wz, hwz2⟩ : ∃ wz, wz = (((w4.setCell ⟨gr, f * 3, none⟩ (.bool s4)).setCell ⟨gr, f * 3 + 1, none⟩ (.slice A5 n5 c5)).setCell ⟨gr, f * 3 + 2, none⟩ (.slice B5 m5 d5)) := ⟨_, rfl⟩
              rw [← hwz2] at hcz hgz hyz hmz hsz9 hrz hTz
              rw [← hwz2]
              have y0 := (hcz wr.heap.size 0 (by omega) (by omega)).trans z0
              have y1 := (hcz wr.heap.size 1 (by omega) (by omega)).trans z1
              have y2 := (hcz wr.heap.size 2 (by omega) (by omega)).trans z2
              have y3 := (hcz wr.heap.size 3 (by omega) (by omega)).trans z3
              have y4 := (hcz wr.heap.size 4 (by omega) (by omega)).trans z4
              have mtz := (hcz g1 tt (by omega) (by omega)).trans mtq
              have QZ := Lib.hid (HQQ.out _ hrz)
              have HMZ := Lib.hid hmz
              have HGZ := Lib.hid hgz
              have HYZ := Lib.hid hyz
              have HNR : Hid (∀ cur fz, wz.heap[wr.heap.size]? = some (.cells cur 50 fz) → False) := fun cur fz e => by
                obtain ⟨_, _, e2⟩ := hTz
                rw [e2] at e
                injection e with e
                injection e with _ e _
                exact absurd e (by decide)
              clear hTz hTq hwz2 hcz hbzz hkp hgz hyz hmz hrz z0 z1 z2 z3 z4 mtq hs hst hb9 hb6 own4 hcell o0 o1 o2 hfz HX HOn
              cases hT : LV tt
              · rw [hT] at mtz
                have HP1z := Lib.hid (hP1' hT)
                have HF := Lib.hid (HMZ.out.congr (len' := fun _ => c.nd) (M' := FK (k + 1)) (fun _ _ => rfl) (fun a b ha hb => by
                  rw [HP1z.out a b]
                  exact one_upd a b))
                clear hT hP1' hP2'
                go_wp2
                go_roundw
                case rel => exact ⟨k + 1, by omega, by go_num, HF.out, HYZ.out, HGZ.out⟩
                case measure => simp [intOf]; omega
              · rw [hT] at mtz
                have HP2z := Lib.hid (hP2' hT hft)
                clear hT hP1' hP2'
                cases back
                ·
                      obtain ⟨A9, c9, hX⟩ := HMZ.out.row f
                      obtain ⟨g2, rfl⟩ := hX.head hfN (by omega)
                      have hgl2 := (hX.own hfN).lt
                      have hgb2 := (hX.own hfN).block.1
                      have hol2 := HMZ.out.lt
                      have hne2 : g2 ≠ w1.heap.size := hX.ne hfN rfl
                      have hcell2 : wz.cell? ⟨w1.heap.size, f, none⟩ = some (.slice (some ⟨g2, 0, none⟩) c.nd c9) := hX.cell hfN
                      have hown2 : OwR wz w1.heap.size (some ⟨g2, 0, none⟩) c9 c.nd (can (upd (FK k) f (fun b => if b = f then FK k f f + q else FK k f b) f)) := hX.own hfN
                      obtain ⟨s0', A3', n3'', c3'', B3', m3', d3', o0', o1', o2', r0'⟩ := hown2.at_ htN
                      have hent : upd (FK k) f (fun b => if b = f then FK k f f + q else FK k f b) f tt = FK k f tt := by
                        unfold upd
                        by_cases e : f = f
                        · have : ¬ tt = f := by omega
                          rw [if_pos e, if_neg this, e]
                        · rw [if_neg e]
                      have r0c : RdS wz w1.heap.size (rv s0' A3' n3'' c3'' B3' m3' d3') (canR (upd (FK k) f (fun b => if b = f then FK k f f + q else FK k f b) f tt)) := r0'
                      rw [hent] at r0c
                      have qd2 := r0c.canQ (hsk f tt)
                      have KB := Lib.hid (fun W (hb : Below wz.heap.size wz W) => rsubQ (qd2.below hb) (QZ.out.below hb) (by omega) (by omega))
                      have hfz2 := hown2.frozen
                      have HX2 := Lib.hid hX
                      have HOn2 := Lib.hid hown2
                      have hgq : g2 ≠ wr.heap.size := by
                        intro e
                        obtain ⟨cur, h1⟩ := (hX.own hfN).block.2
                        rw [e] at h1
                        exact HNR.out _ _ h1
                      clear hX hown2 r0' r0c qd2
                      have nf1 : ¬ (w1.heap.size = g2) := fun e => hne2 e.symm
                      have nf2 : ¬ (wr.heap.size = g2) := fun e => hgq e.symm
                      go_wp2
                      rw [ld_later 50 (.tmp 121)]
                      go_region_held3 (fun W => W.cell? ⟨w1.heap.size, f, none⟩ = some (.slice (some ⟨g2, 0, none⟩) c.nd c9) ∧ W.cell? ⟨wr.heap.size, 0, none⟩ = some (.int .i64 (f : Int)) ∧ W.cell? ⟨wr.heap.size, 1, none⟩ = some (.int .i64 (tt : Int)) ∧ W.cell? ⟨wr.heap.size, 2, none⟩ = some (.bool s1) ∧ W.cell? ⟨wr.heap.size, 3, none⟩ = some (.slice A1 n1 c1') ∧ W.cell? ⟨wr.heap.size, 4, none⟩ = some (.slice B1 m1 d1)) (go_keep)
                        (first | ((go_at_call 73; (with_reducible refine (KB.out _ (by (skip); repeat' (first | (with_reducible exact Below.refl _ _) | (with_reducible assumption) | (with_reducible refine Below.alloc ?_ ?_ _) | (with_reducible refine Below.drew ?_) | (with_reducible refine below_drewN ?_ _) | (with_reducible refine Below.setCell ?_ ?_ _) | (with_reducible refine Below.trans ?_ (Below.mono (by with_reducible assumption) ?_)) | omega | (simp only [World.size_alloc, World.size_setCell, World.size_drew, size_drewN']; omega) | go_size))).mono ?_); rintro e w6 ⟨⟨v6, rfl, own6⟩, hb7⟩; have hb7z := Below.size hb7; (try simp only [World.size_alloc, World.size_setCell, World.size_drew] at hb7z); have hb7c0 := fun o => below_at hb7 (w1.heap.size) o (by first | omega | (simp only [World.size_alloc, World.size_setCell, World.size_drew]; omega)); have hb7f0 := fun o => below_fr hb7 (w1.heap.size) o (by first | omega | (simp only [World.size_alloc, World.size_setCell, World.size_drew]; omega)); have hb7l0 : w1.heap.size < (w6).heap.size := (by omega); have hb7c1 := fun o => below_at hb7 (g2) o (by first | omega | (simp only [World.size_alloc, World.size_setCell, World.size_drew]; omega)); have hb7f1 := fun o => below_fr hb7 (g2) o (by first | omega | (simp only [World.size_alloc, World.size_setCell, World.size_drew]; omega)); have hb7l1 : g2 < (w6).heap.size := (by omega); have hb7c2 := fun o => below_at hb7 (wr.heap.size) o (by first | omega | (simp only [World.size_alloc, World.size_setCell, World.size_drew]; omega)); have hb7f2 := fun o => below_fr hb7 (wr.heap.size) o (by first | omega | (simp only [World.size_alloc, World.size_setCell, World.size_drew]; omega)); have hb7l2 : wr.heap.size < (w6).heap.size := (by omega)); obtain ⟨s6, A7, n7, c7, B7, m7, d7, rfl⟩ := own6.form) | fail)
                      all_goals
                        have hb8 : Below wz.heap.size wz w6 := (by have z0 := Below.size hb7; (try simp only [World.size_alloc, World.size_setCell, World.size_drew, size_drewN'] at z0 ⊢; skip); repeat' (first | (with_reducible exact Below.refl _ _) | (with_reducible assumption) | (with_reducible refine Below.alloc ?_ ?_ _) | (with_reducible refine Below.drew ?_) | (with_reducible refine below_drewN ?_ _) | (with_reducible refine Below.setCell ?_ ?_ _) | (with_reducible refine Below.trans ?_ (Below.mono (by with_reducible assumption) ?_)) | omega | (simp only [World.size_alloc, World.size_setCell, World.size_drew, size_drewN']; omega) | go_size))
                        have hst := (HOn2.out.below hb8).set htN (own6.rs (b0 := w1.heap.size))
                        have hs := (HX2.out.below hb8).same hfN hst.2 (f' := fun b => if b = tt then FK k f tt - q else upd (FK k) f (fun b => if b = f then FK k f f + q else FK k f b) f b) (hst.1.congr fun b _ => by
                          rw [upd_can]
                          unfold can
                          rw [show upd (fun b => upd (FK k) f (fun b => if b = f then FK k f f + q else FK k f b) f b) tt (FK k f tt - q) b = if b = tt then FK k f tt - q else upd (FK k) f (fun b => if b = f then FK k f f + q else FK k f b) f b from rfl]) (by have := hb8.size; omega)
                        have HF := Lib.hid (hs.1.mg.congr (len' := fun _ => c.nd) (M' := FK (k + 1)) (fun _ _ => rfl) (fun a b ha hb => by
                          rw [HP2z.out a b, two_upd (by omega)]
                          simp only [if_true, if_false, Bool.false_eq_true]))
                        have hbz := (hb8.mono (by omega : w1.heap.size ≤ wz.heap.size)).trans hs.2.2
                        have HBF := Lib.hid (grown_belowR HGZ.out hbz)
                        have HYF := Lib.hid (HYZ.out.stay hbz (by omega) ((Kp.of_below hb8).trans (hs.2.1.low (by omega : B ≤ w1.heap.size))))
                        clear hs hst hbz
                        go_wp2
                        go_roundw
                        case rel => exact ⟨k + 1, by omega, by go_num, HF.out, HYF.out, HBF.out⟩
                        case measure => simp [intOf]; omega
                ·
                      obtain ⟨A9, c9, hX⟩ := HMZ.out.row tt
                      obtain ⟨g2, rfl⟩ := hX.head htN (by omega)
                      have hgl2 := (hX.own htN).lt
                      have hgb2 := (hX.own htN).block.1
                      have hol2 := HMZ.out.lt
                      have hne2 : g2 ≠ w1.heap.size := hX.ne htN rfl
                      have hcell2 : wz.cell? ⟨w1.heap.size, tt, none⟩ = some (.slice (some ⟨g2, 0, none⟩) c.nd c9) := hX.cell htN
                      have hown2 : OwR wz w1.heap.size (some ⟨g2, 0, none⟩) c9 c.nd (can (upd (FK k) f (fun b => if b = f then FK k f f + q else FK k f b) tt)) := hX.own htN
                      obtain ⟨s0', A3', n3'', c3'', B3', m3', d3', o0', o1', o2', r0'⟩ := hown2.at_ hfN
                      have hent : upd (FK k) f (fun b => if b = f then FK k f f + q else FK k f b) tt f = FK k tt f := by
                        unfold upd
                        by_cases e : tt = f
                        · have : ¬ f = f := by omega
                          rw [if_pos e, if_neg this, e]
                        · rw [if_neg e]
                      have r0c : RdS wz w1.heap.size (rv s0' A3' n3'' c3'' B3' m3' d3') (canR (upd (FK k) f (fun b => if b = f then FK k f f + q else FK k f b) tt f)) := r0'
                      rw [hent] at r0c
                      have qd2 := r0c.canQ (hsk tt f)
                      have KB := Lib.hid (fun W (hb : Below wz.heap.size wz W) => rsubQ (qd2.below hb) (QZ.out.below hb) (by omega) (by omega))
                      have hfz2 := hown2.frozen
                      have HX2 := Lib.hid hX
                      have HOn2 := Lib.hid hown2
                      have hgq : g2 ≠ wr.heap.size := by
                        intro e
                        obtain ⟨cur, h1⟩ := (hX.own htN).block.2
                        rw [e] at h1
                        exact HNR.out _ _ h1
                      clear hX hown2 r0' r0c qd2
                      have nf1 : ¬ (w1.heap.size = g2) := fun e => hne2 e.symm
                      have nf2 : ¬ (wr.heap.size = g2) := fun e => hgq e.symm
                      go_wp2
                      rw [ld_later 50 (.tmp 101)]
                      go_region_held3 (fun W => W.cell? ⟨w1.heap.size, tt, none⟩ = some (.slice (some ⟨g2, 0, none⟩) c.nd c9) ∧ W.cell? ⟨wr.heap.size, 0, none⟩ = some (.int .i64 (f : Int)) ∧ W.cell? ⟨wr.heap.size, 1, none⟩ = some (.int .i64 (tt : Int)) ∧ W.cell? ⟨wr.heap.size, 2, none⟩ = some (.bool s1) ∧ W.cell? ⟨wr.heap.size, 3, none⟩ = some (.slice A1 n1 c1') ∧ W.cell? ⟨wr.heap.size, 4, none⟩ = some (.slice B1 m1 d1)) (go_keep)
                        (first | ((go_at_call 73; (with_reducible refine (KB.out _ (by (skip); repeat' (first | (with_reducible exact Below.refl _ _) | (with_reducible assumption) | (with_reducible refine Below.alloc ?_ ?_ _) | (with_reducible refine Below.drew ?_) | (with_reducible refine below_drewN ?_ _) | (with_reducible refine Below.setCell ?_ ?_ _) | (with_reducible refine Below.trans ?_ (Below.mono (by with_reducible assumption) ?_)) | omega | (simp only [World.size_alloc, World.size_setCell, World.size_drew, size_drewN']; omega) | go_size))).mono ?_); rintro e w6 ⟨⟨v6, rfl, own6⟩, hb7⟩; have hb7z := Below.size hb7; (try simp only [World.size_alloc, World.size_setCell, World.size_drew] at hb7z); have hb7c0 := fun o => below_at hb7 (w1.heap.size) o (by first | omega | (simp only [World.size_alloc, World.size_setCell, World.size_drew]; omega)); have hb7f0 := fun o => below_fr hb7 (w1.heap.size) o (by first | omega | (simp only [World.size_alloc, World.size_setCell, World.size_drew]; omega)); have hb7l0 : w1.heap.size < (w6).heap.size := (by omega); have hb7c1 := fun o => below_at hb7 (g2) o (by first | omega | (simp only [World.size_alloc, World.size_setCell, World.size_drew]; omega)); have hb7f1 := fun o => below_fr hb7 (g2) o (by first | omega | (simp only [World.size_alloc, World.size_setCell, World.size_drew]; omega)); have hb7l1 : g2 < (w6).heap.size := (by omega); have hb7c2 := fun o => below_at hb7 (wr.heap.size) o (by first | omega | (simp only [World.size_alloc, World.size_setCell, World.size_drew]; omega)); have hb7f2 := fun o => below_fr hb7 (wr.heap.size) o (by first | omega | (simp only [World.size_alloc, World.size_setCell, World.size_drew]; omega)); have hb7l2 : wr.heap.size < (w6).heap.size := (by omega)); obtain ⟨s6, A7, n7, c7, B7, m7, d7, rfl⟩ := own6.form) | fail)
                      all_goals
                        have hb8 : Below wz.heap.size wz w6 := (by have z0 := Below.size hb7; (try simp only [World.size_alloc, World.size_setCell, World.size_drew, size_drewN'] at z0 ⊢; skip); repeat' (first | (with_reducible exact Below.refl _ _) | (with_reducible assumption) | (with_reducible refine Below.alloc ?_ ?_ _) | (with_reducible refine Below.drew ?_) | (with_reducible refine below_drewN ?_ _) | (with_reducible refine Below.setCell ?_ ?_ _) | (with_reducible refine Below.trans ?_ (Below.mono (by with_reducible assumption) ?_)) | omega | (simp only [World.size_alloc, World.size_setCell, World.size_drew, size_drewN']; omega) | go_size))
                        have hst := (HOn2.out.below hb8).set hfN (own6.rs (b0 := w1.heap.size))
                        have hs := (HX2.out.below hb8).same htN hst.2 (f' := fun b => if b = f then FK k tt f - q else upd (FK k) f (fun b => if b = f then FK k f f + q else FK k f b) tt b) (hst.1.congr fun b _ => by
                          rw [upd_can]
                          unfold can
                          rw [show upd (fun b => upd (FK k) f (fun b => if b = f then FK k f f + q else FK k f b) tt b) f (FK k tt f - q) b = if b = f then FK k tt f - q else upd (FK k) f (fun b => if b = f then FK k f f + q else FK k f b) tt b from rfl]) (by have := hb8.size; omega)
                        have HF := Lib.hid (hs.1.mg.congr (len' := fun _ => c.nd) (M' := FK (k + 1)) (fun _ _ => rfl) (fun a b ha hb => by
                          rw [HP2z.out a b, two_upd (by omega)]
                          simp only [if_true, if_false, Bool.false_eq_true]))
                        have hbz := (hb8.mono (by omega : w1.heap.size ≤ wz.heap.size)).trans hs.2.2
                        have HBF := Lib.hid (grown_belowR HGZ.out hbz)
                        have HYF := Lib.hid (HYZ.out.stay hbz (by omega) ((Kp.of_below hb8).trans (hs.2.1.low (by omega : B ≤ w1.heap.size))))
                        clear hs hst hbz
                        go_wp2
                        go_roundw
                        case rel => exact ⟨k + 1, by omega, by go_num, HF.out, HYF.out, HBF.out⟩
                        case measure => simp [intOf]; omega
        · have hkm : k = c.nm := by omega
          subst hkm
          have HM := Lib.hid ((MatG.mo own).mi (by omega : w1.heap.size ≤ wr.heap.size))
          have HR := Lib.hid ((oy.congr (U := can OL) fun s hs => by show canR _ = canR _; rw [HOE'.out s hs]).ri (by omega))
          have hbB := (HBW1.out.mono hB).trans (below_of_row hG (fun q hq => by injection hq with hq; omega) (by omega : B ≤ w1.heap.size))
          have HBB := Lib.hid hbB
          clear own oy hbB hG
          (go_wp2_with fail; (with_reducible refine (KS.out _ (some ⟨w1.heap.size, 0, none⟩) c.nd (some ⟨g, 0, none⟩) c.nd HM.out HR.out).mono ?_); rintro e w7 ⟨⟨A7, d7, rfl, r7⟩, hb7⟩; have hb7z := Below.size hb7; (try simp only [World.size_alloc, World.size_setCell, World.size_drew, size_drewN'] at hb7z))
          have HR7 := Lib.hid r7
          have HB7 := Lib.hid hb7
          clear r7 hb7
          go_wp2
          go_ret
          exact ⟨⟨A7, d7, rfl, HR7.out⟩, HBB.out.trans (HB7.out.mono (by omega))⟩
end Go.Proofs.YtomkdgcpmpbfhaaGreatDoor
