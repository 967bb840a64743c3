/- Contracts of functions and lemmas, used by the proofs of the given statements. No condition beyond those that each lemma names. -/
import Derived.Test.YtmebdlilbnadgaaGreatDoorRws
import Derived.Test.YtmebdlilbnadgaaGreatDoorJLinY
namespace Go.Proofs.YtmebdlilbnadgaaGreatDoor
open Go.RowKit
set_option linter.unusedSimpArgs false
set_option linter.unusedVariables false
set_option maxRecDepth 20000
attribute [local irreducible] nv wp win plainB validR valR canR mvE chkM codeC spr sprN chg cnt cntB ixB kept adj rsF
theorem OwI.one (w : World) {b0 : Nat} (y : Nat) (hb : b0 ≤ w.heap.size) : OwI (w.alloc (.cells #[.int .i64 (y : Int)] 3)) b0 (some ⟨w.heap.size, 0, none⟩) 1 [y] :=
  ⟨rfl, .inr ⟨w.heap.size, 1, #[.int .i64 (y : Int)], rfl, hb, (by show (w.heap.push _)[_]? = _; simp), Nat.le_refl _, by decide, rfl, rfl⟩⟩
theorem OwI.cap {w : World} {b0 c : Nat} {A : Option Addr} {l : List Nat} (h : OwI w b0 A c l) : l.length ≤ c := by
  obtain ⟨A', c', e, h2⟩ := own_form h
  injection e with _ _ e3
  omega
theorem OwI.notB {w : World} {b0 b1 c c' n g : Nat} {A : Option Addr} {l : List Nat} {f : Nat → Bool} (h : OwI w b0 A c l) (hf : OwB w b1 (some ⟨g, 0, none⟩) c' n f) : some g ≠ (Value.slice A l.length c).ownBlock := fun e => by
  obtain ⟨_, cur, h1⟩ := own_blockT h g e.symm
  obtain ⟨_, cur2, h2⟩ := own_blockT hf g rfl
  rw [h1] at h2
  injection h2 with h2
  injection h2 with _ h2 _
  exact absurd h2 (by decide)
/-! ## package stationary: reach -/
set_option maxHeartbeats 16000000 in
theorem reach_any {w : World} {AM AD : Option Addr} {cm cd : Nat} {c : Chn} (h : ChI w w.heap.size AM cm AD cd c) (ok : c.Ok) (hnm : c.nm ≤ 1000) :
    Calls Tryz.prog 89 #[cv c.st c.sr AM c.nm cm AD c.nd cd] w fun e w' => (∃ A c', e = .returned (.slice A c.nd c') ∧ RwB w' w.heap.size A c' c.nd c.nd (rsF c.f c.t c.nm c.nd)) ∧ Below w.heap.size w w' := by
  have hn1 := ok.lo
  have hn2 := ok.hi
  have hst := ok.st
  have hT := Chn.lt_t ok
  have HMV := Lib.hid (fun W hb k hk => h.mv_later (W := W) ok hb (k := k) hk)
  have HA0 : Hid (adj c.f c.t 0 = fun _ => []) := adj_zero
  have HAU := Lib.hid (fun k => (adj_upd (F := c.f) (T := c.t) (k := k)))
  have HAL := Lib.hid (fun k i => (adj_le (F := c.f) (T := c.t) (k := k) (i := i)))
  have HAG := Lib.hid (fun i j (h : j < (adj c.f c.t c.nm i).length) => adj_get h)
  have HD0 := Lib.hid (fun i => (dfs_start (F := c.f) (T := c.t) (nm := c.nm) (n := c.nd) (i := i)))
  have HDP := Lib.hid (fun i seen st a (h : DfsI c.f c.t c.nm c.nd i seen (st ++ [a])) => dfs_pop h)
  have HDO := Lib.hid (fun i seen st a j k (h : DfsJ c.f c.t c.nm c.nd i seen st a j) hk hF hj ht => dfs_old (k := k) h hk hF hj ht)
  have HDN := Lib.hid (fun i seen st a j k (h : DfsJ c.f c.t c.nm c.nd i seen st a j) hk hF hj => dfs_new (k := k) hT h hk hF hj)
  have HDD := Lib.hid (fun i seen st a (h : DfsJ c.f c.t c.nm c.nd i seen st a (adj c.f c.t c.nm a).length) => dfs_done h)
  have HDE := Lib.hid (fun i seen (h : DfsI c.f c.t c.nm c.nd i seen []) => dfs_end h)
  have HDL := Lib.hid (fun i seen st a j (hi : i < c.nd) (h : DfsJ c.f c.t c.nm c.nd i seen st a j) => dfsJ_lt hT hi h)
  have HTL := Lib.hid hT
  have HCL := Lib.hid (fun l => cnt_le l c.nd)
  have HCS := Lib.hid (fun (l : Nat → Bool) t (h1 : l t = false) (ht : t < c.nd) => (cnt_lt (l := l) (m := upd l t true) (fun s hs => upd_true hs) h1 (by unfold upd; simp) ht))
  obtain ⟨AJ, hAJ⟩ : ∃ AJ, AJ = adj c.f c.t := ⟨_, rfl⟩
  rw [← hAJ] at HA0 HAU HAL HAG HDD
  obtain ⟨RS, hRS⟩ : ∃ RS, RS = rsF c.f c.t c.nm c.nd := ⟨_, rfl⟩
  rw [← hRS] at HDE ⊢
  obtain ⟨DI, hDI⟩ : ∃ DI, DI = DfsI c.f c.t c.nm c.nd := ⟨_, rfl⟩
  rw [← hDI] at HDE HDP HD0 HDD
  obtain ⟨DJ, hDJ⟩ : ∃ DJ, DJ = DfsJ c.f c.t c.nm c.nd := ⟨_, rfl⟩
  rw [← hDJ] at HDP HDO HDN HDD HDL
  obtain ⟨sr, hsr⟩ : ∃ sr, sr = c.sr := ⟨_, rfl⟩
  rw [← hsr, hst]
  clear hAJ hRS hDI hDJ h ok hT hsr hst
  have HPC := Lib.hid (fun W hb => par_cells (W := W) (w := w) (a := .int .i64 (c.nd : Int)) (b := .int .i64 sr) (d := .slice AM c.nm cm) (e := .slice AD c.nd cd) (t := 25) hb)
  have HPB := Lib.hid (fun W hb => par_below (W := W) (w := w) (o := .cells #[.int .i64 (c.nd : Int), .int .i64 sr, .slice AM c.nm cm, .slice AD c.nd cd] 25) hb)
  have hW0z : (w.alloc (.cells #[.int .i64 (c.nd : Int), .int .i64 sr, .slice AM c.nm cm, .slice AD c.nd cd] 25)).heap.size = w.heap.size + 1 := by simp
  have HW0 := Lib.hid (Below.refl (w.heap.size + 1) (w.alloc (.cells #[.int .i64 (c.nd : Int), .int .i64 sr, .slice AM c.nm cm, .slice AD c.nd cd] 25)))
  obtain ⟨x0, x1, x2, x3⟩ := HPC.out _ HW0.out
  go_enter Tryz.func89, Tryz.ntmps89
  go_wp2_with (first | (at_make; (refine wpList_makeN rfl (.tmp 14) (.tmp 14) rfl (w.heap.size + 1) c.nd (c.nd : Int) (by first | rfl | simp [Act.eval]) (by first | rfl | simp [Act.eval]) rfl (by omega) (by simp) ?_; intro w1 own1 hb1; (obtain ⟨y0, y1, y2, y3⟩ := HPC.out _ (HW0.out.trans (hb1.mono (by simp)))))) | fail)
  rw [hW0z] at own1 hb1
  have hz1 := hb1.size
  rw [hW0z] at hz1
  generalize w.alloc (.cells #[.int .i64 (c.nd : Int), .int .i64 sr, .slice AM c.nm cm, .slice AD c.nd cd] 25) = W0 at *
  go_loopw [19] (fun i wr => ∃ k : Nat, k ≤ c.nm ∧ i = .int .i64 (k : Int) ∧ RwN wr (w.heap.size + 1) (w.heap.size + 1) c.nd c.nd (AJ k) ∧ Below (w.heap.size + 1) W0 wr) (fun i _ => c.nm - (intOf i).toNat)
  case atStart => exact ⟨0, Nat.zero_le _, rfl, by rw [HA0.out]; exact own1, HW0.out.trans (hb1.mono (by omega))⟩
  case round =>
    obtain ⟨k, hk, rfl, own, hb⟩ := hrel
    have hz := hb.size
    by_cases hlt : k < c.nm
    · have hbW := HPB.out _ hb
      obtain ⟨bm, om, s1, A1, n1, c1, B1, m1, d1, rfl, hbm, g0, g1, g2, g3, g4, -, hfn, htn, hft⟩ := HMV.out wr hbW k hlt
      have hAU := HAU.out k
      have hAL := HAL.out k (c.f k)
      obtain ⟨f, hf⟩ : ∃ f, f = c.f k := ⟨_, rfl⟩
      obtain ⟨tt, ht⟩ : ∃ tt, tt = c.t k := ⟨_, rfl⟩
      rw [← hf] at g0 hfn hAU hAL
      rw [← ht] at g1 htn hAU
      have HAUk := Lib.hid hAU
      clear hf ht hft hAU
      have hki : (k : Int) < (c.nm : Int) := by omega
      have hk0 : (0 : Int) ≤ (k : Int) := by omega
      have hfi : (f : Int) < (c.nd : Int) := by omega
      have hf0 : (0 : Int) ≤ (f : Int) := by omega
      have hgw : w.heap.size + 1 < wr.heap.size := own.lt.2
      have HO := Lib.hid own
      have HB := Lib.hid hb
      clear own hb
      go_wp2
      obtain ⟨wq, hwq⟩ : ∃ wq, wq = wr.alloc (.cells #[.int .i64 (f : Int), .int .i64 (tt : Int), .bool s1, .slice A1 n1 c1, .slice B1 m1 d1] 33) := ⟨_, rfl⟩
      rw [← hwq]
      have hal : Below wr.heap.size wr wq := by rw [hwq]; exact (Below.refl _ _).alloc (Nat.le_refl _) _
      have q0 : wq.cell? ⟨wr.heap.size, 0, none⟩ = some (.int .i64 (f : Int)) := by rw [hwq]; simp
      have q1 : wq.cell? ⟨wr.heap.size, 1, none⟩ = some (.int .i64 (tt : Int)) := by rw [hwq]; simp
      have hwz : wq.heap.size = wr.heap.size + 1 := by rw [hwq]; simp
      obtain ⟨gx, Ai, ci, ex, -, -, hheadr, hrowr⟩ := HO.out.rwl.at_ hfn
      injection ex with ex
      injection ex with ex
      subst ex
      have hN1 : some (w.heap.size + 1) ≠ (Value.slice Ai (AJ k f).length ci).ownBlock := fun e => HO.out.ne (i := f) hrowr e.symm rfl
      have hN2 : some wr.heap.size ≠ (Value.slice Ai (AJ k f).length ci).ownBlock := fun e => by have := (World.ownsRow.lt hrowr _ e.symm).2; omega
      have hhead := (hal.cell (p := ⟨w.heap.size + 1, f, none⟩) hgw).trans hheadr
      have hfr0 := (hal.frozen (p := ⟨w.heap.size + 1, f, none⟩) hgw).trans (HO.out.frozen f)
      have HN1 := Lib.hid hN1
      have HN2 := Lib.hid hN2
      have HROW := Lib.hid hrowr
      have HAL1 := Lib.hid hal
      have HHR := Lib.hid hheadr
      clear hwq g0 g1 g2 g3 g4 hrowr hN1 hN2 hheadr
      have ne1 : ¬ (w.heap.size + 1 = wr.heap.size) := by omega
      have ne2 : ¬ (wr.heap.size = w.heap.size + 1) := by omega
      (have oqc := fun o i => below_at ((Below.refl wq.heap.size wq).alloc (Nat.le_refl _) o) (w.heap.size + 1) i (by omega)); (have oqf := fun o i => below_fr ((Below.refl wq.heap.size wq).alloc (Nat.le_refl _) o) (w.heap.size + 1) i (by omega))
      rw [ld_later 79 (.tmp 29)]
      go_region_held3 (fun W => W.cell? ⟨wr.heap.size, 0, none⟩ = some (.int .i64 (f : Int)) ∧ W.cell? ⟨wr.heap.size, 1, none⟩ = some (.int .i64 (tt : Int))) (go_keep)
        (first | (refine step_appI (by rfl) (.tmp 30) (.tmp 33) (by rfl) (w.heap.size + 1) Ai ci _ (AJ k f) (by rfl) (HROW.out.below (by (skip); repeat' (first | (with_reducible exact Below.refl _ _) | (with_reducible assumption) | (with_reducible refine Below.alloc ?_ ?_ _) | (with_reducible refine Below.drew ?_) | (with_reducible refine below_drewN ?_ _) | (with_reducible refine Below.setCell ?_ ?_ _) | (with_reducible refine Below.trans ?_ (Below.mono (by with_reducible assumption) ?_)) | omega | (simp only [ZA, ZS, ZD, ZN]; omega) | go_size))) (wr.heap.size + 1) tt (by rfl) (by rw [← hwz]; simp) (by omega) (by simp; omega) ?_; intro g5 c5 w5 own5 hgr5 hfr5 hlt5; (have hbX : Below wr.heap.size wr ((wq.alloc (.cells #[.int .i64 (tt : Int)] 3)).drew) := (by (skip); repeat' (first | (with_reducible exact Below.refl _ _) | (with_reducible assumption) | (with_reducible refine Below.alloc ?_ ?_ _) | (with_reducible refine Below.drew ?_) | (with_reducible refine below_drewN ?_ _) | (with_reducible refine Below.setCell ?_ ?_ _) | (with_reducible refine Below.trans ?_ (Below.mono (by with_reducible assumption) ?_)) | omega | (simp only [ZA, ZS, ZD, ZN]; omega) | go_size))); (have hbY : Below wq.heap.size wq ((wq.alloc (.cells #[.int .i64 (tt : Int)] 3)).drew) := (by (skip); repeat' (first | (with_reducible exact Below.refl _ _) | (with_reducible assumption) | (with_reducible refine Below.alloc ?_ ?_ _) | (with_reducible refine Below.drew ?_) | (with_reducible refine below_drewN ?_ _) | (with_reducible refine Below.setCell ?_ ?_ _) | (with_reducible refine Below.trans ?_ (Below.mono (by with_reducible assumption) ?_)) | omega | (simp only [ZA, ZS, ZD, ZN]; omega) | go_size))); (have hx6 := (hgr5.cell_far ⟨w.heap.size + 1, f, none⟩ (by simp; omega) HN1.out).trans ((hbX.cell (p := ⟨w.heap.size + 1, f, none⟩) hgw).trans HHR.out)); (have hy6 := (hgr5.frozen_far ⟨w.heap.size + 1, f, none⟩ (by simp; omega) HN1.out).trans ((hbX.frozen (p := ⟨w.heap.size + 1, f, none⟩) hgw).trans (HO.out.frozen f))); (have m0 := (hgr5.cell_far ⟨wr.heap.size, 0, none⟩ (by simp; omega) HN2.out).trans ((hbY.cell (p := ⟨wr.heap.size, 0, none⟩) (by show wr.heap.size < _; omega)).trans q0)); (have m1 := (hgr5.cell_far ⟨wr.heap.size, 1, none⟩ (by simp; omega) HN2.out).trans ((hbY.cell (p := ⟨wr.heap.size, 1, none⟩) (by show wr.heap.size < _; omega)).trans q1))) | fail)
      all_goals
        have hal2 := hbX
        have hp := (HO.out.below hal2).put hfn ((hal2.cell (p := ⟨w.heap.size + 1, f, none⟩) hgw).trans HHR.out) hgr5 rfl own5 hfr5 (by simp; omega)
        rw [← HAUk.out] at hp
        have HP := Lib.hid hp.1
        have HBp := Lib.hid ((HB.out.trans (hal2.mono (by omega))).trans hp.2)
        clear hp hal2
        go_wp2
        go_roundw
        case rel => exact ⟨k + 1, by omega, by go_num, HP.out, HBp.out⟩
        case measure => simp [intOf]; omega
    · have hkm : k = c.nm := by omega
      subst hkm
      have HO := Lib.hid own
      have HB := Lib.hid hb
      clear own hb own1 hb1 y0 y1 y2 y3 HAU HA0 HMV
      obtain ⟨wB, hwB⟩ : ∃ wB, wB = wr := ⟨_, rfl⟩
      rw [← hwB] at HO HB hz ⊢
      clear hwB
      have hgw : w.heap.size + 1 < wB.heap.size := HO.out.lt.2
      obtain ⟨y0, y1, y2, y3⟩ := HPC.out _ HB.out
      go_wp2
      go_loopw [39, 6] (fun i ss wr => ∃ (k : Nat) (A : Option Addr) (cp : Nat), k ≤ c.nd ∧ i = .int .i64 (k : Int) ∧ ss = .slice A k cp ∧ RwB wr wB.heap.size A cp k c.nd RS ∧ Below wB.heap.size wB wr) (fun i _ _ => c.nd - (intOf i).toNat)
      case atStart => exact ⟨0, none, 0, Nat.zero_le _, rfl, rfl, RwO.nil_ _ _ _, Below.refl _ _⟩
      case round =>
        clear y0 y1 y2 y3
        obtain ⟨i, A, cp, hi, rfl, rfl, own, hb⟩ := hrel
        have hwz := hb.size
        by_cases hlt : i < c.nd
        · have hii : (i : Int) < (c.nd : Int) := by omega
          have hi0 : (0 : Int) ≤ (i : Int) := by omega
          have HOB := Lib.hid own
          have HBB := Lib.hid hb
          clear own hb
          obtain ⟨y0, y1, y2, y3⟩ := HPC.out _ (HB.out.trans (HBB.out.mono (by omega)))
          go_wp2_with (first | (at_make; refine wpList_makeB rfl (.tmp 43) (.tmp 43) rfl wr.heap.size c.nd (c.nd : Int) (c.nd : Int) (by first | rfl | simp [Act.eval]) (by first | rfl | simp [Act.eval]) rfl rfl (by omega) (Nat.le_refl _) ?_; intro w5 own5 hb5; (have hz5 := (World.ownsRow.lt own5 _ rfl).2); (have z1 := own5.at_ hlt); (have fz1 := own5.frozen)) | fail)
          have st := own5.set i true
          have hd := HD0.out i
          have hw5 := hb5.size
          have hbS := hb5.trans (below_of_row st.2 (fun q hq => by injection hq with hq; omega) (by omega))
          have hSz : (w5.setCell ⟨wr.heap.size, i, none⟩ (.bool true)).heap.size = w5.heap.size := by simp
          have HSB := Lib.hid st.1
          have HBS := Lib.hid hbS
          have HDS := Lib.hid hd
          have hc1 := HCS.out (fun _ => false) i rfl hlt
          clear st hbS hd own5 hb5
          go_wp2
          obtain ⟨wo, hwo⟩ : ∃ wo, wo = wr := ⟨_, rfl⟩
          subst hwo
          go_loopw [9] (fun ss wr => ∃ (seen : Nat → Bool) (st : List Nat) (A' : Option Addr) (cp' n : Nat), ss = .slice A' n cp' ∧ n = st.length ∧ DI i seen st ∧ OwB wr wo.heap.size (some ⟨wo.heap.size, 0, none⟩) c.nd c.nd seen ∧ OwI wr wo.heap.size A' cp' st ∧ (c.nd - cnt seen c.nd) + n ≤ c.nd ∧ Below wo.heap.size wo wr) (fun ss wr => (c.nd - memC wr (.slice (some ⟨wo.heap.size, 0, none⟩) c.nd c.nd) c.nd) + lenV ss)
          case atStart => exact ⟨_, _, _, _, _, rfl, rfl, HDS.out, HSB.out.below ((Below.refl _ _).alloc (Nat.le_refl _) _), (by have h := OwI.one (w5.setCell ⟨wo.heap.size, i, none⟩ (.bool true)) (b0 := wo.heap.size) i (by simp; omega); rw [hSz] at h; exact h), by omega, HBS.out.alloc (by omega) _⟩
          case round =>
            clear hc1 HSB HBS HDS y0 y1 y2 y3 z1 fz1
            obtain ⟨seen, st, A', cp', n, rfl, hn, hD, oB, oL, hm, hb'⟩ := hrel
            have hwz' := hb'.size
            have hbB' := HBB.out.trans (hb'.mono hwz)
            rcases List.eq_nil_or_concat st with e | ⟨st', a, e⟩
            · subst e
              subst hn
              obtain rfl := HDE.out i seen hD
              have HOS := Lib.hid oB
              have HB' := Lib.hid hb'
              clear oB oL hb' hD
              go_wp2_with (first | (at_builtin; go_loud (refine wpList_appB rfl (.tmp 86) (.tmp 88) rfl c.nd RS (by first | rfl | simp [Act.eval]) ((HOB.out.below HB'.out).below ((Below.refl _ _).alloc (Nat.le_refl _) _)) wr.heap.size (by first | rfl | simp [Act.eval]) (some ⟨wo.heap.size, 0, none⟩) c.nd (by simp) ((show OwB wr wB.heap.size (some ⟨wo.heap.size, 0, none⟩) c.nd c.nd (RS i) from own_base HOS.out (by omega)).below ((Below.refl _ _).alloc (Nat.le_refl _) _)) (by omega) (by simp; omega) ?_; intro A7 c7 w7 own7 hb7 hz7)) | fail)
              go_roundw
              case rel => exact ⟨i + 1, A7, c7, by omega, by go_num, rfl, own7, ((HBB.out.trans (HB'.out.mono (by omega))).alloc (by omega) _).trans hb7⟩
              case measure => simp [intOf]; omega
            · have e2 : st = st' ++ [a] := by simpa using e
              subst e2
              obtain ⟨m, hmm⟩ : ∃ m, m = st'.length := ⟨_, rfl⟩
              have hnm2 : n = m + 1 := by rw [hn, List.length_append, hmm]; rfl
              have hn1' : (n : Int) - 1 = (m : Int) := by omega
              have hn2' : (0 : Int) < (n : Int) := by omega
              have hn3' : (m : Int) < (n : Int) := by omega
              have hcp := OwI.cap oL
              rw [← hn] at hcp
              have hn4' : (m : Int) ≤ (cp' : Int) := by omega
              have HNM := Lib.hid hnm2
              clear hn hnm2
              obtain ⟨g2, rfl, hg2⟩ := oL.at_ (k := m) (by rw [List.length_append, ← hmm]; simp)
              have hlast : (st' ++ [a])[m]'(by rw [List.length_append, ← hmm]; simp) = a := by subst hmm; simp
              rw [hlast] at hg2
              have hJ := HDP.out i seen st' a hD
              have han := HDL.out i seen st' a 0 hlt hJ
              have hbB := HBB.out.trans (hb'.mono hwz)
              obtain ⟨gx, Ai, ci, ex, hgx1, -, hhead, hrow⟩ := HO.out.rwl.at_ han
              injection ex with ex
              injection ex with ex
              subst ex
              have hhead1 := (hbB.cell (p := ⟨w.heap.size + 1, a, none⟩) hgw).trans hhead
              have hrow1 := hrow.below hbB
              have hLn := HAL.out c.nm a
              obtain ⟨ln, hln⟩ : ∃ ln, ln = (AJ c.nm a).length := ⟨_, rfl⟩
              rw [← hln] at hhead1 hLn
              have hAGa := HAG.out a
              have oT : OwI wr wo.heap.size (some ⟨g2, 0, none⟩) cp' st' := by
                have h := oL.take (k := m) (by rw [List.length_append, ← hmm]; simp)
                rwa [show (st' ++ [a]).take m = st' by rw [hmm, List.take_append_of_le_length (Nat.le_refl _), List.take_length]] at h
              have ham : (0 : Int) ≤ (m : Int) := by omega
              have HMM := Lib.hid hmm
              have HLN := Lib.hid hln
              clear hmm hln hlast
              have hai : (a : Int) < (c.nd : Int) := by omega
              have ha0 : (0 : Int) ≤ (a : Int) := by omega
              go_wp2
              have HRW := Lib.hid hrow
              have HOB3 := Lib.hid oB
              have HJ := Lib.hid hJ
              clear hhead hhead1 hrow hrow1 hD oL hJ hg2
              obtain ⟨wS, hwS⟩ : ∃ wS, wS = wr := ⟨_, rfl⟩
              subst hwS
              go_loopw [69, 9] (fun j ss wr => ∃ (k : Nat) (seen' : Nat → Bool) (st2 : List Nat) (A' : Option Addr) (c2 n2 : Nat), k ≤ ln ∧ j = .int .i64 (k : Int) ∧ ss = .slice A' n2 c2 ∧ n2 = st2.length ∧ DJ i seen' st2 a k ∧ OwB wr wo.heap.size (some ⟨wo.heap.size, 0, none⟩) c.nd c.nd seen' ∧ OwI wr wo.heap.size A' c2 st2 ∧ (c.nd - cnt seen' c.nd) + n2 + 1 ≤ (c.nd - cnt seen c.nd) + n ∧ Below wo.heap.size wo wr) (fun j _ _ => ln - (intOf j).toNat)
              case atStart => exact ⟨0, seen, st', some ⟨g2, 0, none⟩, cp', m, Nat.zero_le _, rfl, rfl, HMM.out, HJ.out, oB, oT, by have := HNM.out; omega, hb'⟩
              case round =>
                clear oB oT hb' HJ hbB hwz' hn1' hn2' hn3' hn4' ham
                obtain ⟨k, seen', st2, A2, c2, n2, hk, rfl, rfl, hn2, hJ2, oB2, oL2, hm2, hb2⟩ := hrel
                have hwz2 := hb2.size
                have hbB2 := HBB.out.trans (hb2.mono hwz)
                have HN2 := Lib.hid hn2
                clear hn2
                by_cases hkl : k < ln
                · have hkl' : k < (AJ c.nm a).length := by rw [← HLN.out]; exact hkl
                  obtain ⟨kk, hkk, hFk, hget, hcnt⟩ := hAGa k hkl'
                  obtain ⟨gr, eA, hcr⟩ := (HRW.out.below hbB2).at_ hkl'
                  subst eA
                  rw [hget] at hcr
                  have htn := HTL.out kk hkk
                  have hst := oB2.at_ htn
                  have hJo := HDO.out i seen' st2 a k kk hJ2 hkk hFk hcnt
                  have hJn := HDN.out i seen' st2 a k kk hJ2 hkk hFk hcnt
                  obtain ⟨tt, htt⟩ : ∃ tt, tt = c.t kk := ⟨_, rfl⟩
                  rw [← htt] at hcr htn hst hJo hJn
                  have hfz := oB2.frozen
                  have hki : (k : Int) < (ln : Int) := by omega
                  have hk0 : (0 : Int) ≤ (k : Int) := by omega
                  have hti : (tt : Int) < (c.nd : Int) := by omega
                  have ht0 : (0 : Int) ≤ (tt : Int) := by omega
                  clear hFk hget hcnt htt hJ2 hkl'
                  cases hs : seen' tt
                  · rw [hs] at hst
                    have hc3 := HCS.out seen' tt hs htn
                    have hc4 := HCL.out (upd seen' tt true)
                    have st := oB2.set tt true
                    have oL3 := oL2.kept_ st.2 (.inr fun e => oL2.notB oB2 e.symm)
                    have hbs := hb2.trans (below_of_row st.2 (fun q hq => by injection hq with hq; omega) (by omega))
                    have HSB := Lib.hid st.1
                    have HSL := Lib.hid oL3
                    have HSD := Lib.hid hbs
                    have HJN := Lib.hid hJn
                    clear hJo hJn st oL3 hbs oB2 oL2 hb2 hs
                    go_wp2_with (first | (at_builtin; refine wpList_appI1 rfl (.tmp 81) (.tmp 83) rfl wo.heap.size A2 c2 n2 st2 HN2.out.symm (by first | rfl | simp [Act.eval]) (HSL.out.below ((Below.refl _ _).alloc (Nat.le_refl _) _)) tt wr.heap.size (by first | rfl | simp [Act.eval]) (by rw [World.cell?_alloc_at _ _ _ _ (by simp)]; rfl) (by omega) (by first | omega | (simp; omega)) ?_; intro A5 c5 w5 own5 hbel5 hgr5) | fail)
                    go_roundw
                    case rel =>
                      have hal : Below (wr.setCell ⟨wo.heap.size, tt, none⟩ (.bool true)).heap.size (wr.setCell ⟨wo.heap.size, tt, none⟩ (.bool true)) ((wr.setCell ⟨wo.heap.size, tt, none⟩ (.bool true)).alloc (.cells #[.int .i64 (tt : Int)] 3)) := (Below.refl _ _).alloc (Nat.le_refl _) _
                      have hob := HSB.out.below hal
                      exact ⟨k + 1, upd seen' tt true, st2 ++ [tt], A5, c5, n2 + 1, by omega, by go_num, rfl, by rw [List.length_append, ← HN2.out]; rfl, HJN.out, OwB.kept_ hob hgr5 ((HSL.out.below hal).notB hob), own5, by omega, (HSD.out.alloc (by simp; omega) _).trans hbel5⟩
                    case measure => simp [intOf]; omega
                  · rw [hs] at hst
                    have HJO := Lib.hid (hJo hs)
                    have HSB := Lib.hid oB2
                    have HSL := Lib.hid oL2
                    have HSD := Lib.hid hb2
                    clear hJo hJn oB2 oL2 hb2 hs
                    go_wp2
                    go_roundw
                    case rel => exact ⟨k + 1, seen', st2, A2, c2, n2, by omega, by go_num, rfl, HN2.out, HJO.out, HSB.out, HSL.out, hm2, HSD.out⟩
                    case measure => simp [intOf]; omega
                · have hkn : k = ln := by omega
                  have hDI2 := HDD.out i seen' st2 a (by rw [← HLN.out, ← hkn]; exact hJ2)
                  subst hkn
                  have HD2 := Lib.hid hDI2
                  have HSB := Lib.hid oB2
                  have HSL := Lib.hid oL2
                  have HSD := Lib.hid hb2
                  clear hDI2 oB2 oL2 hb2 hJ2
                  go_wp2
                  go_roundw
                  case rel => exact ⟨seen', st2, A2, c2, n2, rfl, HN2.out, HD2.out, HSB.out, HSL.out, by omega, HSD.out⟩
                  case measure =>
                    have e1 := HSB.out.memC (by omega)
                    have e0 := HOB3.out.memC (by omega)
                    rw [e1, e0]
                    simp only [lenV]
                    omega
        · have hkn : i = c.nd := by omega
          subst hkn
          have HOB := Lib.hid own
          have HBB := Lib.hid hb
          clear own hb
          go_wp2
          go_ret
          exact ⟨⟨_, _, rfl, RwO.base HOB.out (by omega)⟩, HPB.out _ (HB.out.trans (HBB.out.mono (by omega)))⟩
end Go.Proofs.YtmebdlilbnadgaaGreatDoor
namespace Go.Proofs.YtmebdlilbnadgaaGreatDoor
open Go.RowKit
set_option linter.unusedSimpArgs false
set_option linter.unusedVariables false
set_option maxRecDepth 20000
attribute [local irreducible] nv wp win plainB validR valR canR mvE chkM codeC spr sprN chg cnt cntB ixB kept adj rsF clB clK
/-! ## package stationary: closed -/
/-- the states of closed class j -/
def Chn.clL (c : Chn) (j : Nat) : List Nat := kept (rsF c.f c.t c.nm c.nd (ixB (clB c.f c.t c.nm c.nd) c.nd j)) c.nd
set_option maxHeartbeats 16000000 in
theorem closed_any {w : World} {AM AD : Option Addr} {cm cd : Nat} {c : Chn} (h : ChI w w.heap.size AM cm AD cd c) (ok : c.Ok) (hnm : c.nm ≤ 1000) :
    Calls Tryz.prog 50 #[cv c.st c.sr AM c.nm cm AD c.nd cd] w fun e w' => (∃ A c', e = .returned (.slice A c.ncl c') ∧ RwL w' w.heap.size A c' c.ncl c.clL) ∧ Below w.heap.size w w' := by
  have hn1 := ok.lo
  have hn2 := ok.hi
  have K1 := Lib.hid (fun W (hb : Below w.heap.size w W) => reach_any (h.below hb) ok hnm)
  have HC0 : Hid (∀ i, clK c.f c.t c.nm c.nd i 0 = true) := fun i => clK_0
  have HCn : Hid (∀ i, clK c.f c.t c.nm c.nd i c.nd = clB c.f c.t c.nm c.nd i) := fun i => clK_n
  have HCno : Hid (∀ i k, rsF c.f c.t c.nm c.nd i k = false → clK c.f c.t c.nm c.nd i (k + 1) = clK c.f c.t c.nm c.nd i k) := fun i k h => clK_no h
  have HCy : Hid (∀ i k, rsF c.f c.t c.nm c.nd i k = true → clK c.f c.t c.nm c.nd i (k + 1) = (clK c.f c.t c.nm c.nd i k && (rsF c.f c.t c.nm c.nd k i && decide (i ≤ k)))) := fun i k h => clK_yes h
  have HLL : Hid (∀ i, i < c.nd → clB c.f c.t c.nm c.nd i = true → c.clL (cntB (clB c.f c.t c.nm c.nd) i) = kept (rsF c.f c.t c.nm c.nd i) c.nd) := fun i hi h => by unfold Chn.clL; rw [(ixB_cnt hi h).2]
  have HB0 : Hid (cntB (clB c.f c.t c.nm c.nd) 0 = 0) := cntB_zero
  have HBy := Lib.hid (fun k (h : clB c.f c.t c.nm c.nd k = true) => cntB_yes h)
  have HBn := Lib.hid (fun k (h : clB c.f c.t c.nm c.nd k = false) => cntB_no h)
  have HBl := Lib.hid (fun k => (cntB_le : cntB (clB c.f c.t c.nm c.nd) k ≤ k))
  have HK0 := Lib.hid (fun i => (by unfold kept; rfl : kept (rsF c.f c.t c.nm c.nd i) 0 = []))
  have HKY := Lib.hid (fun i k (h : rsF c.f c.t c.nm c.nd i k = true) => kept_yes h)
  have HKN := Lib.hid (fun i k (h : rsF c.f c.t c.nm c.nd i k = false) => kept_no h)
  have HKL := Lib.hid (fun i k => (by rw [kept_len]; exact cntB_le : (kept (rsF c.f c.t c.nm c.nd i) k).length ≤ k))
  obtain ⟨n9, hn9⟩ : ∃ n9, n9 = c.ncl := ⟨_, rfl⟩
  have HN9 : Hid (n9 = cntB (clB c.f c.t c.nm c.nd) c.nd) := hn9
  rw [← hn9]
  obtain ⟨LL, hLL⟩ : ∃ LL, LL = c.clL := ⟨_, rfl⟩
  rw [← hLL] at HLL ⊢
  obtain ⟨CK, hCK⟩ : ∃ CK, CK = clK c.f c.t c.nm c.nd := ⟨_, rfl⟩
  rw [← hCK] at HC0 HCn HCno HCy
  obtain ⟨CL, hCL⟩ : ∃ CL, CL = clB c.f c.t c.nm c.nd := ⟨_, rfl⟩
  rw [← hCL] at HCn HLL HB0 HBy HBn HBl HN9
  obtain ⟨RS, hRS⟩ : ∃ RS, RS = rsF c.f c.t c.nm c.nd := ⟨_, rfl⟩
  rw [← hRS] at HCno HCy HLL HK0 HKY HKN HKL K1
  have hst := ok.st
  rw [hst] at K1 ⊢
  clear hn9 hLL hCK hCL hRS h ok hst
  have HPB := Lib.hid (fun W hb => par_below (W := W) (w := w) (o := .cells #[.int .i64 (c.nd : Int), .int .i64 c.sr, .slice AM c.nm cm, .slice AD c.nd cd] 25) hb)
  have hW0z : (w.alloc (.cells #[.int .i64 (c.nd : Int), .int .i64 c.sr, .slice AM c.nm cm, .slice AD c.nd cd] 25)).heap.size = w.heap.size + 1 := by simp
  go_enter Tryz.func50, Tryz.ntmps50
  (go_wp2_with fail; (with_reducible refine (K1.out _ (by (skip); repeat' (first | (with_reducible exact Below.refl _ _) | (with_reducible assumption) | (with_reducible refine Below.alloc ?_ ?_ _) | (with_reducible refine Below.drew ?_) | (with_reducible refine below_drewN ?_ _) | (with_reducible refine Below.setCell ?_ ?_ _) | (with_reducible refine Below.trans ?_ (Below.mono (by with_reducible assumption) ?_)) | omega | (simp only [ZA, ZS, ZD, ZN]; omega) | go_size))).mono ?_); rintro e w1 ⟨⟨A1, c1, rfl, own1⟩, hb1⟩; have hb1z := Below.size hb1; (try simp only [ZA, ZS, ZD, ZN] at hb1z); have hb1c0 := fun o => below_at hb1 (w.heap.size) o (by first | omega | (simp only [ZA, ZS, ZD, ZN]; omega)); have hb1f0 := fun o => below_fr hb1 (w.heap.size) o (by first | omega | (simp only [ZA, ZS, ZD, ZN]; omega)))
  have hbw : Below w.heap.size w w1 := (by have z0 := Below.size hb1; (try simp only [ZA, ZS, ZD, ZN] at z0 ⊢; skip); repeat' (first | (with_reducible exact Below.refl _ _) | (with_reducible assumption) | (with_reducible refine Below.alloc ?_ ?_ _) | (with_reducible refine Below.drew ?_) | (with_reducible refine below_drewN ?_ _) | (with_reducible refine Below.setCell ?_ ?_ _) | (with_reducible refine Below.trans ?_ (Below.mono (by with_reducible assumption) ?_)) | omega | (simp only [ZA, ZS, ZD, ZN]; omega) | go_size))
  have hz1 := hbw.size
  rw [hW0z] at own1
  obtain ⟨gR, A9, c9, rfl, hgR, -, -, -⟩ := own1.at_ (i := 0) (by omega)
  have HOW := Lib.hid own1
  have HBW := Lib.hid hbw
  clear hb1 hb1c0 hb1f0 own1 hbw K1
  go_wp2
  go_loopw [15, 4] (fun i ss wr => ∃ (k : Nat) (A : Option Addr) (cp n : Nat), k ≤ c.nd ∧ i = .int .i64 (k : Int) ∧ ss = .slice A n cp ∧ n = cntB CL k ∧ RwL wr w1.heap.size A cp n LL ∧ Below w1.heap.size w1 wr) (fun i _ _ => c.nd - (intOf i).toNat)
  case atStart => exact ⟨0, none, 0, 0, Nat.zero_le _, rfl, rfl, by rw [HB0.out], RwO.nil_ _ _ _, Below.refl _ _⟩
  case round =>
    obtain ⟨i, A, cp, n, hi, rfl, rfl, hn, oL, hb⟩ := hrel
    have hz := hb.size
    by_cases hlt : i < c.nd
    · obtain ⟨_, Ai, ci, ex, -, -, hci, hri⟩ := HOW.out.at_ hlt
      injection ex with ex
      injection ex with ex
      subst ex
      obtain ⟨gi, rfl, -, hgi⟩ := hri.head (by omega)
      have hcell := (hb.cell (p := ⟨gR, i, none⟩) hgR).trans hci
      have hii : (i : Int) < (c.nd : Int) := by omega
      have hi0 : (0 : Int) ≤ (i : Int) := by omega
      have HN := Lib.hid hn
      have HOL := Lib.hid oL
      have HB := Lib.hid hb
      have HRI := Lib.hid hri
      obtain ⟨wo, hwo⟩ : ∃ wo, wo = wr := ⟨_, rfl⟩
      subst hwo
      clear hn oL hb hci hri
      go_wp2
      go_loopw [22, 8, 7] (fun j o ss wr => ∃ (k : Nat) (A2 : Option Addr) (c2 n2 : Nat), k ≤ c.nd ∧ j = .int .i64 (k : Int) ∧ o = .bool (CK i k) ∧ ss = .slice A2 n2 c2 ∧ n2 = (kept (RS i) k).length ∧ OwI wr wo.heap.size A2 c2 (kept (RS i) k) ∧ Below wo.heap.size wo wr) (fun j _ _ _ => c.nd - (intOf j).toNat)
      case atStart => exact ⟨0, none, 0, 0, Nat.zero_le _, rfl, by rw [HC0.out], rfl, by rw [HK0.out]; rfl, by rw [HK0.out]; exact OwI.nil_ _ _, Below.refl _ _⟩
      case round =>
        clear hcell
        obtain ⟨k, A2, c2, n2, hk, rfl, rfl, rfl, hn2, oI, hb2⟩ := hrel
        have hz2 := hb2.size
        have HN2 := Lib.hid hn2
        have HKLk := HKL.out i k
        rw [← hn2] at HKLk
        clear hn2
        have hbB := HB.out.trans (hb2.mono hz)
        by_cases hkl : k < c.nd
        · obtain ⟨_, Ak, ck, ex, -, -, hck, hrk⟩ := HOW.out.at_ hkl
          injection ex with ex
          injection ex with ex
          subst ex
          obtain ⟨gk, rfl, -, hgk⟩ := hrk.head (by omega)
          have hcell := (hbB.cell (p := ⟨gR, k, none⟩) hgR).trans hck
          have hik := (HRI.out.below hbB).at_ hkl
          have hki2 := (hrk.below hbB).at_ hlt
          have hki : (k : Int) < (c.nd : Int) := by omega
          have hk0 : (0 : Int) ≤ (k : Int) := by omega
          have HI := Lib.hid oI
          have HB2 := Lib.hid hb2
          clear hck hrk oI hb2
          cases hA : RS i k
          · rw [hA] at hik
            have HCE := Lib.hid (HCno.out i k hA)
            have HKE := Lib.hid (HKN.out i k hA)
            clear hA
            go_wp2
            go_roundw
            case rel => exact ⟨k + 1, A2, c2, n2, by omega, by go_num, by rw [HCE.out], rfl, by rw [HKE.out]; exact HN2.out, by rw [HKE.out]; exact HI.out, HB2.out⟩
            case measure => simp [intOf]; omega
          · rw [hA] at hik
            have hCE := HCy.out i k hA
            have HKE := Lib.hid (HKY.out i k hA)
            clear hA
            obtain ⟨b1, hb1⟩ : ∃ b1, b1 = CK i k := ⟨_, rfl⟩
            obtain ⟨b2, hb2⟩ : ∃ b2, b2 = RS k i := ⟨_, rfl⟩
            rw [← hb1, ← hb2] at hCE
            rw [← hb2] at hki2
            rw [← hb1]
            clear hb1 hb2
            by_cases hle : i ≤ k
            · rw [decide_eq_true hle] at hCE
              have e9 : decide ((i : Int) ≤ (k : Int)) = true := decide_eq_true (by omega)
              have HCE := Lib.hid hCE
              clear hCE
              cases b1 <;> cases b2
              all_goals
                go_wp2_with (first | (at_builtin; refine wpList_appI1 rfl (.tmp 44) (.tmp 46) rfl wo.heap.size A2 c2 n2 (kept (RS i) k) HN2.out.symm (by first | rfl | simp [Act.eval]) (HI.out.below ((Below.refl _ _).alloc (Nat.le_refl _) _)) k wr.heap.size (by first | rfl | simp [Act.eval]) (by rw [World.cell?_alloc_at _ _ _ _ (by simp)]; rfl) (by omega) (by first | omega | (simp; omega)) ?_; intro A5 c5 w5 own5 hbel5 hgr5) | fail)
                go_roundw
                case rel => exact ⟨k + 1, A5, c5, n2 + 1, by omega, by go_num, by rw [HCE.out]; rfl, rfl, by rw [HKE.out, List.length_append, ← HN2.out]; rfl, by rw [HKE.out]; exact own5, (HB2.out.alloc (by omega) _).trans hbel5⟩
                case measure => simp [intOf]; omega
            · rw [decide_eq_false hle] at hCE
              have e9 : decide ((i : Int) ≤ (k : Int)) = false := decide_eq_false (by omega)
              have HCE := Lib.hid hCE
              clear hCE
              cases b1 <;> cases b2
              all_goals
                go_wp2_with (first | (at_builtin; refine wpList_appI1 rfl (.tmp 44) (.tmp 46) rfl wo.heap.size A2 c2 n2 (kept (RS i) k) HN2.out.symm (by first | rfl | simp [Act.eval]) (HI.out.below ((Below.refl _ _).alloc (Nat.le_refl _) _)) k wr.heap.size (by first | rfl | simp [Act.eval]) (by rw [World.cell?_alloc_at _ _ _ _ (by simp)]; rfl) (by omega) (by first | omega | (simp; omega)) ?_; intro A5 c5 w5 own5 hbel5 hgr5) | fail)
                go_roundw
                case rel => exact ⟨k + 1, A5, c5, n2 + 1, by omega, by go_num, by rw [HCE.out]; rfl, rfl, by rw [HKE.out, List.length_append, ← HN2.out]; rfl, by rw [HKE.out]; exact own5, (HB2.out.alloc (by omega) _).trans hbel5⟩
                case measure => simp [intOf]; omega
        · have hkn : k = c.nd := by omega
          subst hkn
          have HI := Lib.hid oI
          have HB2 := Lib.hid hb2
          have HBL := HBl.out i
          rw [← HN.out] at HBL
          clear oI hb2
          have hCn := HCn.out i
          cases hA : CL i
          · rw [hA] at hCn
            have HE := Lib.hid (HBn.out i hA)
            clear hA
            rw [hCn]
            clear hCn
            go_wp2
            go_roundw
            case rel => exact ⟨i + 1, A, cp, n, by omega, by go_num, rfl, by rw [HE.out]; exact HN.out, HOL.out.below HB2.out, HB.out.trans (HB2.out.mono hz)⟩
            case measure => simp [intOf]; omega
          · rw [hA] at hCn
            have HE := Lib.hid (HBy.out i hA)
            have hLi := HLL.out i hlt hA
            rw [← HN.out] at hLi
            have HLI := Lib.hid hLi
            clear hA hLi
            rw [hCn]
            clear hCn
            go_wp2_with (first | (at_builtin; refine wpList_appL rfl (.tmp 50) (.tmp 52) rfl LL (by first | rfl | simp [Act.eval]) ((HOL.out.below HB2.out).below ((Below.refl _ _).alloc (Nat.le_refl _) _)) wr.heap.size (by first | rfl | simp [Act.eval]) A2 n2 c2 (by simp) (by rw [HLI.out]; exact HN2.out) (by rw [HLI.out]; exact (HI.out.base_ (by omega)).below ((Below.refl _ _).alloc (Nat.le_refl _) _)) (by omega) (by simp; omega) ?_; intro A7 c7 w7 own7 hb7 hz7) | fail)
            go_roundw
            case rel => exact ⟨i + 1, A7, c7, n + 1, by omega, by go_num, rfl, by rw [HE.out, ← HN.out], own7, ((HB.out.trans (HB2.out.mono hz)).alloc (by omega) _).trans hb7⟩
            case measure => simp [intOf]; omega
    · have hkn : i = c.nd := by omega
      subst hkn
      have hn9 : n = n9 := by rw [hn, HN9.out]
      subst hn9
      have HOL := Lib.hid oL
      have HB := Lib.hid hb
      clear hn oL hb
      go_wp2
      go_ret
      exact ⟨⟨_, _, rfl, RwO.base HOL.out (by omega)⟩, HBW.out.trans (HB.out.mono (by omega))⟩
end Go.Proofs.YtmebdlilbnadgaaGreatDoor
