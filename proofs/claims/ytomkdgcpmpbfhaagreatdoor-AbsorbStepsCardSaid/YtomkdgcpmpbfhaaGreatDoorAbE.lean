/- Contracts of functions and lemmas, used by the proofs of the given statements. No condition beyond those that each lemma names. -/
import Derived.Test.YtomkdgcpmpbfhaaGreatDoorAbZ
namespace Go.Proofs.YtomkdgcpmpbfhaaGreatDoor
open Go.RowKit
set_option linter.unusedSimpArgs false
set_option linter.unusedVariables false
set_option maxRecDepth 20000
attribute [local irreducible] nv wp win plainB validR valR canR mvE chkM codeC spr sprN chg cnt cntB ixB kept sysK plB parM outK gj endK
/-! ## package absorb: Ends -/
theorem Chn.end01 (c : Chn) (s : Nat) : c.end0 s = 0 ∨ c.end0 s = 1 := by
  unfold Chn.end0 upd
  split
  · split
    · exact .inr rfl
    · exact .inl rfl
  · exact .inl rfl
set_option maxHeartbeats 16000000 in
theorem Ends_any {w : World} {AM AD : Option Addr} {cm cd : Nat} {c : Chn} (h : ChI w w.heap.size AM cm AD cd c) (hS : Small c) :
    Calls Tryz.prog 12 #[cv c.st c.sr AM c.nm cm AD c.nd cd] w fun e w' => AnsV errM (outN' c.codeA c.nd) c.ends c.codeA e w' ∧ Below w.heap.size w w' := by
  have hs := hS.sysS
  have K1 := Lib.hid (fun W (hb : Below w.heap.size w W) => solveA_any true (h.below hb) hs.ch hs.nd (fun ok => hs.sz ok true))
  have hx : c.sol true = c.visits := rfl
  by_cases h0 : c.codeA = 0
  · have ok := Chn.codeA_ok h0
    have HMV := Lib.hid (fun W hb k hk => h.mv_later (W := W) ok hb (k := k) hk)
    have HDN := Lib.hid (fun W hb s hs => h.dn_later (W := W) hb (s := s) hs)
    have HSQ := Lib.hid (fun k hk => (hs.ch.siz ok).raw k hk)
    have hnm := hs.ch.nm
    have hn1 := ok.lo
    have hn9 := hS.nd ok
    obtain ⟨M, hM⟩ : ∃ M, M = 220000100 := ⟨_, rfl⟩
    have hfz := hS.sol_fz h0 true
    rw [hx] at hfz
    have hek := fun k (hk : k ≤ c.nm) s => ((hfz.endK (F := c.f) (T := c.t) (B := fun k => c.lv (c.f k) && c.D (c.t k)) (hS.rts ok) c.end01 k hk).sz (by omega) s).more (show _ ≤ M by omega)
    have hpr := fun k (hk : k < c.nm) s => (hfz.prod (hS.rts ok) hk s).more (show _ ≤ M by omega)
    have hvs := fun s => (hfz.sz (by omega) s).more (show _ ≤ M by omega)
    have HE0 : Hid (∀ x, endK (fun k => c.lv (c.f k) && c.D (c.t k)) c.t x c.end0 0 = c.end0) := fun x => by unfold endK; rfl
    have HES : Hid (∀ x k, endK (fun k => c.lv (c.f k) && c.D (c.t k)) c.t x c.end0 (k + 1) = if c.lv (c.f k) && c.D (c.t k) then upd (endK (fun k => c.lv (c.f k) && c.D (c.t k)) c.t x c.end0 k) (c.t k) (endK (fun k => c.lv (c.f k) && c.D (c.t k)) c.t x c.end0 k (c.t k) + x k) else endK (fun k => c.lv (c.f k) && c.D (c.t k)) c.t x c.end0 k) := fun x k => by conv => lhs; unfold endK
    have hends : c.ends = endK (fun k => c.lv (c.f k) && c.D (c.t k)) c.t (fun k => c.q k * c.visits (c.f k)) c.end0 c.nm := rfl
    obtain ⟨VI, hVI⟩ : ∃ VI, VI = c.visits := ⟨_, rfl⟩
    obtain ⟨EK, hEK⟩ : ∃ EK : Nat → Nat → Rat, EK = fun k => endK (fun k => c.lv (c.f k) && c.D (c.t k)) c.t (fun k => c.q k * VI (c.f k)) c.end0 k := ⟨_, rfl⟩
    rw [← hVI] at hek hpr hvs hends hx
    have HEK : Hid (∀ k, k ≤ c.nm → ∀ s, Sz M (EK k s)) := fun k hk s => by rw [hEK]; exact hek k hk s
    have HPR := Lib.hid hpr
    have HVS := Lib.hid hvs
    have HE0' : Hid (EK 0 = c.end0) := by show EK 0 = c.end0; rw [hEK]; exact HE0.out _
    have HES' : Hid (∀ k, EK (k + 1) = if c.lv (c.f k) && c.D (c.t k) then upd (EK k) (c.t k) (EK k (c.t k) + c.q k * VI (c.f k)) else EK k) := fun k => by rw [hEK]; exact HES.out _ k
    have hen : c.ends = EK c.nm := by rw [hEK]; exact hends
    rw [hen]
    obtain ⟨sr, hsr⟩ : ∃ sr : Nat, c.sr = (sr : Int) := ⟨c.sr.toNat, by have := ok.s0; omega⟩
    have hsn : sr < c.nd := by have := ok.s1; omega
    have HEN : Hid (c.end0 = upd (fun _ => 0) sr (if c.D sr then 1 else 0)) := by show _ = _; unfold Chn.end0; rw [hsr]; rfl
    rw [hx] at K1
    obtain ⟨LV, hLV⟩ : ∃ LV, LV = c.lv := ⟨_, rfl⟩
    rw [← hLV] at K1 HES'
    rw [h0] at K1 ⊢
    have hm : outN' 0 c.nd = c.nd := by unfold outN'; rw [if_pos rfl]
    rw [hm]
    have hst := ok.st
    rw [hst, hsr] at K1
    rw [hst, hsr]
    have hML : 400 ≤ M ∧ M ≤ 1000000000 := by omega
    clear hM hfz hek hpr hvs HE0 HES hends hVI hEK hen hLV h0 hx ok hs hS hm h hst hsr
    have HPC := Lib.hid (fun W hb => par_cells (W := W) (w := w) (a := .int .i64 (c.nd : Int)) (b := .int .i64 (sr : Int)) (d := .slice AM c.nm cm) (e := .slice AD c.nd cd) (t := 25) hb)
    have HPB := Lib.hid (fun W hb => par_below (W := W) (w := w) (o := .cells #[.int .i64 (c.nd : Int), .int .i64 (sr : Int), .slice AM c.nm cm, .slice AD c.nd cd] 25) hb)
    have hW0z : (w.alloc (.cells #[.int .i64 (c.nd : Int), .int .i64 (sr : Int), .slice AM c.nm cm, .slice AD c.nd cd] 25)).heap.size = w.heap.size + 1 := by simp
    obtain ⟨bs, os, rfl, hbs, -⟩ := HDN.out w (Below.refl _ _) sr hsn
    have hd0 := fun W (hb : Below w.heap.size w W) s (hs : s < c.nd) => (by
      obtain ⟨bd, od, e, -, p⟩ := HDN.out W hb s hs
      cases e
      exact p : W.cell? ⟨bs, os + s, none⟩ = some (.bool (c.D s)))
    have HD := Lib.hid hd0
    clear hd0 HDN
    have hsi : (sr : Int) < (c.nd : Int) := by omega
    have hs0 : (0 : Int) ≤ (sr : Int) := by omega
    have K0 : Hid (∀ W : World, Calls Tryz.prog 28 #[.int .i64 1] W fun e w' => RetQ W.heap.size ((1 : Nat) : Rat) e w' ∧ Below W.heap.size W w') := fun W => ofQ 1 W (by omega)
    go_enter Tryz.func12, Tryz.ntmps12
    (go_wp2_with fail; (with_reducible refine (K1.out _ (by (skip); repeat' (first | (with_reducible exact Below.refl _ _) | (with_reducible assumption) | (with_reducible refine Below.alloc ?_ ?_ _) | (with_reducible refine Below.drew ?_) | (with_reducible refine below_drewN ?_ _) | (with_reducible refine Below.setCell ?_ ?_ _) | (with_reducible refine Below.trans ?_ (Below.mono (by with_reducible assumption) ?_)) | omega | (simp only [ZA, ZS, ZD, ZN]; omega) | go_size))).mono ?_); rintro e w1 ⟨hR, hb1⟩; have hb1z := Below.size hb1; (try simp only [ZA, ZS, ZD, ZN] at hb1z))
    obtain ⟨A1, m1, c1, A2, m2, c2, rfl, hm1, hm2, mk, hr⟩ := retSo_pass hR
    have hm0 : outN' 0 c.nd = c.nd := by unfold outN'; rw [if_pos rfl]
    rw [hm0] at hm1 hm2
    subst hm1 hm2
    rw [errM_0]
    have HB1 : Hid (Below (w.heap.size + 1) (w.alloc (.cells #[.int .i64 (c.nd : Int), .int .i64 (sr : Int), .slice AM c.nm cm, .slice (some ⟨bs, os, none⟩) c.nd cd] 25)) w1) := by show Below _ _ _; simpa using hb1
    have hz1 := HB1.out.size
    rw [hW0z] at hz1
    have HMK := Lib.hid mk
    have HV := Lib.hid hr
    clear hR mk hr hb1 hm0 hW0z
    generalize w.alloc (.cells #[.int .i64 (c.nd : Int), .int .i64 (sr : Int), .slice AM c.nm cm, .slice (some ⟨bs, os, none⟩) c.nd cd] 25) = W0 at *
    obtain ⟨y0, -, -, -⟩ := HPC.out _ HB1.out
    have hne1 : ¬ (w.heap.size = w1.heap.size) := by omega
    have hne2 : ¬ (w1.heap.size = w.heap.size) := by omega
    cases hDs : c.D sr
    ·
      go_wp2_with (first | (at_make; refine wpList_makeR rfl (.tmp 20) (.tmp 20) rfl w1.heap.size c.nd (c.nd : Int) (c.nd : Int) (by first | rfl | simp [Act.eval]) (by first | rfl | simp [Act.eval]) rfl rfl (by omega) (Nat.le_refl _) ?_; intro w2 own2 hb2; (obtain ⟨x0, x1, x2, x3⟩ := HPC.out _ (HB1.out.trans (hb2.mono (by omega)))); (have hd2 := HD.out _ (HPB.out _ (HB1.out.trans (hb2.mono (by omega)))) sr hsn); rw [hDs] at hd2) | fail)
      have hz2 := hb2.size
      have hgl2 := own2.lt
      have HOL : Hid (OwR w2 w1.heap.size (some ⟨w1.heap.size, 0, none⟩) c.nd c.nd (can (EK 0))) := own2.congr fun s hs => by
        rw [HE0'.out, HEN.out, hDs]
        unfold upd can
        by_cases e : s = sr
        · simp [e]
        · simp [e]
      have HBL := Lib.hid hb2
      clear own2 y0
      obtain ⟨wL, hwL⟩ : ∃ wL, wL = w2 := ⟨_, rfl⟩
      rw [← hwL] at HOL HBL ⊢
      clear hwL hd2 x0 x1 x2 x3
      clear hDs
      go_loopw [36] (fun i wr => ∃ k : Nat, k ≤ c.nm ∧ i = .int .i64 (k : Int) ∧ OwR wr w1.heap.size (some ⟨w1.heap.size, 0, none⟩) c.nd c.nd (can (EK k)) ∧ Below w1.heap.size w1 wr) (fun i _ => c.nm - (intOf i).toNat)
      case atStart => exact ⟨0, Nat.zero_le _, rfl, HOL.out, HBL.out⟩
      case round =>
        clear HOL HBL
        obtain ⟨k, hk, rfl, own, hb⟩ := hrel
        have hz := hb.size
        have hbW := HPB.out _ (HB1.out.trans (hb.mono (by omega)))
        by_cases hlt : k < c.nm
        · obtain ⟨bm, om, s1, A1', n1, c1', B1, m1, d1, rfl, hbm, g0, g1, g2, g3, g4, r1, hfn, htn, hft⟩ := HMV.out wr hbW k hlt
          obtain ⟨b1, ol, rfl, hbl, mf⟩ := (HMK.out).later hb hfn
          have md := HD.out wr hbW _ htn
          obtain ⟨-, -, -, x3⟩ := HPC.out _ (HB1.out.trans (hb.mono (by omega)))
          obtain ⟨bx, ox, s2, A2', n2, c2', B2, m2, d2, rfl, hbx, v0, v1, v2, rv2⟩ := HV.out.at_ hfn
          have vx0 := (hb.cell (lt_of_cell v0)).trans v0
          have vx1 := (hb.cell (lt_of_cell v1)).trans v1
          have vx2 := (hb.cell (lt_of_cell v2)).trans v2
          have rvr := rv2.kp (Kp.of_below hb)
          have hES := HES'.out k
          have hPR := HPR.out k hlt (c.f k)
          have hVS := HVS.out (c.f k)
          have hSE := HEK.out k hk (c.t k)
          obtain ⟨q1, q2⟩ := HSQ.out k hlt
          have hqv : valR (c.R k) = c.q k := rfl
          have qm := r1.rdq (L := M) (by omega) (by omega)
          rw [hqv] at qm
          have qv := rvr.canQ hVS
          obtain ⟨f, hf⟩ : ∃ f, f = c.f k := ⟨_, rfl⟩
          obtain ⟨tt, ht⟩ : ∃ tt, tt = c.t k := ⟨_, rfl⟩
          obtain ⟨q, hq⟩ : ∃ q, q = c.q k := ⟨_, rfl⟩
          rw [← hf] at g0 mf hfn hES hPR hft qv vx0 vx1 vx2
          rw [← ht] at g1 md htn hES hft hSE
          rw [← hq] at hES hPR qm
          clear hf ht hq hqv q1 q2 rvr rv2 v0 v1 v2 r1 hVS
          have hki : (k : Int) < (c.nm : Int) := by omega
          have hk0 : (0 : Int) ≤ (k : Int) := by omega
          have hfi : (f : Int) < (c.nd : Int) := by omega
          have hf0 : (0 : Int) ≤ (f : Int) := by omega
          have hti : (tt : Int) < (c.nd : Int) := by omega
          have ht0 : (0 : Int) ≤ (tt : Int) := by omega
          have hfN : f < c.nd := hfn
          have htN : tt < c.nd := htn
          have hol := own.lt
          have hbl2 : b1 < wr.heap.size := by omega
          have hbs2 : bs < wr.heap.size := by omega
          have hwr2 : w.heap.size < wr.heap.size := by omega
          have hbx2 : bx < wr.heap.size := by omega
          have HO := Lib.hid own
          have HB := Lib.hid hb
          clear own hb
          (have oac := fun o i => below_at ((Below.refl wr.heap.size wr).alloc (Nat.le_refl _) o) (w.heap.size) i (by omega)); (have oaf := fun o i => below_fr ((Below.refl wr.heap.size wr).alloc (Nat.le_refl _) o) (w.heap.size) i (by omega))
          (have obc := fun o i => below_at ((Below.refl wr.heap.size wr).alloc (Nat.le_refl _) o) (b1) i (by omega)); (have obf := fun o i => below_fr ((Below.refl wr.heap.size wr).alloc (Nat.le_refl _) o) (b1) i (by omega))
          (have occ := fun o i => below_at ((Below.refl wr.heap.size wr).alloc (Nat.le_refl _) o) (bs) i (by omega)); (have ocf := fun o i => below_fr ((Below.refl wr.heap.size wr).alloc (Nat.le_refl _) o) (bs) i (by omega))
          have hal : Below wr.heap.size wr (wr.alloc (.cells #[.int .i64 (f : Int), .int .i64 (tt : Int), .bool s1, .slice A1' n1 c1', .slice B1 m1 d1] 65)) := (Below.refl _ _).alloc (Nat.le_refl _) _
          have HAL := Lib.hid hal
          clear hal
          cases hA : LV f
          · rw [hA] at mf hES
            have HE := Lib.hid (hES.trans (by simp : _ = EK k))
            clear hA hES qm qv
            go_wp2
            go_roundw
            case rel => exact ⟨k + 1, by omega, by go_num, by rw [HE.out]; exact HO.out.below HAL.out, HB.out.trans (HAL.out.mono (by omega))⟩
            case measure => simp [intOf]; omega
          · cases hDt : c.D tt
            · rw [hA] at mf
              rw [hDt] at md
              rw [hA, hDt] at hES
              have HE := Lib.hid (hES.trans (by simp : _ = EK k))
              clear hA hDt hES qm qv
              go_wp2
              go_roundw
              case rel => exact ⟨k + 1, by omega, by go_num, by rw [HE.out]; exact HO.out.below HAL.out, HB.out.trans (HAL.out.mono (by omega))⟩
              case measure => simp [intOf]; omega
            · rw [hA] at mf
              rw [hDt] at md
              rw [hA, hDt] at hES
              have HE := Lib.hid (hES.trans (by simp : _ = upd (EK k) tt (EK k tt + q * VI f)))
              clear hA hDt hES
              go_wp2
              generalize hwq : wr.alloc (.cells #[.int .i64 (f : Int), .int .i64 (tt : Int), .bool s1, .slice A1' n1 c1', .slice B1 m1 d1] 65) = wq at *
              have hAL := HAL.out
              have z0 : wq.cell? ⟨wr.heap.size, 0, none⟩ = some (.int .i64 (f : Int)) := by rw [← hwq]; simp
              have z1 : wq.cell? ⟨wr.heap.size, 1, none⟩ = some (.int .i64 (tt : Int)) := by rw [← hwq]; simp
              have z2 : wq.cell? ⟨wr.heap.size, 2, none⟩ = some (.bool s1) := by rw [← hwq]; simp
              have z3 : wq.cell? ⟨wr.heap.size, 3, none⟩ = some (.slice A1' n1 c1') := by rw [← hwq]; simp
              have z4 : wq.cell? ⟨wr.heap.size, 4, none⟩ = some (.slice B1 m1 d1) := by rw [← hwq]; simp
              have hwz : wq.heap.size = wr.heap.size + 1 := by rw [← hwq]; simp
              have u0 := (hAL.cell (p := ⟨bx, ox + f * 3, none⟩) hbx2).trans vx0
              have u1 := (hAL.cell (p := ⟨bx, ox + f * 3 + 1, none⟩) hbx2).trans vx1
              have u2 := (hAL.cell (p := ⟨bx, ox + f * 3 + 2, none⟩) hbx2).trans vx2
              have qmq := qm.below hAL
              have qvq := qv.below hAL
              have hown := HO.out.below hAL
              obtain ⟨s0, A3, n3', c3', B3, m3, d3, o0, o1, o2, r0⟩ := hown.at_ htN
              have qd := (show RdS wq _ _ (canR (EK k tt)) from r0).canQ hSE
              have KM := Lib.hid (fun W (hb : Below wq.heap.size wq W) => mulQ (qmq.below hb) (qvq.below hb) (by omega) (by omega))
              have KA := Lib.hid (fun W base v1 (hb : Below wq.heap.size wq W) (hv : OwQ W base v1 (q * VI f)) => addQ (qd.below hb) (hv.rq hPR) (by omega) (by omega))
              have hfz := hown.frozen
              have HOn := Lib.hid hown
              have HAL2 := Lib.hid hAL
              clear hown r0 qd qmq qvq qm qv hAL HAL hwq vx0 vx1 vx2 g0 g1 g2 g3 g4 mf md x3 oac oaf obc obf occ ocf
              have ne1 : ¬ (wr.heap.size = w1.heap.size) := by omega
              have ne2 : ¬ (w1.heap.size = wr.heap.size) := by omega
              have ne3 : ¬ (bx = w1.heap.size) := by omega
              have ne4 : ¬ (w1.heap.size = bx) := by omega
              rw [ld_later 50 (.tmp 59)]
              go_region_held3 (fun W => W.cell? ⟨wr.heap.size, 0, none⟩ = some (.int .i64 (f : Int)) ∧ W.cell? ⟨wr.heap.size, 1, none⟩ = some (.int .i64 (tt : Int)) ∧ W.cell? ⟨wr.heap.size, 2, none⟩ = some (.bool s1) ∧ W.cell? ⟨wr.heap.size, 3, none⟩ = some (.slice A1' n1 c1') ∧ W.cell? ⟨wr.heap.size, 4, none⟩ = some (.slice B1 m1 d1) ∧ W.cell? ⟨bx, ox + f * 3, none⟩ = some (.bool s2) ∧ W.cell? ⟨bx, ox + f * 3 + 1, none⟩ = some (.slice A2' n2 c2') ∧ W.cell? ⟨bx, ox + f * 3 + 2, none⟩ = some (.slice B2 m2 d2)) (go_keep)
                (first | ((go_at_call 36; (with_reducible refine (KM.out _ (by (skip); repeat' (first | (with_reducible exact Below.refl _ _) | (with_reducible assumption) | (with_reducible refine Below.alloc ?_ ?_ _) | (with_reducible refine Below.drew ?_) | (with_reducible refine below_drewN ?_ _) | (with_reducible refine Below.setCell ?_ ?_ _) | (with_reducible refine Below.trans ?_ (Below.mono (by with_reducible assumption) ?_)) | omega | (simp only [ZA, ZS, ZD, ZN]; omega) | go_size))).mono ?_); rintro e w4 ⟨⟨v4, rfl, own4⟩, hb6⟩; have hb6z := Below.size hb6; (try simp only [ZA, ZS, ZD] at hb6z); have hb6c0 := fun o => below_at hb6 (w1.heap.size) o (by first | omega | (simp only [ZA, ZS, ZD]; omega)); have hb6f0 := fun o => below_fr hb6 (w1.heap.size) o (by first | omega | (simp only [ZA, ZS, ZD]; omega)); have hb6l0 : w1.heap.size < (w4).heap.size := (by omega); have hb6c1 := fun o => below_at hb6 (wr.heap.size) o (by first | omega | (simp only [ZA, ZS, ZD]; omega)); have hb6f1 := fun o => below_fr hb6 (wr.heap.size) o (by first | omega | (simp only [ZA, ZS, ZD]; omega)); have hb6l1 : wr.heap.size < (w4).heap.size := (by omega); have hb6c2 := fun o => below_at hb6 (bx) o (by first | omega | (simp only [ZA, ZS, ZD]; omega)); have hb6f2 := fun o => below_fr hb6 (bx) o (by first | omega | (simp only [ZA, ZS, ZD]; omega)); have hb6l2 : bx < (w4).heap.size := (by omega)); obtain ⟨s4, A5, n5, c5, B5, m5, d5, rfl⟩ := own4.form) | ((go_at_call 27; (with_reducible refine (KA.out _ _ _ (by have z0 := Below.size hb6; (try simp only [ZA, ZS, ZD, ZN] at z0 ⊢; skip); repeat' (first | (with_reducible exact Below.refl _ _) | (with_reducible assumption) | (with_reducible refine Below.alloc ?_ ?_ _) | (with_reducible refine Below.drew ?_) | (with_reducible refine below_drewN ?_ _) | (with_reducible refine Below.setCell ?_ ?_ _) | (with_reducible refine Below.trans ?_ (Below.mono (by with_reducible assumption) ?_)) | omega | (simp only [ZA, ZS, ZD, ZN]; omega) | go_size)) own4).mono ?_); rintro e w5 ⟨⟨v5, rfl, own5⟩, hb7⟩; have hb7z := Below.size hb7; (try simp only [ZA, ZS, ZD] at hb7z); have hb7c0 := fun o => below_at hb7 (w1.heap.size) o (by first | omega | (simp only [ZA, ZS, ZD]; omega)); have hb7f0 := fun o => below_fr hb7 (w1.heap.size) o (by first | omega | (simp only [ZA, ZS, ZD]; omega)); have hb7l0 : w1.heap.size < (w5).heap.size := (by omega); have hb7c1 := fun o => below_at hb7 (wr.heap.size) o (by first | omega | (simp only [ZA, ZS, ZD]; omega)); have hb7f1 := fun o => below_fr hb7 (wr.heap.size) o (by first | omega | (simp only [ZA, ZS, ZD]; omega)); have hb7l1 : wr.heap.size < (w5).heap.size := (by omega); have hb7c2 := fun o => below_at hb7 (bx) o (by first | omega | (simp only [ZA, ZS, ZD]; omega)); have hb7f2 := fun o => below_fr hb7 (bx) o (by first | omega | (simp only [ZA, ZS, ZD]; omega)); have hb7l2 : bx < (w5).heap.size := (by omega)); obtain ⟨s6, A7, n7, c7, B7, m7, d7, rfl⟩ := own5.form) | fail)
              all_goals
                have hb9 : Below wq.heap.size wq w5 := (by have z0 := Below.size hb6; have z1 := Below.size hb7; (try simp only [ZA, ZS, ZD, ZN] at z0 z1 ⊢; skip); repeat' (first | (with_reducible exact Below.refl _ _) | (with_reducible assumption) | (with_reducible refine Below.alloc ?_ ?_ _) | (with_reducible refine Below.drew ?_) | (with_reducible refine below_drewN ?_ _) | (with_reducible refine Below.setCell ?_ ?_ _) | (with_reducible refine Below.trans ?_ (Below.mono (by with_reducible assumption) ?_)) | omega | (simp only [ZA, ZS, ZD, ZN]; omega) | go_size))
                have hst := (HOn.out.below hb9).set htN (own5.rs (b0 := w1.heap.size))
                rw [upd_can, ← HE.out] at hst
                have HST := Lib.hid hst.1
                have hbz9 := (HB.out.trans (HAL2.out.mono (by omega))).trans ((hb9.mono (by omega)).trans (below_of_row hst.2 (fun q hq => by injection hq with hq; omega) (by have := hb9.size; omega)))
                have HBZ := Lib.hid hbz9
                clear hst hbz9 own4 own5 hb6 hb7 hb9
                go_wp2
                go_roundw
                case rel => exact ⟨k + 1, by omega, by go_num, HST.out, HBZ.out⟩
                case measure => simp [intOf]; omega
        · have hkm : k = c.nm := by omega
          subst hkm
          have HF := Lib.hid ((OwS.of_own own (b0 := wr.heap.size) (by omega)).ra)
          have HBW := Lib.hid hbW
          clear own hb hbW
          go_wp2
          go_ret2
          exact ⟨⟨_, _, rfl, HF.out⟩, HBW.out⟩
    ·
      go_wp2_with (first | (at_make; refine wpList_makeR rfl (.tmp 20) (.tmp 20) rfl w1.heap.size c.nd (c.nd : Int) (c.nd : Int) (by first | rfl | simp [Act.eval]) (by first | rfl | simp [Act.eval]) rfl rfl (by omega) (Nat.le_refl _) ?_; intro w2 own2 hb2; (obtain ⟨x0, x1, x2, x3⟩ := HPC.out _ (HB1.out.trans (hb2.mono (by omega)))); (have hd2 := HD.out _ (HPB.out _ (HB1.out.trans (hb2.mono (by omega)))) sr hsn); rw [hDs] at hd2) | fail)
      have hz2 := hb2.size
      have hgl2 := own2.lt
      obtain ⟨t0, t1, t2, t3, t4, t5, t6, o0, o1, o2, -⟩ := own2.at_ hsn
      have hfz2 := own2.frozen
      have HO2 := Lib.hid own2
      clear own2
      go_wp2
      go_region_held3 (fun W => W.cell? ⟨w.heap.size, 1, none⟩ = some (.int .i64 (sr : Int))) (go_keep)
        (first | ((go_at_call 28; (with_reducible refine (K0.out _).mono ?_); rintro e w3 ⟨⟨v3, rfl, own3⟩, hb3⟩; have hb3z := Below.size hb3; (try simp only [ZA, ZS, ZD] at hb3z); have hb3c0 := fun o => below_at hb3 (w.heap.size) o (by first | omega | (simp only [ZA, ZS, ZD]; omega)); have hb3f0 := fun o => below_fr hb3 (w.heap.size) o (by first | omega | (simp only [ZA, ZS, ZD]; omega)); have hb3l0 : w.heap.size < (w3).heap.size := (by omega); have hb3c1 := fun o => below_at hb3 (w1.heap.size) o (by first | omega | (simp only [ZA, ZS, ZD]; omega)); have hb3f1 := fun o => below_fr hb3 (w1.heap.size) o (by first | omega | (simp only [ZA, ZS, ZD]; omega)); have hb3l1 : w1.heap.size < (w3).heap.size := (by omega)); obtain ⟨s4, A4, n4, c4, B4, m4, d4, rfl⟩ := own3.form) | fail)
      have hb9 : Below w2.heap.size w2 w3 := (by have z0 := Below.size hb3; (try simp only [ZA, ZS, ZD, ZN] at z0 ⊢; skip); repeat' (first | (with_reducible exact Below.refl _ _) | (with_reducible assumption) | (with_reducible refine Below.alloc ?_ ?_ _) | (with_reducible refine Below.drew ?_) | (with_reducible refine below_drewN ?_ _) | (with_reducible refine Below.setCell ?_ ?_ _) | (with_reducible refine Below.trans ?_ (Below.mono (by with_reducible assumption) ?_)) | omega | (simp only [ZA, ZS, ZD, ZN]; omega) | go_size))
      have o4 := (HO2.out.below hb9).set hsn (own3.rs (b0 := w1.heap.size))
      have hb4 := (hb2.trans (hb9.mono hz2)).trans (below_of_row o4.2 (fun q hq => by injection hq with hq; omega) (by have := hb9.size; omega))
      have HOL : Hid (OwR (((w3.setCell ⟨w1.heap.size, sr * 3, none⟩ (.bool s4)).setCell ⟨w1.heap.size, sr * 3 + 1, none⟩ (.slice A4 n4 c4)).setCell ⟨w1.heap.size, sr * 3 + 2, none⟩ (.slice B4 m4 d4)) w1.heap.size (some ⟨w1.heap.size, 0, none⟩) c.nd c.nd (can (EK 0))) := o4.1.congr fun s hs => by
        rw [HE0'.out, HEN.out, hDs]
        unfold upd can
        by_cases e : s = sr
        · simp [e]
        · simp [e]
      have HBL := Lib.hid hb4
      obtain ⟨wL, hwL⟩ : ∃ wL, wL = (((w3.setCell ⟨w1.heap.size, sr * 3, none⟩ (.bool s4)).setCell ⟨w1.heap.size, sr * 3 + 1, none⟩ (.slice A4 n4 c4)).setCell ⟨w1.heap.size, sr * 3 + 2, none⟩ (.slice B4 m4 d4)) := ⟨_, rfl⟩
      rw [← hwL] at HOL HBL ⊢
      clear hwL o4 hb4 own3 hb3 hb9 hd2 o0 o1 o2 hfz2 x0 x1 x2 x3 y0
      obtain ⟨-, -, x2, -⟩ := HPC.out _ (HB1.out.trans (HBL.out.mono (by omega)))
      go_wp2
      clear hDs
      go_loopw [36] (fun i wr => ∃ k : Nat, k ≤ c.nm ∧ i = .int .i64 (k : Int) ∧ OwR wr w1.heap.size (some ⟨w1.heap.size, 0, none⟩) c.nd c.nd (can (EK k)) ∧ Below w1.heap.size w1 wr) (fun i _ => c.nm - (intOf i).toNat)
      case atStart => exact ⟨0, Nat.zero_le _, rfl, HOL.out, HBL.out⟩
      case round =>
        clear HOL HBL
        obtain ⟨k, hk, rfl, own, hb⟩ := hrel
        have hz := hb.size
        have hbW := HPB.out _ (HB1.out.trans (hb.mono (by omega)))
        by_cases hlt : k < c.nm
        · obtain ⟨bm, om, s1, A1', n1, c1', B1, m1, d1, rfl, hbm, g0, g1, g2, g3, g4, r1, hfn, htn, hft⟩ := HMV.out wr hbW k hlt
          obtain ⟨b1, ol, rfl, hbl, mf⟩ := (HMK.out).later hb hfn
          have md := HD.out wr hbW _ htn
          obtain ⟨-, -, -, x3⟩ := HPC.out _ (HB1.out.trans (hb.mono (by omega)))
          obtain ⟨bx, ox, s2, A2', n2, c2', B2, m2, d2, rfl, hbx, v0, v1, v2, rv2⟩ := HV.out.at_ hfn
          have vx0 := (hb.cell (lt_of_cell v0)).trans v0
          have vx1 := (hb.cell (lt_of_cell v1)).trans v1
          have vx2 := (hb.cell (lt_of_cell v2)).trans v2
          have rvr := rv2.kp (Kp.of_below hb)
          have hES := HES'.out k
          have hPR := HPR.out k hlt (c.f k)
          have hVS := HVS.out (c.f k)
          have hSE := HEK.out k hk (c.t k)
          obtain ⟨q1, q2⟩ := HSQ.out k hlt
          have hqv : valR (c.R k) = c.q k := rfl
          have qm := r1.rdq (L := M) (by omega) (by omega)
          rw [hqv] at qm
          have qv := rvr.canQ hVS
          obtain ⟨f, hf⟩ : ∃ f, f = c.f k := ⟨_, rfl⟩
          obtain ⟨tt, ht⟩ : ∃ tt, tt = c.t k := ⟨_, rfl⟩
          obtain ⟨q, hq⟩ : ∃ q, q = c.q k := ⟨_, rfl⟩
          rw [← hf] at g0 mf hfn hES hPR hft qv vx0 vx1 vx2
          rw [← ht] at g1 md htn hES hft hSE
          rw [← hq] at hES hPR qm
          clear hf ht hq hqv q1 q2 rvr rv2 v0 v1 v2 r1 hVS
          have hki : (k : Int) < (c.nm : Int) := by omega
          have hk0 : (0 : Int) ≤ (k : Int) := by omega
          have hfi : (f : Int) < (c.nd : Int) := by omega
          have hf0 : (0 : Int) ≤ (f : Int) := by omega
          have hti : (tt : Int) < (c.nd : Int) := by omega
          have ht0 : (0 : Int) ≤ (tt : Int) := by omega
          have hfN : f < c.nd := hfn
          have htN : tt < c.nd := htn
          have hol := own.lt
          have hbl2 : b1 < wr.heap.size := by omega
          have hbs2 : bs < wr.heap.size := by omega
          have hwr2 : w.heap.size < wr.heap.size := by omega
          have hbx2 : bx < wr.heap.size := by omega
          have HO := Lib.hid own
          have HB := Lib.hid hb
          clear own hb
          (have oac := fun o i => below_at ((Below.refl wr.heap.size wr).alloc (Nat.le_refl _) o) (w.heap.size) i (by omega)); (have oaf := fun o i => below_fr ((Below.refl wr.heap.size wr).alloc (Nat.le_refl _) o) (w.heap.size) i (by omega))
          (have obc := fun o i => below_at ((Below.refl wr.heap.size wr).alloc (Nat.le_refl _) o) (b1) i (by omega)); (have obf := fun o i => below_fr ((Below.refl wr.heap.size wr).alloc (Nat.le_refl _) o) (b1) i (by omega))
          (have occ := fun o i => below_at ((Below.refl wr.heap.size wr).alloc (Nat.le_refl _) o) (bs) i (by omega)); (have ocf := fun o i => below_fr ((Below.refl wr.heap.size wr).alloc (Nat.le_refl _) o) (bs) i (by omega))
          have hal : Below wr.heap.size wr (wr.alloc (.cells #[.int .i64 (f : Int), .int .i64 (tt : Int), .bool s1, .slice A1' n1 c1', .slice B1 m1 d1] 65)) := (Below.refl _ _).alloc (Nat.le_refl _) _
          have HAL := Lib.hid hal
          clear hal
          cases hA : LV f
          · rw [hA] at mf hES
            have HE := Lib.hid (hES.trans (by simp : _ = EK k))
            clear hA hES qm qv
            go_wp2
            go_roundw
            case rel => exact ⟨k + 1, by omega, by go_num, by rw [HE.out]; exact HO.out.below HAL.out, HB.out.trans (HAL.out.mono (by omega))⟩
            case measure => simp [intOf]; omega
          · cases hDt : c.D tt
            · rw [hA] at mf
              rw [hDt] at md
              rw [hA, hDt] at hES
              have HE := Lib.hid (hES.trans (by simp : _ = EK k))
              clear hA hDt hES qm qv
              go_wp2
              go_roundw
              case rel => exact ⟨k + 1, by omega, by go_num, by rw [HE.out]; exact HO.out.below HAL.out, HB.out.trans (HAL.out.mono (by omega))⟩
              case measure => simp [intOf]; omega
            · rw [hA] at mf
              rw [hDt] at md
              rw [hA, hDt] at hES
              have HE := Lib.hid (hES.trans (by simp : _ = upd (EK k) tt (EK k tt + q * VI f)))
              clear hA hDt hES
              go_wp2
              generalize hwq : wr.alloc (.cells #[.int .i64 (f : Int), .int .i64 (tt : Int), .bool s1, .slice A1' n1 c1', .slice B1 m1 d1] 65) = wq at *
              have hAL := HAL.out
              have z0 : wq.cell? ⟨wr.heap.size, 0, none⟩ = some (.int .i64 (f : Int)) := by rw [← hwq]; simp
              have z1 : wq.cell? ⟨wr.heap.size, 1, none⟩ = some (.int .i64 (tt : Int)) := by rw [← hwq]; simp
              have z2 : wq.cell? ⟨wr.heap.size, 2, none⟩ = some (.bool s1) := by rw [← hwq]; simp
              have z3 : wq.cell? ⟨wr.heap.size, 3, none⟩ = some (.slice A1' n1 c1') := by rw [← hwq]; simp
              have z4 : wq.cell? ⟨wr.heap.size, 4, none⟩ = some (.slice B1 m1 d1) := by rw [← hwq]; simp
              have hwz : wq.heap.size = wr.heap.size + 1 := by rw [← hwq]; simp
              have u0 := (hAL.cell (p := ⟨bx, ox + f * 3, none⟩) hbx2).trans vx0
              have u1 := (hAL.cell (p := ⟨bx, ox + f * 3 + 1, none⟩) hbx2).trans vx1
              have u2 := (hAL.cell (p := ⟨bx, ox + f * 3 + 2, none⟩) hbx2).trans vx2
              have qmq := qm.below hAL
              have qvq := qv.below hAL
              have hown := HO.out.below hAL
              obtain ⟨s0, A3, n3', c3', B3, m3, d3, o0, o1, o2, r0⟩ := hown.at_ htN
              have qd := (show RdS wq _ _ (canR (EK k tt)) from r0).canQ hSE
              have KM := Lib.hid (fun W (hb : Below wq.heap.size wq W) => mulQ (qmq.below hb) (qvq.below hb) (by omega) (by omega))
              have KA := Lib.hid (fun W base v1 (hb : Below wq.heap.size wq W) (hv : OwQ W base v1 (q * VI f)) => addQ (qd.below hb) (hv.rq hPR) (by omega) (by omega))
              have hfz := hown.frozen
              have HOn := Lib.hid hown
              have HAL2 := Lib.hid hAL
              clear hown r0 qd qmq qvq qm qv hAL HAL hwq vx0 vx1 vx2 g0 g1 g2 g3 g4 mf md x3 oac oaf obc obf occ ocf
              have ne1 : ¬ (wr.heap.size = w1.heap.size) := by omega
              have ne2 : ¬ (w1.heap.size = wr.heap.size) := by omega
              have ne3 : ¬ (bx = w1.heap.size) := by omega
              have ne4 : ¬ (w1.heap.size = bx) := by omega
              rw [ld_later 50 (.tmp 59)]
              go_region_held3 (fun W => W.cell? ⟨wr.heap.size, 0, none⟩ = some (.int .i64 (f : Int)) ∧ W.cell? ⟨wr.heap.size, 1, none⟩ = some (.int .i64 (tt : Int)) ∧ W.cell? ⟨wr.heap.size, 2, none⟩ = some (.bool s1) ∧ W.cell? ⟨wr.heap.size, 3, none⟩ = some (.slice A1' n1 c1') ∧ W.cell? ⟨wr.heap.size, 4, none⟩ = some (.slice B1 m1 d1) ∧ W.cell? ⟨bx, ox + f * 3, none⟩ = some (.bool s2) ∧ W.cell? ⟨bx, ox + f * 3 + 1, none⟩ = some (.slice A2' n2 c2') ∧ W.cell? ⟨bx, ox + f * 3 + 2, none⟩ = some (.slice B2 m2 d2)) (go_keep)
                (first | ((go_at_call 36; (with_reducible refine (KM.out _ (by (skip); repeat' (first | (with_reducible exact Below.refl _ _) | (with_reducible assumption) | (with_reducible refine Below.alloc ?_ ?_ _) | (with_reducible refine Below.drew ?_) | (with_reducible refine below_drewN ?_ _) | (with_reducible refine Below.setCell ?_ ?_ _) | (with_reducible refine Below.trans ?_ (Below.mono (by with_reducible assumption) ?_)) | omega | (simp only [ZA, ZS, ZD, ZN]; omega) | go_size))).mono ?_); rintro e w4 ⟨⟨v4, rfl, own4⟩, hb6⟩; have hb6z := Below.size hb6; (try simp only [ZA, ZS, ZD] at hb6z); have hb6c0 := fun o => below_at hb6 (w1.heap.size) o (by first | omega | (simp only [ZA, ZS, ZD]; omega)); have hb6f0 := fun o => below_fr hb6 (w1.heap.size) o (by first | omega | (simp only [ZA, ZS, ZD]; omega)); have hb6l0 : w1.heap.size < (w4).heap.size := (by omega); have hb6c1 := fun o => below_at hb6 (wr.heap.size) o (by first | omega | (simp only [ZA, ZS, ZD]; omega)); have hb6f1 := fun o => below_fr hb6 (wr.heap.size) o (by first | omega | (simp only [ZA, ZS, ZD]; omega)); have hb6l1 : wr.heap.size < (w4).heap.size := (by omega); have hb6c2 := fun o => below_at hb6 (bx) o (by first | omega | (simp only [ZA, ZS, ZD]; omega)); have hb6f2 := fun o => below_fr hb6 (bx) o (by first | omega | (simp only [ZA, ZS, ZD]; omega)); have hb6l2 : bx < (w4).heap.size := (by omega)); obtain ⟨s4, A5, n5, c5, B5, m5, d5, rfl⟩ := own4.form) | ((go_at_call 27; (with_reducible refine (KA.out _ _ _ (by have z0 := Below.size hb6; (try simp only [ZA, ZS, ZD, ZN] at z0 ⊢; skip); repeat' (first | (with_reducible exact Below.refl _ _) | (with_reducible assumption) | (with_reducible refine Below.alloc ?_ ?_ _) | (with_reducible refine Below.drew ?_) | (with_reducible refine below_drewN ?_ _) | (with_reducible refine Below.setCell ?_ ?_ _) | (with_reducible refine Below.trans ?_ (Below.mono (by with_reducible assumption) ?_)) | omega | (simp only [ZA, ZS, ZD, ZN]; omega) | go_size)) own4).mono ?_); rintro e w5 ⟨⟨v5, rfl, own5⟩, hb7⟩; have hb7z := Below.size hb7; (try simp only [ZA, ZS, ZD] at hb7z); have hb7c0 := fun o => below_at hb7 (w1.heap.size) o (by first | omega | (simp only [ZA, ZS, ZD]; omega)); have hb7f0 := fun o => below_fr hb7 (w1.heap.size) o (by first | omega | (simp only [ZA, ZS, ZD]; omega)); have hb7l0 : w1.heap.size < (w5).heap.size := (by omega); have hb7c1 := fun o => below_at hb7 (wr.heap.size) o (by first | omega | (simp only [ZA, ZS, ZD]; omega)); have hb7f1 := fun o => below_fr hb7 (wr.heap.size) o (by first | omega | (simp only [ZA, ZS, ZD]; omega)); have hb7l1 : wr.heap.size < (w5).heap.size := (by omega); have hb7c2 := fun o => below_at hb7 (bx) o (by first | omega | (simp only [ZA, ZS, ZD]; omega)); have hb7f2 := fun o => below_fr hb7 (bx) o (by first | omega | (simp only [ZA, ZS, ZD]; omega)); have hb7l2 : bx < (w5).heap.size := (by omega)); obtain ⟨s6, A7, n7, c7, B7, m7, d7, rfl⟩ := own5.form) | fail)
              all_goals
                have hb9 : Below wq.heap.size wq w5 := (by have z0 := Below.size hb6; have z1 := Below.size hb7; (try simp only [ZA, ZS, ZD, ZN] at z0 z1 ⊢; skip); repeat' (first | (with_reducible exact Below.refl _ _) | (with_reducible assumption) | (with_reducible refine Below.alloc ?_ ?_ _) | (with_reducible refine Below.drew ?_) | (with_reducible refine below_drewN ?_ _) | (with_reducible refine Below.setCell ?_ ?_ _) | (with_reducible refine Below.trans ?_ (Below.mono (by with_reducible assumption) ?_)) | omega | (simp only [ZA, ZS, ZD, ZN]; omega) | go_size))
                have hst := (HOn.out.below hb9).set htN (own5.rs (b0 := w1.heap.size))
                rw [upd_can, ← HE.out] at hst
                have HST := Lib.hid hst.1
                have hbz9 := (HB.out.trans (HAL2.out.mono (by omega))).trans ((hb9.mono (by omega)).trans (below_of_row hst.2 (fun q hq => by injection hq with hq; omega) (by have := hb9.size; omega)))
                have HBZ := Lib.hid hbz9
                clear hst hbz9 own4 own5 hb6 hb7 hb9
                go_wp2
                go_roundw
                case rel => exact ⟨k + 1, by omega, by go_num, HST.out, HBZ.out⟩
                case measure => simp [intOf]; omega
        · have hkm : k = c.nm := by omega
          subst hkm
          have HF := Lib.hid ((OwS.of_own own (b0 := wr.heap.size) (by omega)).ra)
          have HBW := Lib.hid hbW
          clear own hb hbW
          go_wp2
          go_ret2
          exact ⟨⟨_, _, rfl, HF.out⟩, HBW.out⟩
  · have HC := Lib.hid h0
    have hE := errM_n h0
    have HE := Lib.hid hE
    have hm : outN' c.codeA c.nd = 0 := by unfold outN'; rw [if_neg h0]
    have HM := Lib.hid hm
    clear hx
    obtain ⟨ca, hca⟩ : ∃ ca, ca = c.codeA := ⟨_, rfl⟩
    obtain ⟨VI, hVI⟩ : ∃ VI, VI = c.sol true := ⟨_, rfl⟩
    rw [← hca, ← hVI] at K1
    rw [← hca] at HC HE HM ⊢
    rw [HM.out]
    clear h0 hE hca h hs hS hm hVI
    go_enter Tryz.func12, Tryz.ntmps12
    (go_wp2_with fail; (with_reducible refine (K1.out _ (by (skip); repeat' (first | (with_reducible exact Below.refl _ _) | (with_reducible assumption) | (with_reducible refine Below.alloc ?_ ?_ _) | (with_reducible refine Below.drew ?_) | (with_reducible refine below_drewN ?_ _) | (with_reducible refine Below.setCell ?_ ?_ _) | (with_reducible refine Below.trans ?_ (Below.mono (by with_reducible assumption) ?_)) | omega | (simp only [ZA, ZS, ZD, ZN]; omega) | go_size))).mono ?_); rintro e w1 ⟨hR, hb1⟩; have hb1z := Below.size hb1; (try simp only [ZA, ZS, ZD, ZN] at hb1z))
    obtain ⟨A1, m1, c1, A2, m2, c2, rfl, -, -, -, -⟩ := retSo_pass hR
    clear hR
    rw [HE.out]
    go_wp2
    go_ret2
    exact ⟨⟨_, _, by rw [HE.out]; rfl, RowA.nil_ _ _ _ _⟩, (by have z0 := Below.size hb1; (try simp only [ZA, ZS, ZD, ZN] at z0 ⊢; skip); repeat' (first | (with_reducible exact Below.refl _ _) | (with_reducible assumption) | (with_reducible refine Below.alloc ?_ ?_ _) | (with_reducible refine Below.drew ?_) | (with_reducible refine below_drewN ?_ _) | (with_reducible refine Below.setCell ?_ ?_ _) | (with_reducible refine Below.trans ?_ (Below.mono (by with_reducible assumption) ?_)) | omega | (simp only [ZA, ZS, ZD, ZN]; omega) | go_size))⟩
end Go.Proofs.YtomkdgcpmpbfhaaGreatDoor
