/- Contracts of functions and lemmas, used by the proofs of the given statements. No condition beyond those that each lemma names. -/
import Derived.Test.YtoiopnmphbnjaaaGreatDoorJSumCl
import Derived.Test.YtoiopnmphbnjaaaGreatDoorJSumB
import Derived.Test.YtoiopnmphbnjaaaGreatDoorReaW
import Derived.Test.YtoiopnmphbnjaaaGreatDoorJBase
import Derived.Test.YtoiopnmphbnjaaaGreatDoorJRatK
import Derived.Test.YtoiopnmphbnjaaaGreatDoorRowB
import Derived.Test.YtoiopnmphbnjaaaGreatDoorJLinRow
import Derived.BigQuiet
namespace Go.Proofs.YtoiopnmphbnjaaaGreatDoor
open Go.RowKit
set_option linter.unusedSimpArgs false
set_option linter.unusedVariables false
set_option maxRecDepth 20000
attribute [local irreducible] nv wp win plainB validR valR canR mvE chkM codeC exK
/-! ## reference 49: Moves -/
set_option maxHeartbeats 16000000 in
theorem rmoves49_any {w : World} {AM AD : Option Addr} {cm cd u : Nat} {c : Chn} (h : ChI w w.heap.size AM cm AD cd c) (ok : c.Ok) (hn : c.nm ≤ 1000000) :
    Calls Tryz.prog 38 #[cv c.st c.sr AM c.nm cm AD c.nd cd, .int .i64 (u : Int)] w fun e w' => (∃ A cp, e = .returned (.slice A (c.mvs u c.nm).length cp) ∧ OwT w' w.heap.size A cp u (c.mvs u c.nm)) ∧ Below w.heap.size w w' := by
  have HLn := Lib.hid (c.mvs_len u)
  have HL0 : Hid (c.mvs u 0 = []) := rfl
  have HLS : Hid (∀ k, c.mvs u (k + 1) = if c.f k = u then c.mvs u k ++ [(c.t k, valR (c.R k))] else c.mvs u k) := fun k => rfl
  have HMV : Hid (∀ k, k < c.nm → c.F k = (c.f k : Int) ∧ c.T k = (c.t k : Int) ∧ canR (valR (c.R k)) = c.R k) := fun k hk => by
    have := ok.mv k hk
    refine ⟨?_, ?_, ?_⟩
    · unfold Chn.f; omega
    · unfold Chn.t; omega
    · refine canR_valR (h.ok9 hk) ?_
      cases e : validR (c.R k) with
      | true => rfl
      | false =>
        have h1 : 0 < valR (c.R k) := this.2.2.2.2.2.1
        exact absurd h1 (valR_no e)
  have HM := Lib.hid h.mv.1
  generalize c.mvs u = L at *
  generalize c.f = f at *
  generalize c.t = t at *
  clear ok h
  obtain ⟨st, sr, nm, F, T, R, nd, D⟩ := c
  simp only at *
  go_enter Tryz.func38, Tryz.ntmps38
  go_wp2_with fail
  have hbA : Below w.heap.size w (w.alloc (.cells #[.int .i64 st, .int .i64 sr, .slice AM nm cm, .slice AD nd cd] 32)) := (Below.refl _ _).alloc (Nat.le_refl _) _
  have hz2 : w.heap.size + 1 ≤ (w.alloc (.cells #[.int .i64 st, .int .i64 sr, .slice AM nm cm, .slice AD nd cd] 32)).heap.size := by simp
  generalize w.alloc (.cells #[.int .i64 st, .int .i64 sr, .slice AM nm cm, .slice AD nd cd] 32) = W0 at *
  go_loopw [5, 11] (fun vs i wr => ∃ (k : Nat) (A : Option Addr) (cp : Nat), k ≤ nm ∧ vs = .slice A (L k).length cp ∧ i = .int .i64 (k : Int) ∧ OwT wr w.heap.size A cp u (L k) ∧ Below w.heap.size w wr) (fun _ i _ => nm - (intOf i).toNat)
  case atStart => exact ⟨0, none, 0, Nat.zero_le _, by rw [HL0.out]; rfl, rfl, by rw [HL0.out]; exact OwT.nil_ _ _ _, hbA⟩
  case round =>
    obtain ⟨k, A, cp, hk, rfl, rfl, own, hb⟩ := hrel
    obtain ⟨wo, rfl⟩ : ∃ wo : World, wo = wr := ⟨_, rfl⟩
    have hwz := hb.size
    clear hbA hz2
    by_cases hlt : k < nm
    · obtain ⟨b, off, sg, A1, n1, c1, B1, m1, d1, rfl, hbb, f0, f1, f2, f3, f4, r0⟩ := HM.out.at_ hlt
      obtain ⟨hFk, hTk, hvk⟩ := HMV.out k hlt
      rw [hFk] at f0
      rw [hTk] at f1
      have hls := HLS.out k
      have hln := HLn.out k
      generalize f k = fk at *
      generalize t k = tk at *
      generalize R k = rk at *
      generalize hLk : L k = Lk at *
      have x0 := (hb.cell (lt_of_cell f0)).trans f0
      have x1 := (hb.cell (lt_of_cell f1)).trans f1
      have x2 := (hb.cell (lt_of_cell f2)).trans f2
      have x3 := (hb.cell (lt_of_cell f3)).trans f3
      have x4 := (hb.cell (lt_of_cell f4)).trans f4
      have r1 := r0.kp (Kp.of_below hb)
      rw [← hvk] at r1
      have hk0 : (0 : Int) ≤ (k : Int) := by omega
      have hki : (k : Int) < (nm : Int) := by omega
      obtain ⟨W, hW⟩ : ∃ W, W = wo.alloc (.cells #[.int .i64 (fk : Int), .int .i64 (tk : Int), .bool sg, .slice A1 n1 c1, .slice B1 m1 d1] 65) := ⟨_, rfl⟩
      have hbo2 : Below wo.heap.size wo W := by rw [hW]; exact (Below.refl _ _).alloc (Nat.le_refl _) _
      have hWz : W.heap.size = wo.heap.size + 1 := by rw [hW]; simp
      have ownW := own.below hbo2
      have r1W := r1.kp (Kp.of_below hbo2)
      have hbW : Below w.heap.size w W := hb.trans (hbo2.mono hwz)
      have HW := Lib.hid hW
      clear f0 f1 f2 f3 f4 r0 r1 hvk hW hFk hTk own hbo2 hb
      by_cases e : fk = u
      · subst e
        have e1 : ((fk : Int) == (fk : Int)) = true := by simp
        rw [if_pos rfl] at hls
        have HO := Lib.hid ownW
        have HR := Lib.hid r1W
        have HBW := Lib.hid hbW
        clear ownW r1W hbW
        go_wp2_with (first | (at_builtin; go_loud (rw [← HW.out]; refine wpList_appM1 rfl (.tmp 19) (.tmp 21) rfl w.heap.size A cp Lk.length (fun _ => (fk : Int)) (fun k => ((Lk.getD k (0, 0)).1 : Nat)) (fun k => canR (Lk.getD k (0, 0)).2) (by first | rfl | simp [Act.eval]) (HO.out.below ((Below.refl _ _).alloc (Nat.le_refl _) _)) (wo.heap.size + 1) (fk : Int) (tk : Int) sg A1 n1 c1 B1 m1 d1 (canR (valR rk)) (by first | rfl | simp [Act.eval]) (by rw [← hWz]; simp) (by rw [← hWz]; simp) (by rw [← hWz]; simp) (by rw [← hWz]; simp) (by rw [← hWz]; simp) (HR.out.kp ((Kp.refl _ _).alloc _)) (by omega) (by simp only [World.size_alloc]; omega) ?_; intro g6 c6 w6 own6 hg6 hfr6 hlt6)) | fail)
        have hA := HO.out.below ((Below.refl W.heap.size W).alloc (Nat.le_refl _) (.cells (cellM (fk : Int) (tk : Int) (rv sg A1 n1 c1 B1 m1 d1)).toArray 65))
        have hG := OwM.gr9 hA hg6 (B := w.heap.size) (by simp; omega) (Nat.le_refl _)
        have hbF : Below w.heap.size w w6 := HBW.out.trans ((((Below.refl W.heap.size W).alloc (Nat.le_refl _) _).mono (by omega)).trans hG)
        have HN := Lib.hid (OwT.snoc own6)
        clear own6 hg6 hA hG
        go_wp2_with fail
        go_roundw
        case rel => exact ⟨k + 1, some ⟨g6, 0, none⟩, c6, by omega, by rw [hls]; simp; done, by go_num, by rw [hls]; exact HN.out, hbF⟩
        case measure => simp [intOf]; omega
      · have e1 : ((fk : Int) == (u : Int)) = false := by (cases e9 : ((fk : Int) == (u : Int)) with | false => rfl | true => (have := eq_of_beq e9; omega))
        rw [if_neg e] at hls
        go_wp2_with fail
        rw [← HW.out]
        go_roundw
        case rel => exact ⟨k + 1, _, _, by omega, by rw [hls], by go_num, by rw [hls]; exact ownW, hbW⟩
        case measure => simp [intOf]; omega
    · obtain rfl : k = nm := by omega
      go_wp2_with fail
      go_ret
      exact ⟨⟨A, cp, rfl, own⟩, hb⟩
end Go.Proofs.YtoiopnmphbnjaaaGreatDoor
namespace Go.Proofs.YtoiopnmphbnjaaaGreatDoor
open Go.RowKit
set_option linter.unusedSimpArgs false
set_option linter.unusedVariables false
set_option maxRecDepth 20000
attribute [local irreducible] nv wp win plainB validR valR canR mvE chkM codeC
/-! ## reference 49: Reach -/
theorem spr_or (F T : Nat → Nat) (l : Nat → Bool) (k : Nat) : spr (fun _ => true) F T l (k + 1) = fun j => if j = T k then (spr (fun _ => true) F T l k (T k) || spr (fun _ => true) F T l k (F k)) else spr (fun _ => true) F T l k j := by
  funext j
  rw [spr]
  cases hf : spr (fun _ => true) F T l k (F k)
  · simp only [Bool.false_and, Bool.or_false]
    by_cases e : j = T k
    · rw [if_pos e, e]; rfl
    · rw [if_neg e]; rfl
  · simp only [Bool.true_and, Bool.or_true, if_true]
    rfl
attribute [local irreducible] spr sprN
/-- the states that are reached, as the rounds of the reference find them -/
def rch49 (c : Chn) (a : Nat) : Nat → Nat → Bool := sprN (fun _ => true) c.f c.t c.nm (upd (fun _ => false) a true)
theorem rch49_iff {c : Chn} (ok : c.Ok) {a : Nat} (i : Nat) : rch49 c a c.nd i = true ↔ Rch c a i := by
  have hT : ∀ j, j < c.nm → c.t j < c.nd := fun j hj => by
    have := ok.mv j hj
    have := ok.st
    unfold Chn.t; omega
  constructor
  · refine sprN_ind (P := fun i => Rch c a i) (fun k hk h _ => .step hk h) (fun s hs => ?_) c.nd i
    unfold upd at hs
    split at hs
    · rename_i e; rw [e]; exact .base
    · cases hs
  · intro h
    induction h with
    | base => exact sprN_grow (by unfold upd; rw [if_pos rfl]) c.nd
    | step hk _ ih => exact sprN_shut hT _ hk ih rfl
set_option maxHeartbeats 16000000 in
theorem rreach49_any {w : World} {AM AD : Option Addr} {cm cd a : Nat} {c : Chn} (h : ChI w w.heap.size AM cm AD cd c) (ok : c.Ok) (hnm : c.nm ≤ 1000000) (ha : a < c.nd) :
    Calls Tryz.prog 40 #[cv c.st c.sr AM c.nm cm AD c.nd cd, .int .i64 (a : Int)] w fun e w' => (∃ g, e = .returned (.slice (some ⟨g, 0, none⟩) c.nd c.nd) ∧ OwVb w' w.heap.size (some ⟨g, 0, none⟩) c.nd c.nd (rch49 c a c.nd)) ∧ Below w.heap.size w w' := by
  have HMV := Lib.hid (fun W hb k hk => h.mvLater (W := W) ok hb (k := k) hk)
  have hst := ok.st
  have hn1 := ok.lo
  have hn2 := ok.hi
  obtain ⟨sr, hsr⟩ : ∃ sr : Int, sr = c.sr := ⟨c.sr, rfl⟩
  obtain ⟨LN, hLN⟩ : ∃ LN : Nat → Nat → Bool, LN = rch49 c a := ⟨_, rfl⟩
  obtain ⟨SP, hSP⟩ : ∃ SP : (Nat → Bool) → Nat → Nat → Bool, SP = fun l k => spr (fun _ => true) c.f c.t l k := ⟨_, rfl⟩
  have H0 : Hid (LN 0 = fun j => if j = a then true else false) := by rw [hLN]; unfold rch49 sprN; rfl
  have HS' : Hid (∀ r, LN (r + 1) = SP (LN r) c.nm) := fun r => by rw [hSP, hLN]; unfold rch49; conv => lhs; unfold sprN
  have HP0' : Hid (∀ l, SP l 0 = l) := fun l => by rw [hSP]; unfold spr; rfl
  have HPK' : Hid (∀ l k, SP l (k + 1) = fun j => if j = c.t k then (SP l k (c.t k) || SP l k (c.f k)) else SP l k j) := fun l k => by
    rw [hSP]
    exact spr_or c.f c.t l k
  rw [hst, ← hsr, ← hLN]
  clear hSP hLN h ok hst hsr
  have hai : (a : Int) < (c.nd : Int) := by omega
  have ha0 : (0 : Int) ≤ (a : Int) := by omega
  have HPC := Lib.hid (fun W hb => pc4 (W := W) (w := w) (a := .int .i64 (c.nd : Int)) (b := .int .i64 sr) (d := .slice AM c.nm cm) (e := .slice AD c.nd cd) (t := 32) hb)
  have HPB := Lib.hid (fun W hb => pb4 (W := W) (w := w) (o := .cells #[.int .i64 (c.nd : Int), .int .i64 sr, .slice AM c.nm cm, .slice AD c.nd cd] 32) hb)
  go_enter Tryz.func40, Tryz.ntmps40
  go_wp2_with (first | (at_make; refine wpList_makeV rfl (.tmp 9) (.tmp 9) rfl (w.heap.size + 1) c.nd (c.nd : Int) (c.nd : Int) (by first | rfl | simp [Act.eval]) (by first | rfl | simp [Act.eval]) rfl rfl (by omega) (by simp) ?_; intro w1 own1 hb1; (have hb1' : Below (w.heap.size + 1) (w.alloc (.cells #[.int .i64 (c.nd : Int), .int .i64 sr, .slice AM c.nm cm, .slice AD c.nd cd] 32)) w1 := (by simpa using hb1)); (have hg0 := own1.at_ ha); (have hfz := own1.frozen); (simp only [World.size_alloc] at hg0 hfz); (obtain ⟨y0, -, -, -⟩ := HPC.out _ hb1')) | fail)
  have st := own1.set a true
  have e0 : (w.alloc (.cells #[.int .i64 (c.nd : Int), .int .i64 sr, .slice AM c.nm cm, .slice AD c.nd cd] 32)).heap.size = w.heap.size + 1 := by simp
  rw [e0] at st
  rw [← H0.out] at st
  have hb2 := hb1'.trans (below_of_row st.2 (fun q hq => by injection hq with hq; omega) (by have := hb1'.size; omega))
  have HST := Lib.hid st.1
  have HB2 := Lib.hid hb2
  clear st hb2 own1 hb1 e0
  generalize w.alloc (.cells #[.int .i64 (c.nd : Int), .int .i64 sr, .slice AM c.nm cm, .slice AD c.nd cd] 32) = W0 at *
  go_loopw [16] (fun i wr => ∃ r : Nat, r ≤ c.nd ∧ i = .int .i64 (r : Int) ∧ OwVb wr (w.heap.size + 1) (some ⟨w.heap.size + 1, 0, none⟩) c.nd c.nd (LN r) ∧ Below (w.heap.size + 1) W0 wr) (fun i _ => c.nd - (intOf i).toNat)
  case atStart => exact ⟨0, Nat.zero_le _, rfl, HST.out, HB2.out⟩
  case round =>
    obtain ⟨r, hr, rfl, own, hb⟩ := hrel
    clear y0 HB2 HST
    have HO := Lib.hid own
    clear own
    by_cases hrl : r < c.nd
    · obtain ⟨-, -, y2, -⟩ := HPC.out _ hb
      obtain ⟨wo, hwo⟩ : ∃ wo, wo = wr := ⟨_, rfl⟩
      subst hwo
      have hri : (r : Int) < (c.nd : Int) := by omega
      go_wp2_with fail
      go_loopw [21] (fun i wr => ∃ k : Nat, k ≤ c.nm ∧ i = .int .i64 (k : Int) ∧ OwVb wr (w.heap.size + 1) (some ⟨w.heap.size + 1, 0, none⟩) c.nd c.nd (SP (LN r) k) ∧ Below (w.heap.size + 1) W0 wr) (fun i _ => c.nm - (intOf i).toNat)
      case atStart => exact ⟨0, Nat.zero_le _, rfl, by rw [HP0'.out]; exact HO.out, hb⟩
      case round =>
        clear HO hb y2
        obtain ⟨k, hk, rfl, own, hb⟩ := hrel
        have hz := hb.size
        by_cases hlt : k < c.nm
        · obtain ⟨bm, om, s1, A1, n1, c1, B1, m1, d1, rfl, hbm, g0, g1, g2, g3, g4, -, hfn, htn, hft⟩ := HMV.out wr (HPB.out _ hb) k hlt
          have za := own.at_ hfn
          have zb := own.at_ htn
          have hfz := own.frozen
          have hgw : w.heap.size + 1 < wr.heap.size := by
            have := World.ownsRow.lt own (w.heap.size + 1) rfl
            exact this.2
          have HSK := HPK'.out (LN r) k
          obtain ⟨f, hf⟩ : ∃ f, f = c.f k := ⟨_, rfl⟩
          obtain ⟨tt, ht⟩ : ∃ tt, tt = c.t k := ⟨_, rfl⟩
          rw [← hf] at za g0 hfn HSK
          rw [← ht] at g1 htn HSK zb
          clear hf ht hft
          have hki : (k : Int) < (c.nm : Int) := by omega
          have hk0 : (0 : Int) ≤ (k : Int) := by omega
          have hfi : (f : Int) < (c.nd : Int) := by omega
          have hf0 : (0 : Int) ≤ (f : Int) := by omega
          have hti : (tt : Int) < (c.nd : Int) := by omega
          have ht0 : (0 : Int) ≤ (tt : Int) := by omega
          have HB := Lib.hid hb
          obtain ⟨wq, hwq⟩ : ∃ wq, wq = wr.alloc (.cells #[.int .i64 (f : Int), .int .i64 (tt : Int), .bool s1, .slice A1 n1 c1, .slice B1 m1 d1] 65) := ⟨_, rfl⟩
          have hAL : Below wr.heap.size wr wq := by rw [hwq]; exact (Below.refl _ _).alloc (Nat.le_refl _) _
          have q0 : wq.cell? ⟨wr.heap.size, 0, none⟩ = some (.int .i64 (f : Int)) := by rw [hwq]; simp
          have q1 : wq.cell? ⟨wr.heap.size, 1, none⟩ = some (.int .i64 (tt : Int)) := by rw [hwq]; simp
          have qa := (below_at hAL (w.heap.size + 1) f hgw).trans za
          have qb := (below_at hAL (w.heap.size + 1) tt hgw).trans zb
          have qf := fun j => (below_fr hAL (w.heap.size + 1) j hgw).trans (hfz j)
          have HWQ := Lib.hid hwq
          have HFN : Hid (∀ (b : Bool), (SP (LN r) k tt || SP (LN r) k f) = b → OwVb (wq.setCell ⟨w.heap.size + 1, tt, none⟩ (.bool b)).drew (w.heap.size + 1) (some ⟨w.heap.size + 1, 0, none⟩) c.nd c.nd (SP (LN r) (k + 1)) ∧ Below (w.heap.size + 1) W0 (wq.drew.setCell ⟨w.heap.size + 1, tt, none⟩ (.bool b))) := fun b hbb => by
            have s := (own.below hAL).set tt b
            refine ⟨?_, ((HB.out.trans (hAL.mono (by omega))).trans (below_of_row s.2 (fun q hq => by injection hq with hq; omega) (by have := hAL.size; omega))).drew⟩
            rw [HSK, hbb]
            exact OwVb.below s.1 (Below.refl _ _).drew
          clear own hb hAL hwq HSK
          cases hA : SP (LN r) k tt
          · cases hB : SP (LN r) k f
            · rw [hA] at qb zb
              rw [hB] at qa za
              have HF := Lib.hid (HFN.out false (by rw [hA, hB]; rfl))
              clear HFN
              go_upto_region 8 with fail
              rw [← HWQ.out]
              clear g0 g1 g2 g3 g4 za zb hfz
              go_region
              go_wp2_with fail
              go_roundw
              case rel => exact ⟨k + 1, by omega, by go_num, HF.out.1, HF.out.2⟩
              case measure => simp [intOf]; omega
            · rw [hA] at qb zb
              rw [hB] at qa za
              have HF := Lib.hid (HFN.out true (by rw [hA, hB]; rfl))
              clear HFN
              go_upto_region 8 with fail
              rw [← HWQ.out]
              clear g0 g1 g2 g3 g4 za zb hfz
              go_region
              go_wp2_with fail
              go_roundw
              case rel => exact ⟨k + 1, by omega, by go_num, HF.out.1, HF.out.2⟩
              case measure => simp [intOf]; omega
          · rw [hA] at qb zb
            have HF := Lib.hid (HFN.out true (by rw [hA]; rfl))
            clear HFN
            go_upto_region 8 with fail
            rw [← HWQ.out]
            clear g0 g1 g2 g3 g4 za zb hfz
            go_region
            go_wp2_with fail
            go_roundw
            case rel => exact ⟨k + 1, by omega, by go_num, HF.out.1, HF.out.2⟩
            case measure => simp [intOf]; omega
        · have hkm : k = c.nm := by omega
          subst hkm
          have HO := Lib.hid own
          have HB := Lib.hid hb
          clear own hb
          go_wp2_with fail
          go_roundw
          case rel => exact ⟨r + 1, by omega, by go_num, by rw [HS'.out]; exact HO.out, HB.out⟩
          case measure => simp [intOf]; omega
    · have hrn : r = c.nd := by omega
      subst hrn
      have HB := Lib.hid hb
      clear hb
      go_wp2_with fail
      go_ret
      exact ⟨⟨_, rfl, HO.out.base_ (by omega)⟩, HPB.out _ HB.out⟩
end Go.Proofs.YtoiopnmphbnjaaaGreatDoor
namespace Go.Proofs.YtoiopnmphbnjaaaGreatDoor
open Go.RowKit
set_option linter.unusedSimpArgs false
set_option linter.unusedVariables false
set_option maxRecDepth 20000
attribute [local irreducible] nv wp win plainB validR valR canR
/-! ## reference 49: SameMoves; base: Bools -/
theorem sgn_subself (x : Rat) : sgnQ (x - x) = 0 := sgnQ_zero.2 (by grind)
set_option maxHeartbeats 4000000 in
theorem rsame49_any {w : World} {A B : Option Addr} {n c d b0 b1 : Nat} {F T : Nat → Int} {q : Nat → Rat} (h : MovA w b0 A n F T (fun k => canR (q k))) (h' : MovA w b1 B n F T (fun k => canR (q k))) (hq : ∀ k, k < n → Sz 1000 (q k)) (hn : n ≤ 1000000) :
    Calls Tryz.prog 37 #[.slice A n c, .slice B n d] w fun e w' => e = .returned (.bool true) ∧ Below w.heap.size w w' := by
  have HA := Lib.hid h
  have HB := Lib.hid h'
  have HQ := Lib.hid hq
  have e0 : ((n : Int) != (n : Int)) = false := by simp
  clear h h' hq
  go_enter Tryz.func37, Tryz.ntmps37
  go_wp2_with fail
  go_loopw [15] (fun i wr => ∃ k : Nat, k ≤ n ∧ i = .int .i64 (k : Int) ∧ Below w.heap.size w wr) (fun i _ => n - (intOf i).toNat)
  case atStart => exact ⟨0, Nat.zero_le _, rfl, Below.refl _ _⟩
  case round =>
    obtain ⟨k, hk, rfl, hb⟩ := hrel
    by_cases hlt : k < n
    · obtain ⟨bm, om, s1, A1, n1, c1, B1, m1, d1, rfl, hbm, g0, g1, g2, g3, g4, r1⟩ := (HA.out.below hb).at_ hlt
      obtain ⟨bm', om', s1', A1', n1', c1', B1', m1', d1', rfl, hbm', g0', g1', g2', g3', g4', r1'⟩ := (HB.out.below hb).at_ hlt
      have hqk := HQ.out k hlt
      have qa := r1.canQ hqk
      have qb := r1'.canQ hqk
      have KC : Hid (∀ W, Below wr.heap.size wr W → Calls Tryz.prog 80 #[rv s1 A1 n1 c1 B1 m1 d1, rv s1' A1' n1' c1' B1' m1' d1'] W fun e w' => e = .returned (.int .i64 0) ∧ Below W.heap.size W w') := fun W hW => by
        have := rcmpQ (qa.below hW) (qb.below hW) (by omega) (by omega)
        rw [sgn_subself] at this
        exact this
      generalize F k = f at *
      generalize T k = t at *
      have e4 : (f != f) = false := by simp
      have e5 : (t != t) = false := by simp
      have hk0 : (0 : Int) ≤ (k : Int) := by omega
      have hki : (k : Int) < (n : Int) := by omega
      have HBB := Lib.hid hb
      clear r1 r1' qa qb hqk hb
      go_upto_region 7 with fail
      have aL : Below wr.heap.size wr ((wr.alloc (.cells #[.int .i64 f, .int .i64 t, .bool s1, .slice A1 n1 c1, .slice B1 m1 d1] 65)).alloc (.cells #[.int .i64 f, .int .i64 t, .bool s1', .slice A1' n1' c1', .slice B1' m1' d1'] 65)) := ((Below.refl _ _).alloc (Nat.le_refl _) _).alloc (by simp) _
      have x0 : ((wr.alloc (.cells #[.int .i64 f, .int .i64 t, .bool s1, .slice A1 n1 c1, .slice B1 m1 d1] 65)).alloc (.cells #[.int .i64 f, .int .i64 t, .bool s1', .slice A1' n1' c1', .slice B1' m1' d1'] 65)).cell? ⟨wr.heap.size, 0, none⟩ = some (.int .i64 f) := by simp [go_sem]
      have x1 : ((wr.alloc (.cells #[.int .i64 f, .int .i64 t, .bool s1, .slice A1 n1 c1, .slice B1 m1 d1] 65)).alloc (.cells #[.int .i64 f, .int .i64 t, .bool s1', .slice A1' n1' c1', .slice B1' m1' d1'] 65)).cell? ⟨wr.heap.size, 1, none⟩ = some (.int .i64 t) := by simp [go_sem]
      have x2 : ((wr.alloc (.cells #[.int .i64 f, .int .i64 t, .bool s1, .slice A1 n1 c1, .slice B1 m1 d1] 65)).alloc (.cells #[.int .i64 f, .int .i64 t, .bool s1', .slice A1' n1' c1', .slice B1' m1' d1'] 65)).cell? ⟨wr.heap.size, 2, none⟩ = some (.bool s1) := by simp [go_sem]
      have x3 : ((wr.alloc (.cells #[.int .i64 f, .int .i64 t, .bool s1, .slice A1 n1 c1, .slice B1 m1 d1] 65)).alloc (.cells #[.int .i64 f, .int .i64 t, .bool s1', .slice A1' n1' c1', .slice B1' m1' d1'] 65)).cell? ⟨wr.heap.size, 3, none⟩ = some (.slice A1 n1 c1) := by simp [go_sem]
      have x4 : ((wr.alloc (.cells #[.int .i64 f, .int .i64 t, .bool s1, .slice A1 n1 c1, .slice B1 m1 d1] 65)).alloc (.cells #[.int .i64 f, .int .i64 t, .bool s1', .slice A1' n1' c1', .slice B1' m1' d1'] 65)).cell? ⟨wr.heap.size, 4, none⟩ = some (.slice B1 m1 d1) := by simp [go_sem]
      have z0 : ((wr.alloc (.cells #[.int .i64 f, .int .i64 t, .bool s1, .slice A1 n1 c1, .slice B1 m1 d1] 65)).alloc (.cells #[.int .i64 f, .int .i64 t, .bool s1', .slice A1' n1' c1', .slice B1' m1' d1'] 65)).cell? ⟨wr.heap.size + 1, 0, none⟩ = some (.int .i64 f) := by simp [go_sem]
      have z1 : ((wr.alloc (.cells #[.int .i64 f, .int .i64 t, .bool s1, .slice A1 n1 c1, .slice B1 m1 d1] 65)).alloc (.cells #[.int .i64 f, .int .i64 t, .bool s1', .slice A1' n1' c1', .slice B1' m1' d1'] 65)).cell? ⟨wr.heap.size + 1, 1, none⟩ = some (.int .i64 t) := by simp [go_sem]
      have z2 : ((wr.alloc (.cells #[.int .i64 f, .int .i64 t, .bool s1, .slice A1 n1 c1, .slice B1 m1 d1] 65)).alloc (.cells #[.int .i64 f, .int .i64 t, .bool s1', .slice A1' n1' c1', .slice B1' m1' d1'] 65)).cell? ⟨wr.heap.size + 1, 2, none⟩ = some (.bool s1') := by simp [go_sem]
      have z3 : ((wr.alloc (.cells #[.int .i64 f, .int .i64 t, .bool s1, .slice A1 n1 c1, .slice B1 m1 d1] 65)).alloc (.cells #[.int .i64 f, .int .i64 t, .bool s1', .slice A1' n1' c1', .slice B1' m1' d1'] 65)).cell? ⟨wr.heap.size + 1, 3, none⟩ = some (.slice A1' n1' c1') := by simp [go_sem]
      have z4 : ((wr.alloc (.cells #[.int .i64 f, .int .i64 t, .bool s1, .slice A1 n1 c1, .slice B1 m1 d1] 65)).alloc (.cells #[.int .i64 f, .int .i64 t, .bool s1', .slice A1' n1' c1', .slice B1' m1' d1'] 65)).cell? ⟨wr.heap.size + 1, 4, none⟩ = some (.slice B1' m1' d1') := by simp [go_sem]
      generalize (wr.alloc (.cells #[.int .i64 f, .int .i64 t, .bool s1, .slice A1 n1 c1, .slice B1 m1 d1] 65)).alloc (.cells #[.int .i64 f, .int .i64 t, .bool s1', .slice A1' n1' c1', .slice B1' m1' d1'] 65) = W at *
      clear g0 g1 g2 g3 g4 g0' g1' g2' g3' g4'
      have hWz := aL.size
      (go_wp2_with fail; (with_reducible refine (KC.out _ aL).mono ?_); rintro e w5 ⟨rfl, hb5⟩; have hb5z := Below.size hb5; (try simp only [ZA, ZS, ZD, ZN] at hb5z))
      have HBF := Lib.hid (HBB.out.trans ((aL.trans (hb5.mono hWz)).mono HBB.out.size))
      clear hb5 aL x0 x1 x2 x3 x4 z0 z1 z2 z3 z4 KC
      go_wp2_with fail
      go_roundw
      case rel => exact ⟨k + 1, by omega, by go_num, HBF.out⟩
      case measure => simp [intOf]; omega
    · obtain rfl : k = n := by omega
      go_wp2_with fail
      go_ret
      exact ⟨rfl, hb⟩
set_option maxHeartbeats 2000000 in
theorem bools49 {w : World} {n c d : Nat} {A B : Option Addr} {f g : Nat → Bool} (h : RdV w A n f) (h' : RdV w B n g) (hfg : ∀ i, i < n → f i = g i) (hn : n ≤ 1000000) :
    Calls Tryz.prog 39 #[.slice A n c, .slice B n d] w fun e w' => e = .returned (.bool true) ∧ Below w.heap.size w w' := by
  have HA := Lib.hid h
  have HB := Lib.hid h'
  have HF := Lib.hid hfg
  have e0 : ((n : Int) != (n : Int)) = false := by simp
  clear h h' hfg
  go_enter Tryz.func39, Tryz.ntmps39
  go_wp2_with fail
  go_loopw [13] (fun i wr => ∃ k : Nat, k ≤ n ∧ i = .int .i64 (k : Int) ∧ Below w.heap.size w wr) (fun i _ => n - (intOf i).toNat)
  case atStart => exact ⟨0, Nat.zero_le _, rfl, Below.refl _ _⟩
  case round =>
    obtain ⟨k, hk, rfl, hb⟩ := hrel
    by_cases hlt : k < n
    · obtain ⟨ba, oa, rfl, hba, g0⟩ := HA.out.later hb hlt
      obtain ⟨bb, ob, rfl, hbb, g1⟩ := HB.out.later hb hlt
      rw [HF.out k hlt] at g0
      generalize g k = x at *
      have e1 : (x != x) = false := by simp
      have x0 := fun y : Sub wr => y.cell g0
      have x1 := fun y : Sub wr => y.cell g1
      have hk0 : (0 : Int) ≤ (k : Int) := by omega
      have hki : (k : Int) < (n : Int) := by omega
      have HBB := Lib.hid hb
      clear g0 g1 hb
      go_wp2_with fail
      ((refine wp_region_quiet_bel (by kernel_rfl) (by kernel_rfl) ?_); (repeat (go_big_quiet_step (fail))); (refine wpQuiet_nil ?_); rintro w5 ⟨⟨_, hb5⟩, rfl⟩; (try dsimp only))
      have HBF := Lib.hid (HBB.out.trans (hb5.mono HBB.out.size))
      clear hb5
      go_wp2_with fail
      go_roundw
      case rel => exact ⟨k + 1, by omega, by go_num, HBF.out⟩
      case measure => simp [intOf]; omega
    · obtain rfl : k = n := by omega
      go_wp2_with fail
      go_ret
      exact ⟨rfl, hb⟩
end Go.Proofs.YtoiopnmphbnjaaaGreatDoor
