/- Contracts of functions and lemmas, used by the proofs of the given statements. No condition beyond those that each lemma names. -/
import Derived.Test.YtoiopnmphbnjaaaGreatDoorJDynS
import Derived.Laws.ResultCell
namespace Go.Proofs.YtoiopnmphbnjaaaGreatDoor
open Go.RowKit
set_option linter.unusedSimpArgs false
set_option linter.unusedVariables false
set_option maxRecDepth 20000
/-! ## package dynamic: Start -/
/-- a state as it is returned, or an error -/
def StRet (code : Int) (b0 : Nat) (n : Nat) (S : DS) (e : Ending) (w' : World) : Prop := if code = 0 then ∃ A c, e = .returned (.tuple #[.agg #[.int .i64 (S.1 : Nat), .slice A n c], .nilIface]) ∧ OwJ w' b0 A c n (fun i => S.2.getD i 0) else e = .returned (.tuple #[.agg #[.int .i64 0, .slice none 0 0], errM code])
theorem run_makeJ (W : World) (n : Nat) (hn : n ≤ 1000000) : ∃ Wm, (Instr.makeSlice 43 (.int .i64 (n : Int)) (.int .i64 (n : Int))).run Tryz.prog W = .ok (.slice (some ⟨W.heap.size, 0, none⟩) n n) Wm ∧ OwJ Wm W.heap.size (some ⟨W.heap.size, 0, none⟩) n n (fun _ => 0) ∧ Below W.heap.size W Wm := by
  obtain ⟨i, hi, hz, hs, hby⟩ := info_parts infoJ
  have hr := run_make (P := Tryz.prog) W 43 3 i (.int .i64 0) Tryz.underlying43 hi hz .i64 .i64 (n : Int) (n : Int) (by omega) (by omega) (by rw [hby]; omega) (by omega)
  simp only [Int.toNat_natCast] at hr
  have h0 := World.ownsRow_lit W (base := W.heap.size) (e := 3) (size := 1) (madeCells (Value.cells (.int .i64 0)) (n * i.size)) n (Nat.le_refl _) (by unfold maxLen; omega) (by rw [hs]; exact size_madeCells _ _)
  have e : (madeCells (Value.cells (.int .i64 0)) (n * i.size)).toList = ivl n (fun _ => 0) := by
    rw [hs, Nat.mul_one]
    show (madeCells #[Value.int .i64 0] n).toList = _
    rw [toList_madeCells_one]
    apply List.ext_getElem (by simp [ivl])
    intro j h1 h2
    simp [ivl]
  rw [e] at h0
  exact ⟨_, hr, h0, (Below.refl _ _).grown (World.grownBy_alloc W _ none) (Nat.le_refl _) (by intro k hk; cases hk)⟩
section
variable {w : World} {AG AF AR : Option Addr} {cg cf cr : Nat} {r : DyR}
set_option maxHeartbeats 8000000 in
theorem dstart_any (h : DyI w AG AF AR r) (hs : DyS r) :
    Calls Tryz.prog 20 #[dyv r AG cg AF cf AR cr] w fun e w' => StRet (codeD r) w.heap.size r.ng (setl r.dy 0 (List.replicate r.ng 0)) e w' ∧ Below w.heap.size w w' := by
  have KC := Lib.hid (fun X (hX : Below w.heap.size w X) => dcheck_any (cg := cg) (cf := cf) (cr := cr) (h.below hX) hs)
  by_cases hc : codeD r = 0
  · have ok := codeD_ok hc
    rw [hc] at KC ⊢
    obtain ⟨v, hv⟩ : ∃ v : Nat, r.v = v := ⟨r.v.toNat, by have := ok.v1; omega⟩
    have n64 := ok.ng
    have KS := Lib.hid (fun X (Am : Option Addr) (cm : Nat) (hX : Below w.heap.size w X) (rj : RdJ X Am r.ng (fun i => (List.replicate r.ng (0 : Int)).getD i 0)) => dsettle_any (w := X) (F := 0) (cg := cg) (cf := cf) (cr := cr) (co := cm) (h.below hX) ok hv (Nat.two_pow_pos v) rj (fun i hi _ => by
      rw [zero_getD]
      have := (dgAg_len (ok.gate hi).ln).1
      omega))
    generalize hS : setl r.dy 0 (List.replicate r.ng 0) = S at *
    unfold dyv at KC KS ⊢
    rw [hv] at KC KS ⊢
    clear hs h ok hc hS
    go_enter Tryz.func20, Tryz.ntmps20
    go_wp2_with fail
    refine (KC.out _ (by (skip); repeat' (first | (with_reducible exact Below.refl _ _) | (with_reducible assumption) | (with_reducible refine Below.alloc ?_ ?_ _) | (with_reducible refine Below.drew ?_) | (with_reducible refine below_drewN ?_ _) | (with_reducible refine Below.setCell ?_ ?_ _) | (with_reducible refine Below.trans ?_ (Below.mono (by with_reducible assumption) ?_)) | omega | (simp only [ZA, ZS, ZD, ZN]; omega) | go_size))).mono ?_
    rintro e w1 ⟨rfl, hb1⟩
    unfold errM
    rw [if_pos rfl]
    have hb1z := hb1.size
    simp only [World.size_alloc] at hb1z
    have x0 : w1.cell? ⟨w.heap.size, 0, none⟩ = some (.int .i64 (v : Int)) := (below_at hb1 w.heap.size 0 (by simp; omega)).trans (by simp [go_sem])
    have x1 : w1.cell? ⟨w.heap.size, 1, none⟩ = some (.slice AG r.ng cg) := (below_at hb1 w.heap.size 1 (by simp; omega)).trans (by simp [go_sem])
    have x2 : w1.cell? ⟨w.heap.size, 2, none⟩ = some (.int .i64 r.top) := (below_at hb1 w.heap.size 2 (by simp; omega)).trans (by simp [go_sem])
    have x3 : w1.cell? ⟨w.heap.size, 3, none⟩ = some (.slice AF r.nf cf) := (below_at hb1 w.heap.size 3 (by simp; omega)).trans (by simp [go_sem])
    have x4 : w1.cell? ⟨w.heap.size, 4, none⟩ = some (.slice AR r.nr cr) := (below_at hb1 w.heap.size 4 (by simp; omega)).trans (by simp [go_sem])
    have t0 : w1.cell? ⟨w.heap.size + 1, 0, none⟩ = some (.int .i64 0) := (below_at hb1 (w.heap.size + 1) 0 (by simp)).trans (by simp [go_sem])
    have t1 : w1.cell? ⟨w.heap.size + 1, 1, none⟩ = some (.slice none 0 0) := (below_at hb1 (w.heap.size + 1) 1 (by simp)).trans (by simp [go_sem])
    have d0 : w1.frozen? ⟨w.heap.size + 1, 0, none⟩ = false := (below_fr hb1 (w.heap.size + 1) 0 (by simp)).trans (by simp [go_sem])
    have d1 : w1.frozen? ⟨w.heap.size + 1, 1, none⟩ = false := (below_fr hb1 (w.heap.size + 1) 1 (by simp)).trans (by simp [go_sem])
    have hbA : Below w.heap.size w w1 := (by have z0 := Below.size hb1; (try simp only [ZA, ZS, ZD, ZN] at z0 ⊢; skip); repeat' (first | (with_reducible exact Below.refl _ _) | (with_reducible assumption) | (with_reducible refine Below.alloc ?_ ?_ _) | (with_reducible refine Below.drew ?_) | (with_reducible refine below_drewN ?_ _) | (with_reducible refine Below.setCell ?_ ?_ _) | (with_reducible refine Below.trans ?_ (Below.mono (by with_reducible assumption) ?_)) | omega | (simp only [ZA, ZS, ZD, ZN]; omega) | go_size))
    clear hb1
    go_wp2_with fail
    obtain ⟨Wm, hmk, ownm, hbm⟩ := run_makeJ w1.drew r.ng (by omega)
    have hbm2 : Below w1.heap.size w1 Wm := ((Below.refl _ _).drew).trans hbm
    have hbmz := hbm2.size
    have e0 := fun o => below_at hbm2 w.heap.size o (by omega)
    have e1 := fun o => below_at hbm2 (w.heap.size + 1) o (by omega)
    have e2 := fun o => below_fr hbm2 (w.heap.size + 1) o (by omega)
    have m0 := (e0 0).trans x0
    have m1 := (e0 1).trans x1
    have m2 := (e0 2).trans x2
    have m3 := (e0 3).trans x3
    have m4 := (e0 4).trans x4
    have n0 := (e1 0).trans t0
    have n1 := (e1 1).trans t1
    have o0 := (e2 0).trans d0
    have o1 := (e2 1).trans d1
    have hmz : w.heap.size + 1 < Wm.heap.size := by omega
    have hbX : Below w.heap.size w Wm := hbA.trans (hbm2.mono (by omega))
    have K : Hid (Calls Tryz.prog 63 #[.agg #[.int .i64 (v : Int), .slice AG r.ng cg, .int .i64 r.top, .slice AF r.nf cf, .slice AR r.nr cr], .int .i64 0, .slice (some ⟨w1.heap.size, 0, none⟩) r.ng r.ng] Wm fun e w' => (∃ A1 c1, e = .returned (.agg #[.int .i64 (S.1 : Nat), .slice A1 r.ng c1]) ∧ OwJ w' Wm.heap.size A1 c1 r.ng (fun i => S.2.getD i 0)) ∧ Below Wm.heap.size Wm w') := Lib.hid (KS.out Wm (some ⟨w1.heap.size, 0, none⟩) r.ng hbX (ownm.rd.congr fun j hj => (zero_getD _ _).symm))
    clear KS KC e0 e1 e2 ownm hbm
    go_region_with ((go_at_call 63; (with_reducible refine (K.out).mono ?_); rintro e w5 ⟨⟨A5, c5, rfl, oj5⟩, hb5⟩; have hb5z := Below.size hb5; (try simp only [ZA, ZS, ZD] at hb5z); have hb5c0 := fun o => below_at hb5 (w.heap.size + 1) o (by first | omega | (simp only [ZA, ZS, ZD]; omega)); have hb5f0 := fun o => below_fr hb5 (w.heap.size + 1) o (by first | omega | (simp only [ZA, ZS, ZD]; omega)); have hb5l0 : w.heap.size + 1 < (w5).heap.size := (by omega)))
    all_goals
      have h0 := (hb5c0 0).trans n0
      have h1 := (hb5c0 1).trans n1
      have hfin : StRet 0 w.heap.size r.ng S (.returned (.tuple #[.agg #[.int .i64 (S.1 : Int), .slice A5 r.ng c5], .nilIface])) ((w5.setCell ⟨w.heap.size + 1, 0, none⟩ (.int .i64 (S.1 : Int))).setCell ⟨w.heap.size + 1, 1, none⟩ (.slice A5 r.ng c5)) := by
        unfold StRet
        rw [if_pos rfl]
        exact ⟨A5, c5, rfl, OwJ.base_ (base := Wm.heap.size) (ofar _ (ofar _ oj5 (by omega)) (by omega)) (by omega)⟩
      have hbF : Below w.heap.size w ((w5.setCell ⟨w.heap.size + 1, 0, none⟩ (.int .i64 (S.1 : Int))).setCell ⟨w.heap.size + 1, 1, none⟩ (.slice A5 r.ng c5)) := (by have z0 := Below.size hbX; have z1 := Below.size hb5; (try simp only [ZA, ZS, ZD, ZN] at z0 z1 ⊢; skip); repeat' (first | (with_reducible exact Below.refl _ _) | (with_reducible assumption) | (with_reducible refine Below.alloc ?_ ?_ _) | (with_reducible refine Below.drew ?_) | (with_reducible refine below_drewN ?_ _) | (with_reducible refine Below.setCell ?_ ?_ _) | (with_reducible refine Below.trans ?_ (Below.mono (by with_reducible assumption) ?_)) | omega | (simp only [ZA, ZS, ZD, ZN]; omega) | go_size))
      have HFIN := Lib.hid hfin
      clear hfin
      go_wp2_with fail
      (try simp only [Exit.inBlock, Exit.then])
      refine bodyPost_ret (v := .tuple #[.agg #[.int .i64 (S.1 : Int), .slice A5 r.ng c5], .nilIface]) ?_ rfl ⟨HFIN.out, hbF⟩
      rw [results_cell_tmp rfl]
      go_simp
  · have HE : Hid (errM (codeD r) = .iface 80 (.int .i64 (codeD r))) := by
      show _ = _
      unfold errM; rw [if_neg hc]
    have HR : Hid (∀ e w', e = .returned (.tuple #[.agg #[.int .i64 0, .slice none 0 0], errM (codeD r)]) → StRet (codeD r) w.heap.size r.ng (setl r.dy 0 (List.replicate r.ng 0)) e w') := fun e w' he => by
      unfold StRet
      rw [if_neg hc]; exact he
    rw [HE.out] at KC HR
    generalize setl r.dy 0 (List.replicate r.ng 0) = S at *
    generalize codeD r = code at *
    clear hc h hs HE
    unfold dyv at KC ⊢
    go_enter Tryz.func20, Tryz.ntmps20
    go_wp2_with fail
    refine (KC.out _ (by (skip); repeat' (first | (with_reducible exact Below.refl _ _) | (with_reducible assumption) | (with_reducible refine Below.alloc ?_ ?_ _) | (with_reducible refine Below.drew ?_) | (with_reducible refine below_drewN ?_ _) | (with_reducible refine Below.setCell ?_ ?_ _) | (with_reducible refine Below.trans ?_ (Below.mono (by with_reducible assumption) ?_)) | omega | (simp only [ZA, ZS, ZD, ZN]; omega) | go_size))).mono ?_
    rintro e w1 ⟨rfl, hb1⟩
    have t0 : w1.cell? ⟨w.heap.size + 1, 0, none⟩ = some (.int .i64 0) := (below_at hb1 (w.heap.size + 1) 0 (by simp)).trans (by simp [go_sem])
    have t1 : w1.cell? ⟨w.heap.size + 1, 1, none⟩ = some (.slice none 0 0) := (below_at hb1 (w.heap.size + 1) 1 (by simp)).trans (by simp [go_sem])
    have d0 : w1.frozen? ⟨w.heap.size + 1, 0, none⟩ = false := (below_fr hb1 (w.heap.size + 1) 0 (by simp)).trans (by simp [go_sem])
    have d1 : w1.frozen? ⟨w.heap.size + 1, 1, none⟩ = false := (below_fr hb1 (w.heap.size + 1) 1 (by simp)).trans (by simp [go_sem])
    have hb1z := hb1.size
    simp only [World.size_alloc] at hb1z
    have hbA : Below w.heap.size w w1 := (by have z0 := Below.size hb1; (try simp only [ZA, ZS, ZD, ZN] at z0 ⊢; skip); repeat' (first | (with_reducible exact Below.refl _ _) | (with_reducible assumption) | (with_reducible refine Below.alloc ?_ ?_ _) | (with_reducible refine Below.drew ?_) | (with_reducible refine below_drewN ?_ _) | (with_reducible refine Below.setCell ?_ ?_ _) | (with_reducible refine Below.trans ?_ (Below.mono (by with_reducible assumption) ?_)) | omega | (simp only [ZA, ZS, ZD, ZN]; omega) | go_size))
    go_wp2_with fail
    (try simp only [Exit.inBlock, Exit.then])
    refine bodyPost_ret (v := .tuple #[.agg #[.int .i64 0, .slice none 0 0], .iface 80 (.int .i64 code)]) ?_ rfl ⟨HR.out _ _ rfl, ?_⟩
    · rw [results_cell_tmp rfl]
      go_simp
    · exact (by have z0 := Below.size hbA; (try simp only [ZA, ZS, ZD, ZN] at z0 ⊢; skip); repeat' (first | (with_reducible exact Below.refl _ _) | (with_reducible assumption) | (with_reducible refine Below.alloc ?_ ?_ _) | (with_reducible refine Below.drew ?_) | (with_reducible refine below_drewN ?_ _) | (with_reducible refine Below.setCell ?_ ?_ _) | (with_reducible refine Below.trans ?_ (Below.mono (by with_reducible assumption) ?_)) | omega | (simp only [ZA, ZS, ZD, ZN]; omega) | go_size))
end
end Go.Proofs.YtoiopnmphbnjaaaGreatDoor
