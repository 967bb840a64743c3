/- Contracts of functions and lemmas, used by the proofs of the given statements. No condition beyond those that each lemma names. -/
import Derived.Test.YtoiopnmphbnjaaaGreatDoorJDynW11
namespace Go.Proofs.YtoiopnmphbnjaaaGreatDoor
open Go.RowKit
set_option linter.unusedSimpArgs false
set_option linter.unusedVariables false
set_option maxRecDepth 20000
/-! ## package dynamic: Fail of an event that has failed -/
section
variable {w : World} {AG AF AR Am : Option Addr} {cg cf cr cm : Nat} {r : DyR} {F e : Nat} {M : List Int}
set_option maxHeartbeats 8000000 in
theorem dfail_held (h : DyI w AG AF AR r) (hs : DyS r) (hc : codeD r = 0) (st : StOk r F M) (rj : RdJ w Am r.ng (fun i => M.getD i 0)) (he : e < r.v.toNat) (hb : F.testBit e = true) :
    Calls Tryz.prog 24 #[dyv r AG cg AF cf AR cr, .agg #[.int .i64 (F : Int), .slice Am r.ng cm], .int .i64 (e : Int)] w fun x w' => x = .returned (.tuple #[.agg #[.int .i64 0, .slice none 0 0], .iface 80 (.int .i64 12)]) ∧ Below w.heap.size w w' := by
  have ok := codeD_ok hc
  obtain ⟨v, hv⟩ : ∃ v : Nat, r.v = v := ⟨r.v.toNat, by have := ok.v1; omega⟩
  have v24 : v ≤ 24 := by have := ok.v2; omega
  have hF : F < 2 ^ v := by have := st.f; rw [hv] at this; simpa using this
  have hev : e < v := by rw [hv] at he; simpa using he
  have hp : 2 ^ v ≤ 16777216 := Nat.pow_le_pow_right (n := 2) (by omega) v24
  have KC := Lib.hid (fun X (hX : Below w.heap.size w X) => dchk_ok (cg := cg) (cf := cf) (cr := cr) (cm := cm) (h.below hX) hs hc st (rj.below hX))
  have s1 := yshr F e
  have hq : F / 2 ^ e < 16777216 := Nat.lt_of_le_of_lt (Nat.div_le_self _ _) (by omega)
  have s2 : bits .and .i64 ((F / 2 ^ e : Nat) : Int) 1 = ((F / 2 ^ e % 2 : Nat) : Int) := yand1 (by omega)
  have s3 : F / 2 ^ e % 2 = 1 := by rw [ybit, hb]; rfl
  rw [s3] at s2
  generalize F / 2 ^ e = q1 at *
  unfold dyv at KC ⊢
  rw [hv] at KC ⊢
  clear hs h ok hc st rj he s3 hb
  go_enter Tryz.func24, Tryz.ntmps24
  go_wp2_with fail
  refine (KC.out _ (by (skip); repeat' (first | (with_reducible exact Below.refl _ _) | (with_reducible assumption) | (with_reducible refine Below.alloc ?_ ?_ _) | (with_reducible refine Below.drew ?_) | (with_reducible refine below_drewN ?_ _) | (with_reducible refine Below.setCell ?_ ?_ _) | (with_reducible refine Below.trans ?_ (Below.mono (by with_reducible assumption) ?_)) | omega | (simp only [ZA, ZS, ZD, ZN]; omega) | go_size))).mono ?_
  rintro x w1 ⟨rfl, hb1⟩
  have hb1z := hb1.size
  simp only [World.size_alloc] at hb1z
  have x0 : w1.cell? ⟨w.heap.size, 0, none⟩ = some (.int .i64 (v : Int)) := (below_at hb1 w.heap.size 0 (by simp; omega)).trans (by simp [go_sem])
  have x1 : w1.cell? ⟨w.heap.size, 1, none⟩ = some (.slice AG r.ng cg) := (below_at hb1 w.heap.size 1 (by simp; omega)).trans (by simp [go_sem])
  have x2 : w1.cell? ⟨w.heap.size, 2, none⟩ = some (.int .i64 r.top) := (below_at hb1 w.heap.size 2 (by simp; omega)).trans (by simp [go_sem])
  have x3 : w1.cell? ⟨w.heap.size, 3, none⟩ = some (.slice AF r.nf cf) := (below_at hb1 w.heap.size 3 (by simp; omega)).trans (by simp [go_sem])
  have x4 : w1.cell? ⟨w.heap.size, 4, none⟩ = some (.slice AR r.nr cr) := (below_at hb1 w.heap.size 4 (by simp; omega)).trans (by simp [go_sem])
  have y0 : w1.cell? ⟨w.heap.size + 1, 0, none⟩ = some (.int .i64 (F : Int)) := (below_at hb1 (w.heap.size + 1) 0 (by simp)).trans (by simp [go_sem])
  have y1 : w1.cell? ⟨w.heap.size + 1, 1, none⟩ = some (.slice Am r.ng cm) := (below_at hb1 (w.heap.size + 1) 1 (by simp)).trans (by simp [go_sem])
  have t0 : w1.cell? ⟨w.heap.size + 1 + 1, 0, none⟩ = some (.int .i64 0) := (below_at hb1 (w.heap.size + 1 + 1) 0 (by simp)).trans (by simp [go_sem])
  have t1 : w1.cell? ⟨w.heap.size + 1 + 1, 1, none⟩ = some (.slice none 0 0) := (below_at hb1 (w.heap.size + 1 + 1) 1 (by simp)).trans (by simp [go_sem])
  have d0 : w1.frozen? ⟨w.heap.size + 1 + 1, 0, none⟩ = false := (below_fr hb1 (w.heap.size + 1 + 1) 0 (by simp)).trans (by simp [go_sem])
  have d1 : w1.frozen? ⟨w.heap.size + 1 + 1, 1, none⟩ = false := (below_fr hb1 (w.heap.size + 1 + 1) 1 (by simp)).trans (by simp [go_sem])
  have hbA : Below w.heap.size w w1 := (by have z0 := Below.size hb1; (try simp only [ZA, ZS, ZD, ZN] at z0 ⊢; skip); repeat' (first | (with_reducible exact Below.refl _ _) | (with_reducible assumption) | (with_reducible refine Below.alloc ?_ ?_ _) | (with_reducible refine Below.drew ?_) | (with_reducible refine below_drewN ?_ _) | (with_reducible refine Below.setCell ?_ ?_ _) | (with_reducible refine Below.trans ?_ (Below.mono (by with_reducible assumption) ?_)) | omega | (simp only [ZA, ZS, ZD, ZN]; omega) | go_size))
  clear hb1 KC
  go_wp2_with fail
  (try simp only [Exit.inBlock, Exit.then])
  refine bodyPost_ret (v := .tuple #[.agg #[.int .i64 0, .slice none 0 0], .iface 80 (.int .i64 12)]) ?_ rfl ⟨rfl, ?_⟩
  · rw [results_cell_tmp rfl]
    go_simp
  · exact (by have z0 := Below.size hbA; (try simp only [ZA, ZS, ZD, ZN] at z0 ⊢; skip); repeat' (first | (with_reducible exact Below.refl _ _) | (with_reducible assumption) | (with_reducible refine Below.alloc ?_ ?_ _) | (with_reducible refine Below.drew ?_) | (with_reducible refine below_drewN ?_ _) | (with_reducible refine Below.setCell ?_ ?_ _) | (with_reducible refine Below.trans ?_ (Below.mono (by with_reducible assumption) ?_)) | omega | (simp only [ZA, ZS, ZD, ZN]; omega) | go_size))
end
end Go.Proofs.YtoiopnmphbnjaaaGreatDoor
