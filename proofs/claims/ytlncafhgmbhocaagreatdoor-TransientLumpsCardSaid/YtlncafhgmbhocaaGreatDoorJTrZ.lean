/- Contracts of functions and lemmas, used by the proofs of the given statements. No condition beyond those that each lemma names. -/
import Derived.Test.YtlncafhgmbhocaaGreatDoorJTrW6
import Derived.Test.YtlncafhgmbhocaaGreatDoorJAbQ
import Derived.Test.YtlncafhgmbhocaaGreatDoorLinX
import Derived.Test.YtlncafhgmbhocaaGreatDoorJOpenNum
import Derived.Test.YtlncafhgmbhocaaGreatDoorJBase
namespace Go.Proofs.YtlncafhgmbhocaaGreatDoor
open Go.RowKit
set_option linter.unusedSimpArgs false
set_option linter.unusedVariables false
set_option maxRecDepth 20000
attribute [local irreducible] nv wp win plainB validR valR canR mvE chkM codeC exK maxF dsum
/-! ## chains that are small: all numbers stay short -/
structure Small (c : Chn) : Prop where
  nm : c.nm ≤ 120
  raw : ∀ k, k < c.nm → (c.R k).2.1.length ≤ 1 ∧ (c.R k).2.2.length ≤ 1
  ok : ∀ k, k < c.nm → okR (c.R k)
  den : 6 < c.nm → ∀ k, k < c.nm → (c.R k).2.2.length = 1 → nv (c.R k).2.2 < 16
  nd : c.Ok → c.nd ≤ 9
theorem Small.rts {c : Chn} (h : Small c) (ok : c.Ok) : Rts c.nm c.q (dps c.q c.nm) := by
  refine Rts.of h.nm (fun k hk => Sz_valR (h.ok k hk) (by omega) (h.raw k hk).1 (h.raw k hk).2) fun h6 k hk => ?_
  have hq := (ok.mv k hk).2.2.2.2.2.1
  have hc := valR_pos_can (h.ok k hk) hq
  have hq0 : c.q k ≠ 0 := fun e => by rw [e] at hq; exact absurd hq (by decide)
  have hd : (c.R k).2.2 = dig (c.q k).den := by
    rw [← hc]
    show (canR (c.q k)).2.2 = _
    unfold canR
    rw [if_neg hq0]
  have hl : (c.R k).2.2.length = 1 := by
    have h1 := (h.raw k hk).2
    rcases Nat.lt_or_ge (c.R k).2.2.length 1 with h2 | h2
    · have h3 : (dig (c.q k).den).length = 0 := by rw [← hd]; omega
      exact absurd (dig_len_zero.1 h3) (c.q k).den_nz
    · omega
  have := h.den h6 k hk hl
  rw [hd, nv_dig] at this
  omega
theorem Small.siz {c : Chn} (h : Small c) (ok : c.Ok) : SizC c 400 :=
  ⟨by have := h.nm; omega, by omega, by omega, fun k hk => by have := h.raw k hk; omega, fun s k hk => (exK_sz (h.rts ok) s hk).more (by omega)⟩
theorem Small.chS {c : Chn} (h : Small c) : ChS c 400 := ⟨by have := h.nm; omega, fun k hk => by have := h.raw k hk; omega, h.siz⟩
theorem FzL.v0 (c : Chn) : FzL 1 c.v0 := by
  have h1 : (1 : Nat) < wp 1 := by rw [wp_one]; omega
  refine ⟨1, 1, by omega, h1, h1, fun s => ?_⟩
  unfold Chn.v0
  split
  · exact ⟨1, by decide +kernel, by decide⟩
  · exact ⟨0, by decide +kernel, by decide⟩
theorem Small.stS {c : Chn} (h : Small c) (ok : c.Ok) {r : Rat} (hr : 0 < r) (hrs : Sz 4 r) {v : Nat → Rat} {L : Nat} (hv : FzL L v) (hL : 1 ≤ L) (hL2 : L ≤ 300) : StS c r v 400 := by
  have hp := fun ab => hv.parts (act := c.act ab) (F := c.f) (T := c.t) (h.rts ok) hr hrs
  exact ⟨by omega, by omega, fun k hk => by have := h.raw k hk; omega, by have := h.nm; omega, fun s _ => (hv.sz hL s).more (by omega), hrs.more (by omega), fun k hk => ((hp true).2.2 k hk).more (by omega), fun k hk => ((hp true).1 k hk).more (by omega), fun ab k s hk => (((hp ab).2.1 k hk).sz (by omega) s).more (by omega)⟩
theorem Small.run {c : Chn} (h : Small c) (ok : c.Ok) {r : Rat} (hr : 0 < r) (hrs : Sz 4 r) (ab : Bool) (k : Nat) : FzL (1 + 24 * k) (c.run ab r k) := (FzL.v0 c).run (h.rts ok) hr hrs k
theorem Small.runS {c : Chn} (h : Small c) (ok : c.Ok) {r : Rat} (hr : 0 < r) (hrs : Sz 4 r) (ab : Bool) {k : Nat} (hk : k ≤ 8) : StS c r (c.run ab r k) 400 := h.stS ok hr hrs (h.run ok hr hrs ab k) (by omega) (by omega)
theorem Chn.codeN_ok {c : Chn} {r : Rw} {n : Int} (h : c.codeN r n = 0) : c.Ok ∧ 0 < valR r := by
  have h1 := Chn.codeR_0 (Chn.codeN_0 h).1
  exact ⟨Chn.ok_iff.1 h1.1, h1.2.1⟩
theorem Small.st {c : Chn} (h : Small c) {r : Rw} (hr : okR r) (h1 : r.2.1.length ≤ 4) (h2 : r.2.2.length ≤ 4) {n : Int} (hn : n ≤ 9 ∨ 48 < n) (ab : Bool) : c.codeN r n = 0 → ∀ k : Nat, (k : Int) < n → StS c (valR r) (c.run ab (valR r) k) 400 := fun h0 k hk => by
  have h3 := Chn.codeN_0 h0
  have h4 := Chn.codeN_ok h0
  exact h.runS h4.1 h4.2 (Sz_valR hr (by omega) h1 h2) ab (by omega)
theorem Small.dn {c : Chn} (h : Small c) {r : Rw} (hr : okR r) (h1 : r.2.1.length ≤ 4) (h2 : r.2.2.length ≤ 4) {n : Int} (hn : n ≤ 9 ∨ 48 < n) (ab : Bool) : DnS c ab r n 400 :=
  ⟨by omega, by omega, h.st hr h1 h2 hn ab, fun h0 k hk => by
    have h3 := Chn.codeN_0 h0
    have h4 := Chn.codeN_ok h0
    have hf := h.run h4.1 h4.2 (Sz_valR hr (by omega) h1 h2) ab k
    refine ⟨fun j hj => (hf.dsum (by have := h.nd h4.1; omega)).more (by omega), fun s _ => (hf.sz (by omega) s).more (by omega)⟩⟩
theorem Chn.codeR_ok {c : Chn} {r : Rw} (h : c.codeR r = 0) : c.Ok ∧ 0 < valR r := ⟨Chn.ok_iff.1 (Chn.codeR_0 h).1, (Chn.codeR_0 h).2.1⟩
end Go.Proofs.YtlncafhgmbhocaaGreatDoor
namespace Go.Proofs.YtlncafhgmbhocaaGreatDoor
set_option linter.unusedSimpArgs false
set_option linter.unusedVariables false
/-! ## live states, times, visits, ends of a chain (plain) -/
section
variable {c : Chn}
theorem Chn.ftA {c : Chn} (ok : c.Ok) : ∀ j, j < c.nm → c.f j < c.nd ∧ c.t j < c.nd ∧ c.f j ≠ c.t j := fun j hj => by
  have := ok.mv j hj
  unfold Chn.f Chn.t
  omega
theorem Chn.lt_t (ok : c.Ok) : ∀ j, j < c.nm → c.t j < c.nd := fun j hj => (Chn.ftA ok j hj).2.1
theorem Chn.sr_lt (ok : c.Ok) : c.sr.toNat < c.nd := by have := ok.s0; have := ok.s1; omega
end
end Go.Proofs.YtlncafhgmbhocaaGreatDoor
namespace Go.Proofs.YtlncafhgmbhocaaGreatDoor
open Go.RowKit
set_option linter.unusedSimpArgs false
set_option linter.unusedVariables false
set_option maxRecDepth 20000
attribute [local irreducible] nv wp win plainB validR valR canR mvE chkM codeC
/-! ## what a walk along the moves of a chain reads -/
theorem ChI.mv_at {w : World} {b0 cm cd : Nat} {AM AD : Option Addr} {c : Chn} (h : ChI w b0 AM cm AD cd c) (ok : c.Ok) {k : Nat} (hk : k < c.nm) : ∃ bm om s1 A1 n1 c1 B1 m1 d1, AM = some ⟨bm, om, none⟩ ∧ bm < w.heap.size
    ∧ w.cell? ⟨bm, om + k * 5, none⟩ = some (.int .i64 ((c.f k : Nat) : Int)) ∧ w.cell? ⟨bm, om + k * 5 + 1, none⟩ = some (.int .i64 ((c.t k : Nat) : Int)) ∧ w.cell? ⟨bm, om + k * 5 + 2, none⟩ = some (.bool s1) ∧ w.cell? ⟨bm, om + k * 5 + 3, none⟩ = some (.slice A1 n1 c1) ∧ w.cell? ⟨bm, om + k * 5 + 4, none⟩ = some (.slice B1 m1 d1)
    ∧ RdS w b0 (rv s1 A1 n1 c1 B1 m1 d1) (c.R k) ∧ c.f k < c.nd ∧ c.t k < c.nd ∧ c.f k ≠ c.t k := by
  obtain ⟨bm, om, s1, A1, n1, c1, B1, m1, d1, e, hbm, f0, f1, f2, f3, f4, r1⟩ := h.mv.1.at_ hk
  obtain ⟨e0, e1, e2, e3, e4, e5, -⟩ := ok.mv k hk
  have hf : c.F k = ((c.f k : Nat) : Int) := by unfold Chn.f; omega
  have ht : c.T k = ((c.t k : Nat) : Int) := by unfold Chn.t; omega
  rw [hf] at f0
  rw [ht] at f1
  exact ⟨bm, om, s1, A1, n1, c1, B1, m1, d1, e, hbm, f0, f1, f2, f3, f4, r1, by omega, by omega, fun h => e4 (by omega)⟩
/-- .. in a later world -/
theorem ChI.mv_later {w W : World} {cm cd : Nat} {AM AD : Option Addr} {c : Chn} (h : ChI w w.heap.size AM cm AD cd c) (ok : c.Ok) (hb : Below w.heap.size w W) {k : Nat} (hk : k < c.nm) : ∃ bm om s1 A1 n1 c1 B1 m1 d1, AM = some ⟨bm, om, none⟩ ∧ bm < w.heap.size
    ∧ W.cell? ⟨bm, om + k * 5, none⟩ = some (.int .i64 ((c.f k : Nat) : Int)) ∧ W.cell? ⟨bm, om + k * 5 + 1, none⟩ = some (.int .i64 ((c.t k : Nat) : Int)) ∧ W.cell? ⟨bm, om + k * 5 + 2, none⟩ = some (.bool s1) ∧ W.cell? ⟨bm, om + k * 5 + 3, none⟩ = some (.slice A1 n1 c1) ∧ W.cell? ⟨bm, om + k * 5 + 4, none⟩ = some (.slice B1 m1 d1)
    ∧ RdS W w.heap.size (rv s1 A1 n1 c1 B1 m1 d1) (c.R k) ∧ c.f k < c.nd ∧ c.t k < c.nd ∧ c.f k ≠ c.t k := by
  obtain ⟨bm, om, s1, A1, n1, c1, B1, m1, d1, e, hbm, f0, f1, f2, f3, f4, r1, h1, h2, h3⟩ := h.mv_at ok hk
  exact ⟨bm, om, s1, A1, n1, c1, B1, m1, d1, e, hbm, (hb.cell (p := ⟨bm, om + k * 5, none⟩) hbm).trans f0, (hb.cell (p := ⟨bm, om + k * 5 + 1, none⟩) hbm).trans f1, (hb.cell (p := ⟨bm, om + k * 5 + 2, none⟩) hbm).trans f2, (hb.cell (p := ⟨bm, om + k * 5 + 3, none⟩) hbm).trans f3, (hb.cell (p := ⟨bm, om + k * 5 + 4, none⟩) hbm).trans f4, r1.kp (Kp.of_below hb), h1, h2, h3⟩
theorem ChI.dn_later {w W : World} {cm cd : Nat} {AM AD : Option Addr} {c : Chn} (h : ChI w w.heap.size AM cm AD cd c) (hb : Below w.heap.size w W) {s : Nat} (hs : s < c.nd) : ∃ bd od, AD = some ⟨bd, od, none⟩ ∧ bd < w.heap.size ∧ W.cell? ⟨bd, od + s, none⟩ = some (.bool (c.D s)) := by
  obtain ⟨bd, od, e, hbd, -, p0⟩ := h.down hs
  exact ⟨bd, od, e, hbd, (hb.cell (p := ⟨bd, od + s, none⟩) hbd).trans p0⟩
/-- the block of the chain that a call was handed -/
theorem par_cell {w W : World} {cs : Array Value} {t : TypeId} (hb : Below (w.heap.size + 1) (w.alloc (.cells cs t)) W) (j : Nat) : W.cell? ⟨w.heap.size, j, none⟩ = cs[j]? := by
  rw [hb.cell (p := ⟨w.heap.size, j, none⟩) (by show w.heap.size < _; omega), World.cell?_alloc_at _ _ _ _ rfl]
theorem par_cells {w W : World} {a b d e : Value} {t : TypeId} (hb : Below (w.heap.size + 1) (w.alloc (.cells #[a, b, d, e] t)) W) : W.cell? ⟨w.heap.size, 0, none⟩ = some a ∧ W.cell? ⟨w.heap.size, 1, none⟩ = some b ∧ W.cell? ⟨w.heap.size, 2, none⟩ = some d ∧ W.cell? ⟨w.heap.size, 3, none⟩ = some e := ⟨par_cell hb 0, par_cell hb 1, par_cell hb 2, par_cell hb 3⟩
theorem par_below {w W : World} {o : Obj} (hb : Below (w.heap.size + 1) (w.alloc o) W) : Below w.heap.size w W := ((Below.refl _ _).alloc (Nat.le_refl _) o).trans (hb.mono (by omega))
end Go.Proofs.YtlncafhgmbhocaaGreatDoor
namespace Go.Proofs.YtlncafhgmbhocaaGreatDoor
open Go.RowKit
set_option linter.unusedSimpArgs false
set_option linter.unusedVariables false
set_option maxRecDepth 20000
attribute [local irreducible] nv wp win plainB validR valR canR mvE chkM codeC cntB ixB kept
/-! ## package absorb: system -/
theorem MatG.mo {w : World} {b0 o co n : Nat} {len : Nat → Nat} {M : Nat → Nat → Rat} (h : MatG w b0 o co n len M) : MatO w b0 (some ⟨o, 0, none⟩) co n len M := by
  obtain ⟨A, c, Ar, cp, e1, e2, hd, h1, h2⟩ := h
  exact ⟨Ar, cp, h1, h2⟩
section
variable {l : Nat → Bool} {F T : Nat → Nat} {q : Nat → Rat} {back : Bool} {n k : Nat}
end
end Go.Proofs.YtlncafhgmbhocaaGreatDoor
