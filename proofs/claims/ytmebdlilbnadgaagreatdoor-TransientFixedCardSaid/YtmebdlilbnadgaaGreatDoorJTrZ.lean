/- Contracts of functions and lemmas, used by the proofs of the given statements. No condition beyond those that each lemma names. -/
import Derived.Test.YtmebdlilbnadgaaGreatDoorJTrW6
import Derived.Test.YtmebdlilbnadgaaGreatDoorJTrW4
import Derived.Test.YtmebdlilbnadgaaGreatDoorLinX
import Derived.Test.YtmebdlilbnadgaaGreatDoorLinH
import Derived.Test.YtmebdlilbnadgaaGreatDoorJBase
namespace Go.Proofs.YtmebdlilbnadgaaGreatDoor
open Go.RowKit
set_option linter.unusedSimpArgs false
set_option linter.unusedVariables false
set_option maxRecDepth 20000
attribute [local irreducible] nv wp win plainB validR valR canR mvE chkM codeC exK maxF dsum
/-! ## chains that are small: all numbers stay short -/
structure Small (c : Chn) : Prop where
  nm : c.nm ≤ 120
  raw : ∀ k, k < c.nm → (c.R k).2.1.length ≤ 1 ∧ (c.R k).2.2.length ≤ 1
  ok : ∀ k, k < c.nm → okR (c.R k)
  den : 6 < c.nm → ∀ k, k < c.nm → (c.R k).2.2.length = 1 → nv (c.R k).2.2 < 16
  nd : c.Ok → c.nd ≤ 9
theorem Small.rts {c : Chn} (h : Small c) (ok : c.Ok) : Rts c.nm c.q (dps c.q c.nm) := by
  refine Rts.of h.nm (fun k hk => Sz_valR (h.ok k hk) (by omega) (h.raw k hk).1 (h.raw k hk).2) fun h6 k hk => ?_
  have hq := (ok.mv k hk).2.2.2.2.2.1
  have hc := valR_pos_can (h.ok k hk) hq
  have hq0 : c.q k ≠ 0 := fun e => by rw [e] at hq; exact absurd hq (by decide)
  have hd : (c.R k).2.2 = dig (c.q k).den := by
    rw [← hc]
    show (canR (c.q k)).2.2 = _
    unfold canR
    rw [if_neg hq0]
  have hl : (c.R k).2.2.length = 1 := by
    have h1 := (h.raw k hk).2
    rcases Nat.lt_or_ge (c.R k).2.2.length 1 with h2 | h2
    · have h3 : (dig (c.q k).den).length = 0 := by rw [← hd]; omega
      exact absurd (dig_len_zero.1 h3) (c.q k).den_nz
    · omega
  have := h.den h6 k hk hl
  rw [hd, nv_dig] at this
  omega
theorem Small.siz {c : Chn} (h : Small c) (ok : c.Ok) : SizC c 400 :=
  ⟨by have := h.nm; omega, by omega, by omega, fun k hk => by have := h.raw k hk; omega, fun s k hk => (exK_sz (h.rts ok) s hk).more (by omega)⟩
theorem Small.chS {c : Chn} (h : Small c) : ChS c 400 := ⟨by have := h.nm; omega, fun k hk => by have := h.raw k hk; omega, h.siz⟩
theorem FzL.v0 (c : Chn) : FzL 1 c.v0 := by
  have h1 : (1 : Nat) < wp 1 := by rw [wp_one]; omega
  refine ⟨1, 1, by omega, h1, h1, fun s => ?_⟩
  unfold Chn.v0
  split
  · exact ⟨1, by decide +kernel, by decide⟩
  · exact ⟨0, by decide +kernel, by decide⟩
theorem Small.stS {c : Chn} (h : Small c) (ok : c.Ok) {r : Rat} (hr : 0 < r) (hrs : Sz 4 r) {v : Nat → Rat} {L : Nat} (hv : FzL L v) (hL : 1 ≤ L) (hL2 : L ≤ 300) : StS c r v 400 := by
  have hp := fun ab => hv.parts (act := c.act ab) (F := c.f) (T := c.t) (h.rts ok) hr hrs
  exact ⟨by omega, by omega, fun k hk => by have := h.raw k hk; omega, by have := h.nm; omega, fun s _ => (hv.sz hL s).more (by omega), hrs.more (by omega), fun k hk => ((hp true).2.2 k hk).more (by omega), fun k hk => ((hp true).1 k hk).more (by omega), fun ab k s hk => (((hp ab).2.1 k hk).sz (by omega) s).more (by omega)⟩
theorem Small.run {c : Chn} (h : Small c) (ok : c.Ok) {r : Rat} (hr : 0 < r) (hrs : Sz 4 r) (ab : Bool) (k : Nat) : FzL (1 + 24 * k) (c.run ab r k) := (FzL.v0 c).run (h.rts ok) hr hrs k
theorem Small.runS {c : Chn} (h : Small c) (ok : c.Ok) {r : Rat} (hr : 0 < r) (hrs : Sz 4 r) (ab : Bool) {k : Nat} (hk : k ≤ 8) : StS c r (c.run ab r k) 400 := h.stS ok hr hrs (h.run ok hr hrs ab k) (by omega) (by omega)
theorem Chn.codeN_ok {c : Chn} {r : Rw} {n : Int} (h : c.codeN r n = 0) : c.Ok ∧ 0 < valR r := by
  have h1 := Chn.codeR_0 (Chn.codeN_0 h).1
  exact ⟨Chn.ok_iff.1 h1.1, h1.2.1⟩
theorem Small.st {c : Chn} (h : Small c) {r : Rw} (hr : okR r) (h1 : r.2.1.length ≤ 4) (h2 : r.2.2.length ≤ 4) {n : Int} (hn : n ≤ 9 ∨ 48 < n) (ab : Bool) : c.codeN r n = 0 → ∀ k : Nat, (k : Int) < n → StS c (valR r) (c.run ab (valR r) k) 400 := fun h0 k hk => by
  have h3 := Chn.codeN_0 h0
  have h4 := Chn.codeN_ok h0
  exact h.runS h4.1 h4.2 (Sz_valR hr (by omega) h1 h2) ab (by omega)
theorem Small.dn {c : Chn} (h : Small c) {r : Rw} (hr : okR r) (h1 : r.2.1.length ≤ 4) (h2 : r.2.2.length ≤ 4) {n : Int} (hn : n ≤ 9 ∨ 48 < n) (ab : Bool) : DnS c ab r n 400 :=
  ⟨by omega, by omega, h.st hr h1 h2 hn ab, fun h0 k hk => by
    have h3 := Chn.codeN_0 h0
    have h4 := Chn.codeN_ok h0
    have hf := h.run h4.1 h4.2 (Sz_valR hr (by omega) h1 h2) ab k
    refine ⟨fun j hj => (hf.dsum (by have := h.nd h4.1; omega)).more (by omega), fun s _ => (hf.sz (by omega) s).more (by omega)⟩⟩
theorem Chn.codeR_ok {c : Chn} {r : Rw} (h : c.codeR r = 0) : c.Ok ∧ 0 < valR r := ⟨Chn.ok_iff.1 (Chn.codeR_0 h).1, (Chn.codeR_0 h).2.1⟩
end Go.Proofs.YtmebdlilbnadgaaGreatDoor
namespace Go.Proofs.YtmebdlilbnadgaaGreatDoor
set_option linter.unusedSimpArgs false
set_option linter.unusedVariables false
/-! ## live states, times, visits, ends of a chain (plain) -/
section
variable {c : Chn}
theorem Chn.ftA {c : Chn} (ok : c.Ok) : ∀ j, j < c.nm → c.f j < c.nd ∧ c.t j < c.nd ∧ c.f j ≠ c.t j := fun j hj => by
  have := ok.mv j hj
  unfold Chn.f Chn.t
  omega
theorem Chn.lt_t (ok : c.Ok) : ∀ j, j < c.nm → c.t j < c.nd := fun j hj => (Chn.ftA ok j hj).2.1
end
end Go.Proofs.YtmebdlilbnadgaaGreatDoor
namespace Go.Proofs.YtmebdlilbnadgaaGreatDoor
open Go.RowKit
set_option linter.unusedSimpArgs false
set_option linter.unusedVariables false
set_option maxRecDepth 20000
attribute [local irreducible] nv wp win plainB validR valR canR mvE chkM codeC
/-! ## what a walk along the moves of a chain reads -/
theorem ChI.mv_at {w : World} {b0 cm cd : Nat} {AM AD : Option Addr} {c : Chn} (h : ChI w b0 AM cm AD cd c) (ok : c.Ok) {k : Nat} (hk : k < c.nm) : ∃ bm om s1 A1 n1 c1 B1 m1 d1, AM = some ⟨bm, om, none⟩ ∧ bm < w.heap.size
    ∧ w.cell? ⟨bm, om + k * 5, none⟩ = some (.int .i64 ((c.f k : Nat) : Int)) ∧ w.cell? ⟨bm, om + k * 5 + 1, none⟩ = some (.int .i64 ((c.t k : Nat) : Int)) ∧ w.cell? ⟨bm, om + k * 5 + 2, none⟩ = some (.bool s1) ∧ w.cell? ⟨bm, om + k * 5 + 3, none⟩ = some (.slice A1 n1 c1) ∧ w.cell? ⟨bm, om + k * 5 + 4, none⟩ = some (.slice B1 m1 d1)
    ∧ RdS w b0 (rv s1 A1 n1 c1 B1 m1 d1) (c.R k) ∧ c.f k < c.nd ∧ c.t k < c.nd ∧ c.f k ≠ c.t k := by
  obtain ⟨bm, om, s1, A1, n1, c1, B1, m1, d1, e, hbm, f0, f1, f2, f3, f4, r1⟩ := h.mv.1.at_ hk
  obtain ⟨e0, e1, e2, e3, e4, e5, -⟩ := ok.mv k hk
  have hf : c.F k = ((c.f k : Nat) : Int) := by unfold Chn.f; omega
  have ht : c.T k = ((c.t k : Nat) : Int) := by unfold Chn.t; omega
  rw [hf] at f0
  rw [ht] at f1
  exact ⟨bm, om, s1, A1, n1, c1, B1, m1, d1, e, hbm, f0, f1, f2, f3, f4, r1, by omega, by omega, fun h => e4 (by omega)⟩
/-- .. in a later world -/
theorem ChI.mv_later {w W : World} {cm cd : Nat} {AM AD : Option Addr} {c : Chn} (h : ChI w w.heap.size AM cm AD cd c) (ok : c.Ok) (hb : Below w.heap.size w W) {k : Nat} (hk : k < c.nm) : ∃ bm om s1 A1 n1 c1 B1 m1 d1, AM = some ⟨bm, om, none⟩ ∧ bm < w.heap.size
    ∧ W.cell? ⟨bm, om + k * 5, none⟩ = some (.int .i64 ((c.f k : Nat) : Int)) ∧ W.cell? ⟨bm, om + k * 5 + 1, none⟩ = some (.int .i64 ((c.t k : Nat) : Int)) ∧ W.cell? ⟨bm, om + k * 5 + 2, none⟩ = some (.bool s1) ∧ W.cell? ⟨bm, om + k * 5 + 3, none⟩ = some (.slice A1 n1 c1) ∧ W.cell? ⟨bm, om + k * 5 + 4, none⟩ = some (.slice B1 m1 d1)
    ∧ RdS W w.heap.size (rv s1 A1 n1 c1 B1 m1 d1) (c.R k) ∧ c.f k < c.nd ∧ c.t k < c.nd ∧ c.f k ≠ c.t k := by
  obtain ⟨bm, om, s1, A1, n1, c1, B1, m1, d1, e, hbm, f0, f1, f2, f3, f4, r1, h1, h2, h3⟩ := h.mv_at ok hk
  exact ⟨bm, om, s1, A1, n1, c1, B1, m1, d1, e, hbm, (hb.cell (p := ⟨bm, om + k * 5, none⟩) hbm).trans f0, (hb.cell (p := ⟨bm, om + k * 5 + 1, none⟩) hbm).trans f1, (hb.cell (p := ⟨bm, om + k * 5 + 2, none⟩) hbm).trans f2, (hb.cell (p := ⟨bm, om + k * 5 + 3, none⟩) hbm).trans f3, (hb.cell (p := ⟨bm, om + k * 5 + 4, none⟩) hbm).trans f4, r1.kp (Kp.of_below hb), h1, h2, h3⟩
/-- the block of the chain that a call was handed -/
theorem par_cell {w W : World} {cs : Array Value} {t : TypeId} (hb : Below (w.heap.size + 1) (w.alloc (.cells cs t)) W) (j : Nat) : W.cell? ⟨w.heap.size, j, none⟩ = cs[j]? := by
  rw [hb.cell (p := ⟨w.heap.size, j, none⟩) (by show w.heap.size < _; omega), World.cell?_alloc_at _ _ _ _ rfl]
theorem par_cells {w W : World} {a b d e : Value} {t : TypeId} (hb : Below (w.heap.size + 1) (w.alloc (.cells #[a, b, d, e] t)) W) : W.cell? ⟨w.heap.size, 0, none⟩ = some a ∧ W.cell? ⟨w.heap.size, 1, none⟩ = some b ∧ W.cell? ⟨w.heap.size, 2, none⟩ = some d ∧ W.cell? ⟨w.heap.size, 3, none⟩ = some e := ⟨par_cell hb 0, par_cell hb 1, par_cell hb 2, par_cell hb 3⟩
theorem par_below {w W : World} {o : Obj} (hb : Below (w.heap.size + 1) (w.alloc o) W) : Below w.heap.size w W := ((Below.refl _ _).alloc (Nat.le_refl _) o).trans (hb.mono (by omega))
end Go.Proofs.YtmebdlilbnadgaaGreatDoor
namespace Go.Proofs.YtmebdlilbnadgaaGreatDoor
open Go.RowKit
set_option linter.unusedSimpArgs false
set_option linter.unusedVariables false
set_option maxRecDepth 20000
attribute [local irreducible] nv wp win plainB validR valR canR mvE chkM codeC spr sprN
/-! ## slices.Clone of bools -/
/-! ## the marks as memory has them -/
def memB (w : World) (g j : Nat) : Bool := match w.cell? ⟨g, j, none⟩ with | some (.bool b) => b | _ => false
def memC (w : World) (A : Value) (n : Nat) : Nat := match A with | .slice (some a) _ _ => cnt (memB w a.block) n | _ => 0
theorem OwB.memC {w : World} {base c n : Nat} {A : Option Addr} {f : Nat → Bool} (h : OwB w base A c n f) (hn : 0 < n) : memC w (.slice A n c) n = cnt f n := by
  obtain ⟨g, rfl⟩ : ∃ g, A = some ⟨g, 0, none⟩ := by
    obtain ⟨g, cap, hv, _, _⟩ := World.ownsRow.form h hn
    exact ⟨g, by injection hv⟩
  show cnt (memB w g) n = cnt f n
  have : ∀ k, k ≤ n → cnt (memB w g) k = cnt f k := by
    intro k
    induction k with
    | zero => intro _; rfl
    | succ k ih =>
      intro hk
      have e : memB w g k = f k := by unfold memB; rw [h.at_ (by omega)]
      unfold cnt
      rw [ih (by omega), e]
  exact this n (Nat.le_refl _)
theorem OwB.head {w : World} {base c n : Nat} {A : Option Addr} {f : Nat → Bool} (h : OwB w base A c n f) (hn : 0 < n) : ∃ g, A = some ⟨g, 0, none⟩ ∧ base ≤ g ∧ g < w.heap.size := by
  obtain ⟨g, cap, hv, _, _⟩ := World.ownsRow.form h hn
  have hA : A = some ⟨g, 0, none⟩ := by injection hv
  subst hA
  have := World.ownsRow.lt h g rfl
  exact ⟨g, rfl, this.1, this.2⟩
end Go.Proofs.YtmebdlilbnadgaaGreatDoor
namespace Go.Proofs.YtmebdlilbnadgaaGreatDoor
open Go.RowKit
set_option linter.unusedSimpArgs false
set_option linter.unusedVariables false
set_option maxRecDepth 20000
attribute [local irreducible] nv wp win plainB validR valR canR
/-! ## a row of ints of the call's own, by a function -/
section
variable {w w' w1 : World} {base g c n k : Nat} {A : Option Addr} {f : Nat → Nat}
end
theorem OwI.kept_ {w w' : World} {base c : Nat} {A : Option Addr} {l : List Nat} (h : OwI w base A c l) {row : Option Nat} (hg : w.grownBy w' row) (hr : (Value.slice A l.length c).ownBlock = none ∨ (Value.slice A l.length c).ownBlock ≠ row) : OwI w' base A c l :=
  World.ownsRow.kept h hg hr
theorem OwB.kept_ {w w' : World} {base g c n : Nat} {f : Nat → Bool} (h : OwB w base (some ⟨g, 0, none⟩) c n f) {row : Option Nat} (hg : w.grownBy w' row) (hr : some g ≠ row) : OwB w' base (some ⟨g, 0, none⟩) c n f :=
  World.ownsRow.kept h hg (.inr hr)
end Go.Proofs.YtmebdlilbnadgaaGreatDoor
namespace Go.Proofs.YtmebdlilbnadgaaGreatDoor
open Go.RowKit
set_option linter.unusedSimpArgs false
set_option linter.unusedVariables false
set_option maxRecDepth 20000
attribute [local irreducible] nv wp win plainB validR valR canR mvE chkM codeC spr sprN chg cnt cntB ixB kept
/-! ## package absorb: system -/
theorem MatG.mo {w : World} {b0 o co n : Nat} {len : Nat → Nat} {M : Nat → Nat → Rat} (h : MatG w b0 o co n len M) : MatO w b0 (some ⟨o, 0, none⟩) co n len M := by
  obtain ⟨A, c, Ar, cp, e1, e2, hd, h1, h2⟩ := h
  exact ⟨Ar, cp, h1, h2⟩
theorem kept_yes {B : Nat → Bool} {k : Nat} (h : B k = true) : kept B (k + 1) = kept B k ++ [k] := by rw [kept, if_pos h]
theorem kept_no {B : Nat → Bool} {k : Nat} (h : B k = false) : kept B (k + 1) = kept B k := by rw [kept, if_neg (by rw [h]; simp)]
theorem kept_len {B : Nat → Bool} {k : Nat} : (kept B k).length = cntB B k := by unfold cntB; rfl
section
variable {l : Nat → Bool} {F T : Nat → Nat} {q : Nat → Rat} {back : Bool} {n k : Nat}
theorem ix_iff {a s : Nat} (ha : a < cntB l n) (hs : s < n) (hl : l s = true) : ixB l n a = s ↔ a = cntB l s := by
  constructor
  · intro h
    rw [← h, cntB_ix ha]
  · intro h
    rw [h, (ixB_cnt hs hl).2]
end
end Go.Proofs.YtmebdlilbnadgaaGreatDoor
namespace Go.Proofs.YtmebdlilbnadgaaGreatDoor
open Go.RowKit
set_option linter.unusedSimpArgs false
set_option linter.unusedVariables false
set_option maxRecDepth 20000
/-! ## package absorb: solve, what it needs (plain) -/
theorem codeM_sq {m : Nat} (h0 : 0 < m) (h : m ≤ 256) : codeM m (fun _ => m) = 0 := by
  unfold codeM
  dsimp only
  rw [if_neg (by omega), if_neg (by omega), if_neg (by omega), if_neg (by omega), if_pos]
  exact List.all_eq_true.2 fun i _ => by simp
/-- the list over all states, when k live ones have been laid -/
def outK (l : Nat → Bool) (x : Nat → Rat) (k : Nat) : Nat → Rat := fun s => if l s = true ∧ cntB l s < k then x (cntB l s) else 0
theorem outK_0 (l : Nat → Bool) (x : Nat → Rat) : outK l x 0 = fun _ => 0 := by
  funext s
  unfold outK
  rw [if_neg (fun h => by omega)]
theorem outK_s {l : Nat → Bool} {x : Nat → Rat} {n k : Nat} (hk : k < cntB l n) {s : Nat} (hs : s < n) : upd (outK l x k) (ixB l n k) (x k) s = outK l x (k + 1) s := by
  obtain ⟨h1, h2⟩ := ixB_lt hk
  have h3 := cntB_ix hk
  unfold upd outK
  by_cases e : s = ixB l n k
  · rw [if_pos e, if_pos ⟨by rw [e]; exact h2, by rw [e, h3]; omega⟩, e, h3]
  · rw [if_neg e]
    by_cases e2 : l s = true ∧ cntB l s < k
    · rw [if_pos e2, if_pos ⟨e2.1, by omega⟩]
    · rw [if_neg e2, if_neg]
      rintro ⟨h4, h5⟩
      have h6 : cntB l s = k := by
        rcases Nat.lt_or_ge (cntB l s) k with h7 | h7
        · exact absurd ⟨h4, h7⟩ e2
        · omega
      have := (ixB_cnt hs h4).2
      rw [h6] at this
      exact e this.symm
theorem outK_e {l : Nat → Bool} {x : Nat → Rat} {n s : Nat} (hs : s < n) : outK l x (cntB l n) s = extB l x s := by
  unfold outK extB
  cases h : l s
  · rw [if_neg (fun h => by cases h.1), if_neg (by simp)]
  · rw [if_pos ⟨rfl, (ixB_cnt hs h).1⟩, if_pos rfl]
theorem kept_get {B : Nat → Bool} {n k : Nat} (hk : k < (kept B n).length) : (kept B n)[k] = ixB B n k := by
  unfold ixB
  rw [List.getD_eq_getElem?_getD, List.getElem?_eq_getElem hk]
  rfl
theorem gl_10 {m : Nat} (h : m ≤ 9) : gl 400 (m + 1) ≤ 1000000000 := by
  have h1 := gl_mono (L := 400) (show m + 1 ≤ 10 by omega)
  have h2 : gl 400 10 ≤ 1000000000 := by decide +kernel
  omega
end Go.Proofs.YtmebdlilbnadgaaGreatDoor
namespace Go.Proofs.YtmebdlilbnadgaaGreatDoor
set_option linter.unusedSimpArgs false
set_option linter.unusedVariables false
/-! ## closed classes (plain) -/
section
variable {F T : Nat → Nat} {nm n : Nat}
/-- the states that a state reaches -/
def rsF (F T : Nat → Nat) (nm n a : Nat) : Nat → Bool := sprN (fun _ => true) F T nm (upd (fun _ => false) a true) n
theorem rs_self (a : Nat) : rsF F T nm n a a = true := sprN_grow (by unfold upd; rw [if_pos rfl]) _
theorem rs_shut (hT : ∀ k, k < nm → T k < n) {a k : Nat} (hk : k < nm) (h : rsF F T nm n a (F k) = true) : rsF F T nm n a (T k) = true := sprN_shut (G := fun _ => true) hT k hk h rfl
theorem rs_min {P : Nat → Prop} (hP : ∀ k, k < nm → P (F k) → P (T k)) {a b : Nat} (ha : P a) (h : rsF F T nm n a b = true) : P b :=
  sprN_ind (P := P) (fun k hk hp _ => hP k hk hp) (fun s hs => by
    unfold upd at hs
    split at hs
    · rename_i e; rw [e]; exact ha
    · cases hs) n b h
theorem rs_trans (hT : ∀ k, k < nm → T k < n) {a b d : Nat} (h1 : rsF F T nm n a b = true) (h2 : rsF F T nm n b d = true) : rsF F T nm n a d = true :=
  rs_min (P := fun s => rsF F T nm n a s = true) (fun k hk h => rs_shut hT hk h) h1 h2
theorem rs_lt (hT : ∀ k, k < nm → T k < n) {a b : Nat} (ha : a < n) (h : rsF F T nm n a b = true) : b < n :=
  rs_min (P := fun s => s < n) (fun k hk _ => hT k hk) ha h
/-- a is the first state of a closed class -/
def clB (F T : Nat → Nat) (nm n a : Nat) : Bool := (List.range n).all fun b => !rsF F T nm n a b || (decide (a ≤ b) && rsF F T nm n b a)
theorem clB_iff {a : Nat} : clB F T nm n a = true ↔ ∀ b, b < n → rsF F T nm n a b = true → a ≤ b ∧ rsF F T nm n b a = true := by
  unfold clB
  rw [List.all_eq_true]
  constructor
  · intro h b hb hr
    have := h b (List.mem_range.2 hb)
    rw [hr] at this
    simpa using this
  · intro h b hb
    cases hr : rsF F T nm n a b
    · rfl
    · have := h b (List.mem_range.1 hb) hr
      simp [this.1, this.2]
theorem least {P : Nat → Prop} : ∀ {m s : Nat}, s ≤ m → P s → ∃ a, P a ∧ a ≤ s ∧ ∀ b, P b → a ≤ b
  | 0, s, hs, hp => ⟨s, hp, Nat.le_refl _, fun b _ => by omega⟩
  | m + 1, s, hs, hp => by
    by_cases h : ∃ b, b < s ∧ P b
    · obtain ⟨b, hb, hpb⟩ := h
      obtain ⟨a, h1, h2, h3⟩ := least (m := m) (s := b) (by omega) hpb
      exact ⟨a, h1, by omega, h3⟩
    · exact ⟨s, hp, Nat.le_refl _, fun b hb => by
        apply Classical.byContradiction
        intro hlt
        exact h ⟨b, by omega, hb⟩⟩
/-- every state reaches a closed class -/
theorem class_of (hT : ∀ k, k < nm → T k < n) : ∀ (m s : Nat), s < n → cnt (rsF F T nm n s) n ≤ m → ∃ a, a < n ∧ clB F T nm n a = true ∧ rsF F T nm n s a = true
  | m, s, hs, hc => by
    by_cases h : ∀ b, rsF F T nm n s b = true → rsF F T nm n b s = true
    · obtain ⟨a, h1, h2, h3⟩ := least (P := fun b => rsF F T nm n s b = true) (m := s) (Nat.le_refl s) (rs_self s)
      refine ⟨a, by omega, clB_iff.2 fun b hb hr => ?_, h1⟩
      have h4 := rs_trans hT h1 hr
      exact ⟨h3 b h4, rs_trans hT (h b h4) h1⟩
    · obtain ⟨b, hb⟩ := Classical.not_forall.1 h
      obtain ⟨hb1, hb2⟩ := Classical.not_imp.1 hb
      have hbn := rs_lt hT hs hb1
      have hlt : cnt (rsF F T nm n b) n < cnt (rsF F T nm n s) n := cnt_lt (l := rsF F T nm n b) (m := rsF F T nm n s) (t := s) (fun d hd => rs_trans hT hb1 hd) (by simpa using hb2) (rs_self s) hs
      match m, hc with
      | 0, hc => omega
      | m + 1, hc =>
        obtain ⟨a, h1, h2, h3⟩ := class_of hT m b hbn (by omega)
        exact ⟨a, h1, h2, rs_trans hT hb1 h3⟩
/-- the only closed class -/
theorem class_un {q : Nat → Rat} (hm : ∀ k, k < nm → F k < n ∧ T k < n ∧ F k ≠ T k ∧ 0 < q k) (h1 : cntB (clB F T nm n) n = 1) : UnS nm n F T q (ixB (clB F T nm n) n 0) := by
  have hT : ∀ k, k < nm → T k < n := fun k hk => (hm k hk).2.1
  have ha := ixB_lt (B := clB F T nm n) (n := n) (i := 0) (by omega)
  refine ⟨hm, ha.1, fun P hP s hs hp => ?_⟩
  obtain ⟨a, h2, h3, h4⟩ := class_of (F := F) hT _ s hs (Nat.le_refl _)
  have h5 := ixB_cnt h2 h3
  have h6 : cntB (clB F T nm n) a = 0 := by omega
  rw [h6] at h5
  rw [h5.2]
  exact rs_min hP hp h4
end
end Go.Proofs.YtmebdlilbnadgaaGreatDoor
namespace Go.Proofs.YtmebdlilbnadgaaGreatDoor
set_option linter.unusedSimpArgs false
set_option linter.unusedVariables false
/-! ## the system of the only closed class has the same solution as the whole system (plain) -/
section
variable {F T : Nat → Nat} {q x y : Nat → Rat} {nm n a : Nat} {B : Nat → Bool}
theorem net_but (hF : ∀ k, k < nm → F k < n ∧ T k < n) {e : Nat} (he : e < n) (h : ∀ i, i < n → i ≠ e → netS F T q x nm i = 0) : ∀ i, i < n → netS F T q x nm i = 0 := by
  have h1 := net_all (x := x) (q := q) hF
  have h2 : sumN (netS F T q x nm) n = netS F T q x nm e := by
    have : sumN (netS F T q x nm) n = sumN (fun i => if i = e then netS F T q x nm i else 0) n := sumN_congr fun i hi => by
      by_cases h3 : i = e
      · rw [if_pos h3]
      · rw [if_neg h3, h i hi h3]
    rw [this, sumN_pick, if_pos he]
  intro i hi
  by_cases h3 : i = e
  · rw [h3, ← h2, h1]
  · exact h i hi h3
theorem extB_sum {m : Nat} : sumN (extB B y) m = sumN y (cntB B m) := by
  induction m with
  | zero => rfl
  | succ m ih =>
    rw [sumN, ih]
    cases hb : B m
    · rw [cntB_no hb]
      unfold extB
      simp [hb]
      grind
    · rw [cntB_yes hb, sumN]
      unfold extB
      simp [hb]
theorem extB_off {s : Nat} (h : B s = false) : extB B y s = 0 := by unfold extB; rw [h]; simp
/-- outside of a closed set nothing comes in -/
theorem extB_net (hB : ∀ k, k < nm → B (F k) = true → B (T k) = true) {i : Nat} (hi : B i = false) : netS F T q (extB B y) nm i = 0 := sumN_nil fun k hk => by
  unfold netT
  have h1 : T k = i → extB B y (F k) = 0 := fun e => by
    cases hf : B (F k)
    · exact extB_off hf
    · have := hB k hk hf
      rw [e, hi] at this
      cases this
  have h2 : F k = i → extB B y (F k) = 0 := fun e => by rw [e]; exact extB_off hi
  split
  · rename_i e
    rw [h1 e]
    split <;> grind
  · split
    · rename_i e; rw [h2 e]; grind
    · grind
/-- the matrix of a class, the last row for the sum -/
def parQ (B : Nat → Bool) (F T : Nat → Nat) (q : Nat → Rat) (nm n : Nat) : Mf := fun i j => if i = cntB B n - 1 then 1 else staK F T q nm (ixB B n i) (ixB B n j)
theorem parQ_dot (hF : ∀ k, k < nm → F k < n ∧ T k < n) {i : Nat} : dotS (parQ B F T q nm n i) y (cntB B n) = if i = cntB B n - 1 then sumN y (cntB B n) else netS F T q (extB B y) nm (ixB B n i) := by
  by_cases e : i = cntB B n - 1
  · have h1 : parQ B F T q nm n i = fun _ => 1 := by funext j; unfold parQ; rw [if_pos e]
    rw [h1, dotS_ones, if_pos e]
  · have h1 : parQ B F T q nm n i = fun j => staK F T q nm (ixB B n i) (ixB B n j) := by funext j; unfold parQ; rw [if_neg e]
    rw [h1, if_neg e, dotS_kept (f := staK F T q nm (ixB B n i)) (Nat.le_refl n), dot_sta hF _ (Nat.le_refl _)]
theorem par_net (hF : ∀ k, k < nm → F k < n ∧ T k < n) (hB : ∀ k, k < nm → B (F k) = true → B (T k) = true) (hm : 0 < cntB B n) (h : ∀ i, i < cntB B n → i ≠ cntB B n - 1 → netS F T q (extB B y) nm (ixB B n i) = 0) : ∀ i, i < n → netS F T q (extB B y) nm i = 0 := by
  refine net_but hF (ixB_lt (B := B) (n := n) (i := cntB B n - 1) (by omega)).1 fun i hi hne => ?_
  cases hb : B i
  · exact extB_net hB hb
  · obtain ⟨h1, h2⟩ := ixB_cnt hi hb
    have := h (cntB B i) h1 (fun e => hne (by rw [← e, h2]))
    rw [h2] at this
    exact this
theorem UnS.par_rank (h : UnS nm n F T q a) (hB : ∀ k, k < nm → B (F k) = true → B (T k) = true) (ha : B a = true) : (gj (cntB B n) (parQ B F T q nm n) (cntB B n)).2.length = cntB B n := by
  have hF : ∀ k, k < nm → F k < n ∧ T k < n := fun k hk => ⟨(h.mv k hk).1, (h.mv k hk).2.1⟩
  have hm : 0 < cntB B n := by have := (ixB_cnt h.lt ha).1; omega
  refine rank_full fun y hy => ?_
  have h1 : sumN (extB B y) n = 0 := by
    have := hy (cntB B n - 1) (by omega)
    rw [parQ_dot hF, if_pos rfl] at this
    rw [extB_sum]
    exact this
  have h2 := h.zero (par_net hF hB hm fun i hi hne => by
    have := hy i hi
    rw [parQ_dot hF, if_neg hne] at this
    exact this) h1
  intro j hj
  have h3 := ixB_lt (B := B) (n := n) hj
  have h4 := h2 _ h3.1
  unfold extB at h4
  rw [if_pos h3.2, cntB_ix hj] at h4
  exact h4
/-- the class' system has the same solution -/
theorem UnS.par_eq (h : UnS nm n F T q a) (hB : ∀ k, k < nm → B (F k) = true → B (T k) = true) (ha : B a = true) :
    codeS (cntB B n) (cntB B n) (wide (parQ B F T q nm n) (fun i => if i = cntB B n - 1 then 1 else 0) (cntB B n)) = 0 ∧
    ∀ s, s < n → extB B (fun t => (gj (cntB B n) (wide (parQ B F T q nm n) (fun i => if i = cntB B n - 1 then 1 else 0) (cntB B n)) (cntB B n + 1)).1 t (cntB B n)) s = staX F T q nm n s := by
  have hF : ∀ k, k < nm → F k < n ∧ T k < n := fun k hk => ⟨(h.mv k hk).1, (h.mv k hk).2.1⟩
  have hm : 0 < cntB B n := by have := (ixB_cnt h.lt ha).1; omega
  obtain ⟨h1, h2⟩ := solve_full (y := fun i => if i = cntB B n - 1 then 1 else 0) (h.par_rank hB ha)
  refine ⟨h1, ?_⟩
  generalize (fun t => (gj (cntB B n) (wide (parQ B F T q nm n) (fun i => if i = cntB B n - 1 then 1 else 0) (cntB B n)) (cntB B n + 1)).1 t (cntB B n)) = y at *
  obtain ⟨-, h3, h4⟩ := h.staX_eq
  refine h.unique (par_net hF hB hm fun i hi hne => ?_) h3 ?_
  · have := h2 i hi
    rw [parQ_dot hF, if_neg hne, if_neg hne] at this
    exact this
  · have := h2 (cntB B n - 1) (by omega)
    rw [parQ_dot hF, if_pos rfl, if_pos rfl] at this
    rw [extB_sum, h4]
    exact this
/-- above 0 exactly in the class -/
theorem UnS.staX_pos (h : UnS nm n F T q a) (hmin : ∀ P : Nat → Prop, (∀ k, k < nm → P (F k) → P (T k)) → P a → ∀ s, B s = true → P s) (hB : ∀ k, k < nm → B (F k) = true → B (T k) = true) (ha : B a = true) (s : Nat) (hs : s < n) :
    0 ≤ staX F T q nm n s ∧ (0 < staX F T q nm n s ↔ B s = true) := by
  obtain ⟨-, h3, h4⟩ := h.staX_eq
  obtain ⟨h5, h6⟩ := h.dist h3 h4
  refine ⟨h5 s hs, fun hp => ?_, fun hb => ?_⟩
  · cases hb : B s
    · have := (h.par_eq hB ha).2 s hs
      rw [extB_off hb] at this
      rw [← this] at hp
      exact absurd hp (by decide)
    · rfl
  · exact hmin (fun s => 0 < staX F T q nm n s) (pos_shut h.mv h3) h6 s hb
end
end Go.Proofs.YtmebdlilbnadgaaGreatDoor
namespace Go.Proofs.YtmebdlilbnadgaaGreatDoor
set_option linter.unusedSimpArgs false
set_option linter.unusedVariables false
/-! ## what is reached, by a stack (plain) -/
def fB (F : Nat → Nat) (i : Nat) : Nat → Bool := fun j => decide (F j = i)
/-- where the first k moves lead out of i -/
def adj (F T : Nat → Nat) (k i : Nat) : List Nat := (kept (fB F i) k).map T
section
variable {F T : Nat → Nat} {nm n i a j k t : Nat} {seen : Nat → Bool} {st : List Nat}
theorem adj_zero : adj F T 0 = fun _ => [] := rfl
theorem adj_yes : adj F T (k + 1) (F k) = adj F T k (F k) ++ [T k] := by
  unfold adj
  rw [kept, if_pos (by simp [fB])]
  simp
theorem adj_no (h : F k ≠ i) : adj F T (k + 1) i = adj F T k i := by
  unfold adj
  rw [kept, if_neg (by simp [fB, h])]
theorem adj_upd : adj F T (k + 1) = upd (adj F T k) (F k) (adj F T k (F k) ++ [T k]) := by
  funext i
  by_cases h : i = F k
  · subst h
    rw [adj_yes, upd_same]
  · rw [adj_no (fun e => h e.symm), upd_ne _ _ h]
theorem adj_len : (adj F T k i).length = cntB (fB F i) k := by simp [adj, cntB]
theorem adj_le : (adj F T k i).length ≤ k := by rw [adj_len]; exact cntB_le
theorem adj_get (h : j < (adj F T nm i).length) : ∃ k, k < nm ∧ F k = i ∧ (adj F T nm i)[j] = T k ∧ cntB (fB F i) k = j := by
  have h1 : j < cntB (fB F i) nm := by rw [← adj_len (T := T)]; exact h
  obtain ⟨h2, h3⟩ := ixB_lt h1
  refine ⟨ixB (fB F i) nm j, h2, of_decide_eq_true h3, ?_, ?_⟩
  · have e : (adj F T nm i)[j]? = some (T (ixB (fB F i) nm j)) := by
      unfold adj ixB
      rw [List.getElem?_map, List.getD_eq_getElem?_getD, List.getElem?_eq_getElem (l := kept (fB F i) nm) (i := j) (by unfold cntB at h1; exact h1)]
      rfl
    rw [List.getElem?_eq_getElem h] at e
    exact Option.some.inj e
  · have h4 := ixB_cnt h2 h3
    rcases Nat.lt_trichotomy (cntB (fB F i) (ixB (fB F i) nm j)) j with h5 | h5 | h5
    · have := ixB_mono h5 h1
      rw [h4.2] at this
      omega
    · exact h5
    · have := ixB_mono h5 h4.1
      rw [h4.2] at this
      omega
def DfsI (F T : Nat → Nat) (nm n i : Nat) (seen : Nat → Bool) (st : List Nat) : Prop :=
  seen i = true ∧ (∀ s, seen s = true → rsF F T nm n i s = true) ∧ (∀ s ∈ st, seen s = true) ∧ ∀ k, k < nm → seen (F k) = true → F k ∉ st → seen (T k) = true
def DfsJ (F T : Nat → Nat) (nm n i : Nat) (seen : Nat → Bool) (st : List Nat) (a j : Nat) : Prop :=
  seen i = true ∧ (∀ s, seen s = true → rsF F T nm n i s = true) ∧ (∀ s ∈ st, seen s = true) ∧ seen a = true ∧ ∀ k, k < nm → seen (F k) = true → F k ∉ st → (F k = a → cntB (fB F a) k < j) → seen (T k) = true
theorem dfs_start : DfsI F T nm n i (upd (fun _ => false) i true) [i] := by
  have h : ∀ s, upd (fun _ => false) i true s = true → s = i := by
    intro s hs
    unfold upd at hs
    split at hs
    · assumption
    · cases hs
  refine ⟨by unfold upd; simp, fun s hs => by rw [h s hs]; exact rs_self i, fun s hs => ?_, fun k hk hs hn => ?_⟩
  · rw [List.mem_singleton] at hs
    rw [hs]; unfold upd; simp
  · exact absurd (by rw [h _ hs]; exact List.mem_singleton.2 rfl) hn
theorem dfs_pop (h : DfsI F T nm n i seen (st ++ [a])) : DfsJ F T nm n i seen st a 0 := by
  obtain ⟨h1, h2, h3, h4⟩ := h
  refine ⟨h1, h2, fun s hs => h3 s (List.mem_append_left _ hs), h3 a (by simp), fun k hk hs hn hj => h4 k hk hs ?_⟩
  rw [List.mem_append, List.mem_singleton]
  rintro (e | e)
  · exact hn e
  · exact absurd (hj e) (by omega)
theorem dfs_old (h : DfsJ F T nm n i seen st a j) (hk : k < nm) (hF : F k = a) (hj : cntB (fB F a) k = j) (ht : seen (T k) = true) : DfsJ F T nm n i seen st a (j + 1) := by
  obtain ⟨h1, h2, h3, h4, h5⟩ := h
  refine ⟨h1, h2, h3, h4, fun k' hk' hs hn hjj => ?_⟩
  by_cases e : k' = k
  · rw [e]; exact ht
  · refine h5 k' hk' hs hn fun ha => ?_
    have := hjj ha
    rcases Nat.lt_or_ge (cntB (fB F a) k') j with h | h
    · exact h
    · exfalso
      have h6 : cntB (fB F a) k' = cntB (fB F a) k := by omega
      have h7 := (ixB_cnt (B := fB F a) hk' (by simp [fB, ha])).2
      have h8 := (ixB_cnt (B := fB F a) hk (by simp [fB, hF])).2
      rw [h6, h8] at h7
      exact e h7.symm
theorem dfs_new (hT : ∀ k, k < nm → T k < n) (h : DfsJ F T nm n i seen st a j) (hk : k < nm) (hF : F k = a) (hj : cntB (fB F a) k = j) : DfsJ F T nm n i (upd seen (T k) true) (st ++ [T k]) a (j + 1) := by
  have h0 := h
  obtain ⟨h1, h2, h3, h4, h5⟩ := h
  have hu : ∀ s, seen s = true → upd seen (T k) true s = true := fun s hs => upd_true hs
  have hr : rsF F T nm n i (T k) = true := rs_shut hT hk (by rw [hF]; exact h2 a h4)
  have hv : ∀ s, upd seen (T k) true s = true → s = T k ∨ seen s = true := by
    intro s hs
    unfold upd at hs
    split at hs
    · exact .inl (by assumption)
    · exact .inr hs
  refine ⟨hu _ h1, fun s hs => ?_, fun s hs => ?_, hu _ h4, fun k' hk' hs hn hjj => ?_⟩
  · rcases hv s hs with e | e
    · rw [e]; exact hr
    · exact h2 s e
  · rw [List.mem_append, List.mem_singleton] at hs
    rcases hs with e | e
    · exact hu s (h3 s e)
    · rw [e]; unfold upd; simp
  · rw [List.mem_append, List.mem_singleton, not_or] at hn
    rcases hv _ hs with e | e
    · exact absurd e hn.2
    · by_cases e2 : k' = k
      · rw [e2]; unfold upd; simp
      · refine hu _ (h5 k' hk' e hn.1 fun ha => ?_)
        have := hjj ha
        rcases Nat.lt_or_ge (cntB (fB F a) k') j with h | h
        · exact h
        · exfalso
          have h6 : cntB (fB F a) k' = cntB (fB F a) k := by omega
          have h7 := (ixB_cnt (B := fB F a) hk' (by simp [fB, ha])).2
          have h8 := (ixB_cnt (B := fB F a) hk (by simp [fB, hF])).2
          rw [h6, h8] at h7
          exact e2 h7.symm
theorem dfs_done (h : DfsJ F T nm n i seen st a (adj F T nm a).length) : DfsI F T nm n i seen st := by
  obtain ⟨h1, h2, h3, h4, h5⟩ := h
  refine ⟨h1, h2, h3, fun k hk hs hn => h5 k hk hs hn fun ha => ?_⟩
  rw [adj_len]
  exact (ixB_cnt hk (by simp [fB, ha])).1
theorem dfs_end (h : DfsI F T nm n i seen []) : seen = rsF F T nm n i := by
  obtain ⟨h1, h2, h3, h4⟩ := h
  funext s
  cases hr : rsF F T nm n i s
  · cases hs : seen s
    · rfl
    · rw [h2 s hs] at hr; cases hr
  · exact rs_min (P := fun s => seen s = true) (fun k hk hs => h4 k hk hs (by simp)) h1 hr
theorem dfsJ_lt (hT : ∀ k, k < nm → T k < n) (hi : i < n) (h : DfsJ F T nm n i seen st a j) : a < n := rs_lt hT hi (h.2.1 a h.2.2.2.1)
end
end Go.Proofs.YtmebdlilbnadgaaGreatDoor
