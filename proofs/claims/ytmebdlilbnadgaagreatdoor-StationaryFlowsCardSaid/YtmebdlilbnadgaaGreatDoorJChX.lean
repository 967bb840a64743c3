/- Contracts of functions and lemmas, used by the proofs of the given statements. No condition beyond those that each lemma names. -/
import Derived.Test.YtmebdlilbnadgaaGreatDoorJChW1
import Derived.Test.YtmebdlilbnadgaaGreatDoorJBase
import Derived.Test.YtmebdlilbnadgaaGreatDoorLinMk
import Derived.Test.YtmebdlilbnadgaaGreatDoorLinE
namespace Go.Proofs.YtmebdlilbnadgaaGreatDoor
open Go.RowKit
set_option linter.unusedSimpArgs false
set_option linter.unusedVariables false
set_option maxRecDepth 20000
attribute [local irreducible] nv wp win plainB validR valR canR mvE chkM codeC exK
/-! ## package chain: exit, Exit -/
def Chn.f (c : Chn) (k : Nat) : Nat := (c.F k).toNat
def Chn.t (c : Chn) (k : Nat) : Nat := (c.T k).toNat
def Chn.Ok (c : Chn) : Prop := OkC c.st c.sr c.nm c.F c.T c.q c.nd
theorem Chn.ok_iff {c : Chn} : c.code = 0 ↔ c.Ok := codeC_ok
/-- the rates and their sums are short -/
structure SizC (c : Chn) (L : Nat) : Prop where
  nm : c.nm ≤ 1000000
  L1 : 1 ≤ L
  L2 : L ≤ 1000
  raw : ∀ k, k < c.nm → (c.R k).2.1.length ≤ L ∧ (c.R k).2.2.length ≤ L
  ex : ∀ s k, k ≤ c.nm → Sz L (exK c.f c.q s k)
/-- a store into a block of other cells than words -/
theorem Kp.store {b0 : Nat} {w w2 : World} (h : Kp b0 w w2) {p : Addr} {cur : Array Value} {e : TypeId} {fz : Nat × Nat} (hg : w2.heap[p.block]? = some (.cells cur e fz)) (he : e ≠ 86) (hb : b0 ≤ p.block) (u : Value) : Kp b0 w (w2.setCell p u) := by
  refine h.trans ⟨rfl, rfl, rfl, by simp, fun k hk hw => Below.heap_setCell w2 p u k ?_⟩
  intro e1
  rcases hw with hw | ⟨cur', fz', hw⟩
  · omega
  · rw [e1, hg] at hw
    injection hw with hw
    injection hw with _ hw _
    exact he hw
/-- what kind of block it is -/
def RatB (w : World) (g : Nat) : Prop := ∃ cur fz, w.heap[g]? = some (.cells cur 30 fz)
theorem RatB.below {w w' : World} {g : Nat} {B : Nat} (h : RatB w g) (hb : Below B w w') (hg : g < B) : RatB w' g := by
  obtain ⟨cur, fz, h⟩ := h
  exact ⟨cur, fz, (hb.block g hg).trans h⟩
theorem RatB.new (w : World) (cs : Array Value) : RatB (w.alloc (.cells cs 30)) w.heap.size := ⟨cs, _, heap_alloc_new w _⟩
theorem RatB.set {w : World} {g : Nat} (h : RatB w g) (o : Nat) (u : Value) : RatB (w.setCell ⟨g, o, none⟩ u) g := by
  obtain ⟨cur, fz, h⟩ := h
  refine ⟨cur.setIfInBounds o u, fz, ?_⟩
  simp [World.setCell, Array.getElem?_modify, h]
theorem Kp.store3 {b0 g : Nat} {w : World} (hg : RatB w g) (hb : b0 ≤ g) (a b d : Value) : Kp b0 w (((w.setCell ⟨g, 0, none⟩ a).setCell ⟨g, 1, none⟩ b).setCell ⟨g, 2, none⟩ d) := by
  have h1 := hg.set 0 a
  have h2 := h1.set 1 b
  obtain ⟨_, _, g0⟩ := hg
  obtain ⟨_, _, g1⟩ := h1
  obtain ⟨_, _, g2⟩ := h2
  exact (((Kp.refl b0 w).store (p := ⟨g, 0, none⟩) g0 (by decide) hb a).store (p := ⟨g, 1, none⟩) g1 (by decide) hb b).store (p := ⟨g, 2, none⟩) g2 (by decide) hb d
/-- three cells are stored -/
theorem set3 {w : World} {g o : Nat} {a b d a' b' d' : Value} (h0 : w.cell? ⟨g, o, none⟩ = some a') (h1 : w.cell? ⟨g, o + 1, none⟩ = some b') (h2 : w.cell? ⟨g, o + 2, none⟩ = some d') :
    (((w.setCell ⟨g, o, none⟩ a).setCell ⟨g, o + 1, none⟩ b).setCell ⟨g, o + 2, none⟩ d).cell? ⟨g, o, none⟩ = some a ∧ (((w.setCell ⟨g, o, none⟩ a).setCell ⟨g, o + 1, none⟩ b).setCell ⟨g, o + 2, none⟩ d).cell? ⟨g, o + 1, none⟩ = some b ∧ (((w.setCell ⟨g, o, none⟩ a).setCell ⟨g, o + 1, none⟩ b).setCell ⟨g, o + 2, none⟩ d).cell? ⟨g, o + 2, none⟩ = some d := by
  have n1 : (⟨g, o + 1, none⟩ : Addr) ≠ ⟨g, o, none⟩ := fun e => by injection e with _ e; omega
  have n2 : (⟨g, o + 2, none⟩ : Addr) ≠ ⟨g, o, none⟩ := fun e => by injection e with _ e; omega
  have n3 : (⟨g, o + 2, none⟩ : Addr) ≠ ⟨g, o + 1, none⟩ := fun e => by injection e with _ e; omega
  refine ⟨?_, ?_, ?_⟩
  · rw [World.cell?_setCell_other (h := n2), World.cell?_setCell_other (h := n1)]; exact World.cell?_setCell_same _ _ _ h0
  · rw [World.cell?_setCell_other (h := n3)]; exact World.cell?_setCell_same (u := b') _ _ _ (by rw [World.cell?_setCell_other (h := Ne.symm n1)]; exact h1)
  · exact World.cell?_setCell_same (u := d') _ _ _ (by rw [World.cell?_setCell_other (h := Ne.symm n3), World.cell?_setCell_other (h := Ne.symm n2)]; exact h2)
end Go.Proofs.YtmebdlilbnadgaaGreatDoor
namespace Go.Proofs.YtmebdlilbnadgaaGreatDoor
open Go.RowKit
set_option linter.unusedSimpArgs false
set_option linter.unusedVariables false
set_option maxRecDepth 20000
attribute [local irreducible] nv wp win plainB validR valR canR mvE chkM codeC exK
/-! ## package transient: Fastest, Start -/
/-- what a call needs of a chain -/
structure ChS (c : Chn) (L : Nat) : Prop where
  nm : c.nm ≤ 1000000
  short : Short c.nm c.R
  siz : c.Ok → SizC c L
end Go.Proofs.YtmebdlilbnadgaaGreatDoor
namespace Go.Proofs.YtmebdlilbnadgaaGreatDoor
open Go.RowKit
set_option linter.unusedSimpArgs false
set_option linter.unusedVariables false
set_option maxRecDepth 20000
attribute [local irreducible] nv wp win plainB validR valR canR mvE chkM codeC exK
/-! ## slices.Clone of fractions -/
section
variable {w w' : World} {b0 base b1 c n : Nat} {A : Option Addr} {x y : Nat → Rat}
end
/-! ## package transient: step -/
/-- a fraction in a variable of one's own -/
def Res13 (W0 : World) (B : Nat) (q : Rat) (p : Value) (wx : World) : Prop := ∃ o13 s4 A4 n4 c4 B4 m4 d4, p = .pointer (some ⟨o13, 0, none⟩) ∧ B ≤ o13 ∧ o13 < wx.heap.size ∧ wx.cell? ⟨o13, 0, none⟩ = some (.bool s4) ∧ wx.cell? ⟨o13, 1, none⟩ = some (.slice A4 n4 c4) ∧ wx.cell? ⟨o13, 2, none⟩ = some (.slice B4 m4 d4) ∧ RdS wx 0 (rv s4 A4 n4 c4 B4 m4 d4) (canR q) ∧ Below B W0 wx
theorem res13_new {W0 w4 : World} {B base : Nat} {q : Rat} {s4 : Bool} {A4 : Option Addr} {n4 c4 : Nat} {B4 : Option Addr} {m4 d4 : Nat} (own : OwQ w4 base (rv s4 A4 n4 c4 B4 m4 d4) q) (hb : Below B W0 w4) (hB : B ≤ w4.heap.size) :
    Res13 W0 B q (.pointer (some ⟨w4.heap.size, 0, none⟩)) (w4.alloc (.cells #[.bool s4, .slice A4 n4 c4, .slice B4 m4 d4] 30)) :=
  ⟨_, _, _, _, _, _, _, _, rfl, hB, by simp, by simp, by simp, by simp, (own.alloc _).rs, hb.alloc hB _⟩
theorem res13_set {W0 w4 : World} {B base g : Nat} {q : Rat} {s4 : Bool} {A4 : Option Addr} {n4 c4 : Nat} {B4 : Option Addr} {m4 d4 : Nat} {a' b' d' : Value} (own : OwQ w4 base (rv s4 A4 n4 c4 B4 m4 d4) q) (hb : Below B W0 w4) (hB : B ≤ g) (hg : g < w4.heap.size) (hR : RatB w4 g)
    (h0 : w4.cell? ⟨g, 0, none⟩ = some a') (h1 : w4.cell? ⟨g, 1, none⟩ = some b') (h2 : w4.cell? ⟨g, 2, none⟩ = some d') :
    Res13 W0 B q (.pointer (some ⟨g, 0, none⟩)) (((w4.setCell ⟨g, 0, none⟩ (.bool s4)).setCell ⟨g, 1, none⟩ (.slice A4 n4 c4)).setCell ⟨g, 2, none⟩ (.slice B4 m4 d4)) := by
  have h := set3 (a := .bool s4) (b := .slice A4 n4 c4) (d := .slice B4 m4 d4) h0 h1 h2
  exact ⟨_, _, _, _, _, _, _, _, rfl, hB, by simpa using hg, h.1, h.2.1, h.2.2, own.rs.kp (Kp.store3 hR (Nat.zero_le _) _ _ _), ((hb.setCell hB _).setCell hB _).setCell hB _⟩
end Go.Proofs.YtmebdlilbnadgaaGreatDoor
namespace Go.Proofs.YtmebdlilbnadgaaGreatDoor
open Go.RowKit
set_option linter.unusedSimpArgs false
set_option linter.unusedVariables false
set_option maxRecDepth 20000
attribute [local irreducible] nv wp win plainB validR valR canR mvE chkM codeC exK
/-! ## package transient: Step -/
def allV (n : Nat) (R : Nat → Rw) : Bool := (List.range n).all fun k => validR (R k)
theorem allV_yes {n : Nat} {R : Nat → Rw} (h : ∀ k, k < n → validR (R k) = true) : allV n R = true := List.all_eq_true.2 fun k hk => h k (List.mem_range.1 hk)
theorem allV_no {n k : Nat} {R : Nat → Rw} (hk : k < n) (h : validR (R k) = false) : allV n R = false := by
  cases e : allV n R
  · rfl
  · have := List.all_eq_true.1 e k (List.mem_range.2 hk); rw [h] at this; cases this
theorem allV_at {n k : Nat} {R : Nat → Rw} (h : allV n R = true) (hk : k < n) : validR (R k) = true := List.all_eq_true.1 h k (List.mem_range.2 hk)
end Go.Proofs.YtmebdlilbnadgaaGreatDoor
namespace Go.Proofs.YtmebdlilbnadgaaGreatDoor
open Go.RowKit
set_option linter.unusedSimpArgs false
set_option linter.unusedVariables false
set_option maxRecDepth 20000
attribute [local irreducible] nv wp win plainB validR valR canR mvE chkM codeC exK
/-! ## package transient: Step -/
def vecQ (n : Nat) (R : Nat → Rw) : Nat → Rat := fun s => if s < n then valR (R s) else 0
theorem RowA.okR' {w : World} {b0 n : Nat} {A : Option Addr} {R : Nat → Rw} (h : RowA w b0 A n R) {k : Nat} (hk : k < n) : okR (R k) := by
  obtain ⟨V, h1, h2⟩ := h
  obtain ⟨_, _, _, _, _, _, _, hok, _⟩ := h1 k hk
  exact hok
theorem RowA.can_ {w : World} {b0 n : Nat} {A : Option Addr} {R : Nat → Rw} (h : RowA w b0 A n R) (hv : allV n R = true) : RowA w b0 A n (can (vecQ n R)) :=
  h.congr fun k hk => by
    show R k = canR (vecQ n R k)
    unfold vecQ
    rw [if_pos hk, canR_valR (h.okR' hk) (allV_at hv hk)]
theorem valR_pos_can {r : Rw} (hok : okR r) (h : 0 < valR r) : canR (valR r) = r := by
  cases hv : validR r
  · exact absurd h (valR_no hv)
  · exact canR_valR hok hv
theorem RdS.ok {w : World} {b0 : Nat} {v : Value} {r : Rw} (h : RdS w b0 v r) : okR r := by
  obtain ⟨_, _, _, _, _, _, _, hok, _⟩ := h
  exact hok
end Go.Proofs.YtmebdlilbnadgaaGreatDoor
namespace Go.Proofs.YtmebdlilbnadgaaGreatDoor
open Go.RowKit
set_option linter.unusedSimpArgs false
set_option linter.unusedVariables false
set_option maxRecDepth 20000
attribute [local irreducible] nv wp win plainB validR valR canR
/-! ## appending to rows and to rows of rows -/
/-- a matrix of the call's own, its rows anywhere among the call's own blocks -/
def MatO (w : World) (b : Nat) (A : Option Addr) (c n : Nat) (len : Nat → Nat) (M : Nat → Nat → Rat) : Prop :=
  ∃ Ar cp, w.ownsRow b 35 1 (.slice A n c) n (rowsC n Ar len cp) ∧ ∀ j, j < n → OwR w b (Ar j) (cp j) (len j) (can (M j))
theorem Rds.blk {w : World} {s n : Nat} {A : Option Addr} {xs : List Value} (h : Rds w w.heap.size s A n xs) (hn : 0 < n) : BlkIn (fun b => b < w.heap.size) A n := by
  intro _ a ha
  obtain ⟨b, off, e, hb, _⟩ := h.2 hn
  rw [e] at ha
  injection ha with ha
  subst ha
  exact hb
theorem OwR.ri {w : World} {b c n : Nat} {A : Option Addr} {R : Nat → Rw} (h : OwR w b A c n R) (hb : b ≤ w.heap.size) : RowI w w.heap.size A n R := by
  obtain ⟨V, h1, h2⟩ := h.ra
  refine ⟨V, fun k hk => (h1 k hk).base hb, h2, fun hn => ?_⟩
  exact Rds.blk h2 hn hn
theorem MatO.mi {w : World} {b c n : Nat} {A : Option Addr} {len : Nat → Nat} {M : Nat → Nat → Rat} (h : MatO w b A c n len M) (hb : b ≤ w.heap.size) : MatI w w.heap.size A n len (fun i => can (M i)) := by
  obtain ⟨Ar, cp, h1, h2⟩ := h
  have h3 := Rds.of_own h1
  exact ⟨Ar, cp, h3, fun hn => Rds.blk h3 hn hn, fun i hi => ⟨(h2 i hi).cap, (h2 i hi).ri hb⟩⟩
end Go.Proofs.YtmebdlilbnadgaaGreatDoor
namespace Go.Proofs.YtmebdlilbnadgaaGreatDoor
open Go.RowKit
set_option linter.unusedSimpArgs false
set_option linter.unusedVariables false
set_option maxRecDepth 20000
attribute [local irreducible] nv wp win plainB validR valR canR mvE chkM codeC exK dsum
/-! ## package transient: downs, Downs, First -/
def SumR (g : Nat) (q : Rat) (wr : World) : Prop :=
  ∃ s A1 n1 c1 B1 m1 d1, wr.cell? ⟨g, 0, none⟩ = some (.bool s) ∧ wr.cell? ⟨g, 1, none⟩ = some (.slice A1 n1 c1) ∧ wr.cell? ⟨g, 2, none⟩ = some (.slice B1 m1 d1) ∧ RdS wr 0 (rv s A1 n1 c1 B1 m1 d1) (canR q)
section
variable {w : World} {AM AD : Option Addr} {cm cd L : Nat} {c : Chn} {v : Value} {r : Rw} {n : Int}
end
end Go.Proofs.YtmebdlilbnadgaaGreatDoor
namespace Go.Proofs.YtmebdlilbnadgaaGreatDoor
open Go.RowKit
set_option linter.unusedSimpArgs false
set_option linter.unusedVariables false
set_option maxRecDepth 20000
attribute [local irreducible] nv wp win plainB validR valR canR mvE chkM codeC exK
/-! ## package absorb: Accepts, invalid fractions -/
def BigS (n : Nat) (R : Nat → Rw) : Prop := ∀ k, k < n → (R k).2.1.length ≤ 1000000000 ∧ (R k).2.2.length ≤ 1000000000
theorem validSB {w : World} {b0 : Nat} {v : Value} {r : Rw} (h : RdS w b0 v r) (h1 : r.2.1.length ≤ 1000000000) (h2 : r.2.2.length ≤ 1000000000) :
    Calls Tryz.prog 78 #[v] w fun e w' => e = .returned (.bool (validR r)) ∧ Below w.heap.size w w' := by
  obtain ⟨A, c, B, d, rfl, c1, c2, ok, rA, rB, _, _⟩ := h
  exact valid_any _ _ _ _ _ _ _ _ _ w rfl rfl (by omega) (by omega) c1 c2 ok.1 ok.2 rA rB
theorem rvalidSB {w : World} {b0 : Nat} {v : Value} {r : Rw} (h : RdS w b0 v r) (h1 : r.2.1.length ≤ 1000000000) (h2 : r.2.2.length ≤ 1000000000) :
    Calls Tryz.prog 59 #[v] w fun e w' => e = .returned (.bool (validR r)) ∧ Below w.heap.size w w' := by
  obtain ⟨A, c, B, d, rfl, c1, c2, ok, rA, rB, _, _⟩ := h
  exact rvalid_any _ _ _ _ _ _ _ w (by omega) (by omega) c1 c2 ok.1 ok.2 rA rB
end Go.Proofs.YtmebdlilbnadgaaGreatDoor
namespace Go.Proofs.YtmebdlilbnadgaaGreatDoor
open Go.RowKit
set_option linter.unusedSimpArgs false
set_option linter.unusedVariables false
set_option maxRecDepth 20000
/-! ## a fraction in a variable of the call's own, beside a matrix -/
/-- no row of the matrix lies in block bd -/
def NB (w : World) (bo n bd : Nat) : Prop := ∀ i, i < n → ∀ v, w.cell? ⟨bo, i, none⟩ = some v → v.ownBlock ≠ some bd
section
variable {w w' : World} {b0 bo co n bd c m : Nat} {len : Nat → Nat} {M : Mf} {R : Nat → Rw}
theorem NB.keep (h : NB w bo n bd) (hc : ∀ i, i < n → w'.cell? ⟨bo, i, none⟩ = w.cell? ⟨bo, i, none⟩) : NB w' bo n bd := fun i hi v hv => h i hi v ((hc i hi).symm.trans hv)
theorem NB.below (h : NB w bo n bd) (hb : Below w.heap.size w w') (ho : bo < w.heap.size) : NB w' bo n bd := h.keep fun i _ => below_at hb bo i ho
theorem MatG.nb (h : MatG w b0 bo co n len M) : NB w bo n w.heap.size := by
  intro i hi v hv e
  obtain ⟨A, d, hX⟩ := h.row i
  rw [hX.cell hi] at hv
  injection hv with hv
  subst hv
  have := (own_lt (hX.own hi) _ e).2
  omega
theorem MatG.other (h : MatG w b0 bo co n len M) (hR : OwR w b0 (some ⟨bd, 0, none⟩) c m R) (hn : NB w bo n bd) (hg : w.grownBy w' (some bd)) : MatG w' b0 bo co n len M ∧ Kp b0 w w' ∧ NB w' bo n bd ∧ KT w w' := by
  have hk := hR.kp hg
  obtain ⟨_, cur, hb⟩ := h.block
  obtain ⟨_, cur', hb'⟩ := hR.block
  have hne : bo ≠ bd := by
    intro e
    subst e
    rw [hb] at hb'
    injection hb' with hb'
    injection hb' with _ hb' _
    exact absurd hb' (by decide)
  have hlt := h.lt
  have hG := h
  obtain ⟨A, d, Ar, cp, e1, e2, hd, h1, h2⟩ := h
  refine ⟨⟨A, d, Ar, cp, e1, e2, hd, World.ownsRow.kept h1 hg (.inr fun e => by injection e with e; exact hne e), fun j hj => (h2 j hj).keepA hg hk ?_⟩, hk, hn.keep fun i _ => grown_at hg i hlt hne, hR.kt hg⟩
  intro a ha e
  have := hn j hj _ (show w.cell? ⟨bo, j, none⟩ = some (.slice (Ar j) (len j) (cp j)) by rw [World.ownsRow.cellAt h1 j (by omega), rowsC_get hj])
  rw [ha] at this
  exact this e.symm
theorem NB.ne (h : NB w bo n bd) {i g d k : Nat} (hi : i < n) (hc : w.cell? ⟨bo, i, none⟩ = some (.slice (some ⟨g, 0, none⟩) k d)) : bd ≠ g := by
  have := h i hi _ hc
  intro e
  exact this (by rw [e]; rfl)
end
end Go.Proofs.YtmebdlilbnadgaaGreatDoor
namespace Go.Proofs.YtmebdlilbnadgaaGreatDoor
open Go.RowKit
set_option linter.unusedSimpArgs false
set_option linter.unusedVariables false
set_option maxRecDepth 20000
attribute [local irreducible] nv wp win plainB validR valR canR gj findR elim swp gl low
/-! ## package linear: Det -/
theorem gl_0 (L : Nat) : gl L 0 = L := by unfold gl; rfl
end Go.Proofs.YtmebdlilbnadgaaGreatDoor
namespace Go.Proofs.YtmebdlilbnadgaaGreatDoor
open Go.RowKit
set_option linter.unusedSimpArgs false
set_option linter.unusedVariables false
set_option maxRecDepth 20000
attribute [local irreducible] nv wp win plainB validR valR canR mvE chkM codeC exK dsum
/-! ## chains that are small: all numbers stay short -/
structure Small (c : Chn) : Prop where
  nm : c.nm ≤ 120
  raw : ∀ k, k < c.nm → (c.R k).2.1.length ≤ 1 ∧ (c.R k).2.2.length ≤ 1
  ok : ∀ k, k < c.nm → okR (c.R k)
  den : 6 < c.nm → ∀ k, k < c.nm → (c.R k).2.2.length = 1 → nv (c.R k).2.2 < 16
  nd : c.Ok → c.nd ≤ 9
theorem Small.rts {c : Chn} (h : Small c) (ok : c.Ok) : Rts c.nm c.q (dps c.q c.nm) := by
  refine Rts.of h.nm (fun k hk => Sz_valR (h.ok k hk) (by omega) (h.raw k hk).1 (h.raw k hk).2) fun h6 k hk => ?_
  have hq := (ok.mv k hk).2.2.2.2.2.1
  have hc := valR_pos_can (h.ok k hk) hq
  have hq0 : c.q k ≠ 0 := fun e => by rw [e] at hq; exact absurd hq (by decide)
  have hd : (c.R k).2.2 = dig (c.q k).den := by
    rw [← hc]
    show (canR (c.q k)).2.2 = _
    unfold canR
    rw [if_neg hq0]
  have hl : (c.R k).2.2.length = 1 := by
    have h1 := (h.raw k hk).2
    rcases Nat.lt_or_ge (c.R k).2.2.length 1 with h2 | h2
    · have h3 : (dig (c.q k).den).length = 0 := by rw [← hd]; omega
      exact absurd (dig_len_zero.1 h3) (c.q k).den_nz
    · omega
  have := h.den h6 k hk hl
  rw [hd, nv_dig] at this
  omega
theorem Small.siz {c : Chn} (h : Small c) (ok : c.Ok) : SizC c 400 :=
  ⟨by have := h.nm; omega, by omega, by omega, fun k hk => by have := h.raw k hk; omega, fun s k hk => (exK_sz (h.rts ok) s hk).more (by omega)⟩
theorem Small.chS {c : Chn} (h : Small c) : ChS c 400 := ⟨by have := h.nm; omega, fun k hk => by have := h.raw k hk; omega, h.siz⟩
end Go.Proofs.YtmebdlilbnadgaaGreatDoor
namespace Go.Proofs.YtmebdlilbnadgaaGreatDoor
open Go.RowKit
set_option linter.unusedSimpArgs false
set_option linter.unusedVariables false
set_option maxRecDepth 20000
attribute [local irreducible] nv wp win plainB validR valR canR
/-! ## rows of moves that grow, blocks of a kind -/
/-- what kind of block it is -/
def TyB (t : TypeId) (w : World) (g : Nat) : Prop := ∃ cur fz, w.heap[g]? = some (.cells cur t fz)
section
variable {t : TypeId} {w w' : World} {g b0 : Nat}
theorem TyB.below {B : Nat} (h : TyB t w g) (hb : Below B w w') (hg : g < B) : TyB t w' g := by
  obtain ⟨cur, fz, h⟩ := h
  exact ⟨cur, fz, (hb.block g hg).trans h⟩
theorem TyB.new (w : World) (cs : Array Value) : TyB t (w.alloc (.cells cs t)) w.heap.size := ⟨cs, _, heap_alloc_new w _⟩
theorem TyB.set (h : TyB t w g) (b o : Nat) (u : Value) : TyB t (w.setCell ⟨b, o, none⟩ u) g := by
  obtain ⟨cur, fz, h⟩ := h
  by_cases e : b = g
  · subst e
    refine ⟨cur.setIfInBounds o u, fz, ?_⟩
    simp [World.setCell, Array.getElem?_modify, h]
  · refine ⟨cur, fz, ?_⟩
    simp [World.setCell, Array.getElem?_modify, h, e]
end
end Go.Proofs.YtmebdlilbnadgaaGreatDoor
namespace Go.Proofs.YtmebdlilbnadgaaGreatDoor
open Go.RowKit
set_option linter.unusedSimpArgs false
set_option linter.unusedVariables false
set_option maxRecDepth 20000
attribute [local irreducible] nv wp win plainB validR valR canR mvE chkM codeC exK dsum
/-! ## the laws' Few and brief -/
theorem RdS.lens' {w : World} {b0 : Nat} {s : Bool} {A B : Option Addr} {n c m d : Nat} {r : Rw} (h : RdS w b0 (rv s A n c B m d) r) : r.2.1.length = n ∧ r.2.2.length = m ∧ n ≤ c ∧ m ≤ d ∧ RdW w w.heap.size B r.2.2 := by
  obtain ⟨A', c', B', d', e, hc, hd, _, _, hB, _⟩ := h
  unfold rv at e
  injection e with e
  simp at e
  obtain ⟨-, ⟨-, rfl, rfl⟩, ⟨rfl, rfl, rfl⟩⟩ := e
  exact ⟨rfl, rfl, hc, hd, hB⟩
def RetB (P : Prop) (e : Ending) : Prop := ∃ b : Bool, e = .returned (.bool b) ∧ (b = true → P)
theorem retB_f {P : Prop} : RetB P (.returned (.bool false)) := ⟨false, rfl, fun h => nomatch h⟩
theorem retB_t {P : Prop} (h : P) : RetB P (.returned (.bool true)) := ⟨true, rfl, fun _ => h⟩
end Go.Proofs.YtmebdlilbnadgaaGreatDoor
namespace Go.Proofs.YtmebdlilbnadgaaGreatDoor
open Go.RowKit
set_option linter.unusedSimpArgs false
set_option linter.unusedVariables false
set_option maxRecDepth 20000
attribute [local irreducible] nv wp win plainB validR valR canR
/-! ## variables that hold a fraction -/
/-- a variable that holds a fraction -/
def VarR (g : Nat) (q : Rat) (w : World) : Prop := SumR g q w ∧ RatB w g ∧ g < w.heap.size ∧ ∀ i, w.frozen? ⟨g, i, none⟩ = false
section
variable {g g' : Nat} {q q' : Rat} {w w' : World}
theorem VarR.below (h : VarR g q w) (hb : Below w.heap.size w w') : VarR g q w' := by
  obtain ⟨⟨s, A, n, c, B, m, d, h0, h1, h2, r⟩, hB, hz, hf⟩ := h
  exact ⟨⟨s, A, n, c, B, m, d, (hb.cell (p := ⟨g, 0, none⟩) hz).trans h0, (hb.cell (p := ⟨g, 1, none⟩) hz).trans h1, (hb.cell (p := ⟨g, 2, none⟩) hz).trans h2, r.kp (Kp.of_below hb)⟩, hB.below hb hz, Nat.lt_of_lt_of_le hz hb.size, fun i => (hb.frozen (p := ⟨g, i, none⟩) hz).trans (hf i)⟩
theorem VarR.new (w : World) : VarR w.heap.size 0 (w.alloc (.cells #[.bool false, .slice none 0 0, .slice none 0 0] 30)) :=
  ⟨⟨false, none, 0, 0, none, 0, 0, (World.cell?_alloc_at _ _ _ _ rfl).trans rfl, (World.cell?_alloc_at _ _ _ _ rfl).trans rfl, (World.cell?_alloc_at _ _ _ _ rfl).trans rfl, (OwQ.zero _ 0).rs⟩, RatB.new _ _, by simp, fun i => World.frozen?_alloc_at _ _ _ _ rfl⟩
theorem VarR.put (h : VarR g q w) {s : Bool} {A B : Option Addr} {n c m d : Nat} (hv : RdS w 0 (rv s A n c B m d) (canR q')) : VarR g q' (((w.setCell ⟨g, 0, none⟩ (.bool s)).setCell ⟨g, 1, none⟩ (.slice A n c)).setCell ⟨g, 2, none⟩ (.slice B m d)) := by
  obtain ⟨⟨s1, A1, n1, c1, B1, m1, d1, h0, h1, h2, r⟩, hB, hz, hf⟩ := h
  have s9 := set3 (w := w) (g := g) (o := 0) (a := .bool s) (b := .slice A n c) (d := .slice B m d) h0 h1 h2
  exact ⟨⟨s, A, n, c, B, m, d, s9.1, s9.2.1, s9.2.2, hv.kp (Kp.store3 hB (Nat.zero_le _) _ _ _)⟩, ((hB.set _ _).set _ _).set _ _, by simpa using hz, fun i => by rw [World.frozen?_setCell, World.frozen?_setCell, World.frozen?_setCell]; exact hf i⟩
end
theorem below_set3 {B g : Nat} {w w' : World} (h : Below B w w') (hg : B ≤ g) (a b d : Value) : Below B w (((w'.setCell ⟨g, 0, none⟩ a).setCell ⟨g, 1, none⟩ b).setCell ⟨g, 2, none⟩ d) :=
  ((h.setCell hg _).setCell hg _).setCell hg _
end Go.Proofs.YtmebdlilbnadgaaGreatDoor
