/- Contracts of functions and lemmas, used by the proofs of the given statements. No condition beyond those that each lemma names. -/
import Derived.Test.YtomkdgcpmpbfhaaGreatDoorLinE
import Derived.Test.YtomkdgcpmpbfhaaGreatDoorJBase
import Derived.Test.YtomkdgcpmpbfhaaGreatDoorLinMk
import Derived.Test.YtomkdgcpmpbfhaaGreatDoorJChW1
namespace Go.Proofs.YtomkdgcpmpbfhaaGreatDoor
open Go.RowKit
set_option linter.unusedSimpArgs false
set_option linter.unusedVariables false
set_option maxRecDepth 20000
/-! ## a fraction in a variable of the call's own, beside a matrix -/
/-- no row of the matrix lies in block bd -/
def NB (w : World) (bo n bd : Nat) : Prop := ∀ i, i < n → ∀ v, w.cell? ⟨bo, i, none⟩ = some v → v.ownBlock ≠ some bd
section
variable {w w' : World} {b0 bo co n bd c m : Nat} {len : Nat → Nat} {M : Mf} {R : Nat → Rw}
theorem NB.keep (h : NB w bo n bd) (hc : ∀ i, i < n → w'.cell? ⟨bo, i, none⟩ = w.cell? ⟨bo, i, none⟩) : NB w' bo n bd := fun i hi v hv => h i hi v ((hc i hi).symm.trans hv)
theorem NB.below (h : NB w bo n bd) (hb : Below w.heap.size w w') (ho : bo < w.heap.size) : NB w' bo n bd := h.keep fun i _ => below_at hb bo i ho
theorem MatG.nb (h : MatG w b0 bo co n len M) : NB w bo n w.heap.size := by
  intro i hi v hv e
  obtain ⟨A, d, hX⟩ := h.row i
  rw [hX.cell hi] at hv
  injection hv with hv
  subst hv
  have := (own_lt (hX.own hi) _ e).2
  omega
theorem MatG.other (h : MatG w b0 bo co n len M) (hR : OwR w b0 (some ⟨bd, 0, none⟩) c m R) (hn : NB w bo n bd) (hg : w.grownBy w' (some bd)) : MatG w' b0 bo co n len M ∧ Kp b0 w w' ∧ NB w' bo n bd ∧ KT w w' := by
  have hk := hR.kp hg
  obtain ⟨_, cur, hb⟩ := h.block
  obtain ⟨_, cur', hb'⟩ := hR.block
  have hne : bo ≠ bd := by
    intro e
    subst e
    rw [hb] at hb'
    injection hb' with hb'
    injection hb' with _ hb' _
    exact absurd hb' (by decide)
  have hlt := h.lt
  have hG := h
  obtain ⟨A, d, Ar, cp, e1, e2, hd, h1, h2⟩ := h
  refine ⟨⟨A, d, Ar, cp, e1, e2, hd, World.ownsRow.kept h1 hg (.inr fun e => by injection e with e; exact hne e), fun j hj => (h2 j hj).keepA hg hk ?_⟩, hk, hn.keep fun i _ => grown_at hg i hlt hne, hR.kt hg⟩
  intro a ha e
  have := hn j hj _ (show w.cell? ⟨bo, j, none⟩ = some (.slice (Ar j) (len j) (cp j)) by rw [World.ownsRow.cellAt h1 j (by omega), rowsC_get hj])
  rw [ha] at this
  exact this e.symm
end
end Go.Proofs.YtomkdgcpmpbfhaaGreatDoor
namespace Go.Proofs.YtomkdgcpmpbfhaaGreatDoor
open Go.RowKit
set_option linter.unusedSimpArgs false
set_option linter.unusedVariables false
set_option maxRecDepth 20000
attribute [local irreducible] nv wp win plainB validR valR canR gj findR elim swp gl low
/-! ## package linear: Det -/
theorem gl_0 (L : Nat) : gl L 0 = L := by unfold gl; rfl
end Go.Proofs.YtomkdgcpmpbfhaaGreatDoor
namespace Go.Proofs.YtomkdgcpmpbfhaaGreatDoor
open Go.RowKit
set_option linter.unusedSimpArgs false
set_option linter.unusedVariables false
set_option maxRecDepth 20000
attribute [local irreducible] nv wp win plainB validR valR canR
/-! ## appending to rows and to rows of rows -/
/-- a matrix of the call's own, its rows anywhere among the call's own blocks -/
def MatO (w : World) (b : Nat) (A : Option Addr) (c n : Nat) (len : Nat → Nat) (M : Nat → Nat → Rat) : Prop :=
  ∃ Ar cp, w.ownsRow b 32 1 (.slice A n c) n (rowsC n Ar len cp) ∧ ∀ j, j < n → OwR w b (Ar j) (cp j) (len j) (can (M j))
theorem Rds.blk {w : World} {s n : Nat} {A : Option Addr} {xs : List Value} (h : Rds w w.heap.size s A n xs) (hn : 0 < n) : BlkIn (fun b => b < w.heap.size) A n := by
  intro _ a ha
  obtain ⟨b, off, e, hb, _⟩ := h.2 hn
  rw [e] at ha
  injection ha with ha
  subst ha
  exact hb
theorem OwR.ri {w : World} {b c n : Nat} {A : Option Addr} {R : Nat → Rw} (h : OwR w b A c n R) (hb : b ≤ w.heap.size) : RowI w w.heap.size A n R := by
  obtain ⟨V, h1, h2⟩ := h.ra
  refine ⟨V, fun k hk => (h1 k hk).base hb, h2, fun hn => ?_⟩
  exact Rds.blk h2 hn hn
theorem MatO.mi {w : World} {b c n : Nat} {A : Option Addr} {len : Nat → Nat} {M : Nat → Nat → Rat} (h : MatO w b A c n len M) (hb : b ≤ w.heap.size) : MatI w w.heap.size A n len (fun i => can (M i)) := by
  obtain ⟨Ar, cp, h1, h2⟩ := h
  have h3 := Rds.of_own h1
  exact ⟨Ar, cp, h3, fun hn => Rds.blk h3 hn hn, fun i hi => ⟨(h2 i hi).cap, (h2 i hi).ri hb⟩⟩
end Go.Proofs.YtomkdgcpmpbfhaaGreatDoor
namespace Go.Proofs.YtomkdgcpmpbfhaaGreatDoor
open Go.RowKit
set_option linter.unusedSimpArgs false
set_option linter.unusedVariables false
set_option maxRecDepth 20000
attribute [local irreducible] nv wp win plainB validR valR canR mvE chkM codeC exK
/-! ## package chain: exit, Exit -/
def Chn.f (c : Chn) (k : Nat) : Nat := (c.F k).toNat
def Chn.t (c : Chn) (k : Nat) : Nat := (c.T k).toNat
def Chn.Ok (c : Chn) : Prop := OkC c.st c.sr c.nm c.F c.T c.q c.nd
theorem Chn.ok_iff {c : Chn} : c.code = 0 ↔ c.Ok := codeC_ok
/-- the rates and their sums are short -/
structure SizC (c : Chn) (L : Nat) : Prop where
  nm : c.nm ≤ 1000000
  L1 : 1 ≤ L
  L2 : L ≤ 1000
  raw : ∀ k, k < c.nm → (c.R k).2.1.length ≤ L ∧ (c.R k).2.2.length ≤ L
  ex : ∀ s k, k ≤ c.nm → Sz L (exK c.f c.q s k)
/-- a store into a block of other cells than words -/
theorem Kp.store {b0 : Nat} {w w2 : World} (h : Kp b0 w w2) {p : Addr} {cur : Array Value} {e : TypeId} {fz : Nat × Nat} (hg : w2.heap[p.block]? = some (.cells cur e fz)) (he : e ≠ 66) (hb : b0 ≤ p.block) (u : Value) : Kp b0 w (w2.setCell p u) := by
  refine h.trans ⟨rfl, rfl, rfl, by simp, fun k hk hw => Below.heap_setCell w2 p u k ?_⟩
  intro e1
  rcases hw with hw | ⟨cur', fz', hw⟩
  · omega
  · rw [e1, hg] at hw
    injection hw with hw
    injection hw with _ hw _
    exact he hw
/-- what kind of block it is -/
def RatB (w : World) (g : Nat) : Prop := ∃ cur fz, w.heap[g]? = some (.cells cur 50 fz)
theorem RatB.below {w w' : World} {g : Nat} {B : Nat} (h : RatB w g) (hb : Below B w w') (hg : g < B) : RatB w' g := by
  obtain ⟨cur, fz, h⟩ := h
  exact ⟨cur, fz, (hb.block g hg).trans h⟩
theorem RatB.new (w : World) (cs : Array Value) : RatB (w.alloc (.cells cs 50)) w.heap.size := ⟨cs, _, heap_alloc_new w _⟩
theorem RatB.set {w : World} {g : Nat} (h : RatB w g) (o : Nat) (u : Value) : RatB (w.setCell ⟨g, o, none⟩ u) g := by
  obtain ⟨cur, fz, h⟩ := h
  refine ⟨cur.setIfInBounds o u, fz, ?_⟩
  simp [World.setCell, Array.getElem?_modify, h]
theorem Kp.store3 {b0 g : Nat} {w : World} (hg : RatB w g) (hb : b0 ≤ g) (a b d : Value) : Kp b0 w (((w.setCell ⟨g, 0, none⟩ a).setCell ⟨g, 1, none⟩ b).setCell ⟨g, 2, none⟩ d) := by
  have h1 := hg.set 0 a
  have h2 := h1.set 1 b
  obtain ⟨_, _, g0⟩ := hg
  obtain ⟨_, _, g1⟩ := h1
  obtain ⟨_, _, g2⟩ := h2
  exact (((Kp.refl b0 w).store (p := ⟨g, 0, none⟩) g0 (by decide) hb a).store (p := ⟨g, 1, none⟩) g1 (by decide) hb b).store (p := ⟨g, 2, none⟩) g2 (by decide) hb d
/-- three cells are stored -/
theorem set3 {w : World} {g o : Nat} {a b d a' b' d' : Value} (h0 : w.cell? ⟨g, o, none⟩ = some a') (h1 : w.cell? ⟨g, o + 1, none⟩ = some b') (h2 : w.cell? ⟨g, o + 2, none⟩ = some d') :
    (((w.setCell ⟨g, o, none⟩ a).setCell ⟨g, o + 1, none⟩ b).setCell ⟨g, o + 2, none⟩ d).cell? ⟨g, o, none⟩ = some a ∧ (((w.setCell ⟨g, o, none⟩ a).setCell ⟨g, o + 1, none⟩ b).setCell ⟨g, o + 2, none⟩ d).cell? ⟨g, o + 1, none⟩ = some b ∧ (((w.setCell ⟨g, o, none⟩ a).setCell ⟨g, o + 1, none⟩ b).setCell ⟨g, o + 2, none⟩ d).cell? ⟨g, o + 2, none⟩ = some d := by
  have n1 : (⟨g, o + 1, none⟩ : Addr) ≠ ⟨g, o, none⟩ := fun e => by injection e with _ e; omega
  have n2 : (⟨g, o + 2, none⟩ : Addr) ≠ ⟨g, o, none⟩ := fun e => by injection e with _ e; omega
  have n3 : (⟨g, o + 2, none⟩ : Addr) ≠ ⟨g, o + 1, none⟩ := fun e => by injection e with _ e; omega
  refine ⟨?_, ?_, ?_⟩
  · rw [World.cell?_setCell_other (h := n2), World.cell?_setCell_other (h := n1)]; exact World.cell?_setCell_same _ _ _ h0
  · rw [World.cell?_setCell_other (h := n3)]; exact World.cell?_setCell_same (u := b') _ _ _ (by rw [World.cell?_setCell_other (h := Ne.symm n1)]; exact h1)
  · exact World.cell?_setCell_same (u := d') _ _ _ (by rw [World.cell?_setCell_other (h := Ne.symm n3), World.cell?_setCell_other (h := Ne.symm n2)]; exact h2)
end Go.Proofs.YtomkdgcpmpbfhaaGreatDoor
namespace Go.Proofs.YtomkdgcpmpbfhaaGreatDoor
open Go.RowKit
set_option linter.unusedSimpArgs false
set_option linter.unusedVariables false
set_option maxRecDepth 20000
attribute [local irreducible] nv wp win plainB validR valR canR mvE chkM codeC exK
/-! ## package transient: Fastest, Start -/
theorem rofOne (W : World) : Calls Tryz.prog 43 #[.int .i64 1] W fun e w' => RetQ W.heap.size 1 e w' ∧ Below W.heap.size W w' := rofQ 1 W (by omega)
/-- what a call needs of a chain -/
structure ChS (c : Chn) (L : Nat) : Prop where
  nm : c.nm ≤ 1000000
  short : Short c.nm c.R
  siz : c.Ok → SizC c L
end Go.Proofs.YtomkdgcpmpbfhaaGreatDoor
namespace Go.Proofs.YtomkdgcpmpbfhaaGreatDoor
open Go.RowKit
set_option linter.unusedSimpArgs false
set_option linter.unusedVariables false
set_option maxRecDepth 20000
attribute [local irreducible] nv wp win plainB validR valR canR mvE chkM codeC exK
/-! ## package transient: Step -/
def allV (n : Nat) (R : Nat → Rw) : Bool := (List.range n).all fun k => validR (R k)
theorem allV_yes {n : Nat} {R : Nat → Rw} (h : ∀ k, k < n → validR (R k) = true) : allV n R = true := List.all_eq_true.2 fun k hk => h k (List.mem_range.1 hk)
theorem allV_no {n k : Nat} {R : Nat → Rw} (hk : k < n) (h : validR (R k) = false) : allV n R = false := by
  cases e : allV n R
  · rfl
  · have := List.all_eq_true.1 e k (List.mem_range.2 hk); rw [h] at this; cases this
theorem allV_at {n k : Nat} {R : Nat → Rw} (h : allV n R = true) (hk : k < n) : validR (R k) = true := List.all_eq_true.1 h k (List.mem_range.2 hk)
end Go.Proofs.YtomkdgcpmpbfhaaGreatDoor
namespace Go.Proofs.YtomkdgcpmpbfhaaGreatDoor
open Go.RowKit
set_option linter.unusedSimpArgs false
set_option linter.unusedVariables false
set_option maxRecDepth 20000
attribute [local irreducible] nv wp win plainB validR valR canR mvE chkM codeC exK
/-! ## package transient: Step -/
def vecQ (n : Nat) (R : Nat → Rw) : Nat → Rat := fun s => if s < n then valR (R s) else 0
theorem RowA.okR' {w : World} {b0 n : Nat} {A : Option Addr} {R : Nat → Rw} (h : RowA w b0 A n R) {k : Nat} (hk : k < n) : okR (R k) := by
  obtain ⟨V, h1, h2⟩ := h
  obtain ⟨_, _, _, _, _, _, _, hok, _⟩ := h1 k hk
  exact hok
theorem RowA.can_ {w : World} {b0 n : Nat} {A : Option Addr} {R : Nat → Rw} (h : RowA w b0 A n R) (hv : allV n R = true) : RowA w b0 A n (can (vecQ n R)) :=
  h.congr fun k hk => by
    show R k = canR (vecQ n R k)
    unfold vecQ
    rw [if_pos hk, canR_valR (h.okR' hk) (allV_at hv hk)]
theorem valR_pos_can {r : Rw} (hok : okR r) (h : 0 < valR r) : canR (valR r) = r := by
  cases hv : validR r
  · exact absurd h (valR_no hv)
  · exact canR_valR hok hv
theorem RdS.ok {w : World} {b0 : Nat} {v : Value} {r : Rw} (h : RdS w b0 v r) : okR r := by
  obtain ⟨_, _, _, _, _, _, _, hok, _⟩ := h
  exact hok
end Go.Proofs.YtomkdgcpmpbfhaaGreatDoor
namespace Go.Proofs.YtomkdgcpmpbfhaaGreatDoor
open Go.RowKit
set_option linter.unusedSimpArgs false
set_option linter.unusedVariables false
set_option maxRecDepth 20000
attribute [local irreducible] nv wp win plainB validR valR canR mvE chkM codeC exK
/-! ## package transient: downs, Downs, First -/
def SumR (g : Nat) (q : Rat) (wr : World) : Prop :=
  ∃ s A1 n1 c1 B1 m1 d1, wr.cell? ⟨g, 0, none⟩ = some (.bool s) ∧ wr.cell? ⟨g, 1, none⟩ = some (.slice A1 n1 c1) ∧ wr.cell? ⟨g, 2, none⟩ = some (.slice B1 m1 d1) ∧ RdS wr 0 (rv s A1 n1 c1 B1 m1 d1) (canR q)
section
variable {w : World} {AM AD : Option Addr} {cm cd L : Nat} {c : Chn} {v : Value} {r : Rw} {n : Int}
end
end Go.Proofs.YtomkdgcpmpbfhaaGreatDoor
namespace Go.Proofs.YtomkdgcpmpbfhaaGreatDoor
open Go.RowKit
set_option linter.unusedSimpArgs false
set_option linter.unusedVariables false
set_option maxRecDepth 20000
attribute [local irreducible] nv wp win plainB validR valR canR mvE chkM codeC exK
/-! ## chains that are small: all numbers stay short -/
structure Small (c : Chn) : Prop where
  nm : c.nm ≤ 120
  raw : ∀ k, k < c.nm → (c.R k).2.1.length ≤ 1 ∧ (c.R k).2.2.length ≤ 1
  ok : ∀ k, k < c.nm → okR (c.R k)
  den : 6 < c.nm → ∀ k, k < c.nm → (c.R k).2.2.length = 1 → nv (c.R k).2.2 < 16
  nd : c.Ok → c.nd ≤ 9
theorem Small.rts {c : Chn} (h : Small c) (ok : c.Ok) : Rts c.nm c.q (dps c.q c.nm) := by
  refine Rts.of h.nm (fun k hk => Sz_valR (h.ok k hk) (by omega) (h.raw k hk).1 (h.raw k hk).2) fun h6 k hk => ?_
  have hq := (ok.mv k hk).2.2.2.2.2.1
  have hc := valR_pos_can (h.ok k hk) hq
  have hq0 : c.q k ≠ 0 := fun e => by rw [e] at hq; exact absurd hq (by decide)
  have hd : (c.R k).2.2 = dig (c.q k).den := by
    rw [← hc]
    show (canR (c.q k)).2.2 = _
    unfold canR
    rw [if_neg hq0]
  have hl : (c.R k).2.2.length = 1 := by
    have h1 := (h.raw k hk).2
    rcases Nat.lt_or_ge (c.R k).2.2.length 1 with h2 | h2
    · have h3 : (dig (c.q k).den).length = 0 := by rw [← hd]; omega
      exact absurd (dig_len_zero.1 h3) (c.q k).den_nz
    · omega
  have := h.den h6 k hk hl
  rw [hd, nv_dig] at this
  omega
theorem Small.siz {c : Chn} (h : Small c) (ok : c.Ok) : SizC c 400 :=
  ⟨by have := h.nm; omega, by omega, by omega, fun k hk => by have := h.raw k hk; omega, fun s k hk => (exK_sz (h.rts ok) s hk).more (by omega)⟩
theorem Small.chS {c : Chn} (h : Small c) : ChS c 400 := ⟨by have := h.nm; omega, fun k hk => by have := h.raw k hk; omega, h.siz⟩
end Go.Proofs.YtomkdgcpmpbfhaaGreatDoor
namespace Go.Proofs.YtomkdgcpmpbfhaaGreatDoor
open Go.RowKit
set_option linter.unusedSimpArgs false
set_option linter.unusedVariables false
set_option maxRecDepth 20000
attribute [local irreducible] nv wp win plainB validR valR canR
/-! ## rows of moves that grow, blocks of a kind -/
/-- what kind of block it is -/
def TyB (t : TypeId) (w : World) (g : Nat) : Prop := ∃ cur fz, w.heap[g]? = some (.cells cur t fz)
section
variable {t : TypeId} {w w' : World} {g b0 : Nat}
theorem TyB.below {B : Nat} (h : TyB t w g) (hb : Below B w w') (hg : g < B) : TyB t w' g := by
  obtain ⟨cur, fz, h⟩ := h
  exact ⟨cur, fz, (hb.block g hg).trans h⟩
theorem TyB.new (w : World) (cs : Array Value) : TyB t (w.alloc (.cells cs t)) w.heap.size := ⟨cs, _, heap_alloc_new w _⟩
theorem TyB.set (h : TyB t w g) (b o : Nat) (u : Value) : TyB t (w.setCell ⟨b, o, none⟩ u) g := by
  obtain ⟨cur, fz, h⟩ := h
  by_cases e : b = g
  · subst e
    refine ⟨cur.setIfInBounds o u, fz, ?_⟩
    simp [World.setCell, Array.getElem?_modify, h]
  · refine ⟨cur, fz, ?_⟩
    simp [World.setCell, Array.getElem?_modify, h, e]
theorem TyB.lt (h : TyB t w g) : g < w.heap.size := by
  obtain ⟨cur, fz, h⟩ := h
  exact (Array.getElem?_eq_some_iff.1 h).1
theorem TyB.grown (h : TyB t w g) {row : Option Nat} (hg : w.grownBy w' row) (hr : some g ≠ row) : TyB t w' g := by
  have hl := h.lt
  obtain ⟨cur, fz, h⟩ := h
  exact ⟨cur, fz, (hg.block g hl hr).trans h⟩
/-- a store into a block that holds no words -/
theorem Kp.set1 (h : TyB t w g) (ht : t ≠ 66) (hb : b0 ≤ g) (o : Nat) (u : Value) : Kp b0 w (w.setCell ⟨g, o, none⟩ u) := by
  obtain ⟨cur, fz, h⟩ := h
  exact (Kp.refl b0 w).store (p := ⟨g, o, none⟩) h ht hb u
end
theorem OwM.blockA {w : World} {b0 c n : Nat} {A : Option Addr} {F T : Nat → Int} {R : Nat → Rw} {a : Addr} (h : OwM w b0 A c n F T R) (ha : A = some a) : b0 ≤ a.block ∧ ∃ cur, w.heap[a.block]? = some (.cells cur 65 (0, 0)) := by
  subst ha
  obtain ⟨V, h1, h2⟩ := h
  rcases h2.2 with ⟨h, _⟩ | ⟨g', cap, cur, e, hb, hg, _⟩
  · cases h
  · injection e with e
    injection e with e
    subst e
    exact ⟨hb, cur, hg⟩
theorem Kp.of_grownT {t : TypeId} {w w' : World} {b0 : Nat} (ht : t ≠ 66) {row : Option Nat} (h : w.grownBy w' row) (hr : ∀ k, row = some k → b0 ≤ k ∧ ∃ cur, w.heap[k]? = some (.cells cur t (0, 0))) : Kp b0 w w' := by
  cases row with
  | none => exact ⟨h.os, h.tape, h.output, h.size, fun k hk _ => h.block k hk (by simp)⟩
  | some g =>
    obtain ⟨h1, cur, h2⟩ := hr g rfl
    exact Kp.grown h h1 h2 ht
theorem OwM.snoc {w w1 : World} {b0 n c' g' : Nat} {F T : Nat → Int} {R : Nat → Rw} {V : Nat → Value} {f t : Int} {v : Value} {r : Rw} (hV : ∀ k, k < n → RdS w b0 (V k) (R k)) (hr : RdS w b0 v r) (hk : Kp b0 w w1)
    (h : w1.ownsRow b0 65 5 (.slice (some ⟨g', 0, none⟩) (n + 1) c') (n + 1) (cellsM n F T V ++ cellM f t v)) : OwM w1 b0 (some ⟨g', 0, none⟩) c' (n + 1) (upd F n f) (upd T n t) (upd R n r) := by
  refine ⟨upd V n v, fun k hkn => ?_, ?_⟩
  · by_cases e : k = n
    · subst e; rw [upd_same, upd_same]; exact hr.kp hk
    · rw [upd_ne _ _ e, upd_ne _ _ e]; exact (hV k (by omega)).kp hk
  · rw [cellsM_succ, upd_same, upd_same, upd_same, cellsM_congr (F' := F) (T' := T) (U := V) fun j hj => ⟨upd_ne _ _ (by omega), upd_ne _ _ (by omega), upd_ne _ _ (by omega)⟩]
    exact h
/-- four cells of a block are stored -/
theorem same4 {w : World} {g : Nat} {u0 u1 u2 u3 : Value} (a b d e : Value) (z0 : w.cell? ⟨g, 0, none⟩ = some u0) (z1 : w.cell? ⟨g, 1, none⟩ = some u1) (z2 : w.cell? ⟨g, 2, none⟩ = some u2) (z3 : w.cell? ⟨g, 3, none⟩ = some u3) :
    (w.setCell ⟨g, 0, none⟩ a).cell? ⟨g, 0, none⟩ = some a ∧ ((w.setCell ⟨g, 0, none⟩ a).setCell ⟨g, 1, none⟩ b).cell? ⟨g, 1, none⟩ = some b
    ∧ (((w.setCell ⟨g, 0, none⟩ a).setCell ⟨g, 1, none⟩ b).setCell ⟨g, 2, none⟩ d).cell? ⟨g, 2, none⟩ = some d ∧ ((((w.setCell ⟨g, 0, none⟩ a).setCell ⟨g, 1, none⟩ b).setCell ⟨g, 2, none⟩ d).setCell ⟨g, 3, none⟩ e).cell? ⟨g, 3, none⟩ = some e := by
  have n : ∀ {i j : Nat}, j ≠ i → (⟨g, i, none⟩ : Addr) ≠ ⟨g, j, none⟩ := fun h e => by injection e with _ e; omega
  refine ⟨World.cell?_setCell_same (u := u0) _ _ _ z0, World.cell?_setCell_same (u := u1) _ _ _ ?_, World.cell?_setCell_same (u := u2) _ _ _ ?_, World.cell?_setCell_same (u := u3) _ _ _ ?_⟩
  · rw [World.cell?_setCell_other (h := n (by omega))]; exact z1
  · rw [World.cell?_setCell_other (h := n (by omega)), World.cell?_setCell_other (h := n (by omega))]; exact z2
  · rw [World.cell?_setCell_other (h := n (by omega)), World.cell?_setCell_other (h := n (by omega)), World.cell?_setCell_other (h := n (by omega))]; exact z3
/-- three blocks that are new -/
theorem alloc3 (w : World) (c0 c1 c2 : Array Value) (t0 t1 t2 : TypeId) : ∃ W, W = ((w.alloc (.cells c0 t0)).alloc (.cells c1 t1)).alloc (.cells c2 t2) ∧ Below w.heap.size w W ∧ W.heap.size = w.heap.size + 3
    ∧ (∀ j, W.cell? ⟨w.heap.size, j, none⟩ = c0[j]?) ∧ (∀ j, W.cell? ⟨w.heap.size + 1, j, none⟩ = c1[j]?) ∧ (∀ j, W.cell? ⟨w.heap.size + 2, j, none⟩ = c2[j]?)
    ∧ (∀ j, W.frozen? ⟨w.heap.size + 1, j, none⟩ = false) ∧ (∀ j, W.frozen? ⟨w.heap.size + 2, j, none⟩ = false) ∧ TyB t1 W (w.heap.size + 1) ∧ TyB t2 W (w.heap.size + 2) := by
  refine ⟨_, rfl, (((Below.refl _ _).alloc (Nat.le_refl _) _).alloc (by simp) _).alloc (by simp; omega) _, by simp, fun j => ?_, fun j => ?_, fun j => ?_, fun j => ?_, fun j => ?_, ?_, ?_⟩
  · rw [World.cell?_alloc_past _ _ _ (by simp; omega), World.cell?_alloc_past _ _ _ (by simp), World.cell?_alloc_at _ _ _ _ rfl]
  · rw [World.cell?_alloc_past _ _ _ (by simp), World.cell?_alloc_at _ _ _ _ (by simp)]
  · rw [World.cell?_alloc_at _ _ _ _ (by simp)]
  · rw [World.frozen?_alloc_past _ _ _ (by simp), World.frozen?_alloc_at _ _ _ _ (by simp)]
  · rw [World.frozen?_alloc_at _ _ _ _ (by simp)]
  · have := TyB.new (t := t1) (w.alloc (.cells c0 t0)) c1
    rw [show (w.alloc (.cells c0 t0)).heap.size = w.heap.size + 1 by simp] at this
    exact this.below ((Below.refl _ _).alloc (Nat.le_refl _) _) (by simp)
  · have := TyB.new (t := t2) ((w.alloc (.cells c0 t0)).alloc (.cells c1 t1)) c2
    rwa [show ((w.alloc (.cells c0 t0)).alloc (.cells c1 t1)).heap.size = w.heap.size + 2 by simp] at this
/-- a store into another block -/
theorem OwM.set1 {ty : TypeId} {w : World} {b0 c n g : Nat} {A : Option Addr} {F T : Nat → Int} {R : Nat → Rw} (h : OwM w b0 A c n F T R) (hT : TyB ty w g) (ht : ty ≠ 66) (hb : b0 ≤ g) (hne : ∀ q, (Value.slice A n c).ownBlock = some q → q ≠ g) (o : Nat) (u : Value) : OwM (w.setCell ⟨g, o, none⟩ u) b0 A c n F T R := by
  obtain ⟨V, h1, h2⟩ := h
  refine ⟨V, fun k hk => (h1 k hk).kp (Kp.set1 hT ht hb o u), h2.kept (row := some g) ⟨rfl, rfl, rfl, by simp, fun k hk hk2 => Below.heap_setCell w ⟨g, o, none⟩ u k (fun e => hk2 (by rw [e]))⟩ ?_⟩
  cases e : (Value.slice A n c).ownBlock with
  | none => exact .inl rfl
  | some q => exact .inr fun e2 => hne q e (by injection e2)
end Go.Proofs.YtomkdgcpmpbfhaaGreatDoor
namespace Go.Proofs.YtomkdgcpmpbfhaaGreatDoor
open Go.RowKit
set_option linter.unusedSimpArgs false
set_option linter.unusedVariables false
set_option maxRecDepth 20000
attribute [local irreducible] nv wp win plainB validR valR canR mvE chkM codeC exK
/-! ## the laws' Few and brief -/
theorem RdS.lens' {w : World} {b0 : Nat} {s : Bool} {A B : Option Addr} {n c m d : Nat} {r : Rw} (h : RdS w b0 (rv s A n c B m d) r) : r.2.1.length = n ∧ r.2.2.length = m ∧ n ≤ c ∧ m ≤ d ∧ RdW w w.heap.size B r.2.2 := by
  obtain ⟨A', c', B', d', e, hc, hd, _, _, hB, _⟩ := h
  unfold rv at e
  injection e with e
  simp at e
  obtain ⟨-, ⟨-, rfl, rfl⟩, ⟨rfl, rfl, rfl⟩⟩ := e
  exact ⟨rfl, rfl, hc, hd, hB⟩
def RetB (P : Prop) (e : Ending) : Prop := ∃ b : Bool, e = .returned (.bool b) ∧ (b = true → P)
theorem retB_f {P : Prop} : RetB P (.returned (.bool false)) := ⟨false, rfl, fun h => nomatch h⟩
theorem retB_t {P : Prop} (h : P) : RetB P (.returned (.bool true)) := ⟨true, rfl, fun _ => h⟩
end Go.Proofs.YtomkdgcpmpbfhaaGreatDoor
