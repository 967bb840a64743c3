/- Contracts of functions and lemmas, used by the proofs of the given statements. No condition beyond those that each lemma names. -/
import Derived.Test.YtlncafhgmbhocaaGreatDoorLinMk
import Derived.Test.YtlncafhgmbhocaaGreatDoorJLinRow
import Derived.Test.YtlncafhgmbhocaaGreatDoorJBase
import Derived.Test.YtlncafhgmbhocaaGreatDoorJChW1
namespace Go.Proofs.YtlncafhgmbhocaaGreatDoor
open Go.RowKit
set_option linter.unusedSimpArgs false
set_option linter.unusedVariables false
/-! ## what is neither a row of fractions nor of rows stays -/
def KT (w w' : World) : Prop := ∀ (k : Nat) (cur : Array Value) (e : TypeId) (fz : Nat × Nat), w.heap[k]? = some (.cells cur e fz) → e ≠ 44 → e ≠ 41 → w'.heap[k]? = w.heap[k]?
/-! ## lists of ints of a call's own -/
section
variable {w w1 w' : World} {base base' c b0 o co n i j g : Nat} {A : Option Addr} {l : List Nat} {len : Nat → Nat} {M : Nat → Nat → Rat}
/-! ## two rows change places -/
theorem MatX.head (h : MatX w b0 o co n i A c len M) (hi : i < n) (hl : 0 < len i) : ∃ g, A = some ⟨g, 0, none⟩ := (h.own hi).form hl
end
end Go.Proofs.YtlncafhgmbhocaaGreatDoor
namespace Go.Proofs.YtlncafhgmbhocaaGreatDoor
open Go.RowKit
set_option linter.unusedSimpArgs false
set_option linter.unusedVariables false
set_option maxRecDepth 20000
attribute [local irreducible] nv wp win plainB validR valR canR
/-! ## appending to rows and to rows of rows -/
/-- a matrix of the call's own, its rows anywhere among the call's own blocks -/
def MatO (w : World) (b : Nat) (A : Option Addr) (c n : Nat) (len : Nat → Nat) (M : Nat → Nat → Rat) : Prop :=
  ∃ Ar cp, w.ownsRow b 41 1 (.slice A n c) n (rowsC n Ar len cp) ∧ ∀ j, j < n → OwR w b (Ar j) (cp j) (len j) (can (M j))
theorem Rds.blk {w : World} {s n : Nat} {A : Option Addr} {xs : List Value} (h : Rds w w.heap.size s A n xs) (hn : 0 < n) : BlkIn (fun b => b < w.heap.size) A n := by
  intro _ a ha
  obtain ⟨b, off, e, hb, _⟩ := h.2 hn
  rw [e] at ha
  injection ha with ha
  subst ha
  exact hb
theorem OwR.ri {w : World} {b c n : Nat} {A : Option Addr} {R : Nat → Rw} (h : OwR w b A c n R) (hb : b ≤ w.heap.size) : RowI w w.heap.size A n R := by
  obtain ⟨V, h1, h2⟩ := h.ra
  refine ⟨V, fun k hk => (h1 k hk).base hb, h2, fun hn => ?_⟩
  exact Rds.blk h2 hn hn
theorem MatO.mi {w : World} {b c n : Nat} {A : Option Addr} {len : Nat → Nat} {M : Nat → Nat → Rat} (h : MatO w b A c n len M) (hb : b ≤ w.heap.size) : MatI w w.heap.size A n len (fun i => can (M i)) := by
  obtain ⟨Ar, cp, h1, h2⟩ := h
  have h3 := Rds.of_own h1
  exact ⟨Ar, cp, h3, fun hn => Rds.blk h3 hn hn, fun i hi => ⟨(h2 i hi).cap, (h2 i hi).ri hb⟩⟩
end Go.Proofs.YtlncafhgmbhocaaGreatDoor
namespace Go.Proofs.YtlncafhgmbhocaaGreatDoor
open Go.RowKit
set_option linter.unusedSimpArgs false
set_option linter.unusedVariables false
set_option maxRecDepth 20000
attribute [local irreducible] nv wp win plainB validR valR canR mvE chkM codeC exK
/-! ## package chain: exit, Exit -/
def Chn.f (c : Chn) (k : Nat) : Nat := (c.F k).toNat
def Chn.t (c : Chn) (k : Nat) : Nat := (c.T k).toNat
def Chn.Ok (c : Chn) : Prop := OkC c.st c.sr c.nm c.F c.T c.q c.nd
theorem Chn.ok_iff {c : Chn} : c.code = 0 ↔ c.Ok := codeC_ok
/-- the rates and their sums are short -/
structure SizC (c : Chn) (L : Nat) : Prop where
  nm : c.nm ≤ 1000000
  L1 : 1 ≤ L
  L2 : L ≤ 1000
  raw : ∀ k, k < c.nm → (c.R k).2.1.length ≤ L ∧ (c.R k).2.2.length ≤ L
  ex : ∀ s k, k ≤ c.nm → Sz L (exK c.f c.q s k)
/-- a store into a block of other cells than words -/
theorem Kp.store {b0 : Nat} {w w2 : World} (h : Kp b0 w w2) {p : Addr} {cur : Array Value} {e : TypeId} {fz : Nat × Nat} (hg : w2.heap[p.block]? = some (.cells cur e fz)) (he : e ≠ 67) (hb : b0 ≤ p.block) (u : Value) : Kp b0 w (w2.setCell p u) := by
  refine h.trans ⟨rfl, rfl, rfl, by simp, fun k hk hw => Below.heap_setCell w2 p u k ?_⟩
  intro e1
  rcases hw with hw | ⟨cur', fz', hw⟩
  · omega
  · rw [e1, hg] at hw
    injection hw with hw
    injection hw with _ hw _
    exact he hw
/-- what kind of block it is -/
def RatB (w : World) (g : Nat) : Prop := ∃ cur fz, w.heap[g]? = some (.cells cur 44 fz)
theorem RatB.below {w w' : World} {g : Nat} {B : Nat} (h : RatB w g) (hb : Below B w w') (hg : g < B) : RatB w' g := by
  obtain ⟨cur, fz, h⟩ := h
  exact ⟨cur, fz, (hb.block g hg).trans h⟩
theorem RatB.new (w : World) (cs : Array Value) : RatB (w.alloc (.cells cs 44)) w.heap.size := ⟨cs, _, heap_alloc_new w _⟩
theorem RatB.set {w : World} {g : Nat} (h : RatB w g) (o : Nat) (u : Value) : RatB (w.setCell ⟨g, o, none⟩ u) g := by
  obtain ⟨cur, fz, h⟩ := h
  refine ⟨cur.setIfInBounds o u, fz, ?_⟩
  simp [World.setCell, Array.getElem?_modify, h]
theorem Kp.store3 {b0 g : Nat} {w : World} (hg : RatB w g) (hb : b0 ≤ g) (a b d : Value) : Kp b0 w (((w.setCell ⟨g, 0, none⟩ a).setCell ⟨g, 1, none⟩ b).setCell ⟨g, 2, none⟩ d) := by
  have h1 := hg.set 0 a
  have h2 := h1.set 1 b
  obtain ⟨_, _, g0⟩ := hg
  obtain ⟨_, _, g1⟩ := h1
  obtain ⟨_, _, g2⟩ := h2
  exact (((Kp.refl b0 w).store (p := ⟨g, 0, none⟩) g0 (by decide) hb a).store (p := ⟨g, 1, none⟩) g1 (by decide) hb b).store (p := ⟨g, 2, none⟩) g2 (by decide) hb d
/-- three cells are stored -/
theorem set3 {w : World} {g o : Nat} {a b d a' b' d' : Value} (h0 : w.cell? ⟨g, o, none⟩ = some a') (h1 : w.cell? ⟨g, o + 1, none⟩ = some b') (h2 : w.cell? ⟨g, o + 2, none⟩ = some d') :
    (((w.setCell ⟨g, o, none⟩ a).setCell ⟨g, o + 1, none⟩ b).setCell ⟨g, o + 2, none⟩ d).cell? ⟨g, o, none⟩ = some a ∧ (((w.setCell ⟨g, o, none⟩ a).setCell ⟨g, o + 1, none⟩ b).setCell ⟨g, o + 2, none⟩ d).cell? ⟨g, o + 1, none⟩ = some b ∧ (((w.setCell ⟨g, o, none⟩ a).setCell ⟨g, o + 1, none⟩ b).setCell ⟨g, o + 2, none⟩ d).cell? ⟨g, o + 2, none⟩ = some d := by
  have n1 : (⟨g, o + 1, none⟩ : Addr) ≠ ⟨g, o, none⟩ := fun e => by injection e with _ e; omega
  have n2 : (⟨g, o + 2, none⟩ : Addr) ≠ ⟨g, o, none⟩ := fun e => by injection e with _ e; omega
  have n3 : (⟨g, o + 2, none⟩ : Addr) ≠ ⟨g, o + 1, none⟩ := fun e => by injection e with _ e; omega
  refine ⟨?_, ?_, ?_⟩
  · rw [World.cell?_setCell_other (h := n2), World.cell?_setCell_other (h := n1)]; exact World.cell?_setCell_same _ _ _ h0
  · rw [World.cell?_setCell_other (h := n3)]; exact World.cell?_setCell_same (u := b') _ _ _ (by rw [World.cell?_setCell_other (h := Ne.symm n1)]; exact h1)
  · exact World.cell?_setCell_same (u := d') _ _ _ (by rw [World.cell?_setCell_other (h := Ne.symm n3), World.cell?_setCell_other (h := Ne.symm n2)]; exact h2)
end Go.Proofs.YtlncafhgmbhocaaGreatDoor
namespace Go.Proofs.YtlncafhgmbhocaaGreatDoor
open Go.RowKit
set_option linter.unusedSimpArgs false
set_option linter.unusedVariables false
set_option maxRecDepth 20000
attribute [local irreducible] nv wp win plainB validR valR canR mvE chkM codeC exK
/-! ## package transient: Fastest, Start -/
/-- what a call needs of a chain -/
structure ChS (c : Chn) (L : Nat) : Prop where
  nm : c.nm ≤ 1000000
  short : Short c.nm c.R
  siz : c.Ok → SizC c L
end Go.Proofs.YtlncafhgmbhocaaGreatDoor
namespace Go.Proofs.YtlncafhgmbhocaaGreatDoor
open Go.RowKit
set_option linter.unusedSimpArgs false
set_option linter.unusedVariables false
set_option maxRecDepth 20000
attribute [local irreducible] nv wp win plainB validR valR canR mvE chkM codeC exK
/-! ## package transient: Step -/
theorem valR_pos_can {r : Rw} (hok : okR r) (h : 0 < valR r) : canR (valR r) = r := by
  cases hv : validR r
  · exact absurd h (valR_no hv)
  · exact canR_valR hok hv
theorem RdS.ok {w : World} {b0 : Nat} {v : Value} {r : Rw} (h : RdS w b0 v r) : okR r := by
  obtain ⟨_, _, _, _, _, _, _, hok, _⟩ := h
  exact hok
end Go.Proofs.YtlncafhgmbhocaaGreatDoor
namespace Go.Proofs.YtlncafhgmbhocaaGreatDoor
open Go.RowKit
set_option linter.unusedSimpArgs false
set_option linter.unusedVariables false
set_option maxRecDepth 20000
attribute [local irreducible] nv wp win plainB validR valR canR mvE chkM codeC exK
/-! ## package transient: downs, Downs, First -/
def SumR (g : Nat) (q : Rat) (wr : World) : Prop :=
  ∃ s A1 n1 c1 B1 m1 d1, wr.cell? ⟨g, 0, none⟩ = some (.bool s) ∧ wr.cell? ⟨g, 1, none⟩ = some (.slice A1 n1 c1) ∧ wr.cell? ⟨g, 2, none⟩ = some (.slice B1 m1 d1) ∧ RdS wr 0 (rv s A1 n1 c1 B1 m1 d1) (canR q)
section
variable {w : World} {AM AD : Option Addr} {cm cd L : Nat} {c : Chn} {v : Value} {r : Rw} {n : Int}
end
end Go.Proofs.YtlncafhgmbhocaaGreatDoor
namespace Go.Proofs.YtlncafhgmbhocaaGreatDoor
open Go.RowKit
set_option linter.unusedSimpArgs false
set_option linter.unusedVariables false
set_option maxRecDepth 20000
attribute [local irreducible] nv wp win plainB validR valR canR mvE chkM codeC exK
/-! ## chains that are small: all numbers stay short -/
structure Small (c : Chn) : Prop where
  nm : c.nm ≤ 120
  raw : ∀ k, k < c.nm → (c.R k).2.1.length ≤ 1 ∧ (c.R k).2.2.length ≤ 1
  ok : ∀ k, k < c.nm → okR (c.R k)
  den : 6 < c.nm → ∀ k, k < c.nm → (c.R k).2.2.length = 1 → nv (c.R k).2.2 < 16
  nd : c.Ok → c.nd ≤ 9
theorem Small.rts {c : Chn} (h : Small c) (ok : c.Ok) : Rts c.nm c.q (dps c.q c.nm) := by
  refine Rts.of h.nm (fun k hk => Sz_valR (h.ok k hk) (by omega) (h.raw k hk).1 (h.raw k hk).2) fun h6 k hk => ?_
  have hq := (ok.mv k hk).2.2.2.2.2.1
  have hc := valR_pos_can (h.ok k hk) hq
  have hq0 : c.q k ≠ 0 := fun e => by rw [e] at hq; exact absurd hq (by decide)
  have hd : (c.R k).2.2 = dig (c.q k).den := by
    rw [← hc]
    show (canR (c.q k)).2.2 = _
    unfold canR
    rw [if_neg hq0]
  have hl : (c.R k).2.2.length = 1 := by
    have h1 := (h.raw k hk).2
    rcases Nat.lt_or_ge (c.R k).2.2.length 1 with h2 | h2
    · have h3 : (dig (c.q k).den).length = 0 := by rw [← hd]; omega
      exact absurd (dig_len_zero.1 h3) (c.q k).den_nz
    · omega
  have := h.den h6 k hk hl
  rw [hd, nv_dig] at this
  omega
theorem Small.siz {c : Chn} (h : Small c) (ok : c.Ok) : SizC c 400 :=
  ⟨by have := h.nm; omega, by omega, by omega, fun k hk => by have := h.raw k hk; omega, fun s k hk => (exK_sz (h.rts ok) s hk).more (by omega)⟩
theorem Small.chS {c : Chn} (h : Small c) : ChS c 400 := ⟨by have := h.nm; omega, fun k hk => by have := h.raw k hk; omega, h.siz⟩
end Go.Proofs.YtlncafhgmbhocaaGreatDoor
namespace Go.Proofs.YtlncafhgmbhocaaGreatDoor
open Go.RowKit
set_option linter.unusedSimpArgs false
set_option linter.unusedVariables false
set_option maxRecDepth 20000
attribute [local irreducible] nv wp win plainB validR valR canR
/-! ## rows of moves that grow, blocks of a kind -/
/-- what kind of block it is -/
def TyB (t : TypeId) (w : World) (g : Nat) : Prop := ∃ cur fz, w.heap[g]? = some (.cells cur t fz)
section
variable {t : TypeId} {w w' : World} {g b0 : Nat}
theorem TyB.below {B : Nat} (h : TyB t w g) (hb : Below B w w') (hg : g < B) : TyB t w' g := by
  obtain ⟨cur, fz, h⟩ := h
  exact ⟨cur, fz, (hb.block g hg).trans h⟩
theorem TyB.new (w : World) (cs : Array Value) : TyB t (w.alloc (.cells cs t)) w.heap.size := ⟨cs, _, heap_alloc_new w _⟩
theorem TyB.set (h : TyB t w g) (b o : Nat) (u : Value) : TyB t (w.setCell ⟨b, o, none⟩ u) g := by
  obtain ⟨cur, fz, h⟩ := h
  by_cases e : b = g
  · subst e
    refine ⟨cur.setIfInBounds o u, fz, ?_⟩
    simp [World.setCell, Array.getElem?_modify, h]
  · refine ⟨cur, fz, ?_⟩
    simp [World.setCell, Array.getElem?_modify, h, e]
theorem TyB.lt (h : TyB t w g) : g < w.heap.size := by
  obtain ⟨cur, fz, h⟩ := h
  exact (Array.getElem?_eq_some_iff.1 h).1
theorem TyB.grown (h : TyB t w g) {row : Option Nat} (hg : w.grownBy w' row) (hr : some g ≠ row) : TyB t w' g := by
  have hl := h.lt
  obtain ⟨cur, fz, h⟩ := h
  exact ⟨cur, fz, (hg.block g hl hr).trans h⟩
/-- a store into a block that holds no words -/
theorem Kp.set1 (h : TyB t w g) (ht : t ≠ 67) (hb : b0 ≤ g) (o : Nat) (u : Value) : Kp b0 w (w.setCell ⟨g, o, none⟩ u) := by
  obtain ⟨cur, fz, h⟩ := h
  exact (Kp.refl b0 w).store (p := ⟨g, o, none⟩) h ht hb u
end
theorem OwM.blockA {w : World} {b0 c n : Nat} {A : Option Addr} {F T : Nat → Int} {R : Nat → Rw} {a : Addr} (h : OwM w b0 A c n F T R) (ha : A = some a) : b0 ≤ a.block ∧ ∃ cur, w.heap[a.block]? = some (.cells cur 46 (0, 0)) := by
  subst ha
  obtain ⟨V, h1, h2⟩ := h
  rcases h2.2 with ⟨h, _⟩ | ⟨g', cap, cur, e, hb, hg, _⟩
  · cases h
  · injection e with e
    injection e with e
    subst e
    exact ⟨hb, cur, hg⟩
theorem Kp.of_grownT {t : TypeId} {w w' : World} {b0 : Nat} (ht : t ≠ 67) {row : Option Nat} (h : w.grownBy w' row) (hr : ∀ k, row = some k → b0 ≤ k ∧ ∃ cur, w.heap[k]? = some (.cells cur t (0, 0))) : Kp b0 w w' := by
  cases row with
  | none => exact ⟨h.os, h.tape, h.output, h.size, fun k hk _ => h.block k hk (by simp)⟩
  | some g =>
    obtain ⟨h1, cur, h2⟩ := hr g rfl
    exact Kp.grown h h1 h2 ht
theorem OwM.snoc {w w1 : World} {b0 n c' g' : Nat} {F T : Nat → Int} {R : Nat → Rw} {V : Nat → Value} {f t : Int} {v : Value} {r : Rw} (hV : ∀ k, k < n → RdS w b0 (V k) (R k)) (hr : RdS w b0 v r) (hk : Kp b0 w w1)
    (h : w1.ownsRow b0 46 5 (.slice (some ⟨g', 0, none⟩) (n + 1) c') (n + 1) (cellsM n F T V ++ cellM f t v)) : OwM w1 b0 (some ⟨g', 0, none⟩) c' (n + 1) (upd F n f) (upd T n t) (upd R n r) := by
  refine ⟨upd V n v, fun k hkn => ?_, ?_⟩
  · by_cases e : k = n
    · subst e; rw [upd_same, upd_same]; exact hr.kp hk
    · rw [upd_ne _ _ e, upd_ne _ _ e]; exact (hV k (by omega)).kp hk
  · rw [cellsM_succ, upd_same, upd_same, upd_same, cellsM_congr (F' := F) (T' := T) (U := V) fun j hj => ⟨upd_ne _ _ (by omega), upd_ne _ _ (by omega), upd_ne _ _ (by omega)⟩]
    exact h
/-- out = append(out, m) -/
theorem wpList_appM1 {w : World} {ops : Array Oper} {rest : List Oper} {o : Oper} {a : Act} {Q : Exit → Act → World → Prop} (hgd : o.guard = none) (s x : Operand)
    (ho : o.op = .call { callee := .builtin .append, args := #[s, x], argTypes := #[22, 22] })
    (b0 : Nat) (A : Option Addr) (c n : Nat) (F T : Nat → Int) (R : Nat → Rw) (hs : a.eval s = .slice A n c) (hown : OwM w b0 A c n F T R)
    (B : Nat) (f t : Int) (sg : Bool) (A1 : Option Addr) (n1 c1 : Nat) (B1 : Option Addr) (m1 d1 : Nat) (r : Rw) (hx : a.eval x = .slice (some ⟨B, 0, none⟩) 1 1)
    (hc0 : w.cell? ⟨B, 0, none⟩ = some (.int .i64 f)) (hc1 : w.cell? ⟨B, 1, none⟩ = some (.int .i64 t)) (hc2 : w.cell? ⟨B, 2, none⟩ = some (.bool sg)) (hc3 : w.cell? ⟨B, 3, none⟩ = some (.slice A1 n1 c1)) (hc4 : w.cell? ⟨B, 4, none⟩ = some (.slice B1 m1 d1)) (hr : RdS w b0 (rv sg A1 n1 c1 B1 m1 d1) r)
    (hn : n ≤ 1000000) (hbase : b0 ≤ w.heap.size)
    (h : ∀ g cap w', OwM w' b0 (some ⟨g, 0, none⟩) cap (n + 1) (upd F n f) (upd T n t) (upd R n r) → w.grownBy w' (Value.slice A n c).ownBlock → ((Value.slice A n c).ownBlock = some g ∨ w.heap.size ≤ g) → g < w'.heap.size → wpList Tryz.prog ops Q rest (a.put o.dst (.slice (some ⟨g, 0, none⟩) (n + 1) cap)) w') : wpList Tryz.prog ops Q (o :: rest) a w := by
  obtain ⟨i0, hi0, hz0, hz1, hz2⟩ := info_parts moveInfo
  have hown0 := hown
  obtain ⟨V, hV, hown⟩ := hown
  refine wpList_append_lies _ hgd s x 22 ho b0 46 i0 _ 5 72 Tryz.underlying22 hi0 hz0 hz1 hz2 rfl (by omega) _ n _ hs hown ⟨B, 0, none⟩ 1 1 (cellM f t (rv sg A1 n1 c1 B1 m1 d1)) hx rfl ?_ ?_ (by omega) (by unfold maxLen; omega) (by omega) hbase w.heap.size rfl ?_
  · intro j u hu
    rw [addr_add, Nat.zero_add]
    match j, hu with
    | 0, hu => simp [cellM, c3] at hu; subst hu; exact hc0
    | 1, hu => simp [cellM, c3] at hu; subst hu; exact hc1
    | 2, hu => simp [cellM, c3] at hu; subst hu; exact hc2
    | 3, hu => simp [cellM, c3] at hu; subst hu; exact hc3
    | 4, hu => simp [cellM, c3] at hu; subst hu; exact hc4
    | j + 5, hu => simp [cellM, c3] at hu
  · intro u hu
    simp [cellM, c3] at hu
    rcases hu with rfl | rfl | rfl | rfl | rfl <;> rfl
  · intro g cap w' h1 h2 h3 h4
    refine h g cap w' (OwM.snoc hV hr (Kp.of_grownT (t := 46) (by decide) h2 ?_) h1) h2 (h3.imp id fun e => by omega) h4
    intro k hk
    cases e : A with
    | none => rw [e] at hk; cases hk
    | some a =>
      rw [e] at hk
      injection hk with hk
      subst hk
      exact hown0.blockA e
/-- four cells of a block are stored -/
theorem same4 {w : World} {g : Nat} {u0 u1 u2 u3 : Value} (a b d e : Value) (z0 : w.cell? ⟨g, 0, none⟩ = some u0) (z1 : w.cell? ⟨g, 1, none⟩ = some u1) (z2 : w.cell? ⟨g, 2, none⟩ = some u2) (z3 : w.cell? ⟨g, 3, none⟩ = some u3) :
    (w.setCell ⟨g, 0, none⟩ a).cell? ⟨g, 0, none⟩ = some a ∧ ((w.setCell ⟨g, 0, none⟩ a).setCell ⟨g, 1, none⟩ b).cell? ⟨g, 1, none⟩ = some b
    ∧ (((w.setCell ⟨g, 0, none⟩ a).setCell ⟨g, 1, none⟩ b).setCell ⟨g, 2, none⟩ d).cell? ⟨g, 2, none⟩ = some d ∧ ((((w.setCell ⟨g, 0, none⟩ a).setCell ⟨g, 1, none⟩ b).setCell ⟨g, 2, none⟩ d).setCell ⟨g, 3, none⟩ e).cell? ⟨g, 3, none⟩ = some e := by
  have n : ∀ {i j : Nat}, j ≠ i → (⟨g, i, none⟩ : Addr) ≠ ⟨g, j, none⟩ := fun h e => by injection e with _ e; omega
  refine ⟨World.cell?_setCell_same (u := u0) _ _ _ z0, World.cell?_setCell_same (u := u1) _ _ _ ?_, World.cell?_setCell_same (u := u2) _ _ _ ?_, World.cell?_setCell_same (u := u3) _ _ _ ?_⟩
  · rw [World.cell?_setCell_other (h := n (by omega))]; exact z1
  · rw [World.cell?_setCell_other (h := n (by omega)), World.cell?_setCell_other (h := n (by omega))]; exact z2
  · rw [World.cell?_setCell_other (h := n (by omega)), World.cell?_setCell_other (h := n (by omega)), World.cell?_setCell_other (h := n (by omega))]; exact z3
/-- three blocks that are new -/
theorem alloc3 (w : World) (c0 c1 c2 : Array Value) (t0 t1 t2 : TypeId) : ∃ W, W = ((w.alloc (.cells c0 t0)).alloc (.cells c1 t1)).alloc (.cells c2 t2) ∧ Below w.heap.size w W ∧ W.heap.size = w.heap.size + 3
    ∧ (∀ j, W.cell? ⟨w.heap.size, j, none⟩ = c0[j]?) ∧ (∀ j, W.cell? ⟨w.heap.size + 1, j, none⟩ = c1[j]?) ∧ (∀ j, W.cell? ⟨w.heap.size + 2, j, none⟩ = c2[j]?)
    ∧ (∀ j, W.frozen? ⟨w.heap.size + 1, j, none⟩ = false) ∧ (∀ j, W.frozen? ⟨w.heap.size + 2, j, none⟩ = false) ∧ TyB t1 W (w.heap.size + 1) ∧ TyB t2 W (w.heap.size + 2) := by
  refine ⟨_, rfl, (((Below.refl _ _).alloc (Nat.le_refl _) _).alloc (by simp) _).alloc (by simp; omega) _, by simp, fun j => ?_, fun j => ?_, fun j => ?_, fun j => ?_, fun j => ?_, ?_, ?_⟩
  · rw [World.cell?_alloc_past _ _ _ (by simp; omega), World.cell?_alloc_past _ _ _ (by simp), World.cell?_alloc_at _ _ _ _ rfl]
  · rw [World.cell?_alloc_past _ _ _ (by simp), World.cell?_alloc_at _ _ _ _ (by simp)]
  · rw [World.cell?_alloc_at _ _ _ _ (by simp)]
  · rw [World.frozen?_alloc_past _ _ _ (by simp), World.frozen?_alloc_at _ _ _ _ (by simp)]
  · rw [World.frozen?_alloc_at _ _ _ _ (by simp)]
  · have := TyB.new (t := t1) (w.alloc (.cells c0 t0)) c1
    rw [show (w.alloc (.cells c0 t0)).heap.size = w.heap.size + 1 by simp] at this
    exact this.below ((Below.refl _ _).alloc (Nat.le_refl _) _) (by simp)
  · have := TyB.new (t := t2) ((w.alloc (.cells c0 t0)).alloc (.cells c1 t1)) c2
    rwa [show ((w.alloc (.cells c0 t0)).alloc (.cells c1 t1)).heap.size = w.heap.size + 2 by simp] at this
/-- a store into another block -/
theorem OwM.set1 {ty : TypeId} {w : World} {b0 c n g : Nat} {A : Option Addr} {F T : Nat → Int} {R : Nat → Rw} (h : OwM w b0 A c n F T R) (hT : TyB ty w g) (ht : ty ≠ 67) (hb : b0 ≤ g) (hne : ∀ q, (Value.slice A n c).ownBlock = some q → q ≠ g) (o : Nat) (u : Value) : OwM (w.setCell ⟨g, o, none⟩ u) b0 A c n F T R := by
  obtain ⟨V, h1, h2⟩ := h
  refine ⟨V, fun k hk => (h1 k hk).kp (Kp.set1 hT ht hb o u), h2.kept (row := some g) ⟨rfl, rfl, rfl, by simp, fun k hk hk2 => Below.heap_setCell w ⟨g, o, none⟩ u k (fun e => hk2 (by rw [e]))⟩ ?_⟩
  cases e : (Value.slice A n c).ownBlock with
  | none => exact .inl rfl
  | some q => exact .inr fun e2 => hne q e (by injection e2)
end Go.Proofs.YtlncafhgmbhocaaGreatDoor
namespace Go.Proofs.YtlncafhgmbhocaaGreatDoor
open Go.RowKit
set_option linter.unusedSimpArgs false
set_option linter.unusedVariables false
set_option maxRecDepth 20000
attribute [local irreducible] nv wp win plainB validR valR canR mvE chkM codeC exK
/-! ## the laws' Few and brief -/
theorem RdS.lens' {w : World} {b0 : Nat} {s : Bool} {A B : Option Addr} {n c m d : Nat} {r : Rw} (h : RdS w b0 (rv s A n c B m d) r) : r.2.1.length = n ∧ r.2.2.length = m ∧ n ≤ c ∧ m ≤ d ∧ RdW w w.heap.size B r.2.2 := by
  obtain ⟨A', c', B', d', e, hc, hd, _, _, hB, _⟩ := h
  unfold rv at e
  injection e with e
  simp at e
  obtain ⟨-, ⟨-, rfl, rfl⟩, ⟨rfl, rfl, rfl⟩⟩ := e
  exact ⟨rfl, rfl, hc, hd, hB⟩
def RetB (P : Prop) (e : Ending) : Prop := ∃ b : Bool, e = .returned (.bool b) ∧ (b = true → P)
theorem retB_f {P : Prop} : RetB P (.returned (.bool false)) := ⟨false, rfl, fun h => nomatch h⟩
theorem retB_t {P : Prop} (h : P) : RetB P (.returned (.bool true)) := ⟨true, rfl, fun _ => h⟩
end Go.Proofs.YtlncafhgmbhocaaGreatDoor
namespace Go.Proofs.YtlncafhgmbhocaaGreatDoor
open Go.RowKit
set_option linter.unusedSimpArgs false
set_option linter.unusedVariables false
set_option maxRecDepth 20000
attribute [local irreducible] nv wp win plainB validR valR canR mvE chkM codeC
/-- out = append(out, m), at a step of a region that draws -/
theorem step_appM {w : World} {ops : Array Oper} {o : Oper} {a : Act} {K : Act → World → Prop} {Q : Exit → Act → World → Prop} {E : Prop} (hgd : o.guard = none) (s x : Operand)
    (ho : o.op = .call { callee := .builtin .append, args := #[s, x], argTypes := #[22, 22] })
    (b0 : Nat) (A : Option Addr) (c n : Nat) (F T : Nat → Int) (R : Nat → Rw) (hs : a.eval s = .slice A n c) (hown : OwM w b0 A c n F T R)
    (B : Nat) (f t : Int) (sg : Bool) (A1 : Option Addr) (n1 c1 : Nat) (B1 : Option Addr) (m1 d1 : Nat) (r : Rw) (hx : a.eval x = .slice (some ⟨B, 0, none⟩) 1 1)
    (hc0 : w.cell? ⟨B, 0, none⟩ = some (.int .i64 f)) (hc1 : w.cell? ⟨B, 1, none⟩ = some (.int .i64 t)) (hc2 : w.cell? ⟨B, 2, none⟩ = some (.bool sg)) (hc3 : w.cell? ⟨B, 3, none⟩ = some (.slice A1 n1 c1)) (hc4 : w.cell? ⟨B, 4, none⟩ = some (.slice B1 m1 d1)) (hr : RdS w b0 (rv sg A1 n1 c1 B1 m1 d1) r)
    (hn : n ≤ 1000000) (hbase : b0 ≤ w.heap.size)
    (h : ∀ g cap w', OwM w' b0 (some ⟨g, 0, none⟩) cap (n + 1) (upd F n f) (upd T n t) (upd R n r) → w.grownBy w' (Value.slice A n c).ownBlock → ((Value.slice A n c).ownBlock = some g ∨ w.heap.size ≤ g) → g < w'.heap.size → K (a.put o.dst (.slice (some ⟨g, 0, none⟩) (n + 1) cap)) w') :
    if Region.wanted o (yielded ops a.tmps) = true then Oper.wp Tryz.prog o a w K Q else E := by
  obtain ⟨i0, hi0, hz0, hz1, hz2⟩ := info_parts moveInfo
  have hown0 := hown
  obtain ⟨V, hV, hown⟩ := hown
  refine step_append_lies _ hgd s x 22 ho b0 46 i0 _ 5 72 Tryz.underlying22 hi0 hz0 hz1 hz2 rfl (by omega) _ n _ hs hown ⟨B, 0, none⟩ 1 1 (cellM f t (rv sg A1 n1 c1 B1 m1 d1)) hx rfl ?_ ?_ (by omega) (by unfold maxLen; omega) (by omega) hbase w.heap.size rfl ?_
  · intro j u hu
    rw [addr_add, Nat.zero_add]
    match j, hu with
    | 0, hu => simp [cellM, c3] at hu; subst hu; exact hc0
    | 1, hu => simp [cellM, c3] at hu; subst hu; exact hc1
    | 2, hu => simp [cellM, c3] at hu; subst hu; exact hc2
    | 3, hu => simp [cellM, c3] at hu; subst hu; exact hc3
    | 4, hu => simp [cellM, c3] at hu; subst hu; exact hc4
    | j + 5, hu => simp [cellM, c3] at hu
  · intro u hu
    simp [cellM, c3] at hu
    rcases hu with rfl | rfl | rfl | rfl | rfl <;> rfl
  · intro g cap w' h1 h2 h3 h4
    refine h g cap w' (OwM.snoc hV hr (Kp.of_grownT (t := 46) (by decide) h2 ?_) h1) h2 (h3.imp id fun e => by omega) h4
    intro k hk
    cases e : A with
    | none => rw [e] at hk; cases hk
    | some a =>
      rw [e] at hk
      injection hk with hk
      subst hk
      exact hown0.blockA e
end Go.Proofs.YtlncafhgmbhocaaGreatDoor
namespace Go.Proofs.YtlncafhgmbhocaaGreatDoor
open Go.RowKit
set_option linter.unusedSimpArgs false
set_option linter.unusedVariables false
set_option maxRecDepth 20000
attribute [local irreducible] nv wp win plainB validR valR canR
/-! ## variables that hold a fraction -/
/-- a variable that holds a fraction -/
def VarR (g : Nat) (q : Rat) (w : World) : Prop := SumR g q w ∧ RatB w g ∧ g < w.heap.size ∧ ∀ i, w.frozen? ⟨g, i, none⟩ = false
section
variable {g g' : Nat} {q q' : Rat} {w w' : World}
theorem VarR.below (h : VarR g q w) (hb : Below w.heap.size w w') : VarR g q w' := by
  obtain ⟨⟨s, A, n, c, B, m, d, h0, h1, h2, r⟩, hB, hz, hf⟩ := h
  exact ⟨⟨s, A, n, c, B, m, d, (hb.cell (p := ⟨g, 0, none⟩) hz).trans h0, (hb.cell (p := ⟨g, 1, none⟩) hz).trans h1, (hb.cell (p := ⟨g, 2, none⟩) hz).trans h2, r.kp (Kp.of_below hb)⟩, hB.below hb hz, Nat.lt_of_lt_of_le hz hb.size, fun i => (hb.frozen (p := ⟨g, i, none⟩) hz).trans (hf i)⟩
theorem VarR.new (w : World) : VarR w.heap.size 0 (w.alloc (.cells #[.bool false, .slice none 0 0, .slice none 0 0] 44)) :=
  ⟨⟨false, none, 0, 0, none, 0, 0, (World.cell?_alloc_at _ _ _ _ rfl).trans rfl, (World.cell?_alloc_at _ _ _ _ rfl).trans rfl, (World.cell?_alloc_at _ _ _ _ rfl).trans rfl, (OwQ.zero _ 0).rs⟩, RatB.new _ _, by simp, fun i => World.frozen?_alloc_at _ _ _ _ rfl⟩
theorem VarR.put (h : VarR g q w) {s : Bool} {A B : Option Addr} {n c m d : Nat} (hv : RdS w 0 (rv s A n c B m d) (canR q')) : VarR g q' (((w.setCell ⟨g, 0, none⟩ (.bool s)).setCell ⟨g, 1, none⟩ (.slice A n c)).setCell ⟨g, 2, none⟩ (.slice B m d)) := by
  obtain ⟨⟨s1, A1, n1, c1, B1, m1, d1, h0, h1, h2, r⟩, hB, hz, hf⟩ := h
  have s9 := set3 (w := w) (g := g) (o := 0) (a := .bool s) (b := .slice A n c) (d := .slice B m d) h0 h1 h2
  exact ⟨⟨s, A, n, c, B, m, d, s9.1, s9.2.1, s9.2.2, hv.kp (Kp.store3 hB (Nat.zero_le _) _ _ _)⟩, ((hB.set _ _).set _ _).set _ _, by simpa using hz, fun i => by rw [World.frozen?_setCell, World.frozen?_setCell, World.frozen?_setCell]; exact hf i⟩
end
theorem below_set3 {B g : Nat} {w w' : World} (h : Below B w w') (hg : B ≤ g) (a b d : Value) : Below B w (((w'.setCell ⟨g, 0, none⟩ a).setCell ⟨g, 1, none⟩ b).setCell ⟨g, 2, none⟩ d) :=
  ((h.setCell hg _).setCell hg _).setCell hg _
end Go.Proofs.YtlncafhgmbhocaaGreatDoor
