/- Contracts of functions and lemmas, used by the proofs of the given statements. No condition beyond those that each lemma names. -/
import Derived.Test.YtlncafhgmbhocaaGreatDoorLmW7
import Derived.Test.YtlncafhgmbhocaaGreatDoorJLmW1
import Derived.Test.YtlncafhgmbhocaaGreatDoorJChW1
import Derived.Test.YtlncafhgmbhocaaGreatDoorJLmW3
import Derived.Test.YtlncafhgmbhocaaGreatDoorJTrW6
import Derived.Test.YtlncafhgmbhocaaGreatDoorLmQ1
import Derived.Test.YtlncafhgmbhocaaGreatDoorJAbQ
namespace Go.Proofs.YtlncafhgmbhocaaGreatDoor
open Go.RowKit
set_option linter.unusedSimpArgs false
set_option linter.unusedVariables false
set_option maxRecDepth 20000
/-! ## package lump: Coarsest -/
section
variable {F T : Nat → Nat} {q : Nat → Rat} {nm n : Nat} {p r : Nat → Nat}
theorem isF_upto {R R' : Nat → Nat → Bool} {i : Nat} (e : ∀ k, k < i → R k i = R' k i) : isF R i = isF R' i := by unfold isF; rw [firS_upto e]
theorem blks_congr (e : ∀ i, i < n → p i = r i) : blks n p = blks n r := by
  unfold blks
  refine cntB_congr fun j hj => isF_upto fun k hk => ?_
  unfold relP
  rw [e k (by omega), e j hj]
theorem rfn_eqN (a b : Nat) : (decide (((p a : Nat) : Int) = ((p b : Nat) : Int)) && eqN n (smK F T q p nm a) (smK F T q p nm b)) = rfn F T q nm n p a b := by
  unfold rfn
  by_cases e : p a = p b
  · rw [decide_eq_true (by omega), eqN_alk e, e]
    simp
  · rw [decide_eq_false (by omega)]
    have e3 : (p a == p b) = false := by simpa using e
    rw [e3]
    rfl
/-- one state of a round -/
theorem crs_step {k : Nat} (hk : k < n) {x : Int} (h : IsIdx (fun j => decide (((p (ixB (isF (rfn F T q nm n p)) n j) : Nat) : Int) = ((p k : Nat) : Int)) && eqN n (smK F T q p nm (ixB (isF (rfn F T q nm n p)) n j)) (smK F T q p nm k)) (cntB (isF (rfn F T q nm n p)) k) x) :
    (x = -1 ∧ refP F T q nm n p k = cntB (isF (rfn F T q nm n p)) k ∧ cntB (isF (rfn F T q nm n p)) (k + 1) = cntB (isF (rfn F T q nm n p)) k + 1 ∧ ixB (isF (rfn F T q nm n p)) n (cntB (isF (rfn F T q nm n p)) k) = k) ∨ (x = (refP F T q nm n p k : Int) ∧ cntB (isF (rfn F T q nm n p)) (k + 1) = cntB (isF (rfn F T q nm n p)) k) := by
  have := idx_step (R := rfn F T q nm n p) rfn_eqv hk (r := x) (h.congr fun j hj => rfn_eqN _ _)
  rcases this with ⟨-, h1, h2, h3, h4⟩ | ⟨-, h1, h2⟩
  · exact .inl ⟨h1, h2, h3, h4⟩
  · exact .inr ⟨h1, h2⟩
theorem itP_lt (hn : 0 < n) : ∀ (t i : Nat), i < n → itP F T q nm n p t i < n := fun t i hi => by
  cases t with
  | zero => exact Nat.lt_of_lt_of_le (nrm_lt (relP_eqv p) hi) cntB_le
  | succ t => exact Nat.lt_of_lt_of_le (nrm_lt rfn_eqv hi) cntB_le
end
/-- the partition that a variable holds -/
def memZ (w : World) (g : Nat) : Nat → Nat := fun i => match w.cell? ⟨g, 0, none⟩ with
  | some (.slice (some a) _ _) => match w.cell? ⟨a.block, a.off + i, none⟩ with
    | some v => (intOf v).toNat
    | none => 0
  | _ => 0
theorem memZ_is {w : World} {g n d : Nat} {A : Option Addr} {p : Nat → Nat} (h : w.cell? ⟨g, 0, none⟩ = some (.slice A n d)) (hp : PaI w A n fun i => ((p i : Nat) : Int)) : ∀ i, i < n → memZ w g i = p i := fun i hi => by
  obtain ⟨b, off, rfl, -, e⟩ := hp.later (Below.refl _ _) hi
  unfold memZ
  rw [h]
  simp only [e]
  simp [intOf]
theorem PaI.far {w : World} {g n j : Nat} {A : Option Addr} {P : Nat → Int} {v : Value} (h : PaI w A n P) (hg : ∀ b o, A = some ⟨b, o, none⟩ → g ≠ b) : PaI (w.setCell ⟨g, j, none⟩ v) A n P := by
  refine ⟨h.1, fun hn => ?_⟩
  obtain ⟨b, off, e, hlt, hc⟩ := h.2 hn
  exact ⟨b, off, e, by simpa using hlt, fun k u hu => by rw [World.cell?_setCell_far _ _ _ _ (hg b off e)]; exact hc k u hu⟩
end Go.Proofs.YtlncafhgmbhocaaGreatDoor
namespace Go.Proofs.YtlncafhgmbhocaaGreatDoor
open Go.RowKit
set_option linter.unusedSimpArgs false
set_option linter.unusedVariables false
set_option maxRecDepth 20000
/-! ## the reference of law51: into -/
theorem into_fz {nm n P : Nat} {q : Nat → Rat} {F T p : Nat → Nat} (h : Rts nm q P) (s d : Nat) : ∀ k, k ≤ nm → Fz P (k * (4294967296 * P)) (intoQ F T q k p s d)
  | 0, _ => by
    show Fz P _ (sumN _ 0)
    rw [sumN]
    exact (Fz.zero P).le (by omega)
  | k + 1, hk => by
    have ih := into_fz h s d k (by omega) (n := n) (F := F) (T := T) (p := p)
    have hq := h.fz k (by omega)
    have e : (k + 1) * (4294967296 * P) = k * (4294967296 * P) + 4294967296 * P := by rw [Nat.add_mul]; omega
    rw [e]
    show Fz P _ (sumN _ (k + 1))
    rw [sumN]
    refine ih.add ?_
    split
    · exact hq
    · exact (Fz.zero P).le (by omega)
attribute [local irreducible] nv wp win plainB validR valR canR mvE chkM codeC intoQ
end Go.Proofs.YtlncafhgmbhocaaGreatDoor
namespace Go.Proofs.YtlncafhgmbhocaaGreatDoor
open Go.RowKit
set_option linter.unusedSimpArgs false
set_option linter.unusedVariables false
/-! ## the chain of the blocks (plain) -/
/-- all states of a block are down, or none -/
def Chn.oneD (c : Chn) (p : Nat → Nat) : Prop := ∀ i, i < c.nd → c.D i = c.D (firS (relP p) i)
open Classical in
/-- the number of the error of a quotient -/
noncomputable def Chn.codeQ (c : Chn) (n : Nat) (P : Nat → Int) : Int := if c.codeL n P ≠ 0 then c.codeL n P else if StaB c.f c.t c.q c.nm c.nd (prt P) then (if c.oneD (prt P) then 0 else 7) else 15
def Chn.zero : Chn := ⟨0, 0, 0, fun _ => 0, fun _ => 0, fun _ => (false, [], []), 0, fun _ => false⟩
/-- the quotient -/
def Chn.quo (c : Chn) (p : Nat → Nat) : Chn where
  st := (blks c.nd p : Nat)
  sr := (nrm (relP p) c.sr.toNat : Nat)
  nm := quN c.f c.t c.q c.nm c.nd (nrm (relP p)) (blks c.nd p)
  F := fun k => (quF c.f c.t c.q c.nm c.nd (nrm (relP p)) (blks c.nd p) k : Nat)
  T := fun k => (quT c.f c.t c.q c.nm c.nd (nrm (relP p)) (blks c.nd p) k : Nat)
  R := fun k => canR (quQ c.f c.t c.q c.nm c.nd (nrm (relP p)) (blks c.nd p) k)
  nd := blks c.nd p
  D := fun b => c.D (ixB (isF (relP p)) c.nd b)
open Classical in
noncomputable def Chn.quoE (c : Chn) (n : Nat) (P : Nat → Int) : Chn := if c.codeQ n P = 0 then c.quo (prt P) else Chn.zero
section
variable {c : Chn} {n : Nat} {P : Nat → Int}
theorem Chn.codeQ_l (h : c.codeL n P ≠ 0) : c.codeQ n P = c.codeL n P := by unfold Chn.codeQ; rw [if_pos h]
theorem Chn.codeQ_15 (h : c.codeL n P = 0) (h2 : ¬ StaB c.f c.t c.q c.nm c.nd (prt P)) : c.codeQ n P = 15 := by unfold Chn.codeQ; rw [if_neg (by omega), if_neg h2]
theorem Chn.codeQ_7 (h : c.codeL n P = 0) (h2 : StaB c.f c.t c.q c.nm c.nd (prt P)) (h3 : ¬ c.oneD (prt P)) : c.codeQ n P = 7 := by unfold Chn.codeQ; rw [if_neg (by omega), if_pos h2, if_neg h3]
theorem Chn.codeQ_z (h : c.codeL n P = 0) (h2 : StaB c.f c.t c.q c.nm c.nd (prt P)) (h3 : c.oneD (prt P)) : c.codeQ n P = 0 := by unfold Chn.codeQ; rw [if_neg (by omega), if_pos h2, if_pos h3]
theorem Chn.quoE_0 (h : c.codeQ n P = 0) : c.quoE n P = c.quo (prt P) := by unfold Chn.quoE; rw [if_pos h]
theorem Chn.quoE_n (h : c.codeQ n P ≠ 0) : c.quoE n P = Chn.zero := by unfold Chn.quoE; rw [if_neg h]
end
/-! ### numbers and first states -/
section
variable {R : Nat → Nat → Bool} {n k : Nat}
theorem ix_nrm (h : Eqv R) (hk : k < n) : ixB (isF R) n (nrm R k) = firS R k := ixB_new (Nat.lt_of_le_of_lt (firS_spec h k).1 hk) (isF_fir h k)
theorem fir_lt (h : Eqv R) (hk : k < n) : firS R k < n := Nat.lt_of_le_of_lt (firS_spec h k).1 hk
theorem nrm_ix (h : Eqv R) {b : Nat} (hb : b < cntB (isF R) n) : nrm R (ixB (isF R) n b) = b ∧ firS R (ixB (isF R) n b) = ixB (isF R) n b := by
  obtain ⟨h1, h2⟩ := ixB_lt hb
  obtain ⟨h3, h4⟩ := nrm_fir h2
  exact ⟨by rw [h3, cntB_ix hb], h4⟩
theorem nrm_fs (h : Eqv R) (k : Nat) : nrm R (firS R k) = nrm R k := nrm_same h (firS_spec h k).2.1
/-- the first state with a number -/
theorem idx_fir (h : Eqv R) (hk : k < n) {v r : Int} (hv : v = ((nrm R k : Nat) : Int)) (hr : IsIdx (fun j => decide (v = ((nrm R j : Nat) : Int))) n r) : r = (firS R k : Int) := by
  subst hv
  rcases hr with ⟨-, h1⟩ | ⟨j, e, hj, hb, hm⟩
  · have := h1 k hk
    simp at this
  · rw [e]
    have hb : nrm R k = nrm R j := by
      have := of_decide_eq_true hb
      omega
    have h1 := firS_same h ((nrm_iff h).1 hb.symm)
    have h2 := firS_spec h k
    rcases Nat.lt_trichotomy (firS R k) j with hl | hl | hl
    · have := of_decide_eq_false (hm _ hl)
      rw [nrm_fs h] at this
      exact absurd rfl this
    · rw [hl]
    · have h3 := (firS_spec h j).1
      omega
theorem idx_ix (h : Eqv R) {b : Nat} (hb : b < cntB (isF R) n) {v r : Int} (hv : v = (b : Int)) (hr : IsIdx (fun j => decide (v = ((nrm R j : Nat) : Int))) n r) : r = (ixB (isF R) n b : Int) := by
  obtain ⟨h1, h2⟩ := nrm_ix h hb
  rw [← h2]
  exact idx_fir h (ixB_lt hb).1 (by rw [h1]; exact hv) hr
theorem max_blk (h : Eqv R) {m : Int} (hm : IsMax n (fun i => ((nrm R i : Nat) : Int)) m) : m + 1 = (cntB (isF R) n : Int) := by
  obtain ⟨⟨i, hi, e⟩, ha⟩ := hm
  have h1 := nrm_lt h hi
  have h0 : cntB (isF R) n - 1 < cntB (isF R) n := by omega
  have h2 : ((nrm R (ixB (isF R) n (cntB (isF R) n - 1)) : Nat) : Int) ≤ m := ha _ (ixB_lt h0).1
  rw [(nrm_ix h h0).1] at h2
  have e : ((nrm R i : Nat) : Int) = m := e
  omega
/-- what lies in the row of Down after k states -/
def dnK (D : Nat → Bool) (R : Nat → Nat → Bool) (n k b : Nat) : Bool := if b < cntB (isF R) k then D (ixB (isF R) n b) else false
theorem dnK_0 {D : Nat → Bool} : dnK D R n 0 = fun _ => false := by
  funext b
  unfold dnK
  rw [cntB_zero, if_neg (by omega)]
theorem dnK_step (h : Eqv R) {D : Nat → Bool} (hk : k < n) (hD : D k = D (firS R k)) : upd (dnK D R n k) (nrm R k) (D k) = dnK D R n (k + 1) := by
  funext b
  unfold dnK
  by_cases e : b = nrm R k
  · rw [e, upd_same, if_pos (nrm_lt h (by omega)), ix_nrm h hk, hD]
  · rw [upd_ne _ _ e]
    cases hf : isF R k
    · rw [cntB_no hf]
    · rw [(nrm_fir hf).1] at e
      rw [cntB_yes hf]
      by_cases hb : b < cntB (isF R) k
      · rw [if_pos hb, if_pos (by omega)]
      · rw [if_neg hb, if_neg (by omega)]
end
/-! ### the moves, one by one -/
section
variable {F T : Nat → Nat} {q : Nat → Rat} {nm n m : Nat} {p : Nat → Nat}
def movR (F T : Nat → Nat) (q : Nat → Rat) (nm n : Nat) (p : Nat → Nat) (a t : Nat) : List (Nat × Nat) := (List.range t).filterMap fun b => if a ≠ b ∧ rateB F T q nm n p a b ≠ 0 then some (a, b) else none
/-- the moves from the blocks below a, and those from a to the blocks below t -/
def movP (F T : Nat → Nat) (q : Nat → Rat) (nm n : Nat) (p : Nat → Nat) (m a t : Nat) : List (Nat × Nat) := ((List.range a).flatMap fun a => movR F T q nm n p a m) ++ movR F T q nm n p a t
theorem movR_0 {a : Nat} : movR F T q nm n p a 0 = [] := rfl
theorem movP_0 : movP F T q nm n p m 0 0 = [] := rfl
theorem movP_end : movP F T q nm n p m m 0 = movB F T q nm n p m := by
  unfold movP
  rw [movR_0, List.append_nil]
  rfl
theorem movP_row {a : Nat} : movP F T q nm n p m a m = movP F T q nm n p m (a + 1) 0 := by
  unfold movP
  rw [movR_0, List.append_nil, List.range_succ, List.flatMap_append]
  simp
theorem movP_yes {a t : Nat} (h : a ≠ t ∧ rateB F T q nm n p a t ≠ 0) : movP F T q nm n p m a (t + 1) = movP F T q nm n p m a t ++ [(a, t)] := by
  unfold movP movR
  rw [List.range_succ, List.filterMap_append, List.append_assoc]
  congr 2
  simp [h]
theorem movP_no {a t : Nat} (h : ¬ (a ≠ t ∧ rateB F T q nm n p a t ≠ 0)) : movP F T q nm n p m a (t + 1) = movP F T q nm n p m a t := by
  unfold movP movR
  rw [List.range_succ, List.filterMap_append]
  congr 1
  rw [List.filterMap_cons, if_neg h]
  simp
theorem movP_len : ∀ a t, t ≤ m → (movP F T q nm n p m a t).length ≤ a * m + t
  | a, t + 1, ht => by
    have ih := movP_len a t (by omega)
    by_cases h : a ≠ t ∧ rateB F T q nm n p a t ≠ 0
    · rw [movP_yes h, List.length_append]
      simp
      omega
    · rw [movP_no h]
      omega
  | a + 1, 0, _ => by
    have ih := movP_len a m (Nat.le_refl _)
    rw [← movP_row, Nat.succ_mul]
    omega
  | 0, 0, _ => by rw [movP_0]; simp
termination_by a t => (a, t)
theorem movP_bd {a t : Nat} (hm : m ≤ 256) (ha : a < m) (ht : t ≤ m) : (movP F T q nm n p m a t).length ≤ 65536 := by
  have h1 := movP_len (F := F) (T := T) (q := q) (nm := nm) (n := n) (p := p) (m := m) a t ht
  have h2 : a * m ≤ 255 * m := Nat.mul_le_mul_right _ (by omega)
  omega
/-- the sums of a block's first state -/
theorem row_rate (h : Eqv (relP p)) {b t : Nat} (hb : b < cntB (isF (relP p)) n) :
    smK F T q (nrm (relP p)) nm (ixB (isF (relP p)) n b) t = if t = b then 0 else rateB F T q nm n (nrm (relP p)) b t := by
  rw [smK_into, (nrm_ix h hb).1]
  unfold rateB
  rw [relP_nrm h]
theorem rateB_nn (hq : ∀ k, k < nm → 0 ≤ q k) (a b : Nat) : 0 ≤ rateB F T q nm n p a b := by
  unfold rateB intoQ
  refine sumN_ge0 fun k hk => ?_
  split
  · exact hq k hk
  · exact Rat.le_refl
end
end Go.Proofs.YtlncafhgmbhocaaGreatDoor
namespace Go.Proofs.YtlncafhgmbhocaaGreatDoor
open Go.RowKit
set_option linter.unusedSimpArgs false
set_option linter.unusedVariables false
set_option maxRecDepth 20000
attribute [local irreducible] nv wp win plainB validR valR canR
/-! ## a chain's block of the call's own, known whole; what a store into it leaves -/
def OutB (w : World) (o : Nat) (st sr : Int) (A : Option Addr) (n a : Nat) (B : Option Addr) (m b : Nat) : Prop := w.heap[o]? = some (.cells #[.int .i64 st, .int .i64 sr, .slice A n a, .slice B m b] 25 (0, 0))
section
variable {w w' : World} {o g B0 n a m b n' a' : Nat} {st sr st' sr' : Int} {A B A' : Option Addr}
theorem OutB.lt (h : OutB w o st sr A n a B m b) : o < w.heap.size := (Array.getElem?_eq_some_iff.1 h).1
theorem OutB.ty (h : OutB w o st sr A n a B m b) : TyB 25 w o := ⟨_, _, h⟩
theorem OutB.nwb (h : OutB w o st sr A n a B m b) : NWB w o := ⟨_, _, _, h, fun j u hu x e => by
  subst e
  rcases j with _ | _ | _ | _ | j <;> simp at hu⟩
theorem OutB.cells (h : OutB w o st sr A n a B m b) : w.cell? ⟨o, 0, none⟩ = some (.int .i64 st) ∧ w.cell? ⟨o, 1, none⟩ = some (.int .i64 sr) ∧ w.cell? ⟨o, 2, none⟩ = some (.slice A n a) ∧ w.cell? ⟨o, 3, none⟩ = some (.slice B m b) := by
  refine ⟨?_, ?_, ?_, ?_⟩ <;> rw [cell_of_row w o _ _ _ _ h] <;> rfl
theorem OutB.frz (h : OutB w o st sr A n a B m b) (i : Nat) : w.frozen? ⟨o, i, none⟩ = false := by
  have h : w.heap[o]? = _ := h
  simp [World.frozen?, h]
theorem OutB.below (h : OutB w o st sr A n a B m b) (hb : Below B0 w w') (ho : o < B0) : OutB w' o st sr A n a B m b := (hb.block o ho).trans h
theorem OutB.grown {row : Option Nat} (h : OutB w o st sr A n a B m b) (hg : w.grownBy w' row) (hr : some o ≠ row) : OutB w' o st sr A n a B m b := (hg.block o h.lt hr).trans h
theorem OutB.new (w : World) (st sr : Int) (A : Option Addr) (n a : Nat) (B : Option Addr) (m b : Nat) : OutB (w.alloc (.cells #[.int .i64 st, .int .i64 sr, .slice A n a, .slice B m b] 25)) w.heap.size st sr A n a B m b := heap_alloc_new w _
theorem outB_set {i : Nat} {cs : Array Value} {t : TypeId} {fz : Nat × Nat} {u : Value} (h : w.heap[o]? = some (.cells cs t fz)) : (w.setCell ⟨o, i, none⟩ u).heap[o]? = some (.cells (cs.setIfInBounds i u) t fz) := by
  simp [World.setCell, Array.getElem?_modify, h]
theorem OutB.setM (h : OutB w o st sr A n a B m b) (A' : Option Addr) (n' a' : Nat) : OutB (w.setCell ⟨o, 2, none⟩ (.slice A' n' a')) o st sr A' n' a' B m b := by
  have := outB_set (i := 2) (u := .slice A' n' a') h
  exact this
theorem OutB.setD (h : OutB w o st sr A n a B m b) (A' : Option Addr) (n' a' : Nat) : OutB (w.setCell ⟨o, 3, none⟩ (.slice A' n' a')) o st sr A n a A' n' a' := by
  have := outB_set (i := 3) (u := .slice A' n' a') h
  exact this
theorem OutB.setS (h : OutB w o st sr A n a B m b) (x : Int) : OutB (w.setCell ⟨o, 0, none⟩ (.int .i64 x)) o x sr A n a B m b := by
  have := outB_set (i := 0) (u := .int .i64 x) h
  exact this
theorem OutB.setR (h : OutB w o st sr A n a B m b) (x : Int) : OutB (w.setCell ⟨o, 1, none⟩ (.int .i64 x)) o st x A n a B m b := by
  have := outB_set (i := 1) (u := .int .i64 x) h
  exact this
theorem OutB.set4 (h : OutB w o st' sr' A' n' a' B m b) (st sr : Int) (A : Option Addr) (n a : Nat) (D : Option Addr) (d e : Nat) : OutB ((((w.setCell ⟨o, 0, none⟩ (.int .i64 st)).setCell ⟨o, 1, none⟩ (.int .i64 sr)).setCell ⟨o, 2, none⟩ (.slice A n a)).setCell ⟨o, 3, none⟩ (.slice D d e)) o st sr A n a D d e := by
  have := outB_set (i := 3) (u := .slice D d e) (outB_set (i := 2) (u := .slice A n a) (outB_set (i := 1) (u := .int .i64 sr) (outB_set (i := 0) (u := .int .i64 st) h)))
  exact this
end
/-! ### what is of another kind stays -/
section
variable {w w' : World} {b0 o i base size n c bo co : Nat} {t ty : TypeId} {v u : Value} {r : Rw} {xs : List Value} {A : Option Addr}
theorem RdS.setN (h : RdS w b0 v r) (hN : NWB w o) (i : Nat) (u : Value) : RdS (w.setCell ⟨o, i, none⟩ u) b0 v r := by
  obtain ⟨A, c, B, d, h1, h2, h3, h4, h5, h6, h7, h8⟩ := h
  have ne : ∀ (X : Option Addr) (l : List Nat), RdW w w.heap.size X l → 0 < l.length → ∀ b off, X = some ⟨b, off, none⟩ → b ≠ o := fun X l hr hn b off e e2 => by
    obtain ⟨b', off', e', _, hcell⟩ := hr.addr hn
    rw [e'] at e
    injection e with e
    injection e with e3 e4 e5
    obtain ⟨cs, t, fz, g1, g2⟩ := hN
    have := hcell 0 hn
    rw [e3, e2, cell_of_row w o _ _ _ _ g1] at this
    exact g2 _ _ this _ rfl
  have key : ∀ (X : Option Addr) (l : List Nat), RdW w w.heap.size X l → RdW (w.setCell ⟨o, i, none⟩ u) (w.setCell ⟨o, i, none⟩ u).heap.size X l := fun X l hr => by
    refine ⟨hr.1, fun hn => ?_⟩
    have hne := ne X l hr hn
    obtain ⟨b, off, e, hb, hc⟩ := hr.2 hn
    refine ⟨b, off, e, by simpa using hb, fun j x hx => ?_⟩
    rw [World.cell?_setCell_far _ _ _ _ (by show o ≠ b; exact fun e2 => hne b off e e2.symm)]
    exact hc j x hx
  have key2 : ∀ (X : Option Addr) (k : Nat), BlkIn (WB w b0) X k → BlkIn (WB (w.setCell ⟨o, i, none⟩ u) b0) X k := fun X k hr hn a ha => by
    rcases hr hn a ha with h9 | h9
    · exact .inl h9
    · exact .inr ((show TyB 67 w a.block from h9).set o i u)
  exact ⟨A, c, B, d, h1, h2, h3, h4, key A _ h5, key B _ h6, key2 A _ h7, key2 B _ h8⟩
theorem ownsRow_heap (h : w.ownsRow base t size v n xs) (e : w'.heap = w.heap) : w'.ownsRow base t size v n xs := by
  unfold World.ownsRow at *
  rw [e]
  exact h
theorem ownsRow_ty (h : w.ownsRow base t size v n xs) (hT : TyB ty w o) (ht : t ≠ ty) : v.ownBlock = none ∨ v.ownBlock ≠ some o := by
  rcases h.2 with ⟨h, _⟩ | ⟨g', cap, cur, e, hb, hg, _⟩
  · rw [h]; exact .inl rfl
  · refine .inr fun e2 => ?_
    rw [e] at e2
    have e2 : g' = o := by injection e2
    subst e2
    obtain ⟨cur', fz, h2⟩ := hT
    rw [hg] at h2
    injection h2 with h2
    injection h2 with _ h2 _
    exact ht h2
theorem grownBy_set (w : World) (o i : Nat) (u : Value) : w.grownBy (w.setCell ⟨o, i, none⟩ u) (some o) := ⟨rfl, rfl, rfl, by simp, fun k hk hk2 => Below.heap_setCell w ⟨o, i, none⟩ u k (fun e => hk2 (by rw [e]))⟩
theorem ownsRow_set (h : w.ownsRow base t size v n xs) (hT : TyB ty w o) (ht : t ≠ ty) (i : Nat) (u : Value) : (w.setCell ⟨o, i, none⟩ u).ownsRow base t size v n xs := h.kept (grownBy_set w o i u) (ownsRow_ty h hT ht)
theorem OwB.congr_ {f f' : Nat → Bool} (h : OwB w base A c n f) (e : ∀ j, j < n → f j = f' j) : OwB w base A c n f' := by
  have e2 : bls n f = bls n f' := by
    unfold bls
    refine List.map_congr_left fun j hj => ?_
    rw [e j (List.mem_range.1 hj)]
  unfold OwB at h ⊢
  rw [← e2]
  exact h
theorem OwR.cap_ {R : Nat → Rw} (h : OwR w b0 A c n R) : n ≤ c := by
  obtain ⟨V, h1, h2⟩ := h
  obtain ⟨A', c', e, h2⟩ := own_form h2
  injection e with _ _ e3
  omega
theorem MatX.setN {k : Nat} {X : Option Addr} {e : Nat} {len : Nat → Nat} {M : Mf} (h : MatX w b0 bo co n k X e len M) (hN : NWB w o) (hT : TyB 25 w o) (i : Nat) (u : Value) : MatX (w.setCell ⟨o, i, none⟩ u) b0 bo co n k X e len M := by
  obtain ⟨Ar, cp, e1, e2, hd, h1, h2⟩ := h
  refine ⟨Ar, cp, e1, e2, hd, ownsRow_set h1 hT (by decide) i u, fun j hj => ?_⟩
  obtain ⟨V, g1, g2⟩ := h2 j hj
  exact ⟨V, fun k hk => (g1 k hk).setN hN i u, ownsRow_set g2 hT (by decide) i u⟩
theorem OwM.setN {F T : Nat → Int} {R : Nat → Rw} (h : OwM w b0 A c n F T R) (hN : NWB w o) (hT : TyB 25 w o) (i : Nat) (u : Value) : OwM (w.setCell ⟨o, i, none⟩ u) b0 A c n F T R := by
  obtain ⟨V, h1, h2⟩ := h
  exact ⟨V, fun k hk => (h1 k hk).setN hN i u, ownsRow_set h2 hT (by decide) i u⟩
theorem OwM.set4 {F T : Nat → Int} {R : Nat → Rw} {st' sr' : Int} {A' B : Option Addr} {n' a' m b : Nat} (h : OwM w b0 A c n F T R) (hO : OutB w o st' sr' A' n' a' B m b) (st sr : Int) (A2 : Option Addr) (n2 a2 : Nat) (D : Option Addr) (d e : Nat) : OwM ((((w.setCell ⟨o, 0, none⟩ (.int .i64 st)).setCell ⟨o, 1, none⟩ (.int .i64 sr)).setCell ⟨o, 2, none⟩ (.slice A2 n2 a2)).setCell ⟨o, 3, none⟩ (.slice D d e)) b0 A c n F T R := by
  have O1 := hO.setS st
  have O2 := O1.setR sr
  have O3 := O2.setM A2 n2 a2
  exact (((h.setN hO.nwb hO.ty _ _).setN O1.nwb O1.ty _ _).setN O2.nwb O2.ty _ _).setN O3.nwb O3.ty _ _
theorem OwB.set4 {f : Nat → Bool} {st' sr' : Int} {A' B : Option Addr} {n' a' m b : Nat} (h : OwB w base A c n f) (hO : OutB w o st' sr' A' n' a' B m b) (st sr : Int) (A2 : Option Addr) (n2 a2 : Nat) (D : Option Addr) (d e : Nat) : OwB ((((w.setCell ⟨o, 0, none⟩ (.int .i64 st)).setCell ⟨o, 1, none⟩ (.int .i64 sr)).setCell ⟨o, 2, none⟩ (.slice A2 n2 a2)).setCell ⟨o, 3, none⟩ (.slice D d e)) base A c n f := by
  have O1 := hO.setS st
  have O2 := O1.setR sr
  have O3 := O2.setM A2 n2 a2
  exact ownsRow_set (ownsRow_set (ownsRow_set (ownsRow_set h hO.ty (by decide) _ _) O1.ty (by decide) _ _) O2.ty (by decide) _ _) O3.ty (by decide) _ _
/-- a row of a kind has grown -/
def RowT (w : World) (b0 : Nat) (t : TypeId) (row : Option Nat) : Prop := ∀ k, row = some k → b0 ≤ k ∧ ∃ cur, w.heap[k]? = some (.cells cur t (0, 0))
theorem ownsRow_grown {row : Option Nat} (h : w.ownsRow base t size v n xs) (hg : w.grownBy w' row) (hr : RowT w b0 ty row) (ht : t ≠ ty) : w'.ownsRow base t size v n xs := by
  cases row with
  | none =>
    refine h.kept hg ?_
    cases e : v.ownBlock with
    | none => exact .inl rfl
    | some q => exact .inr (by simp)
  | some g =>
    obtain ⟨-, cur, h2⟩ := hr g rfl
    exact h.kept hg (ownsRow_ty h ⟨cur, _, h2⟩ ht)
theorem MatX.grownT {k : Nat} {X : Option Addr} {e : Nat} {row : Option Nat} {len : Nat → Nat} {M : Mf} (h : MatX w b0 bo co n k X e len M) (hg : w.grownBy w' row) (hr : RowT w b0 46 row) : MatX w' b0 bo co n k X e len M := by
  obtain ⟨Ar, cp, e1, e2, hd, h1, h2⟩ := h
  refine ⟨Ar, cp, e1, e2, hd, ownsRow_grown h1 hg hr (by decide), fun j hj => ?_⟩
  obtain ⟨V, g1, g2⟩ := h2 j hj
  exact ⟨V, fun k hk => (g1 k hk).kp (Kp.of_grownT (t := 46) (by decide) hg hr), ownsRow_grown g2 hg hr (by decide)⟩
theorem OwM.rowT {F T : Nat → Int} {R : Nat → Rw} (h : OwM w b0 A c n F T R) : RowT w b0 46 (Value.slice A n c).ownBlock := fun k hk => by
  cases e : A with
  | none => rw [e] at hk; cases hk
  | some a =>
    rw [e] at hk
    injection hk with hk
    subst hk
    exact h.blockA e
theorem RowT.ne {row : Option Nat} (hr : RowT w b0 ty row) (hT : TyB t w o) (ht : t ≠ ty) : some o ≠ row := fun e => by
  obtain ⟨-, cur, h2⟩ := hr o e.symm
  obtain ⟨cur', fz, h1⟩ := hT
  rw [h2] at h1
  injection h1 with h1
  injection h1 with _ h1 _
  exact ht h1.symm
end
/-! ### moves as a list of pairs -/
def OwL (w : World) (b0 : Nat) (A : Option Addr) (c : Nat) (L : List (Nat × Nat)) (f : Nat → Nat → Rat) : Prop :=
  OwM w b0 A c L.length (fun k => ((L.getD k (0, 0)).1 : Nat)) (fun k => ((L.getD k (0, 0)).2 : Nat)) (fun k => canR (f (L.getD k (0, 0)).1 (L.getD k (0, 0)).2))
section
variable {w w' : World} {b0 c n c' g : Nat} {A : Option Addr} {L : List (Nat × Nat)} {f : Nat → Nat → Rat}
theorem OwL.nil_ (w : World) (b0 : Nat) (f : Nat → Nat → Rat) : OwL w b0 none 0 [] f := OwM.nil_ _ _ _ _ _
theorem OwL.snoc {a b : Nat} (h : OwM w b0 A c (L.length + 1) (upd (fun k => (((L.getD k (0, 0)).1 : Nat) : Int)) L.length (a : Int)) (upd (fun k => (((L.getD k (0, 0)).2 : Nat) : Int)) L.length (b : Int)) (upd (fun k => canR (f (L.getD k (0, 0)).1 (L.getD k (0, 0)).2)) L.length (canR (f a b)))) : OwL w b0 A c (L ++ [(a, b)]) f := by
  have e : (L ++ [(a, b)]).length = L.length + 1 := by simp
  unfold OwL
  rw [e]
  refine h.congr fun k hk => ?_
  by_cases hkl : k = L.length
  · subst hkl
    rw [upd_same, upd_same, upd_same]
    simp [List.getD_eq_getElem?_getD]
  · rw [upd_ne _ _ hkl, upd_ne _ _ hkl, upd_ne _ _ hkl]
    have : (L ++ [(a, b)]).getD k (0, 0) = L.getD k (0, 0) := by
      rw [List.getD_eq_getElem?_getD, List.getD_eq_getElem?_getD, List.getElem?_append_left (by omega)]
    rw [this]
    exact ⟨rfl, rfl, rfl⟩
end
/-- the block of the result, the moves so far and the row of Down, while the moves are made -/
structure QInv (w2 w : World) (o b0 : Nat) (st sr : Int) (L : List (Nat × Nat)) (f : Nat → Nat → Rat) (A : Option Addr) (c : Nat) (B : Option Addr) (d m : Nat) (D : Nat → Bool) : Prop where
  bel : Below w2.heap.size w2 w
  lo : w2.heap.size ≤ o
  ob : o < b0
  sz : b0 ≤ w.heap.size
  out : OutB w o st sr A L.length c B m d
  mv : OwL w b0 A c L f
  dn : OwB w 0 B d m D
  dl : ∀ q, (Value.slice B m d).ownBlock = some q → w2.heap.size ≤ q
section
variable {w2 w w' : World} {o b0 c d m : Nat} {st sr : Int} {L : List (Nat × Nat)} {f : Nat → Nat → Rat} {A B : Option Addr} {D : Nat → Bool}
theorem QInv.below (h : QInv w2 w o b0 st sr L f A c B d m D) (hb : Below w.heap.size w w') : QInv w2 w' o b0 st sr L f A c B d m D :=
  ⟨h.bel.trans (hb.mono h.bel.size), h.lo, h.ob, Nat.le_trans h.sz hb.size, h.out.below hb h.out.lt, OwM.below h.mv hb, h.dn.below hb, h.dl⟩
theorem QInv.app (h : QInv w2 w o b0 st sr L f A c B d m D) {a b g5 c5 : Nat} {w5 : World} (hg : w.grownBy w5 (Value.slice A L.length c).ownBlock)
    (h5 : OwM w5 b0 (some ⟨g5, 0, none⟩) c5 (L.length + 1) (upd (fun k => (((L.getD k (0, 0)).1 : Nat) : Int)) L.length (a : Int)) (upd (fun k => (((L.getD k (0, 0)).2 : Nat) : Int)) L.length (b : Int)) (upd (fun k => canR (f (L.getD k (0, 0)).1 (L.getD k (0, 0)).2)) L.length (canR (f a b)))) :
    QInv w2 (w5.setCell ⟨o, 2, none⟩ (.slice (some ⟨g5, 0, none⟩) (L.length + 1) c5)) o b0 st sr (L ++ [(a, b)]) f (some ⟨g5, 0, none⟩) c5 B d m D := by
  have hr := OwM.rowT h.mv
  have ho5 := h.out.grown hg (hr.ne h.out.ty (by decide))
  have e : (L ++ [(a, b)]).length = L.length + 1 := by simp
  have hl := h.lo
  have hob := h.ob
  have hsz := h.sz
  refine ⟨(h.bel.trans (below_of_row hg (fun k hk => by have := (hr k hk).1; omega) (by omega))).setCell (by show w2.heap.size ≤ o; exact h.lo) _, h.lo, h.ob, Nat.le_trans (Nat.le_trans hsz hg.size) (by simp), by rw [e]; exact ho5.setM _ _ _, (OwL.snoc h5).setN ho5.nwb ho5.ty _ _, ?_, h.dl⟩
  exact ownsRow_set (ownsRow_grown h.dn hg hr (by decide)) ho5.ty (by decide) _ _
end
end Go.Proofs.YtlncafhgmbhocaaGreatDoor
