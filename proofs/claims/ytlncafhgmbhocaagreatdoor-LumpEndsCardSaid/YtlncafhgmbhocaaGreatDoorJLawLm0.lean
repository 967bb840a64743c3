/- Contracts of functions and lemmas, used by the proofs of the given statements. No condition beyond those that each lemma names. -/
import Derived.Test.YtlncafhgmbhocaaGreatDoorJLmA1
import Derived.Test.YtlncafhgmbhocaaGreatDoorLmQ7
import Derived.Test.YtlncafhgmbhocaaGreatDoorJLmR8
import Derived.Test.YtlncafhgmbhocaaGreatDoorJLmR6
import Derived.Test.YtlncafhgmbhocaaGreatDoorTrL2
import Derived.Test.YtlncafhgmbhocaaGreatDoorOpenInts
import Derived.Test.YtlncafhgmbhocaaGreatDoorJAbQ
namespace Go.Proofs.YtlncafhgmbhocaaGreatDoor
open Go.RowKit
set_option linter.unusedSimpArgs false
set_option linter.unusedVariables false
set_option maxRecDepth 20000
/-! ## law51: how great a quotient is -/
theorem quo_bd {c : Chn} (hS : Small c) (hnd : c.nd ≤ 300) (n : Nat) (P : Nat → Int) : (c.quoE n P).nm ≤ 1000000 ∧ (c.quoE n P).nd ≤ 1000000 ∧ ∀ k, k < (c.quoE n P).nm → ((c.quoE n P).R k).2.1.length ≤ 1000000 ∧ ((c.quoE n P).R k).2.2.length ≤ 1000000 := by
  by_cases h0 : c.codeQ n P = 0
  · have ok : c.Ok := Chn.ok_iff.1 (Chn.codeL_0 (Chn.codeQ_0 h0).1).1
    have h9 := hS.nd ok
    rw [Chn.quoE_0 h0]
    have hb : blks c.nd (prt P) ≤ c.nd := blks_le
    have hp : 0 < blks c.nd (prt P) := blks_pos (by have := ok.lo; omega)
    refine ⟨?_, by show blks c.nd (prt P) ≤ _; omega, fun k _ => ?_⟩
    · show (movB c.f c.t c.q c.nm c.nd (nrm (relP (prt P))) (blks c.nd (prt P))).length ≤ _
      rw [← movP_end, show movP c.f c.t c.q c.nm c.nd (nrm (relP (prt P))) (blks c.nd (prt P)) (blks c.nd (prt P)) 0 = movP c.f c.t c.q c.nm c.nd (nrm (relP (prt P))) (blks c.nd (prt P)) (blks c.nd (prt P) - 1) (blks c.nd (prt P)) by rw [movP_row, show blks c.nd (prt P) - 1 + 1 = blks c.nd (prt P) by omega]]
      have := movP_bd (F := c.f) (T := c.t) (q := c.q) (nm := c.nm) (n := c.nd) (p := nrm (relP (prt P))) (m := blks c.nd (prt P)) (a := blks c.nd (prt P) - 1) (t := blks c.nd (prt P)) (by omega) (by omega) (Nat.le_refl _)
      omega
    · have hs : Sz 400 (quQ c.f c.t c.q c.nm c.nd (nrm (relP (prt P))) (blks c.nd (prt P)) k) := by
        unfold quQ rateB
        exact hS.inS ok _ _ _ _ (Nat.le_refl _)
      have := Sz_canR hs
      exact ⟨by show (canR _).2.1.length ≤ _; omega, by show (canR _).2.2.length ≤ _; omega⟩
  · rw [Chn.quoE_n h0]
    exact ⟨by show 0 ≤ _; omega, by show 0 ≤ _; omega, fun k hk => absurd hk (Nat.not_lt_zero k)⟩
end Go.Proofs.YtlncafhgmbhocaaGreatDoor
namespace Go.Proofs.YtlncafhgmbhocaaGreatDoor
open Go.RowKit
set_option linter.unusedSimpArgs false
set_option linter.unusedVariables false
set_option maxRecDepth 20000
/-! ## the quotient is a chain; how great its rates are (plain) -/
section
variable {nm P Z : Nat} {q : Nat → Rat} {F T p : Nat → Nat}
theorem exK_fzZ (h : ∀ k, k < nm → Fz P Z (q k)) (s : Nat) : ∀ k, k ≤ nm → Fz P (k * Z) (exK F q s k)
  | 0, _ => (Fz.zero P).le (by omega)
  | k + 1, hk => by
    have ih := exK_fzZ h s k (by omega)
    rw [exK, Nat.succ_mul]
    split
    · exact ih.add (h k (by omega))
    · exact ih.le (by omega)
theorem smK_fzZ (h : ∀ k, k < nm → Fz P Z (q k)) (i j : Nat) : ∀ k, k ≤ nm → Fz P (k * Z) (smK F T q p k i j)
  | 0, _ => (Fz.zero P).le (by omega)
  | k + 1, hk => by
    have ih := smK_fzZ h i j k (by omega)
    rw [Nat.succ_mul]
    show Fz P _ (if p (T k) ≠ p (F k) ∧ i = F k ∧ j = p (T k) then smK F T q p k i j + q k else smK F T q p k i j)
    split
    · exact ih.add (h k (by omega))
    · exact ih.le (by omega)
end
section
variable {c : Chn} {p : Nat → Nat}
theorem Chn.quo_f (c : Chn) (p : Nat → Nat) : (c.quo p).f = quF c.f c.t c.q c.nm c.nd (nrm (relP p)) (blks c.nd p) := by
  funext k
  show ((quF c.f c.t c.q c.nm c.nd (nrm (relP p)) (blks c.nd p) k : Nat) : Int).toNat = _
  omega
theorem Chn.quo_t (c : Chn) (p : Nat → Nat) : (c.quo p).t = quT c.f c.t c.q c.nm c.nd (nrm (relP p)) (blks c.nd p) := by
  funext k
  show ((quT c.f c.t c.q c.nm c.nd (nrm (relP p)) (blks c.nd p) k : Nat) : Int).toNat = _
  omega
theorem Chn.quo_q (c : Chn) (p : Nat → Nat) : (c.quo p).q = quQ c.f c.t c.q c.nm c.nd (nrm (relP p)) (blks c.nd p) := by
  funext k
  exact valR_canR _
theorem qu_mem {F T : Nat → Nat} {q : Nat → Rat} {nm n m : Nat} {k : Nat} (hk : k < quN F T q nm n p m) : quF F T q nm n p m k < m ∧ quT F T q nm n p m k < m ∧ quF F T q nm n p m k ≠ quT F T q nm n p m k ∧ quQ F T q nm n p m k ≠ 0 := by
  unfold quN at hk
  have h1 : (quF F T q nm n p m k, quT F T q nm n p m k) ∈ movB F T q nm n p m := by
    unfold quF quT
    rw [List.getD_eq_getElem?_getD, List.getElem?_eq_getElem hk]
    simp only [Option.getD_some]
    exact List.getElem_mem hk
  obtain ⟨a1, a2, a3, a4⟩ := movB_mem.1 h1
  exact ⟨a1, a2, a3, a4⟩
theorem qu_lex {F T : Nat → Nat} {q : Nat → Rat} {nm n m : Nat} {i j : Nat} (hij : i < j) (hj : j < quN F T q nm n p m) : quF F T q nm n p m i < quF F T q nm n p m j ∨ quF F T q nm n p m i = quF F T q nm n p m j ∧ quT F T q nm n p m i < quT F T q nm n p m j := by
  unfold quN at hj
  have := List.pairwise_iff_getElem.1 (movB_sorted (F := F) (T := T) (q := q) (nm := nm) (n := n) (p := p) m) i j (by omega) hj hij
  unfold quF quT
  rw [List.getD_eq_getElem?_getD, List.getD_eq_getElem?_getD, List.getElem?_eq_getElem hj, List.getElem?_eq_getElem (Nat.lt_trans hij hj)]
  exact this
theorem Chn.quo_ok (ok : c.Ok) (p : Nat → Nat) : (c.quo p).Ok := by
  have hq : ∀ k, k < c.nm → 0 ≤ c.q k := fun k hk => Rat.le_of_lt (ok.mv k hk).2.2.2.2.2.1
  have hb : blks c.nd p ≤ c.nd := blks_le
  have hlo := ok.lo
  have hhi := ok.hi
  have hp : 0 < blks c.nd p := blks_pos (by omega)
  have hs : c.sr.toNat < c.nd := Chn.sr_lt ok
  have hsb : nrm (relP p) c.sr.toNat < blks c.nd p := nrm_lt (relP_eqv p) hs
  refine ⟨hp, by show blks c.nd p ≤ 256; omega, rfl, by show (0 : Int) ≤ ((nrm (relP p) c.sr.toNat : Nat) : Int); omega, by show ((nrm (relP p) c.sr.toNat : Nat) : Int) < ((blks c.nd p : Nat) : Int); omega, fun k hk => ?_⟩
  obtain ⟨a1, a2, a3, a4⟩ := qu_mem hk
  rw [Chn.quo_q]
  refine ⟨?_, ?_, ?_, ?_, ?_, ?_, fun h0 => ?_⟩
  · show (0 : Int) ≤ ((quF c.f c.t c.q c.nm c.nd (nrm (relP p)) (blks c.nd p) k : Nat) : Int); omega
  · show ((quF c.f c.t c.q c.nm c.nd (nrm (relP p)) (blks c.nd p) k : Nat) : Int) < ((blks c.nd p : Nat) : Int); omega
  · show (0 : Int) ≤ ((quT c.f c.t c.q c.nm c.nd (nrm (relP p)) (blks c.nd p) k : Nat) : Int); omega
  · show ((quT c.f c.t c.q c.nm c.nd (nrm (relP p)) (blks c.nd p) k : Nat) : Int) < ((blks c.nd p : Nat) : Int); omega
  · show ((quF c.f c.t c.q c.nm c.nd (nrm (relP p)) (blks c.nd p) k : Nat) : Int) ≠ ((quT c.f c.t c.q c.nm c.nd (nrm (relP p)) (blks c.nd p) k : Nat) : Int); omega
  · have h9 : 0 ≤ quQ c.f c.t c.q c.nm c.nd (nrm (relP p)) (blks c.nd p) k := rateB_nn hq _ _
    grind
  · have := qu_lex (show k - 1 < k by omega) hk
    show ((quF c.f c.t c.q c.nm c.nd (nrm (relP p)) (blks c.nd p) (k - 1) : Nat) : Int) < ((quF c.f c.t c.q c.nm c.nd (nrm (relP p)) (blks c.nd p) k : Nat) : Int) ∨ ((quF c.f c.t c.q c.nm c.nd (nrm (relP p)) (blks c.nd p) (k - 1) : Nat) : Int) = ((quF c.f c.t c.q c.nm c.nd (nrm (relP p)) (blks c.nd p) k : Nat) : Int) ∧ ((quT c.f c.t c.q c.nm c.nd (nrm (relP p)) (blks c.nd p) (k - 1) : Nat) : Int) < ((quT c.f c.t c.q c.nm c.nd (nrm (relP p)) (blks c.nd p) k : Nat) : Int)
    omega
theorem Chn.quo_nm (ok : c.Ok) (h9 : c.nd ≤ 9) (p : Nat → Nat) : (c.quo p).nm ≤ 81 := by
  have hb : blks c.nd p ≤ c.nd := blks_le
  have hlo := ok.lo
  have hp : 0 < blks c.nd p := blks_pos (by omega)
  show (movB c.f c.t c.q c.nm c.nd (nrm (relP p)) (blks c.nd p)).length ≤ 81
  generalize blks c.nd p = m at *
  rw [← movP_end, show movP c.f c.t c.q c.nm c.nd (nrm (relP p)) m m 0 = movP c.f c.t c.q c.nm c.nd (nrm (relP p)) m (m - 1) m by rw [movP_row, show m - 1 + 1 = m by omega]]
  have h1 := movP_len (F := c.f) (T := c.t) (q := c.q) (nm := c.nm) (n := c.nd) (p := nrm (relP p)) (m := m) (m - 1) m (Nat.le_refl _)
  have h2 : (m - 1) * m ≤ 8 * m := Nat.mul_le_mul_right _ (by omega)
  omega
theorem wp9720 : 9720 * 4294967296 < wp 2 := by decide +kernel
/-- the quotient's rates over one denominator -/
theorem Small.quo_fz (hS : Small c) (ok : c.Ok) (p : Nat → Nat) (k : Nat) : Fz (dps c.q c.nm) (c.nm * (4294967296 * dps c.q c.nm)) ((c.quo p).q k) := by
  rw [Chn.quo_q]
  unfold quQ rateB
  exact into_fz (n := 0) (hS.rts ok) _ _ c.nm (Nat.le_refl _)
theorem Small.quo_bd (hS : Small c) (ok : c.Ok) {k : Nat} (hk : k ≤ 81) : k * (c.nm * (4294967296 * dps c.q c.nm)) < wp 18 := by
  have h := hS.rts ok
  have h1 : k * c.nm ≤ 81 * 120 := Nat.mul_le_mul hk hS.nm
  have h2 : k * c.nm * 4294967296 < wp 2 := Nat.lt_of_le_of_lt (Nat.mul_le_mul_right _ h1) wp9720
  have h3 := wp_mul_lt h2 h.lt
  have e : k * (c.nm * (4294967296 * dps c.q c.nm)) = k * c.nm * 4294967296 * dps c.q c.nm := by
    rw [Nat.mul_assoc (k * c.nm), Nat.mul_assoc k]
  rw [e]
  exact h3
theorem Small.quo_sz (hS : Small c) (ok : c.Ok) (p : Nat → Nat) (k : Nat) : Sz 20 ((c.quo p).q k) := by
  have h := hS.rts ok
  refine (hS.quo_fz ok p k).sz h.ne (by omega) (lt_wp_more h.lt (by omega)) ?_
  have := hS.quo_bd ok (k := 1) (by omega)
  rw [Nat.one_mul] at this
  exact lt_wp_more this (by omega)
theorem Small.quo_raw (hS : Small c) (ok : c.Ok) (p : Nat → Nat) (k : Nat) : ((c.quo p).R k).2.1.length ≤ 20 ∧ ((c.quo p).R k).2.2.length ≤ 20 := by
  have := hS.quo_sz ok p k
  rw [Chn.quo_q] at this
  exact Sz_canR this
theorem Small.quo_chS (hS : Small c) (ok : c.Ok) (p : Nat → Nat) : ChS (c.quo p) 400 := by
  have hn := Chn.quo_nm ok (hS.nd ok) p
  have h := hS.rts ok
  refine ⟨by omega, fun k _ => by have := hS.quo_raw ok p k; omega, fun _ => ⟨by omega, by omega, by omega, fun k _ => by have := hS.quo_raw ok p k; omega, fun s k hk => ?_⟩⟩
  have := (exK_fzZ (F := (c.quo p).f) (nm := (c.quo p).nm) (fun k _ => hS.quo_fz ok p k) s k hk).sz (L := 20) h.ne (by omega) (lt_wp_more h.lt (by omega)) (lt_wp_more (hS.quo_bd ok (by omega)) (by omega))
  exact this.more (by omega)
theorem Small.quo_smS (hS : Small c) (ok : c.Ok) (p : Nat → Nat) : (c.quo p).Ok → ∀ r k, k ≤ (c.quo p).nm → ∀ i j, Sz 400 (smK (c.quo p).f (c.quo p).t (c.quo p).q r k i j) := fun _ r k hk i j => by
  have hn := Chn.quo_nm ok (hS.nd ok) p
  have h := hS.rts ok
  have := (smK_fzZ (F := (c.quo p).f) (T := (c.quo p).t) (p := r) (nm := (c.quo p).nm) (fun k _ => hS.quo_fz ok p k) i j k hk).sz (L := 20) h.ne (by omega) (lt_wp_more h.lt (by omega)) (lt_wp_more (hS.quo_bd ok (by omega)) (by omega))
  exact this.more (by omega)
/-! ### the partition by what is down -/
theorem byd_fine {a b : Nat} (h : bydF c.D a = bydF c.D b) : c.D a = c.D b := by
  unfold bydF at h
  by_cases h1 : c.D a = c.D 0 <;> by_cases h2 : c.D b = c.D 0
  · rw [h1, h2]
  · rw [if_pos h1, if_neg h2] at h; omega
  · rw [if_neg h1, if_pos h2] at h; omega
  · cases ha : c.D a <;> cases hb : c.D b <;> cases h0 : c.D 0 <;> simp_all
theorem byd_lt (hlo : 1 ≤ c.nd) : ∀ i, i < c.nd → bydF c.D i < c.nd := fun i hi => by
  unfold bydF
  split
  · omega
  · rename_i h
    by_cases h1 : c.nd = 1
    · exact absurd (by rw [show i = 0 by omega]) h
    · omega
end
end Go.Proofs.YtlncafhgmbhocaaGreatDoor
namespace Go.Proofs.YtlncafhgmbhocaaGreatDoor
open Go.RowKit
set_option linter.unusedSimpArgs false
set_option linter.unusedVariables false
set_option maxRecDepth 20000
/-! ## P51.4, at a chain (plain) -/
section
variable {c : Chn}
def Chn.crD (c : Chn) : Nat → Nat := crsP c.f c.t c.q c.nm c.nd (bydF c.D)
theorem Chn.crD_nrm (c : Chn) : nrm (relP c.crD) = c.crD := by
  unfold Chn.crD crsP
  rw [itP_normed]
theorem Chn.crD_sta (ok : c.Ok) : StaB c.f c.t c.q c.nm c.nd c.crD := crsP_stable (Chn.lt_t ok) ok.lo
theorem Chn.crD_lt (ok : c.Ok) : ∀ i, i < c.nd → c.crD i < c.nd := fun i hi => itP_lt ok.lo c.nd i hi
theorem Chn.crD_fine (ok : c.Ok) {a b : Nat} (ha : a < c.nd) (hb : b < c.nd) (h : c.crD a = c.crD b) : c.D a = c.D b := byd_fine (itP_fine (F := c.f) (T := c.t) (q := c.q) (nm := c.nm) (n := c.nd) (p := bydF c.D) c.nd a b ha hb h)
theorem Chn.crD_one (ok : c.Ok) : c.oneD c.crD := fun i hi => by
  have hf := firS_spec (relP_eqv c.crD) i
  refine (Chn.crD_fine ok (by omega) hi ?_).symm
  have h9 : (c.crD (firS (relP c.crD) i) == c.crD i) = true := hf.2.1
  exact beq_iff_eq.1 h9
theorem Chn.quo_D (ok : c.Ok) {s : Nat} (hs : s < c.nd) : (c.quo c.crD).D (c.crD s) = c.D s := by
  show c.D (ixB (isF (relP c.crD)) c.nd (c.crD s)) = c.D s
  have h1 : c.crD s = nrm (relP c.crD) s := by rw [Chn.crD_nrm]
  rw [h1, ix_nrm (relP_eqv c.crD) hs]
  exact (Chn.crD_one ok s hs).symm
theorem Chn.ends_last (ok : c.Ok) : ∀ i, i < (c.quo c.crD).nd → (c.quo c.crD).crD i = i := by
  have hq := Chn.quo_ok ok c.crD
  have hn := Chn.crD_nrm c
  have hsta := Chn.crD_sta hq
  have hlt := Chn.crD_lt hq
  have hfin : Fine (c.quo c.crD).nd (c.quo c.crD).crD (bydF (c.quo c.crD).D) := itP_fine (F := (c.quo c.crD).f) (T := (c.quo c.crD).t) (q := (c.quo c.crD).q) (nm := (c.quo c.crD).nm) (n := (c.quo c.crD).nd) (p := bydF (c.quo c.crD).D) (c.quo c.crD).nd
  have hnr := Chn.crD_nrm (c.quo c.crD)
  obtain ⟨L, hL⟩ : ∃ L, L = (c.quo c.crD).crD := ⟨_, rfl⟩
  rw [← hL] at hsta hlt hfin hnr ⊢
  have e1 : (c.quo c.crD).nd = blks c.nd c.crD := rfl
  have e2 : (c.quo c.crD).nm = quN c.f c.t c.q c.nm c.nd c.crD (blks c.nd c.crD) := by
    show quN c.f c.t c.q c.nm c.nd (nrm (relP c.crD)) (blks c.nd c.crD) = _
    rw [hn]
  rw [Chn.quo_f, Chn.quo_t, Chn.quo_q, hn, e1, e2] at hsta
  rw [e1] at hlt hfin ⊢
  refine crs_last (p := bydF c.D) (r := bydF (c.quo c.crD).D) (Chn.lt_t ok) ok.lo rfl (fun s t hs ht h => ?_) hsta hlt hfin (fun i _ => by rw [hnr])
  have := byd_fine h
  rw [Chn.quo_D ok hs, Chn.quo_D ok ht] at this
  unfold bydF
  rw [this]
end
end Go.Proofs.YtlncafhgmbhocaaGreatDoor
