/- Contracts of functions and lemmas, used by the proofs of the given statements. No condition beyond those that each lemma names. -/
import Derived.Test.YtlncafhgmbhocaaGreatDoorLmQ6
import Derived.Test.YtlncafhgmbhocaaGreatDoorJLmW8
import Derived.Test.YtlncafhgmbhocaaGreatDoorJLmW5
import Derived.Test.YtlncafhgmbhocaaGreatDoorJLmW1
import Derived.Test.YtlncafhgmbhocaaGreatDoorJChW1
import Derived.Test.YtlncafhgmbhocaaGreatDoorJLawTr
import Derived.Test.YtlncafhgmbhocaaGreatDoorJTrZ
import Derived.Test.YtlncafhgmbhocaaGreatDoorJAbQ
import Derived.Test.YtlncafhgmbhocaaGreatDoorLinX
import Derived.Test.YtlncafhgmbhocaaGreatDoorJBase
import Derived.Test.YtlncafhgmbhocaaGreatDoorJTextC
import Derived.Test.YtlncafhgmbhocaaGreatDoorLmW9
import Derived.Test.YtlncafhgmbhocaaGreatDoorJOpenNum
import Derived.Test.YtlncafhgmbhocaaGreatDoorLinMk
import Derived.Test.YtlncafhgmbhocaaGreatDoorTrL2
import Derived.Test.YtlncafhgmbhocaaGreatDoorJLawTr2
namespace Go.Proofs.YtlncafhgmbhocaaGreatDoor
open Go.RowKit
set_option linter.unusedSimpArgs false
set_option linter.unusedVariables false
set_option maxRecDepth 20000
attribute [local irreducible] nv wp win plainB validR valR canR mvE chkM codeC smK alk badP nrm eqN eqZ blks firS isF cntB ixB kept dnK movP movB rateB
/-! ## Quotient whatever the partition; the reference's at a partition that has none -/
theorem lQuotient_any {w : World} {AM AD AV : Option Addr} {cm cd n ca : Nat} {c : Chn} {P : Nat → Int} (h : ChI w w.heap.size AM cm AD cd c) (hs : ChS c 400) (hv : PaI w AV n P) (hn : n ≤ 1000)
    (hsz : c.Ok → ∀ p k, k ≤ c.nm → ∀ i j, Sz 400 (smK c.f c.t c.q p k i j)) :
    Calls Tryz.prog 12 #[cv c.st c.sr AM c.nm cm AD c.nd cd, .slice AV n ca] w fun e w' => AnsC errM (c.codeQ n P) (c.quoE n P) e w' ∧ Below w.heap.size w w' := by
  by_cases h0 : c.codeL n P = 0
  · by_cases hst : StaB c.f c.t c.q c.nm c.nd (prt P)
    · obtain ⟨-, hnn, -⟩ := Chn.codeL_0 h0
      subst hnn
      exact lQuo_ok h hs hv hsz h0 hst
    · exact lQuo_uns h hs hv hn hsz h0 hst
  · exact lQuo_err h hs hv hn hsz h0
/-! ### what the reference's walk needs -/
end Go.Proofs.YtlncafhgmbhocaaGreatDoor
namespace Go.Proofs.YtlncafhgmbhocaaGreatDoor
open Go.RowKit
set_option linter.unusedSimpArgs false
set_option linter.unusedVariables false
set_option maxRecDepth 20000
attribute [local irreducible] nv wp win plainB validR valR canR mvE chkM codeC smK alk badP nrm eqN eqZ blks memZ crsP itP rfn
/-! ## faultlinebase.Ints at two equal lists; law51: awake -/
theorem Small.smS {c : Chn} (hS : Small c) : c.Ok → ∀ p k, k ≤ c.nm → ∀ i j, Sz 400 (smK c.f c.t c.q p k i j) := fun ok p k hk i j => (smK_sz (hS.rts ok) i j hk).more (by omega)
theorem prt_cast (p : Nat → Nat) : prt (fun i => ((p i : Nat) : Int)) = p := by
  funext i
  unfold prt
  simp
end Go.Proofs.YtlncafhgmbhocaaGreatDoor
namespace Go.Proofs.YtlncafhgmbhocaaGreatDoor
open Go.RowKit
set_option linter.unusedSimpArgs false
set_option linter.unusedVariables false
set_option maxRecDepth 20000
/-! ## the quotient is a chain; how great its rates are (plain) -/
section
variable {nm P Z : Nat} {q : Nat → Rat} {F T p : Nat → Nat}
theorem exK_fzZ (h : ∀ k, k < nm → Fz P Z (q k)) (s : Nat) : ∀ k, k ≤ nm → Fz P (k * Z) (exK F q s k)
  | 0, _ => (Fz.zero P).le (by omega)
  | k + 1, hk => by
    have ih := exK_fzZ h s k (by omega)
    rw [exK, Nat.succ_mul]
    split
    · exact ih.add (h k (by omega))
    · exact ih.le (by omega)
end
section
variable {c : Chn} {p : Nat → Nat}
theorem Chn.quo_f (c : Chn) (p : Nat → Nat) : (c.quo p).f = quF c.f c.t c.q c.nm c.nd (nrm (relP p)) (blks c.nd p) := by
  funext k
  show ((quF c.f c.t c.q c.nm c.nd (nrm (relP p)) (blks c.nd p) k : Nat) : Int).toNat = _
  omega
theorem Chn.quo_t (c : Chn) (p : Nat → Nat) : (c.quo p).t = quT c.f c.t c.q c.nm c.nd (nrm (relP p)) (blks c.nd p) := by
  funext k
  show ((quT c.f c.t c.q c.nm c.nd (nrm (relP p)) (blks c.nd p) k : Nat) : Int).toNat = _
  omega
theorem Chn.quo_q (c : Chn) (p : Nat → Nat) : (c.quo p).q = quQ c.f c.t c.q c.nm c.nd (nrm (relP p)) (blks c.nd p) := by
  funext k
  exact valR_canR _
theorem qu_mem {F T : Nat → Nat} {q : Nat → Rat} {nm n m : Nat} {k : Nat} (hk : k < quN F T q nm n p m) : quF F T q nm n p m k < m ∧ quT F T q nm n p m k < m ∧ quF F T q nm n p m k ≠ quT F T q nm n p m k ∧ quQ F T q nm n p m k ≠ 0 := by
  unfold quN at hk
  have h1 : (quF F T q nm n p m k, quT F T q nm n p m k) ∈ movB F T q nm n p m := by
    unfold quF quT
    rw [List.getD_eq_getElem?_getD, List.getElem?_eq_getElem hk]
    simp only [Option.getD_some]
    exact List.getElem_mem hk
  obtain ⟨a1, a2, a3, a4⟩ := movB_mem.1 h1
  exact ⟨a1, a2, a3, a4⟩
theorem qu_lex {F T : Nat → Nat} {q : Nat → Rat} {nm n m : Nat} {i j : Nat} (hij : i < j) (hj : j < quN F T q nm n p m) : quF F T q nm n p m i < quF F T q nm n p m j ∨ quF F T q nm n p m i = quF F T q nm n p m j ∧ quT F T q nm n p m i < quT F T q nm n p m j := by
  unfold quN at hj
  have := List.pairwise_iff_getElem.1 (movB_sorted (F := F) (T := T) (q := q) (nm := nm) (n := n) (p := p) m) i j (by omega) hj hij
  unfold quF quT
  rw [List.getD_eq_getElem?_getD, List.getD_eq_getElem?_getD, List.getElem?_eq_getElem hj, List.getElem?_eq_getElem (Nat.lt_trans hij hj)]
  exact this
theorem Chn.quo_ok (ok : c.Ok) (p : Nat → Nat) : (c.quo p).Ok := by
  have hq : ∀ k, k < c.nm → 0 ≤ c.q k := fun k hk => Rat.le_of_lt (ok.mv k hk).2.2.2.2.2.1
  have hb : blks c.nd p ≤ c.nd := blks_le
  have hlo := ok.lo
  have hhi := ok.hi
  have hp : 0 < blks c.nd p := blks_pos (by omega)
  have hs : c.sr.toNat < c.nd := Chn.sr_lt ok
  have hsb : nrm (relP p) c.sr.toNat < blks c.nd p := nrm_lt (relP_eqv p) hs
  refine ⟨hp, by show blks c.nd p ≤ 256; omega, rfl, by show (0 : Int) ≤ ((nrm (relP p) c.sr.toNat : Nat) : Int); omega, by show ((nrm (relP p) c.sr.toNat : Nat) : Int) < ((blks c.nd p : Nat) : Int); omega, fun k hk => ?_⟩
  obtain ⟨a1, a2, a3, a4⟩ := qu_mem hk
  rw [Chn.quo_q]
  refine ⟨?_, ?_, ?_, ?_, ?_, ?_, fun h0 => ?_⟩
  · show (0 : Int) ≤ ((quF c.f c.t c.q c.nm c.nd (nrm (relP p)) (blks c.nd p) k : Nat) : Int); omega
  · show ((quF c.f c.t c.q c.nm c.nd (nrm (relP p)) (blks c.nd p) k : Nat) : Int) < ((blks c.nd p : Nat) : Int); omega
  · show (0 : Int) ≤ ((quT c.f c.t c.q c.nm c.nd (nrm (relP p)) (blks c.nd p) k : Nat) : Int); omega
  · show ((quT c.f c.t c.q c.nm c.nd (nrm (relP p)) (blks c.nd p) k : Nat) : Int) < ((blks c.nd p : Nat) : Int); omega
  · show ((quF c.f c.t c.q c.nm c.nd (nrm (relP p)) (blks c.nd p) k : Nat) : Int) ≠ ((quT c.f c.t c.q c.nm c.nd (nrm (relP p)) (blks c.nd p) k : Nat) : Int); omega
  · have h9 : 0 ≤ quQ c.f c.t c.q c.nm c.nd (nrm (relP p)) (blks c.nd p) k := rateB_nn hq _ _
    grind
  · have := qu_lex (show k - 1 < k by omega) hk
    show ((quF c.f c.t c.q c.nm c.nd (nrm (relP p)) (blks c.nd p) (k - 1) : Nat) : Int) < ((quF c.f c.t c.q c.nm c.nd (nrm (relP p)) (blks c.nd p) k : Nat) : Int) ∨ ((quF c.f c.t c.q c.nm c.nd (nrm (relP p)) (blks c.nd p) (k - 1) : Nat) : Int) = ((quF c.f c.t c.q c.nm c.nd (nrm (relP p)) (blks c.nd p) k : Nat) : Int) ∧ ((quT c.f c.t c.q c.nm c.nd (nrm (relP p)) (blks c.nd p) (k - 1) : Nat) : Int) < ((quT c.f c.t c.q c.nm c.nd (nrm (relP p)) (blks c.nd p) k : Nat) : Int)
    omega
theorem Chn.quo_nm (ok : c.Ok) (h9 : c.nd ≤ 9) (p : Nat → Nat) : (c.quo p).nm ≤ 81 := by
  have hb : blks c.nd p ≤ c.nd := blks_le
  have hlo := ok.lo
  have hp : 0 < blks c.nd p := blks_pos (by omega)
  show (movB c.f c.t c.q c.nm c.nd (nrm (relP p)) (blks c.nd p)).length ≤ 81
  generalize blks c.nd p = m at *
  rw [← movP_end, show movP c.f c.t c.q c.nm c.nd (nrm (relP p)) m m 0 = movP c.f c.t c.q c.nm c.nd (nrm (relP p)) m (m - 1) m by rw [movP_row, show m - 1 + 1 = m by omega]]
  have h1 := movP_len (F := c.f) (T := c.t) (q := c.q) (nm := c.nm) (n := c.nd) (p := nrm (relP p)) (m := m) (m - 1) m (Nat.le_refl _)
  have h2 : (m - 1) * m ≤ 8 * m := Nat.mul_le_mul_right _ (by omega)
  omega
theorem wp9720 : 9720 * 4294967296 < wp 2 := by decide +kernel
/-- the quotient's rates over one denominator -/
theorem Small.quo_fz (hS : Small c) (ok : c.Ok) (p : Nat → Nat) (k : Nat) : Fz (dps c.q c.nm) (c.nm * (4294967296 * dps c.q c.nm)) ((c.quo p).q k) := by
  rw [Chn.quo_q]
  unfold quQ rateB
  exact into_fz (n := 0) (hS.rts ok) _ _ c.nm (Nat.le_refl _)
theorem Small.quo_bd (hS : Small c) (ok : c.Ok) {k : Nat} (hk : k ≤ 81) : k * (c.nm * (4294967296 * dps c.q c.nm)) < wp 18 := by
  have h := hS.rts ok
  have h1 : k * c.nm ≤ 81 * 120 := Nat.mul_le_mul hk hS.nm
  have h2 : k * c.nm * 4294967296 < wp 2 := Nat.lt_of_le_of_lt (Nat.mul_le_mul_right _ h1) wp9720
  have h3 := wp_mul_lt h2 h.lt
  have e : k * (c.nm * (4294967296 * dps c.q c.nm)) = k * c.nm * 4294967296 * dps c.q c.nm := by
    rw [Nat.mul_assoc (k * c.nm), Nat.mul_assoc k]
  rw [e]
  exact h3
theorem Small.quo_sz (hS : Small c) (ok : c.Ok) (p : Nat → Nat) (k : Nat) : Sz 20 ((c.quo p).q k) := by
  have h := hS.rts ok
  refine (hS.quo_fz ok p k).sz h.ne (by omega) (lt_wp_more h.lt (by omega)) ?_
  have := hS.quo_bd ok (k := 1) (by omega)
  rw [Nat.one_mul] at this
  exact lt_wp_more this (by omega)
theorem Small.quo_raw (hS : Small c) (ok : c.Ok) (p : Nat → Nat) (k : Nat) : ((c.quo p).R k).2.1.length ≤ 20 ∧ ((c.quo p).R k).2.2.length ≤ 20 := by
  have := hS.quo_sz ok p k
  rw [Chn.quo_q] at this
  exact Sz_canR this
theorem Small.quo_chS (hS : Small c) (ok : c.Ok) (p : Nat → Nat) : ChS (c.quo p) 400 := by
  have hn := Chn.quo_nm ok (hS.nd ok) p
  have h := hS.rts ok
  refine ⟨by omega, fun k _ => by have := hS.quo_raw ok p k; omega, fun _ => ⟨by omega, by omega, by omega, fun k _ => by have := hS.quo_raw ok p k; omega, fun s k hk => ?_⟩⟩
  have := (exK_fzZ (F := (c.quo p).f) (nm := (c.quo p).nm) (fun k _ => hS.quo_fz ok p k) s k hk).sz (L := 20) h.ne (by omega) (lt_wp_more h.lt (by omega)) (lt_wp_more (hS.quo_bd ok (by omega)) (by omega))
  exact this.more (by omega)
/-! ### the partition by what is down -/
theorem byd_fine {a b : Nat} (h : bydF c.D a = bydF c.D b) : c.D a = c.D b := by
  unfold bydF at h
  by_cases h1 : c.D a = c.D 0 <;> by_cases h2 : c.D b = c.D 0
  · rw [h1, h2]
  · rw [if_pos h1, if_neg h2] at h; omega
  · rw [if_neg h1, if_pos h2] at h; omega
  · cases ha : c.D a <;> cases hb : c.D b <;> cases h0 : c.D 0 <;> simp_all
theorem byd_lt (hlo : 1 ≤ c.nd) : ∀ i, i < c.nd → bydF c.D i < c.nd := fun i hi => by
  unfold bydF
  split
  · omega
  · rename_i h
    by_cases h1 : c.nd = 1
    · exact absurd (by rw [show i = 0 by omega]) h
    · omega
end
end Go.Proofs.YtlncafhgmbhocaaGreatDoor
namespace Go.Proofs.YtlncafhgmbhocaaGreatDoor
open Go.RowKit
set_option linter.unusedSimpArgs false
set_option linter.unusedVariables false
set_option maxRecDepth 20000
/-! ## P51.3, at a chain (plain) -/
section
variable {c : Chn} {p : Nat → Nat}
/-! ### what leaves a block -/
/-- what a state sends to other blocks, the first k moves -/
def outS (F T : Nat → Nat) (q : Nat → Rat) (N : Nat → Nat) (s k : Nat) : Rat := sumN (fun j => if F j = s ∧ N (T j) ≠ N s then q j else 0) k
/-- what a block sends, the first k moves of the quotient -/
def outB (G : Nat → Nat) (q : Nat → Rat) (a k : Nat) : Rat := sumN (fun j => if G j = a then q j else 0) k
theorem Chn.nrm_sta (ok : c.Ok) (hpl : ∀ i, i < c.nd → p i < c.nd) (hs : StaB c.f c.t c.q c.nm c.nd p) : StaB c.f c.t c.q c.nm c.nd (nrm (relP p)) := fun a b ha hb2 h => by
  have hp : p a = p b := beq_iff_eq.1 ((nrm_iff (relP_eqv p)).1 h)
  refine alk_iff.2 fun d hd hne => ?_
  by_cases hex : ∃ u, u < c.nd ∧ nrm (relP p) u = d
  · obtain ⟨u, hu, e⟩ := hex
    have conv : ∀ t, intoQ c.f c.t c.q c.nm (nrm (relP p)) t d = intoQ c.f c.t c.q c.nm p t (p u) := fun t => sumN_congr fun k hk => by
      have h9 : nrm (relP p) (c.t k) = d ↔ p (c.t k) = p u := by
        rw [← e]
        exact (nrm_iff (relP_eqv p)).trans beq_iff_eq
      by_cases h1 : c.f k = t ∧ nrm (relP p) (c.t k) = d
      · rw [if_pos h1, if_pos ⟨h1.1, h9.1 h1.2⟩]
      · rw [if_neg h1, if_neg (fun h2 => h1 ⟨h2.1, h9.2 h2.2⟩)]
    rw [conv, conv]
    exact alk_iff.1 (hs a b ha hb2 hp) (p u) (hpl u hu) (fun e2 => hne (by
      rw [← e]
      exact (nrm_iff (relP_eqv p)).2 (beq_iff_eq.2 e2)))
  · have zero : ∀ t, intoQ c.f c.t c.q c.nm (nrm (relP p)) t d = 0 := fun t => sumN_nil fun k hk => by
      rw [if_neg (fun h1 => hex ⟨c.t k, Chn.lt_t ok k hk, h1.2⟩)]
    rw [zero, zero]
theorem Chn.out_eq (ok : c.Ok) (hpl : ∀ i, i < c.nd → p i < c.nd) (hs : StaB c.f c.t c.q c.nm c.nd p) {s : Nat} (hsn : s < c.nd) : outS c.f c.t c.q (nrm (relP p)) s c.nm = outB (c.quo p).f (c.quo p).q (nrm (relP p) s) (c.quo p).nm := by
  have hst := Chn.nrm_sta ok hpl hs
  have hmp : blks c.nd (nrm (relP p)) = blks c.nd p := by unfold blks; rw [relP_nrm (relP_eqv p)]
  have hNN : ∀ i, nrm (relP (nrm (relP p))) i = nrm (relP p) i := fun i => by rw [nrm_nrm (relP_eqv p)]
  rw [Chn.quo_f, Chn.quo_q]
  show _ = outB (quF c.f c.t c.q c.nm c.nd (nrm (relP p)) (blks c.nd p)) (quQ c.f c.t c.q c.nm c.nd (nrm (relP p)) (blks c.nd p)) (nrm (relP p) s) (quN c.f c.t c.q c.nm c.nd (nrm (relP p)) (blks c.nd p))
  rw [← hmp]
  generalize nrm (relP p) = N at *
  have hT : ∀ k, k < c.nm → c.t k < c.nd := Chn.lt_t ok
  have hbl : ∀ {s}, s < c.nd → N s < blks c.nd N := fun hs => blk_lt (n := c.nd) hNN hs
  have h1 := into_sum (F := c.f) (q := c.q) (P := N) (L := fun b => if b = N s then 1 else 0) hT (fun s hs => hbl hs) s 0
  have h2 := qu_into (F := c.f) (T := c.t) (q := c.q) (nm := c.nm) (n := c.nd) (p := N) (L := fun _ => 0) (m := blks c.nd N) (hbl hsn) 0
  have e1 : outS c.f c.t c.q N s c.nm = intoQ c.f c.t c.q c.nm (fun t => if N t = N s then 1 else 0) s 0 := sumN_congr fun k hk => by
    by_cases h : c.f k = s ∧ N (c.t k) ≠ N s
    · rw [if_pos h, if_pos ⟨h.1, if_neg h.2⟩]
    · rw [if_neg h, if_neg]
      rintro ⟨h3, h4⟩
      by_cases h5 : N (c.t k) = N s
      · have h4 : (if N (c.t k) = N s then 1 else 0) = 0 := h4
        rw [if_pos h5] at h4; omega
      · exact h ⟨h3, h5⟩
  have e2 : outB (quF c.f c.t c.q c.nm c.nd N (blks c.nd N)) (quQ c.f c.t c.q c.nm c.nd N (blks c.nd N)) (N s) (quN c.f c.t c.q c.nm c.nd N (blks c.nd N)) = intoQ (quF c.f c.t c.q c.nm c.nd N (blks c.nd N)) (quT c.f c.t c.q c.nm c.nd N (blks c.nd N)) (quQ c.f c.t c.q c.nm c.nd N (blks c.nd N)) (quN c.f c.t c.q c.nm c.nd N (blks c.nd N)) (fun _ => 0) (N s) 0 := sumN_congr fun k hk => by
    by_cases h : quF c.f c.t c.q c.nm c.nd N (blks c.nd N) k = N s
    · rw [if_pos h, if_pos ⟨h, rfl⟩]
    · rw [if_neg h, if_neg (fun h2 => h h2.1)]
  rw [e1, e2, h1, h2]
  refine sumN_congr fun b hb => ?_
  by_cases h : b = N s
  · rw [if_neg (fun h3 : (if b = N s then 1 else 0) = 0 => by rw [if_pos h] at h3; omega), if_neg (fun h3 => h3.1 h.symm)]
  · have hbn : b < c.nd := Nat.lt_of_lt_of_le hb blks_le
    rw [if_pos (show (if b = N s then 1 else 0) = 0 from if_neg h), if_pos ⟨fun h3 => h h3.symm, rfl⟩, rate_of hst (blk_first (n := c.nd) hNN) hsn (hbl hsn) hbn h]
end
end Go.Proofs.YtlncafhgmbhocaaGreatDoor
namespace Go.Proofs.YtlncafhgmbhocaaGreatDoor
open Go.RowKit
set_option linter.unusedSimpArgs false
set_option linter.unusedVariables false
set_option maxRecDepth 20000
/-! ## P51.4, at a chain (plain) -/
section
variable {c : Chn}
def Chn.crD (c : Chn) : Nat → Nat := crsP c.f c.t c.q c.nm c.nd (bydF c.D)
theorem Chn.crD_nrm (c : Chn) : nrm (relP c.crD) = c.crD := by
  unfold Chn.crD crsP
  rw [itP_normed]
theorem Chn.crD_sta (ok : c.Ok) : StaB c.f c.t c.q c.nm c.nd c.crD := crsP_stable (Chn.lt_t ok) ok.lo
theorem Chn.crD_lt (ok : c.Ok) : ∀ i, i < c.nd → c.crD i < c.nd := fun i hi => itP_lt ok.lo c.nd i hi
theorem Chn.crD_fine (ok : c.Ok) {a b : Nat} (ha : a < c.nd) (hb : b < c.nd) (h : c.crD a = c.crD b) : c.D a = c.D b := byd_fine (itP_fine (F := c.f) (T := c.t) (q := c.q) (nm := c.nm) (n := c.nd) (p := bydF c.D) c.nd a b ha hb h)
theorem Chn.crD_one (ok : c.Ok) : c.oneD c.crD := fun i hi => by
  have hf := firS_spec (relP_eqv c.crD) i
  refine (Chn.crD_fine ok (by omega) hi ?_).symm
  have h9 : (c.crD (firS (relP c.crD) i) == c.crD i) = true := hf.2.1
  exact beq_iff_eq.1 h9
end
end Go.Proofs.YtlncafhgmbhocaaGreatDoor
namespace Go.Proofs.YtlncafhgmbhocaaGreatDoor
open Go.RowKit
set_option linter.unusedSimpArgs false
set_option linter.unusedVariables false
set_option maxRecDepth 20000
/-! ## TransientLumps (plain): the quotient's run -/
section
variable {nm P Y L : Nat} {q : Nat → Rat} {F T : Nat → Nat} {act : Nat → Bool} {r : Rat} {v : Nat → Rat}
theorem FzL.partsZ (hv : FzL L v) (h : ∀ k, k < nm → Fz P Y (q k)) (hP0 : P ≠ 0) (hP : P < wp 16) (hY : Y < wp 18) (hn : nm ≤ 120) (hr : 0 < r) (hrs : Sz 4 r) :
    (∀ k, k < nm → Sz (L + 26) (shr F q r v k)) ∧ (∀ k, k ≤ nm → FzL (L + 26) (stp act F T v (shr F q r v) k)) ∧ (∀ k, k < nm → Sz (L + 26) (v (F k) * q k)) := by
  obtain ⟨D, Z, h0, h1, h2, h3⟩ := hv
  have hrn := hrs.1
  have hrd := hrs.2
  have hr0 : r.num.natAbs ≠ 0 := natAbs_num_ne (fun e => by rw [e] at hr; exact absurd hr (by decide))
  have hsh : ∀ k, k < nm → Fz (D * P * r.num.natAbs) (Z * Y * r.den) (shr F q r v k) := fun k hk => by
    have e : shr F q r v k = v (F k) * q k * (1 / r) := by unfold shr; grind
    rw [e]
    exact ((h3 _).mul (h k hk)).mul (Fz.inv hr)
  have hv2 : ∀ s, Fz (D * P * r.num.natAbs) (Z * P * r.num.natAbs) (v s) := fun s => ((h3 s).up P).up _
  have hD0 : D * P * r.num.natAbs ≠ 0 := Nat.mul_ne_zero (Nat.mul_ne_zero h0 hP0) hr0
  have hD1 : D * P * r.num.natAbs < wp (L + 26) := lt_wp_more (wp_mul_lt (wp_mul_lt h1 hP) hrn) (by omega)
  have b2 : Z * Y * r.den < wp (L + 18 + 4) := wp_mul_lt (wp_mul_lt h2 hY) hrd
  have b3 : Z * P * r.num.natAbs < wp (L + 16 + 4) := wp_mul_lt (wp_mul_lt h2 hP) hrn
  refine ⟨fun k hk => (hsh k hk).sz hD0 (by omega) hD1 (lt_wp_more b2 (by omega)), fun k hk => ⟨_, Z * P * r.num.natAbs + k * (Z * Y * r.den), hD0, hD1, ?_, stp_fz hv2 fun j hj => hsh j (by omega)⟩, fun k hk => ?_⟩
  · have b4 : k * (Z * Y * r.den) < wp (1 + (L + 18 + 4)) := wp_mul_lt (by rw [wp_one]; omega) b2
    refine lt_wp_more (lt_wp_add (L := L + 23) (lt_wp_more b3 (by omega)) (lt_wp_more b4 (by omega))) (by omega)
  · refine ((h3 _).mul (h k hk)).sz (Nat.mul_ne_zero h0 hP0) (by omega) (lt_wp_more (wp_mul_lt h1 hP) (by omega)) (lt_wp_more (wp_mul_lt h2 hY) (by omega))
theorem FzL.runZ (hv : FzL L v) (h : ∀ k, k < nm → Fz P Y (q k)) (hP0 : P ≠ 0) (hP : P < wp 16) (hY : Y < wp 18) (hn : nm ≤ 120) (hr : 0 < r) (hrs : Sz 4 r) : ∀ k, FzL (L + 26 * k) (runV act F T q r nm v k)
  | 0 => hv
  | k + 1 => by rw [runV]; exact (((hv.runZ h hP0 hP hY hn hr hrs k).partsZ h hP0 hP hY hn hr hrs).2.1 nm (Nat.le_refl _)).more (by omega)
/-- a row that is emptied by another's elements -/
theorem FzL.cut {x y : Nat → Rat} {B : Nat → Nat} {M b n : Nat} (hx : FzL L x) (hy : FzL M y) (hn : n ≤ 300) : Sz (L + M + 2) (x b - sumN (fun s => if B s = b then y s else 0) n) := by
  obtain ⟨D, Z, h0, h1, h2, h3⟩ := hx
  obtain ⟨E, W, g0, g1, g2, g3⟩ := hy
  have hs : Fz E (n * W) (sumN (fun s => if B s = b then y s else 0) n) := sumN_fz (v := fun s => if B s = b then y s else 0) (fun s => by
    show Fz E W (if B s = b then y s else 0)
    split
    · exact g3 s
    · exact (Fz.zero E).le (by omega)) n
  have a1 : Fz (D * E) (Z * E) (x b) := (h3 b).up E
  have a2 : Fz (D * E) (n * W * D) (sumN (fun s => if B s = b then y s else 0) n) := by
    have := hs.up D
    rwa [Nat.mul_comm E D] at this
  refine (a1.sub a2).sz (Nat.mul_ne_zero h0 g0) (by omega) (lt_wp_more (wp_mul_lt h1 g1) (by omega)) ?_
  have b1 : Z * E < wp (L + M) := wp_mul_lt h2 g1
  have b2 : n * W * D < wp (1 + M + L) := wp_mul_lt (wp_mul_lt (by rw [wp_one]; omega) g2) h1
  exact lt_wp_more (lt_wp_add (L := L + M + 1) (lt_wp_more b1 (by omega)) (lt_wp_more b2 (by omega))) (by omega)
end
section
variable {c : Chn} {p : Nat → Nat} {r : Rat}
theorem Small.quo_runZ (hS : Small c) (ok : c.Ok) (p : Nat → Nat) (hr : 0 < r) (hrs : Sz 4 r) (ab : Bool) (k : Nat) : FzL (1 + 26 * k) ((c.quo p).run ab r k) := by
  have h := hS.rts ok
  have hn := Chn.quo_nm ok (hS.nd ok) p
  have hb := hS.quo_bd ok (k := 1) (by omega)
  rw [Nat.one_mul] at hb
  exact (FzL.v0 (c.quo p)).runZ (nm := (c.quo p).nm) (fun k _ => hS.quo_fz ok p k) h.ne h.lt hb (by omega) hr hrs k
theorem Small.quo_stS (hS : Small c) (ok : c.Ok) (p : Nat → Nat) (hr : 0 < r) (hrs : Sz 4 r) (ab : Bool) {k : Nat} (hk : k ≤ 8) : StS (c.quo p) r ((c.quo p).run ab r k) 400 := by
  have h := hS.rts ok
  have hn := Chn.quo_nm ok (hS.nd ok) p
  have hb := hS.quo_bd ok (k := 1) (by omega)
  rw [Nat.one_mul] at hb
  have hv := hS.quo_runZ ok p hr hrs ab k
  have hp := fun ab' => hv.partsZ (act := (c.quo p).act ab') (F := (c.quo p).f) (T := (c.quo p).t) (nm := (c.quo p).nm) (q := (c.quo p).q) (fun k _ => hS.quo_fz ok p k) h.ne h.lt hb (by omega) hr hrs
  exact ⟨by omega, by omega, fun k _ => by have := hS.quo_raw ok p k; omega, by omega, fun s _ => (hv.sz (by omega) s).more (by omega), hrs.more (by omega), fun k hk => ((hp true).2.2 k hk).more (by omega), fun k hk => ((hp true).1 k hk).more (by omega), fun ab k s hk => (((hp ab).2.1 k hk).sz (by omega) s).more (by omega)⟩
theorem sumN_mono {f g : Nat → Rat} : ∀ {n : Nat}, (∀ k, k < n → f k ≤ g k) → sumN f n ≤ sumN g n
  | 0, _ => Rat.le_refl
  | n + 1, h => by
    rw [sumN, sumN]
    have h1 := sumN_mono (n := n) fun k hk => h k (by omega)
    have h2 := h n (by omega)
    grind
/-- no block goes out faster than the chain's fastest state -/
theorem Chn.quo_fast (ok : c.Ok) : (c.quo c.crD).fast ≤ c.fast := by
  have hn := Chn.crD_nrm c
  have hb : (c.quo c.crD).nd = blks c.nd c.crD := rfl
  have hpos : 0 < (c.quo c.crD).nd := (Chn.quo_ok ok c.crD).lo
  refine maxF_le fun j hj => ?_
  have hjb : j < blks c.nd c.crD := by omega
  obtain ⟨h1, h2⟩ := blk_first (fun i => by rw [hn]) j hjb
  obtain ⟨s, hs⟩ : ∃ s, s = ixB (isF (relP c.crD)) c.nd j := ⟨_, rfl⟩
  rw [← hs] at h1 h2
  have h3 := Chn.out_eq ok (Chn.crD_lt ok) (Chn.crD_sta ok) h1
  rw [hn, h2] at h3
  have e1 : (c.quo c.crD).ex j = outB (c.quo c.crD).f (c.quo c.crD).q j (c.quo c.crD).nm := exK_sum _ _ _ _
  rw [e1, ← h3]
  refine Rat.le_trans ?_ (maxF_ge (x := c.ex) (k := c.nd - 1) (j := s) (by omega))
  have e2 : c.ex s = sumN (fun k => if c.f k = s then c.q k else 0) c.nm := exK_sum _ _ _ _
  rw [e2]
  refine sumN_mono fun k hk => ?_
  have hq : 0 ≤ c.q k := Rat.le_of_lt (ok.mv k hk).2.2.2.2.2.1
  by_cases h4 : c.f k = s
  · rw [if_pos h4]
    split
    · exact Rat.le_refl
    · exact hq
  · rw [if_neg h4, if_neg fun h => h4 h.1]
    exact Rat.le_refl
theorem Chn.quo_codeN (ok : c.Ok) {r : Rw} {n : Int} (h : c.codeR r = 0) (h0 : 0 ≤ n) (h1 : n ≤ 48) : (c.quo c.crD).codeN r n = 0 := by
  obtain ⟨-, h2, h3⟩ := Chn.codeR_0 h
  have h4 : (c.quo c.crD).codeR r = 0 := by
    have h5 : (c.quo c.crD).code = 0 := Chn.ok_iff.2 (Chn.quo_ok ok c.crD)
    have h6 := Rat.le_trans (Chn.quo_fast ok) h3
    unfold Chn.codeR
    rw [if_neg (by omega), if_neg]
    rintro (h | h)
    · exact h h2
    · exact absurd h6 (Rat.not_le.2 h)
  unfold Chn.codeN
  rw [if_neg (by omega), if_neg (by omega)]
/-- what lies in a block is what the quotient's state holds -/
theorem Chn.run_psh (ok : c.Ok) (r : Rat) (k : Nat) {b : Nat} (hb : b < (c.quo c.crD).nd) : psh c.crD c.nd (c.run false r k) b = (c.quo c.crD).run false r k b := by
  have hn := Chn.crD_nrm c
  have ha : ∀ x : Chn, x.act false = fun _ => true := fun x => by funext k; rfl
  have hh := psh_run (F := c.f) (T := c.t) (q := c.q) (nm := c.nm) (n := c.nd) (P := c.crD) (r := r) (v0 := c.v0) (w0 := (c.quo c.crD).v0) (fun k hk => ⟨(Chn.mvA ok k hk).1, (Chn.mvA ok k hk).2.1, (Chn.mvA ok k hk).2.2.1⟩) (fun i => by rw [hn]) (Chn.crD_sta ok) (fun b hb => ?_) k b hb
  · unfold Chn.run
    rw [ha, ha, hh, Chn.quo_f, Chn.quo_t, Chn.quo_q]
    show _ = runV _ _ _ _ _ (quN c.f c.t c.q c.nm c.nd (nrm (relP c.crD)) (blks c.nd c.crD)) _ _ _
    rw [hn]
  · obtain ⟨sr, hsr⟩ : ∃ sr : Nat, c.sr = (sr : Int) := ⟨c.sr.toNat, by have := ok.s0; omega⟩
    have hsl : sr < c.nd := by have := Chn.sr_lt ok; omega
    unfold psh
    have e : sumN (fun s => if c.crD s = b then c.v0 s else 0) c.nd = sumN (fun s => if s = sr then (if c.crD s = b then (1 : Rat) else 0) else 0) c.nd := sumN_congr fun s _ => by
      unfold Chn.v0
      rw [hsr]
      by_cases h1 : s = sr
      · rw [if_pos h1, if_pos (show (s : Int) = (sr : Int) by omega)]
      · rw [if_neg h1, if_neg (show ¬ (s : Int) = (sr : Int) by omega)]
        split <;> rfl
    rw [e, sumN_pick, if_pos hsl]
    unfold Chn.v0
    have e2 : (c.quo c.crD).sr = ((c.crD sr : Nat) : Int) := by
      show ((nrm (relP c.crD) c.sr.toNat : Nat) : Int) = _
      rw [hn, hsr]; rfl
    rw [e2]
    by_cases h1 : c.crD sr = b
    · rw [if_pos h1, if_pos (by omega)]
    · rw [if_neg h1, if_neg (by omega)]
/-- the difference on its way -/
def Chn.cut (c : Chn) (r : Rat) (n k b : Nat) : Rat := (c.quo c.crD).run false r n b - sumN (fun s => if c.crD s = b then c.run false r n s else 0) k
theorem Small.cut_sz (hS : Small c) (ok : c.Ok) (hr : 0 < r) (hrs : Sz 4 r) {n k : Nat} (hn : n ≤ 5) (hk : k ≤ c.nd) (b : Nat) : Sz 400 (c.cut r n k b) := by
  have h9 := hS.nd ok
  have h1 := hS.quo_runZ ok c.crD hr hrs false n
  have h2 := hS.run ok hr hrs false n
  exact (h1.cut (B := c.crD) (b := b) (n := k) h2 (by omega)).more (by omega)
theorem Chn.cut_end (ok : c.Ok) {n b : Nat} (hb : b < (c.quo c.crD).nd) : c.cut r n c.nd b = 0 := by
  have := Chn.run_psh ok r n hb
  unfold psh at this
  unfold Chn.cut
  rw [this]
  grind
theorem Chn.cut_step (c : Chn) (r : Rat) (n k : Nat) : c.cut r n (k + 1) = upd (c.cut r n k) (c.crD k) (c.cut r n k (c.crD k) - c.run false r n k) := by
  funext b
  unfold upd
  show _ - sumN _ (k + 1) = _
  rw [sumN]
  by_cases h : b = c.crD k
  · subst h
    rw [if_pos rfl, if_pos rfl]
    unfold Chn.cut
    grind
  · rw [if_neg h, if_neg (fun e => h e.symm)]
    unfold Chn.cut
    grind
end
end Go.Proofs.YtlncafhgmbhocaaGreatDoor
namespace Go.Proofs.YtlncafhgmbhocaaGreatDoor
open Go.RowKit
set_option linter.unusedSimpArgs false
set_option linter.unusedVariables false
set_option maxRecDepth 20000
attribute [local irreducible] nv wp win plainB validR valR canR mvE chkM codeC smK alk badP nrm eqN eqZ blks memZ crsP itP rfn movB rateB bydF Chn.crD
/-! ## LumpEnds -/
/-- ByDown, Coarsest, Quotient, one behind the other -/
theorem byd_ok {w : World} {AM AD : Option Addr} {cm cd : Nat} {c : Chn} (h : ChI w w.heap.size AM cm AD cd c) (hs : ChS c 400) (ok : c.Ok) :
    Calls Tryz.prog 22 #[cv c.st c.sr AM c.nm cm AD c.nd cd] w fun e w' => (∃ A d, e = .returned (.tuple #[.slice A c.nd d, .nilIface]) ∧ PaI w' A c.nd (fun i => ((bydF c.D i : Nat) : Int))) ∧ Below w.heap.size w w' := by
  have := lByDown_any h hs
  rw [Chn.ok_iff.2 ok, lenC_0] at this
  exact this
theorem codeL_byd {c : Chn} (ok : c.Ok) : c.codeL c.nd (fun i => ((bydF c.D i : Nat) : Int)) = 0 := Chn.codeL_z (Chn.ok_iff.2 ok) rfl (inP_iff.2 fun j hj => by have := byd_lt ok.lo j hj; omega)
theorem codeL_crD {c : Chn} (ok : c.Ok) : c.codeL c.nd (fun i => ((c.crD i : Nat) : Int)) = 0 := Chn.codeL_z (Chn.ok_iff.2 ok) rfl (inP_iff.2 fun j hj => by have := Chn.crD_lt ok j hj; omega)
theorem crs_ok {w : World} {AM AD A : Option Addr} {cm cd d : Nat} {c : Chn} (h : ChI w w.heap.size AM cm AD cd c) (hs : ChS c 400) (hsm : c.Ok → ∀ p k, k ≤ c.nm → ∀ i j, Sz 400 (smK c.f c.t c.q p k i j)) (ok : c.Ok) (hA : PaI w A c.nd (fun i => ((bydF c.D i : Nat) : Int))) :
    Calls Tryz.prog 23 #[cv c.st c.sr AM c.nm cm AD c.nd cd, .slice A c.nd d] w fun e w' => (∃ A d, e = .returned (.tuple #[.slice A c.nd d, .nilIface]) ∧ PaI w' A c.nd (fun i => ((c.crD i : Nat) : Int))) ∧ Below w.heap.size w w' := by
  have hn := ok.hi
  have := lCoarsest_any (ca := d) h hs hA (by omega) hsm
  rw [codeL_byd ok, lenC_0, prt_cast] at this
  unfold Chn.crD
  exact this
theorem quo_ok {w : World} {AM AD A : Option Addr} {cm cd d : Nat} {c : Chn} (h : ChI w w.heap.size AM cm AD cd c) (hs : ChS c 400) (hsm : c.Ok → ∀ p k, k ≤ c.nm → ∀ i j, Sz 400 (smK c.f c.t c.q p k i j)) (ok : c.Ok) (hA : PaI w A c.nd (fun i => ((c.crD i : Nat) : Int))) :
    Calls Tryz.prog 12 #[cv c.st c.sr AM c.nm cm AD c.nd cd, .slice A c.nd d] w fun e w' => AnsC errM 0 (c.quo c.crD) e w' ∧ Below w.heap.size w w' := by
  have hn := ok.hi
  have := lQuotient_any (ca := d) h hs hA (by omega) hsm
  have hq : c.codeQ c.nd (fun i => ((c.crD i : Nat) : Int)) = 0 := Chn.codeQ_z (codeL_crD ok) (by rw [prt_cast]; exact Chn.crD_sta ok) (by rw [prt_cast]; exact Chn.crD_one ok)
  rw [Chn.quoE_0 hq, hq, prt_cast] at this
  exact this
end Go.Proofs.YtlncafhgmbhocaaGreatDoor
