/- Contracts of functions and lemmas, used by the proofs of the given statements. No condition beyond those that each lemma names. -/
import Derived.Test.YtlncafhgmbhocaaGreatDoorJLmA1
import Derived.Test.YtlncafhgmbhocaaGreatDoorLmQ7
import Derived.Test.YtlncafhgmbhocaaGreatDoorJMcP
import Derived.Test.YtlncafhgmbhocaaGreatDoorJLmW5
import Derived.Test.YtlncafhgmbhocaaGreatDoorLmR1
import Derived.Test.YtlncafhgmbhocaaGreatDoorTrL2
import Derived.Test.YtlncafhgmbhocaaGreatDoorOpenInts
import Derived.Test.YtlncafhgmbhocaaGreatDoorJAbQ
namespace Go.Proofs.YtlncafhgmbhocaaGreatDoor
open Go.RowKit
set_option linter.unusedSimpArgs false
set_option linter.unusedVariables false
set_option maxRecDepth 20000
/-! ## the quotient is a chain; how great its rates are (plain) -/
section
variable {nm P Z : Nat} {q : Nat → Rat} {F T p : Nat → Nat}
theorem exK_fzZ (h : ∀ k, k < nm → Fz P Z (q k)) (s : Nat) : ∀ k, k ≤ nm → Fz P (k * Z) (exK F q s k)
  | 0, _ => (Fz.zero P).le (by omega)
  | k + 1, hk => by
    have ih := exK_fzZ h s k (by omega)
    rw [exK, Nat.succ_mul]
    split
    · exact ih.add (h k (by omega))
    · exact ih.le (by omega)
end
section
variable {c : Chn} {p : Nat → Nat}
theorem Chn.quo_f (c : Chn) (p : Nat → Nat) : (c.quo p).f = quF c.f c.t c.q c.nm c.nd (nrm (relP p)) (blks c.nd p) := by
  funext k
  show ((quF c.f c.t c.q c.nm c.nd (nrm (relP p)) (blks c.nd p) k : Nat) : Int).toNat = _
  omega
theorem Chn.quo_q (c : Chn) (p : Nat → Nat) : (c.quo p).q = quQ c.f c.t c.q c.nm c.nd (nrm (relP p)) (blks c.nd p) := by
  funext k
  exact valR_canR _
theorem qu_mem {F T : Nat → Nat} {q : Nat → Rat} {nm n m : Nat} {k : Nat} (hk : k < quN F T q nm n p m) : quF F T q nm n p m k < m ∧ quT F T q nm n p m k < m ∧ quF F T q nm n p m k ≠ quT F T q nm n p m k ∧ quQ F T q nm n p m k ≠ 0 := by
  unfold quN at hk
  have h1 : (quF F T q nm n p m k, quT F T q nm n p m k) ∈ movB F T q nm n p m := by
    unfold quF quT
    rw [List.getD_eq_getElem?_getD, List.getElem?_eq_getElem hk]
    simp only [Option.getD_some]
    exact List.getElem_mem hk
  obtain ⟨a1, a2, a3, a4⟩ := movB_mem.1 h1
  exact ⟨a1, a2, a3, a4⟩
theorem qu_lex {F T : Nat → Nat} {q : Nat → Rat} {nm n m : Nat} {i j : Nat} (hij : i < j) (hj : j < quN F T q nm n p m) : quF F T q nm n p m i < quF F T q nm n p m j ∨ quF F T q nm n p m i = quF F T q nm n p m j ∧ quT F T q nm n p m i < quT F T q nm n p m j := by
  unfold quN at hj
  have := List.pairwise_iff_getElem.1 (movB_sorted (F := F) (T := T) (q := q) (nm := nm) (n := n) (p := p) m) i j (by omega) hj hij
  unfold quF quT
  rw [List.getD_eq_getElem?_getD, List.getD_eq_getElem?_getD, List.getElem?_eq_getElem hj, List.getElem?_eq_getElem (Nat.lt_trans hij hj)]
  exact this
theorem Chn.quo_ok (ok : c.Ok) (p : Nat → Nat) : (c.quo p).Ok := by
  have hq : ∀ k, k < c.nm → 0 ≤ c.q k := fun k hk => Rat.le_of_lt (ok.mv k hk).2.2.2.2.2.1
  have hb : blks c.nd p ≤ c.nd := blks_le
  have hlo := ok.lo
  have hhi := ok.hi
  have hp : 0 < blks c.nd p := blks_pos (by omega)
  have hs : c.sr.toNat < c.nd := Chn.sr_lt ok
  have hsb : nrm (relP p) c.sr.toNat < blks c.nd p := nrm_lt (relP_eqv p) hs
  refine ⟨hp, by show blks c.nd p ≤ 256; omega, rfl, by show (0 : Int) ≤ ((nrm (relP p) c.sr.toNat : Nat) : Int); omega, by show ((nrm (relP p) c.sr.toNat : Nat) : Int) < ((blks c.nd p : Nat) : Int); omega, fun k hk => ?_⟩
  obtain ⟨a1, a2, a3, a4⟩ := qu_mem hk
  rw [Chn.quo_q]
  refine ⟨?_, ?_, ?_, ?_, ?_, ?_, fun h0 => ?_⟩
  · show (0 : Int) ≤ ((quF c.f c.t c.q c.nm c.nd (nrm (relP p)) (blks c.nd p) k : Nat) : Int); omega
  · show ((quF c.f c.t c.q c.nm c.nd (nrm (relP p)) (blks c.nd p) k : Nat) : Int) < ((blks c.nd p : Nat) : Int); omega
  · show (0 : Int) ≤ ((quT c.f c.t c.q c.nm c.nd (nrm (relP p)) (blks c.nd p) k : Nat) : Int); omega
  · show ((quT c.f c.t c.q c.nm c.nd (nrm (relP p)) (blks c.nd p) k : Nat) : Int) < ((blks c.nd p : Nat) : Int); omega
  · show ((quF c.f c.t c.q c.nm c.nd (nrm (relP p)) (blks c.nd p) k : Nat) : Int) ≠ ((quT c.f c.t c.q c.nm c.nd (nrm (relP p)) (blks c.nd p) k : Nat) : Int); omega
  · have h9 : 0 ≤ quQ c.f c.t c.q c.nm c.nd (nrm (relP p)) (blks c.nd p) k := rateB_nn hq _ _
    grind
  · have := qu_lex (show k - 1 < k by omega) hk
    show ((quF c.f c.t c.q c.nm c.nd (nrm (relP p)) (blks c.nd p) (k - 1) : Nat) : Int) < ((quF c.f c.t c.q c.nm c.nd (nrm (relP p)) (blks c.nd p) k : Nat) : Int) ∨ ((quF c.f c.t c.q c.nm c.nd (nrm (relP p)) (blks c.nd p) (k - 1) : Nat) : Int) = ((quF c.f c.t c.q c.nm c.nd (nrm (relP p)) (blks c.nd p) k : Nat) : Int) ∧ ((quT c.f c.t c.q c.nm c.nd (nrm (relP p)) (blks c.nd p) (k - 1) : Nat) : Int) < ((quT c.f c.t c.q c.nm c.nd (nrm (relP p)) (blks c.nd p) k : Nat) : Int)
    omega
theorem Chn.quo_nm (ok : c.Ok) (h9 : c.nd ≤ 9) (p : Nat → Nat) : (c.quo p).nm ≤ 81 := by
  have hb : blks c.nd p ≤ c.nd := blks_le
  have hlo := ok.lo
  have hp : 0 < blks c.nd p := blks_pos (by omega)
  show (movB c.f c.t c.q c.nm c.nd (nrm (relP p)) (blks c.nd p)).length ≤ 81
  generalize blks c.nd p = m at *
  rw [← movP_end, show movP c.f c.t c.q c.nm c.nd (nrm (relP p)) m m 0 = movP c.f c.t c.q c.nm c.nd (nrm (relP p)) m (m - 1) m by rw [movP_row, show m - 1 + 1 = m by omega]]
  have h1 := movP_len (F := c.f) (T := c.t) (q := c.q) (nm := c.nm) (n := c.nd) (p := nrm (relP p)) (m := m) (m - 1) m (Nat.le_refl _)
  have h2 : (m - 1) * m ≤ 8 * m := Nat.mul_le_mul_right _ (by omega)
  omega
theorem wp9720 : 9720 * 4294967296 < wp 2 := by decide +kernel
/-- the quotient's rates over one denominator -/
theorem Small.quo_fz (hS : Small c) (ok : c.Ok) (p : Nat → Nat) (k : Nat) : Fz (dps c.q c.nm) (c.nm * (4294967296 * dps c.q c.nm)) ((c.quo p).q k) := by
  rw [Chn.quo_q]
  unfold quQ rateB
  exact into_fz (n := 0) (hS.rts ok) _ _ c.nm (Nat.le_refl _)
theorem Small.quo_bd (hS : Small c) (ok : c.Ok) {k : Nat} (hk : k ≤ 81) : k * (c.nm * (4294967296 * dps c.q c.nm)) < wp 18 := by
  have h := hS.rts ok
  have h1 : k * c.nm ≤ 81 * 120 := Nat.mul_le_mul hk hS.nm
  have h2 : k * c.nm * 4294967296 < wp 2 := Nat.lt_of_le_of_lt (Nat.mul_le_mul_right _ h1) wp9720
  have h3 := wp_mul_lt h2 h.lt
  have e : k * (c.nm * (4294967296 * dps c.q c.nm)) = k * c.nm * 4294967296 * dps c.q c.nm := by
    rw [Nat.mul_assoc (k * c.nm), Nat.mul_assoc k]
  rw [e]
  exact h3
theorem Small.quo_sz (hS : Small c) (ok : c.Ok) (p : Nat → Nat) (k : Nat) : Sz 20 ((c.quo p).q k) := by
  have h := hS.rts ok
  refine (hS.quo_fz ok p k).sz h.ne (by omega) (lt_wp_more h.lt (by omega)) ?_
  have := hS.quo_bd ok (k := 1) (by omega)
  rw [Nat.one_mul] at this
  exact lt_wp_more this (by omega)
theorem Small.quo_raw (hS : Small c) (ok : c.Ok) (p : Nat → Nat) (k : Nat) : ((c.quo p).R k).2.1.length ≤ 20 ∧ ((c.quo p).R k).2.2.length ≤ 20 := by
  have := hS.quo_sz ok p k
  rw [Chn.quo_q] at this
  exact Sz_canR this
theorem Small.quo_chS (hS : Small c) (ok : c.Ok) (p : Nat → Nat) : ChS (c.quo p) 400 := by
  have hn := Chn.quo_nm ok (hS.nd ok) p
  have h := hS.rts ok
  refine ⟨by omega, fun k _ => by have := hS.quo_raw ok p k; omega, fun _ => ⟨by omega, by omega, by omega, fun k _ => by have := hS.quo_raw ok p k; omega, fun s k hk => ?_⟩⟩
  have := (exK_fzZ (F := (c.quo p).f) (nm := (c.quo p).nm) (fun k _ => hS.quo_fz ok p k) s k hk).sz (L := 20) h.ne (by omega) (lt_wp_more h.lt (by omega)) (lt_wp_more (hS.quo_bd ok (by omega)) (by omega))
  exact this.more (by omega)
/-! ### the partition by what is down -/
end
end Go.Proofs.YtlncafhgmbhocaaGreatDoor
namespace Go.Proofs.YtlncafhgmbhocaaGreatDoor
open Go.RowKit
set_option linter.unusedSimpArgs false
set_option linter.unusedVariables false
set_option maxRecDepth 20000
/-! ## P51.3, at a chain (plain) -/
section
variable {c : Chn} {p : Nat → Nat}
theorem ChI.congr_ {w : World} {b0 a b : Nat} {A B : Option Addr} {x y : Chn} (h : ChI w b0 A a B b x) (h1 : x.nm = y.nm) (h2 : x.nd = y.nd) (h3 : ∀ k, k < x.nm → x.F k = y.F k ∧ x.T k = y.T k ∧ x.R k = y.R k) (h4 : ∀ k, k < x.nd → x.D k = y.D k) : ChI w b0 A a B b y := by
  have e : bools x.nd x.D = bools y.nd y.D := by
    rw [← h2]
    unfold bools
    refine List.map_congr_left fun j hj => ?_
    rw [h4 j (List.mem_range.1 hj)]
  refine ⟨⟨?_, ?_⟩, ?_, ?_, ?_, ?_⟩
  · rw [← h1]
    exact h.mv.1.congr h3
  · rw [← h1]; exact h.mv.2
  · have := h.dn
    rw [e] at this
    rw [← h2] at this ⊢
    exact this
  · rw [← h2]; exact h.db
  · rw [← h1]; exact h.cm
  · rw [← h2]; exact h.cd
theorem Chn.blk_num {i : Nat} (hi : i < c.nd) : nrm (relP p) i < (c.quo p).nd := nrm_lt (relP_eqv p) hi
def idN (i : Nat) : Nat := i
theorem id_nrm (i : Nat) : nrm (relP idN) i = i := by
  rw [show nrm (relP idN) i = cntB (isF (relP fun s => s)) (firS (relP fun s => s) i) from rfl, own_fir, own_cnt]
theorem id_nrm2 : nrm (relP idN) = fun s => s := by funext i; exact id_nrm i
theorem id_blk (n : Nat) : blks n idN = n := own_cnt n
theorem Chn.id_sta (c : Chn) : StaB c.f c.t c.q c.nm c.nd idN := fun a b _ _ h => by
  have h : a = b := h
  subst h
  exact alk_refl
theorem Chn.id_one (c : Chn) : c.oneD idN := fun i _ => by
  rw [show firS (relP idN) i = i from own_fir i]
theorem Chn.id_quo (ok : c.Ok) (hR : ∀ k, k < c.nm → okR (c.R k)) : (c.quo idN).st = c.st ∧ (c.quo idN).sr = c.sr ∧ (c.quo idN).nm = c.nm ∧ (c.quo idN).nd = c.nd ∧ (∀ k, k < (c.quo idN).nm → (c.quo idN).F k = c.F k ∧ (c.quo idN).T k = c.T k ∧ (c.quo idN).R k = c.R k) ∧ ∀ k, k < (c.quo idN).nd → (c.quo idN).D k = c.D k := by
  have hb := id_blk c.nd
  have hm := Chn.own_moves ok
  have hnm : (c.quo idN).nm = c.nm := by
    show quN c.f c.t c.q c.nm c.nd (nrm (relP idN)) (blks c.nd idN) = _
    rw [hb, id_nrm2]
    unfold quN
    rw [hm]
    simp
  refine ⟨?_, ?_, hnm, hb, fun k hk => ?_, fun k hk => ?_⟩
  · show ((blks c.nd idN : Nat) : Int) = c.st
    rw [hb, ok.st]
  · show ((nrm (relP idN) c.sr.toNat : Nat) : Int) = c.sr
    rw [id_nrm]
    have := ok.s0
    omega
  · rw [hnm] at hk
    have e : (movB c.f c.t c.q c.nm c.nd (fun s => s) c.nd).getD k (0, 0) = (c.f k, c.t k) := by
      rw [hm, List.getD_eq_getElem?_getD]
      simp [hk]
    have hF : quF c.f c.t c.q c.nm c.nd (nrm (relP idN)) (blks c.nd idN) k = c.f k := by
      rw [hb, id_nrm2]; unfold quF; rw [e]
    have hTt : quT c.f c.t c.q c.nm c.nd (nrm (relP idN)) (blks c.nd idN) k = c.t k := by
      rw [hb, id_nrm2]; unfold quT; rw [e]
    have hmv := ok.mv k hk
    refine ⟨?_, ?_, ?_⟩
    · show ((quF c.f c.t c.q c.nm c.nd (nrm (relP idN)) (blks c.nd idN) k : Nat) : Int) = c.F k
      rw [hF]; unfold Chn.f; omega
    · show ((quT c.f c.t c.q c.nm c.nd (nrm (relP idN)) (blks c.nd idN) k : Nat) : Int) = c.T k
      rw [hTt]; unfold Chn.t; omega
    · show canR (quQ c.f c.t c.q c.nm c.nd (nrm (relP idN)) (blks c.nd idN) k) = c.R k
      unfold quQ
      rw [hF, hTt, id_nrm2]
      unfold rateB
      rw [own_ix (Chn.lt_f ok k hk), Chn.into_own ok hk]
      exact valR_pos_can (hR k hk) hmv.2.2.2.2.2.1
  · show c.D (ixB (isF (relP idN)) c.nd k) = c.D k
    have hk : k < c.nd := by rw [← hb]; exact hk
    rw [show ixB (isF (relP idN)) c.nd k = k from own_ix hk]
/-! ### what leaves a block -/
/-- what a state sends to other blocks, the first k moves -/
def outS (F T : Nat → Nat) (q : Nat → Rat) (N : Nat → Nat) (s k : Nat) : Rat := sumN (fun j => if F j = s ∧ N (T j) ≠ N s then q j else 0) k
/-- what a block sends, the first k moves of the quotient -/
def outB (G : Nat → Nat) (q : Nat → Rat) (a k : Nat) : Rat := sumN (fun j => if G j = a then q j else 0) k
theorem Chn.nrm_sta (ok : c.Ok) (hpl : ∀ i, i < c.nd → p i < c.nd) (hs : StaB c.f c.t c.q c.nm c.nd p) : StaB c.f c.t c.q c.nm c.nd (nrm (relP p)) := fun a b ha hb2 h => by
  have hp : p a = p b := beq_iff_eq.1 ((nrm_iff (relP_eqv p)).1 h)
  refine alk_iff.2 fun d hd hne => ?_
  by_cases hex : ∃ u, u < c.nd ∧ nrm (relP p) u = d
  · obtain ⟨u, hu, e⟩ := hex
    have conv : ∀ t, intoQ c.f c.t c.q c.nm (nrm (relP p)) t d = intoQ c.f c.t c.q c.nm p t (p u) := fun t => sumN_congr fun k hk => by
      have h9 : nrm (relP p) (c.t k) = d ↔ p (c.t k) = p u := by
        rw [← e]
        exact (nrm_iff (relP_eqv p)).trans beq_iff_eq
      by_cases h1 : c.f k = t ∧ nrm (relP p) (c.t k) = d
      · rw [if_pos h1, if_pos ⟨h1.1, h9.1 h1.2⟩]
      · rw [if_neg h1, if_neg (fun h2 => h1 ⟨h2.1, h9.2 h2.2⟩)]
    rw [conv, conv]
    exact alk_iff.1 (hs a b ha hb2 hp) (p u) (hpl u hu) (fun e2 => hne (by
      rw [← e]
      exact (nrm_iff (relP_eqv p)).2 (beq_iff_eq.2 e2)))
  · have zero : ∀ t, intoQ c.f c.t c.q c.nm (nrm (relP p)) t d = 0 := fun t => sumN_nil fun k hk => by
      rw [if_neg (fun h1 => hex ⟨c.t k, Chn.lt_t ok k hk, h1.2⟩)]
    rw [zero, zero]
theorem Chn.out_eq (ok : c.Ok) (hpl : ∀ i, i < c.nd → p i < c.nd) (hs : StaB c.f c.t c.q c.nm c.nd p) {s : Nat} (hsn : s < c.nd) : outS c.f c.t c.q (nrm (relP p)) s c.nm = outB (c.quo p).f (c.quo p).q (nrm (relP p) s) (c.quo p).nm := by
  have hst := Chn.nrm_sta ok hpl hs
  have hmp : blks c.nd (nrm (relP p)) = blks c.nd p := by unfold blks; rw [relP_nrm (relP_eqv p)]
  have hNN : ∀ i, nrm (relP (nrm (relP p))) i = nrm (relP p) i := fun i => by rw [nrm_nrm (relP_eqv p)]
  rw [Chn.quo_f, Chn.quo_q]
  show _ = outB (quF c.f c.t c.q c.nm c.nd (nrm (relP p)) (blks c.nd p)) (quQ c.f c.t c.q c.nm c.nd (nrm (relP p)) (blks c.nd p)) (nrm (relP p) s) (quN c.f c.t c.q c.nm c.nd (nrm (relP p)) (blks c.nd p))
  rw [← hmp]
  generalize nrm (relP p) = N at *
  have hT : ∀ k, k < c.nm → c.t k < c.nd := Chn.lt_t ok
  have hbl : ∀ {s}, s < c.nd → N s < blks c.nd N := fun hs => blk_lt (n := c.nd) hNN hs
  have h1 := into_sum (F := c.f) (q := c.q) (P := N) (L := fun b => if b = N s then 1 else 0) hT (fun s hs => hbl hs) s 0
  have h2 := qu_into (F := c.f) (T := c.t) (q := c.q) (nm := c.nm) (n := c.nd) (p := N) (L := fun _ => 0) (m := blks c.nd N) (hbl hsn) 0
  have e1 : outS c.f c.t c.q N s c.nm = intoQ c.f c.t c.q c.nm (fun t => if N t = N s then 1 else 0) s 0 := sumN_congr fun k hk => by
    by_cases h : c.f k = s ∧ N (c.t k) ≠ N s
    · rw [if_pos h, if_pos ⟨h.1, if_neg h.2⟩]
    · rw [if_neg h, if_neg]
      rintro ⟨h3, h4⟩
      by_cases h5 : N (c.t k) = N s
      · have h4 : (if N (c.t k) = N s then 1 else 0) = 0 := h4
        rw [if_pos h5] at h4; omega
      · exact h ⟨h3, h5⟩
  have e2 : outB (quF c.f c.t c.q c.nm c.nd N (blks c.nd N)) (quQ c.f c.t c.q c.nm c.nd N (blks c.nd N)) (N s) (quN c.f c.t c.q c.nm c.nd N (blks c.nd N)) = intoQ (quF c.f c.t c.q c.nm c.nd N (blks c.nd N)) (quT c.f c.t c.q c.nm c.nd N (blks c.nd N)) (quQ c.f c.t c.q c.nm c.nd N (blks c.nd N)) (quN c.f c.t c.q c.nm c.nd N (blks c.nd N)) (fun _ => 0) (N s) 0 := sumN_congr fun k hk => by
    by_cases h : quF c.f c.t c.q c.nm c.nd N (blks c.nd N) k = N s
    · rw [if_pos h, if_pos ⟨h, rfl⟩]
    · rw [if_neg h, if_neg (fun h2 => h h2.1)]
  rw [e1, e2, h1, h2]
  refine sumN_congr fun b hb => ?_
  by_cases h : b = N s
  · rw [if_neg (fun h3 : (if b = N s then 1 else 0) = 0 => by rw [if_pos h] at h3; omega), if_neg (fun h3 => h3.1 h.symm)]
  · have hbn : b < c.nd := Nat.lt_of_lt_of_le hb blks_le
    rw [if_pos (show (if b = N s then 1 else 0) = 0 from if_neg h), if_pos ⟨fun h3 => h h3.symm, rfl⟩, rate_of hst (blk_first (n := c.nd) hNN) hsn (hbl hsn) hbn h]
/-- one step of each sum -/
theorem outS_y {F T : Nat → Nat} {q : Nat → Rat} {N : Nat → Nat} {s k : Nat} (h : F k = s ∧ N (T k) ≠ N s) : outS F T q N s (k + 1) = outS F T q N s k + q k := by
  unfold outS
  rw [sumN, if_pos h]
theorem outS_n {F T : Nat → Nat} {q : Nat → Rat} {N : Nat → Nat} {s k : Nat} (h : ¬ (F k = s ∧ N (T k) ≠ N s)) : outS F T q N s (k + 1) = outS F T q N s k := by
  unfold outS
  rw [sumN, if_neg h]
  grind
theorem outB_y {G : Nat → Nat} {q : Nat → Rat} {a k : Nat} (h : G k = a) : outB G q a (k + 1) = outB G q a k + q k := by
  unfold outB
  rw [sumN, if_pos h]
theorem outB_n {G : Nat → Nat} {q : Nat → Rat} {a k : Nat} (h : G k ≠ a) : outB G q a (k + 1) = outB G q a k := by
  unfold outB
  rw [sumN, if_neg h]
  grind
theorem sum_fzZ {P Z : Nat} {q : Nat → Rat} {B : Nat → Prop} [DecidablePred B] {nm : Nat} (h : ∀ k, k < nm → Fz P Z (q k)) : ∀ k, k ≤ nm → Fz P (k * Z) (sumN (fun j => if B j then q j else 0) k)
  | 0, _ => (Fz.zero P).le (by omega)
  | k + 1, hk => by
    have ih := sum_fzZ h (B := B) k (by omega)
    rw [sumN, Nat.succ_mul]
    refine ih.add ?_
    split
    · exact h k (by omega)
    · exact (Fz.zero P).le (by omega)
/-- how great the sum is on its way -/
theorem Small.out_sz {c : Chn} (hS : Small c) (ok : c.Ok) (p N : Nat → Nat) (s a k j : Nat) (hk : k ≤ c.nm) (hj : j ≤ (c.quo p).nm) : Sz 400 (outS c.f c.t c.q N s k - outB (c.quo p).f (c.quo p).q a j) := by
  have h := hS.rts ok
  have hn := Chn.quo_nm ok (hS.nd ok) p
  have h1 : Fz (dps c.q c.nm) (k * (4294967296 * dps c.q c.nm)) (outS c.f c.t c.q N s k) := sum_fzZ (fun k hk => h.fz k hk) k hk
  have h2 : Fz (dps c.q c.nm) (j * (c.nm * (4294967296 * dps c.q c.nm))) (outB (c.quo p).f (c.quo p).q a j) := sum_fzZ (nm := (c.quo p).nm) (fun k _ => hS.quo_fz ok p k) j hj
  refine Sz.more (L := 20) ((h1.sub h2).sz h.ne (by omega) (lt_wp_more h.lt (by omega)) ?_) (by omega)
  have b1 : k * (4294967296 * dps c.q c.nm) < wp 18 := by
    have h3 : k * 4294967296 < wp 2 := Nat.lt_of_le_of_lt (Nat.mul_le_mul_right _ (by have := h.few; omega)) wp2b
    have := wp_mul_lt h3 h.lt
    rwa [Nat.mul_assoc] at this
  have b2 := hS.quo_bd ok (k := j) (by omega)
  exact lt_wp_more (lt_wp_add b1 b2) (by omega)
end
end Go.Proofs.YtlncafhgmbhocaaGreatDoor
