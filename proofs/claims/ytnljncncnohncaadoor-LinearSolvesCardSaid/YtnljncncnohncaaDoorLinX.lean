/- Contracts of functions and lemmas, used by the proofs of the given statements. No condition beyond those that each lemma names. -/
import Derived.Test.YtnljncncnohncaaDoorLinW
import Derived.Test.YtnljncncnohncaaDoorAwA
namespace Go.Proofs.YtnljncncnohncaaDoor
open Go.RowKit
set_option linter.unusedSimpArgs false
set_option linter.unusedVariables false
set_option maxRecDepth 20000
/-! ## the free columns (plain) -/
def fre (p : List Nat) : Nat → List Nat
  | 0 => []
  | k + 1 => if k ∈ p then fre p k else fre p k ++ [k]
theorem fre_in {p : List Nat} {k : Nat} (h : k ∈ p) : fre p (k + 1) = fre p k := by show (if _ then _ else _) = _; rw [if_pos h]
theorem fre_out {p : List Nat} {k : Nat} (h : k ∉ p) : fre p (k + 1) = fre p k ++ [k] := by show (if _ then _ else _) = _; rw [if_neg h]
theorem fre_len (p : List Nat) : ∀ k, (fre p k).length ≤ k
  | 0 => Nat.le_refl _
  | k + 1 => by
    have := fre_len p k
    by_cases h : k ∈ p
    · rw [fre_in h]; omega
    · rw [fre_out h, List.length_append, List.length_singleton]; omega
theorem fre_pre (p : List Nat) {k : Nat} : ∀ {c}, k ≤ c → ∃ t, fre p c = fre p k ++ t
  | 0, h => ⟨[], by obtain rfl : k = 0 := by omega
                    simp⟩
  | c + 1, h => by
    by_cases e : k = c + 1
    · subst e; exact ⟨[], by simp⟩
    · obtain ⟨t, ht⟩ := fre_pre p (show k ≤ c by omega)
      by_cases h2 : c ∈ p
      · exact ⟨t, by rw [fre_in h2, ht]⟩
      · exact ⟨t ++ [c], by rw [fre_out h2, ht, List.append_assoc]⟩
theorem fre_at {p : List Nat} {k c : Nat} (hk : k < c) (hp : k ∉ p) : (fre p c).getD (fre p k).length 0 = k := by
  obtain ⟨t, ht⟩ := fre_pre p (show k + 1 ≤ c by omega)
  rw [ht, fre_out hp]
  simp [List.getD]
theorem fre_mem {p : List Nat} : ∀ {k x}, x ∈ fre p k ↔ x < k ∧ x ∉ p
  | 0, x => by simp [fre]
  | k + 1, x => by
    by_cases h : k ∈ p
    · rw [fre_in h, fre_mem]
      constructor
      · rintro ⟨h1, h2⟩; exact ⟨by omega, h2⟩
      · rintro ⟨h1, h2⟩
        have : x ≠ k := fun e => h2 (e ▸ h)
        exact ⟨by omega, h2⟩
    · rw [fre_out h, List.mem_append, fre_mem, List.mem_singleton]
      constructor
      · rintro (⟨h1, h2⟩ | rfl)
        · exact ⟨by omega, h2⟩
        · exact ⟨by omega, h⟩
      · rintro ⟨h1, h2⟩
        by_cases e : x = k
        · exact .inr e
        · exact .inl ⟨by omega, h2⟩
/-- the kernel's vectors -/
def kerM (n : Nat) (M : Mf) (c : Nat) : Mf := fun t => kx n M c ((fre (gj n M c).2 c).getD t 0) (gj n M c).2.length
theorem kerM_at {n c k : Nat} {M : Mf} (hk : k < c) (hp : k ∉ (gj n M c).2) : kerM n M c (fre (gj n M c).2 k).length = kx n M c k (gj n M c).2.length := by unfold kerM; rw [fre_at hk hp]
theorem kx_succ (n : Nat) (M : Mf) (c k t : Nat) : kx n M c k (t + 1) = upd (kx n M c k t) (pv (gj n M c).2 t) (-(gj n M c).1 t k) := rfl
theorem kx_start (n : Nat) (M : Mf) (c k : Nat) : kx n M c k 0 = upd (fun _ => 0) k 1 := rfl
theorem take_step {p : List Nat} {t : Nat} (ht : t < p.length) : (fun j => decide (j ∈ p.take (t + 1))) = upd (fun j => decide (j ∈ p.take t)) (p[t]) true := by
  funext j
  unfold upd
  have hm : j ∈ p.take (t + 1) ↔ j ∈ p.take t ∨ j = p[t] := by rw [List.take_succ_eq_append_getElem ht, List.mem_append, List.mem_singleton]
  by_cases h : j = p[t]
  · rw [if_pos h]; exact decide_eq_true (hm.2 (.inr h))
  · rw [if_neg h]
    show decide (j ∈ p.take (t + 1)) = decide (j ∈ p.take t)
    by_cases h2 : j ∈ p.take t
    · rw [decide_eq_true h2]; exact decide_eq_true (hm.2 (.inl h2))
    · rw [decide_eq_false h2]; exact decide_eq_false fun h3 => (hm.1 h3).elim h2 h
/-! ## a row of bools of the call's own -/
def bls (n : Nat) (f : Nat → Bool) : List Value := (List.range n).map fun j => .bool (f j)
theorem bls_set {n : Nat} {f : Nat → Bool} {k : Nat} {b : Bool} : (bls n f).set k (.bool b) = bls n (upd f k b) := by
  apply List.ext_getElem?
  intro j
  by_cases h : j = k
  · subst h
    by_cases hn : j < n
    · rw [List.getElem?_set_self (by simp [bls]; exact hn)]; simp [bls, hn, upd]
    · rw [List.getElem?_eq_none (by simp [bls]; omega), List.getElem?_eq_none (by simp [bls]; omega)]
  · rw [List.getElem?_set_ne (Ne.symm h)]
    by_cases hn : j < n
    · simp [bls, hn, upd, h]
    · rw [List.getElem?_eq_none (by simp [bls]; omega), List.getElem?_eq_none (by simp [bls]; omega)]
def OwB (w : World) (base : Nat) (A : Option Addr) (c n : Nat) (f : Nat → Bool) : Prop := w.ownsRow base 4 1 (.slice A n c) n (bls n f)
section
variable {w w' w1 : World} {base g c n k : Nat} {A : Option Addr} {f : Nat → Bool}
theorem OwB.below (h : OwB w base A c n f) (hb : Below w.heap.size w w1) : OwB w1 base A c n f := own_below h hb
theorem OwB.at_ (h : OwB w base (some ⟨g, 0, none⟩) c n f) (hk : k < n) : w.cell? ⟨g, k, none⟩ = some (.bool (f k)) := by
  rw [World.ownsRow.cellAt h k (by omega)]
  simp [bls, hk]
theorem OwB.frozen (h : OwB w base (some ⟨g, 0, none⟩) c n f) (k : Nat) : w.frozen? ⟨g, k, none⟩ = false := World.ownsRow.frozenAt h k
theorem OwB.set (h : OwB w base (some ⟨g, 0, none⟩) c n f) (k : Nat) (b : Bool) : OwB (w.setCell ⟨g, k, none⟩ (.bool b)) base (some ⟨g, 0, none⟩) c n (upd f k b) ∧ w.grownBy (w.setCell ⟨g, k, none⟩ (.bool b)) (some g) := by
  obtain ⟨s1, g1⟩ := World.ownsRow.stored h k (.bool b)
  rw [bls_set] at s1
  exact ⟨s1, g1⟩
theorem boolInfo : (Tryd.prog.info? 4).map (fun i => (i.zero, i.size, i.bytes)) = some (some (.bool false), 1, 1) := by kernel_rfl
/-- is := make([]bool, n) -/
theorem wpList_makeB {ops : Array Oper} {rest : List Oper} {o : Oper} {a : Act} {Q : Exit → Act → World → Prop}
    (hg : o.guard = none) (l c : Operand) (hop : o.op = Op.makeSlice 89 l c)
    (b0 n : Nat) (L C : Int) (hl : a.eval l = .int .i64 L) (hc : a.eval c = .int .i64 C) (hL : L = (n : Int)) (hC : C = (n : Int)) (hn : n ≤ 1000000) (hb : b0 ≤ w.heap.size)
    (h : ∀ w', OwB w' b0 (some ⟨w.heap.size, 0, none⟩) n n (fun _ => false) → Below w.heap.size w w' → wpList Tryd.prog ops Q rest (a.put o.dst (.slice (some ⟨w.heap.size, 0, none⟩) n n)) w') : wpList Tryd.prog ops Q (o :: rest) a w := by
  obtain ⟨i, hi, hz, hs, hby⟩ := info_parts boolInfo
  refine wpList_make_full w hg l c 89 hop b0 4 i (.bool false) 1 Tryd.underlying89 hi hz hs .i64 .i64 L C n hl hc hL hC (by rw [hby]; omega) (by unfold maxLen; omega) hb ?_
  intro w' h1 h2
  have e : (madeCells (Value.cells (.bool false)) (n * 1)).toList = bls n (fun _ => false) := by
    rw [Nat.mul_one]
    show (madeCells #[Value.bool false] n).toList = _
    rw [toList_madeCells_one]
    apply List.ext_getElem (by simp [bls])
    intro j h1 h2
    simp [bls]
  rw [e] at h1
  exact h w' h1 ((Below.refl _ _).grown h2 (Nat.le_refl _) (by intro k hk; cases hk))
end
attribute [local irreducible] nv wp win plainB validR valR canR gj findR elim swp gl kx fre kerM
/-! ## package linear: Kernel -/
def RetKer (b0 n c : Nat) (M : Mf) (e : Ending) (w' : World) : Prop := ∃ A d, e = .returned (.tuple #[.slice A (fre (gj n M c).2 c).length d, .nilIface]) ∧ MatI w' w'.heap.size A (fre (gj n M c).2 c).length (fun _ => c) (fun i => can (kerM n M c i))
set_option maxHeartbeats 8000000 in
theorem kernelP_any {w : World} {n c ca L : Nat} {A : Option Addr} {len : Nat → Nat} {R : Nat → Nat → Rw} (h : MatI w w.heap.size A n len R) (hcode : codeM n len = 0) (hc : len 0 = c)
    (hz : ∀ i k, i < n → k < c → (R i k).2.1.length ≤ L ∧ (R i k).2.2.length ≤ L) (hok : ∀ i k, i < n → k < c → okR (R i k)) (hL : 1 ≤ L) (hg : gl L c ≤ 1000000000) :
    Calls Tryd.prog 31 #[.slice A n ca] w fun e w' => RetKer w.heap.size n c (fun i k => valR (R i k)) e w' ∧ Below w.heap.size w w' := by
  obtain ⟨hn0, hl0, hn, hl, hall⟩ := codeM_zero hcode
  rw [hc] at hl0 hl
  obtain ⟨M, hM⟩ : ∃ M : Mf, M = fun i k => valR (R i k) := ⟨_, rfl⟩
  have HSZ := Lib.hid (gj_sz (n := n) (M := M) (c := c) hL (fun a b (ha : a < n) (hb : b < c) => (by rw [hM]; exact Sz_valR (hok a b ha hb) hL (hz a b ha hb).1 (hz a b ha hb).2 : Sz L (M a b))) c (Nat.le_refl _))
  have HG := Lib.hid hg
  have HGP := Lib.hid (gl_pos hL c)
  have KR := Lib.hid (reduceP_any (ca := ca) h hcode hc hz hok hL hg)
  have K1 : ∀ W, Calls Tryd.prog 37 #[.int .i64 1] W fun e w' => RetQ W.heap.size ((1 : Nat) : Rat) e w' ∧ Below W.heap.size W w' := fun W => ofQ 1 W (by omega)
  have K1 := Lib.hid K1
  obtain ⟨b, off, A0, c0, rfl, hc0, -⟩ := h.at0 hn0
  rw [hc] at hc0
  rw [← hM] at KR ⊢
  obtain ⟨p, hp⟩ : ∃ p, p = (gj n M c).2 := ⟨_, rfl⟩
  obtain ⟨S, hS⟩ : ∃ S, S = (gj n M c).1 := ⟨_, rfl⟩
  have HK := Lib.hid (fun k (hk : k < c) (hf : k ∉ p) => (by subst hp; exact kerM_at hk hf : kerM n M c (fre p k).length = kx n M c k p.length))
  have HX := Lib.hid (fun k t => (by subst hp hS; exact kx_succ n M c k t : kx n M c k (t + 1) = upd (kx n M c k t) (pv p t) (-S t k)))
  have HPL := Lib.hid (fun x (hx : x ∈ p) => gj_lt c x (hp ▸ hx))
  have hpl : p.length ≤ n := by rw [hp]; exact (gj_len_le c).2
  unfold RetR3 at KR
  unfold RetKer
  rw [← hS] at HSZ
  rw [← hp, ← hS] at KR
  rw [← hp]
  clear hp hS hM hz hok hg hcode hall hc h
  obtain ⟨r, hr⟩ : ∃ r, r = p.length := ⟨_, rfl⟩
  rw [← hr] at hpl KR HK
  have HR := Lib.hid hr
  clear hr
  obtain ⟨K, hK⟩ : ∃ K, K = kerM n M c := ⟨_, rfl⟩
  rw [← hK] at HK ⊢
  clear hK
  go_enter Tryd.func31, Tryd.ntmps31
  go_wp2_with fail
  (with_reducible refine (KR.out).mono ?_)
  rintro e w1 ⟨⟨bo, co, P, cp, rfl, own1, opv1⟩, hb1⟩
  have HO1 := Lib.hid own1
  have HP1 := Lib.hid opv1
  have hbz1 := hb1.size
  have hbb := lt_of_cell hc0
  have hc1 := (hb1.cell (p := ⟨b, off, none⟩) hbb).trans hc0
  clear own1 opv1 KR
  go_wp2_with (first | (at_make; refine wpList_makeB rfl (.tmp 27) (.tmp 27) rfl w.heap.size c (c : Int) (c : Int) (by simp [Act.eval]) (by simp [Act.eval]) rfl rfl (by omega) (by omega) ?_; intro w2 own2 hb2) | fail)
  go_loopw [31] (fun i wr => ∃ t : Nat, t ≤ r ∧ i = .int .i64 t ∧ OwB wr w.heap.size (some ⟨w1.heap.size, 0, none⟩) c c (fun j => decide (j ∈ p.take t)) ∧ Below w1.heap.size w1 wr) (fun i _ => r - (intOf i).toNat)
  case atStart => exact ⟨0, Nat.zero_le _, rfl, by simpa using own2, hb2⟩
  case round =>
    obtain ⟨t, ht, rfl, own, hb⟩ := hrel
    have hbz := hb.size
    by_cases hlt : t < r
    · have hlt' : t < p.length := by rw [← HR.out]; exact hlt
      obtain ⟨gP, rfl, hcP⟩ := (HP1.out.below hb).at_ hlt'
      have HT := Lib.hid (take_step hlt')
      have hx := HPL.out _ (List.getElem_mem hlt')
      generalize p[t] = x at *
      have hcx := own.at_ hx
      have hfz := own.frozen
      have hx0 : (0 : Int) ≤ (x : Int) := by omega
      have hx1 : (x : Int) < (c : Int) := by omega
      have st := own.set x true
      rw [← HT.out] at st
      have hb2 := hb.trans (below_of_row st.2 (fun q hq => by injection hq with hq; omega) hbz)
      have HST := Lib.hid st.1
      clear st own hb hlt'
      go_wp2
      go_roundw
      case rel => exact ⟨t + 1, by omega, by go_num, HST.out, hb2⟩
      case measure => simp [intOf]; omega
    · have htr : t = r := by omega
      subst htr
      have HB := Lib.hid own
      have e : (fun j => decide (j ∈ p.take t)) = fun j => decide (j ∈ p) := by rw [HR.out, List.take_length]
      rw [e] at HB
      clear e own
      obtain ⟨wI, hwI⟩ : ∃ wI, wI = wr := ⟨_, rfl⟩
      subst hwI
      have hcI := (hb.cell (p := ⟨b, off, none⟩) (by show b < _; omega)).trans hc1
      go_wp2
      go_loopw [10, 43] (fun a i wr => ∃ k A d, k ≤ c ∧ i = .int .i64 (k : Int) ∧ a = .slice A (fre p k).length d ∧ MatO wr wI.heap.size A d (fre p k).length (fun _ => c) K ∧ Below wI.heap.size wI wr) (fun _ i _ => c - (intOf i).toNat)
      case atStart => exact ⟨0, none, 0, Nat.zero_le _, rfl, by unfold fre; rfl, by unfold fre; exact MatO.nil_ _ _ _ _, Below.refl _ _⟩
      case round =>
        obtain ⟨k, A2, d2, hk, rfl, rfl, own, hb2⟩ := hrel
        have hb2z := hb2.size
        have hb12 : Below w1.heap.size w1 wr := hb.trans (hb2.mono hbz)
        have hcr := (hb2.cell (p := ⟨b, off, none⟩) (by show b < _; omega)).trans hcI
        by_cases hkc : k < c
        · have hB := (HB.out.below hb2).at_ hkc
          have hk0 : (0 : Int) ≤ (k : Int) := by omega
          have hk1 : (k : Int) < (c : Int) := by omega
          by_cases hin : k ∈ p
          · rw [decide_eq_true hin] at hB
            have HE := Lib.hid (fre_in hin)
            clear hin
            go_wp2
            go_roundw
            case rel => exact ⟨k + 1, A2, d2, by omega, by go_num, by rw [HE.out], by rw [HE.out]; exact own, hb2⟩
            case measure => simp [intOf]; omega
          · rw [decide_eq_false hin] at hB
            have HE := Lib.hid (fre_out hin)
            have HKM := Lib.hid (HK.out k hkc hin)
            have HMO := Lib.hid own
            have hfl := fre_len p k
            clear hin own
            generalize hfk : (fre p k).length = fk at *
            have HFK := Lib.hid hfk
            clear hfk
            obtain ⟨wq, hwq⟩ : ∃ wq, wq = wr := ⟨_, rfl⟩
            subst hwq
            go_wp2_with (first | (at_make; refine wpList_makeR rfl (.tmp 53) (.tmp 53) rfl wI.heap.size c (c : Int) (c : Int) (by simp [Act.eval]) (by simp [Act.eval]) rfl rfl (by omega) (by omega) ?_; intro w3 own3 hb3) | fail)
            have hw3z := hb3.size
            have hgl := own3.lt
            ((go_at_call 37; (with_reducible refine (K1.out _).mono ?_); rintro e w4 ⟨⟨v4, rfl, own4⟩, hb4⟩; have hb4z := Below.size hb4; (try simp only [World.size_alloc, World.size_setCell, World.size_drew] at hb4z)))
            obtain ⟨s4, A4, n4, c4, B4, m4, e4, rfl⟩ := own4.form
            have st := (own3.below hb4).set hkc (own4.rs (b0 := wI.heap.size))
            have hfz := (own3.below hb4).frozen
            obtain ⟨t0, t1, t2, t3, t4, t5, t6, y0, y1, y2, -⟩ := (own3.below hb4).at_ hkc
            have e0 : upd (can fun _ => 0) k (canR ((1 : Nat) : Rat)) = can (kx n M c k 0) := by rw [upd_can, kx_start]; rfl
            rw [e0] at st
            have ST := Lib.hid st.1
            have hb5 := hb3.trans ((hb4.mono hw3z).trans (below_of_row st.2 (fun q hq => by injection hq with hq; omega) (by have := hb4.size; omega)))
            clear st e0 own3 own4
            go_wp2
            clear y0 y1 y2 hfz t0 t1 t2 t3 t4 t5 t6
            go_loopw [61] (fun i wr => ∃ s : Nat, s ≤ t ∧ i = .int .i64 s ∧ OwR wr wI.heap.size (some ⟨wq.heap.size, 0, none⟩) c c (can (kx n M c k s)) ∧ Below wq.heap.size wq wr ∧ wq.heap.size < wr.heap.size) (fun i _ => t - (intOf i).toNat)
            case atStart => exact ⟨0, Nat.zero_le _, rfl, ST.out, hb5, ST.out.lt⟩
            case round =>
              obtain ⟨s, hs, rfl, ownx, hb6, hwr⟩ := hrel
              have hb16 : Below w1.heap.size w1 wr := hb12.trans (hb6.mono (by omega))
              by_cases hst : s < t
              · have hlt' : s < p.length := by rw [← HR.out]; exact hst
                obtain ⟨gP, rfl, hcP⟩ := (HP1.out.below hb16).at_ hlt'
                have hx := HPL.out _ (List.getElem_mem hlt')
                have HXE := Lib.hid (by have := HX.out k s; rw [pv_at hlt'] at this; exact this)
                generalize p[s] = x at *
                have hsn : s < n := by omega
                obtain ⟨gS, dS, hXS⟩ := (HO1.out.below hb16).row1 hsn hl0
                have hcS := hXS.cell hsn
                try simp only at hcS
                obtain ⟨s5, A5, n5, c5, B5, m5, e5, f0, f1, f2, r5⟩ := (hXS.own hsn).at_ hkc
                have KN := Lib.hid (neg_any (r5.canQ (HSZ.out s k hsn hkc)) HGP.out (by have := HG.out; omega))
                have hs0 : (0 : Int) ≤ (s : Int) := by omega
                have hs1 : (s : Int) < (n : Int) := by omega
                have hs2 : (s : Int) < (t : Int) := by omega
                have hx0 : (0 : Int) ≤ (x : Int) := by omega
                have hx1 : (x : Int) < (c : Int) := by omega
                have HOX := Lib.hid ownx
                clear hXS r5 ownx hlt'
                go_wp2_with (first | ((go_at_call 45; (with_reducible refine (KN.out).mono ?_); rintro e w6 ⟨⟨v6, rfl, own6⟩, hb7⟩; have hb7z := Below.size hb7; (try simp only [World.size_alloc, World.size_setCell, World.size_drew] at hb7z)); obtain ⟨s6, A6, n6, c6, B6, m6, e6, rfl⟩ := own6.form; have hfz := (HOX.out.below hb7).frozen; obtain ⟨t0, t1, t2, t3, t4, t5, t6, y0, y1, y2, -⟩ := (HOX.out.below hb7).at_ hx) | fail)
                have st := (HOX.out.below hb7).set hx (own6.rs (b0 := wI.heap.size))
                rw [upd_can, ← HXE.out] at st
                have hb8 := hb6.trans ((hb7.mono (by omega)).trans (below_of_row (b0 := wq.heap.size) st.2 (fun q hq => by injection hq with hq; omega) (by have := hb7.size; omega)))
                have ST2 := Lib.hid st.1
                clear st own6
                go_roundw
                case rel => exact ⟨s + 1, by omega, by go_num, ST2.out, hb8, ST2.out.lt⟩
                case measure => simp [intOf]; omega
              · have hst2 : s = t := by omega
                subst hst2
                have hal : Below wr.heap.size wr (wr.alloc (.cells #[.slice (some ⟨wq.heap.size, 0, none⟩) c c] 23)) := (Below.refl _ _).alloc (Nat.le_refl _) _
                have HOX := Lib.hid ownx
                rw [← HKM.out] at HOX
                have HEL : Hid ((fre p (k + 1)).length = fk + 1) := by
                  show _ = _
                  rw [HE.out, List.length_append, HFK.out]; rfl
                clear ownx
                go_wp2_with (first | (at_builtin; refine wpList_appM rfl (.tmp 78) (.tmp 80) rfl wI.heap.size A2 d2 fk (fun _ => c) K (by simp [Act.eval]) ((HMO.out.below hb6).below hal) wr.heap.size (by simp [Act.eval]) (some ⟨wq.heap.size, 0, none⟩) c (by simp) (HOX.out.below hal) (by omega) (by simp; omega) ?_; intro A7 d7 w7 own7 hb7) | fail)
                have hb8 : Below wI.heap.size wI w7 := hb2.trans ((hb6.mono hb2z).trans ((hal.mono (by omega)).trans hb7))
                exact ⟨⟨k + 1, A7, d7, by omega, by go_num, by rw [HEL.out], by rw [HEL.out]; exact own7, hb8⟩, by simp [intOf]; omega⟩
        · have : k = c := by omega
          subst this
          go_wp2
          go_ret2
          exact ⟨⟨_, _, rfl, own.mi hb2z⟩, hb1.trans (hb12.mono hbz1)⟩
end Go.Proofs.YtnljncncnohncaaDoor
