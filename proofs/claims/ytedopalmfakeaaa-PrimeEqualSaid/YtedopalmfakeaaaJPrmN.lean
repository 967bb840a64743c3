/- Contracts of functions and lemmas, used by the proofs of the given statements. No condition beyond those that each lemma names. -/
import Derived.Test.YtedopalmfakeaaaPrW7
import Derived.Test.YtedopalmfakeaaaPrV3
import Derived.Test.YtedopalmfakeaaaJCubeCnt
import Derived.Test.YtedopalmfakeaaaPrW4
import Derived.Test.YtedopalmfakeaaaCubeA3
import Derived.Deep.AppendLies
namespace Go.Proofs.Ytedopalmfakeaaa
set_option linter.unusedSimpArgs false
set_option linter.unusedVariables false
/-! ## how many primes there can be: cubes none of which lies in another (plain) -/
theorem sumL_add {α : Type} (f g : α → Nat) : ∀ l : List α, (l.map fun x => f x + g x).sum = (l.map f).sum + (l.map g).sum
  | [] => rfl
  | x :: l => by
    have := sumL_add f g l
    simp only [List.map_cons, List.sum_cons, this]
    omega
theorem sumL_zero {α : Type} : ∀ l : List α, (l.map fun _ => 0).sum = 0
  | [] => rfl
  | x :: l => by simp only [List.map_cons, List.sum_cons, sumL_zero l]
theorem sumL_swap {α β : Type} (f : α → β → Nat) (B : List β) : ∀ A : List α, (A.map fun a => (B.map fun b => f a b).sum).sum = (B.map fun b => (A.map fun a => f a b).sum).sum
  | [] => by simp only [List.map_nil, List.sum_nil]; exact (sumL_zero B).symm
  | a :: A => by
    have := sumL_swap f B A
    simp only [List.map_cons, List.sum_cons, this]
    rw [← sumL_add]
theorem sumL_if {α : Type} (p : α → Bool) (g : α → Nat) : ∀ l : List α, (l.map fun x => if p x then g x else 0).sum = ((l.filter p).map g).sum
  | [] => rfl
  | x :: l => by
    have := sumL_if p g l
    cases h : p x
    · simp [h, this]
    · simp [h, this]
theorem sumL_le {α : Type} {f g : α → Nat} : ∀ {l : List α}, (∀ x, x ∈ l → f x ≤ g x) → (l.map f).sum ≤ (l.map g).sum
  | [], _ => Nat.le_refl _
  | x :: l, h => by
    have h1 := sumL_le (l := l) fun y hy => h y (List.mem_cons_of_mem _ hy)
    have h2 := h x List.mem_cons_self
    simp only [List.map_cons, List.sum_cons]
    omega
theorem sumL_eq {α : Type} {f g : α → Nat} {l : List α} (h : ∀ x, x ∈ l → f x = g x) : (l.map f).sum = (l.map g).sum := by
  rw [List.map_congr_left h]
theorem sumL_const {α : Type} (k : Nat) : ∀ l : List α, (l.map fun _ => k).sum = l.length * k
  | [] => by simp
  | x :: l => by simp only [List.map_cons, List.sum_cons, sumL_const k l, List.length_cons, Nat.add_mul]; omega
theorem sumL_mul {α : Type} (f : α → Nat) (k : Nat) : ∀ l : List α, (l.map fun x => f x * k).sum = (l.map f).sum * k
  | [] => by simp
  | x :: l => by simp only [List.map_cons, List.sum_cons, sumL_mul f k l, Nat.add_mul]
/-- all chains of cubes, and those through a cube of k events -/
def totC : Nat → Nat
  | 0 => 1
  | n + 1 => 2 * (n + 1) * totC n
def wtC : Nat → Nat → Nat
  | n, 0 => totC n
  | 0, _ + 1 => 0
  | n + 1, k + 1 => (k + 1) * wtC n k
theorem popc_sum (x : Nat) : popc x = ((List.range 24).map fun j => if x.testBit j then 1 else 0).sum := by
  have h := evL_pop 24 x
  unfold popc
  rw [← h, sumL_if (fun j => x.testBit j) (fun _ => 1), sumL_const, Nat.mul_one]
  rfl
/-- none lies in another -/
structure AntiC (S : Nat) (A : List Cn) : Prop where
  nd : A.Nodup
  ok : ∀ c, c ∈ A → okN c ∧ inS S c
  an : ∀ a, a ∈ A → ∀ b, b ∈ A → wiN a b = true → a = b
/-- the cubes with a literal, without it -/
theorem AntiC.cut {S : Nat} {A : List Cn} (h : AntiC S A) (j : Nat) (p : Cn → Bool) (hp : (∀ c, p c = c.1.testBit j) ∨ (∀ c, p c = c.2.testBit j)) : AntiC (ndiff S (2 ^ j)) ((A.filter p).map (cutN j)) := by
  have hw : ∀ a b, p a = true → p b = true → okN a → okN b → wiN (cutN j a) (cutN j b) = true → wiN a b = true := fun a b ha hb oa ob hc => by
    rw [wiN_iff] at hc ⊢
    intro i
    have h1 := hc i
    rw [(cut_bit j a i).1, (cut_bit j a i).2, (cut_bit j b i).1, (cut_bit j b i).2] at h1
    by_cases e : j = i
    · subst e
      have x1 := ok_bit oa j
      have x2 := ok_bit ob j
      rcases hp with hp | hp
      · rw [hp] at ha hb
        exact ⟨fun _ => ha, fun h => absurd ⟨hb, h⟩ x2⟩
      · rw [hp] at ha hb
        exact ⟨fun h => absurd ⟨h, hb⟩ x2, fun _ => ha⟩
    · simpa [e] using h1
  refine ⟨?_, fun c hc => ?_, fun a ha b hb hab => ?_⟩
  · unfold List.Nodup
    rw [List.pairwise_map]
    refine List.Pairwise.imp_of_mem (fun {a b} ha hb hne e => hne ?_) (h.nd.filter p)
    rw [List.mem_filter] at ha hb
    exact h.an a ha.1 b hb.1 (hw a b ha.2 hb.2 (h.ok a ha.1).1 (h.ok b hb.1).1 (by rw [e]; exact (wiN_iff _ _).2 fun i => ⟨id, id⟩))
  · obtain ⟨d, hd, rfl⟩ := List.mem_map.1 hc
    rw [List.mem_filter] at hd
    obtain ⟨h1, h2⟩ := h.ok d hd.1
    refine ⟨cutN_ok h1 j, fun i hi => ?_⟩
    rw [(cut_bit j d i).1, (cut_bit j d i).2] at hi
    rw [testBit_ndiff, Nat.testBit_two_pow]
    rcases hi with hi | hi
    · simp at hi; simp [h2 i (.inl hi.1), hi.2]
    · simp at hi; simp [h2 i (.inr hi.1), hi.2]
  · obtain ⟨a', ha', rfl⟩ := List.mem_map.1 ha
    obtain ⟨b', hb', rfl⟩ := List.mem_map.1 hb
    rw [List.mem_filter] at ha' hb'
    rw [h.an a' ha'.1 b' hb'.1 (hw a' b' ha'.2 hb'.2 (h.ok a' ha'.1).1 (h.ok b' hb'.1).1 hab)]
theorem pop_lit {c : Cn} (h : okN c) : popc (evN c) = ((List.range 24).map fun j => (if c.1.testBit j then 1 else 0) + (if c.2.testBit j then 1 else 0)).sum := by
  rw [popc_sum]
  refine sumL_eq fun j _ => ?_
  rw [evN_bit]
  have := ok_bit h j
  cases h1 : c.1.testBit j <;> cases h2 : c.2.testBit j <;> simp_all
theorem wt00 : (([((0, 0) : Cn)]).map fun c => wtC 0 (popc (evN c))).sum ≤ totC 0 := by decide +kernel
theorem pop00 : popc (evN (0, 0)) = 0 := by decide +kernel
attribute [local irreducible] pop popc wtC totC in
theorem anti_sum : ∀ (n S : Nat) (A : List Cn), popc S = n → S < 16777216 → AntiC S A → (A.map fun c => wtC n (popc (evN c))).sum ≤ totC n := by
  intro n
  induction n with
  | zero =>
    intro S A hS hs h
    have h0 : ∀ c, c ∈ A → c = (0, 0) := fun c hc => by
      have h2 := (h.ok c hc).2
      have hz : ∀ i, S.testBit i = false := fun i => by
        cases hb : S.testBit i
        · rfl
        · have h24 := lt24_bit hs hb
          have := popc_cut (S := S) h24 hb
          omega
      refine cn_ext fun i => ?_
      have := h2 i
      rw [hz i] at this
      cases h1 : c.1.testBit i <;> cases h3 : c.2.testBit i <;> simp_all
    match A, h, h0 with
    | [], _, _ => exact Nat.zero_le _
    | [c], _, h0 =>
      rw [h0 c (by simp)]
      exact wt00
    | c :: d :: A, h, h0 =>
      have := h.nd
      rw [h0 c (by simp), h0 d (by simp)] at this
      simp at this
  | succ m ih =>
    intro S A hS hs h
    by_cases hz : (0, 0) ∈ A
    · have hA : ∀ c, c ∈ A → c = (0, 0) := fun c hc => h.an c hc _ hz ((wiN_iff _ _).2 fun i => by simp)
      match A, h, hA, hz with
      | [], _, _, hz => simp at hz
      | [c], _, hA, _ =>
        rw [hA c (by simp)]
        have e := pop00
        simp only [List.map_cons, List.map_nil, List.sum_cons, List.sum_nil, e, wtC]
        omega
      | c :: d :: A, h, hA, _ =>
        have := h.nd
        rw [hA c (by simp), hA d (by simp)] at this
        simp at this
    · have hpos : ∀ c, c ∈ A → ∃ k, popc (evN c) = k + 1 := fun c hc => by
        cases e : popc (evN c) with
        | succ k => exact ⟨k, rfl⟩
        | zero =>
          refine absurd hc (fun hc => hz ?_)
          have h1 := (h.ok c hc).1
          have : c = (0, 0) := cn_ext fun i => by
            cases hb : (evN c).testBit i
            · rw [evN_bit] at hb
              simp at hb
              simp [hb.1, hb.2]
            · have := popc_cut (S := evN c) (lt24_bit (evN_lt h1) hb) hb
              omega
          rw [← this]; exact hc
      have e1 : (A.map fun c => wtC (m + 1) (popc (evN c))).sum = (A.map fun c => ((List.range 24).map fun j => (if c.1.testBit j then wtC m (popc (evN c) - 1) else 0) + (if c.2.testBit j then wtC m (popc (evN c) - 1) else 0)).sum).sum := by
        refine sumL_eq fun c hc => ?_
        obtain ⟨k, hk⟩ := hpos c hc
        have h1 := (h.ok c hc).1
        rw [hk, wtC, ← hk]
        conv => lhs; rw [pop_lit h1]
        rw [← sumL_mul]
        refine sumL_eq fun j _ => ?_
        rw [hk, Nat.add_sub_cancel]
        cases c.1.testBit j <;> cases c.2.testBit j <;> simp <;> omega
      refine Nat.le_trans (Nat.le_of_eq (e1.trans (sumL_swap (fun (c : Cn) (j : Nat) => (if c.1.testBit j then wtC m (popc (evN c) - 1) else 0) + (if c.2.testBit j then wtC m (popc (evN c) - 1) else 0)) (List.range 24) A))) ?_
      have e2 : ∀ j, j ∈ List.range 24 → (A.map fun c => (if c.1.testBit j then wtC m (popc (evN c) - 1) else 0) + (if c.2.testBit j then wtC m (popc (evN c) - 1) else 0)).sum ≤ if S.testBit j then 2 * totC m else 0 := fun j hj => by
        rw [sumL_add, sumL_if (fun c : Cn => c.1.testBit j), sumL_if (fun c : Cn => c.2.testBit j)]
        have hj24 : j < 24 := List.mem_range.1 hj
        cases hb : S.testBit j
        · have f1 : A.filter (fun c : Cn => c.1.testBit j) = [] := List.filter_eq_nil_iff.2 fun c hc hh => by
            have := (h.ok c hc).2 j (.inl hh)
            rw [hb] at this; cases this
          have f2 : A.filter (fun c : Cn => c.2.testBit j) = [] := List.filter_eq_nil_iff.2 fun c hc hh => by
            have := (h.ok c hc).2 j (.inr hh)
            rw [hb] at this; cases this
          rw [f1, f2]
          simp
        · have hm : popc (ndiff S (2 ^ j)) = m := by
            have := popc_cut (S := S) hj24 hb
            omega
          have hlt : ndiff S (2 ^ j) < 16777216 := ndiff_lt (n := 24) hs
          have key : ∀ p : Cn → Bool, ((∀ c, p c = c.1.testBit j) ∨ (∀ c, p c = c.2.testBit j)) → ((A.filter p).map fun c => wtC m (popc (evN c) - 1)).sum ≤ totC m := fun p hp => by
            have h3 := ih _ _ hm hlt (h.cut j p hp)
            rw [List.map_map] at h3
            refine Nat.le_trans (Nat.le_of_eq ?_) h3
            refine sumL_eq fun c hc => ?_
            rw [List.mem_filter] at hc
            have h1 := (h.ok c hc.1).1
            have hev : (evN c).testBit j = true := by
              rw [evN_bit]
              rcases hp with hp | hp
              · rw [← hp, hc.2]; rfl
              · rw [← hp c, hc.2, Bool.or_true]
            show _ = wtC m (popc (evN (cutN j c)))
            rw [ev_cut]
            have := popc_cut (S := evN c) hj24 hev
            rw [this, Nat.add_sub_cancel]
          have k1 := key (fun c => c.1.testBit j) (.inl fun c => rfl)
          have k2 := key (fun c => c.2.testBit j) (.inr fun c => rfl)
          simp only [if_true]
          omega
      refine Nat.le_trans (sumL_le e2) ?_
      have e3 : ((List.range 24).map fun j => if S.testBit j then 2 * totC m else 0).sum = popc S * (2 * totC m) := by
        rw [popc_sum, ← sumL_mul]
        refine sumL_eq fun j _ => ?_
        cases S.testBit j <;> simp
      rw [e3, hS, totC, Nat.mul_comm 2 (m + 1), Nat.mul_assoc]
      exact Nat.le_refl _
theorem wt_big : ∀ n, n < 8 → ∀ k, k < n + 1 → totC n ≤ 1024 * wtC n k ∧ 0 < totC n := by decide +kernel
theorem anti_few {S : Nat} {A : List Cn} (hs : S < 16777216) (h7 : popc S ≤ 7) (h : AntiC S A) : A.length ≤ 1024 := by
  have h1 := anti_sum (popc S) S A rfl hs h
  have h2 : (A.map fun _ => totC (popc S)).sum ≤ (A.map fun c => wtC (popc S) (popc (evN c)) * 1024).sum := sumL_le fun c hc => by
    have hk : popc (evN c) ≤ popc S := pop_sub 24 (ev_ins (h.ok c hc).2)
    have := (wt_big (popc S) (by omega) (popc (evN c)) (by omega)).1
    omega
  rw [sumL_const, sumL_mul] at h2
  have h3 := (wt_big (popc S) (by omega) 0 (by omega)).2
  have h4 : A.length * totC (popc S) ≤ 1024 * totC (popc S) := by omega
  exact Nat.le_of_mul_le_mul_right h4 h3
/-- no prime lies in another -/
theorem prm_anti {S : Nat} {V : Nat → Bool} {a b : Cn} (ha : prmN S V a) (hb : prmN S V b) (h : wiN a b = true) : a = b := by
  have hsub : ∀ j, (evN a).testBit j = true → (evN b).testBit j = true := fun j hj => by
    cases hn : (evN b).testBit j
    · refine absurd (impN_of_wi (b := b) ?_ hb.2.2.1) (ha.2.2.2 j hj)
      rw [wiN_iff] at h ⊢
      intro i
      have h1 := h i
      rw [(cut_bit j a i).1, (cut_bit j a i).2]
      rw [evN_bit] at hn
      by_cases e : j = i
      · subst e
        simp at hn
        simp [hn.1, hn.2]
      · simpa [e] using h1
    · rfl
  rw [wiN_iff] at h
  refine cn_ext fun i => ?_
  have h1 := h i
  have h2 := hsub i
  rw [evN_bit, evN_bit] at h2
  have o1 := ok_bit ha.1 i
  have o2 := ok_bit hb.1 i
  cases x1 : a.1.testBit i <;> cases x2 : a.2.testBit i <;> cases x3 : b.1.testBit i <;> cases x4 : b.2.testBit i <;> simp_all
theorem PrmS.few {S : Nat} {V : Nat → Bool} {s : List Cn} (hs : S < 16777216) (h7 : popc S ≤ 7) (h : PrmS S V s) : s.length ≤ 1024 :=
  anti_few hs h7 ⟨sorted_nodup h.1, fun c hc => h.ok hc, fun a ha b hb hab => prm_anti ((h.2 a).1 ha) ((h.2 b).1 hb) hab⟩
end Go.Proofs.Ytedopalmfakeaaa
namespace Go.Proofs.Ytedopalmfakeaaa
open Go.RowKit Go.Sort
set_option linter.unusedSimpArgs false
set_option linter.unusedVariables false
set_option maxRecDepth 20000
/-! ## law13: PrimeHolds -/
theorem sup_val {f : FrR} (ok : FrOk f) (t : Nat) : f.fr.val (t &&& supF f.fr) = f.fr.val t := Frm.val_sup ok.fr fun a ha hm => by
  rw [Nat.testBit_and, (supF_bit f.fr a).2 ⟨ha, hm⟩, Bool.and_true]
section
variable {w : World} {A : Option Addr} {c : Nat} {f : FrR}
theorem all13_7 {v : Nat} (h : FrI w A f) (ok : FrOk f) (hv : f.vars = v) (h7 : popc (supF f.fr) ≤ 7) :
    Calls Try.prog 53 #[fv (v : Int) A f.nn c f.top] w fun e w' => (∃ s, PrmS (supF f.fr) f.fr.val s ∧ s.length ≤ 1024 ∧ ∃ A c, e = .returned (.tuple #[.slice A s.length c, .nilIface]) ∧ OwC w' w.heap.size A c (s.map zc)) ∧ Below w.heap.size w w' := by
  refine (All_ok h ok hv (by omega)).mono ?_
  rintro e w' ⟨⟨s, hs, ⟨h1, _⟩ | ⟨h1, h2⟩⟩, hb⟩
  · have := hs.few (supF_lt ok hv).2 h7
    omega
  · exact ⟨⟨s, hs, h1, h2⟩, hb⟩
theorem irr13_7 {v : Nat} (h : FrI w A f) (ok : FrOk f) (hv : f.vars = v) (h7 : popc (supF f.fr) ≤ 7) :
    Calls Try.prog 54 #[fv (v : Int) A f.nn c f.top] w fun e w' => (∃ s, PrmS (supF f.fr) f.fr.val s ∧ s.length ≤ 1024 ∧ ∃ A c, e = .returned (.tuple #[.slice A (irrN s.length s).length c, .nilIface]) ∧ OwC w' w.heap.size A c ((irrN s.length s).map zc)) ∧ Below w.heap.size w w' := by
  refine (Irredundant_ok h ok hv (by omega)).mono ?_
  rintro e w' ⟨⟨s, hs, ⟨h1, _⟩ | ⟨h1, h2⟩⟩, hb⟩
  · have := hs.few (supF_lt ok hv).2 h7
    omega
  · exact ⟨⟨s, hs, h1, h2⟩, hb⟩
theorem irrN_len : ∀ (i : Nat) (l : List Cn), (irrN i l).length ≤ l.length
  | 0, l => Nat.le_refl _
  | i + 1, l => by
    rw [irrN]
    refine Nat.le_trans (irrN_len i _) ?_
    split
    · exact List.length_eraseIdx_le _ _
    · exact Nat.le_refl _
end
end Go.Proofs.Ytedopalmfakeaaa
namespace Go.Proofs.Ytedopalmfakeaaa
set_option linter.unusedSimpArgs false
set_option linter.unusedVariables false
/-! ## law13 (plain): implicants and primes as both sides tell them; sizes of the levels -/
section
variable {S n : Nat} {ev : Nat → Nat} {V T : Nat → Bool} {c : Cn}
theorem nar_onS (h : Evs S n ev) (m : Nat) : narN n ev (m &&& S) = narN n ev m := Nat.eq_of_testBit_eq fun k => by
  rw [narN_bit, narN_bit]
  by_cases hk : k < n
  · have : S.testBit (ev k) = true := (h.iff _).2 ⟨k, hk, rfl⟩
    simp [hk, Nat.testBit_and, this]
  · simp [hk]
theorem rowC_onS (h : Evs S n ev) (c : Cn) (r : Nat) : RowC n ev c r ↔ RowC n ev (onS S c) r := by
  unfold RowC onS
  rw [nar_onS h, nar_onS h]
theorem impR_S (h : Evs S n ev) (hc : okN c) (hT : ∀ s, s < 2 ^ n → T s = V (widN n ev s)) : ImpR n ev T c ↔ impN S V (onS S c) := by
  have hi2 := (onS_ok (S := S) hc).2
  rw [imp_rows h hi2]
  have hrow : ∀ r, RowC n ev c r ↔ r < 2 ^ n ∧ hoN (onS S c) (widN n ev r) = true := fun r => (rowC_onS h c r).trans (by
    unfold RowC CR
    constructor
    · rintro ⟨h1, h2⟩
      refine ⟨h1, (row_in h hi2 h1).2 ?_⟩
      have := (hoN_iff _ _).1 h2
      exact ⟨fun k hk => (this k).1 hk, fun k hk => (this k).2 hk⟩
    · rintro ⟨h1, h2⟩
      have := (row_in h hi2 h1).1 h2
      exact ⟨h1, (hoN_iff _ _).2 fun k => ⟨this.1 k, this.2 k⟩⟩)
  constructor
  · intro hi s hs hh
    rw [← hT s hs]
    exact hi s ((hrow s).2 ⟨hs, hh⟩)
  · intro hi r hr
    have h2 := (hrow r).1 hr
    rw [hT r h2.1]
    exact hi r h2.1 h2.2
theorem impI_ex (S : Nat) (V : Nat → Bool) : ∃ I : Cn → Bool, ∀ c, I c = true ↔ impN S V (onS S c) := by
  classical
  exact ⟨fun c => decide (impN S V (onS S c)), fun c => by simp⟩
def primeI (I : Cn → Bool) (c : Cn) : Bool := I c && (List.range 24).all fun j => !((evN c).testBit j && I (cutN j c))
theorem primeI_t {I : Cn → Bool} (h : I c = true) (hk : ∀ j, j < 24 → ¬ ((evN c).testBit j = true ∧ I (cutN j c) = true)) : primeI I c = true := by
  unfold primeI
  rw [h, Bool.true_and, List.all_eq_true]
  intro j hj
  have := hk j (by simpa using hj)
  cases h1 : (evN c).testBit j <;> cases h2 : I (cutN j c) <;> simp_all
theorem primeI_f {I : Cn → Bool} {j : Nat} (hj : j < 24) (h1 : (evN c).testBit j = true) (h2 : I (cutN j c) = true) : primeI I c = false := by
  unfold primeI
  have : ((List.range 24).all fun j => !((evN c).testBit j && I (cutN j c))) = false := by
    rw [List.all_eq_false]
    exact ⟨j, by simpa using hj, by simp [h1, h2]⟩
  rw [this, Bool.and_false]
theorem primeI_n {I : Cn → Bool} (h : I c = false) : primeI I c = false := by
  unfold primeI
  rw [h, Bool.false_and]
theorem onS_in (h : inS S c) : onS S c = c := by
  refine cn_ext fun i => ?_
  show (c.1 &&& S).testBit i = _ ∧ (c.2 &&& S).testBit i = _
  rw [Nat.testBit_and, Nat.testBit_and]
  have := h i
  cases h1 : c.1.testBit i <;> cases h2 : c.2.testBit i <;> cases h3 : S.testBit i <;> simp_all
theorem prm_primeI {I : Cn → Bool} (hI : ∀ c, I c = true ↔ impN S V (onS S c)) (h : prmN S V c) : primeI I c = true := by
  obtain ⟨h1, h2, h3, h4⟩ := h
  refine primeI_t ((hI c).2 (by rw [onS_in h2]; exact h3)) fun j hj ⟨h5, h6⟩ => h4 j h5 ?_
  have := (hI _).1 h6
  rwa [onS_in (inS_cut h2 j)] at this
/-- the state that the reference tries -/
def stPut (c : Cn) (t : Nat) : Nat := ndiff t c.2 ||| c.1
theorem stPut_bit (c : Cn) (t i : Nat) : (stPut c t).testBit i = ((t.testBit i && !c.2.testBit i) || c.1.testBit i) := by
  unfold stPut
  rw [Nat.testBit_or, testBit_ndiff]
theorem stPut_lt {t : Nat} (hc : okN c) (ht : t < 16777216) : stPut c t < 16777216 := or_lt24 (ndiff_lt24 ht) hc.1
theorem rimp_S {v : Nat} (hV : ∀ t, V (t &&& S) = V t) (hk : ∀ i, S.testBit i = true → i < v) (hc : okN c) : (∀ t, t ∈ stsN S v → V (stPut c t) = true) ↔ impN S V (onS S c) := by
  have bo : ∀ i, (onS S c).1.testBit i = (c.1.testBit i && S.testBit i) ∧ (onS S c).2.testBit i = (c.2.testBit i && S.testBit i) := fun i => ⟨Nat.testBit_and .., Nat.testBit_and ..⟩
  constructor
  · intro h u hu hh
    have hh := (hoN_iff _ _).1 hh
    have h1 := h u (stsN_mem.2 fun i hi => ⟨hk i (hu i hi), hu i hi⟩)
    rw [← hV] at h1
    have e : stPut c u &&& S = u := Nat.eq_of_testBit_eq fun i => by
      rw [Nat.testBit_and, stPut_bit]
      have h2 := hh i
      rw [(bo i).1, (bo i).2] at h2
      have h3 := hu i
      cases a : c.1.testBit i <;> cases b : c.2.testBit i <;> cases d : S.testBit i <;> cases f : u.testBit i <;> simp_all
    rwa [e] at h1
  · intro h t ht
    rw [← hV]
    refine h _ (fun i hi => ?_) ((hoN_iff _ _).2 fun i => ?_)
    · rw [Nat.testBit_and, Bool.and_eq_true] at hi; exact hi.2
    · rw [(bo i).1, (bo i).2, Nat.testBit_and, stPut_bit]
      have h2 := ok_bit hc i
      cases a : c.1.testBit i <;> cases b : c.2.testBit i <;> cases d : S.testBit i <;> cases f : t.testBit i <;> simp_all
theorem popS_succ (k S : Nat) : pop (k + 1) S = pop k S + if S.testBit k then 1 else 0 := by
  rw [← evL_pop, ← evL_pop, evL_succ]
  split <;> simp
theorem evL_12 (h7 : popc S ≤ 12) : (evL S 24).length ≤ 12 := by rw [evL_pop]; exact h7
theorem sts_pop : ∀ k, (stsN S k).length = 2 ^ pop k S
  | 0 => rfl
  | k + 1 => by
    have ih := sts_pop k
    rw [stsN, popS_succ]
    split
    · rename_i h
      rw [List.length_append, List.length_map, ih, Nat.pow_succ]; omega
    · rename_i h
      rw [ih, Nat.add_zero]
theorem sts_room {k : Nat} (h7 : popc S ≤ 12) (hk : k ≤ 24) : (stsN S k).length ≤ 4096 := by
  rw [sts_pop]
  have h1 : pop 24 S = pop k S + pop (24 - k) (S / 2 ^ k) := by
    have := pop_add k (24 - k) S
    rwa [show k + (24 - k) = 24 by omega] at this
  have h2 : pop k S ≤ 12 := by
    have : pop 24 S ≤ 12 := h7
    omega
  exact Nat.pow_le_pow_right (n := 2) (by omega) h2
theorem sts_lt {v t : Nat} (hv : v ≤ 24) (h : t ∈ stsN S v) : t < 16777216 := Nat.lt_pow_two_of_testBit (n := 24) t fun i hi => by
  cases e : t.testBit i
  · rfl
  · have := (stsN_mem.1 h i e).1
    omega
end
section
variable {S m : Nat} {V : Nat → Bool} {l : List Cn} {c : Cn}
theorem wi_same {a b : Cn} (ha : okN a) (hb : okN b) (hp : popc (evN a) = popc (evN b)) (hw : wiN a b = true) : a = b := by
  have hw := (wiN_iff _ _).1 hw
  have he : evN b ||| ndiff (evN a) (evN b) = evN a := Nat.eq_of_testBit_eq fun i => by
    rw [Nat.testBit_or, testBit_ndiff, evN_bit, evN_bit]
    have := hw i
    cases h1 : a.1.testBit i <;> cases h2 : a.2.testBit i <;> cases h3 : b.1.testBit i <;> cases h4 : b.2.testBit i <;> simp_all
  have h0 : popc (evN a) = popc (evN b) + popc (ndiff (evN a) (evN b)) := by
    conv => lhs; rw [← he]
    exact popc_or (fun i ⟨h1, h2⟩ => by rw [testBit_ndiff, h1] at h2; simp at h2) 24
  have hz : ndiff (evN a) (evN b) = 0 := pop_none (f := 24) (ndiff_lt (n := 24) (evN_lt ha)) (by show popc _ = 0; omega)
  refine cn_ext fun i => ?_
  have h1 := hw i
  have h2 : (ndiff (evN a) (evN b)).testBit i = false := by rw [hz]; simp
  rw [testBit_ndiff, evN_bit, evN_bit] at h2
  have h3 := ok_bit ha i
  have h4 := ok_bit hb i
  cases a1 : a.1.testBit i <;> cases a2 : a.2.testBit i <;> cases b1 : b.1.testBit i <;> cases b2 : b.2.testBit i <;> simp_all
theorem lv_few (hS : S < 16777216) (h7 : popc S ≤ 7) (hl : ∀ c, c ∈ l → Lv S V m c) (hn : l.Nodup) : l.length ≤ 1024 :=
  anti_few hS h7 { nd := hn, ok := fun c hc => ⟨(hl c hc).ok, (hl c hc).ins⟩, an := fun a ha b hb hw => wi_same (hl a ha).ok (hl b hb).ok (by have h1 := (hl a ha).num; have h2 := (hl b hb).num; omega) hw }
theorem mPut_len (l : List Cn) (i k : Nat) (s : MSt) : (mPut l i k s).1.length ≤ s.1.length + 1 := by
  unfold mPut
  split
  · simp
  · omega
theorem mRow_len (l : List Cn) (i : Nat) (s : MSt) : ∀ k, (mRow l i s k).1.length ≤ s.1.length + k
  | 0 => Nat.le_refl _
  | k + 1 => by
    have h1 := mRow_len l i s k
    have h2 := mPut_len l i k (mRow l i s k)
    rw [mRow]
    omega
theorem mAll_len (l : List Cn) : ∀ n, 2 * (mAll l n).1.length ≤ n * n
  | 0 => Nat.le_refl _
  | n + 1 => by
    have h1 := mAll_len l n
    have h2 := mRow_len l n (mAll l n) n
    rw [mAll, Nat.add_mul, Nat.mul_add]
    omega
theorem mAll_room {n : Nat} (h : n ≤ 1024) : (mAll l n).1.length ≤ 524288 := by
  have h1 := mAll_len l n
  have h2 : n * n ≤ 1024 * 1024 := Nat.mul_le_mul h h
  omega
theorem mRow_room {n k : Nat} (h : n ≤ 1023) (hk : k ≤ n) : (mRow l n (mAll l n) k).1.length ≤ 524288 := by
  have h1 := mAll_len l n
  have h2 : n * n ≤ 1023 * 1023 := Nat.mul_le_mul h h
  have h3 := mRow_len l n (mAll l n) k
  omega
end
end Go.Proofs.Ytedopalmfakeaaa
namespace Go.Proofs.Ytedopalmfakeaaa
open Go.RowKit
set_option linter.unusedSimpArgs false
set_option linter.unusedVariables false
set_option maxRecDepth 20000
attribute [local irreducible] pop popc cntC covB
/-! ## the reference's Cover -/
theorem step_appC {w : World} {ops : Array Oper} {o : Oper} {a : Act} {K : Act → World → Prop} {Q : Exit → Act → World → Prop} {E : Prop} (hgd : o.guard = none) (s x : Operand)
    (ho : o.op = .call { callee := .builtin .append, args := #[s, x], argTypes := #[35, 35] })
    (base : Nat) (A0 : Option Addr) (c0 n : Nat) (l : List Cb) (hs : a.eval s = .slice A0 n c0) (hnl : n = l.length) (hown : OwC w base A0 c0 l)
    (B : Nat) (A : Option Addr) (c k : Nat) (m : List Cb) (hx : a.eval x = .slice A k c) (hkm : k = m.length) (hr : RdC w B A m)
    (hlen : n + k ≤ 1099511627776) (hbase : base ≤ w.heap.size)
    (h : ∀ A' c' w', OwC w' base A' c' (l ++ m) → Below base w w' → K (a.put o.dst (.slice A' (n + k) c')) w') : if Region.wanted o (yielded ops a.tmps) = true then Oper.wp Try.prog o a w K Q else E := by
  subst hnl hkm
  rw [if_pos (by simp [Region.wanted, hgd])]
  refine wp_app s x 35 ho base 23 _ 2 16 Try.underlying35 cubeInfo rfl (by decide) A0 c0 l.length (cbs l) hs hown B A m.length c (cbs m) hx hr (cbs_oneCell _) (by unfold maxLen; omega) (by omega) hbase ?_
  intro A' c' w' h1 h2 h3 h4
  refine h A' c' w' ?_ h2
  unfold OwC
  rw [cbs_append, List.length_append]
  exact h1
end Go.Proofs.Ytedopalmfakeaaa
