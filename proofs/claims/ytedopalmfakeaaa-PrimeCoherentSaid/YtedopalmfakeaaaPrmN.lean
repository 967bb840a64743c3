/- Contracts of functions and lemmas, used by the proofs of the given statements. No condition beyond those that each lemma names. -/
import Derived.Test.YtedopalmfakeaaaPrW7
namespace Go.Proofs.Ytedopalmfakeaaa
set_option linter.unusedSimpArgs false
set_option linter.unusedVariables false
/-! ## how many primes there can be: cubes none of which lies in another (plain) -/
theorem sumL_add {α : Type} (f g : α → Nat) : ∀ l : List α, (l.map fun x => f x + g x).sum = (l.map f).sum + (l.map g).sum
  | [] => rfl
  | x :: l => by
    have := sumL_add f g l
    simp only [List.map_cons, List.sum_cons, this]
    omega
theorem sumL_zero {α : Type} : ∀ l : List α, (l.map fun _ => 0).sum = 0
  | [] => rfl
  | x :: l => by simp only [List.map_cons, List.sum_cons, sumL_zero l]
theorem sumL_swap {α β : Type} (f : α → β → Nat) (B : List β) : ∀ A : List α, (A.map fun a => (B.map fun b => f a b).sum).sum = (B.map fun b => (A.map fun a => f a b).sum).sum
  | [] => by simp only [List.map_nil, List.sum_nil]; exact (sumL_zero B).symm
  | a :: A => by
    have := sumL_swap f B A
    simp only [List.map_cons, List.sum_cons, this]
    rw [← sumL_add]
theorem sumL_if {α : Type} (p : α → Bool) (g : α → Nat) : ∀ l : List α, (l.map fun x => if p x then g x else 0).sum = ((l.filter p).map g).sum
  | [] => rfl
  | x :: l => by
    have := sumL_if p g l
    cases h : p x
    · simp [h, this]
    · simp [h, this]
theorem sumL_le {α : Type} {f g : α → Nat} : ∀ {l : List α}, (∀ x, x ∈ l → f x ≤ g x) → (l.map f).sum ≤ (l.map g).sum
  | [], _ => Nat.le_refl _
  | x :: l, h => by
    have h1 := sumL_le (l := l) fun y hy => h y (List.mem_cons_of_mem _ hy)
    have h2 := h x List.mem_cons_self
    simp only [List.map_cons, List.sum_cons]
    omega
theorem sumL_eq {α : Type} {f g : α → Nat} {l : List α} (h : ∀ x, x ∈ l → f x = g x) : (l.map f).sum = (l.map g).sum := by
  rw [List.map_congr_left h]
theorem sumL_const {α : Type} (k : Nat) : ∀ l : List α, (l.map fun _ => k).sum = l.length * k
  | [] => by simp
  | x :: l => by simp only [List.map_cons, List.sum_cons, sumL_const k l, List.length_cons, Nat.add_mul]; omega
theorem sumL_mul {α : Type} (f : α → Nat) (k : Nat) : ∀ l : List α, (l.map fun x => f x * k).sum = (l.map f).sum * k
  | [] => by simp
  | x :: l => by simp only [List.map_cons, List.sum_cons, sumL_mul f k l, Nat.add_mul]
/-- all chains of cubes, and those through a cube of k events -/
def totC : Nat → Nat
  | 0 => 1
  | n + 1 => 2 * (n + 1) * totC n
def wtC : Nat → Nat → Nat
  | n, 0 => totC n
  | 0, _ + 1 => 0
  | n + 1, k + 1 => (k + 1) * wtC n k
theorem popc_sum (x : Nat) : popc x = ((List.range 24).map fun j => if x.testBit j then 1 else 0).sum := by
  have h := evL_pop 24 x
  unfold popc
  rw [← h, sumL_if (fun j => x.testBit j) (fun _ => 1), sumL_const, Nat.mul_one]
  rfl
/-- none lies in another -/
structure AntiC (S : Nat) (A : List Cn) : Prop where
  nd : A.Nodup
  ok : ∀ c, c ∈ A → okN c ∧ inS S c
  an : ∀ a, a ∈ A → ∀ b, b ∈ A → wiN a b = true → a = b
/-- the cubes with a literal, without it -/
theorem AntiC.cut {S : Nat} {A : List Cn} (h : AntiC S A) (j : Nat) (p : Cn → Bool) (hp : (∀ c, p c = c.1.testBit j) ∨ (∀ c, p c = c.2.testBit j)) : AntiC (ndiff S (2 ^ j)) ((A.filter p).map (cutN j)) := by
  have hw : ∀ a b, p a = true → p b = true → okN a → okN b → wiN (cutN j a) (cutN j b) = true → wiN a b = true := fun a b ha hb oa ob hc => by
    rw [wiN_iff] at hc ⊢
    intro i
    have h1 := hc i
    rw [(cut_bit j a i).1, (cut_bit j a i).2, (cut_bit j b i).1, (cut_bit j b i).2] at h1
    by_cases e : j = i
    · subst e
      have x1 := ok_bit oa j
      have x2 := ok_bit ob j
      rcases hp with hp | hp
      · rw [hp] at ha hb
        exact ⟨fun _ => ha, fun h => absurd ⟨hb, h⟩ x2⟩
      · rw [hp] at ha hb
        exact ⟨fun h => absurd ⟨h, hb⟩ x2, fun _ => ha⟩
    · simpa [e] using h1
  refine ⟨?_, fun c hc => ?_, fun a ha b hb hab => ?_⟩
  · unfold List.Nodup
    rw [List.pairwise_map]
    refine List.Pairwise.imp_of_mem (fun {a b} ha hb hne e => hne ?_) (h.nd.filter p)
    rw [List.mem_filter] at ha hb
    exact h.an a ha.1 b hb.1 (hw a b ha.2 hb.2 (h.ok a ha.1).1 (h.ok b hb.1).1 (by rw [e]; exact (wiN_iff _ _).2 fun i => ⟨id, id⟩))
  · obtain ⟨d, hd, rfl⟩ := List.mem_map.1 hc
    rw [List.mem_filter] at hd
    obtain ⟨h1, h2⟩ := h.ok d hd.1
    refine ⟨cutN_ok h1 j, fun i hi => ?_⟩
    rw [(cut_bit j d i).1, (cut_bit j d i).2] at hi
    rw [testBit_ndiff, Nat.testBit_two_pow]
    rcases hi with hi | hi
    · simp at hi; simp [h2 i (.inl hi.1), hi.2]
    · simp at hi; simp [h2 i (.inr hi.1), hi.2]
  · obtain ⟨a', ha', rfl⟩ := List.mem_map.1 ha
    obtain ⟨b', hb', rfl⟩ := List.mem_map.1 hb
    rw [List.mem_filter] at ha' hb'
    rw [h.an a' ha'.1 b' hb'.1 (hw a' b' ha'.2 hb'.2 (h.ok a' ha'.1).1 (h.ok b' hb'.1).1 hab)]
theorem pop_lit {c : Cn} (h : okN c) : popc (evN c) = ((List.range 24).map fun j => (if c.1.testBit j then 1 else 0) + (if c.2.testBit j then 1 else 0)).sum := by
  rw [popc_sum]
  refine sumL_eq fun j _ => ?_
  rw [evN_bit]
  have := ok_bit h j
  cases h1 : c.1.testBit j <;> cases h2 : c.2.testBit j <;> simp_all
theorem wt00 : (([((0, 0) : Cn)]).map fun c => wtC 0 (popc (evN c))).sum ≤ totC 0 := by decide +kernel
theorem pop00 : popc (evN (0, 0)) = 0 := by decide +kernel
attribute [local irreducible] pop popc wtC totC in
theorem anti_sum : ∀ (n S : Nat) (A : List Cn), popc S = n → S < 16777216 → AntiC S A → (A.map fun c => wtC n (popc (evN c))).sum ≤ totC n := by
  intro n
  induction n with
  | zero =>
    intro S A hS hs h
    have h0 : ∀ c, c ∈ A → c = (0, 0) := fun c hc => by
      have h2 := (h.ok c hc).2
      have hz : ∀ i, S.testBit i = false := fun i => by
        cases hb : S.testBit i
        · rfl
        · have h24 := lt24_bit hs hb
          have := popc_cut (S := S) h24 hb
          omega
      refine cn_ext fun i => ?_
      have := h2 i
      rw [hz i] at this
      cases h1 : c.1.testBit i <;> cases h3 : c.2.testBit i <;> simp_all
    match A, h, h0 with
    | [], _, _ => exact Nat.zero_le _
    | [c], _, h0 =>
      rw [h0 c (by simp)]
      exact wt00
    | c :: d :: A, h, h0 =>
      have := h.nd
      rw [h0 c (by simp), h0 d (by simp)] at this
      simp at this
  | succ m ih =>
    intro S A hS hs h
    by_cases hz : (0, 0) ∈ A
    · have hA : ∀ c, c ∈ A → c = (0, 0) := fun c hc => h.an c hc _ hz ((wiN_iff _ _).2 fun i => by simp)
      match A, h, hA, hz with
      | [], _, _, hz => simp at hz
      | [c], _, hA, _ =>
        rw [hA c (by simp)]
        have e := pop00
        simp only [List.map_cons, List.map_nil, List.sum_cons, List.sum_nil, e, wtC]
        omega
      | c :: d :: A, h, hA, _ =>
        have := h.nd
        rw [hA c (by simp), hA d (by simp)] at this
        simp at this
    · have hpos : ∀ c, c ∈ A → ∃ k, popc (evN c) = k + 1 := fun c hc => by
        cases e : popc (evN c) with
        | succ k => exact ⟨k, rfl⟩
        | zero =>
          refine absurd hc (fun hc => hz ?_)
          have h1 := (h.ok c hc).1
          have : c = (0, 0) := cn_ext fun i => by
            cases hb : (evN c).testBit i
            · rw [evN_bit] at hb
              simp at hb
              simp [hb.1, hb.2]
            · have := popc_cut (S := evN c) (lt24_bit (evN_lt h1) hb) hb
              omega
          rw [← this]; exact hc
      have e1 : (A.map fun c => wtC (m + 1) (popc (evN c))).sum = (A.map fun c => ((List.range 24).map fun j => (if c.1.testBit j then wtC m (popc (evN c) - 1) else 0) + (if c.2.testBit j then wtC m (popc (evN c) - 1) else 0)).sum).sum := by
        refine sumL_eq fun c hc => ?_
        obtain ⟨k, hk⟩ := hpos c hc
        have h1 := (h.ok c hc).1
        rw [hk, wtC, ← hk]
        conv => lhs; rw [pop_lit h1]
        rw [← sumL_mul]
        refine sumL_eq fun j _ => ?_
        rw [hk, Nat.add_sub_cancel]
        cases c.1.testBit j <;> cases c.2.testBit j <;> simp <;> omega
      refine Nat.le_trans (Nat.le_of_eq (e1.trans (sumL_swap (fun (c : Cn) (j : Nat) => (if c.1.testBit j then wtC m (popc (evN c) - 1) else 0) + (if c.2.testBit j then wtC m (popc (evN c) - 1) else 0)) (List.range 24) A))) ?_
      have e2 : ∀ j, j ∈ List.range 24 → (A.map fun c => (if c.1.testBit j then wtC m (popc (evN c) - 1) else 0) + (if c.2.testBit j then wtC m (popc (evN c) - 1) else 0)).sum ≤ if S.testBit j then 2 * totC m else 0 := fun j hj => by
        rw [sumL_add, sumL_if (fun c : Cn => c.1.testBit j), sumL_if (fun c : Cn => c.2.testBit j)]
        have hj24 : j < 24 := List.mem_range.1 hj
        cases hb : S.testBit j
        · have f1 : A.filter (fun c : Cn => c.1.testBit j) = [] := List.filter_eq_nil_iff.2 fun c hc hh => by
            have := (h.ok c hc).2 j (.inl hh)
            rw [hb] at this; cases this
          have f2 : A.filter (fun c : Cn => c.2.testBit j) = [] := List.filter_eq_nil_iff.2 fun c hc hh => by
            have := (h.ok c hc).2 j (.inr hh)
            rw [hb] at this; cases this
          rw [f1, f2]
          simp
        · have hm : popc (ndiff S (2 ^ j)) = m := by
            have := popc_cut (S := S) hj24 hb
            omega
          have hlt : ndiff S (2 ^ j) < 16777216 := ndiff_lt (n := 24) hs
          have key : ∀ p : Cn → Bool, ((∀ c, p c = c.1.testBit j) ∨ (∀ c, p c = c.2.testBit j)) → ((A.filter p).map fun c => wtC m (popc (evN c) - 1)).sum ≤ totC m := fun p hp => by
            have h3 := ih _ _ hm hlt (h.cut j p hp)
            rw [List.map_map] at h3
            refine Nat.le_trans (Nat.le_of_eq ?_) h3
            refine sumL_eq fun c hc => ?_
            rw [List.mem_filter] at hc
            have h1 := (h.ok c hc.1).1
            have hev : (evN c).testBit j = true := by
              rw [evN_bit]
              rcases hp with hp | hp
              · rw [← hp, hc.2]; rfl
              · rw [← hp c, hc.2, Bool.or_true]
            show _ = wtC m (popc (evN (cutN j c)))
            rw [ev_cut]
            have := popc_cut (S := evN c) hj24 hev
            rw [this, Nat.add_sub_cancel]
          have k1 := key (fun c => c.1.testBit j) (.inl fun c => rfl)
          have k2 := key (fun c => c.2.testBit j) (.inr fun c => rfl)
          simp only [if_true]
          omega
      refine Nat.le_trans (sumL_le e2) ?_
      have e3 : ((List.range 24).map fun j => if S.testBit j then 2 * totC m else 0).sum = popc S * (2 * totC m) := by
        rw [popc_sum, ← sumL_mul]
        refine sumL_eq fun j _ => ?_
        cases S.testBit j <;> simp
      rw [e3, hS, totC, Nat.mul_comm 2 (m + 1), Nat.mul_assoc]
      exact Nat.le_refl _
theorem wt_big : ∀ n, n < 8 → ∀ k, k < n + 1 → totC n ≤ 1024 * wtC n k ∧ 0 < totC n := by decide +kernel
theorem anti_few {S : Nat} {A : List Cn} (hs : S < 16777216) (h7 : popc S ≤ 7) (h : AntiC S A) : A.length ≤ 1024 := by
  have h1 := anti_sum (popc S) S A rfl hs h
  have h2 : (A.map fun _ => totC (popc S)).sum ≤ (A.map fun c => wtC (popc S) (popc (evN c)) * 1024).sum := sumL_le fun c hc => by
    have hk : popc (evN c) ≤ popc S := pop_sub 24 (ev_ins (h.ok c hc).2)
    have := (wt_big (popc S) (by omega) (popc (evN c)) (by omega)).1
    omega
  rw [sumL_const, sumL_mul] at h2
  have h3 := (wt_big (popc S) (by omega) 0 (by omega)).2
  have h4 : A.length * totC (popc S) ≤ 1024 * totC (popc S) := by omega
  exact Nat.le_of_mul_le_mul_right h4 h3
/-- no prime lies in another -/
theorem prm_anti {S : Nat} {V : Nat → Bool} {a b : Cn} (ha : prmN S V a) (hb : prmN S V b) (h : wiN a b = true) : a = b := by
  have hsub : ∀ j, (evN a).testBit j = true → (evN b).testBit j = true := fun j hj => by
    cases hn : (evN b).testBit j
    · refine absurd (impN_of_wi (b := b) ?_ hb.2.2.1) (ha.2.2.2 j hj)
      rw [wiN_iff] at h ⊢
      intro i
      have h1 := h i
      rw [(cut_bit j a i).1, (cut_bit j a i).2]
      rw [evN_bit] at hn
      by_cases e : j = i
      · subst e
        simp at hn
        simp [hn.1, hn.2]
      · simpa [e] using h1
    · rfl
  rw [wiN_iff] at h
  refine cn_ext fun i => ?_
  have h1 := h i
  have h2 := hsub i
  rw [evN_bit, evN_bit] at h2
  have o1 := ok_bit ha.1 i
  have o2 := ok_bit hb.1 i
  cases x1 : a.1.testBit i <;> cases x2 : a.2.testBit i <;> cases x3 : b.1.testBit i <;> cases x4 : b.2.testBit i <;> simp_all
theorem PrmS.few {S : Nat} {V : Nat → Bool} {s : List Cn} (hs : S < 16777216) (h7 : popc S ≤ 7) (h : PrmS S V s) : s.length ≤ 1024 :=
  anti_few hs h7 ⟨sorted_nodup h.1, fun c hc => h.ok hc, fun a ha b hb hab => prm_anti ((h.2 a).1 ha) ((h.2 b).1 hb) hab⟩
end Go.Proofs.Ytedopalmfakeaaa
