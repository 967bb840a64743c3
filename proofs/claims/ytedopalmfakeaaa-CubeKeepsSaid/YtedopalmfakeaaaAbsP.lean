/- Contracts of functions and lemmas, used by the proofs of the given statements. No condition beyond those that each lemma names. -/
namespace Go.Proofs.Ytedopalmfakeaaa
set_option linter.unusedSimpArgs false
set_option linter.unusedVariables false
/-! ## sorted lists without doubles; what is left of them by absorption (plain) -/
/-- a strict order in which each two elements compare -/
structure LtO {α : Type} (lt : α → α → Bool) : Prop where
  irr : ∀ a, lt a a = false
  tr : ∀ a b c, lt a b = true → lt b c = true → lt a c = true
  tot : ∀ a b, a ≠ b → lt a b = true ∨ lt b a = true
theorem LtO.as {α : Type} {lt : α → α → Bool} (h : LtO lt) {a b : α} (h1 : lt a b = true) : lt b a = false := by
  cases h2 : lt b a
  · rfl
  · have := h.tr a b a h1 h2; rw [h.irr] at this; cases this
theorem LtO.ne {α : Type} {lt : α → α → Bool} (h : LtO lt) {a b : α} (h1 : lt a b = true) : a ≠ b := by
  rintro rfl; rw [h.irr] at h1; cases h1
theorem LtO.uniq {α : Type} {lt : α → α → Bool} (h : LtO lt) : ∀ (l m : List α), l.Pairwise (fun a b => lt a b = true) → m.Pairwise (fun a b => lt a b = true) → (∀ x, x ∈ l ↔ x ∈ m) → l = m
  | [], [], _, _, _ => rfl
  | [], b :: m, _, _, e => by have := (e b).2 (by simp); simp at this
  | a :: l, [], _, _, e => by have := (e a).1 (by simp); simp at this
  | a :: l, b :: m, hl, hm, e => by
    rw [List.pairwise_cons] at hl hm
    have hab : a = b := by
      refine Classical.byContradiction fun hne => ?_
      have h1 : a ∈ m := by
        have := (e a).1 (by simp)
        rcases List.mem_cons.1 this with h1 | h1
        · exact absurd h1 hne
        · exact h1
      have h2 : b ∈ l := by
        have := (e b).2 (by simp)
        rcases List.mem_cons.1 this with h1 | h1
        · exact absurd h1.symm hne
        · exact h1
      have h3 := h.as (hl.1 b h2)
      rw [hm.1 a h1] at h3; cases h3
    subst hab
    congr 1
    refine LtO.uniq h l m hl.2 hm.2 fun x => ?_
    have ex := e x
    simp only [List.mem_cons] at ex
    constructor
    · intro hx
      rcases ex.1 (.inr hx) with h1 | h1
      · subst h1; have := hl.1 x hx; rw [h.irr] at this; cases this
      · exact h1
    · intro hx
      rcases ex.2 (.inr hx) with h1 | h1
      · subst h1; have := hm.1 x hx; rw [h.irr] at this; cases this
      · exact h1
/-! ### insertion -/
section
variable {α : Type} [DecidableEq α] (lt : α → α → Bool)
def insD (c : α) : List α → List α
  | [] => [c]
  | x :: l => if lt x c then x :: insD c l else if x = c then x :: l else c :: x :: l
def srtD (l : List α) : List α := l.foldl (fun s c => insD lt c s) []
variable {lt}
theorem insD_mem (c : α) : ∀ (l : List α) (x : α), x ∈ insD lt c l ↔ x = c ∨ x ∈ l
  | [], x => by simp [insD]
  | y :: l, x => by
    unfold insD
    split
    · rw [List.mem_cons, insD_mem c l x, List.mem_cons]; exact ⟨fun h => by rcases h with h | h | h <;> simp [h], fun h => by rcases h with h | h | h <;> simp [h]⟩
    · split
      · rename_i e; subst e; simp
      · simp
theorem insD_sorted (h : LtO lt) (c : α) : ∀ (l : List α), l.Pairwise (fun a b => lt a b = true) → (insD lt c l).Pairwise (fun a b => lt a b = true)
  | [], _ => by simp [insD]
  | y :: l, hl => by
    rw [List.pairwise_cons] at hl
    unfold insD
    split
    · rename_i hy
      rw [List.pairwise_cons]
      refine ⟨fun b hb => ?_, insD_sorted h c l hl.2⟩
      rcases (insD_mem c l b).1 hb with rfl | hb
      · exact hy
      · exact hl.1 b hb
    · rename_i hy
      split
      · rw [List.pairwise_cons]; exact hl
      · rename_i hne
        have hcy : lt c y = true := by
          rcases h.tot y c hne with h1 | h1
          · exact absurd h1 hy
          · exact h1
        rw [List.pairwise_cons]
        refine ⟨fun b hb => ?_, List.pairwise_cons.2 hl⟩
        rcases List.mem_cons.1 hb with rfl | hb
        · exact hcy
        · exact h.tr c y b hcy (hl.1 b hb)
theorem srtD_fold (h : LtO lt) : ∀ (l s : List α), s.Pairwise (fun a b => lt a b = true) → (l.foldl (fun s c => insD lt c s) s).Pairwise (fun a b => lt a b = true) ∧ ∀ x, x ∈ l.foldl (fun s c => insD lt c s) s ↔ x ∈ s ∨ x ∈ l
  | [], s, hs => ⟨hs, by simp⟩
  | c :: l, s, hs => by
    have := srtD_fold h l (insD lt c s) (insD_sorted h c s hs)
    refine ⟨this.1, fun x => ?_⟩
    have h2 := this.2 x
    simp only [List.foldl_cons, List.mem_cons]
    rw [h2, insD_mem]
    exact ⟨fun h => by rcases h with (h | h) | h <;> simp [h], fun h => by rcases h with h | h | h <;> simp [h]⟩
theorem srtD_sorted (h : LtO lt) (l : List α) : (srtD lt l).Pairwise (fun a b => lt a b = true) := (srtD_fold h l [] List.Pairwise.nil).1
theorem srtD_mem (h : LtO lt) (l : List α) (x : α) : x ∈ srtD lt l ↔ x ∈ l := by
  have := (srtD_fold h l [] List.Pairwise.nil).2 x
  unfold srtD
  simpa using this
end
/-! ### absorption -/
section
variable {α : Type} (lt wi : α → α → Bool)
/-- the elements that imply no other one, ascending -/
def absD [DecidableEq α] (l : List α) : List α := (srtD lt l).filter fun c => (srtD lt l).all fun x => x == c || !wi c x
/-- one round of the program: c, if it implies none of those that were kept -/
def grd (s : List α) (c : α) : List α := if s.any (fun x => wi c x) then s else s ++ [c]
def grdL (l : List α) : List α := l.foldl (grd wi) []
/-- what implies comes behind -/
structure WiO : Prop where
  refl : ∀ a, wi a a = true
  tr : ∀ a b c, wi a b = true → wi b c = true → wi a c = true
  lt : ∀ c x, wi c x = true → c ≠ x → lt x c = true
variable {lt wi}
theorem grd_fold (h : LtO lt) (hw : WiO lt wi) : ∀ (l p s : List α), (p ++ l).Pairwise (fun a b => lt b a = false) →
    s.Pairwise (fun a b => lt a b = true) → (∀ x, x ∈ s ↔ x ∈ p ∧ ∀ y ∈ p, wi x y = true → y = x) → (∀ x ∈ p, ∃ y ∈ s, wi x y = true) →
    (l.foldl (grd wi) s).Pairwise (fun a b => lt a b = true) ∧ (∀ x, x ∈ l.foldl (grd wi) s ↔ x ∈ p ++ l ∧ ∀ y ∈ p ++ l, wi x y = true → y = x) ∧ ∀ x ∈ p ++ l, ∃ y ∈ l.foldl (grd wi) s, wi x y = true
  | [], p, s, hp, h1, h2, h3 => by simpa using ⟨h1, h2, h3⟩
  | c :: l, p, s, hp, h1, h2, h3 => by
    have hpc : ∀ x ∈ p, lt c x = false := fun x hx => (List.pairwise_append.1 hp).2.2 x hx c (by simp)
    have e : p ++ c :: l = (p ++ [c]) ++ l := by simp
    have IH := grd_fold h hw l (p ++ [c]) (grd wi s c) (by rw [← e]; exact hp)
    rw [← e] at IH
    rw [List.foldl_cons]
    by_cases ha : s.any (fun x => wi c x) = true
    · have hg : grd wi s c = s := by unfold grd; rw [if_pos ha]
      rw [hg] at IH ⊢
      obtain ⟨z, hz, hcz⟩ := List.any_eq_true.1 ha
      refine IH h1 (fun x => ?_) (fun x hx => ?_)
      · constructor
        · intro hx
          obtain ⟨a1, a2⟩ := (h2 x).1 hx
          refine ⟨by simp [a1], fun y hy hxy => ?_⟩
          rcases List.mem_append.1 hy with hy | hy
          · exact a2 y hy hxy
          · have hyc : y = c := by simpa using hy
            subst hyc
            have hxz := hw.tr x y z hxy hcz
            have := a2 z ((h2 z).1 hz).1 hxz
            subst this
            refine Classical.byContradiction fun hne => ?_
            have h4 := hw.lt z y hxy (fun e => hne e.symm)
            rw [hpc z a1] at h4; cases h4
        · rintro ⟨a1, a2⟩
          rcases List.mem_append.1 a1 with hx | hx
          · exact (h2 x).2 ⟨hx, fun y hy => a2 y (by simp [hy])⟩
          · have hxc : x = c := by simpa using hx
            subst hxc
            have := a2 z (by simp [((h2 z).1 hz).1]) hcz
            rw [← this]; exact hz
      · rcases List.mem_append.1 hx with hx | hx
        · exact h3 x hx
        · have hxc : x = c := by simpa using hx
          subst hxc
          exact ⟨z, hz, hcz⟩
    · have hg : grd wi s c = s ++ [c] := by unfold grd; rw [if_neg ha]
      rw [hg] at IH ⊢
      have hno : ∀ x ∈ s, wi c x = false := by
        intro x hx
        cases hx2 : wi c x
        · rfl
        · exact absurd (List.any_eq_true.2 ⟨x, hx, hx2⟩) ha
      have hcp : ∀ x ∈ p, wi c x = false := by
        intro x hx
        cases hx2 : wi c x
        · rfl
        · obtain ⟨y, hy, hxy⟩ := h3 x hx
          have := hw.tr c x y hx2 hxy
          rw [hno y hy] at this; cases this
      have hcn : c ∉ p := fun hc => by have := hcp c hc; rw [hw.refl] at this; cases this
      have hxc : ∀ x ∈ p, wi x c = false := by
        intro x hx
        cases hx2 : wi x c
        · rfl
        · have h4 := hw.lt x c hx2 (fun e => hcn (e ▸ hx))
          rw [hpc x hx] at h4; cases h4
      refine IH ?_ (fun x => ?_) (fun x hx => ?_)
      · rw [List.pairwise_append]
        refine ⟨h1, by simp, fun a ha2 b hb => ?_⟩
        have hbc : b = c := by simpa using hb
        subst hbc
        have hap := ((h2 a).1 ha2).1
        rcases h.tot a b (fun e => hcn (e ▸ hap)) with h4 | h4
        · exact h4
        · rw [hpc a hap] at h4; cases h4
      · constructor
        · intro hx
          rcases List.mem_append.1 hx with hx | hx
          · obtain ⟨a1, a2⟩ := (h2 x).1 hx
            refine ⟨by simp [a1], fun y hy hxy => ?_⟩
            rcases List.mem_append.1 hy with hy | hy
            · exact a2 y hy hxy
            · have hyc : y = c := by simpa using hy
              subst hyc
              rw [hxc x a1] at hxy; cases hxy
          · have hx0 : x = c := by simpa using hx
            subst hx0
            refine ⟨by simp, fun y hy hxy => ?_⟩
            rcases List.mem_append.1 hy with hy | hy
            · rw [hcp y hy] at hxy; cases hxy
            · simpa using hy
        · rintro ⟨a1, a2⟩
          rcases List.mem_append.1 a1 with hx | hx
          · exact List.mem_append.2 (.inl ((h2 x).2 ⟨hx, fun y hy => a2 y (by simp [hy])⟩))
          · exact List.mem_append.2 (.inr hx)
      · rcases List.mem_append.1 hx with hx | hx
        · obtain ⟨y, hy, hxy⟩ := h3 x hx
          exact ⟨y, by simp [hy], hxy⟩
        · have hx0 : x = c := by simpa using hx
          subst hx0
          exact ⟨x, by simp, hw.refl x⟩
/-- of a list, sorted, the program keeps what the reference keeps of it -/
theorem grdL_eq [DecidableEq α] (h : LtO lt) (hw : WiO lt wi) (l s : List α) (hs : s.Pairwise (fun a b => lt b a = false)) (hm : ∀ x, x ∈ s ↔ x ∈ l) : grdL wi s = absD lt wi l := by
  have hf := grd_fold h hw s [] [] (by simpa using hs) List.Pairwise.nil (by simp) (by simp)
  simp only [List.nil_append] at hf
  refine h.uniq _ _ hf.1 ((srtD_sorted h l).filter _) fun x => ?_
  show x ∈ s.foldl (grd wi) [] ↔ _
  rw [hf.2.1 x]
  unfold absD
  rw [List.mem_filter, srtD_mem h, List.all_eq_true, hm]
  constructor
  · rintro ⟨a1, a2⟩
    refine ⟨a1, fun y hy => ?_⟩
    rw [srtD_mem h] at hy
    cases hxy : wi x y
    · simp
    · have := a2 y ((hm y).2 hy) hxy
      simp [this]
  · rintro ⟨a1, a2⟩
    refine ⟨a1, fun y hy hxy => ?_⟩
    have := a2 y ((srtD_mem h l y).2 ((hm y).1 hy))
    rw [hxy] at this
    simpa using this
theorem absD_sub [DecidableEq α] (h : LtO lt) {l : List α} {x : α} (hx : x ∈ absD lt wi l) : x ∈ l := by
  unfold absD at hx
  rw [List.mem_filter, srtD_mem h] at hx
  exact hx.1
/-- each element implies one that is kept -/
theorem absD_all [DecidableEq α] (h : LtO lt) (hw : WiO lt wi) {l : List α} {x : α} (hx : x ∈ l) : ∃ y ∈ absD lt wi l, wi x y = true := by
  have hs : (srtD lt l).Pairwise (fun a b => lt b a = false) := (srtD_sorted h l).imp fun h1 => h.as h1
  have hf := grd_fold h hw (srtD lt l) [] [] (by simpa using hs) List.Pairwise.nil (by simp) (by simp)
  simp only [List.nil_append] at hf
  obtain ⟨y, hy, hxy⟩ := hf.2.2 x ((srtD_mem h l x).2 hx)
  have e := grdL_eq h hw l (srtD lt l) hs (fun x => srtD_mem h l x)
  exact ⟨y, by rw [← e]; exact hy, hxy⟩
end
end Go.Proofs.Ytedopalmfakeaaa
