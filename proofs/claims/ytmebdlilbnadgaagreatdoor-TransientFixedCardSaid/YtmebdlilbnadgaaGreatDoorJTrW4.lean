/- Contracts of functions and lemmas, used by the proofs of the given statements. No condition beyond those that each lemma names. -/
import Derived.Test.YtmebdlilbnadgaaGreatDoorTrW3
import Derived.Test.YtmebdlilbnadgaaGreatDoorLinX
import Derived.Test.YtmebdlilbnadgaaGreatDoorJBase
import Derived.Test.YtmebdlilbnadgaaGreatDoorChX
import Derived.Test.YtmebdlilbnadgaaGreatDoorJRetW
import Derived.Test.YtmebdlilbnadgaaGreatDoorLinMk
namespace Go.Proofs.YtmebdlilbnadgaaGreatDoor
open Go.RowKit
set_option linter.unusedSimpArgs false
set_option linter.unusedVariables false
set_option maxRecDepth 20000
attribute [local irreducible] nv wp win plainB validR valR canR mvE chkM codeC exK maxF
/-! ## package transient: Step -/
def allV (n : Nat) (R : Nat → Rw) : Bool := (List.range n).all fun k => validR (R k)
theorem allV_yes {n : Nat} {R : Nat → Rw} (h : ∀ k, k < n → validR (R k) = true) : allV n R = true := List.all_eq_true.2 fun k hk => h k (List.mem_range.1 hk)
theorem allV_no {n k : Nat} {R : Nat → Rw} (hk : k < n) (h : validR (R k) = false) : allV n R = false := by
  cases e : allV n R
  · rfl
  · have := List.all_eq_true.1 e k (List.mem_range.2 hk); rw [h] at this; cases this
theorem allV_at {n k : Nat} {R : Nat → Rw} (h : allV n R = true) (hk : k < n) : validR (R k) = true := List.all_eq_true.1 h k (List.mem_range.2 hk)
end Go.Proofs.YtmebdlilbnadgaaGreatDoor
namespace Go.Proofs.YtmebdlilbnadgaaGreatDoor
open Go.RowKit
set_option linter.unusedSimpArgs false
set_option linter.unusedVariables false
set_option maxRecDepth 20000
attribute [local irreducible] nv wp win plainB validR valR canR mvE chkM codeC exK maxF
/-! ## package transient: Step -/
def vecQ (n : Nat) (R : Nat → Rw) : Nat → Rat := fun s => if s < n then valR (R s) else 0
theorem RowA.okR' {w : World} {b0 n : Nat} {A : Option Addr} {R : Nat → Rw} (h : RowA w b0 A n R) {k : Nat} (hk : k < n) : okR (R k) := by
  obtain ⟨V, h1, h2⟩ := h
  obtain ⟨_, _, _, _, _, _, _, hok, _⟩ := h1 k hk
  exact hok
theorem RowA.can_ {w : World} {b0 n : Nat} {A : Option Addr} {R : Nat → Rw} (h : RowA w b0 A n R) (hv : allV n R = true) : RowA w b0 A n (can (vecQ n R)) :=
  h.congr fun k hk => by
    show R k = canR (vecQ n R k)
    unfold vecQ
    rw [if_pos hk, canR_valR (h.okR' hk) (allV_at hv hk)]
def RetFe (b0 base n : Nat) (x : Nat → Rat) (code : Int) (e : Ending) (w' : World) : Prop := if code = 0 then ∃ A c, e = .returned (.tuple #[.slice A n c, .nilIface]) ∧ OwF w' b0 base A c n x else e = .returned (.tuple #[.slice none 0 0, errM code])
theorem retFe_0 {b0 base n : Nat} {x : Nat → Rat} {code : Int} {A : Option Addr} {c : Nat} {w' : World} (h : code = 0) (hr : OwF w' b0 base A c n x) : RetFe b0 base n x code (.returned (.tuple #[.slice A n c, .nilIface])) w' := by
  unfold RetFe; rw [if_pos h]; exact ⟨A, c, rfl, hr⟩
theorem retFe_n {b0 base n : Nat} {x : Nat → Rat} {code : Int} {w' : World} {z : Value} (h : code ≠ 0) (hz : errM code = z) : RetFe b0 base n x code (.returned (.tuple #[.slice none 0 0, z])) w' := by
  unfold RetFe; rw [if_neg h, hz]
def Chn.codeT (c : Chn) (r : Rw) (n : Nat) (R : Nat → Rw) : Int := if c.codeR r ≠ 0 then c.codeR r else if n ≠ c.nd then 11 else if allV n R then 0 else 2
def Chn.stepQ (c : Chn) (ab : Bool) (r : Rat) (v : Nat → Rat) : Nat → Rat := stepV (c.act ab) c.f c.t c.q r c.nm v
theorem Chn.codeR_0 {c : Chn} {r : Rw} (h : c.codeR r = 0) : c.code = 0 ∧ 0 < valR r ∧ c.fast ≤ valR r := by
  unfold Chn.codeR at h
  split at h
  · contradiction
  · rename_i h1
    split at h
    · omega
    · rename_i h2
      rw [not_or] at h2
      exact ⟨by omega, Classical.not_not.1 h2.1, Rat.not_lt.1 h2.2⟩
theorem valR_pos_can {r : Rw} (hok : okR r) (h : 0 < valR r) : canR (valR r) = r := by
  cases hv : validR r
  · exact absurd h (valR_no hv)
  · exact canR_valR hok hv
theorem RdS.ok {w : World} {b0 : Nat} {v : Value} {r : Rw} (h : RdS w b0 v r) : okR r := by
  obtain ⟨_, _, _, _, _, _, _, hok, _⟩ := h
  exact hok
end Go.Proofs.YtmebdlilbnadgaaGreatDoor
namespace Go.Proofs.YtmebdlilbnadgaaGreatDoor
open Go.RowKit
set_option linter.unusedSimpArgs false
set_option linter.unusedVariables false
set_option maxRecDepth 20000
attribute [local irreducible] nv wp win plainB validR valR canR mvE chkM codeC exK maxF
/-! ## package absorb: Accepts, invalid fractions -/
def BigS (n : Nat) (R : Nat → Rw) : Prop := ∀ k, k < n → (R k).2.1.length ≤ 1000000000 ∧ (R k).2.2.length ≤ 1000000000
theorem validSB {w : World} {b0 : Nat} {v : Value} {r : Rw} (h : RdS w b0 v r) (h1 : r.2.1.length ≤ 1000000000) (h2 : r.2.2.length ≤ 1000000000) :
    Calls Tryz.prog 78 #[v] w fun e w' => e = .returned (.bool (validR r)) ∧ Below w.heap.size w w' := by
  obtain ⟨A, c, B, d, rfl, c1, c2, ok, rA, rB, _, _⟩ := h
  exact valid_any _ _ _ _ _ _ _ _ _ w rfl rfl (by omega) (by omega) c1 c2 ok.1 ok.2 rA rB
end Go.Proofs.YtmebdlilbnadgaaGreatDoor
namespace Go.Proofs.YtmebdlilbnadgaaGreatDoor
set_option linter.unusedSimpArgs false
set_option linter.unusedVariables false
/-! ## the reduced form of a matrix and one more column (plain) -/
theorem findF_congr {M N : Mf} {k : Nat} : ∀ {f a : Nat}, (∀ i, M i k = N i k) → findF M k f a = findF N k f a
  | 0, a, _ => rfl
  | f + 1, a, h => by unfold findF; rw [h a, findF_congr h]
theorem findR_congr {M N : Mf} {n k a : Nat} (h : ∀ i, M i k = N i k) : findR n M k a = findR n N k a := findF_congr h
theorem gj_cols {n c : Nat} {M N : Mf} (h : ∀ i j, j < c → M i j = N i j) : ∀ k, k ≤ c → (gj n M k).2 = (gj n N k).2 ∧ ∀ i j, j < c → (gj n M k).1 i j = (gj n N k).1 i j
  | 0, _ => ⟨rfl, h⟩
  | k + 1, hk => by
    obtain ⟨h1, h2⟩ := gj_cols h k (by omega)
    have hf : findR n (gj n M k).1 k (gj n M k).2.length = findR n (gj n N k).1 k (gj n N k).2.length := by rw [h1]; exact findR_congr fun i => h2 i k (by omega)
    rw [gj_succ, gj_succ]
    unfold gjS
    rw [hf, h1]
    split
    · refine ⟨rfl, fun i j hj => ?_⟩
      have hs : ∀ i j, j < c → swp (gj n M k).1 (gj n N k).2.length (findR n (gj n N k).1 k (gj n N k).2.length) i j = swp (gj n N k).1 (gj n N k).2.length (findR n (gj n N k).1 k (gj n N k).2.length) i j := by
        intro i j hj
        unfold swp
        split
        · exact h2 _ j hj
        · split
          · exact h2 _ j hj
          · exact h2 _ j hj
      show elim _ _ _ i j = elim _ _ _ i j
      unfold elim
      rw [hs _ j hj, hs _ k (by omega), hs i j hj, hs i k (by omega)]
    · exact ⟨h1, h2⟩
theorem gj_wide {n c : Nat} {M : Mf} {y : Nat → Rat} : (gj n (wide M y c) c).2 = (gj n M c).2 :=
  (gj_cols (c := c) (fun i j hj => by unfold wide; rw [if_pos hj]) c (Nat.le_refl _)).1
theorem gj_pre {n : Nat} {M : Mf} {k : Nat} : ∀ {c}, k ≤ c → ∃ t, (gj n M c).2 = (gj n M k).2 ++ t ∧ ∀ x ∈ t, k ≤ x
  | 0, h => ⟨[], by obtain rfl : k = 0 := by omega
                    simp, by simp⟩
  | c + 1, h => by
    by_cases e : k = c + 1
    · subst e; exact ⟨[], by simp, by simp⟩
    · obtain ⟨t, ht, hx⟩ := gj_pre (n := n) (M := M) (k := k) (c := c) (by omega)
      rcases gj_step n M c with ⟨h1, _⟩ | ⟨r, _, _, _, _, h5, _, _⟩
      · exact ⟨t, by rw [h1, ht], hx⟩
      · refine ⟨t ++ [c], by rw [h5]; show _ ++ _ = _; rw [ht, List.append_assoc], fun x hm => ?_⟩
        rcases List.mem_append.1 hm with h6 | h6
        · exact hx x h6
        · have := List.mem_singleton.1 h6; omega
theorem fre_count {n c : Nat} {M : Mf} : ∀ k, k ≤ c → (fre (gj n M c).2 k).length + (gj n M k).2.length = k
  | 0, _ => by show (fre (gj n M c).2 0).length + ([] : List Nat).length = 0; rfl
  | k + 1, h => by
    have ih := fre_count (n := n) (c := c) (M := M) k (by omega)
    obtain ⟨t, ht, hx⟩ := gj_pre (n := n) (M := M) (k := k + 1) (c := c) h
    rcases gj_step n M k with ⟨h1, _⟩ | ⟨r, _, _, _, _, h5, _, _⟩
    · have hk : k ∉ (gj n M c).2 := by
        rw [ht, h1, List.mem_append]
        rintro (h2 | h2)
        · have := gj_lt k _ h2; omega
        · have := hx _ h2; omega
      rw [fre_out hk, h1, List.length_append, List.length_singleton]
      omega
    · have hk : k ∈ (gj n M c).2 := by
        rw [ht, h5]
        simp
      rw [fre_in hk, h5]
      show _ + ((gj n M k).2 ++ [k]).length = _
      rw [List.length_append, List.length_singleton]
      omega
theorem kernel_count (n c : Nat) (M : Mf) : (fre (gj n M c).2 c).length + (gj n M c).2.length = c := fre_count c (Nat.le_refl _)
/-- the rank grows by one or stays -/
theorem wide_rank (n c : Nat) (M : Mf) (y : Nat → Rat) : ((gj n (wide M y c) (c + 1)).2 = (gj n M c).2 ++ [c] ∧ (gj n (wide M y c) (c + 1)).2.getLast? = some c) ∨ ((gj n (wide M y c) (c + 1)).2 = (gj n M c).2 ∧ (gj n (wide M y c) (c + 1)).2.getLast? ≠ some c) := by
  have hw := gj_wide (n := n) (M := M) (y := y) (c := c)
  rcases gj_step n (wide M y c) c with ⟨h1, _⟩ | ⟨r, _, _, _, _, h5, _, _⟩
  · refine .inr ⟨by rw [h1, hw], fun e => ?_⟩
    rw [h1, hw] at e
    have := gj_lt c _ (List.mem_of_getLast? e)
    omega
  · refine .inl ⟨by rw [h5]; show _ ++ _ = _; rw [hw], ?_⟩
    rw [h5]
    simp
/-- the solution solves -/
theorem solve_eq {n c : Nat} {M : Mf} {y : Nat → Rat} (h : (gj n (wide M y c) (c + 1)).2.length = (gj n M c).2.length) (hc : (gj n M c).2.length = c) : ∀ i, i < n → dotS (M i) (fun t => (gj n (wide M y c) (c + 1)).1 t c) c = y i := by
  intro i hi
  have h1 := gj_rows (n := n) (c := c + 1) (M := wide M y c) i hi c (by omega)
  have e : wide M y c i c = y i := by unfold wide; rw [if_neg (by omega)]
  have hp : (gj n (wide M y c) (c + 1)).2 = (gj n M c).2 := by
    rcases wide_rank n c M y with ⟨h2, _⟩ | ⟨h2, _⟩
    · rw [h2] at h; simp at h
    · exact h2
  rw [e, h, hc, hp] at h1
  rw [h1]
  refine dotS_congr (fun t ht => ?_) (fun _ _ => rfl)
  rw [gj_full_pv hc t ht]
  unfold wide
  rw [if_pos ht]
end Go.Proofs.YtmebdlilbnadgaaGreatDoor
namespace Go.Proofs.YtmebdlilbnadgaaGreatDoor
set_option linter.unusedSimpArgs false
set_option linter.unusedVariables false
/-! ## sums over moves (plain) -/
theorem sumN_add (f g : Nat → Rat) : ∀ n, sumN (fun k => f k + g k) n = sumN f n + sumN g n
  | 0 => by unfold sumN; grind
  | n + 1 => by rw [sumN, sumN, sumN, sumN_add f g n]; grind
theorem sumN_sub (f g : Nat → Rat) : ∀ n, sumN (fun k => f k - g k) n = sumN f n - sumN g n
  | 0 => by unfold sumN; grind
  | n + 1 => by rw [sumN, sumN, sumN, sumN_sub f g n]; grind
theorem sumN_smul (a : Rat) (f : Nat → Rat) : ∀ n, sumN (fun k => a * f k) n = a * sumN f n
  | 0 => by unfold sumN; grind
  | n + 1 => by rw [sumN, sumN, sumN_smul a f n]; grind
theorem sumN_nil {f : Nat → Rat} : ∀ {n}, (∀ k, k < n → f k = 0) → sumN f n = 0
  | 0, _ => rfl
  | n + 1, h => by rw [sumN, sumN_nil fun k hk => h k (by omega), h n (by omega)]; grind
theorem sumN_swap (a : Nat → Nat → Rat) (n : Nat) : ∀ m, sumN (fun j => sumN (fun k => a j k) m) n = sumN (fun k => sumN (fun j => a j k) n) m
  | 0 => by show sumN (fun _ => 0) n = 0; exact sumN_nil fun _ _ => rfl
  | m + 1 => by
    show sumN (fun j => sumN (fun k => a j k) m + a j m) n = _
    rw [sumN_add, sumN_swap a n m, sumN]
theorem sumN_pick {f : Nat → Rat} {a : Nat} : ∀ {n}, sumN (fun j => if j = a then f j else 0) n = if a < n then f a else 0
  | 0 => by simp [sumN]
  | n + 1 => by
    rw [sumN, sumN_pick]
    by_cases e : n = a
    · subst e
      rw [if_neg (by omega), if_pos rfl, if_pos (by omega)]; grind
    · rw [if_neg e]
      by_cases h : a < n
      · rw [if_pos h, if_pos (by omega)]; grind
      · rw [if_neg h, if_neg (by omega)]; grind
theorem sumN_le0 {f : Nat → Rat} : ∀ {n}, (∀ k, k < n → f k ≤ 0) → sumN f n ≤ 0
  | 0, _ => Rat.le_refl
  | n + 1, h => by
    have ih := sumN_le0 (f := f) (n := n) fun k hk => h k (by omega)
    have h1 := h n (by omega)
    rw [sumN]
    clear h
    grind
theorem sumN_eq0 {f : Nat → Rat} : ∀ {n}, (∀ k, k < n → f k ≤ 0) → 0 ≤ sumN f n → ∀ k, k < n → f k = 0
  | n + 1, h, h0, k, hk => by
    have ih := sumN_le0 (f := f) (n := n) fun k hk => h k (by omega)
    have := h n (by omega)
    rw [sumN] at h0
    by_cases e : k = n
    · subst e; grind
    · have h2 : 0 ≤ sumN f n := by grind
      exact sumN_eq0 (n := n) (fun k hk => h k (by omega)) h2 k (by omega)
/-! ## the system of the live states -/
section
variable (l : Nat → Bool) (F T : Nat → Nat) (q : Nat → Rat) (back : Bool)
end
section
variable {l D : Nat → Bool} {F T : Nat → Nat} {q : Nat → Rat} {back : Bool} {nm n i : Nat} {z y : Nat → Rat}
end
/-! ## full rank -/
theorem rank_full {n c : Nat} {M : Mf} (h : ∀ x : Nat → Rat, (∀ i, i < n → dotS (M i) x c = 0) → ∀ j, j < c → x j = 0) : (gj n M c).2.length = c := by
  apply Classical.byContradiction
  intro hne
  have h1 := kernel_count n c M
  have h2 : 0 < (fre (gj n M c).2 c).length := by
    have := (gj_len_le (n := n) (M := M) c).1
    omega
  obtain ⟨k, hk⟩ : ∃ k, k ∈ fre (gj n M c).2 c := ⟨_, List.getElem_mem h2⟩
  obtain ⟨hk1, hk2⟩ := fre_mem.1 hk
  have h3 := h _ (fun i hi => kx_zero hk1 hk2 i hi) k hk1
  rw [kx_own hk2 _ (Nat.le_refl _)] at h3
  exact absurd h3 (by decide)
/-- a square matrix of full rank: there is a solution, and it is one -/
theorem solve_full {n : Nat} {M : Mf} {y : Nat → Rat} (h : (gj n M n).2.length = n) : codeS n n (wide M y n) = 0 ∧ ∀ i, i < n → dotS (M i) (fun t => (gj n (wide M y n) (n + 1)).1 t n) n = y i := by
  have hw : (gj n (wide M y n) (n + 1)).2 = (gj n M n).2 ∧ (gj n (wide M y n) (n + 1)).2.getLast? ≠ some n := by
    rcases wide_rank n n M y with ⟨h1, h2⟩ | h1
    · have := (gj_len_le (n := n) (M := wide M y n) (n + 1)).2
      rw [h1, List.length_append] at this
      simp at this
      omega
    · exact h1
  exact ⟨codeS_0 hw.2 (by rw [hw.1]; omega), solve_eq (by rw [hw.1]) h⟩
end Go.Proofs.YtmebdlilbnadgaaGreatDoor
namespace Go.Proofs.YtmebdlilbnadgaaGreatDoor
set_option linter.unusedSimpArgs false
set_option linter.unusedVariables false
/-! ## the solution, by the whole matrix and by the live states alone (plain) -/
theorem cntB_ix {B : Nat → Bool} {t : Nat} : ∀ {n : Nat}, t < cntB B n → cntB B (ixB B n t) = t
  | 0, h => by unfold cntB kept at h; simp at h
  | n + 1, h => by
    cases hb : B n
    · rw [cntB_no hb] at h
      rw [ixB_stay (B := B) (i := t) (n := n + 1) (k := n) (by omega) h]
      exact cntB_ix h
    · rw [cntB_yes hb] at h
      by_cases e : t = cntB B n
      · subst e
        rw [ixB_new (by omega) hb]
      · rw [ixB_stay (B := B) (i := t) (n := n + 1) (k := n) (by omega) (by omega)]
        exact cntB_ix (by omega)
theorem ixB_cnt {B : Nat → Bool} {s n : Nat} (hs : s < n) (h : B s = true) : cntB B s < cntB B n ∧ ixB B n (cntB B s) = s := by
  refine ⟨?_, ixB_new hs h⟩
  have := cntB_mono (B := B) (k := s + 1) (n := n) (by omega)
  rw [cntB_yes h] at this
  omega
/-- a list over the live states as one over all -/
def extB (l : Nat → Bool) (x : Nat → Rat) : Nat → Rat := fun s => if l s then x (cntB l s) else 0
theorem dotS_kept {l : Nat → Bool} {f x : Nat → Rat} {n : Nat} : ∀ {k}, k ≤ n → dotS (fun t => f (ixB l n t)) x (cntB l k) = dotS f (extB l x) k
  | 0, _ => rfl
  | k + 1, hk => by
    have ih := dotS_kept (l := l) (f := f) (x := x) (n := n) (k := k) (by omega)
    cases hb : l k
    · rw [cntB_no hb, dotS, ih]
      unfold extB
      simp [hb]
      grind
    · rw [cntB_yes hb, dotS, dotS, ih, ixB_new (by omega) hb]
      unfold extB
      simp [hb]
section
variable {l D : Nat → Bool} {F T : Nat → Nat} {q : Nat → Rat} {nm n i : Nat} {z y : Nat → Rat} (back : Bool)
end
end Go.Proofs.YtmebdlilbnadgaaGreatDoor
namespace Go.Proofs.YtmebdlilbnadgaaGreatDoor
open Go.RowKit
set_option linter.unusedSimpArgs false
set_option linter.unusedVariables false
set_option maxRecDepth 20000
attribute [local irreducible] nv wp win plainB validR valR canR
/-! ## rows of moves that grow, blocks of a kind -/
/-- what kind of block it is -/
def TyB (t : TypeId) (w : World) (g : Nat) : Prop := ∃ cur fz, w.heap[g]? = some (.cells cur t fz)
section
variable {t : TypeId} {w w' : World} {g b0 : Nat}
theorem TyB.below {B : Nat} (h : TyB t w g) (hb : Below B w w') (hg : g < B) : TyB t w' g := by
  obtain ⟨cur, fz, h⟩ := h
  exact ⟨cur, fz, (hb.block g hg).trans h⟩
theorem TyB.new (w : World) (cs : Array Value) : TyB t (w.alloc (.cells cs t)) w.heap.size := ⟨cs, _, heap_alloc_new w _⟩
theorem TyB.set (h : TyB t w g) (b o : Nat) (u : Value) : TyB t (w.setCell ⟨b, o, none⟩ u) g := by
  obtain ⟨cur, fz, h⟩ := h
  by_cases e : b = g
  · subst e
    refine ⟨cur.setIfInBounds o u, fz, ?_⟩
    simp [World.setCell, Array.getElem?_modify, h]
  · refine ⟨cur, fz, ?_⟩
    simp [World.setCell, Array.getElem?_modify, h, e]
end
end Go.Proofs.YtmebdlilbnadgaaGreatDoor
namespace Go.Proofs.YtmebdlilbnadgaaGreatDoor
open Go.RowKit
set_option linter.unusedSimpArgs false
set_option linter.unusedVariables false
set_option maxRecDepth 20000
attribute [local irreducible] nv wp win plainB validR valR canR
/-! ## no words lie in some blocks: so the bound below which a fraction's words may lie is lowered -/
def NWB (w : World) (k : Nat) : Prop := ∃ cs t fz, w.heap[k]? = some (.cells cs t fz) ∧ ∀ (j : Nat) u, cs[j]? = some u → ∀ x : Int, u ≠ .int .u32 x
section
variable {w w' : World} {b0 b1 bo co n c g bd : Nat} {A : Option Addr} {v : Value} {r : Rw} {R : Nat → Rw} {len : Nat → Nat} {M : Nat → Nat → Rat}
end
/-! ## reference: Reduce -/
end Go.Proofs.YtmebdlilbnadgaaGreatDoor
namespace Go.Proofs.YtmebdlilbnadgaaGreatDoor
open Go.RowKit
set_option linter.unusedSimpArgs false
set_option linter.unusedVariables false
set_option maxRecDepth 20000
attribute [local irreducible] nv wp win plainB validR valR canR
/-! ## a row of the call's own, its words anywhere ahead of another bound -/
def OwS (w : World) (b0 base : Nat) (A : Option Addr) (c n : Nat) (R : Nat → Rw) : Prop := ∃ V, (∀ k, k < n → RdS w b0 (V k) (R k)) ∧ w.ownsRow base 30 3 (.slice A n c) n (cellsV n V)
section
variable {w w' : World} {b0 b1 base c n g : Nat} {A : Option Addr} {R U : Nat → Rw}
theorem RdW.keepN {l : List Nat} (h : RdW w w.heap.size A l) (hg : w.grownBy w' (some g)) (hn : NWB w g) : RdW w' w'.heap.size A l ∧ ∀ a, A = some a → 0 < l.length → a.block ≠ g := by
  have key : ∀ a, A = some a → 0 < l.length → a.block ≠ g := by
    intro a ha hl e
    obtain ⟨b', off, e1, _, hcell⟩ := h.addr hl
    rw [e1] at ha
    injection ha with ha
    subst ha
    obtain ⟨cs, t, fz, g1, g2⟩ := hn
    have := hcell 0 hl
    subst e
    rw [cell_of_row w b' _ _ _ _ g1] at this
    exact g2 _ _ this _ rfl
  refine ⟨⟨h.1, fun hl => ?_⟩, key⟩
  obtain ⟨b, off, e, hb, hc⟩ := h.2 hl
  refine ⟨b, off, e, Nat.lt_of_lt_of_le hb hg.size, fun j u hu => ?_⟩
  rw [grown_at hg _ hb (key _ e hl)]
  exact hc j u hu
theorem RdS.keepN {v : Value} {r : Rw} (h : RdS w b0 v r) (hg : w.grownBy w' (some g)) (hn : NWB w g) : RdS w' b0 v r := by
  obtain ⟨A, c, B, d, h1, h2, h3, h4, h5, h6, h7, h8⟩ := h
  have key : ∀ (X : Option Addr) (l : List Nat), RdW w w.heap.size X l → BlkIn (WB w b0) X l.length → BlkIn (WB w' b0) X l.length := by
    intro X l hr hs hl a ha
    have hne := (hr.keepN hg hn).2 a ha hl
    rcases hs hl a ha with h9 | ⟨cur, fz, h9⟩
    · exact .inl h9
    · exact .inr ⟨cur, fz, by rw [hg.block a.block (Array.getElem?_eq_some_iff.1 h9).1 (fun e => by injection e with e; exact hne e)]; exact h9⟩
  exact ⟨A, c, B, d, h1, h2, h3, h4, (h5.keepN hg hn).1, (h6.keepN hg hn).1, key A _ h5 h7, key B _ h6 h8⟩
theorem OwS.of_own (h : OwR w base A c n R) (hb : base ≤ b0) : OwS w b0 base A c n R := by
  obtain ⟨V, h1, h2⟩ := h
  exact ⟨V, fun k hk => (h1 k hk).base hb, h2⟩
theorem OwS.ra (h : OwS w b0 base A c n R) : RowA w b0 A n R := by
  obtain ⟨V, h1, h2⟩ := h
  exact ⟨V, h1, Rds.of_own h2⟩
theorem OwS.up (h : OwS w b0 base A c n R) (hb : b0 ≤ b1) : OwS w b1 base A c n R := by
  obtain ⟨V, h1, h2⟩ := h
  exact ⟨V, fun k hk => (h1 k hk).base hb, h2⟩
theorem OwS.congr (h : OwS w b0 base A c n R) (e : ∀ k, k < n → R k = U k) : OwS w b0 base A c n U := by
  obtain ⟨V, h1, h2⟩ := h
  exact ⟨V, fun k hk => e k hk ▸ h1 k hk, h2⟩
theorem OwS.frozen (h : OwS w b0 base (some ⟨g, 0, none⟩) c n R) (k : Nat) : w.frozen? ⟨g, k, none⟩ = false := by
  obtain ⟨V, h1, h2⟩ := h
  exact World.ownsRow.frozenAt h2 k
theorem OwS.lt (h : OwS w b0 base (some ⟨g, 0, none⟩) c n R) : base ≤ g ∧ g < w.heap.size := by
  obtain ⟨V, h1, h2⟩ := h
  exact World.ownsRow.lt h2 g rfl
theorem OwS.at_ (h : OwS w b0 base (some ⟨g, 0, none⟩) c n R) {k : Nat} (hk : k < n) : ∃ s A1 n1 c1 B1 m1 d1, w.cell? ⟨g, k * 3, none⟩ = some (.bool s) ∧ w.cell? ⟨g, k * 3 + 1, none⟩ = some (.slice A1 n1 c1) ∧ w.cell? ⟨g, k * 3 + 2, none⟩ = some (.slice B1 m1 d1) ∧ RdS w b0 (rv s A1 n1 c1 B1 m1 d1) (R k) := by
  obtain ⟨b, off, s, A1, n1, c1, B1, m1, d1, e, hb, h0, h1, h2, h3⟩ := h.ra.at_ hk
  injection e with e
  injection e with e1 e2 _
  subst e1 e2
  rw [Nat.zero_add] at h0 h1 h2
  exact ⟨s, A1, n1, c1, B1, m1, d1, h0, h1, h2, h3⟩
theorem OwS.nwb (h : OwS w b0 base (some ⟨g, 0, none⟩) n n R) : NWB w g := by
  obtain ⟨V, h1, h2⟩ := h
  rcases h2.2 with ⟨h, _⟩ | ⟨g', cap, cur, e, hb, hg, hle, hmax, hsz, htake⟩
  · cases h
  · injection e with e1 e2 e3
    injection e1 with e1
    injection e1 with e1
    subst e1 e3
    refine ⟨cur, _, _, hg, fun j u hu x e => ?_⟩
    subst e
    have h3 : cur.toList = cellsV n V := by rw [← htake, List.take_of_length_le (by rw [Array.length_toList, hsz]; exact Nat.le_refl _)]
    have h4 : (cellsV n V)[j]? = some (.int .u32 x) := by rw [← h3, Array.getElem?_toList]; exact hu
    have h5 := List.mem_of_getElem? h4
    simp only [cellsV, List.mem_flatMap, List.mem_range] at h5
    obtain ⟨k, hk, h5⟩ := h5
    obtain ⟨s, A1, a1, c1, B1, b1, d1, e⟩ := (h1 k hk).isR
    rw [e] at h5
    simp [c3] at h5
/-- element k is stored -/
theorem OwS.set (h : OwS w b0 base (some ⟨g, 0, none⟩) n n R) {k : Nat} (hk : k < n) {s : Bool} {A1 : Option Addr} {n1 c1 : Nat} {B1 : Option Addr} {m1 d1 : Nat} {r : Rw} (hr : RdS w b0 (rv s A1 n1 c1 B1 m1 d1) r) :
    OwS (((w.setCell ⟨g, k * 3, none⟩ (.bool s)).setCell ⟨g, k * 3 + 1, none⟩ (.slice A1 n1 c1)).setCell ⟨g, k * 3 + 2, none⟩ (.slice B1 m1 d1)) b0 base (some ⟨g, 0, none⟩) n n (upd R k r) ∧
    w.grownBy (((w.setCell ⟨g, k * 3, none⟩ (.bool s)).setCell ⟨g, k * 3 + 1, none⟩ (.slice A1 n1 c1)).setCell ⟨g, k * 3 + 2, none⟩ (.slice B1 m1 d1)) (some g) := by
  have hn := h.nwb
  obtain ⟨V, h1, h2⟩ := h
  obtain ⟨s0, t0⟩ := World.ownsRow.stored h2 (k * 3) (.bool s)
  obtain ⟨s1, t1⟩ := World.ownsRow.stored s0 (k * 3 + 1) (.slice A1 n1 c1)
  obtain ⟨s2, t2⟩ := World.ownsRow.stored s1 (k * 3 + 2) (.slice B1 m1 d1)
  have hgr := grown_trans (grown_trans t0 t1) t2
  rw [cellsV_set (fun k hk => (h1 k hk).isR) hk] at s2
  refine ⟨⟨upd V k (rv s A1 n1 c1 B1 m1 d1), fun j hj => ?_, s2⟩, hgr⟩
  by_cases e : j = k
  · subst e; rw [upd_same, upd_same]; exact hr.keepN hgr hn
  · rw [upd_ne _ _ e, upd_ne _ _ e]; exact (h1 j hj).keepN hgr hn
end
end Go.Proofs.YtmebdlilbnadgaaGreatDoor
namespace Go.Proofs.YtmebdlilbnadgaaGreatDoor
set_option linter.unusedSimpArgs false
set_option linter.unusedVariables false
/-! ## stationary distributions (plain) -/
/-- moves between n states; every closed set of states has the state a -/
structure UnS (nm n : Nat) (F T : Nat → Nat) (q : Nat → Rat) (a : Nat) : Prop where
  mv : ∀ k, k < nm → F k < n ∧ T k < n ∧ F k ≠ T k ∧ 0 < q k
  lt : a < n
  un : ∀ P : Nat → Prop, (∀ k, k < nm → P (F k) → P (T k)) → ∀ s, s < n → P s → P a
section
variable {F T : Nat → Nat} {q x y : Nat → Rat} {nm n a : Nat}
/-- what comes into a state less what goes out, by one move -/
def netT (F T : Nat → Nat) (q x : Nat → Rat) (i k : Nat) : Rat := (if T k = i then x (F k) * q k else 0) - (if F k = i then x (F k) * q k else 0)
def netS (F T : Nat → Nat) (q x : Nat → Rat) (nm i : Nat) : Rat := sumN (netT F T q x i) nm
theorem net_sum (hF : ∀ k, k < nm → F k < n ∧ T k < n) (w : Nat → Rat) : sumN (fun i => w i * netS F T q x nm i) n = sumN (fun k => x (F k) * q k * (w (T k) - w (F k))) nm := by
  have e1 : sumN (fun i => w i * netS F T q x nm i) n = sumN (fun i => sumN (fun k => w i * netT F T q x i k) nm) n := by
    refine sumN_congr fun i _ => ?_
    unfold netS
    rw [sumN_smul]
  rw [e1, sumN_swap]
  refine sumN_congr fun k hk => ?_
  obtain ⟨m1, m2⟩ := hF k hk
  have e2 : ∀ i, w i * netT F T q x i k = (if i = T k then x (F k) * q k * w i else 0) - (if i = F k then x (F k) * q k * w i else 0) := fun i => by
    unfold netT
    by_cases h1 : T k = i
    · by_cases h2 : F k = i
      · rw [if_pos h1, if_pos h2, if_pos h1.symm, if_pos h2.symm]; grind
      · rw [if_pos h1, if_neg h2, if_pos h1.symm, if_neg (fun e => h2 e.symm)]; grind
    · by_cases h2 : F k = i
      · rw [if_neg h1, if_pos h2, if_neg (fun e => h1 e.symm), if_pos h2.symm]; grind
      · rw [if_neg h1, if_neg h2, if_neg (fun e => h1 e.symm), if_neg (fun e => h2 e.symm)]; grind
  rw [sumN_congr fun i _ => e2 i, sumN_sub, sumN_pick, sumN_pick, if_pos m2, if_pos m1]
  grind
theorem netS_neg (i : Nat) : netS F T q (fun s => -x s) nm i = -netS F T q x nm i := by
  have e : netS F T q (fun s => -x s) nm i = sumN (fun k => (-1) * netT F T q x i k) nm := sumN_congr fun k _ => by
    unfold netT
    split <;> split <;> grind
  rw [e, sumN_smul]
  unfold netS
  grind
theorem netS_lin (b : Rat) (i : Nat) : netS F T q (fun s => x s + b * y s) nm i = netS F T q x nm i + b * netS F T q y nm i := by
  unfold netS
  rw [← sumN_smul, ← sumN_add]
  refine sumN_congr fun k _ => ?_
  unfold netT
  split <;> split <;> grind
/-- where something is, it stays -/
theorem pos_shut (hm : ∀ k, k < nm → F k < n ∧ T k < n ∧ F k ≠ T k ∧ 0 < q k) (hn : ∀ i, i < n → netS F T q x nm i = 0) : ∀ k, k < nm → 0 < x (F k) → 0 < x (T k) := by
  have h1 := net_sum (x := x) (q := q) (fun k hk => ⟨(hm k hk).1, (hm k hk).2.1⟩) (fun s => if 0 < x s then 1 else 0)
  rw [sumN_nil fun i hi => by rw [hn i hi]; grind] at h1
  have h2 : ∀ k, k < nm → x (F k) * q k * ((if 0 < x (T k) then 1 else 0) - (if 0 < x (F k) then 1 else 0)) ≤ 0 := fun k hk => by
    have hq := (hm k hk).2.2.2
    by_cases hf : 0 < x (F k)
    · rw [if_pos hf]
      have := Rat.mul_pos hf hq
      split <;> grind
    · rw [if_neg hf]
      have : x (F k) * q k ≤ 0 := by
        have h3 : 0 ≤ (-x (F k)) * q k := Rat.mul_nonneg (by grind) (Rat.le_of_lt hq)
        grind
      split <;> grind
  have h3 := sumN_eq0 h2 (by rw [← h1]; exact Rat.le_refl)
  intro k hk hf
  have h4 := h3 k hk
  rw [if_pos hf] at h4
  have := Rat.mul_pos hf (hm k hk).2.2.2
  by_cases ht : 0 < x (T k)
  · exact ht
  · rw [if_neg ht] at h4
    exfalso
    grind
theorem UnS.sign (h : UnS nm n F T q a) (hn : ∀ i, i < n → netS F T q x nm i = 0) : (∀ s, s < n → 0 ≤ x s) ∨ (∀ s, s < n → x s ≤ 0) := by
  by_cases h1 : ∀ s, s < n → x s ≤ 0
  · exact .inr h1
  · refine .inl fun s hs => ?_
    have ⟨t, ht⟩ := Classical.not_forall.1 h1
    have ⟨ht1, ht2⟩ := Classical.not_imp.1 ht
    have ha : 0 < x a := h.un (fun s => 0 < x s) (pos_shut h.mv hn) t ht1 (by grind)
    apply Classical.byContradiction
    intro hneg
    have hb : 0 < -x a := h.un (fun s => 0 < -x s) (pos_shut (x := fun s => -x s) h.mv fun i hi => by rw [netS_neg, hn i hi]; grind) s hs (by grind)
    grind
theorem UnS.zero (h : UnS nm n F T q a) (hn : ∀ i, i < n → netS F T q x nm i = 0) (hs : sumN x n = 0) : ∀ s, s < n → x s = 0 := by
  rcases h.sign hn with h1 | h1
  · have h2 := sumN_eq0 (f := fun s => -x s) (n := n) (fun s hs => by have := h1 s hs; grind) (by
      have : sumN (fun s => -x s) n = -sumN x n := by
        have e : sumN (fun s => -x s) n = sumN (fun s => (-1) * x s) n := sumN_congr fun s _ => by grind
        rw [e, sumN_smul]; grind
      rw [this, hs]; decide)
    intro s hs; have := h2 s hs; grind
  · exact sumN_eq0 h1 (by rw [hs]; exact Rat.le_refl)
theorem UnS.unique (h : UnS nm n F T q a) (hx : ∀ i, i < n → netS F T q x nm i = 0) (hy : ∀ i, i < n → netS F T q y nm i = 0) (hs : sumN x n = sumN y n) : ∀ s, s < n → x s = y s := by
  have h1 := h.zero (x := fun s => x s + (-1) * y s) (fun i hi => by rw [netS_lin, hx i hi, hy i hi]; grind) (by rw [sumN_add, sumN_smul, hs]; grind)
  intro s hs
  have := h1 s hs
  grind
/-- a balanced distribution: above 0 at a, and nowhere below 0 -/
theorem UnS.dist (h : UnS nm n F T q a) (hn : ∀ i, i < n → netS F T q x nm i = 0) (hs : sumN x n = 1) : (∀ s, s < n → 0 ≤ x s) ∧ 0 < x a := by
  have h0 : ∀ s, s < n → 0 ≤ x s := by
    rcases h.sign hn with h1 | h1
    · exact h1
    · have := sumN_le0 h1
      rw [hs] at this
      exact absurd this (by decide)
  refine ⟨h0, ?_⟩
  by_cases h1 : ∃ t, t < n ∧ 0 < x t
  · obtain ⟨t, ht, hp⟩ := h1
    exact h.un (fun s => 0 < x s) (pos_shut h.mv hn) t ht hp
  · have : sumN x n = 0 := sumN_nil fun t ht => by
      have h2 := h0 t ht
      have h3 : ¬ 0 < x t := fun h => h1 ⟨t, ht, h⟩
      grind
    rw [this] at hs
    exact absurd hs (by decide)
end
/-- the balance's matrix after k moves -/
def staK (F T : Nat → Nat) (q : Nat → Rat) : Nat → Mf
  | 0 => fun _ _ => 0
  | k + 1 => fun i j => staK F T q k i j + (if i = T k ∧ j = F k then q k else 0) - (if i = F k ∧ j = F k then q k else 0)
/-- the last row says that the sum is 1 -/
def staM (F T : Nat → Nat) (q : Nat → Rat) (nm n : Nat) : Mf := fun i j => if i = n - 1 then 1 else staK F T q nm i j
section
variable {F T : Nat → Nat} {q x : Nat → Rat} {nm n a : Nat}
theorem dotS_pick {b : Nat} {v : Rat} : ∀ {m : Nat}, dotS (fun j => if j = b then v else 0) x m = if b < m then v * x b else 0
  | 0 => by rw [if_neg (by omega)]; rfl
  | m + 1 => by
    rw [dotS, dotS_pick (m := m)]
    by_cases e : m = b
    · subst e; rw [if_neg (by omega), if_pos rfl, if_pos (by omega)]; grind
    · rw [if_neg e]
      by_cases h : b < m
      · rw [if_pos h, if_pos (by omega)]; grind
      · rw [if_neg h, if_neg (by omega)]; grind
theorem dotS_addl (f g : Nat → Rat) : ∀ m, dotS (fun j => f j + g j) x m = dotS f x m + dotS g x m
  | 0 => by show (0 : Rat) = 0 + 0; grind
  | m + 1 => by rw [dotS, dotS, dotS, dotS_addl f g m]; grind
theorem dotS_ones : ∀ m, dotS (fun _ => 1) x m = sumN x m
  | 0 => rfl
  | m + 1 => by rw [dotS, sumN, dotS_ones m]; grind
theorem dot_sta (hF : ∀ k, k < nm → F k < n ∧ T k < n) (i : Nat) : ∀ {k : Nat}, k ≤ nm → dotS (staK F T q k i) x n = netS F T q x k i
  | 0, _ => by
    show dotS (fun _ => 0) x n = 0
    have := dotS_pick (x := x) (b := 0) (v := 0) (m := n)
    have e : (fun j : Nat => if j = 0 then (0 : Rat) else 0) = fun _ => 0 := by funext j; split <;> rfl
    rw [e] at this
    rw [this]
    split <;> grind
  | k + 1, hk => by
    have ih := dot_sta hF i (k := k) (by omega)
    obtain ⟨m1, m2⟩ := hF k (by omega)
    have e : staK F T q (k + 1) i = fun j => (staK F T q k i j + (if j = F k then (if i = T k then q k else 0) else 0)) + (if j = F k then (if i = F k then -q k else 0) else 0) := by
      funext j
      show staK F T q k i j + (if i = T k ∧ j = F k then q k else 0) - (if i = F k ∧ j = F k then q k else 0) = _
      by_cases h1 : j = F k
      · by_cases h2 : i = T k
        · by_cases h3 : i = F k
          · rw [if_pos ⟨h2, h1⟩, if_pos ⟨h3, h1⟩, if_pos h1, if_pos h1, if_pos h2, if_pos h3]; grind
          · rw [if_pos ⟨h2, h1⟩, if_neg (fun h => h3 h.1), if_pos h1, if_pos h1, if_pos h2, if_neg h3]; grind
        · by_cases h3 : i = F k
          · rw [if_neg (fun h => h2 h.1), if_pos ⟨h3, h1⟩, if_pos h1, if_pos h1, if_neg h2, if_pos h3]; grind
          · rw [if_neg (fun h => h2 h.1), if_neg (fun h => h3 h.1), if_pos h1, if_pos h1, if_neg h2, if_neg h3]; grind
      · rw [if_neg (fun h => h1 h.2), if_neg (fun h => h1 h.2), if_neg h1, if_neg h1]; grind
    rw [e, dotS_addl, dotS_addl, dotS_pick, dotS_pick, if_pos m1, if_pos m1, ih]
    unfold netS
    rw [sumN]
    unfold netT
    by_cases h2 : i = T k
    · by_cases h3 : i = F k
      · rw [if_pos h2, if_pos h3, if_pos h2.symm, if_pos h3.symm]; grind
      · rw [if_pos h2, if_neg h3, if_pos h2.symm, if_neg (fun e => h3 e.symm)]; grind
    · by_cases h3 : i = F k
      · rw [if_neg h2, if_pos h3, if_neg (fun e => h2 e.symm), if_pos h3.symm]; grind
      · rw [if_neg h2, if_neg h3, if_neg (fun e => h2 e.symm), if_neg (fun e => h3 e.symm)]; grind
/-- the balances sum to 0 -/
theorem net_all (hF : ∀ k, k < nm → F k < n ∧ T k < n) : sumN (netS F T q x nm) n = 0 := by
  have h := net_sum (x := x) (q := q) hF (fun _ => 1)
  rw [sumN_nil (f := fun k => x (F k) * q k * ((1 : Rat) - 1)) (fun k _ => by grind)] at h
  rw [← h]
  exact sumN_congr fun i _ => by grind
theorem net_last (hF : ∀ k, k < nm → F k < n ∧ T k < n) (hn : 0 < n) (h : ∀ i, i < n → i ≠ n - 1 → netS F T q x nm i = 0) : ∀ i, i < n → netS F T q x nm i = 0 := by
  obtain ⟨m, rfl⟩ : ∃ m, n = m + 1 := ⟨n - 1, by omega⟩
  have h1 := net_all (x := x) (q := q) hF
  rw [sumN, sumN_nil fun i hi => h i (by omega) (by omega)] at h1
  intro i hi
  by_cases e : i = m
  · rw [e]; grind
  · exact h i hi (by omega)
theorem staM_dot (hF : ∀ k, k < nm → F k < n ∧ T k < n) {i : Nat} : dotS (staM F T q nm n i) x n = if i = n - 1 then sumN x n else netS F T q x nm i := by
  by_cases e : i = n - 1
  · have h1 : staM F T q nm n i = fun _ => 1 := by funext j; unfold staM; rw [if_pos e]
    rw [h1, dotS_ones, if_pos e]
  · have h1 : staM F T q nm n i = staK F T q nm i := by funext j; unfold staM; rw [if_neg e]
    rw [h1, dot_sta hF i (Nat.le_refl _), if_neg e]
theorem UnS.rank (h : UnS nm n F T q a) : (gj n (staM F T q nm n) n).2.length = n := by
  have hn := h.lt
  have hF : ∀ k, k < nm → F k < n ∧ T k < n := fun k hk => ⟨(h.mv k hk).1, (h.mv k hk).2.1⟩
  refine rank_full fun x hx => ?_
  have h1 : sumN x n = 0 := by
    have := hx (n - 1) (by omega)
    rw [staM_dot hF, if_pos rfl] at this
    exact this
  exact h.zero (net_last hF (by omega) fun i hi hne => by
    have := hx i hi
    rw [staM_dot hF, if_neg hne] at this
    exact this) h1
/-- the stationary distribution -/
def staX (F T : Nat → Nat) (q : Nat → Rat) (nm n : Nat) : Nat → Rat := fun t => if t < n then (gj n (wide (staM F T q nm n) (fun i => if i = n - 1 then 1 else 0) n) (n + 1)).1 t n else 0
theorem UnS.staX_eq (h : UnS nm n F T q a) : codeS n n (wide (staM F T q nm n) (fun i => if i = n - 1 then 1 else 0) n) = 0 ∧ (∀ i, i < n → netS F T q (staX F T q nm n) nm i = 0) ∧ sumN (staX F T q nm n) n = 1 := by
  have hn := h.lt
  have hF : ∀ k, k < nm → F k < n ∧ T k < n := fun k hk => ⟨(h.mv k hk).1, (h.mv k hk).2.1⟩
  obtain ⟨h1, h2⟩ := solve_full (y := fun i => if i = n - 1 then 1 else 0) h.rank
  have h3 : ∀ i, i < n → dotS (staM F T q nm n i) (staX F T q nm n) n = if i = n - 1 then 1 else 0 := fun i hi => by
    rw [← h2 i hi]
    refine dotS_congr (fun _ _ => rfl) fun t ht => ?_
    unfold staX
    rw [if_pos ht]
  refine ⟨h1, net_last hF (by omega) fun i hi hne => ?_, ?_⟩
  · have := h3 i hi
    rw [staM_dot hF, if_neg hne, if_neg hne] at this
    exact this
  · have := h3 (n - 1) (by omega)
    rw [staM_dot hF, if_pos rfl, if_pos rfl] at this
    exact this
end
end Go.Proofs.YtmebdlilbnadgaaGreatDoor
