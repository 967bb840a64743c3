/- Contracts of functions and lemmas, used by the proofs of the given statements. No condition beyond those that each lemma names. -/
import Derived.Test.YtlncafhgmbhocaaGreatDoorJTrAw
import Derived.Test.YtlncafhgmbhocaaGreatDoorJOpenNum
import Derived.Test.YtlncafhgmbhocaaGreatDoorJBase
import Derived.Test.YtlncafhgmbhocaaGreatDoorJTrR1
import Derived.Test.YtlncafhgmbhocaaGreatDoorJTrZ
import Derived.Test.YtlncafhgmbhocaaGreatDoorJAbQ
import Derived.Test.YtlncafhgmbhocaaGreatDoorLinMk
namespace Go.Proofs.YtlncafhgmbhocaaGreatDoor
open Go.RowKit
set_option linter.unusedSimpArgs false
set_option linter.unusedVariables false
set_option maxRecDepth 20000
attribute [local irreducible] nv wp win plainB validR valR canR mvE chkM codeC exK maxF dsum
/-! ## what the functions give, whatever the number of the error -/
section
variable {w' : World} {b0 base n : Nat} {x : Nat → Rat} {q : Rat} {code : Int} {e : Ending}
end
/-- one fraction as a list -/
theorem RowA.one {W : World} {b0 g : Nat} {s : Bool} {A B : Option Addr} {n c m d : Nat} {r : Rw} (hr : RdS W b0 (rv s A n c B m d) r) (hg : g < W.heap.size) (h0 : W.cell? ⟨g, 0, none⟩ = some (.bool s)) (h1 : W.cell? ⟨g, 1, none⟩ = some (.slice A n c)) (h2 : W.cell? ⟨g, 2, none⟩ = some (.slice B m d)) : RowA W b0 (some ⟨g, 0, none⟩) 1 (fun _ => r) := by
  refine ⟨fun _ => rv s A n c B m d, fun _ _ => hr, rfl, fun _ => ⟨g, 0, rfl, hg, fun j u hu => ?_⟩⟩
  rw [Nat.zero_add]
  match j, hu with
  | 0, hu => simp [cellsV, c3] at hu; subst hu; exact h0
  | 1, hu => simp [cellsV, c3] at hu; subst hu; exact h1
  | 2, hu => simp [cellsV, c3] at hu; subst hu; exact h2
  | j + 3, hu => simp [cellsV, c3] at hu
end Go.Proofs.YtlncafhgmbhocaaGreatDoor
namespace Go.Proofs.YtlncafhgmbhocaaGreatDoor
open Go.RowKit
set_option linter.unusedSimpArgs false
set_option linter.unusedVariables false
set_option maxRecDepth 20000
attribute [local irreducible] nv wp win plainB validR valR canR mvE chkM codeC exK maxF dsum
/-! ## TransientSteps -/
theorem Small.fastS {c : Chn} (h : Small c) (ok : c.Ok) : Sz 400 c.fast := maxF_sz fun j _ => (h.siz ok).ex j c.nm (Nat.le_refl _)
end Go.Proofs.YtlncafhgmbhocaaGreatDoor
namespace Go.Proofs.YtlncafhgmbhocaaGreatDoor
set_option linter.unusedSimpArgs false
set_option linter.unusedVariables false
/-! ## how great the numbers are (plain) -/
section
variable {nm n P L : Nat} {q : Nat → Rat} {F T : Nat → Nat} {l : Nat → Bool} {back : Bool} {v : Nat → Rat}
theorem wp2b : 240 * 4294967296 < wp 2 := by decide +kernel
end
section
variable {c : Chn}
end
end Go.Proofs.YtlncafhgmbhocaaGreatDoor
namespace Go.Proofs.YtlncafhgmbhocaaGreatDoor
set_option linter.unusedSimpArgs false
set_option linter.unusedVariables false
/-! ## the stationary distribution of a chain; how great its numbers are (plain) -/
section
variable {nm n P : Nat} {q : Nat → Rat} {F T : Nat → Nat}
end
section
variable {c : Chn}
theorem Chn.mvA (ok : c.Ok) : ∀ k, k < c.nm → c.f k < c.nd ∧ c.t k < c.nd ∧ c.f k ≠ c.t k ∧ 0 < c.q k := fun k hk => by
  have h1 := Chn.ftA ok k hk
  exact ⟨h1.1, h1.2.1, h1.2.2, (ok.mv k hk).2.2.2.2.2.1⟩
end
end Go.Proofs.YtlncafhgmbhocaaGreatDoor
namespace Go.Proofs.YtlncafhgmbhocaaGreatDoor
set_option linter.unusedSimpArgs false
set_option linter.unusedVariables false
/-! ## the stationary distribution stays (plain) -/
section
variable {F T : Nat → Nat} {q x : Nat → Rat} {nm n a : Nat} {r : Rat}
theorem stp_net {s : Nat} : ∀ {k : Nat}, (∀ j, j < k → F j ≠ T j) → stp (fun _ => true) F T x (shr F q r x) k s = x s + netS F T q x k s / r
  | 0, _ => by
    show x s = x s + (0 : Rat) / r
    grind
  | k + 1, h => by
    have ih := fun s => stp_net (s := s) (k := k) fun j hj => h j (by omega)
    have hne := h k (by omega)
    have e : netS F T q x (k + 1) s = netS F T q x k s + netT F T q x s k := rfl
    have hsh : shr F q r x k = x (F k) * q k / r := rfl
    rw [stp_yes rfl hne, e, hsh]
    generalize stp (fun _ => true) F T x (shr F q r x) k = u at *
    unfold upd netT
    by_cases h1 : s = T k
    · have h2 : ¬ F k = s := fun e => hne (e.trans h1)
      simp only [if_pos h1, if_pos h1.symm, if_neg h2]
      rw [← h1, ih]
      grind
    · have h1' : ¬ T k = s := fun e => h1 e.symm
      by_cases h2 : s = F k
      · simp only [if_neg h1, if_neg h1', if_pos h2, if_pos h2.symm]
        rw [← h2, ih]
        grind
      · have h2' : ¬ F k = s := fun e => h2 e.symm
        simp only [if_neg h1, if_neg h1', if_neg h2, if_neg h2']
        rw [ih]
        grind
end
end Go.Proofs.YtlncafhgmbhocaaGreatDoor
namespace Go.Proofs.YtlncafhgmbhocaaGreatDoor
set_option linter.unusedSimpArgs false
set_option linter.unusedVariables false
/-! ## the blocks' probabilities move as the quotient's (plain) -/
/-- what lies in a block -/
def psh (P : Nat → Nat) (n : Nat) (v : Nat → Rat) (b : Nat) : Rat := sumN (fun s => if P s = b then v s else 0) n
section
variable {F T : Nat → Nat} {q v : Nat → Rat} {nm n m : Nat} {P : Nat → Nat} {r : Rat}
/-- the net flow into a block of the quotient -/
theorem qu_net (W : Nat → Rat) {b : Nat} (hb : b < m) : netS (quF F T q nm n P m) (quT F T q nm n P m) (quQ F T q nm n P m) W (quN F T q nm n P m) b
    = sumN (fun a => if a ≠ b then W a * rateB F T q nm n P a b else 0) m - sumN (fun d => if b ≠ d then W b * rateB F T q nm n P b d else 0) m := by
  have h1 := movB_sum (F := F) (T := T) (q := q) (nm := nm) (n := n) (p := P) m (fun a d => (if d = b then W a * rateB F T q nm n P a d else 0) - (if a = b then W a * rateB F T q nm n P a d else 0))
  rw [← sumN_list _ (0, 0)] at h1
  have h2 : netS (quF F T q nm n P m) (quT F T q nm n P m) (quQ F T q nm n P m) W (quN F T q nm n P m) b = sumN (fun k => (fun e : Nat × Nat => (if e.2 = b then W e.1 * rateB F T q nm n P e.1 e.2 else 0) - (if e.1 = b then W e.1 * rateB F T q nm n P e.1 e.2 else 0)) ((movB F T q nm n P m).getD k (0, 0))) (movB F T q nm n P m).length := rfl
  rw [h2, h1]
  have h3 : ∀ a, a < m → sumN (fun d => if a ≠ d ∧ rateB F T q nm n P a d ≠ 0 then (if d = b then W a * rateB F T q nm n P a d else 0) - (if a = b then W a * rateB F T q nm n P a d else 0) else 0) m = (if a ≠ b then W a * rateB F T q nm n P a b else 0) - (if a = b then sumN (fun d => if b ≠ d then W b * rateB F T q nm n P b d else 0) m else 0) := fun a ha => by
    have h4 : ∀ d, (if a ≠ d ∧ rateB F T q nm n P a d ≠ 0 then (if d = b then W a * rateB F T q nm n P a d else 0) - (if a = b then W a * rateB F T q nm n P a d else 0) else 0) = (if d = b then (if a ≠ b then W a * rateB F T q nm n P a b else 0) else 0) - (if a = b then (if b ≠ d then W b * rateB F T q nm n P b d else 0) else 0) := fun d => by
      by_cases g1 : a = d
      · rw [if_neg fun h => h.1 g1]
        by_cases g2 : d = b
        · have g3 : a = b := g1.trans g2
          rw [if_pos g2, if_neg (fun h => h g3), if_pos g3, if_neg (fun h => h g2.symm)]
          grind
        · have g3 : ¬ a = b := fun e => g2 (g1 ▸ e)
          rw [if_neg g2, if_neg g3]
          grind
      · by_cases g4 : rateB F T q nm n P a d = 0
        · rw [if_neg fun h => h.2 g4]
          by_cases g2 : d = b
          · have g3 : ¬ a = b := fun e => g1 (e.trans g2.symm)
            rw [if_pos g2, if_pos g3, if_neg g3, ← g2, g4]
            grind
          · rw [if_neg g2]
            by_cases g3 : a = b
            · rw [if_pos g3, if_pos (fun e => g2 e.symm), ← g3, g4]
              grind
            · rw [if_neg g3]
              grind
        · rw [if_pos ⟨g1, g4⟩]
          by_cases g2 : d = b
          · have g3 : ¬ a = b := fun e => g1 (e.trans g2.symm)
            rw [if_pos g2, if_pos g2, if_pos g3, if_neg g3, if_neg g3, g2]
          · rw [if_neg g2, if_neg g2]
            by_cases g3 : a = b
            · rw [if_pos g3, if_pos g3, if_pos (fun e => g2 e.symm), g3]
            · rw [if_neg g3, if_neg g3]
    rw [sumN_congr fun d _ => h4 d, sumN_sub, sumN_pick, if_pos hb]
    by_cases g : a = b
    · rw [if_pos g]
      congr 1
      exact sumN_congr fun d _ => by rw [if_pos g]
    · rw [if_neg g, sumN_nil fun d _ => by rw [if_neg g]]
  rw [sumN_congr fun a ha => h3 a ha, sumN_sub, sumN_pick, if_pos hb]
/-- the flow into a block, state by state -/
theorem psh_net (hF : ∀ k, k < nm → F k < n ∧ T k < n) (b : Nat) : sumN (fun s => if P s = b then netS F T q v nm s else 0) n = sumN (fun s => v s * (intoQ F T q nm P s b - (if P s = b then sumN (fun k => if F k = s then q k else 0) nm else 0))) n := by
  have h1 := net_sum (x := v) (q := q) hF (fun s => if P s = b then 1 else 0)
  have h2 : sumN (fun s => if P s = b then netS F T q v nm s else 0) n = sumN (fun i => (if P i = b then 1 else 0) * netS F T q v nm i) n := sumN_congr fun s _ => by split <;> grind
  rw [h2, h1]
  have h3 : sumN (fun s => v s * (intoQ F T q nm P s b - (if P s = b then sumN (fun k => if F k = s then q k else 0) nm else 0))) n = sumN (fun s => sumN (fun k => v s * ((if F k = s ∧ P (T k) = b then q k else 0) - (if P s = b then (if F k = s then q k else 0) else 0))) nm) n := sumN_congr fun s _ => by
    rw [sumN_smul]
    unfold intoQ
    rw [sumN_sub]
    congr 2
    by_cases g : P s = b
    · rw [if_pos g]; exact sumN_congr fun k _ => by rw [if_pos g]
    · rw [if_neg g]; exact (sumN_nil fun k _ => by rw [if_neg g]).symm
  rw [h3, sumN_swap]
  refine sumN_congr fun k hk => ?_
  have h4 : sumN (fun s => v s * ((if F k = s ∧ P (T k) = b then q k else 0) - (if P s = b then (if F k = s then q k else 0) else 0))) n = sumN (fun s => if s = F k then v (F k) * ((if P (T k) = b then q k else 0) - (if P (F k) = b then q k else 0)) else 0) n := sumN_congr fun s _ => by
    by_cases g : s = F k
    · subst g
      rw [if_pos rfl]
      by_cases g1 : P (T k) = b <;> by_cases g2 : P (F k) = b <;> simp [g1, g2]
    · have g' : ¬ F k = s := fun e => g e.symm
      rw [if_neg g, if_neg fun h => g' h.1, if_neg g']
      split <;> grind
  rw [h4, sumN_pick, if_pos (hF k hk).1]
  by_cases g1 : P (T k) = b <;> by_cases g2 : P (F k) = b <;> simp [g1, g2] <;> grind
end
end Go.Proofs.YtlncafhgmbhocaaGreatDoor
namespace Go.Proofs.YtlncafhgmbhocaaGreatDoor
set_option linter.unusedSimpArgs false
set_option linter.unusedVariables false
/-! ## steps of a chain and of its quotient (plain) -/
section
variable {F T : Nat → Nat} {q v : Nat → Rat} {nm n : Nat} {P : Nat → Nat} {r : Rat}
/-- sums by blocks -/
theorem psh_sum {m : Nat} (hP : ∀ s, s < n → P s < m) (G : Nat → Rat) : sumN (fun s => v s * G (P s)) n = sumN (fun a => psh P n v a * G a) m := by
  have e : sumN (fun a => psh P n v a * G a) m = sumN (fun a => sumN (fun s => G a * (if P s = a then v s else 0)) n) m := sumN_congr fun a _ => by
    rw [sumN_smul]
    unfold psh
    exact Rat.mul_comm _ _
  rw [e, sumN_swap]
  refine sumN_congr fun s hs => ?_
  have e2 : sumN (fun a => G a * (if P s = a then v s else 0)) m = sumN (fun a => if a = P s then G a * v s else 0) m := sumN_congr fun a _ => by
    by_cases h : a = P s
    · rw [if_pos h, if_pos h.symm]
    · rw [if_neg h, if_neg fun e => h e.symm]; grind
  rw [e2, sumN_pick, if_pos (hP s hs)]
  exact Rat.mul_comm _ _
theorem exit_into (hT : ∀ k, k < nm → T k < n) {m : Nat} (hP : ∀ s, s < n → P s < m) (s : Nat) : sumN (fun k => if F k = s then q k else 0) nm = sumN (fun d => intoQ F T q nm P s d) m := by
  unfold intoQ
  rw [sumN_swap]
  refine sumN_congr fun k hk => ?_
  have e : sumN (fun d => if F k = s ∧ P (T k) = d then q k else 0) m = sumN (fun d => if d = P (T k) then (if F k = s then q k else 0) else 0) m := sumN_congr fun d _ => by
    by_cases h : d = P (T k)
    · rw [if_pos h]
      by_cases g : F k = s
      · rw [if_pos g, if_pos ⟨g, h.symm⟩]
      · rw [if_neg g, if_neg fun e => g e.1]
    · rw [if_neg h, if_neg fun e => h e.2.symm]
  rw [e, sumN_pick, if_pos (hP _ (hT k hk))]
/-- the blocks' net flow is the quotient's -/
theorem psh_qu (hF : ∀ k, k < nm → F k < n ∧ T k < n) (hp : ∀ i, nrm (relP P) i = P i) (hs : StaB F T q nm n P) {b : Nat} (hb : b < blks n P) :
    sumN (fun s => if P s = b then netS F T q v nm s else 0) n = netS (quF F T q nm n P (blks n P)) (quT F T q nm n P (blks n P)) (quQ F T q nm n P (blks n P)) (psh P n v) (quN F T q nm n P (blks n P)) b := by
  have hPm : ∀ s, s < n → P s < blks n P := fun s hsn => blk_lt (n := n) hp hsn
  have hmn : blks n P ≤ n := blks_le
  rw [psh_net hF, qu_net _ hb]
  have h1 : sumN (fun s => v s * (intoQ F T q nm P s b - (if P s = b then sumN (fun k => if F k = s then q k else 0) nm else 0))) n = sumN (fun s => v s * (fun a => (if a ≠ b then rateB F T q nm n P a b else 0) - (if a = b then sumN (fun d => if b ≠ d then rateB F T q nm n P b d else 0) (blks n P) else 0)) (P s)) n := sumN_congr fun s hsn => by
    by_cases g : P s = b
    · have h2 : intoQ F T q nm P s b - sumN (fun k => if F k = s then q k else 0) nm = 0 - sumN (fun d => if b ≠ d then rateB F T q nm n P b d else 0) (blks n P) := by
        rw [exit_into (fun k hk => (hF k hk).2) hPm s]
        have h3 : sumN (fun d => intoQ F T q nm P s d) (blks n P) = sumN (fun d => (if d = b then intoQ F T q nm P s d else 0) + (if b ≠ d then rateB F T q nm n P b d else 0)) (blks n P) := sumN_congr fun d hd => by
          by_cases h4 : d = b
          · rw [if_pos h4, if_neg fun h => h h4.symm]; grind
          · rw [if_neg h4, if_pos fun e => h4 e.symm]
            have := rate_of hs (blk_first hp) hsn (hPm s hsn) (by omega) (b := d) (by rw [g]; exact h4)
            rw [g] at this
            rw [this]; grind
        rw [h3, sumN_add, sumN_pick, if_pos hb]
        grind
      show _ = v s * ((if P s ≠ b then _ else _) - (if P s = b then _ else _))
      rw [if_pos g, if_neg (fun h => h g), if_pos g, h2]
    · show _ = v s * ((if P s ≠ b then rateB F T q nm n P (P s) b else _) - (if P s = b then _ else _))
      rw [if_neg g, if_pos g, if_neg g, rate_of hs (blk_first hp) hsn (hPm s hsn) (by omega) (fun e => g e.symm)]
  rw [h1]
  refine (psh_sum (v := v) hPm (fun a => (if a ≠ b then rateB F T q nm n P a b else 0) - (if a = b then sumN (fun d => if b ≠ d then rateB F T q nm n P b d else 0) (blks n P) else 0))).trans ?_
  have h5 : sumN (fun d => if b ≠ d then psh P n v b * rateB F T q nm n P b d else 0) (blks n P) = psh P n v b * sumN (fun d => if b ≠ d then rateB F T q nm n P b d else 0) (blks n P) := by
    rw [← sumN_smul]
    exact sumN_congr fun d _ => by split <;> grind
  rw [h5]
  have h6 : sumN (fun a => psh P n v a * ((if a ≠ b then rateB F T q nm n P a b else 0) - (if a = b then sumN (fun d => if b ≠ d then rateB F T q nm n P b d else 0) (blks n P) else 0))) (blks n P) = sumN (fun a => (if a ≠ b then psh P n v a * rateB F T q nm n P a b else 0) - (if a = b then psh P n v b * sumN (fun d => if b ≠ d then rateB F T q nm n P b d else 0) (blks n P) else 0)) (blks n P) := sumN_congr fun a _ => by
    by_cases g : a = b
    · rw [if_neg (fun h => h g), if_pos g, if_neg (fun h => h g), if_pos g, g]; grind
    · rw [if_pos g, if_neg g, if_pos g, if_neg g]; grind
  rw [h6, sumN_sub, sumN_pick, if_pos hb]
theorem qu_ne {m k : Nat} (hk : k < quN F T q nm n P m) : quF F T q nm n P m k < m ∧ quT F T q nm n P m k < m ∧ quF F T q nm n P m k ≠ quT F T q nm n P m k ∧ quQ F T q nm n P m k ≠ 0 := by
  have h1 : (movB F T q nm n P m).getD k (0, 0) ∈ movB F T q nm n P m := by
    unfold quN at hk
    rw [List.getD_eq_getElem?_getD, List.getElem?_eq_getElem hk]
    exact List.getElem_mem hk
  exact movB_mem.1 h1
/-- a step of the chain is one of the quotient -/
theorem psh_step (hm : ∀ k, k < nm → F k < n ∧ T k < n ∧ F k ≠ T k) (hp : ∀ i, nrm (relP P) i = P i) (hs : StaB F T q nm n P) {b : Nat} (hb : b < blks n P) :
    psh P n (stepV (fun _ => true) F T q r nm v) b = stepV (fun _ => true) (quF F T q nm n P (blks n P)) (quT F T q nm n P (blks n P)) (quQ F T q nm n P (blks n P)) r (quN F T q nm n P (blks n P)) (psh P n v) b := by
  have h1 : ∀ s, stepV (fun _ => true) F T q r nm v s = v s + netS F T q v nm s / r := fun s => stp_net fun j hj => (hm j hj).2.2
  have h2 : stepV (fun _ => true) (quF F T q nm n P (blks n P)) (quT F T q nm n P (blks n P)) (quQ F T q nm n P (blks n P)) r (quN F T q nm n P (blks n P)) (psh P n v) b = psh P n v b + netS (quF F T q nm n P (blks n P)) (quT F T q nm n P (blks n P)) (quQ F T q nm n P (blks n P)) (psh P n v) (quN F T q nm n P (blks n P)) b / r := stp_net fun j hj => (qu_ne hj).2.2.1
  rw [h2, ← psh_qu (fun k hk => ⟨(hm k hk).1, (hm k hk).2.1⟩) hp hs hb]
  have h3 : psh P n (stepV (fun _ => true) F T q r nm v) b = sumN (fun s => (if P s = b then v s else 0) + (1 / r) * (if P s = b then netS F T q v nm s else 0)) n := sumN_congr fun s _ => by
    rw [h1]
    split <;> grind
  rw [h3, sumN_add, sumN_smul]
  unfold psh
  grind
/-- only the blocks themselves matter to a step -/
theorem step_upto {F T : Nat → Nat} {q x y : Nat → Rat} {nm m : Nat} (hm : ∀ k, k < nm → F k < m ∧ T k < m ∧ F k ≠ T k) (e : ∀ s, s < m → x s = y s) : ∀ s, s < m → stepV (fun _ => true) F T q r nm x s = stepV (fun _ => true) F T q r nm y s := fun s hs => by
  have h1 : ∀ z : Nat → Rat, stepV (fun _ => true) F T q r nm z s = z s + netS F T q z nm s / r := fun z => stp_net fun j hj => (hm j hj).2.2
  rw [h1, h1, e s hs]
  have : netS F T q x nm s = netS F T q y nm s := sumN_congr fun k hk => by
    unfold netT
    rw [e _ (hm k hk).1]
  rw [this]
/-- any number of steps -/
theorem psh_run (hm : ∀ k, k < nm → F k < n ∧ T k < n ∧ F k ≠ T k) (hp : ∀ i, nrm (relP P) i = P i) (hs : StaB F T q nm n P) {v0 w0 : Nat → Rat} (h0 : ∀ b, b < blks n P → psh P n v0 b = w0 b) : ∀ k b, b < blks n P →
    psh P n (runV (fun _ => true) F T q r nm v0 k) b = runV (fun _ => true) (quF F T q nm n P (blks n P)) (quT F T q nm n P (blks n P)) (quQ F T q nm n P (blks n P)) r (quN F T q nm n P (blks n P)) w0 k b
  | 0, b, hb => h0 b hb
  | k + 1, b, hb => by
    rw [runV, runV, psh_step hm hp hs hb]
    exact step_upto (fun j hj => ⟨(qu_ne hj).1, (qu_ne hj).2.1, (qu_ne hj).2.2.1⟩) (fun s hsb => psh_run hm hp hs h0 k s hsb) b hb
end
end Go.Proofs.YtlncafhgmbhocaaGreatDoor
