/- Contracts of functions and lemmas, used by the proofs of the given statements. No condition beyond those that each lemma names. -/
import Derived.Test.YtlncafhgmbhocaaGreatDoorLmQ6
import Derived.Test.YtlncafhgmbhocaaGreatDoorJMcP
import Derived.Test.YtlncafhgmbhocaaGreatDoorJLmW5
import Derived.Test.YtlncafhgmbhocaaGreatDoorLmR1
namespace Go.Proofs.YtlncafhgmbhocaaGreatDoor
open Go.RowKit
set_option linter.unusedSimpArgs false
set_option linter.unusedVariables false
set_option maxRecDepth 20000
attribute [local irreducible] nv wp win plainB validR valR canR mvE chkM codeC smK alk badP nrm eqN eqZ blks firS isF cntB ixB kept dnK movP movB rateB
/-! ## Quotient whatever the partition; the reference's at a partition that has none -/
theorem lQuotient_any {w : World} {AM AD AV : Option Addr} {cm cd n ca : Nat} {c : Chn} {P : Nat → Int} (h : ChI w w.heap.size AM cm AD cd c) (hs : ChS c 400) (hv : PaI w AV n P) (hn : n ≤ 1000)
    (hsz : c.Ok → ∀ p k, k ≤ c.nm → ∀ i j, Sz 400 (smK c.f c.t c.q p k i j)) :
    Calls Tryz.prog 12 #[cv c.st c.sr AM c.nm cm AD c.nd cd, .slice AV n ca] w fun e w' => AnsC errM (c.codeQ n P) (c.quoE n P) e w' ∧ Below w.heap.size w w' := by
  by_cases h0 : c.codeL n P = 0
  · by_cases hst : StaB c.f c.t c.q c.nm c.nd (prt P)
    · obtain ⟨-, hnn, -⟩ := Chn.codeL_0 h0
      subst hnn
      exact lQuo_ok h hs hv hsz h0 hst
    · exact lQuo_uns h hs hv hn hsz h0 hst
  · exact lQuo_err h hs hv hn hsz h0
/-! ### what the reference's walk needs -/
end Go.Proofs.YtlncafhgmbhocaaGreatDoor
