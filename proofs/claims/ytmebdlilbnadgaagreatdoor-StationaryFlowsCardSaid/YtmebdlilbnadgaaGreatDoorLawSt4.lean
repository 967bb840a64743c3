/- Contracts of functions and lemmas, used by the proofs of the given statements. No condition beyond those that each lemma names. -/
import Derived.Test.YtmebdlilbnadgaaGreatDoorStaAw
import Derived.Test.YtmebdlilbnadgaaGreatDoorStaZ
import Derived.Test.YtmebdlilbnadgaaGreatDoorJBase
namespace Go.Proofs.YtmebdlilbnadgaaGreatDoor
open Go.RowKit
set_option linter.unusedSimpArgs false
set_option linter.unusedVariables false
set_option maxRecDepth 20000
attribute [local irreducible] nv wp win plainB validR valR canR mvE chkM codeC spr sprN chg cnt cntB ixB kept netS sumN dsum floG staX
/-! ## StationaryRight -/
theorem Brief6.bigS {n : Nat} {R : Nat → Rw} (h : Brief6 n R) : BigS n R := fun k hk => by have := h.2 k hk; omega
theorem brief_fzS {w : World} {b0 n : Nat} {A : Option Addr} {R : Nat → Rw} (h : RowA w b0 A n R) (hb : Brief6 n R) : FzL (n * 6 + 6 + 1) (vecQ n R) :=
  FzL.of_sz (fun s hs => by unfold vecQ; rw [if_pos hs]; have := hb.2 s hs; exact Sz_valR (h.okR' hs) (by omega) this.1 this.2) (fun s hs => by unfold vecQ; rw [if_neg (by omega)]) (by omega)
theorem brief_dist {w : World} {AM AD AV : Option Addr} {cm cd n : Nat} {c : Chn} {R : Nat → Rw} (h : ChI w w.heap.size AM cm AD cd c) (hS : Small c) (hv : RowA w w.heap.size AV n R) (hb : Brief6 n R) : DistS w AM cm AD cd c AV n R :=
  ⟨h, hS.sizP, hv, hb.bigS, by have := hb.1; omega, fun _ => (brief_fzS hv hb).more (by have := hb.1; omega)⟩
end Go.Proofs.YtmebdlilbnadgaaGreatDoor
