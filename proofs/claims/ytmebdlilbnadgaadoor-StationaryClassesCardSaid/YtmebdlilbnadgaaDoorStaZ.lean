/- Contracts of functions and lemmas, used by the proofs of the given statements. No condition beyond those that each lemma names. -/
import Derived.Test.YtmebdlilbnadgaaDoorStaX
import Derived.Test.YtmebdlilbnadgaaDoorStaY
import Derived.Test.YtmebdlilbnadgaaDoorJBase
import Derived.Test.YtmebdlilbnadgaaDoorJLinF
import Derived.Test.YtmebdlilbnadgaaDoorLinX
import Derived.Test.YtmebdlilbnadgaaDoorJLinY
namespace Go.Proofs.YtmebdlilbnadgaaDoor
open Go.RowKit
set_option linter.unusedSimpArgs false
set_option linter.unusedVariables false
set_option maxRecDepth 20000
attribute [local irreducible] nv wp win plainB validR valR canR mvE chkM codeC netS sumN dsum floG
/-! ## law52: brief; faultlinebase: Rows; package stationary: Closed, Accepts -/
/-- an answer: a list of lists and the number of an error -/
def AnsL (z : Int → Value) (m : Nat) (LL : Nat → List Nat) (code : Int) (e : Ending) (w' : World) : Prop := ∃ A c, e = .returned (.tuple #[.slice A m c, z code]) ∧ RwL w' 0 A c m LL
set_option maxHeartbeats 4000000 in
theorem Closed_any {w : World} {AM AD : Option Addr} {cm cd : Nat} {c : Chn} (h : ChI w w.heap.size AM cm AD cd c) (hS : SizP c) :
    Calls Tryd.prog 6 #[cv c.st c.sr AM c.nm cm AD c.nd cd] w fun e w' => AnsL errM (outN' c.code c.ncl) c.clL c.code e w' ∧ Below w.heap.size w w' := by
  have hs := hS.ch
  have hnm := hS.nm
  have K1 := Lib.hid (fun W (hb : Below w.heap.size w W) => chCheck (h.below hb) hs.nm hs.short)
  have HPB := Lib.hid (fun W hb => par_below (W := W) (w := w) (o := .cells #[.int .i64 c.st, .int .i64 c.sr, .slice AM c.nm cm, .slice AD c.nd cd] 25) hb)
  have hW0z : (w.alloc (.cells #[.int .i64 c.st, .int .i64 c.sr, .slice AM c.nm cm, .slice AD c.nd cd] 25)).heap.size = w.heap.size + 1 := by simp
  by_cases h0 : c.code = 0
  · have ok := Chn.ok_iff.1 h0
    have K2 := Lib.hid (fun W (hb : Below w.heap.size w W) => closed_any (h.below hb) ok (by omega))
    rw [h0, errM_0] at K1
    rw [h0, outS_0]
    obtain ⟨LL, hLL⟩ : ∃ LL, LL = c.clL := ⟨_, rfl⟩
    obtain ⟨n9, hn9⟩ : ∃ n9, n9 = c.ncl := ⟨_, rfl⟩
    rw [← hLL, ← hn9] at K2 ⊢
    clear h hs ok h0 hLL hn9 hS hnm
    go_enter Tryd.func6, Tryd.ntmps6
    (go_wp2_with fail; (with_reducible refine (K1.out _ (by (skip); repeat' (first | (with_reducible exact Below.refl _ _) | (with_reducible assumption) | (with_reducible refine Below.alloc ?_ ?_ _) | (with_reducible refine Below.drew ?_) | (with_reducible refine below_drewN ?_ _) | (with_reducible refine Below.setCell ?_ ?_ _) | (with_reducible refine Below.trans ?_ (Below.mono (by with_reducible assumption) ?_)) | omega | (simp only [ZA, ZS, ZD, ZN]; omega) | go_size))).mono ?_); rintro e w1 ⟨rfl, hb1⟩; have hb1z := Below.size hb1; (try simp only [ZA, ZS, ZD, ZN] at hb1z); have hb1c0 := fun o => below_at hb1 (w.heap.size) o (by first | omega | (simp only [ZA, ZS, ZD, ZN]; omega)); have hb1f0 := fun o => below_fr hb1 (w.heap.size) o (by first | omega | (simp only [ZA, ZS, ZD, ZN]; omega)))
    have hB1 := HPB.out w1 (by rw [← hW0z]; exact hb1)
    (go_wp2_with fail; (with_reducible refine (K2.out _ hB1).mono ?_); rintro e w2 ⟨⟨A1, c1, rfl, own1⟩, hb2⟩; have hb2z := Below.size hb2; (try simp only [ZA, ZS, ZD, ZN] at hb2z))
    go_wp2
    go_ret2
    exact ⟨⟨_, _, by rw [errM_0]; rfl, RwO.base own1 (Nat.zero_le _)⟩, hB1.trans (hb2.mono hB1.size)⟩
  · have hm : outN' c.code c.ncl = 0 := by unfold outN'; rw [if_neg h0]
    rw [hm]
    have HE := Lib.hid (errM_n h0)
    rw [errM_n h0] at K1
    obtain ⟨LL, hLL⟩ : ∃ LL, LL = c.clL := ⟨_, rfl⟩
    obtain ⟨cc, hcc⟩ : ∃ cc, cc = c.code := ⟨_, rfl⟩
    rw [← hcc] at K1 HE ⊢
    rw [← hLL]
    clear h hs hm hLL hcc h0 hS hnm
    go_enter Tryd.func6, Tryd.ntmps6
    (go_wp2_with fail; (with_reducible refine (K1.out _ (by (skip); repeat' (first | (with_reducible exact Below.refl _ _) | (with_reducible assumption) | (with_reducible refine Below.alloc ?_ ?_ _) | (with_reducible refine Below.drew ?_) | (with_reducible refine below_drewN ?_ _) | (with_reducible refine Below.setCell ?_ ?_ _) | (with_reducible refine Below.trans ?_ (Below.mono (by with_reducible assumption) ?_)) | omega | (simp only [ZA, ZS, ZD, ZN]; omega) | go_size))).mono ?_); rintro e w1 ⟨rfl, hb1⟩; have hb1z := Below.size hb1; (try simp only [ZA, ZS, ZD, ZN] at hb1z); have hb1c0 := fun o => below_at hb1 (w.heap.size) o (by first | omega | (simp only [ZA, ZS, ZD, ZN]; omega)); have hb1f0 := fun o => below_fr hb1 (w.heap.size) o (by first | omega | (simp only [ZA, ZS, ZD, ZN]; omega)))
    have hB1 := HPB.out w1 (by rw [← hW0z]; exact hb1)
    go_wp2
    go_ret2
    exact ⟨⟨_, _, by rw [HE.out]; rfl, RwO.nil_ _ _ _⟩, hB1⟩
end Go.Proofs.YtmebdlilbnadgaaDoor
