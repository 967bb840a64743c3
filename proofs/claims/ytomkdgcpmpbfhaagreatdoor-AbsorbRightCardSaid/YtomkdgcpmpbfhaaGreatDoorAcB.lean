/- Contracts of functions and lemmas, used by the proofs of the given statements. No condition beyond those that each lemma names. -/
import Derived.Test.YtomkdgcpmpbfhaaGreatDoorTrL2
import Derived.Test.YtomkdgcpmpbfhaaGreatDoorAbRb
import Derived.Test.YtomkdgcpmpbfhaaGreatDoorJAbZ
namespace Go.Proofs.YtomkdgcpmpbfhaaGreatDoor
open Go.RowKit
set_option linter.unusedSimpArgs false
set_option linter.unusedVariables false
set_option maxRecDepth 20000
attribute [local irreducible] nv wp win plainB validR valR canR mvE chkM codeC exK spr sprN chg cnt cntB ixB kept sysK
/-! ## law54: brief, valid -/
/-- few, short numbers -/
def Brief6 (n : Nat) (R : Nat → Rw) : Prop := n ≤ 300 ∧ ∀ k, k < n → (R k).2.1.length ≤ 6 ∧ (R k).2.2.length ≤ 6
set_option maxHeartbeats 4000000 in
theorem brief6_any {w : World} {b0 n c : Nat} {A : Option Addr} {R : Nat → Rw} (h : RowA w b0 A n R) :
    Calls Tryz.prog 20 #[.slice A n c] w fun e w' => RetB (Brief6 n R) e ∧ Below w.heap.size w w' := by
  have HA := Lib.hid h
  clear h
  by_cases h3 : 300 < n
  · have e1 : decide ((300 : Int) < (n : Int)) = true := by simp; omega
    go_enter Tryz.func20, Tryz.ntmps20
    go_wp2
    go_ret
    exact ⟨retB_f, Below.refl _ _⟩
  · have e1 : decide ((300 : Int) < (n : Int)) = false := by simp; omega
    have hn : n ≤ 300 := by omega
    clear h3
    go_enter Tryz.func20, Tryz.ntmps20
    go_wp2
    go_loopw [10] (fun i wr => ∃ k : Nat, k ≤ n ∧ i = .int .i64 (k : Int) ∧ (∀ j, j < k → (R j).2.1.length ≤ 6 ∧ (R j).2.2.length ≤ 6) ∧ Below w.heap.size w wr) (fun i _ => n - (intOf i).toNat)
    case atStart => exact ⟨0, Nat.zero_le _, rfl, fun j hj => by omega, Below.refl _ _⟩
    case round =>
      obtain ⟨k, hk, rfl, hv, hb⟩ := hrel
      have HV := Lib.hid hv
      clear hv
      by_cases hlt : k < n
      · obtain ⟨b, off, s1, A1, n1, c1, B1, m1, d1, rfl, hbb, f0, f1, f2, r1⟩ := HA.out.at_ hlt
        obtain ⟨l1, l2, -, -, -⟩ := r1.lens'
        have x0 := (hb.cell (lt_of_cell f0)).trans f0
        have x1 := (hb.cell (lt_of_cell f1)).trans f1
        have x2 := (hb.cell (lt_of_cell f2)).trans f2
        have hk0 : (0 : Int) ≤ (k : Int) := by omega
        have hki : (k : Int) < (n : Int) := by omega
        have HL1 := Lib.hid l1
        have HL2 := Lib.hid l2
        have hb9 : ∀ o, Below w.heap.size w (wr.alloc o) := fun o => hb.trans ((Below.refl _ _).alloc hb.size o)
        clear f0 f1 f2 r1 l1 l2
        by_cases hn1 : 6 < n1
        · have e2 : decide ((6 : Int) < (n1 : Int)) = true := by simp; omega
          go_wp2
          go_ret
          exact ⟨retB_f, hb9 _⟩
        · have e2 : decide ((6 : Int) < (n1 : Int)) = false := by simp; omega
          by_cases hn2 : 6 < m1
          · have e3 : decide ((6 : Int) < (m1 : Int)) = true := by simp; omega
            go_wp2
            go_ret
            exact ⟨retB_f, hb9 _⟩
          · have e3 : decide ((6 : Int) < (m1 : Int)) = false := by simp; omega
            go_wp2
            go_roundw
            case rel =>
              refine ⟨k + 1, by omega, by go_num, fun j hj => ?_, hb9 _⟩
              by_cases e : j = k
              · rw [e, HL1.out, HL2.out]; omega
              · exact HV.out j (by omega)
            case measure => simp [intOf]; omega
      · have hkn : k = n := by omega
        subst hkn
        go_wp2
        go_ret
        exact ⟨retB_t ⟨hn, HV.out⟩, hb⟩
set_option maxHeartbeats 2000000 in
theorem valid54_any {w : World} {AM AD : Option Addr} {cm cd : Nat} {c : Chn} (h : ChI w w.heap.size AM cm AD cd c) :
    Calls Tryz.prog 23 #[cv c.st c.sr AM c.nm cm AD c.nd cd] w fun e w' => RetB (FewP c ∧ c.codeA = 0) e ∧ Below w.heap.size w w' := by
  have KF := Lib.hid (fun W (hb : Below w.heap.size w W) => few_any (h.below hb))
  have KE := Lib.hid (fun W (hb : Below w.heap.size w W) (hf : FewP c) => rerror_any (h.below hb) (hf.small h).chS)
  have hbA : Below w.heap.size w (w.alloc (.cells #[.int .i64 c.st, .int .i64 c.sr, .slice AM c.nm cm, .slice AD c.nd cd] 25)) := (Below.refl _ _).alloc (Nat.le_refl _) _
  have HBA := Lib.hid hbA
  have hD : ∀ ca : Int, decide (ca = 0) = true → ca = 0 := fun ca h => of_decide_eq_true h
  clear h hbA
  go_enter Tryz.func23, Tryz.ntmps23
  (go_wp2_with fail; (with_reducible refine (KF.out _ HBA.out).mono ?_); rintro e w1 ⟨⟨bb, rfl, hbb⟩, hb1⟩; have hb1z := Below.size hb1; (try simp only [World.size_alloc, World.size_setCell, World.size_drew, size_drewN'] at hb1z); have hb1c0 := fun o => below_at hb1 (w.heap.size) o (by first | omega | (simp only [World.size_alloc, World.size_setCell, World.size_drew, size_drewN']; omega)); have hb1f0 := fun o => below_fr hb1 (w.heap.size) o (by first | omega | (simp only [World.size_alloc, World.size_setCell, World.size_drew, size_drewN']; omega)))
  have hB1 : Below w.heap.size w w1 := HBA.out.trans (hb1.mono (by simp))
  cases bb with
  | false =>
    clear hbb
    go_wp2
    go_ret
    exact ⟨retB_f, hB1⟩
  | true =>
    have HF := Lib.hid (hbb rfl)
    clear hbb
    have KE2 := Lib.hid (fun W hb => KE.out W hb HF.out)
    obtain ⟨ca, hca⟩ : ∃ ca, ca = c.codeA := ⟨_, rfl⟩
    rw [← hca] at KE2
    have HCA := Lib.hid hca
    clear hca KE
    by_cases h0 : ca = 0
    · subst h0
      (go_wp2_with fail; (with_reducible refine (KE2.out _ hB1).mono ?_); rintro e w2 ⟨rfl, hb2⟩; have hb2z := Below.size hb2; (try simp only [World.size_alloc, World.size_setCell, World.size_drew, size_drewN'] at hb2z))
      go_wp2
      go_ret
      exact ⟨retB_t ⟨HF.out, HCA.out.symm⟩, hB1.trans (hb2.mono hB1.size)⟩
    · have e1 : (ca == 0) = false := by simpa using h0
      (go_wp2_with fail; (with_reducible refine (KE2.out _ hB1).mono ?_); rintro e w2 ⟨rfl, hb2⟩; have hb2z := Below.size hb2; (try simp only [World.size_alloc, World.size_setCell, World.size_drew, size_drewN'] at hb2z))
      go_wp2
      go_ret
      exact ⟨retB_f, hB1.trans (hb2.mono hB1.size)⟩
end Go.Proofs.YtomkdgcpmpbfhaaGreatDoor
