/- Contracts of functions and lemmas, used by the proofs of the given statements. No condition beyond those that each lemma names. -/
import Derived.Test.YtglpknhcneggeaaGreatDoorTrW8
namespace Go.Proofs.YtglpknhcneggeaaGreatDoor
open Go.RowKit
set_option linter.unusedSimpArgs false
set_option linter.unusedVariables false
set_option maxRecDepth 20000
attribute [local irreducible] nv wp win plainB validR valR canR mvE chkM codeC exK maxF dsum
/-! ## chains that are small: all numbers stay short -/
structure Small (c : Chn) : Prop where
  nm : c.nm ≤ 120
  raw : ∀ k, k < c.nm → (c.R k).2.1.length ≤ 1 ∧ (c.R k).2.2.length ≤ 1
  ok : ∀ k, k < c.nm → okR (c.R k)
  den : 6 < c.nm → ∀ k, k < c.nm → (c.R k).2.2.length = 1 → nv (c.R k).2.2 < 16
  nd : c.Ok → c.nd ≤ 9
theorem Small.rts {c : Chn} (h : Small c) (ok : c.Ok) : Rts c.nm c.q (dps c.q c.nm) := by
  refine Rts.of h.nm (fun k hk => Sz_valR (h.ok k hk) (by omega) (h.raw k hk).1 (h.raw k hk).2) fun h6 k hk => ?_
  have hq := (ok.mv k hk).2.2.2.2.2.1
  have hc := valR_pos_can (h.ok k hk) hq
  have hq0 : c.q k ≠ 0 := fun e => by rw [e] at hq; exact absurd hq (by decide)
  have hd : (c.R k).2.2 = dig (c.q k).den := by
    rw [← hc]
    show (canR (c.q k)).2.2 = _
    unfold canR
    rw [if_neg hq0]
  have hl : (c.R k).2.2.length = 1 := by
    have h1 := (h.raw k hk).2
    rcases Nat.lt_or_ge (c.R k).2.2.length 1 with h2 | h2
    · have h3 : (dig (c.q k).den).length = 0 := by rw [← hd]; omega
      exact absurd (dig_len_zero.1 h3) (c.q k).den_nz
    · omega
  have := h.den h6 k hk hl
  rw [hd, nv_dig] at this
  omega
theorem Small.siz {c : Chn} (h : Small c) (ok : c.Ok) : SizC c 400 :=
  ⟨by have := h.nm; omega, by omega, by omega, fun k hk => by have := h.raw k hk; omega, fun s k hk => (exK_sz (h.rts ok) s hk).more (by omega)⟩
theorem Small.chS {c : Chn} (h : Small c) : ChS c 400 := ⟨by have := h.nm; omega, fun k hk => by have := h.raw k hk; omega, h.siz⟩
theorem FzL.v0 (c : Chn) : FzL 1 c.v0 := by
  have h1 : (1 : Nat) < wp 1 := by rw [wp_one]; omega
  refine ⟨1, 1, by omega, h1, h1, fun s => ?_⟩
  unfold Chn.v0
  split
  · exact ⟨1, by decide +kernel, by decide⟩
  · exact ⟨0, by decide +kernel, by decide⟩
theorem Small.stS {c : Chn} (h : Small c) (ok : c.Ok) {r : Rat} (hr : 0 < r) (hrs : Sz 4 r) {v : Nat → Rat} {L : Nat} (hv : FzL L v) (hL : 1 ≤ L) (hL2 : L ≤ 300) : StS c r v 400 := by
  have hp := fun ab => hv.parts (act := c.act ab) (F := c.f) (T := c.t) (h.rts ok) hr hrs
  exact ⟨by omega, by omega, fun k hk => by have := h.raw k hk; omega, by have := h.nm; omega, fun s _ => (hv.sz hL s).more (by omega), hrs.more (by omega), fun k hk => ((hp true).2.2 k hk).more (by omega), fun k hk => ((hp true).1 k hk).more (by omega), fun ab k s hk => (((hp ab).2.1 k hk).sz (by omega) s).more (by omega)⟩
theorem Small.run {c : Chn} (h : Small c) (ok : c.Ok) {r : Rat} (hr : 0 < r) (hrs : Sz 4 r) (ab : Bool) (k : Nat) : FzL (1 + 24 * k) (c.run ab r k) := (FzL.v0 c).run (h.rts ok) hr hrs k
theorem Small.runS {c : Chn} (h : Small c) (ok : c.Ok) {r : Rat} (hr : 0 < r) (hrs : Sz 4 r) (ab : Bool) {k : Nat} (hk : k ≤ 8) : StS c r (c.run ab r k) 400 := h.stS ok hr hrs (h.run ok hr hrs ab k) (by omega) (by omega)
theorem Chn.codeN_ok {c : Chn} {r : Rw} {n : Int} (h : c.codeN r n = 0) : c.Ok ∧ 0 < valR r := by
  have h1 := Chn.codeR_0 (Chn.codeN_0 h).1
  exact ⟨Chn.ok_iff.1 h1.1, h1.2.1⟩
theorem Small.st {c : Chn} (h : Small c) {r : Rw} (hr : okR r) (h1 : r.2.1.length ≤ 4) (h2 : r.2.2.length ≤ 4) {n : Int} (hn : n ≤ 9 ∨ 48 < n) (ab : Bool) : c.codeN r n = 0 → ∀ k : Nat, (k : Int) < n → StS c (valR r) (c.run ab (valR r) k) 400 := fun h0 k hk => by
  have h3 := Chn.codeN_0 h0
  have h4 := Chn.codeN_ok h0
  exact h.runS h4.1 h4.2 (Sz_valR hr (by omega) h1 h2) ab (by omega)
theorem Small.dn {c : Chn} (h : Small c) {r : Rw} (hr : okR r) (h1 : r.2.1.length ≤ 4) (h2 : r.2.2.length ≤ 4) {n : Int} (hn : n ≤ 9 ∨ 48 < n) (ab : Bool) : DnS c ab r n 400 :=
  ⟨by omega, by omega, h.st hr h1 h2 hn ab, fun h0 k hk => by
    have h3 := Chn.codeN_0 h0
    have h4 := Chn.codeN_ok h0
    have hf := h.run h4.1 h4.2 (Sz_valR hr (by omega) h1 h2) ab k
    refine ⟨fun j hj => (hf.dsum (by have := h.nd h4.1; omega)).more (by omega), fun s _ => (hf.sz (by omega) s).more (by omega)⟩⟩
theorem Chn.codeR_ok {c : Chn} {r : Rw} (h : c.codeR r = 0) : c.Ok ∧ 0 < valR r := ⟨Chn.ok_iff.1 (Chn.codeR_0 h).1, (Chn.codeR_0 h).2.1⟩
theorem Small.stepS {c : Chn} (h : Small c) {r : Rw} (hr : okR r) (h1 : r.2.1.length ≤ 4) (h2 : r.2.2.length ≤ 4) {n : Nat} {R : Nat → Rw} (hR : ∀ k, k < n → okR (R k) ∧ (R k).2.1.length ≤ 4 ∧ (R k).2.2.length ≤ 4) : c.codeT r n R = 0 → StS c (valR r) (vecQ n R) 400 := fun h0 => by
  unfold Chn.codeT at h0
  by_cases h3 : c.codeR r = 0
  · rw [if_neg (by omega)] at h0
    by_cases h4 : n = c.nd
    · have h5 := Chn.codeR_ok h3
      have h6 := h.nd h5.1
      have hv : FzL (n * 4 + 4 + 1) (vecQ n R) := FzL.of_sz (fun s hs => by unfold vecQ; rw [if_pos hs]; exact Sz_valR (hR s hs).1 (by omega) (hR s hs).2.1 (hR s hs).2.2) (fun s hs => by unfold vecQ; rw [if_neg (by omega)]) (by omega)
      exact h.stS h5.1 h5.2 (Sz_valR hr (by omega) h1 h2) hv (by omega) (by omega)
    · rw [if_pos h4] at h0
      omega
  · rw [if_pos h3] at h0
    exact absurd h0 h3
end Go.Proofs.YtglpknhcneggeaaGreatDoor
namespace Go.Proofs.YtglpknhcneggeaaGreatDoor
open Go.RowKit
set_option linter.unusedSimpArgs false
set_option linter.unusedVariables false
set_option maxRecDepth 20000
attribute [local irreducible] nv wp win plainB validR valR canR mvE chkM codeC exK maxF dsum
/-! ## the laws' Few and brief -/
theorem RdS.lens' {w : World} {b0 : Nat} {s : Bool} {A B : Option Addr} {n c m d : Nat} {r : Rw} (h : RdS w b0 (rv s A n c B m d) r) : r.2.1.length = n ∧ r.2.2.length = m ∧ n ≤ c ∧ m ≤ d ∧ RdW w w.heap.size B r.2.2 := by
  obtain ⟨A', c', B', d', e, hc, hd, _, _, hB, _⟩ := h
  unfold rv at e
  injection e with e
  simp at e
  obtain ⟨-, ⟨-, rfl, rfl⟩, ⟨rfl, rfl, rfl⟩⟩ := e
  exact ⟨rfl, rfl, hc, hd, hB⟩
def RetB (P : Prop) (e : Ending) : Prop := ∃ b : Bool, e = .returned (.bool b) ∧ (b = true → P)
theorem retB_f {P : Prop} : RetB P (.returned (.bool false)) := ⟨false, rfl, fun h => nomatch h⟩
theorem retB_t {P : Prop} (h : P) : RetB P (.returned (.bool true)) := ⟨true, rfl, fun _ => h⟩
/-- few, short numbers -/
def Brief (n : Nat) (R : Nat → Rw) : Prop := n ≤ 300 ∧ ∀ k, k < n → (R k).2.1.length ≤ 4 ∧ (R k).2.2.length ≤ 4
set_option maxHeartbeats 4000000 in
theorem brief_any {w : World} {b0 n c : Nat} {A : Option Addr} {R : Nat → Rw} (h : RowA w b0 A n R) :
    Calls Tryz.prog 12 #[.slice A n c] w fun e w' => RetB (Brief n R) e ∧ Below w.heap.size w w' := by
  have HA := Lib.hid h
  clear h
  by_cases h3 : 300 < n
  · have e1 : decide ((300 : Int) < (n : Int)) = true := by simp; omega
    go_enter Tryz.func12, Tryz.ntmps12
    go_wp2
    go_ret
    exact ⟨retB_f, Below.refl _ _⟩
  · have e1 : decide ((300 : Int) < (n : Int)) = false := by simp; omega
    have hn : n ≤ 300 := by omega
    clear h3
    go_enter Tryz.func12, Tryz.ntmps12
    go_wp2
    go_loopw [10] (fun i wr => ∃ k : Nat, k ≤ n ∧ i = .int .i64 (k : Int) ∧ (∀ j, j < k → (R j).2.1.length ≤ 4 ∧ (R j).2.2.length ≤ 4) ∧ Below w.heap.size w wr) (fun i _ => n - (intOf i).toNat)
    case atStart => exact ⟨0, Nat.zero_le _, rfl, fun j hj => by omega, Below.refl _ _⟩
    case round =>
      obtain ⟨k, hk, rfl, hv, hb⟩ := hrel
      have HV := Lib.hid hv
      clear hv
      by_cases hlt : k < n
      · obtain ⟨b, off, s1, A1, n1, c1, B1, m1, d1, rfl, hbb, f0, f1, f2, r1⟩ := HA.out.at_ hlt
        obtain ⟨l1, l2, -, -, -⟩ := r1.lens'
        have x0 := (hb.cell (lt_of_cell f0)).trans f0
        have x1 := (hb.cell (lt_of_cell f1)).trans f1
        have x2 := (hb.cell (lt_of_cell f2)).trans f2
        have hk0 : (0 : Int) ≤ (k : Int) := by omega
        have hki : (k : Int) < (n : Int) := by omega
        have HL1 := Lib.hid l1
        have HL2 := Lib.hid l2
        have hb9 : ∀ o, Below w.heap.size w (wr.alloc o) := fun o => hb.trans ((Below.refl _ _).alloc hb.size o)
        clear f0 f1 f2 r1 l1 l2
        by_cases hn1 : 4 < n1
        · have e2 : decide ((4 : Int) < (n1 : Int)) = true := by simp; omega
          go_wp2
          go_ret
          exact ⟨retB_f, hb9 _⟩
        · have e2 : decide ((4 : Int) < (n1 : Int)) = false := by simp; omega
          by_cases hn2 : 4 < m1
          · have e3 : decide ((4 : Int) < (m1 : Int)) = true := by simp; omega
            go_wp2
            go_ret
            exact ⟨retB_f, hb9 _⟩
          · have e3 : decide ((4 : Int) < (m1 : Int)) = false := by simp; omega
            go_wp2
            go_roundw
            case rel =>
              refine ⟨k + 1, by omega, by go_num, fun j hj => ?_, hb9 _⟩
              by_cases e : j = k
              · rw [e, HL1.out, HL2.out]; omega
              · exact HV.out j (by omega)
            case measure => simp [intOf]; omega
      · have hkn : k = n := by omega
        subst hkn
        go_wp2
        go_ret
        exact ⟨retB_t ⟨hn, HV.out⟩, hb⟩
end Go.Proofs.YtglpknhcneggeaaGreatDoor
