/- Contracts of functions and lemmas, used by the proofs of the given statements. No condition beyond those that each lemma names. -/
import Derived.Test.YtomkdgcpmpbfhaaGreatDoorTrL2
import Derived.Test.YtomkdgcpmpbfhaaGreatDoorJTextC
import Derived.Test.YtomkdgcpmpbfhaaGreatDoorJOpenNum
import Derived.Test.YtomkdgcpmpbfhaaGreatDoorJBase
import Derived.Test.YtomkdgcpmpbfhaaGreatDoorChX
import Derived.Test.YtomkdgcpmpbfhaaGreatDoorJLinY
import Derived.Test.YtomkdgcpmpbfhaaGreatDoorAbRb
import Derived.Test.YtomkdgcpmpbfhaaGreatDoorLinH
namespace Go.Proofs.YtomkdgcpmpbfhaaGreatDoor
open Go.RowKit
set_option linter.unusedSimpArgs false
set_option linter.unusedVariables false
set_option maxRecDepth 20000
attribute [local irreducible] nv wp win plainB validR valR canR mvE chkM codeC exK maxF dsum
/-! ## what the functions give, whatever the number of the error -/
def outN' (code : Int) (n : Nat) : Nat := if code = 0 then n else 0
section
variable {w' : World} {b0 base n : Nat} {x : Nat → Rat} {q : Rat} {code : Int} {e : Ending}
end
end Go.Proofs.YtomkdgcpmpbfhaaGreatDoor
namespace Go.Proofs.YtomkdgcpmpbfhaaGreatDoor
open Go.RowKit
set_option linter.unusedSimpArgs false
set_option linter.unusedVariables false
set_option maxRecDepth 20000
attribute [local irreducible] nv wp win plainB validR valR canR mvE chkM codeC exK maxF dsum
/-! ## TransientSteps -/
/-- an answer: a list of fractions and the number of an error -/
def AnsV (z : Int → Value) (m : Nat) (x : Nat → Rat) (code : Int) (e : Ending) (w' : World) : Prop := ∃ A c, e = .returned (.tuple #[.slice A m c, z code]) ∧ RowA w' w'.heap.size A m (can x)
end Go.Proofs.YtomkdgcpmpbfhaaGreatDoor
namespace Go.Proofs.YtomkdgcpmpbfhaaGreatDoor
open Go.RowKit
set_option linter.unusedSimpArgs false
set_option linter.unusedVariables false
set_option maxRecDepth 20000
attribute [local irreducible] nv wp win plainB validR valR canR mvE chkM codeC exK maxF dsum
/-! ## TransientSums -/
theorem Chn.act_f (c : Chn) : c.act false = fun _ => true := by funext k; rfl
theorem Chn.ft {c : Chn} (ok : c.Ok) : ∀ j, j < c.nm → c.f j < c.nd ∧ c.t j < c.nd ∧ c.f j ≠ c.t j := fun j hj => by
  have := ok.mv j hj
  unfold Chn.f Chn.t
  omega
theorem exK_out {F : Nat → Nat} {q : Nat → Rat} {s n : Nat} : ∀ {k : Nat}, (∀ j, j < k → F j < n) → n ≤ s → exK F q s k = 0
  | 0, _, _ => by unfold exK; rfl
  | k + 1, h, hs => by
    have h1 := exK_out (q := q) (k := k) (fun j hj => h j (by omega)) hs
    have h2 := h k (by omega)
    rw [exK, if_neg (by omega), h1]
theorem Chn.q_pos {c : Chn} (ok : c.Ok) : ∀ j, j < c.nm → 0 ≤ c.q j := fun j hj => Rat.le_of_lt (ok.mv j hj).2.2.2.2.2.1
end Go.Proofs.YtomkdgcpmpbfhaaGreatDoor
namespace Go.Proofs.YtomkdgcpmpbfhaaGreatDoor
open Go.RowKit
set_option linter.unusedSimpArgs false
set_option linter.unusedVariables false
set_option maxRecDepth 20000
attribute [local irreducible] nv wp win plainB validR valR canR mvE chkM codeC exK maxF dsum
/-! ## TransientFirst -/
theorem Chn.v0_pos (c : Chn) (s : Nat) : 0 ≤ c.v0 s := by
  unfold Chn.v0
  split
  · decide
  · exact Rat.le_refl
theorem sumN_zero {v : Nat → Rat} : ∀ {n : Nat}, (∀ s, s < n → v s = 0) → sumN v n = 0
  | 0, _ => rfl
  | n + 1, h => by rw [sumN, sumN_zero fun s hs => h s (by omega), h n (by omega), Rat.add_zero]
theorem sumN_one {v : Nat → Rat} {k : Nat} : ∀ {n : Nat}, k < n → v k = 1 → (∀ s, s < n → s ≠ k → v s = 0) → sumN v n = 1
  | 0, h, _, _ => by omega
  | n + 1, hk, h1, h0 => by
    rw [sumN]
    by_cases e : k = n
    · subst e
      rw [sumN_zero fun s hs => h0 s (by omega) (by omega), h1]
      exact Rat.zero_add 1
    · rw [sumN_one (k := k) (n := n) (by omega) h1 fun s hs hne => h0 s (by omega) hne, h0 n (by omega) (by omega)]
      exact Rat.add_zero 1
/-- the probabilities of being down -/
def Chn.dn (c : Chn) (ab : Bool) (r : Rat) (k : Nat) : Rat := dsum c.D (c.run ab r k) c.nd
theorem Chn.act_t (c : Chn) : c.act true = fun j => !c.D (c.f j) := by funext k; rfl
end Go.Proofs.YtomkdgcpmpbfhaaGreatDoor
namespace Go.Proofs.YtomkdgcpmpbfhaaGreatDoor
set_option linter.unusedSimpArgs false
set_option linter.unusedVariables false
/-! ## the time by the ticks of a clock (plain) -/
section
variable {act l D : Nat → Bool} {F T : Nat → Nat} {v w sh q t : Nat → Rat} {r : Rat} {n nm : Nat}
theorem sumN_stp : ∀ {k : Nat}, (∀ j, j < k → F j < n ∧ T j < n ∧ F j ≠ T j) → sumN (fun s => stp act F T v sh k s * t s) n = sumN (fun s => v s * t s) n + sumN (fun j => if act j = true then sh j * (t (T j) - t (F j)) else 0) k
  | 0, _ => by
    show sumN (fun s => v s * t s) n = sumN (fun s => v s * t s) n + 0
    rw [Rat.add_zero]
  | k + 1, h => by
    have ih := sumN_stp (k := k) fun j hj => h j (by omega)
    obtain ⟨h1, h2, h3⟩ := h k (by omega)
    have e0 : sumN (fun j => if act j = true then sh j * (t (T j) - t (F j)) else 0) (k + 1) = sumN (fun j => if act j = true then sh j * (t (T j) - t (F j)) else 0) k + (if act k = true then sh k * (t (T k) - t (F k)) else 0) := rfl
    rw [e0]
    cases ha : act k
    · rw [stp_no ha, ih]; simp; grind
    · rw [stp_yes ha h3]
      generalize stp act F T v sh k = u at *
      have e : (fun s => upd (upd u (F k) (u (F k) - sh k)) (T k) (u (T k) + sh k) s * t s) = upd (upd (fun s => u s * t s) (F k) ((u (F k) - sh k) * t (F k))) (T k) ((u (T k) + sh k) * t (T k)) := by
        funext s
        unfold upd
        by_cases h5 : s = T k
        · rw [if_pos h5, if_pos h5, h5]
        · rw [if_neg h5, if_neg h5]
          by_cases h6 : s = F k
          · rw [if_pos h6, if_pos h6, h6]
          · rw [if_neg h6, if_neg h6]
      have e2 : upd (fun s => u s * t s) (F k) ((u (F k) - sh k) * t (F k)) (T k) = u (T k) * t (T k) := by
        unfold upd
        rw [if_neg (Ne.symm h3)]
      rw [e, sumN_upd h2, sumN_upd h1, e2, ih]
      simp
      grind
theorem stp_supp (h : AbS nm n F T q D l) (hw : ∀ s, l s = false → D s = false → w s = 0) : ∀ {k : Nat}, k ≤ nm → ∀ s, l s = false → D s = false → stp (fun j => !D (F j)) F T w (shr F q r w) k s = 0
  | 0, _, s, h1, h2 => hw s h1 h2
  | k + 1, hk, s, h1, h2 => by
    have ih := fun s h1 h2 => stp_supp h hw (k := k) (by omega) s h1 h2
    obtain ⟨m1, m2, m3, m4⟩ := h.mv k (by omega)
    cases ha : D (F k)
    · have hsh : (s = F k ∨ s = T k) → shr F q r w k = 0 := fun hs => by
        have hf : l (F k) = false := by
          cases hl : l (F k)
          · rfl
          · rcases hs with e | e
            · rw [← e, h1] at hl; cases hl
            · have := h.lc k (by omega) hl (by rw [← e]; exact h2)
              rw [← e, h1] at this; cases this
        unfold shr
        rw [hw _ hf ha]
        grind
      rw [stp_yes (by simp [ha]) m3]
      unfold upd
      by_cases e1 : s = T k
      · rw [if_pos e1, ← e1, ih s h1 h2, hsh (.inr e1)]; grind
      · rw [if_neg e1]
        by_cases e2 : s = F k
        · rw [if_pos e2, ← e2, ih s h1 h2, hsh (.inl e2)]; grind
        · rw [if_neg e2]; exact ih s h1 h2
    · rw [stp_no (by simp [ha])]; exact ih s h1 h2
theorem run_supp (h : AbS nm n F T q D l) (hv : ∀ s, l s = false → D s = false → v s = 0) : ∀ j s, l s = false → D s = false → runV (fun j => !D (F j)) F T q r nm v j s = 0
  | 0, s, h1, h2 => hv s h1 h2
  | j + 1, s, h1, h2 => by rw [runV]; exact stp_supp h (run_supp h hv j) (Nat.le_refl _) s h1 h2
theorem eqS_off {i : Nat} (hi : l i = false) : eqS l F T q false nm t i = 0 := sumN_nil fun k _ => by
  unfold eqT
  rw [if_neg (fun h => by rw [h.2, h.1] at hi; cases hi), if_neg (fun h => by have h2 := h.2; simp at h2; rw [h2, h.1.1] at hi; cases hi)]
  grind
/-- what a tick takes off the time that is left -/
theorem tick_gap (h : AbS nm n F T q D l) (hr : 0 < r) (ht0 : ∀ s, l s = false → t s = 0) (ht1 : ∀ s, l s = true → eqS l F T q false nm t s = 1) (hw : ∀ s, l s = false → D s = false → w s = 0) :
    sumN (fun s => w s * t s) n = sumN (fun s => stepV (fun j => !D (F j)) F T q r nm w s * t s) n + sumN (fun s => if l s = true then w s else 0) n / r := by
  have hr0 : r ≠ 0 := fun e => by rw [e] at hr; exact absurd hr (by decide)
  have hF : ∀ k, k < nm → F k < n ∧ T k < n := fun k hk => ⟨(h.mv k hk).1, (h.mv k hk).2.1⟩
  have e0 : sumN (fun s => stepV (fun j => !D (F j)) F T q r nm w s * t s) n = _ := sumN_stp (act := fun j => !D (F j)) (v := w) (sh := shr F q r w) (t := t) (k := nm) fun j hj => ⟨(h.mv j hj).1, (h.mv j hj).2.1, (h.mv j hj).2.2.1⟩
  have e1 : sumN (fun i => w i * eqS l F T q false nm t i) n = sumN (fun s => if l s = true then w s else 0) n := sumN_congr fun i _ => by
    cases hl : l i
    · rw [eqS_off hl]; simp
    · rw [ht1 i hl]; simp
  have e2 := pair_sum (l := l) (q := q) (back := false) (z := t) hF w
  have e3 : sumN (fun k => (if l (F k) = true then q k * t (F k) * w (F k) else 0) - (if l (F k) = true ∧ l (T k) = true then q k * t (if false = true then F k else T k) * w (if false = true then T k else F k) else 0)) nm = sumN (fun k => (-r) * (if (fun j => !D (F j)) k = true then shr F q r w k * (t (T k) - t (F k)) else 0)) nm := sumN_congr fun k hk => by
    have hs : r * shr F q r w k = w (F k) * q k := by unfold shr; rw [Rat.mul_comm, Rat.div_mul_cancel hr0]
    cases hl : l (F k)
    · cases hd : D (F k)
      · have : shr F q r w k = 0 := by unfold shr; rw [hw _ hl hd]; grind
        rw [this]; simp; grind
      · simp [hd]; grind
    · have hd : D (F k) = false := h.ld _ hl
      cases hl2 : l (T k)
      · have := ht0 _ hl2
        simp [hd, this]; grind
      · simp [hd]; grind
  rw [e1, e3, sumN_smul] at e2
  rw [e0, e2]
  generalize sumN (fun k => if (fun j => !D (F j)) k = true then shr F q r w k * (t (T k) - t (F k)) else 0) nm = A at *
  have : -r * A / r = -A := by rw [Rat.neg_mul, Rat.mul_comm, ← Rat.neg_mul, Rat.mul_div_cancel hr0]
  rw [this]
  grind
theorem live_dsum (h : AbS nm n F T q D l) (hw : ∀ s, l s = false → D s = false → w s = 0) : ∀ m, sumN w m = sumN (fun s => if l s = true then w s else 0) m + dsum D w m
  | 0 => by show (0 : Rat) = 0 + 0; grind
  | m + 1 => by
    have ih := live_dsum h hw m
    rw [sumN, sumN, dsum, ih]
    cases hl : l m
    · cases hd : D m
      · rw [hw m hl hd]; simp; grind
      · simp; grind
    · rw [h.ld m hl]; simp; grind
end
section
variable {c : Chn} {r : Rat}
theorem Chn.ex_all (ok : c.Ok) (hr : 0 < r) (hf : c.fast ≤ r) (s : Nat) : exK c.f c.q s c.nm ≤ r := by
  by_cases hs : s < c.nd
  · exact Rat.le_trans (maxF_ge (x := c.ex) (by omega)) hf
  · rw [exK_out (n := c.nd) (fun j hj => (Chn.ft ok j hj).1) (by omega)]
    exact Rat.le_of_lt hr
theorem Chn.firstT (ok : c.Ok) (hr : 0 < r) (hf : c.fast ≤ r) : FirstT c.nm c.nd c.f c.t c.q r c.D c.v0 := ⟨Chn.ft ok, Chn.q_pos ok, hr, Chn.ex_all ok hr hf, c.v0_pos⟩
theorem Chn.v0_at (ok : c.Ok) (s : Nat) : c.v0 s = if s = c.sr.toNat then 1 else 0 := by
  have := ok.s0
  unfold Chn.v0
  by_cases e : s = c.sr.toNat
  · rw [if_pos e, if_pos (by omega)]
  · rw [if_neg e, if_neg (by omega)]
theorem Chn.v0_supp (ok : c.Ok) (s : Nat) (h1 : c.lv s = false) (h2 : c.D s = false) : c.v0 s = 0 := by
  rw [Chn.v0_at ok, if_neg]
  intro e
  have := c.lv_start
  rw [← e, h1, h2] at this
  cases this
theorem Chn.run_sum (ok : c.Ok) : ∀ k, sumN (c.run true r k) c.nd = 1
  | 0 => by
    show sumN c.v0 c.nd = 1
    have := ok.s0
    have := ok.s1
    exact sumN_one (k := c.sr.toNat) (by omega) (by rw [Chn.v0_at ok, if_pos rfl]) fun s _ hne => by rw [Chn.v0_at ok, if_neg hne]
  | k + 1 => by
    have ih : sumN (c.run true r k) c.nd = 1 := Chn.run_sum ok k
    unfold Chn.run at ih ⊢
    rw [runV]
    unfold stepV
    rw [stp_sum (Chn.ft ok)]
    exact ih
theorem Chn.run_pos (ok : c.Ok) (hr : 0 < r) (hf : c.fast ≤ r) (k s : Nat) : 0 ≤ c.run true r k s := by
  unfold Chn.run
  rw [Chn.act_t]
  exact (Chn.firstT ok hr hf).posD k s
/-- the times that are left after k ticks -/
def Chn.left (c : Chn) (r : Rat) (k : Nat) : Rat := sumN (fun s => c.run true r k s * c.times s) c.nd
theorem Chn.left_ge (h : c.codeA = 0) (hr : 0 < r) (hf : c.fast ≤ r) (k : Nat) : 0 ≤ c.left r k :=
  sumN_ge0 fun s _ => Rat.mul_nonneg (Chn.run_pos (Chn.codeA_ok h) hr hf k s) ((Chn.abS h).solC_nonneg (fun _ => by decide) s)
theorem Chn.left_0 (h : c.codeA = 0) : c.left r 0 = c.times c.sr.toNat := by
  have ok := Chn.codeA_ok h
  have : c.left r 0 = sumN (fun s => if s = c.sr.toNat then c.times s else 0) c.nd := sumN_congr fun s _ => by
    show c.v0 s * c.times s = _
    rw [Chn.v0_at ok]
    split <;> grind
  rw [this, sumN_pick, if_pos (Chn.sr_lt ok)]
theorem Chn.left_step (h : c.codeA = 0) (hr : 0 < r) (k : Nat) : c.left r k = c.left r (k + 1) + (1 - c.dn true r k) / r := by
  have ok := Chn.codeA_ok h
  have hA := Chn.abS h
  have hs : ∀ s, c.lv s = false → c.D s = false → c.run true r k s = 0 := by
    unfold Chn.run
    rw [Chn.act_t]
    exact run_supp hA (Chn.v0_supp ok) k
  have h1 := tick_gap hA hr (t := c.times) (fun s hl => solC_off _ hl) (fun s hl => hA.solC_on (back := false) (fun _ => 1) hl) hs
  have h2 := live_dsum hA hs c.nd
  rw [Chn.run_sum ok] at h2
  have h3 : sumN (fun s => if c.lv s = true then c.run true r k s else 0) c.nd = 1 - c.dn true r k := by
    unfold Chn.dn
    grind
  rw [h3] at h1
  unfold Chn.left
  rw [h1]
  unfold Chn.run
  rw [runV, Chn.act_t]
theorem Chn.ticks (h : c.codeA = 0) (hr : 0 < r) : ∀ k, sumN (fun j => (1 - c.dn true r j) / r) k + c.left r k = c.times c.sr.toNat
  | 0 => by
    rw [Chn.left_0 h]
    show (0 : Rat) + _ = _
    exact Rat.zero_add _
  | k + 1 => by
    have ih : sumN (fun j => (1 - c.dn true r j) / r) k + c.left r k = c.times c.sr.toNat := Chn.ticks h hr k
    rw [Chn.left_step h hr k] at ih
    rw [sumN]
    grind
end
end Go.Proofs.YtomkdgcpmpbfhaaGreatDoor
namespace Go.Proofs.YtomkdgcpmpbfhaaGreatDoor
open Go.RowKit
set_option linter.unusedSimpArgs false
set_option linter.unusedVariables false
set_option maxRecDepth 20000
attribute [local irreducible] nv wp win plainB validR valR canR mvE chkM codeC dsum
/-! ### a chain with some of its moves -/
def Chn.some (c : Chn) (B : Nat → Bool) : Chn :=
  ⟨c.st, c.sr, cntB B c.nm, fun i => c.F (ixB B c.nm i), fun i => c.T (ixB B c.nm i), fun i => c.R (ixB B c.nm i), c.nd, c.D⟩
/-- .. without the moves out of down states -/
def Chn.ending (c : Chn) : Chn := c.some (c.act true)
section
variable {c : Chn} {B : Nat → Bool}
theorem lexM {F T : Nat → Int} {n : Nat} (h : ∀ k, k < n → 0 < k → F (k - 1) < F k ∨ F (k - 1) = F k ∧ T (k - 1) < T k) {a : Nat} : ∀ {b : Nat}, a < b → b < n → F a < F b ∨ F a = F b ∧ T a < T b
  | b + 1, h1, h2 => by
    have hb := h (b + 1) h2 (by omega)
    rw [Nat.add_sub_cancel] at hb
    by_cases e : a = b
    · rw [e]; exact hb
    · have := lexM h (a := a) (b := b) (by omega) (by omega)
      omega
theorem Chn.some_ok (ok : c.Ok) : (c.some B).Ok := by
  refine ⟨ok.lo, ok.hi, ok.st, ok.s0, ok.s1, fun k hk => ?_⟩
  have h1 := ixB_lt (B := B) (n := c.nm) (i := k) hk
  have h2 := ok.mv _ h1.1
  refine ⟨h2.1, h2.2.1, h2.2.2.1, h2.2.2.2.1, h2.2.2.2.2.1, h2.2.2.2.2.2.1, fun h0 => ?_⟩
  exact lexM (fun k hk h0 => (ok.mv k hk).2.2.2.2.2.2 h0) (ixB_mono (i := k - 1) (j := k) (by omega) hk) h1.1
theorem stp_some {F T : Nat → Nat} {v sh : Nat → Rat} {n : Nat} : ∀ {k : Nat}, k ≤ n → stp (fun _ => true) (fun i => F (ixB B n i)) (fun i => T (ixB B n i)) v (fun i => sh (ixB B n i)) (cntB B k) = stp B F T v sh k
  | 0, _ => rfl
  | k + 1, hk => by
    have ih := stp_some (F := F) (T := T) (v := v) (sh := sh) (n := n) (k := k) (by omega)
    cases hb : B k
    · rw [cntB_no hb, ih, stp_no hb]
    · rw [cntB_yes hb]
      funext s
      simp only [stp, hb, if_true]
      rw [ixB_new (by omega) hb, ih]
theorem stepV_some {v : Nat → Rat} {r : Rat} : stepV (fun _ => true) (c.some B).f (c.some B).t (c.some B).q r (c.some B).nm v = stepV B c.f c.t c.q r c.nm v := by
  unfold stepV
  rw [← stp_some (B := B) (Nat.le_refl c.nm)]
  rfl
theorem runV_some {v : Nat → Rat} {r : Rat} : ∀ k, runV (fun _ => true) (c.some B).f (c.some B).t (c.some B).q r (c.some B).nm v k = runV B c.f c.t c.q r c.nm v k
  | 0 => rfl
  | k + 1 => by rw [runV, runV, runV_some k, stepV_some]
theorem Chn.ending_run (c : Chn) (r : Rat) (k : Nat) : c.ending.run false r k = c.run true r k := by
  unfold Chn.run
  rw [Chn.act_f]
  exact runV_some k
theorem exK_some {F : Nat → Nat} {q : Nat → Rat} {s n : Nat} (hq : ∀ j, j < n → 0 ≤ q j) : ∀ {k : Nat}, k ≤ n → exK (fun i => F (ixB B n i)) (fun i => q (ixB B n i)) s (cntB B k) ≤ exK F q s k
  | 0, _ => Rat.le_refl
  | k + 1, hk => by
    have ih := exK_some (F := F) (q := q) (s := s) hq (k := k) (by omega)
    have h0 := hq k (by omega)
    cases hb : B k
    · rw [cntB_no hb]
      conv => rhs; unfold exK
      split
      · grind
      · exact ih
    · rw [cntB_yes hb]
      simp only [exK]
      rw [ixB_new (by omega) hb]
      split
      · grind
      · exact ih
theorem Chn.some_fast (ok : c.Ok) : (c.some B).fast ≤ c.fast := by
  unfold Chn.fast
  refine maxF_le fun j hj => Rat.le_trans ?_ (maxF_ge hj)
  exact exK_some (fun j hj => Rat.le_of_lt (ok.mv j hj).2.2.2.2.2.1) (Nat.le_refl _)
theorem Chn.some_codeR {r : Rw} (h : c.codeR r = 0) : (c.some B).codeR r = 0 := by
  have h1 := Chn.codeR_0 h
  have ok := Chn.ok_iff.1 h1.1
  unfold Chn.codeR
  rw [if_neg (by have := Chn.ok_iff.2 (Chn.some_ok (B := B) ok); omega), if_neg]
  rintro (h2 | h2)
  · exact h2 h1.2.1
  · have := Chn.some_fast (B := B) ok
    have h3 := h1.2.2
    grind
theorem Chn.some_codeN {r : Rw} {n : Int} (h : c.codeN r n = 0) : (c.some B).codeN r n = 0 := by
  have h1 := Chn.codeN_0 h
  unfold Chn.codeN
  rw [if_neg (by have := Chn.some_codeR (B := B) h1.1; omega), if_neg (by omega)]
theorem Small.some (h : Small c) (ok : c.Ok) : Small (c.some B) :=
  ⟨Nat.le_trans cntB_le h.nm, fun k hk => h.raw _ (ixB_lt hk).1, fun k hk => h.ok _ (ixB_lt hk).1, fun h6 k hk => h.den (Nat.lt_of_lt_of_le h6 cntB_le) _ (ixB_lt hk).1, fun _ => h.nd ok⟩
end
end Go.Proofs.YtomkdgcpmpbfhaaGreatDoor
namespace Go.Proofs.YtomkdgcpmpbfhaaGreatDoor
open Go.RowKit
set_option linter.unusedSimpArgs false
set_option linter.unusedVariables false
set_option maxRecDepth 20000
attribute [local irreducible] nv wp win plainB validR valR canR
/-! ## a row of ints of the call's own, by a function -/
def kls (n : Nat) (f : Nat → Nat) : List Value := (List.range n).map fun j => .int .i64 ((f j : Nat) : Int)
theorem kls_set {n : Nat} {f : Nat → Nat} {k b : Nat} : (kls n f).set k (.int .i64 (b : Int)) = kls n (upd f k b) := by
  apply List.ext_getElem?
  intro j
  by_cases h : j = k
  · subst h
    by_cases hn : j < n
    · rw [List.getElem?_set_self (by simp [kls]; exact hn)]; simp [kls, hn, upd]
    · rw [List.getElem?_eq_none (by simp [kls]; omega), List.getElem?_eq_none (by simp [kls]; omega)]
  · rw [List.getElem?_set_ne (Ne.symm h)]
    by_cases hn : j < n
    · simp [kls, hn, upd, h]
    · rw [List.getElem?_eq_none (by simp [kls]; omega), List.getElem?_eq_none (by simp [kls]; omega)]
def OwK (w : World) (base : Nat) (A : Option Addr) (c n : Nat) (f : Nat → Nat) : Prop := w.ownsRow base 3 1 (.slice A n c) n (kls n f)
section
variable {w w' w1 : World} {base g c n k : Nat} {A : Option Addr} {f : Nat → Nat}
theorem OwK.below (h : OwK w base A c n f) (hb : Below w.heap.size w w1) : OwK w1 base A c n f := own_below h hb
theorem OwK.at_ (h : OwK w base (some ⟨g, 0, none⟩) c n f) (hk : k < n) : w.cell? ⟨g, k, none⟩ = some (.int .i64 ((f k : Nat) : Int)) := by
  rw [World.ownsRow.cellAt h k (by omega)]
  simp [kls, hk]
theorem OwK.frozen (h : OwK w base (some ⟨g, 0, none⟩) c n f) (k : Nat) : w.frozen? ⟨g, k, none⟩ = false := World.ownsRow.frozenAt h k
theorem OwK.set (h : OwK w base (some ⟨g, 0, none⟩) c n f) (k b : Nat) : OwK (w.setCell ⟨g, k, none⟩ (.int .i64 (b : Int))) base (some ⟨g, 0, none⟩) c n (upd f k b) ∧ w.grownBy (w.setCell ⟨g, k, none⟩ (.int .i64 (b : Int))) (some g) := by
  obtain ⟨s1, g1⟩ := World.ownsRow.stored h k (.int .i64 (b : Int))
  rw [kls_set] at s1
  exact ⟨s1, g1⟩
theorem OwK.kept (h : OwK w base (some ⟨g, 0, none⟩) c n f) {row : Option Nat} (hg : w.grownBy w' row) (hr : some g ≠ row) : OwK w' base (some ⟨g, 0, none⟩) c n f :=
  World.ownsRow.kept h hg (.inr hr)
/-- make([]int, n) -/
theorem wpList_makeK {ops : Array Oper} {rest : List Oper} {o : Oper} {a : Act} {Q : Exit → Act → World → Prop}
    (hg : o.guard = none) (l c : Operand) (hop : o.op = Op.makeSlice 97 l c)
    (b0 n : Nat) (L C : Int) (hl : a.eval l = .int .i64 L) (hc : a.eval c = .int .i64 C) (hL : L = (n : Int)) (hC : C = (n : Int)) (hn : n ≤ 1000000) (hb : b0 ≤ w.heap.size)
    (h : ∀ w', OwK w' b0 (some ⟨w.heap.size, 0, none⟩) n n (fun _ => 0) → Below w.heap.size w w' → wpList Tryz.prog ops Q rest (a.put o.dst (.slice (some ⟨w.heap.size, 0, none⟩) n n)) w') : wpList Tryz.prog ops Q (o :: rest) a w := by
  obtain ⟨i, hi, hz, hs, hby⟩ := info_parts intInfo
  refine wpList_make_full w hg l c 97 hop b0 3 i (.int .i64 0) 1 Tryz.underlying97 hi hz hs .i64 .i64 L C n hl hc hL hC (by rw [hby]; omega) (by unfold maxLen; omega) hb ?_
  intro w' h1 h2
  have e : (madeCells (Value.cells (.int .i64 0)) (n * 1)).toList = kls n (fun _ => 0) := by
    rw [Nat.mul_one]
    show (madeCells #[Value.int .i64 0] n).toList = _
    rw [toList_madeCells_one]
    apply List.ext_getElem (by simp [kls])
    intro j h1 h2
    simp [kls]
  rw [e] at h1
  exact h w' h1 ((Below.refl _ _).grown h2 (Nat.le_refl _) (by intro k hk; cases hk))
end
theorem OwI.kept_ {w w' : World} {base c : Nat} {A : Option Addr} {l : List Nat} (h : OwI w base A c l) {row : Option Nat} (hg : w.grownBy w' row) (hr : (Value.slice A l.length c).ownBlock = none ∨ (Value.slice A l.length c).ownBlock ≠ row) : OwI w' base A c l :=
  World.ownsRow.kept h hg hr
end Go.Proofs.YtomkdgcpmpbfhaaGreatDoor
namespace Go.Proofs.YtomkdgcpmpbfhaaGreatDoor
open Go.RowKit
set_option linter.unusedSimpArgs false
set_option linter.unusedVariables false
set_option maxRecDepth 20000
attribute [local irreducible] nv wp win plainB validR valR canR mvE chkM codeC spr sprN chg cnt cntB ixB kept sysK
/-! ## package absorb: system -/
theorem MatG.mo {w : World} {b0 o co n : Nat} {len : Nat → Nat} {M : Nat → Nat → Rat} (h : MatG w b0 o co n len M) : MatO w b0 (some ⟨o, 0, none⟩) co n len M := by
  obtain ⟨A, c, Ar, cp, e1, e2, hd, h1, h2⟩ := h
  exact ⟨Ar, cp, h1, h2⟩
/-- the marks that a call was handed -/
def MkI (w : World) (A : Option Addr) (n : Nat) (l : Nat → Bool) : Prop := Rds w w.heap.size 1 A n (bools n l)
theorem MkI.later {w W : World} {A : Option Addr} {n i : Nat} {l : Nat → Bool} (h : MkI w A n l) (hb : Below w.heap.size w W) (hi : i < n) : ∃ b off, A = some ⟨b, off, none⟩ ∧ b < w.heap.size ∧ W.cell? ⟨b, off + i, none⟩ = some (.bool (l i)) := by
  obtain ⟨b, off, e, hlt, hc⟩ := h.2 (by omega)
  exact ⟨b, off, e, hlt, (hb.cell (p := ⟨b, off + i, none⟩) hlt).trans (hc _ _ (bools_get hi))⟩
theorem OwB.mk {w : World} {base c n : Nat} {A : Option Addr} {l : Nat → Bool} (h : OwB w base A c n l) : MkI w A n l := Rds.of_own h
theorem kept_yes {B : Nat → Bool} {k : Nat} (h : B k = true) : kept B (k + 1) = kept B k ++ [k] := by rw [kept, if_pos h]
theorem kept_no {B : Nat → Bool} {k : Nat} (h : B k = false) : kept B (k + 1) = kept B k := by rw [kept, if_neg (by rw [h]; simp)]
theorem kept_len {B : Nat → Bool} {k : Nat} : (kept B k).length = cntB B k := by unfold cntB; rfl
/-- the place of a live state, as far as they have been numbered -/
def plB (l : Nat → Bool) (k : Nat) : Nat → Nat := fun i => if l i = true ∧ i < k then cntB l i else 0
theorem plB_yes {l : Nat → Bool} {k : Nat} (h : l k = true) : upd (plB l k) k (cntB l k) = plB l (k + 1) := by
  funext i
  unfold upd plB
  by_cases e : i = k
  · subst e; rw [if_pos rfl, if_pos ⟨h, by omega⟩]
  · rw [if_neg e]
    by_cases e2 : l i = true ∧ i < k
    · rw [if_pos e2, if_pos ⟨e2.1, by omega⟩]
    · rw [if_neg e2, if_neg (fun h => e2 ⟨h.1, by omega⟩)]
theorem plB_no {l : Nat → Bool} {k : Nat} (h : l k = false) : plB l k = plB l (k + 1) := by
  funext i
  unfold plB
  by_cases e2 : l i = true ∧ i < k
  · rw [if_pos e2, if_pos ⟨e2.1, by omega⟩]
  · rw [if_neg e2, if_neg (fun h' => by
      by_cases e : i = k
      · rw [e, h] at h'; cases h'.1
      · exact e2 ⟨h'.1, by omega⟩)]
theorem plB_at {l : Nat → Bool} {k i : Nat} (h : l i = true) (hi : i < k) : plB l k i = cntB l i := by unfold plB; rw [if_pos ⟨h, hi⟩]
/-- the matrix of the live states after k moves -/
def parM (l : Nat → Bool) (F T : Nat → Nat) (q : Nat → Rat) (back : Bool) (n k : Nat) : Mf := fun a b => sysK l F T q back k (ixB l n a) (ixB l n b)
section
variable {l : Nat → Bool} {F T : Nat → Nat} {q : Nat → Rat} {back : Bool} {n k : Nat}
theorem sysK_s {i j : Nat} : sysK l F T q back (k + 1) i j = sysK l F T q back k i j + (if l (F k) = true ∧ i = F k ∧ j = F k then q k else 0) - (if (l (F k) = true ∧ l (T k) = true) ∧ i = (if back then T k else F k) ∧ j = (if back then F k else T k) then q k else 0) := by
  conv => lhs; unfold sysK
theorem ix_iff {a s : Nat} (ha : a < cntB l n) (hs : s < n) (hl : l s = true) : ixB l n a = s ↔ a = cntB l s := by
  constructor
  · intro h
    rw [← h, cntB_ix ha]
  · intro h
    rw [h, (ixB_cnt hs hl).2]
theorem parM_no (h : l (F k) = false) : parM l F T q back n (k + 1) = parM l F T q back n k := by
  funext a b
  unfold parM
  rw [sysK_s, if_neg (c := l (F k) = true ∧ _) (fun h' => by rw [h] at h'; cases h'.1), if_neg (c := (l (F k) = true ∧ l (T k) = true) ∧ _) (fun h' => by rw [h] at h'; cases h'.1.1)]
  grind
theorem parM_one (h : l (F k) = true) (ht : l (T k) = false) (hF : F k < n) {a b : Nat} (ha : a < cntB l n) (hb : b < cntB l n) : parM l F T q back n (k + 1) a b = if a = cntB l (F k) ∧ b = cntB l (F k) then parM l F T q back n k a b + q k else parM l F T q back n k a b := by
  unfold parM
  rw [sysK_s, if_neg (c := (l (F k) = true ∧ l (T k) = true) ∧ _) (fun h' => by rw [ht] at h'; cases h'.1.2)]
  by_cases e : a = cntB l (F k) ∧ b = cntB l (F k)
  · rw [if_pos e, if_pos ⟨h, (ix_iff ha hF h).2 e.1, (ix_iff hb hF h).2 e.2⟩]; grind
  · rw [if_neg e, if_neg (fun h' => e ⟨(ix_iff ha hF h).1 h'.2.1, (ix_iff hb hF h).1 h'.2.2⟩)]; grind
theorem parM_two (h : l (F k) = true) (ht : l (T k) = true) (hF : F k < n) (hT : T k < n) (hne : F k ≠ T k) {a b : Nat} (ha : a < cntB l n) (hb : b < cntB l n) : parM l F T q back n (k + 1) a b
    = if a = cntB l (if back then T k else F k) ∧ b = cntB l (if back then F k else T k) then parM l F T q back n k a b - q k else if a = cntB l (F k) ∧ b = cntB l (F k) then parM l F T q back n k a b + q k else parM l F T q back n k a b := by
  unfold parM
  rw [sysK_s]
  have hfb : (if back then T k else F k) < n ∧ l (if back then T k else F k) = true := by cases back <;> simp <;> (constructor <;> assumption)
  have htb : (if back then F k else T k) < n ∧ l (if back then F k else T k) = true := by cases back <;> simp <;> (constructor <;> assumption)
  have hneb : (if back then T k else F k) ≠ (if back then F k else T k) := by cases back <;> simp <;> first | exact hne | exact fun e => hne e.symm
  by_cases e1 : a = cntB l (if back then T k else F k) ∧ b = cntB l (if back then F k else T k)
  · have i1 := (ix_iff ha hfb.1 hfb.2).2 e1.1
    have i2 := (ix_iff hb htb.1 htb.2).2 e1.2
    rw [if_pos e1, if_neg (c := l (F k) = true ∧ _) (fun h' => hneb (by rw [← i1, ← i2, h'.2.1, h'.2.2])), if_pos ⟨⟨h, ht⟩, i1, i2⟩]; grind
  · rw [if_neg e1, if_neg (c := (l (F k) = true ∧ l (T k) = true) ∧ _) (fun h' => e1 ⟨(ix_iff ha hfb.1 hfb.2).1 h'.2.1, (ix_iff hb htb.1 htb.2).1 h'.2.2⟩)]
    by_cases e : a = cntB l (F k) ∧ b = cntB l (F k)
    · rw [if_pos e, if_pos ⟨h, (ix_iff ha hF h).2 e.1, (ix_iff hb hF h).2 e.2⟩]; grind
    · rw [if_neg e, if_neg (fun h' => e ⟨(ix_iff ha hF h).1 h'.2.1, (ix_iff hb hF h).1 h'.2.2⟩)]; grind
end
theorem one_upd {P : Nat → Nat → Rat} {p : Nat} {q : Rat} (a b : Nat) : upd P p (fun b => if b = p then P p p + q else P p b) a b = if a = p ∧ b = p then P a b + q else P a b := by
  unfold upd
  by_cases h3 : a = p
  · subst h3
    by_cases h4 : b = a
    · subst h4; simp
    · simp [h4]
  · simp [h3]
theorem two_upd {P : Nat → Nat → Rat} {p ri ci : Nat} {q : Rat} (hne : ¬ (ri = p ∧ ci = p)) (a b : Nat) :
    upd (upd P p (fun b => if b = p then P p p + q else P p b)) ri (fun b => if b = ci then P ri ci - q else upd P p (fun b => if b = p then P p p + q else P p b) ri b) a b = if a = ri ∧ b = ci then P a b - q else if a = p ∧ b = p then P a b + q else P a b := by
  have hQ := one_upd (P := P) (p := p) (q := q)
  generalize upd P p (fun b => if b = p then P p p + q else P p b) = Q at hQ ⊢
  unfold upd
  by_cases h1 : a = ri
  · by_cases h2 : b = ci
    · rw [if_pos h1, if_pos h2, if_pos ⟨h1, h2⟩, h1, h2]
    · rw [if_pos h1, if_neg h2, if_neg (show ¬ (a = ri ∧ b = ci) from fun h => h2 h.2), ← h1]
      exact hQ a b
  · rw [if_neg h1, if_neg (show ¬ (a = ri ∧ b = ci) from fun h => h1 h.1)]
    exact hQ a b
end Go.Proofs.YtomkdgcpmpbfhaaGreatDoor
