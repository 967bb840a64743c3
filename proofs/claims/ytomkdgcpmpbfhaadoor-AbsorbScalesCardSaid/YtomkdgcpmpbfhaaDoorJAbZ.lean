/- Contracts of functions and lemmas, used by the proofs of the given statements. No condition beyond those that each lemma names. -/
import Derived.Test.YtomkdgcpmpbfhaaDoorAbX
import Derived.Test.YtomkdgcpmpbfhaaDoorJLinY
namespace Go.Proofs.YtomkdgcpmpbfhaaDoor
set_option linter.unusedSimpArgs false
set_option linter.unusedVariables false
/-! ## how great the numbers are (plain) -/
section
variable {nm n P L : Nat} {q : Nat → Rat} {F T : Nat → Nat} {l : Nat → Bool} {back : Bool} {v : Nat → Rat}
theorem sysK_fz (h : Rts nm q P) (i j : Nat) : ∀ k, k ≤ nm → Fz P (2 * k * (4294967296 * P)) (sysK l F T q back k i j)
  | 0, _ => (Fz.zero P).le (by omega)
  | k + 1, hk => by
    have ih := sysK_fz h i j k (by omega)
    have hq := h.fz k (by omega)
    have h0 : ∀ (p : Prop) [Decidable p], Fz P (4294967296 * P) (if p then q k else 0) := fun p _ => by
      split
      · exact hq
      · exact (Fz.zero P).le (by omega)
    have e : 2 * (k + 1) * (4294967296 * P) = 2 * k * (4294967296 * P) + 4294967296 * P + 4294967296 * P := by
      rw [Nat.mul_add, Nat.add_mul]; omega
    rw [e, sysK_s]
    exact (ih.add (h0 _)).sub (h0 _)
theorem wp2b : 240 * 4294967296 < wp 2 := by decide +kernel
theorem sysK_sz (h : Rts nm q P) (i j : Nat) {k : Nat} (hk : k ≤ nm) : Sz 20 (sysK l F T q back k i j) := by
  refine (sysK_fz h i j k hk).sz h.ne (by omega) (lt_wp_more h.lt (by omega)) ?_
  have h1 : 2 * k * 4294967296 < wp 2 := Nat.lt_of_le_of_lt (Nat.mul_le_mul_right _ (by have := h.few; omega)) wp2b
  have := wp_mul_lt h1 h.lt
  rw [Nat.mul_assoc] at this
  exact lt_wp_more this (by omega)
/-- sums of multiples of rates -/
theorem FzL.endK (hv : FzL L v) (h : Rts nm q P) {B : Nat → Bool} {e0 : Nat → Rat} (he : ∀ s, e0 s = 0 ∨ e0 s = 1) : ∀ k, k ≤ nm → FzL (L + 24) (Go.Proofs.YtomkdgcpmpbfhaaDoor.endK B T (fun k => q k * v (F k)) e0 k) := by
  obtain ⟨D, Z, h0, h1, h2, h3⟩ := hv
  have hP := h.lt
  have hD0 : P * D ≠ 0 := Nat.mul_ne_zero h.ne h0
  have hD1 : P * D < wp (16 + L) := wp_mul_lt hP h1
  have b1 : 4294967296 * P < wp 17 := by rw [← wp_lt_succ]; omega
  have b2 : 4294967296 * P * Z < wp (17 + L) := wp_mul_lt b1 h2
  intro k hk
  refine ⟨P * D, P * D + k * (4294967296 * P * Z), hD0, lt_wp_more hD1 (by omega), ?_, ?_⟩
  · have b4 : k * (4294967296 * P * Z) < wp (1 + (17 + L)) := wp_mul_lt (by rw [wp_one]; have := h.few; omega) b2
    exact lt_wp_more (lt_wp_add (L := L + 20) (lt_wp_more hD1 (by omega)) (lt_wp_more b4 (by omega))) (by omega)
  · intro s
    induction k with
    | zero =>
      unfold Go.Proofs.YtomkdgcpmpbfhaaDoor.endK
      rcases he s with e | e
      · rw [e]; exact (Fz.zero _).le (by omega)
      · rw [e]; exact (Fz.nat (P * D) 1).le (by omega)
    | succ k ih =>
      have ih := ih (by omega)
      have hx : Fz (P * D) (4294967296 * P * Z) (q k * v (F k)) := (h.fz k (by omega)).mul (h3 _)
      unfold Go.Proofs.YtomkdgcpmpbfhaaDoor.endK
      have e : P * D + (k + 1) * (4294967296 * P * Z) = P * D + k * (4294967296 * P * Z) + 4294967296 * P * Z := by rw [Nat.succ_mul]; omega
      have hle : P * D + k * (4294967296 * P * Z) ≤ P * D + (k + 1) * (4294967296 * P * Z) := by rw [e]; omega
      split
      · unfold upd
        split
        · rename_i e1
          rw [e]
          rw [← e1]
          exact ih.add hx
        · exact ih.le hle
      · exact ih.le hle
theorem FzL.prod (hv : FzL L v) (h : Rts nm q P) {k : Nat} (hk : k < nm) (s : Nat) : Sz (L + 24) (q k * v s) := by
  obtain ⟨D, Z, h0, h1, h2, h3⟩ := hv
  have b1 : 4294967296 * P < wp 17 := by rw [← wp_lt_succ]; have := h.lt; omega
  exact ((h.fz k hk).mul (h3 s)).sz (Nat.mul_ne_zero h.ne h0) (by omega) (lt_wp_more (wp_mul_lt h.lt h1) (by omega)) (lt_wp_more (wp_mul_lt b1 h2) (by omega))
end
section
variable {c : Chn}
theorem Small.sysS (h : Small c) : SysS c := ⟨h.chS, h.nd, fun ok back k hk i j => (sysK_sz (h.rts ok) i j hk).more (by omega)⟩
theorem Small.sol_sz (h : Small c) (h0 : c.codeA = 0) (back : Bool) {s : Nat} (hs : s < c.nd) : Sz 21400000 (c.sol back s) := by
  have ok := Chn.codeA_ok h0
  have hn := h.nd ok
  have hA := Chn.abS h0
  have e : c.sol back s = solB back c.lv c.f c.t c.q c.nm c.nd (c.rhs back) s := hA.solC_eq _ hs
  rw [e]
  unfold solB
  have hg := gj_sz (n := c.nd) (c := c.nd + 1) (L := 20) (M := wide (fullA c.lv (sysK c.lv c.f c.t c.q back c.nm)) (onL c.lv (c.rhs back)) c.nd) (by omega) (fun a b ha hb => by
    unfold wide
    split
    · unfold fullA
      split
      · exact sysK_sz (h.rts ok) a b (Nat.le_refl _)
      · split
        · exact Sz.one (by omega)
        · exact Sz.zero (by omega)
    · unfold onL
      split
      · unfold Chn.rhs
        split
        · split
          · exact Sz.one (by omega)
          · exact Sz.zero (by omega)
        · exact Sz.one (by omega)
      · exact Sz.zero (by omega)) (c.nd + 1) (Nat.le_refl _) s c.nd hs (by omega)
  have h1 := gl_mono (L := 20) (show c.nd + 1 ≤ 10 by omega)
  have h2 : gl 20 10 ≤ 21400000 := by decide +kernel
  exact hg.more (by omega)
theorem Chn.sol_far {c : Chn} (h0 : c.codeA = 0) (back : Bool) {s : Nat} (hs : c.nd ≤ s) : c.sol back s = 0 := by
  refine solC_off _ ?_
  cases hl : c.lv s
  · rfl
  · have := Chn.lv_ln (Chn.codeA_ok h0) s hl
    omega
/-- .. over one denominator -/
theorem Small.sol_fz (h : Small c) (h0 : c.codeA = 0) (back : Bool) : FzL 220000000 (c.sol back) := by
  have hn := h.nd (Chn.codeA_ok h0)
  obtain ⟨L, hL⟩ : ∃ L, L = 21400000 := ⟨_, rfl⟩
  have hsz : ∀ s, s < c.nd → Sz L (c.sol back s) := fun s hs => by rw [hL]; exact h.sol_sz h0 back hs
  have h1 := FzL.of_sz (v := c.sol back) (n := c.nd) (L := L) hsz (fun s hs => Chn.sol_far h0 back hs) (by omega)
  have h2 : c.nd * L ≤ 9 * L := Nat.mul_le_mul_right _ hn
  obtain ⟨M, hM⟩ : ∃ M, M = 220000000 := ⟨_, rfl⟩
  have h3 : c.nd * L + L + 1 ≤ M := by omega
  rw [← hM]
  exact h1.more h3
end
end Go.Proofs.YtomkdgcpmpbfhaaDoor
namespace Go.Proofs.YtomkdgcpmpbfhaaDoor
set_option linter.unusedSimpArgs false
set_option linter.unusedVariables false
/-! ## what Ends needs of a chain (plain) -/
structure EndS (c : Chn) : Prop where
  sys : SysS c
  vi : c.codeA = 0 → ∀ s, Sz 220000100 (c.visits s)
  ek : c.codeA = 0 → ∀ k, k ≤ c.nm → ∀ s, Sz 220000100 (endK (fun k => c.lv (c.f k) && c.D (c.t k)) c.t (fun k => c.q k * c.visits (c.f k)) c.end0 k s)
  pr : c.codeA = 0 → ∀ k, k < c.nm → ∀ s, Sz 220000100 (c.q k * c.visits s)
theorem Chn.end01z (c : Chn) (s : Nat) : c.end0 s = 0 ∨ c.end0 s = 1 := by
  unfold Chn.end0 upd
  split
  · split
    · exact .inr rfl
    · exact .inl rfl
  · exact .inl rfl
theorem Small.endS {c : Chn} (h : Small c) : EndS c :=
  ⟨h.sysS, fun h0 s => ((h.sol_fz h0 true : FzL 220000000 c.visits).sz (by omega) s).more (by omega),
    fun h0 k hk s => (((h.sol_fz h0 true).endK (F := c.f) (T := c.t) (B := fun k => c.lv (c.f k) && c.D (c.t k)) (h.rts (Chn.codeA_ok h0)) c.end01z k hk).sz (by omega) s).more (by omega),
    fun h0 k hk s => ((h.sol_fz h0 true).prod (h.rts (Chn.codeA_ok h0)) hk s).more (by omega)⟩
end Go.Proofs.YtomkdgcpmpbfhaaDoor
namespace Go.Proofs.YtomkdgcpmpbfhaaDoor
set_option linter.unusedSimpArgs false
set_option linter.unusedVariables false
/-! ## a chain with multiplied rates (plain) -/
def Chn.mul (c : Chn) (f : Rat) : Chn := ⟨c.st, c.sr, c.nm, c.F, c.T, fun k => canR (c.q k * f), c.nd, c.D⟩
theorem exK_mul {F : Nat → Nat} {q : Nat → Rat} {f : Rat} {s : Nat} : ∀ k, exK F (fun k => q k * f) s k = exK F q s k * f
  | 0 => by unfold exK; grind
  | k + 1 => by
    have ih := exK_mul (F := F) (q := q) (f := f) (s := s) k
    unfold exK
    rw [ih]
    split <;> grind
theorem sysK_mul {l : Nat → Bool} {F T : Nat → Nat} {q : Nat → Rat} {f : Rat} {back : Bool} {i j : Nat} : ∀ k, sysK l F T (fun k => q k * f) back k i j = sysK l F T q back k i j * f
  | 0 => by unfold sysK; grind
  | k + 1 => by
    have ih := sysK_mul (l := l) (F := F) (T := T) (q := q) (f := f) (back := back) (i := i) (j := j) k
    unfold sysK
    rw [ih]
    split <;> split <;> grind
section
variable {c : Chn} {f : Rat}
theorem Chn.mul_q : (c.mul f).q = fun k => c.q k * f := by funext k; exact valR_canR _
theorem Chn.mul_ok (ok : c.Ok) (hf : 0 < f) : (c.mul f).Ok := by
  refine ⟨ok.lo, ok.hi, ok.st, ok.s0, ok.s1, fun k hk => ?_⟩
  have := ok.mv k hk
  refine ⟨this.1, this.2.1, this.2.2.1, this.2.2.2.1, this.2.2.2.2.1, ?_, this.2.2.2.2.2.2⟩
  rw [Chn.mul_q]
  exact Rat.mul_pos this.2.2.2.2.2.1 hf
theorem Chn.mul_A (h : c.codeA = 0) (hf : 0 < f) : (c.mul f).codeA = 0 :=
  Chn.codeA_z (Chn.ok_iff.2 (Chn.mul_ok (Chn.codeA_ok h) hf)) (Chn.codeA_0 h).2
theorem Chn.mul_times (h : c.codeA = 0) (hf : 0 < f) (s : Nat) : c.times s = (c.mul f).times s * f := by
  have := (Chn.abS h).scale_sol (back := false) hf (fun _ => 1) s
  rw [← Chn.mul_q] at this
  exact this
theorem Chn.mul_visits (h : c.codeA = 0) (hf : 0 < f) (s : Nat) : c.visits s = (c.mul f).visits s * f := by
  have := (Chn.abS h).scale_sol (back := true) hf (fun s => if s = c.sr.toNat then 1 else 0) s
  rw [← Chn.mul_q] at this
  exact this
theorem Chn.mul_flow (h : c.codeA = 0) (hf : 0 < f) (k s : Nat) : (c.mul f).q k * (c.mul f).visits s = c.q k * c.visits s := by
  rw [Chn.mul_q, Chn.mul_visits h hf s]
  show c.q k * f * _ = _
  grind
theorem Chn.mul_endK (h : c.codeA = 0) (hf : 0 < f) (k : Nat) : endK (fun k => (c.mul f).lv ((c.mul f).f k) && (c.mul f).D ((c.mul f).t k)) (c.mul f).t (fun k => (c.mul f).q k * (c.mul f).visits ((c.mul f).f k)) (c.mul f).end0 k = endK (fun k => c.lv (c.f k) && c.D (c.t k)) c.t (fun k => c.q k * c.visits (c.f k)) c.end0 k := by
  have e : (fun k => (c.mul f).q k * (c.mul f).visits ((c.mul f).f k)) = fun k => c.q k * c.visits (c.f k) := by
    funext k
    exact Chn.mul_flow h hf k (c.f k)
  rw [e]
  rfl
theorem Chn.mul_ends (h : c.codeA = 0) (hf : 0 < f) : (c.mul f).ends = c.ends := Chn.mul_endK h hf c.nm
theorem mul_div {x y f : Rat} (hf : 0 < f) (h : x = y * f) : y = x / f := by
  have h1 : f ≠ 0 := fun e => by rw [e] at hf; exact absurd hf (by decide)
  rw [h, Rat.div_def, Rat.mul_assoc, Rat.mul_inv_cancel f h1, Rat.mul_one]
variable (hS : Small c) (hf : 0 < f) (hfs : Sz 1 f)
include hS hfs in
theorem Small.mul_raw (k : Nat) (hk : k < c.nm) : ((c.mul f).R k).2.1.length ≤ 2 ∧ ((c.mul f).R k).2.2.length ≤ 2 :=
  Sz_canR ((Sz_valR (hS.ok k hk) (by omega) (hS.raw k hk).1 (hS.raw k hk).2 : Sz 1 (c.q k)).mul hfs (by omega))
include hS hfs in
theorem Small.mul_siz (ok : c.Ok) : SizC (c.mul f) 400 :=
  ⟨by have := hS.nm; show c.nm ≤ _; omega, by omega, by omega, fun k hk => by have := hS.mul_raw hfs k hk; omega, fun s k hk => by
    rw [Chn.mul_q]
    show Sz 400 (exK c.f (fun k => c.q k * f) s k)
    rw [exK_mul]
    exact ((exK_sz (hS.rts ok) s hk).mul hfs (by omega)).more (by omega)⟩
include hS hfs in
theorem Small.mul_sysS (h : c.codeA = 0) : SysS (c.mul f) := by
  have ok := Chn.codeA_ok h
  refine ⟨⟨by have := hS.nm; show c.nm ≤ _; omega, fun k hk => by have := hS.mul_raw hfs k hk; omega, fun _ => hS.mul_siz hfs ok⟩, fun _ => hS.nd ok, fun _ back k hk i j => ?_⟩
  rw [Chn.mul_q]
  show Sz 400 (sysK c.lv c.f c.t (fun k => c.q k * f) back k i j)
  rw [sysK_mul]
  exact ((sysK_sz (hS.rts ok) i j hk).mul hfs (by omega)).more (by omega)
include hS hf hfs in
theorem Small.mul_tS (h : c.codeA = 0) (s : Nat) : Sz 220000100 ((c.mul f).times s) := by
  rw [mul_div hf (Chn.mul_times h hf s)]
  exact ((((hS.sol_fz h false : FzL 220000000 c.times)).sz (by omega) s).div hfs (by omega)).more (by omega)
include hS hf hfs in
theorem Small.mul_vS (h : c.codeA = 0) (s : Nat) : Sz 220000100 ((c.mul f).visits s) := by
  rw [mul_div hf (Chn.mul_visits h hf s)]
  exact ((((hS.sol_fz h true : FzL 220000000 c.visits)).sz (by omega) s).div hfs (by omega)).more (by omega)
include hS hf hfs in
theorem Small.mul_endS (h : c.codeA = 0) : EndS (c.mul f) :=
  ⟨hS.mul_sysS hfs h, fun _ s => hS.mul_vS hf hfs h s, fun _ k hk s => by rw [Chn.mul_endK h hf]; exact hS.endS.ek h k hk s, fun _ k hk s => by rw [Chn.mul_flow h hf]; exact hS.endS.pr h k hk s⟩
end
end Go.Proofs.YtomkdgcpmpbfhaaDoor
