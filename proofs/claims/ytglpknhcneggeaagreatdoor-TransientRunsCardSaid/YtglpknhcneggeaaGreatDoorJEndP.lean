/- Contracts of functions and lemmas, used by the proofs of the given statements. No condition beyond those that each lemma names. -/
import Derived.Test.YtglpknhcneggeaaGreatDoorJLawTrV
import Derived.Test.YtglpknhcneggeaaGreatDoorJTrP
import Derived.Test.YtglpknhcneggeaaGreatDoorChX
namespace Go.Proofs.YtglpknhcneggeaaGreatDoor
open Go.RowKit
set_option linter.unusedSimpArgs false
set_option linter.unusedVariables false
set_option maxRecDepth 20000
attribute [local irreducible] nv wp win plainB validR valR canR mvE chkM codeC dsum
/-! ### a chain with some of its moves -/
def Chn.some (c : Chn) (B : Nat → Bool) : Chn :=
  ⟨c.st, c.sr, cntB B c.nm, fun i => c.F (ixB B c.nm i), fun i => c.T (ixB B c.nm i), fun i => c.R (ixB B c.nm i), c.nd, c.D⟩
/-- .. without the moves out of down states -/
def Chn.ending (c : Chn) : Chn := c.some (c.act true)
section
variable {c : Chn} {B : Nat → Bool}
theorem lexM {F T : Nat → Int} {n : Nat} (h : ∀ k, k < n → 0 < k → F (k - 1) < F k ∨ F (k - 1) = F k ∧ T (k - 1) < T k) {a : Nat} : ∀ {b : Nat}, a < b → b < n → F a < F b ∨ F a = F b ∧ T a < T b
  | b + 1, h1, h2 => by
    have hb := h (b + 1) h2 (by omega)
    rw [Nat.add_sub_cancel] at hb
    by_cases e : a = b
    · rw [e]; exact hb
    · have := lexM h (a := a) (b := b) (by omega) (by omega)
      omega
theorem Chn.some_ok (ok : c.Ok) : (c.some B).Ok := by
  refine ⟨ok.lo, ok.hi, ok.st, ok.s0, ok.s1, fun k hk => ?_⟩
  have h1 := ixB_lt (B := B) (n := c.nm) (i := k) hk
  have h2 := ok.mv _ h1.1
  refine ⟨h2.1, h2.2.1, h2.2.2.1, h2.2.2.2.1, h2.2.2.2.2.1, h2.2.2.2.2.2.1, fun h0 => ?_⟩
  exact lexM (fun k hk h0 => (ok.mv k hk).2.2.2.2.2.2 h0) (ixB_mono (i := k - 1) (j := k) (by omega) hk) h1.1
theorem stp_some {F T : Nat → Nat} {v sh : Nat → Rat} {n : Nat} : ∀ {k : Nat}, k ≤ n → stp (fun _ => true) (fun i => F (ixB B n i)) (fun i => T (ixB B n i)) v (fun i => sh (ixB B n i)) (cntB B k) = stp B F T v sh k
  | 0, _ => rfl
  | k + 1, hk => by
    have ih := stp_some (F := F) (T := T) (v := v) (sh := sh) (n := n) (k := k) (by omega)
    cases hb : B k
    · rw [cntB_no hb, ih, stp_no hb]
    · rw [cntB_yes hb]
      funext s
      simp only [stp, hb, if_true]
      rw [ixB_new (by omega) hb, ih]
theorem stepV_some {v : Nat → Rat} {r : Rat} : stepV (fun _ => true) (c.some B).f (c.some B).t (c.some B).q r (c.some B).nm v = stepV B c.f c.t c.q r c.nm v := by
  unfold stepV
  rw [← stp_some (B := B) (Nat.le_refl c.nm)]
  rfl
theorem runV_some {v : Nat → Rat} {r : Rat} : ∀ k, runV (fun _ => true) (c.some B).f (c.some B).t (c.some B).q r (c.some B).nm v k = runV B c.f c.t c.q r c.nm v k
  | 0 => rfl
  | k + 1 => by rw [runV, runV, runV_some k, stepV_some]
theorem Chn.ending_run (c : Chn) (r : Rat) (k : Nat) : c.ending.run false r k = c.run true r k := by
  unfold Chn.run
  rw [Chn.act_f]
  exact runV_some k
theorem Chn.ending_dn (c : Chn) (r : Rat) (k : Nat) : c.ending.dn false r k = c.dn true r k := by
  unfold Chn.dn
  rw [Chn.ending_run]
  rfl
theorem exK_some {F : Nat → Nat} {q : Nat → Rat} {s n : Nat} (hq : ∀ j, j < n → 0 ≤ q j) : ∀ {k : Nat}, k ≤ n → exK (fun i => F (ixB B n i)) (fun i => q (ixB B n i)) s (cntB B k) ≤ exK F q s k
  | 0, _ => Rat.le_refl
  | k + 1, hk => by
    have ih := exK_some (F := F) (q := q) (s := s) hq (k := k) (by omega)
    have h0 := hq k (by omega)
    cases hb : B k
    · rw [cntB_no hb]
      conv => rhs; unfold exK
      split
      · grind
      · exact ih
    · rw [cntB_yes hb]
      simp only [exK]
      rw [ixB_new (by omega) hb]
      split
      · grind
      · exact ih
theorem Chn.some_fast (ok : c.Ok) : (c.some B).fast ≤ c.fast := by
  unfold Chn.fast
  refine maxF_le fun j hj => Rat.le_trans ?_ (maxF_ge hj)
  exact exK_some (fun j hj => Rat.le_of_lt (ok.mv j hj).2.2.2.2.2.1) (Nat.le_refl _)
theorem Chn.some_codeR {r : Rw} (h : c.codeR r = 0) : (c.some B).codeR r = 0 := by
  have h1 := Chn.codeR_0 h
  have ok := Chn.ok_iff.1 h1.1
  unfold Chn.codeR
  rw [if_neg (by have := Chn.ok_iff.2 (Chn.some_ok (B := B) ok); omega), if_neg]
  rintro (h2 | h2)
  · exact h2 h1.2.1
  · have := Chn.some_fast (B := B) ok
    have h3 := h1.2.2
    grind
theorem Chn.some_codeN {r : Rw} {n : Int} (h : c.codeN r n = 0) : (c.some B).codeN r n = 0 := by
  have h1 := Chn.codeN_0 h
  unfold Chn.codeN
  rw [if_neg (by have := Chn.some_codeR (B := B) h1.1; omega), if_neg (by omega)]
theorem Small.some (h : Small c) (ok : c.Ok) : Small (c.some B) :=
  ⟨Nat.le_trans cntB_le h.nm, fun k hk => h.raw _ (ixB_lt hk).1, fun k hk => h.ok _ (ixB_lt hk).1, fun h6 k hk => h.den (Nat.lt_of_lt_of_le h6 cntB_le) _ (ixB_lt hk).1, fun _ => h.nd ok⟩
end
end Go.Proofs.YtglpknhcneggeaaGreatDoor
namespace Go.Proofs.YtglpknhcneggeaaGreatDoor
open Go.RowKit
set_option linter.unusedSimpArgs false
set_option linter.unusedVariables false
set_option maxRecDepth 20000
attribute [local irreducible] nv wp win plainB validR valR canR
/-! ## rows of moves that grow, blocks of a kind -/
/-- what kind of block it is -/
def TyB (t : TypeId) (w : World) (g : Nat) : Prop := ∃ cur fz, w.heap[g]? = some (.cells cur t fz)
section
variable {t : TypeId} {w w' : World} {g b0 : Nat}
theorem TyB.below {B : Nat} (h : TyB t w g) (hb : Below B w w') (hg : g < B) : TyB t w' g := by
  obtain ⟨cur, fz, h⟩ := h
  exact ⟨cur, fz, (hb.block g hg).trans h⟩
theorem TyB.new (w : World) (cs : Array Value) : TyB t (w.alloc (.cells cs t)) w.heap.size := ⟨cs, _, heap_alloc_new w _⟩
theorem TyB.set (h : TyB t w g) (b o : Nat) (u : Value) : TyB t (w.setCell ⟨b, o, none⟩ u) g := by
  obtain ⟨cur, fz, h⟩ := h
  by_cases e : b = g
  · subst e
    refine ⟨cur.setIfInBounds o u, fz, ?_⟩
    simp [World.setCell, Array.getElem?_modify, h]
  · refine ⟨cur, fz, ?_⟩
    simp [World.setCell, Array.getElem?_modify, h, e]
theorem TyB.lt (h : TyB t w g) : g < w.heap.size := by
  obtain ⟨cur, fz, h⟩ := h
  exact (Array.getElem?_eq_some_iff.1 h).1
theorem TyB.grown (h : TyB t w g) {row : Option Nat} (hg : w.grownBy w' row) (hr : some g ≠ row) : TyB t w' g := by
  have hl := h.lt
  obtain ⟨cur, fz, h⟩ := h
  exact ⟨cur, fz, (hg.block g hl hr).trans h⟩
/-- a store into a block that holds no words -/
theorem Kp.set1 (h : TyB t w g) (ht : t ≠ 74) (hb : b0 ≤ g) (o : Nat) (u : Value) : Kp b0 w (w.setCell ⟨g, o, none⟩ u) := by
  obtain ⟨cur, fz, h⟩ := h
  exact (Kp.refl b0 w).store (p := ⟨g, o, none⟩) h ht hb u
end
theorem OwM.blockA {w : World} {b0 c n : Nat} {A : Option Addr} {F T : Nat → Int} {R : Nat → Rw} {a : Addr} (h : OwM w b0 A c n F T R) (ha : A = some a) : b0 ≤ a.block ∧ ∃ cur, w.heap[a.block]? = some (.cells cur 47 (0, 0)) := by
  subst ha
  obtain ⟨V, h1, h2⟩ := h
  rcases h2.2 with ⟨h, _⟩ | ⟨g', cap, cur, e, hb, hg, _⟩
  · cases h
  · injection e with e
    injection e with e
    subst e
    exact ⟨hb, cur, hg⟩
theorem Kp.of_grownT {t : TypeId} {w w' : World} {b0 : Nat} (ht : t ≠ 74) {row : Option Nat} (h : w.grownBy w' row) (hr : ∀ k, row = some k → b0 ≤ k ∧ ∃ cur, w.heap[k]? = some (.cells cur t (0, 0))) : Kp b0 w w' := by
  cases row with
  | none => exact ⟨h.os, h.tape, h.output, h.size, fun k hk _ => h.block k hk (by simp)⟩
  | some g =>
    obtain ⟨h1, cur, h2⟩ := hr g rfl
    exact Kp.grown h h1 h2 ht
theorem OwM.snoc {w w1 : World} {b0 n c' g' : Nat} {F T : Nat → Int} {R : Nat → Rw} {V : Nat → Value} {f t : Int} {v : Value} {r : Rw} (hV : ∀ k, k < n → RdS w b0 (V k) (R k)) (hr : RdS w b0 v r) (hk : Kp b0 w w1)
    (h : w1.ownsRow b0 47 5 (.slice (some ⟨g', 0, none⟩) (n + 1) c') (n + 1) (cellsM n F T V ++ cellM f t v)) : OwM w1 b0 (some ⟨g', 0, none⟩) c' (n + 1) (upd F n f) (upd T n t) (upd R n r) := by
  refine ⟨upd V n v, fun k hkn => ?_, ?_⟩
  · by_cases e : k = n
    · subst e; rw [upd_same, upd_same]; exact hr.kp hk
    · rw [upd_ne _ _ e, upd_ne _ _ e]; exact (hV k (by omega)).kp hk
  · rw [cellsM_succ, upd_same, upd_same, upd_same, cellsM_congr (F' := F) (T' := T) (U := V) fun j hj => ⟨upd_ne _ _ (by omega), upd_ne _ _ (by omega), upd_ne _ _ (by omega)⟩]
    exact h
/-- out = append(out, m) -/
theorem wpList_appM1 {w : World} {ops : Array Oper} {rest : List Oper} {o : Oper} {a : Act} {Q : Exit → Act → World → Prop} (hgd : o.guard = none) (s x : Operand)
    (ho : o.op = .call { callee := .builtin .append, args := #[s, x], argTypes := #[22, 22] })
    (b0 : Nat) (A : Option Addr) (c n : Nat) (F T : Nat → Int) (R : Nat → Rw) (hs : a.eval s = .slice A n c) (hown : OwM w b0 A c n F T R)
    (B : Nat) (f t : Int) (sg : Bool) (A1 : Option Addr) (n1 c1 : Nat) (B1 : Option Addr) (m1 d1 : Nat) (r : Rw) (hx : a.eval x = .slice (some ⟨B, 0, none⟩) 1 1)
    (hc0 : w.cell? ⟨B, 0, none⟩ = some (.int .i64 f)) (hc1 : w.cell? ⟨B, 1, none⟩ = some (.int .i64 t)) (hc2 : w.cell? ⟨B, 2, none⟩ = some (.bool sg)) (hc3 : w.cell? ⟨B, 3, none⟩ = some (.slice A1 n1 c1)) (hc4 : w.cell? ⟨B, 4, none⟩ = some (.slice B1 m1 d1)) (hr : RdS w b0 (rv sg A1 n1 c1 B1 m1 d1) r)
    (hn : n ≤ 1000000) (hbase : b0 ≤ w.heap.size)
    (h : ∀ g cap w', OwM w' b0 (some ⟨g, 0, none⟩) cap (n + 1) (upd F n f) (upd T n t) (upd R n r) → w.grownBy w' (Value.slice A n c).ownBlock → ((Value.slice A n c).ownBlock = some g ∨ w.heap.size ≤ g) → g < w'.heap.size → wpList Tryz.prog ops Q rest (a.put o.dst (.slice (some ⟨g, 0, none⟩) (n + 1) cap)) w') : wpList Tryz.prog ops Q (o :: rest) a w := by
  obtain ⟨i0, hi0, hz0, hz1, hz2⟩ := info_parts moveInfo
  have hown0 := hown
  obtain ⟨V, hV, hown⟩ := hown
  refine wpList_append_lies _ hgd s x 22 ho b0 47 i0 _ 5 72 Tryz.underlying22 hi0 hz0 hz1 hz2 rfl (by omega) _ n _ hs hown ⟨B, 0, none⟩ 1 1 (cellM f t (rv sg A1 n1 c1 B1 m1 d1)) hx rfl ?_ ?_ (by omega) (by unfold maxLen; omega) (by omega) hbase w.heap.size rfl ?_
  · intro j u hu
    rw [addr_add, Nat.zero_add]
    match j, hu with
    | 0, hu => simp [cellM, c3] at hu; subst hu; exact hc0
    | 1, hu => simp [cellM, c3] at hu; subst hu; exact hc1
    | 2, hu => simp [cellM, c3] at hu; subst hu; exact hc2
    | 3, hu => simp [cellM, c3] at hu; subst hu; exact hc3
    | 4, hu => simp [cellM, c3] at hu; subst hu; exact hc4
    | j + 5, hu => simp [cellM, c3] at hu
  · intro u hu
    simp [cellM, c3] at hu
    rcases hu with rfl | rfl | rfl | rfl | rfl <;> rfl
  · intro g cap w' h1 h2 h3 h4
    refine h g cap w' (OwM.snoc hV hr (Kp.of_grownT (t := 47) (by decide) h2 ?_) h1) h2 (h3.imp id fun e => by omega) h4
    intro k hk
    cases e : A with
    | none => rw [e] at hk; cases hk
    | some a =>
      rw [e] at hk
      injection hk with hk
      subst hk
      exact hown0.blockA e
/-- four cells of a block are stored -/
theorem same4 {w : World} {g : Nat} {u0 u1 u2 u3 : Value} (a b d e : Value) (z0 : w.cell? ⟨g, 0, none⟩ = some u0) (z1 : w.cell? ⟨g, 1, none⟩ = some u1) (z2 : w.cell? ⟨g, 2, none⟩ = some u2) (z3 : w.cell? ⟨g, 3, none⟩ = some u3) :
    (w.setCell ⟨g, 0, none⟩ a).cell? ⟨g, 0, none⟩ = some a ∧ ((w.setCell ⟨g, 0, none⟩ a).setCell ⟨g, 1, none⟩ b).cell? ⟨g, 1, none⟩ = some b
    ∧ (((w.setCell ⟨g, 0, none⟩ a).setCell ⟨g, 1, none⟩ b).setCell ⟨g, 2, none⟩ d).cell? ⟨g, 2, none⟩ = some d ∧ ((((w.setCell ⟨g, 0, none⟩ a).setCell ⟨g, 1, none⟩ b).setCell ⟨g, 2, none⟩ d).setCell ⟨g, 3, none⟩ e).cell? ⟨g, 3, none⟩ = some e := by
  have n : ∀ {i j : Nat}, j ≠ i → (⟨g, i, none⟩ : Addr) ≠ ⟨g, j, none⟩ := fun h e => by injection e with _ e; omega
  refine ⟨World.cell?_setCell_same (u := u0) _ _ _ z0, World.cell?_setCell_same (u := u1) _ _ _ ?_, World.cell?_setCell_same (u := u2) _ _ _ ?_, World.cell?_setCell_same (u := u3) _ _ _ ?_⟩
  · rw [World.cell?_setCell_other (h := n (by omega))]; exact z1
  · rw [World.cell?_setCell_other (h := n (by omega)), World.cell?_setCell_other (h := n (by omega))]; exact z2
  · rw [World.cell?_setCell_other (h := n (by omega)), World.cell?_setCell_other (h := n (by omega)), World.cell?_setCell_other (h := n (by omega))]; exact z3
/-- three blocks that are new -/
theorem alloc3 (w : World) (c0 c1 c2 : Array Value) (t0 t1 t2 : TypeId) : ∃ W, W = ((w.alloc (.cells c0 t0)).alloc (.cells c1 t1)).alloc (.cells c2 t2) ∧ Below w.heap.size w W ∧ W.heap.size = w.heap.size + 3
    ∧ (∀ j, W.cell? ⟨w.heap.size, j, none⟩ = c0[j]?) ∧ (∀ j, W.cell? ⟨w.heap.size + 1, j, none⟩ = c1[j]?) ∧ (∀ j, W.cell? ⟨w.heap.size + 2, j, none⟩ = c2[j]?)
    ∧ (∀ j, W.frozen? ⟨w.heap.size + 1, j, none⟩ = false) ∧ (∀ j, W.frozen? ⟨w.heap.size + 2, j, none⟩ = false) ∧ TyB t1 W (w.heap.size + 1) ∧ TyB t2 W (w.heap.size + 2) := by
  refine ⟨_, rfl, (((Below.refl _ _).alloc (Nat.le_refl _) _).alloc (by simp) _).alloc (by simp; omega) _, by simp, fun j => ?_, fun j => ?_, fun j => ?_, fun j => ?_, fun j => ?_, ?_, ?_⟩
  · rw [World.cell?_alloc_past _ _ _ (by simp; omega), World.cell?_alloc_past _ _ _ (by simp), World.cell?_alloc_at _ _ _ _ rfl]
  · rw [World.cell?_alloc_past _ _ _ (by simp), World.cell?_alloc_at _ _ _ _ (by simp)]
  · rw [World.cell?_alloc_at _ _ _ _ (by simp)]
  · rw [World.frozen?_alloc_past _ _ _ (by simp), World.frozen?_alloc_at _ _ _ _ (by simp)]
  · rw [World.frozen?_alloc_at _ _ _ _ (by simp)]
  · have := TyB.new (t := t1) (w.alloc (.cells c0 t0)) c1
    rw [show (w.alloc (.cells c0 t0)).heap.size = w.heap.size + 1 by simp] at this
    exact this.below ((Below.refl _ _).alloc (Nat.le_refl _) _) (by simp)
  · have := TyB.new (t := t2) ((w.alloc (.cells c0 t0)).alloc (.cells c1 t1)) c2
    rwa [show ((w.alloc (.cells c0 t0)).alloc (.cells c1 t1)).heap.size = w.heap.size + 2 by simp] at this
/-- a store into another block -/
theorem OwM.set1 {ty : TypeId} {w : World} {b0 c n g : Nat} {A : Option Addr} {F T : Nat → Int} {R : Nat → Rw} (h : OwM w b0 A c n F T R) (hT : TyB ty w g) (ht : ty ≠ 74) (hb : b0 ≤ g) (hne : ∀ q, (Value.slice A n c).ownBlock = some q → q ≠ g) (o : Nat) (u : Value) : OwM (w.setCell ⟨g, o, none⟩ u) b0 A c n F T R := by
  obtain ⟨V, h1, h2⟩ := h
  refine ⟨V, fun k hk => (h1 k hk).kp (Kp.set1 hT ht hb o u), h2.kept (row := some g) ⟨rfl, rfl, rfl, by simp, fun k hk hk2 => Below.heap_setCell w ⟨g, o, none⟩ u k (fun e => hk2 (by rw [e]))⟩ ?_⟩
  cases e : (Value.slice A n c).ownBlock with
  | none => exact .inl rfl
  | some q => exact .inr fun e2 => hne q e (by injection e2)
end Go.Proofs.YtglpknhcneggeaaGreatDoor
