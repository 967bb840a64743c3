/- Contracts of functions and lemmas, used by the proofs of the given statements. No condition beyond those that each lemma names. -/
import Derived.Test.YtglpknhcneggeaaGreatDoorJLinA0
import Derived.Test.YtglpknhcneggeaaGreatDoorJTrP
namespace Go.Proofs.YtglpknhcneggeaaGreatDoor
open Go.RowKit
set_option linter.unusedSimpArgs false
set_option linter.unusedVariables false
/-! ## chains in memory -/
def int64 (z : Int) : Value := .int .i64 z
def cellM (f t : Int) (v : Value) : List Value := .int .i64 f :: .int .i64 t :: c3 v
/-- the cells of moves -/
def cellsM (n : Nat) (F T : Nat → Int) (V : Nat → Value) : List Value := (List.range n).flatMap fun k => cellM (F k) (T k) (V k)
theorem cellsM_zero (F T : Nat → Int) (V : Nat → Value) : cellsM 0 F T V = [] := rfl
theorem cellsM_succ (n : Nat) (F T : Nat → Int) (V : Nat → Value) : cellsM (n + 1) F T V = cellsM n F T V ++ cellM (F n) (T n) (V n) := by simp [cellsM, List.range_succ]
theorem cellM_len {f t : Int} {v : Value} (h : isR v) : (cellM f t v).length = 5 := by simp [cellM, h.len]
theorem cellsM_congr {n : Nat} {F T F' T' : Nat → Int} {V U : Nat → Value} (h : ∀ k, k < n → F k = F' k ∧ T k = T' k ∧ V k = U k) : cellsM n F T V = cellsM n F' T' U := by
  induction n with
  | zero => rfl
  | succ n ih =>
    obtain ⟨h1, h2, h3⟩ := h n (by omega)
    rw [cellsM_succ, cellsM_succ, ih fun k hk => h k (by omega), h1, h2, h3]
theorem cellsM_length {n : Nat} {F T : Nat → Int} {V : Nat → Value} (h : ∀ k, k < n → isR (V k)) : (cellsM n F T V).length = n * 5 := by
  induction n with
  | zero => rfl
  | succ n ih => rw [cellsM_succ, List.length_append, ih fun k hk => h k (by omega), cellM_len (h n (by omega))]; omega
theorem cellsM_one {n : Nat} {F T : Nat → Int} {V : Nat → Value} (h : ∀ k, k < n → isR (V k)) : ∀ u ∈ cellsM n F T V, u.oneCell' = true := by
  intro u hu
  simp only [cellsM, List.mem_flatMap, List.mem_range] at hu
  obtain ⟨k, hk, hu⟩ := hu
  obtain ⟨s, A, a, c, B, b, d, e⟩ := h k hk
  rw [e] at hu
  simp [cellM, c3] at hu
  rcases hu with rfl | rfl | rfl | rfl | rfl <;> rfl
theorem cellsM_get {n : Nat} {F T : Nat → Int} {V : Nat → Value} (h : ∀ k, k < n → isR (V k)) {k : Nat} (hk : k < n) {s : Bool} {A : Option Addr} {a c : Nat} {B : Option Addr} {b d : Nat} (e : V k = rv s A a c B b d) :
    (cellsM n F T V)[k * 5]? = some (.int .i64 (F k)) ∧ (cellsM n F T V)[k * 5 + 1]? = some (.int .i64 (T k)) ∧ (cellsM n F T V)[k * 5 + 2]? = some (.bool s) ∧ (cellsM n F T V)[k * 5 + 3]? = some (.slice A a c) ∧ (cellsM n F T V)[k * 5 + 4]? = some (.slice B b d) := by
  induction n with
  | zero => omega
  | succ n ih =>
    have hl := cellsM_length (F := F) (T := T) fun k (hk : k < n) => h k (by omega)
    rw [cellsM_succ]
    rcases Nat.lt_or_ge k n with h1 | h1
    · have := ih (fun k hk => h k (by omega)) h1
      rw [List.getElem?_append_left (by omega), List.getElem?_append_left (by omega), List.getElem?_append_left (by omega), List.getElem?_append_left (by omega), List.getElem?_append_left (by omega)]
      exact this
    · have : k = n := by omega
      subst this
      rw [List.getElem?_append_right (by omega), List.getElem?_append_right (by omega), List.getElem?_append_right (by omega), List.getElem?_append_right (by omega), List.getElem?_append_right (by omega), hl, e]
      simp [cellM, c3]
theorem moveInfo : (Tryz.prog.info? 47).map (fun i => (i.zero, i.size, i.bytes)) = some (some (.agg #[.int .i64 0, .int .i64 0, .bool false, .slice none 0 0, .slice none 0 0]), 5, 72) := by kernel_rfl
/-- a slice that reads as moves -/
def MovA (w : World) (b0 : Nat) (A : Option Addr) (n : Nat) (F T : Nat → Int) (R : Nat → Rw) : Prop :=
  ∃ V, (∀ k, k < n → RdS w b0 (V k) (R k)) ∧ Rds w w.heap.size 5 A n (cellsM n F T V)
/-- .. in a row that a call has made -/
def OwM (w : World) (b0 : Nat) (A : Option Addr) (c n : Nat) (F T : Nat → Int) (R : Nat → Rw) : Prop :=
  ∃ V, (∀ k, k < n → RdS w b0 (V k) (R k)) ∧ w.ownsRow b0 47 5 (.slice A n c) n (cellsM n F T V)
/-- .. that came in -/
def MovI (w : World) (b0 : Nat) (A : Option Addr) (n : Nat) (F T : Nat → Int) (R : Nat → Rw) : Prop := MovA w b0 A n F T R ∧ BlkIn (fun b => b < b0) A n
section
variable {b0 b1 n c g : Nat} {w w' : World} {A : Option Addr} {F T F' T' : Nat → Int} {R U : Nat → Rw}
theorem MovA.nil_ (w : World) (b0 : Nat) (A : Option Addr) (F T : Nat → Int) (R : Nat → Rw) : MovA w b0 A 0 F T R := ⟨fun _ => .nilIface, fun _ h => by omega, Rds.nil_ w _ 5 A⟩
theorem OwM.nil_ (w : World) (b0 : Nat) (F T : Nat → Int) (R : Nat → Rw) : OwM w b0 none 0 0 F T R := ⟨fun _ => .nilIface, fun _ h => by omega, own_nil w b0 _ 5⟩
theorem MovA.congr (h : MovA w b0 A n F T R) (e : ∀ k, k < n → F k = F' k ∧ T k = T' k ∧ R k = U k) : MovA w b0 A n F' T' U := by
  obtain ⟨V, h1, h2⟩ := h
  exact ⟨V, fun k hk => (e k hk).2.2 ▸ h1 k hk, by rw [cellsM_congr (V := V) (U := V) fun k hk => ⟨(e k hk).1, (e k hk).2.1, rfl⟩] at h2; exact h2⟩
theorem OwM.congr (h : OwM w b0 A c n F T R) (e : ∀ k, k < n → F k = F' k ∧ T k = T' k ∧ R k = U k) : OwM w b0 A c n F' T' U := by
  obtain ⟨V, h1, h2⟩ := h
  exact ⟨V, fun k hk => (e k hk).2.2 ▸ h1 k hk, by rw [cellsM_congr (V := V) (U := V) fun k hk => ⟨(e k hk).1, (e k hk).2.1, rfl⟩] at h2; exact h2⟩
theorem OwM.ra (h : OwM w b0 A c n F T R) : MovA w b0 A n F T R := by
  obtain ⟨V, h1, h2⟩ := h
  exact ⟨V, h1, Rds.of_own h2⟩
theorem OwM.cap (h : OwM w b0 A c n F T R) : n ≤ c := by
  obtain ⟨V, h1, h2⟩ := h
  obtain ⟨A', c', e, h2⟩ := own_form h2
  injection e with _ _ e3
  omega
theorem MovA.below (h : MovA w b0 A n F T R) (hb : Below w.heap.size w w') : MovA w' b0 A n F T R := by
  obtain ⟨V, h1, h2⟩ := h
  exact ⟨V, fun k hk => (h1 k hk).kp (Kp.of_below hb), Rds.more (Rds.below h2 hb) hb.size⟩
theorem OwM.below (h : OwM w b0 A c n F T R) (hb : Below w.heap.size w w') : OwM w' b0 A c n F T R := by
  obtain ⟨V, h1, h2⟩ := h
  exact ⟨V, fun k hk => (h1 k hk).kp (Kp.of_below hb), own_below h2 hb⟩
theorem MovA.base (h : MovA w b0 A n F T R) (hb : b0 ≤ b1) : MovA w b1 A n F T R := by
  obtain ⟨V, h1, h2⟩ := h
  exact ⟨V, fun k hk => (h1 k hk).base hb, h2⟩
theorem MovI.kp (h : MovI w b0 A n F T R) (k : Kp b0 w w') : MovI w' b0 A n F T R := by
  obtain ⟨⟨V, h1, h2⟩, h3⟩ := h
  exact ⟨⟨V, fun i hi => (h1 i hi).kp k, Rds.kp h2 h3 k⟩, h3⟩
theorem MovA.blk (h : MovA w b0 A n F T R) : BlkIn (fun b => b < w.heap.size) A n := by
  obtain ⟨V, h1, h2⟩ := h
  intro hn a ha
  obtain ⟨b, off, e, hb, _⟩ := h2.2 hn
  rw [e] at ha; injection ha with ha; subst ha
  exact hb
/-- as a call finds it -/
theorem MovA.mi (h : MovA w b0 A n F T R) (hb : b0 ≤ w.heap.size) : MovI w w.heap.size A n F T R := ⟨h.base hb, h.blk⟩
theorem MovI.below (h : MovI w w.heap.size A n F T R) (hb : Below w.heap.size w w') : MovI w' w'.heap.size A n F T R := (h.1.below hb).mi hb.size
/-- element k -/
theorem MovA.at_ (h : MovA w b0 A n F T R) {k : Nat} (hk : k < n) : ∃ b off s A1 n1 c1 B1 m1 d1, A = some ⟨b, off, none⟩ ∧ b < w.heap.size ∧ w.cell? ⟨b, off + k * 5, none⟩ = some (.int .i64 (F k)) ∧ w.cell? ⟨b, off + k * 5 + 1, none⟩ = some (.int .i64 (T k)) ∧ w.cell? ⟨b, off + k * 5 + 2, none⟩ = some (.bool s) ∧ w.cell? ⟨b, off + k * 5 + 3, none⟩ = some (.slice A1 n1 c1) ∧ w.cell? ⟨b, off + k * 5 + 4, none⟩ = some (.slice B1 m1 d1) ∧ RdS w b0 (rv s A1 n1 c1 B1 m1 d1) (R k) := by
  obtain ⟨V, h1, h2⟩ := h
  obtain ⟨b, off, e, hb, hc⟩ := h2.2 (by omega)
  have hv := h1 k hk
  obtain ⟨s, A1, n1, c1, B1, m1, d1, ev⟩ := hv.form
  rw [ev] at hv
  obtain ⟨g0, g1, g2, g3, g4⟩ := cellsM_get (F := F) (T := T) (fun k hk => (h1 k hk).isR) hk ev
  exact ⟨b, off, s, A1, n1, c1, B1, m1, d1, e, hb, hc _ _ g0, by rw [Nat.add_assoc]; exact hc _ _ g1, by rw [Nat.add_assoc]; exact hc _ _ g2, by rw [Nat.add_assoc]; exact hc _ _ g3, by rw [Nat.add_assoc]; exact hc _ _ g4, hv⟩
end
/-- a chain, as it lies there -/
structure Chn where
  st : Int
  sr : Int
  nm : Nat
  F : Nat → Int
  T : Nat → Int
  R : Nat → Rw
  nd : Nat
  D : Nat → Bool
def Chn.q (c : Chn) (k : Nat) : Rat := valR (c.R k)
def Chn.code (c : Chn) : Int := codeC c.st c.sr c.nm c.F c.T c.q c.nd
def bools (n : Nat) (D : Nat → Bool) : List Value := (List.range n).map fun i => .bool (D i)
theorem bools_length (n : Nat) (D : Nat → Bool) : (bools n D).length = n := by simp [bools]
theorem bools_get {n : Nat} {D : Nat → Bool} {i : Nat} (h : i < n) : (bools n D)[i]? = some (.bool (D i)) := by simp [bools, h]
abbrev cv (st sr : Int) (AM : Option Addr) (nm cm : Nat) (AD : Option Addr) (nd cd : Nat) : Value := .agg #[.int .i64 st, .int .i64 sr, .slice AM nm cm, .slice AD nd cd]
/-- a chain that came in (what lies ahead of b0) -/
structure ChI (w : World) (b0 : Nat) (AM : Option Addr) (cm : Nat) (AD : Option Addr) (cd : Nat) (c : Chn) : Prop where
  mv : MovI w b0 AM c.nm c.F c.T c.R
  dn : Rds w w.heap.size 1 AD c.nd (bools c.nd c.D)
  db : BlkIn (fun b => b < b0) AD c.nd
  cm : c.nm ≤ cm
  cd : c.nd ≤ cd
section
variable {w w' : World} {b0 cm cd : Nat} {AM AD : Option Addr} {c : Chn}
theorem ChI.kp (h : ChI w b0 AM cm AD cd c) (k : Kp b0 w w') : ChI w' b0 AM cm AD cd c := ⟨h.mv.kp k, Rds.kp h.dn h.db k, h.db, h.cm, h.cd⟩
theorem ChI.below (h : ChI w w.heap.size AM cm AD cd c) (hb : Below w.heap.size w w') : ChI w' w'.heap.size AM cm AD cd c :=
  ⟨h.mv.below hb, Rds.more (Rds.below h.dn hb) hb.size, fun hn a ha => Nat.lt_of_lt_of_le (h.db hn a ha) hb.size, h.cm, h.cd⟩
theorem ChI.down (h : ChI w b0 AM cm AD cd c) {k : Nat} (hk : k < c.nd) : ∃ b off, AD = some ⟨b, off, none⟩ ∧ b < w.heap.size ∧ b < b0 ∧ w.cell? ⟨b, off + k, none⟩ = some (.bool (c.D k)) := by
  obtain ⟨b, off, e, hb, hc⟩ := h.dn.2 (by omega)
  exact ⟨b, off, e, hb, h.db (by omega) _ e, hc _ _ (bools_get hk)⟩
end
end Go.Proofs.YtglpknhcneggeaaGreatDoor
