/- Contracts and lemmas for the given statements. Conditions: those alone that each names. -/
import Derived.Test.YtoiopnmphbnjaaaGreatDoorJLinRow
import Derived.ProofKit
import Derived.Lib.SmallJoins
import Derived.Deep.SlicePairs
import Derived.Deep.Slices
import Derived.Deep.Strs
import Derived.ChangeSlices
import Derived.Test.YtoiopnmphbnjaaaGreatDoorJBase
namespace Go.Proofs.YtoiopnmphbnjaaaGreatDoor
set_option linter.unusedSimpArgs false
open Go.ChangeShapes Go.WideShapes Go.ChangeAt Go.RowKit Go.Joins Go.Deep
set_option maxRecDepth 100000
set_option linter.unusedVariables false
/-! ## a matrix and a vector out of what a statement is handed -/
theorem laidOut : laidOutB Tryz.prog = true := by kernel_rfl
section
variable {H : Type} {enc : TypeId × Value → H} {W : World} {base : Nat}
theorem spot_none {a : Addr} {v : Value} (h : W.cell? (a.add 0) = some v) : ∃ b off, a = ⟨b, off, none⟩ := by
 obtain ⟨b, off, spot⟩ := a
 have : spot = none := by
   have := World.cell?_spot h
   simpa [Addr.add] using this
 subst this
 exact ⟨b, off, rfl⟩
theorem open_wordsC {fuel : Nat} {cs : List Value} {x : DataW H × List MemPlace} (h : DataW.trod enc Tryz.prog W 0 (fun _ => true) true fuel 54 cs = some x) :
   ∃ A c l, cs = [.slice A (List.length l) c] ∧ l.length ≤ c ∧ W32 l ∧ RdW W W.heap.size A l := by
 rcases open_ints Tryz.underlying54 Tryz.underlying157 (by kernel_rfl) h with ⟨rfl, _⟩ | ⟨a, len, cap, zs, rfl, _, hl, hm, hz, _, hc, hw⟩
 · exact ⟨none, 0, [], rfl, Nat.le_refl _, by intro x hx; simp at hx, Rds.nil_ _ _ _ _⟩
 · simp only [if_true] at hz
   have hwz : ∀ z ∈ zs, 0 ≤ z ∧ z < 4294967296 := fun z hz => by
     have := hw z hz
     simp [Lit.wf, IntKind.min, IntKind.max, IntKind.signed, IntKind.bits] at this
     omega
   obtain ⟨l, hl0⟩ : ∃ l, l = (zs.take len).map Int.toNat := ⟨_, rfl⟩
   have hll : l.length = len := by rw [hl0]; simp; omega
   have hcell : ∀ j, j < len → ∀ u, l[j]? = some u → W.cell? (a.add j) = some (.int .u32 (u : Int)) := by
     intro j hj u hu
     rw [hc j (by omega)]
     have h1 : zs[j]? = some (zs.getD j 0) := by rw [List.getD, List.getElem?_eq_getElem (by omega)]; rfl
     rw [hl0, List.getElem?_map, List.getElem?_take_of_lt hj, h1] at hu
     simp only [Option.map_some, Option.some.injEq] at hu
     have := hwz _ (List.mem_of_getElem? h1)
     rw [← hu, Int.toNat_of_nonneg this.1]
   refine ⟨some a, cap, l, by rw [hll], by omega, ?_, ?_⟩
   · intro x hx
     rw [hl0] at hx
     obtain ⟨z, hz1, rfl⟩ := List.mem_map.1 hx
     have := hwz z (List.mem_of_mem_take hz1)
     omega
   · refine ⟨by simp [wds], fun hn => ?_⟩
     have h0 := hcell 0 (by omega) _ (List.getElem?_eq_getElem hn)
     obtain ⟨b, off, rfl⟩ := spot_none h0
     refine ⟨b, off, rfl, ?_, fun j u hu => ?_⟩
     · rw [addr_add] at h0; exact lt_of_cell h0
     · simp only [wds, List.getElem?_map] at hu
       obtain ⟨y, hy, rfl⟩ := Option.map_eq_some_iff.1 hu
       have := hcell j (by have := (List.getElem?_eq_some_iff.1 hy).1; omega) y hy
       rwa [addr_add] at this
theorem open_ratC {fuel : Nat} {cs : List Value} {x : DataW H × List MemPlace} (h : DataW.trod enc Tryz.prog W 0 (fun _ => true) true fuel 56 cs = some x) :
   ∃ s A n c B m d r, cs = [.bool s, .slice A n c, .slice B m d] ∧ RdR W (rv s A n c B m d) r := by
 obtain ⟨y0, y1, y2, n, _, hl, h0, h1, h2⟩ := trod_struct3 Tryz.underlying56 h
 have hc3 : Tryz.prog.cellsOf 56 = 3 := by kernel_rfl
 have hc1 : Tryz.prog.cellsOf 4 = 1 := by kernel_rfl
 have hc2 : Tryz.prog.cellsOf 54 = 1 := by kernel_rfl
 rw [hc3] at hl
 match cs, hl with
 | [v0, v1, v2], _ =>
   simp only [hc1, hc2, List.drop, List.take] at h0 h1 h2
   obtain ⟨s, e0, _⟩ := DataW.trod_bool Tryz.underlying4 h0
   obtain ⟨A, c, l, e1, hlc, hW, hR⟩ := open_wordsC h1
   obtain ⟨B, d, m, e2, hmd, hW', hR'⟩ := open_wordsC h2
   simp at e0 e1 e2
   subst e0 e1 e2
   exact ⟨s, A, l.length, c, B, m.length, d, (s, l, m), rfl, A, c, B, d, rfl, hlc, hmd, ⟨hW, hW'⟩, hR, hR'⟩
theorem addr_add_add (a : Addr) (i t : Nat) : (a.add i).add t = a.add (i + t) := by
 unfold Addr.add
 by_cases hi : i = 0
 · subst hi; simp
 · by_cases ht : t = 0
   · subst ht; simp [hi]
   · have : ¬ i + t = 0 := by omega
     simp [hi, ht, this, Nat.add_assoc]
theorem isR_rv (s : Bool) (A : Option Addr) (n c : Nat) (B : Option Addr) (m d : Nat) : isR (rv s A n c B m d) := ⟨s, A, n, c, B, m, d, rfl⟩
theorem open_rowC {fuel : Nat} {cs : List Value} {x : DataW H × List MemPlace} (h : DataW.trod enc Tryz.prog W 0 (fun _ => true) true fuel 23 cs = some x) :
   ∃ A n c R, cs = [.slice A n c] ∧ n ≤ c ∧ RowI W W.heap.size A n R := by
 rcases open_slice Tryz.underlying23 h with ⟨rfl, _⟩ | ⟨a, len, cap, m, n, D, Pl, rfl, _, hl, hm, hmm, _, hx⟩
 · exact ⟨none, 0, 0, fun _ => canR 0, rfl, Nat.le_refl _, fun _ => .nilIface, fun _ h => by omega, Rds.nil_ _ _ _ _, fun h => by omega⟩
 · simp only [if_true] at hmm
   have hc3 : Tryz.prog.cellsOf 56 = 3 := by kernel_rfl
   rw [hc3] at hx
   have hall : ∀ i, ∃ q : Value × Rw, i < len → RdR W q.1 q.2 ∧ isR q.1 ∧ ∀ t, t < 3 → W.cell? (a.add (i * 3 + t)) = (c3 q.1)[t]? := by
     intro i
     by_cases hi : i < len
     · obtain ⟨cs', g1, g2⟩ := hx i (by omega)
       obtain ⟨s, A, n', c, B, m', d, r, rfl, hr⟩ := open_ratC g2
       obtain ⟨_, _, g3⟩ := World.cells?_some g1
       exact ⟨(rv s A n' c B m' d, r), fun _ => ⟨hr, isR_rv _ _ _ _ _ _ _, fun t ht => by
         have := g3 t ht
         rw [addr_add_add] at this
         exact this⟩⟩
     · exact ⟨(.nilIface, canR 0), fun h => absurd h hi⟩
   obtain ⟨f, hf⟩ := Classical.axiomOfChoice hall
   refine ⟨some a, len, cap, fun i => (f i).2, rfl, hl, fun i => (f i).1, fun k hk => RdS.of_in (hf k hk).1, ⟨cellsV_length fun k hk => (hf k hk).2.1, fun hn => ?_⟩, fun hn b hb => ?_⟩
   all_goals
     have h0 := (hf 0 hn).2.2 0 (by omega)
     obtain ⟨s0, A0, n0, c0, B0, m0, d0, e0⟩ := (hf 0 hn).2.1
     rw [e0] at h0
     simp only [Nat.zero_mul, Nat.add_zero] at h0
     replace h0 : W.cell? (a.add 0) = some (.bool s0) := h0
     obtain ⟨b1, off, rfl⟩ := spot_none h0
     rw [addr_add] at h0
   · refine ⟨b1, off, rfl, lt_of_cell h0, fun j u hu => ?_⟩
     have hj : j < len * 3 := by
       have := (List.getElem?_eq_some_iff.1 hu).1
       rwa [cellsV_length fun k hk => (hf k hk).2.1] at this
     have hk : j / 3 < len := by omega
     obtain ⟨s1, A1, n1, c1, B1, m1, d1, e1⟩ := (hf _ hk).2.1
     obtain ⟨g0, g1, g2⟩ := cellsV_get (V := fun i => (f i).1) (fun k hk => (hf k hk).2.1) hk e1
     have ht := (hf _ hk).2.2 (j % 3) (Nat.mod_lt _ (by omega))
     rw [e1] at ht
     have e : j = j / 3 * 3 + j % 3 := by omega
     rw [← e, addr_add] at ht
     rw [ht]
     rcases (show j % 3 = 0 ∨ j % 3 = 1 ∨ j % 3 = 2 by omega) with h3 | h3 | h3 <;> rw [h3] at e ⊢ <;> rw [e] at hu
     · rw [Nat.add_zero, g0] at hu; exact hu
     · rw [g1] at hu; exact hu
     · rw [g2] at hu; exact hu
   · injection hb with hb
     subst hb
     exact lt_of_cell h0
end
end Go.Proofs.YtoiopnmphbnjaaaGreatDoor
namespace Go.Proofs.YtoiopnmphbnjaaaGreatDoor
open Go.RowKit
set_option linter.unusedSimpArgs false
set_option linter.unusedVariables false
/-! ## chains in memory -/
def cellM (f t : Int) (v : Value) : List Value := .int .i64 f :: .int .i64 t :: c3 v
/-- the cells of moves -/
def cellsM (n : Nat) (F T : Nat → Int) (V : Nat → Value) : List Value := (List.range n).flatMap fun k => cellM (F k) (T k) (V k)
theorem cellsM_succ (n : Nat) (F T : Nat → Int) (V : Nat → Value) : cellsM (n + 1) F T V = cellsM n F T V ++ cellM (F n) (T n) (V n) := by simp [cellsM, List.range_succ]
theorem cellM_len {f t : Int} {v : Value} (h : isR v) : (cellM f t v).length = 5 := by simp [cellM, h.len]
theorem cellsM_length {n : Nat} {F T : Nat → Int} {V : Nat → Value} (h : ∀ k, k < n → isR (V k)) : (cellsM n F T V).length = n * 5 := by
 induction n with
 | zero => rfl
 | succ n ih => rw [cellsM_succ, List.length_append, ih fun k hk => h k (by omega), cellM_len (h n (by omega))]; omega
theorem cellsM_get {n : Nat} {F T : Nat → Int} {V : Nat → Value} (h : ∀ k, k < n → isR (V k)) {k : Nat} (hk : k < n) {s : Bool} {A : Option Addr} {a c : Nat} {B : Option Addr} {b d : Nat} (e : V k = rv s A a c B b d) :
   (cellsM n F T V)[k * 5]? = some (.int .i64 (F k)) ∧ (cellsM n F T V)[k * 5 + 1]? = some (.int .i64 (T k)) ∧ (cellsM n F T V)[k * 5 + 2]? = some (.bool s) ∧ (cellsM n F T V)[k * 5 + 3]? = some (.slice A a c) ∧ (cellsM n F T V)[k * 5 + 4]? = some (.slice B b d) := by
 induction n with
 | zero => omega
 | succ n ih =>
   have hl := cellsM_length (F := F) (T := T) fun k (hk : k < n) => h k (by omega)
   rw [cellsM_succ]
   rcases Nat.lt_or_ge k n with h1 | h1
   · have := ih (fun k hk => h k (by omega)) h1
     rw [List.getElem?_append_left (by omega), List.getElem?_append_left (by omega), List.getElem?_append_left (by omega), List.getElem?_append_left (by omega), List.getElem?_append_left (by omega)]
     exact this
   · have : k = n := by omega
     subst this
     rw [List.getElem?_append_right (by omega), List.getElem?_append_right (by omega), List.getElem?_append_right (by omega), List.getElem?_append_right (by omega), List.getElem?_append_right (by omega), hl, e]
     simp [cellM, c3]
theorem moveInfo : (Tryz.prog.info? 65).map (fun i => (i.zero, i.size, i.bytes)) = some (some (.agg #[.int .i64 0, .int .i64 0, .bool false, .slice none 0 0, .slice none 0 0]), 5, 72) := by kernel_rfl
/-- a slice that reads as moves -/
def MovA (w : World) (b0 : Nat) (A : Option Addr) (n : Nat) (F T : Nat → Int) (R : Nat → Rw) : Prop :=
 ∃ V, (∀ k, k < n → RdS w b0 (V k) (R k)) ∧ Rds w w.heap.size 5 A n (cellsM n F T V)
/-- .. in a row that a call has made -/
def OwM (w : World) (b0 : Nat) (A : Option Addr) (c n : Nat) (F T : Nat → Int) (R : Nat → Rw) : Prop :=
 ∃ V, (∀ k, k < n → RdS w b0 (V k) (R k)) ∧ w.ownsRow b0 65 5 (.slice A n c) n (cellsM n F T V)
section
variable {b0 b1 n c g : Nat} {w w' : World} {A : Option Addr} {F T F' T' : Nat → Int} {R U : Nat → Rw}
theorem MovA.nil_ (w : World) (b0 : Nat) (A : Option Addr) (F T : Nat → Int) (R : Nat → Rw) : MovA w b0 A 0 F T R := ⟨fun _ => .nilIface, fun _ h => by omega, Rds.nil_ w _ 5 A⟩
theorem OwM.ra (h : OwM w b0 A c n F T R) : MovA w b0 A n F T R := by
 obtain ⟨V, h1, h2⟩ := h
 exact ⟨V, h1, Rds.of_own h2⟩
theorem MovA.below (h : MovA w b0 A n F T R) (hb : Below w.heap.size w w') : MovA w' b0 A n F T R := by
 obtain ⟨V, h1, h2⟩ := h
 exact ⟨V, fun k hk => (h1 k hk).kp (Kp.of_below hb), Rds.more (Rds.below h2 hb) hb.size⟩
theorem MovA.base (h : MovA w b0 A n F T R) (hb : b0 ≤ b1) : MovA w b1 A n F T R := by
 obtain ⟨V, h1, h2⟩ := h
 exact ⟨V, fun k hk => (h1 k hk).base hb, h2⟩
/-- element k -/
theorem MovA.at_ (h : MovA w b0 A n F T R) {k : Nat} (hk : k < n) : ∃ b off s A1 n1 c1 B1 m1 d1, A = some ⟨b, off, none⟩ ∧ b < w.heap.size ∧ w.cell? ⟨b, off + k * 5, none⟩ = some (.int .i64 (F k)) ∧ w.cell? ⟨b, off + k * 5 + 1, none⟩ = some (.int .i64 (T k)) ∧ w.cell? ⟨b, off + k * 5 + 2, none⟩ = some (.bool s) ∧ w.cell? ⟨b, off + k * 5 + 3, none⟩ = some (.slice A1 n1 c1) ∧ w.cell? ⟨b, off + k * 5 + 4, none⟩ = some (.slice B1 m1 d1) ∧ RdS w b0 (rv s A1 n1 c1 B1 m1 d1) (R k) := by
 obtain ⟨V, h1, h2⟩ := h
 obtain ⟨b, off, e, hb, hc⟩ := h2.2 (by omega)
 have hv := h1 k hk
 obtain ⟨s, A1, n1, c1, B1, m1, d1, ev⟩ := hv.form
 rw [ev] at hv
 obtain ⟨g0, g1, g2, g3, g4⟩ := cellsM_get (F := F) (T := T) (fun k hk => (h1 k hk).isR) hk ev
 exact ⟨b, off, s, A1, n1, c1, B1, m1, d1, e, hb, hc _ _ g0, by rw [Nat.add_assoc]; exact hc _ _ g1, by rw [Nat.add_assoc]; exact hc _ _ g2, by rw [Nat.add_assoc]; exact hc _ _ g3, by rw [Nat.add_assoc]; exact hc _ _ g4, hv⟩
end
/-- a chain, as it lies there -/
structure Chn where
 st : Int
 sr : Int
 nm : Nat
 F : Nat → Int
 T : Nat → Int
 R : Nat → Rw
 nd : Nat
 D : Nat → Bool
abbrev cv (st sr : Int) (AM : Option Addr) (nm cm : Nat) (AD : Option Addr) (nd cd : Nat) : Value := .agg #[.int .i64 st, .int .i64 sr, .slice AM nm cm, .slice AD nd cd]
section
variable {w w' : World} {b0 cm cd : Nat} {AM AD : Option Addr} {c : Chn}
end
end Go.Proofs.YtoiopnmphbnjaaaGreatDoor
