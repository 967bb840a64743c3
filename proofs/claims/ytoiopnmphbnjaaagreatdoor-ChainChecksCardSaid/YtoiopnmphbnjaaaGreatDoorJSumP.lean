/- Contracts of functions and lemmas, used by the proofs of the given statements. No condition beyond those that each lemma names. -/
import Derived.Test.YtoiopnmphbnjaaaGreatDoorChX
import Derived.Test.YtoiopnmphbnjaaaGreatDoorJBase
import Derived.Test.YtoiopnmphbnjaaaGreatDoorJLinRow
namespace Go.Proofs.YtoiopnmphbnjaaaGreatDoor
open Go.RowKit
set_option linter.unusedSimpArgs false
set_option linter.unusedVariables false
/-! ## law49 (plain): how great the sums of rates become; the matrix of the rates -/
/-- a fraction is brief, beside n others -/
def Br (r : Rw) (n : Nat) : Prop := if n ≤ 64 then r.2.1.length ≤ 2 ∧ r.2.2.length ≤ 2 else r.2.1.length ≤ 1 ∧ (r.2.2.length = 0 ∨ r.2.2.length = 1 ∧ r.2.2.getD 0 0 < 1024)
theorem Br.two {r : Rw} {n : Nat} (h : Br r n) : r.2.1.length ≤ 2 ∧ r.2.2.length ≤ 2 := by
  unfold Br at h
  split at h <;> omega
structure Lt49 (c : Chn) : Prop where
  nm : c.nm ≤ 2000
  nd : c.nd ≤ 600
  br : ∀ k, k < c.nm → Br (c.R k) c.nm
theorem wp_pw : ∀ n, wp n = 4294967296 ^ n
  | 0 => rfl
  | n + 1 => by rw [wp_succ, wp_pw n, Nat.pow_succ, Nat.mul_comm]
theorem pw_le {n m : Nat} (h : 10 * n ≤ 32 * m) : 1024 ^ n ≤ wp m := by
  rw [wp_pw, show (1024 : Nat) = 2 ^ 10 by rfl, show (4294967296 : Nat) = 2 ^ 32 by rfl, ← Nat.pow_mul, ← Nat.pow_mul]
  exact Nat.pow_le_pow_right (by omega) h
theorem can_posE {r : Rw} (hok : okR r) (h : 0 < valR r) : canR (valR r) = r := by
  have hv : validR r = true := by
    cases e : validR r with
    | true => rfl
    | false => rw [valR_of_not e] at h; exact absurd h (by decide)
  exact canR_valR hok hv
section
variable {c : Chn}
theorem Lt49.den (h : Lt49 c) (ok : c.Ok) (hr : ∀ k, k < c.nm → okR (c.R k)) (h64 : 64 < c.nm) {k : Nat} (hk : k < c.nm) : (c.q k).num.natAbs < wp 1 ∧ (c.q k).den ≤ 1024 := by
  have hb := h.br k hk
  unfold Br at hb
  rw [if_neg (by omega)] at hb
  have hq := (ok.mv k hk).2.2.2.2.2.1
  have hc := can_posE (hr k hk) hq
  have hq0 : c.q k ≠ 0 := fun e => by rw [e] at hq; exact absurd hq (by decide)
  have hd : (c.R k).2.2 = dig (c.q k).den := by
    rw [← hc]
    show (canR (c.q k)).2.2 = _
    unfold canR
    rw [if_neg hq0]
  refine ⟨(Sz_valR (L := 1) (hr k hk) (by omega) hb.1 (by omega)).1, ?_⟩
  have e : nv (c.R k).2.2 = (c.q k).den := by rw [hd, nv_dig]
  rw [← e]
  rcases hb.2 with h2 | ⟨h2, h3⟩
  · have : (c.R k).2.2 = [] := List.length_eq_zero_iff.1 h2
    rw [this]
    show 0 ≤ 1024
    omega
  · match hl : (c.R k).2.2, h2 with
    | [x], _ =>
      rw [hl] at h3
      simp at h3
      show x + 4294967296 * 0 ≤ 1024
      omega
theorem Lt49.fz (h : Lt49 c) (ok : c.Ok) (hr : ∀ k, k < c.nm → okR (c.R k)) : ∃ D Z, D ≠ 0 ∧ D < wp 630 ∧ Z < wp 630 ∧ ∀ k, k < c.nm → Fz D Z (c.q k) := by
  by_cases h64 : c.nm ≤ 64
  · have hs : ∀ k, k < c.nm → Sz 2 (c.q k) := fun k hk => Sz_valR (hr k hk) (by omega) (h.br k hk).two.1 (h.br k hk).two.2
    have h1 := dps_le (B := wp 2) c.q (n := c.nm) fun k hk => Nat.le_of_lt (hs k hk).2
    have h2 : wp 2 ^ c.nm ≤ wp 128 := by
      rw [wp_pw, wp_pw, ← Nat.pow_mul]
      exact Nat.pow_le_pow_right (by omega) (by omega)
    have h3 : dps c.q c.nm < wp 129 := by
      have := wp_pos 128
      have : wp 129 = 4294967296 * wp 128 := wp_succ 128
      omega
    have hz : wp 2 - 1 < wp 2 := by have := wp_pos 2; omega
    exact ⟨_, _, dps_pos c.q c.nm, Nat.lt_of_lt_of_le h3 (wp_le (by omega)), Nat.lt_of_lt_of_le (wp_mul_lt hz h3) (wp_le (by omega)), fun k hk => Fz.all hk (by have := (hs k hk).1; omega)⟩
  · have hs := fun k hk => h.den ok hr (by omega) (k := k) hk
    have h1 := dps_le (B := 1024) c.q (n := c.nm) fun k hk => (hs k hk).2
    have h2 : 1024 ^ c.nm ≤ wp 625 := pw_le (by have := h.nm; omega)
    have h3 : dps c.q c.nm < wp 626 := by
      have := wp_pos 625
      have : wp 626 = 4294967296 * wp 625 := wp_succ 625
      omega
    have hz : wp 1 - 1 < wp 1 := by have := wp_pos 1; omega
    exact ⟨_, _, dps_pos c.q c.nm, Nat.lt_of_lt_of_le h3 (wp_le (by omega)), Nat.lt_of_lt_of_le (wp_mul_lt hz h3) (wp_le (by omega)), fun k hk => Fz.all hk (by have := (hs k hk).1; omega)⟩
theorem exK_fz9 {F : Nat → Nat} {q : Nat → Rat} {D Z n : Nat} (h : ∀ k, k < n → Fz D Z (q k)) (s : Nat) : ∀ k, k ≤ n → Fz D (k * Z) (exK F q s k)
  | 0, _ => by unfold exK; exact (Fz.zero D).le (by omega)
  | k + 1, hk => by
    unfold exK
    rw [Nat.succ_mul]
    split
    · exact (exK_fz9 h s k (by omega)).add (h k (by omega))
    · exact (exK_fz9 h s k (by omega)).le (by omega)
/-- the entry of the matrix after k moves -/
def qK (f t : Nat → Nat) (q x : Nat → Rat) (i j : Nat) : Nat → Rat
  | 0 => if i = j then -(x i) else 0
  | k + 1 => if f k = i ∧ t k = j then q k else qK f t q x i j k
def Chn.Q (c : Chn) (i j : Nat) : Rat := qK c.f c.t c.q c.ex i j c.nm
theorem qK_fz {f t : Nat → Nat} {q x : Nat → Rat} {D Z Y n : Nat} (h : ∀ k, k < n → Fz D Z (q k)) (hx : ∀ s, Fz D Y (x s)) (hZ : Z ≤ Y) (i j : Nat) : ∀ k, k ≤ n → Fz D Y (qK f t q x i j k)
  | 0, _ => by
    unfold qK
    split
    · exact (hx i).neg
    · exact (Fz.zero D).le (Nat.zero_le _)
  | k + 1, hk => by
    unfold qK
    split
    · exact (h k (by omega)).le hZ
    · exact qK_fz h hx hZ i j k (by omega)
/-- the rates, their sums, the matrix and the sums of its rows are short -/
theorem Lt49.all (h : Lt49 c) (ok : c.Ok) (hr : ∀ k, k < c.nm → okR (c.R k)) : (∀ s k, k ≤ c.nm → Sz 640 (exK c.f c.q s k)) ∧ (∀ i j k, k ≤ c.nm → Sz 640 (qK c.f c.t c.q c.ex i j k)) ∧ ∀ i n, n ≤ 1000 → Sz 640 (sumN (fun j => c.Q i j) n) := by
  obtain ⟨D, Z, h0, h1, h2, h3⟩ := h.fz ok hr
  have hD : D < wp 640 := Nat.lt_of_lt_of_le h1 (wp_le (by omega))
  have hex := fun s k hk => exK_fz9 (F := c.f) h3 s k hk
  have hn : c.nm + 1 ≤ 2001 := by have := h.nm; omega
  have hZ : Z ≤ 2001 * Z := by omega
  have hY : 2001 * Z < wp 631 := by rw [← wp_lt_succ]; omega
  have hY2 : 1000 * (2001 * Z) < wp 632 := by rw [← wp_lt_succ]; omega
  have hx : ∀ s k, k ≤ c.nm → Fz D (2001 * Z) (exK c.f c.q s k) := fun s k hk => (hex s k hk).le (Nat.mul_le_mul_right _ (by omega))
  have hq : ∀ i j k, k ≤ c.nm → Fz D (2001 * Z) (qK c.f c.t c.q c.ex i j k) := fun i j k hk => qK_fz h3 (fun s => hx s c.nm (Nat.le_refl _)) hZ i j k hk
  refine ⟨fun s k hk => (hx s k hk).sz h0 (by omega) hD (Nat.lt_of_lt_of_le hY (wp_le (by omega))), fun i j k hk => (hq i j k hk).sz h0 (by omega) hD (Nat.lt_of_lt_of_le hY (wp_le (by omega))), fun i n hn => ?_⟩
  exact ((sumN_fz (fun j => hq i j c.nm (Nat.le_refl _)) n).le (Nat.mul_le_mul_right _ hn)).sz h0 (by omega) hD (Nat.lt_of_lt_of_le hY2 (wp_le (by omega)))
theorem Lt49.siz (h : Lt49 c) (ok : c.Ok) (hr : ∀ k, k < c.nm → okR (c.R k)) : SizC c 640 :=
  ⟨by have := h.nm; omega, by omega, by omega, fun k hk => by have := (h.br k hk).two; omega, (h.all ok hr).1⟩
end
end Go.Proofs.YtoiopnmphbnjaaaGreatDoor
namespace Go.Proofs.YtoiopnmphbnjaaaGreatDoor
open Go.RowKit
set_option linter.unusedSimpArgs false
set_option linter.unusedVariables false
/-! ## a dynamic tree in memory -/
theorem Rds.on {w w' : World} {s n : Nat} {A : Option Addr} {xs : List Value} (h : Rds w w.heap.size s A n xs) (hb : Below w.heap.size w w') (hz : w.heap.size ≤ w'.heap.size) : Rds w' w'.heap.size s A n xs := (h.below hb).more hz
def zsD (l : List Int) : List Value := l.map fun x => .int .i64 x
theorem zsD_get {l : List Int} {k : Nat} (h : k < l.length) : (zsD l)[k]? = some (.int .i64 l[k]) := by
  unfold zsD
  rw [List.getElem?_map, List.getElem?_eq_getElem h]; rfl
/-- a tree as it came in -/
structure DyR where
  v : Int
  ng : Nat
  kd : Nat → Int
  kk : Nat → Int
  ar : Nat → List Int
  dor : Nat → Rw
  top : Int
  nf : Nat
  fl : Nat → Rw
  nr : Nat
  rp : Nat → Rw
def gateC (kd kk : Int) (A : Option Addr) (n c : Nat) (U : Value) : List Value := .int .i64 kd :: .int .i64 kk :: .slice A n c :: c3 U
def gatesC (r : DyR) (V : Nat → Option Addr × Nat) (U : Nat → Value) (n : Nat) : List Value := (List.range n).flatMap fun k => gateC (r.kd k) (r.kk k) (V k).1 (r.ar k).length (V k).2 (U k)
abbrev dyv (r : DyR) (AG : Option Addr) (cg : Nat) (AF : Option Addr) (cf : Nat) (AR : Option Addr) (cr : Nat) : Value := .agg #[.int .i64 r.v, .slice AG r.ng cg, .int .i64 r.top, .slice AF r.nf cf, .slice AR r.nr cr]
theorem gatesC_succ (r : DyR) (V : Nat → Option Addr × Nat) (U : Nat → Value) (n : Nat) : gatesC r V U (n + 1) = gatesC r V U n ++ gateC (r.kd n) (r.kk n) (V n).1 (r.ar n).length (V n).2 (U n) := by
  unfold gatesC
  rw [List.range_succ, List.flatMap_append]
  simp
theorem gateC_len {kd kk : Int} {A : Option Addr} {n c : Nat} {U : Value} (h : isR U) : (gateC kd kk A n c U).length = 6 := by
  show (c3 U).length + 1 + 1 + 1 = 6
  rw [h.len]
theorem gatesC_length {r : DyR} {V : Nat → Option Addr × Nat} {U : Nat → Value} : ∀ {n : Nat}, (∀ k, k < n → isR (U k)) → (gatesC r V U n).length = n * 6
  | 0, _ => rfl
  | n + 1, h => by
    rw [gatesC_succ, List.length_append, gatesC_length (fun k hk => h k (by omega)), gateC_len (h n (by omega))]
    omega
theorem gatesC_get {r : DyR} {V : Nat → Option Addr × Nat} {U : Nat → Value} {k : Nat} {s : Bool} {A : Option Addr} {a c : Nat} {B : Option Addr} {b d : Nat} (e : U k = rv s A a c B b d) : ∀ {n : Nat}, (∀ k, k < n → isR (U k)) → k < n →
    (gatesC r V U n)[k * 6]? = some (.int .i64 (r.kd k)) ∧ (gatesC r V U n)[k * 6 + 1]? = some (.int .i64 (r.kk k)) ∧ (gatesC r V U n)[k * 6 + 2]? = some (.slice (V k).1 (r.ar k).length (V k).2) ∧ (gatesC r V U n)[k * 6 + 3]? = some (.bool s) ∧ (gatesC r V U n)[k * 6 + 4]? = some (.slice A a c) ∧ (gatesC r V U n)[k * 6 + 5]? = some (.slice B b d)
  | n + 1, h, hk => by
    have hl : (gatesC r V U n).length = n * 6 := gatesC_length fun k hk => h k (by omega)
    rw [gatesC_succ]
    by_cases e1 : k = n
    · subst e1
      rw [e]
      refine ⟨?_, ?_, ?_, ?_, ?_, ?_⟩ <;> (rw [List.getElem?_append_right (by omega), hl])
      · rw [show k * 6 - k * 6 = 0 by omega]; rfl
      · rw [show k * 6 + 1 - k * 6 = 1 by omega]; rfl
      · rw [show k * 6 + 2 - k * 6 = 2 by omega]; rfl
      · rw [show k * 6 + 3 - k * 6 = 3 by omega]; rfl
      · rw [show k * 6 + 4 - k * 6 = 4 by omega]; rfl
      · rw [show k * 6 + 5 - k * 6 = 5 by omega]; rfl
    · have ih := gatesC_get (r := r) (V := V) e (n := n) (fun k hk => h k (by omega)) (by omega)
      refine ⟨?_, ?_, ?_, ?_, ?_, ?_⟩ <;> rw [List.getElem?_append_left (by omega)]
      · exact ih.1
      · exact ih.2.1
      · exact ih.2.2.1
      · exact ih.2.2.2.1
      · exact ih.2.2.2.2.1
      · exact ih.2.2.2.2.2
structure DyI (w : World) (AG AF AR : Option Addr) (r : DyR) : Prop where
  ga : ∃ V U, Rds w w.heap.size 6 AG r.ng (gatesC r V U r.ng) ∧ ∀ k, k < r.ng → Rds w w.heap.size 1 (V k).1 (r.ar k).length (zsD (r.ar k)) ∧ RdS w w.heap.size (U k) (r.dor k) ∧ (r.ar k).length ≤ (V k).2
  fa : RowA w w.heap.size AF r.nf r.fl
  ra : RowA w w.heap.size AR r.nr r.rp
theorem RdS.belowS {w w' : World} {v : Value} {r : Rw} (h : RdS w w.heap.size v r) (hb : Below w.heap.size w w') : RdS w' w'.heap.size v r := (h.kp (Kp.of_below hb)).base hb.size
theorem RowA.belowS {w w' : World} {A : Option Addr} {n : Nat} {R : Nat → Rw} (h : RowA w w.heap.size A n R) (hb : Below w.heap.size w w') : RowA w' w'.heap.size A n R := by
  obtain ⟨V, h1, h2⟩ := h
  exact ⟨V, fun k hk => (h1 k hk).belowS hb, h2.on hb hb.size⟩
section
variable {w w' : World} {AG AF AR : Option Addr} {r : DyR}
theorem DyI.below (h : DyI w AG AF AR r) (hb : Below w.heap.size w w') : DyI w' AG AF AR r := by
  obtain ⟨⟨V, U, h1, h2⟩, h3, h4⟩ := h
  exact ⟨⟨V, U, h1.on hb hb.size, fun k hk => ⟨(h2 k hk).1.on hb hb.size, (h2 k hk).2.1.belowS hb, (h2 k hk).2.2⟩⟩, h3.belowS hb, h4.belowS hb⟩
theorem DyI.at_ (h : DyI w AG AF AR r) {k : Nat} (hk : k < r.ng) : ∃ b off A1 c1 s A2 n2 c2 A3 n3 c3, AG = some ⟨b, off, none⟩ ∧ b < w.heap.size ∧ w.cell? ⟨b, off + k * 6, none⟩ = some (.int .i64 (r.kd k)) ∧ w.cell? ⟨b, off + k * 6 + 1, none⟩ = some (.int .i64 (r.kk k)) ∧ w.cell? ⟨b, off + k * 6 + 2, none⟩ = some (.slice A1 (r.ar k).length c1)
    ∧ w.cell? ⟨b, off + k * 6 + 3, none⟩ = some (.bool s) ∧ w.cell? ⟨b, off + k * 6 + 4, none⟩ = some (.slice A2 n2 c2) ∧ w.cell? ⟨b, off + k * 6 + 5, none⟩ = some (.slice A3 n3 c3) ∧ Rds w w.heap.size 1 A1 (r.ar k).length (zsD (r.ar k)) ∧ RdS w w.heap.size (rv s A2 n2 c2 A3 n3 c3) (r.dor k) ∧ (r.ar k).length ≤ c1 := by
  obtain ⟨⟨V, U, h1, h2⟩, -, -⟩ := h
  obtain ⟨b, off, hA, hb, hc⟩ := h1.2 (by omega)
  obtain ⟨s, A2, n2, c2, A3, n3, c3', e⟩ := (h2 k hk).2.1.form
  obtain ⟨g0, g1, g2, g3, g4, g5⟩ := gatesC_get (r := r) (V := V) e (fun k hk => (h2 k hk).2.1.isR) hk
  refine ⟨b, off, (V k).1, (V k).2, s, A2, n2, c2, A3, n3, c3', hA, hb, hc _ _ g0, ?_, ?_, ?_, ?_, ?_, (h2 k hk).1, by rw [← e]; exact (h2 k hk).2.1, (h2 k hk).2.2⟩
  · rw [Nat.add_assoc]; exact hc _ _ g1
  · rw [Nat.add_assoc]; exact hc _ _ g2
  · rw [Nat.add_assoc]; exact hc _ _ g3
  · rw [Nat.add_assoc]; exact hc _ _ g4
  · rw [Nat.add_assoc]; exact hc _ _ g5
end
theorem zsD_at {w W : World} {B : Nat} {A : Option Addr} {l : List Int} (h : Rds w B 1 A l.length (zsD l)) (hb : Below B w W) {k : Nat} (hk : k < l.length) : ∃ b off, A = some ⟨b, off, none⟩ ∧ b < B ∧ W.cell? ⟨b, off + k, none⟩ = some (.int .i64 l[k]) := by
  obtain ⟨b, off, hA, hb1, hc⟩ := h.2 (by omega)
  exact ⟨b, off, hA, hb1, (hb.cell (p := ⟨b, _, none⟩) hb1).trans (hc k _ (zsD_get hk))⟩
end Go.Proofs.YtoiopnmphbnjaaaGreatDoor
namespace Go.Proofs.YtoiopnmphbnjaaaGreatDoor
open Go.RowKit
set_option linter.unusedSimpArgs false
set_option linter.unusedVariables false
/-! ## what is wrong with a dynamic tree (plain) -/
def rtOk (R : Nat → Rw) (k : Nat) : Bool := validR (R k) && decide (0 ≤ valR (R k))
def rtsOk (R : Nat → Rw) (n : Nat) : Bool := (List.range n).all (rtOk R)
theorem rtsOk_f {R : Nat → Rw} {n k : Nat} (hk : k < n) (h : rtOk R k = false) : rtsOk R n = false := by
  unfold rtsOk
  rw [List.all_eq_false]
  exact ⟨k, by simpa using hk, by rw [h]; decide⟩
theorem rtsOk_t {R : Nat → Rw} {n : Nat} (h : ∀ k, k < n → rtOk R k = true) : rtsOk R n = true := by
  unfold rtsOk
  rw [List.all_eq_true]
  exact fun k hk => h k (by simpa using hk)
theorem rtsOk_at {R : Nat → Rw} {n k : Nat} (h : rtsOk R n = true) (hk : k < n) : rtOk R k = true := by
  unfold rtsOk at h
  rw [List.all_eq_true] at h
  exact h k (by simpa using hk)
def dgAg (kd : Int) (n : Nat) : Bool := if kd = 3 then n == 1 else if kd = 5 then n == 2 else if kd = 6 ∨ kd = 7 ∨ kd = 8 then decide (2 ≤ n ∧ n ≤ 16) else decide (1 ≤ n ∧ n ≤ 16)
theorem dgAg_len {kd : Int} {n : Nat} (h : dgAg kd n = true) : 1 ≤ n ∧ n ≤ 16 := by
  unfold dgAg at h
  split at h
  · simp at h; omega
  · split at h
    · simp at h; omega
    · split at h
      · simp at h; omega
      · simp at h; omega
theorem dgAg_two {kd : Int} {n : Nat} (hk : kd = 6 ∨ kd = 7 ∨ kd = 8) (h : dgAg kd n = true) : 2 ≤ n := by
  unfold dgAg at h
  rw [if_neg (by omega), if_neg (by omega), if_pos hk] at h
  simp at h; omega
def dgIx (m : Int) (l : List Int) : Bool := l.all fun a => decide (0 ≤ a ∧ a < m)
theorem dgIx_f {m : Int} {l : List Int} {k : Nat} (hk : k < l.length) (h : ¬ (0 ≤ l[k] ∧ l[k] < m)) : dgIx m l = false := by
  unfold dgIx
  rw [List.all_eq_false]
  exact ⟨l[k], List.getElem_mem hk, by simpa using h⟩
theorem dgIx_t {m : Int} {l : List Int} (h : ∀ q (hq : q < l.length), 0 ≤ l[q] ∧ l[q] < m) : dgIx m l = true := by
  unfold dgIx
  rw [List.all_eq_true]
  intro a ha
  obtain ⟨q, hq, rfl⟩ := List.getElem_of_mem ha
  simpa using h q hq
theorem dgIx_at {m : Int} {l : List Int} (h : dgIx m l = true) {a : Int} (ha : a ∈ l) : 0 ≤ a ∧ a < m := by
  unfold dgIx at h
  rw [List.all_eq_true] at h
  simpa using h a ha
/-- an argument that must be an event -/
def tyK (kd v : Int) (l : List Int) (k : Nat) : Bool := decide (l.getD k 0 < v ∨ ¬ (kd = 7 ∨ kd = 8 ∧ 0 < k))
def tyB (kd v : Int) (l : List Int) : Bool := (List.range l.length).all (tyK kd v l)
theorem tyB_f {kd v : Int} {l : List Int} {k : Nat} (hk : k < l.length) (h : tyK kd v l k = false) : tyB kd v l = false := by
  unfold tyB
  rw [List.all_eq_false]
  exact ⟨k, by simpa using hk, by rw [h]; decide⟩
theorem tyB_t {kd v : Int} {l : List Int} (h : ∀ k, k < l.length → tyK kd v l k = true) : tyB kd v l = true := by
  unfold tyB
  rw [List.all_eq_true]
  exact fun k hk => h k (by simpa using hk)
theorem tyB_at {kd v : Int} {l : List Int} {k : Nat} (h : tyB kd v l = true) (hk : k < l.length) : tyK kd v l k = true := by
  unfold tyB at h
  rw [List.all_eq_true] at h
  exact h k (by simpa using hk)
/-- an element that stands in the first list or ahead -/
def dupB : List Int → List Int → Bool
  | _, [] => false
  | sp, a :: l => sp.contains a || dupB (sp ++ [a]) l
theorem dupB_take {sp l : List Int} {k : Nat} (hk : k < l.length) : dupB sp (l.take (k + 1)) = (dupB sp (l.take k) || (sp ++ l.take k).contains l[k]) := by
  induction l generalizing sp k with
  | nil => simp at hk
  | cons a l ih =>
    cases k with
    | zero => simp [dupB]
    | succ k =>
      have hk' : k < l.length := by simpa using hk
      simp only [List.take_succ_cons, dupB, List.getElem_cons_succ]
      rw [ih hk', Bool.or_assoc]
      simp
theorem dupB_more {sp l : List Int} : ∀ {k : Nat}, dupB sp (l.take k) = true → dupB sp l = true := by
  induction l generalizing sp with
  | nil => intro k h; simpa using h
  | cons a l ih =>
    intro k h
    cases k with
    | zero => simp [dupB] at h
    | succ k =>
      simp only [List.take_succ_cons, dupB, Bool.or_eq_true] at h ⊢
      rcases h with h | h
      · exact .inl h
      · exact .inr (ih h)
def zeR (r : Rw) : Bool := !r.1 && (r.2.1.length == 0 && r.2.2.length == 0)
def prR (r : Rw) : Bool := validR r && decide (0 ≤ valR r ∧ valR r ≤ 1)
/-- the last parts: K and the share -/
def gkE (kd kk : Int) (n : Nat) (r : Rw) : Int :=
  if kd = 2 ∧ ¬ (1 ≤ kk ∧ kk ≤ n) then 3 else if kd ≠ 2 ∧ kk ≠ 0 then 2 else if kd = 7 ∧ prR r = false then 3 else if kd ≠ 7 ∧ zeR r = false then 2 else 0
/-- the number of a gate's error; sp: the events of the spare gates before -/
def gaE (v m : Int) (sp : List Int) (kd kk : Int) (l : List Int) (r : Rw) : Int :=
  if ¬ (0 ≤ kd ∧ kd ≤ 8) then 7 else if dgAg kd l.length = false then 11 else if dgIx m l = false then 10 else if tyB kd v l = false then 7 else if kd = 7 ∧ dupB sp l = true then 6 else gkE kd kk l.length r
/-- the events of the first i gates that are spare gates -/
def spL (r : DyR) : Nat → List Int
  | 0 => []
  | i + 1 => if r.kd i = 7 then spL r i ++ r.ar i else spL r i
def DyR.ga (r : DyR) (i : Nat) : Int := gaE r.v (r.v + i) (spL r i) (r.kd i) (r.kk i) (r.ar i) (r.dor i)
def gsE (r : DyR) : Nat → Int
  | 0 => 0
  | i + 1 => if gsE r i = 0 then r.ga i else gsE r i
def codeD (r : DyR) : Int :=
  if ¬ (1 ≤ r.v ∧ r.v ≤ 24) then 3 else if 64 < r.ng then 4 else if ¬ ((r.nf : Int) = r.v ∧ (r.nr : Int) = r.v) then 11 else if rtsOk r.fl r.nf = false then 3 else if rtsOk r.rp r.nr = false then 3 else if gsE r r.ng ≠ 0 then gsE r r.ng else if ¬ (0 ≤ r.top ∧ r.top < r.v + r.ng) then 10 else 0
theorem gsE_stay {r : DyR} {e : Int} {k : Nat} (he : e ≠ 0) : ∀ {n : Nat}, k ≤ n → gsE r k = e → gsE r n = e
  | 0, h, h1 => by rw [show k = 0 by omega] at h1; exact h1
  | n + 1, h, h1 => by
    by_cases e1 : k = n + 1
    · rw [← e1]; exact h1
    · have := gsE_stay he (n := n) (by omega) h1
      rw [gsE, this, if_neg he]
theorem gsE_err {r : DyR} {k : Nat} (h : gsE r k = 0) (hc : r.ga k ≠ 0) (hk : k < r.ng) : gsE r r.ng = r.ga k := by
  refine gsE_stay hc (k := k + 1) (by omega) ?_
  rw [gsE, if_pos h]
theorem gsE_next {r : DyR} {k : Nat} (h : gsE r k = 0) (hc : r.ga k = 0) : gsE r (k + 1) = 0 := by rw [gsE, if_pos h, hc]
theorem gsE_zero {r : DyR} : ∀ {n : Nat}, gsE r n = 0 → ∀ j, j < n → r.ga j = 0
  | n + 1, h, j, hj => by
    rw [gsE] at h
    by_cases h1 : gsE r n = 0
    · rw [if_pos h1] at h
      by_cases e : j = n
      · rw [e]; exact h
      · exact gsE_zero h1 j (by omega)
    · rw [if_neg h1] at h; exact absurd h h1
/-- what a tree without an error has -/
structure DyOk (r : DyR) : Prop where
  v1 : 1 ≤ r.v
  v2 : r.v ≤ 24
  ng : r.ng ≤ 64
  nf : (r.nf : Int) = r.v
  nr : (r.nr : Int) = r.v
  fl : ∀ k, k < r.nf → rtOk r.fl k = true
  rp : ∀ k, k < r.nr → rtOk r.rp k = true
  ga : ∀ k, k < r.ng → r.ga k = 0
  t0 : 0 ≤ r.top
  t1 : r.top < r.v + r.ng
theorem codeD_ok {r : DyR} (h : codeD r = 0) : DyOk r := by
  unfold codeD at h
  split at h
  · simp at h
  · rename_i h1
    split at h
    · simp at h
    · rename_i h2
      split at h
      · simp at h
      · rename_i h3
        split at h
        · simp at h
        · rename_i h4
          split at h
          · simp at h
          · rename_i h5
            split at h
            · rename_i h6; exact absurd h h6
            · rename_i h6
              split at h
              · simp at h
              · rename_i h7
                exact ⟨by omega, by omega, by omega, by omega, by omega, fun k hk => rtsOk_at (by simpa using h4) hk, fun k hk => rtsOk_at (by simpa using h5) hk, gsE_zero (by simpa using h6), by omega, by omega⟩
structure GaOk (v m : Int) (sp : List Int) (kd kk : Int) (l : List Int) (r : Rw) : Prop where
  hkd : 0 ≤ kd ∧ kd ≤ 8
  ln : dgAg kd l.length = true
  ix : ∀ a, a ∈ l → 0 ≤ a ∧ a < m
  ty : ∀ k, k < l.length → (kd = 7 ∨ kd = 8 ∧ 0 < k) → l.getD k 0 < v
  dup : kd = 7 → dupB sp l = false
  hkk : kd = 2 → 1 ≤ kk ∧ kk ≤ l.length
  k0 : kd ≠ 2 → kk = 0
  pr : kd = 7 → prR r = true
  ze : kd ≠ 7 → zeR r = true
theorem gaE_ok {v m : Int} {sp : List Int} {kd kk : Int} {l : List Int} {r : Rw} (h : gaE v m sp kd kk l r = 0) : GaOk v m sp kd kk l r := by
  unfold gaE at h
  split at h
  · simp at h
  · rename_i h1
    split at h
    · simp at h
    · rename_i h2
      split at h
      · simp at h
      · rename_i h3
        split at h
        · simp at h
        · rename_i h4
          split at h
          · simp at h
          · rename_i h5
            unfold gkE at h
            split at h
            · simp at h
            · rename_i h6
              split at h
              · simp at h
              · rename_i h7
                split at h
                · simp at h
                · rename_i h8
                  split at h
                  · simp at h
                  · rename_i h9
                    refine ⟨by omega, by simpa using h2, fun a ha => dgIx_at (by simpa using h3) ha, fun k hk hq => ?_, fun e => ?_, fun e => ?_, fun e => ?_, fun e => ?_, fun e => ?_⟩
                    · have := tyB_at (by simpa using h4) hk
                      unfold tyK at this
                      simp only [decide_eq_true_iff] at this
                      rcases this with h | h
                      · exact h
                      · exact absurd hq h
                    · cases hd : dupB sp l
                      · rfl
                      · exact absurd ⟨e, hd⟩ h5
                    · have := h6; omega
                    · have := h7; omega
                    · cases hd : prR r
                      · exact absurd ⟨e, hd⟩ h8
                      · rfl
                    · cases hd : zeR r
                      · exact absurd ⟨e, hd⟩ h9
                      · rfl
/-- the tree as a plain one -/
def DyR.dy (r : DyR) : Dy where
  v := r.v.toNat
  ng := r.ng
  kd i := (r.kd i).toNat
  kk := r.kk
  ar i := (r.ar i).map Int.toNat
  top := r.top.toNat
def DyR.tr (r : DyR) : Tr where
  d := r.dy
  dor k := valR (r.dor k)
  fl k := valR (r.fl k)
  rp k := valR (r.rp k)
section
variable {r : DyR} {k : Nat}
theorem DyOk.gate (h : DyOk r) (hk : k < r.ng) : GaOk r.v (r.v + k) (spL r k) (r.kd k) (r.kk k) (r.ar k) (r.dor k) := gaE_ok (h.ga k hk)
theorem DyOk.vN (h : DyOk r) : (r.dy.v : Int) = r.v := by
  show ((r.v.toNat : Nat) : Int) = r.v
  have := h.v1
  omega
theorem DyOk.dok (h : DyOk r) : r.dy.Ok where
  ar i hi a ha := by
    obtain ⟨z, hz, rfl⟩ := List.mem_map.1 (show a ∈ (r.ar i).map Int.toNat from ha)
    have := (h.gate hi).ix z hz
    have hv := h.vN
    omega
  ev i hi hk a ha := by
    have hg := h.gate hi
    have hv := h.vN
    have hk8 : r.kd i = 8 := by
      have h1 : (r.kd i).toNat = 8 := hk
      have := hg.hkd
      omega
    have ht : a ∈ ((r.ar i).map Int.toNat).tail := ha
    obtain ⟨q, hq, e⟩ := List.getElem_of_mem ht
    rw [List.length_tail, List.length_map] at hq
    rw [List.getElem_tail, List.getElem_map] at e
    have h3 := hg.ty (q + 1) (by omega) (.inr ⟨hk8, by omega⟩)
    rw [List.getD_eq_getElem?_getD, List.getElem?_eq_getElem (by omega)] at h3
    have h4 := hg.ix _ (List.getElem_mem (by omega : q + 1 < (r.ar i).length))
    have h5 : (r.ar i)[q + 1] < r.v := h3
    omega
  ne i hi := by
    have := (dgAg_len (h.gate hi).ln).1
    show ((r.ar i).map Int.toNat).length ≠ 0
    rw [List.length_map]
    omega
  top := by
    show r.top.toNat < r.dy.v + r.ng
    have := h.t0
    have := h.t1
    have := h.vN
    omega
end
end Go.Proofs.YtoiopnmphbnjaaaGreatDoor
namespace Go.Proofs.YtoiopnmphbnjaaaGreatDoor
open Go.RowKit
set_option linter.unusedSimpArgs false
set_option linter.unusedVariables false
/-! ## bits, cells, rows of values: what the walks of dynamic trees need -/
theorem ybit (t k : Nat) : t / 2 ^ k % 2 = if t.testBit k then 1 else 0 := by
  rw [Nat.testBit_eq_decide_div_mod_eq]
  by_cases h : t / 2 ^ k % 2 = 1
  · simp [h]
  · simp [h]; omega
theorem yshr (x v : Nat) : (x : Int) / 2 ^ v = ((x / 2 ^ v : Nat) : Int) := by
  rw [show (2 : Int) ^ v = ((2 ^ v : Nat) : Int) from by simp]
  rfl
theorem yshl {k : Nat} (hk : k < 63) : wrap64 ((2 : Int) ^ k) = ((2 ^ k : Nat) : Int) := by
  have h := Nat.pow_lt_pow_right (a := 2) (by omega) hk
  have e : (2 : Int) ^ k = ((2 ^ k : Nat) : Int) := by simp
  rw [e]
  generalize 2 ^ k = p at *
  exact IntWalk.wrap64_in _ (by omega)
theorem yshl2 {k : Nat} (hk : k < 62) : IntKind.i64.wrap ((2 : Int) ^ k) = ((2 ^ k : Nat) : Int) := by
  have h := Nat.pow_lt_pow_right (a := 2) (by omega) hk
  rw [show (2 : Int) ^ k = ((2 ^ k : Nat) : Int) from by simp]
  generalize 2 ^ k = p at *
  rw [IntKind.wrap_i64]; omega
theorem yp24 {k : Nat} (hk : k < 24) : 2 ^ k < 16777216 := Nat.pow_lt_pow_right (a := 2) (by omega) hk
theorem yand1 {x : Nat} (h : x < 9223372036854775808) : bits .and .i64 (x : Int) 1 = ((x % 2 : Nat) : Int) := by
  have := i64_and x 1 h (by omega)
  rw [Nat.and_one_is_mod] at this
  exact this
/-- the values of a gate's arguments -/
theorem mapV {l : List Int} {V : Nat → Bool} {k : Nat} (hk : k < l.length) (h0 : 0 ≤ l[k]) : ((l.map Int.toNat).map V)[k]'(by simpa using hk) = V l[k].toNat := by simp
theorem dy_len (l : List Int) (V : Nat → Bool) : ((l.map Int.toNat).map V).length = l.length := by simp
end Go.Proofs.YtoiopnmphbnjaaaGreatDoor
namespace Go.Proofs.YtoiopnmphbnjaaaGreatDoor
open Go.RowKit
set_option linter.unusedSimpArgs false
set_option linter.unusedVariables false
set_option maxRecDepth 20000
attribute [local irreducible] nv wp win plainB validR valR canR
/-! ## rows of moves that grow, blocks of a kind -/
/-- what kind of block it is -/
def TyB (t : TypeId) (w : World) (g : Nat) : Prop := ∃ cur fz, w.heap[g]? = some (.cells cur t fz)
section
variable {t : TypeId} {w w' : World} {g b0 : Nat}
theorem TyB.below {B : Nat} (h : TyB t w g) (hb : Below B w w') (hg : g < B) : TyB t w' g := by
  obtain ⟨cur, fz, h⟩ := h
  exact ⟨cur, fz, (hb.block g hg).trans h⟩
theorem TyB.new (w : World) (cs : Array Value) : TyB t (w.alloc (.cells cs t)) w.heap.size := ⟨cs, _, heap_alloc_new w _⟩
theorem TyB.set (h : TyB t w g) (b o : Nat) (u : Value) : TyB t (w.setCell ⟨b, o, none⟩ u) g := by
  obtain ⟨cur, fz, h⟩ := h
  by_cases e : b = g
  · subst e
    refine ⟨cur.setIfInBounds o u, fz, ?_⟩
    simp [World.setCell, Array.getElem?_modify, h]
  · refine ⟨cur, fz, ?_⟩
    simp [World.setCell, Array.getElem?_modify, h, e]
theorem TyB.lt (h : TyB t w g) : g < w.heap.size := by
  obtain ⟨cur, fz, h⟩ := h
  exact (Array.getElem?_eq_some_iff.1 h).1
theorem TyB.grown (h : TyB t w g) {row : Option Nat} (hg : w.grownBy w' row) (hr : some g ≠ row) : TyB t w' g := by
  have hl := h.lt
  obtain ⟨cur, fz, h⟩ := h
  exact ⟨cur, fz, (hg.block g hl hr).trans h⟩
/-- a store into a block that holds no words -/
theorem Kp.set1 (h : TyB t w g) (ht : t ≠ 157) (hb : b0 ≤ g) (o : Nat) (u : Value) : Kp b0 w (w.setCell ⟨g, o, none⟩ u) := by
  obtain ⟨cur, fz, h⟩ := h
  exact (Kp.refl b0 w).store (p := ⟨g, o, none⟩) h ht hb u
end
theorem OwM.blockA {w : World} {b0 c n : Nat} {A : Option Addr} {F T : Nat → Int} {R : Nat → Rw} {a : Addr} (h : OwM w b0 A c n F T R) (ha : A = some a) : b0 ≤ a.block ∧ ∃ cur, w.heap[a.block]? = some (.cells cur 65 (0, 0)) := by
  subst ha
  obtain ⟨V, h1, h2⟩ := h
  rcases h2.2 with ⟨h, _⟩ | ⟨g', cap, cur, e, hb, hg, _⟩
  · cases h
  · injection e with e
    injection e with e
    subst e
    exact ⟨hb, cur, hg⟩
theorem Kp.of_grownT {t : TypeId} {w w' : World} {b0 : Nat} (ht : t ≠ 157) {row : Option Nat} (h : w.grownBy w' row) (hr : ∀ k, row = some k → b0 ≤ k ∧ ∃ cur, w.heap[k]? = some (.cells cur t (0, 0))) : Kp b0 w w' := by
  cases row with
  | none => exact ⟨h.os, h.tape, h.output, h.size, fun k hk _ => h.block k hk (by simp)⟩
  | some g =>
    obtain ⟨h1, cur, h2⟩ := hr g rfl
    exact Kp.grown h h1 h2 ht
theorem OwM.snoc {w w1 : World} {b0 n c' g' : Nat} {F T : Nat → Int} {R : Nat → Rw} {V : Nat → Value} {f t : Int} {v : Value} {r : Rw} (hV : ∀ k, k < n → RdS w b0 (V k) (R k)) (hr : RdS w b0 v r) (hk : Kp b0 w w1)
    (h : w1.ownsRow b0 65 5 (.slice (some ⟨g', 0, none⟩) (n + 1) c') (n + 1) (cellsM n F T V ++ cellM f t v)) : OwM w1 b0 (some ⟨g', 0, none⟩) c' (n + 1) (upd F n f) (upd T n t) (upd R n r) := by
  refine ⟨upd V n v, fun k hkn => ?_, ?_⟩
  · by_cases e : k = n
    · subst e; rw [upd_same, upd_same]; exact hr.kp hk
    · rw [upd_ne _ _ e, upd_ne _ _ e]; exact (hV k (by omega)).kp hk
  · rw [cellsM_succ, upd_same, upd_same, upd_same, cellsM_congr (F' := F) (T' := T) (U := V) fun j hj => ⟨upd_ne _ _ (by omega), upd_ne _ _ (by omega), upd_ne _ _ (by omega)⟩]
    exact h
/-- out = append(out, m) -/
theorem wpList_appM1 {w : World} {ops : Array Oper} {rest : List Oper} {o : Oper} {a : Act} {Q : Exit → Act → World → Prop} (hgd : o.guard = none) (s x : Operand)
    (ho : o.op = .call { callee := .builtin .append, args := #[s, x], argTypes := #[29, 29] })
    (b0 : Nat) (A : Option Addr) (c n : Nat) (F T : Nat → Int) (R : Nat → Rw) (hs : a.eval s = .slice A n c) (hown : OwM w b0 A c n F T R)
    (B : Nat) (f t : Int) (sg : Bool) (A1 : Option Addr) (n1 c1 : Nat) (B1 : Option Addr) (m1 d1 : Nat) (r : Rw) (hx : a.eval x = .slice (some ⟨B, 0, none⟩) 1 1)
    (hc0 : w.cell? ⟨B, 0, none⟩ = some (.int .i64 f)) (hc1 : w.cell? ⟨B, 1, none⟩ = some (.int .i64 t)) (hc2 : w.cell? ⟨B, 2, none⟩ = some (.bool sg)) (hc3 : w.cell? ⟨B, 3, none⟩ = some (.slice A1 n1 c1)) (hc4 : w.cell? ⟨B, 4, none⟩ = some (.slice B1 m1 d1)) (hr : RdS w b0 (rv sg A1 n1 c1 B1 m1 d1) r)
    (hn : n ≤ 1000000) (hbase : b0 ≤ w.heap.size)
    (h : ∀ g cap w', OwM w' b0 (some ⟨g, 0, none⟩) cap (n + 1) (upd F n f) (upd T n t) (upd R n r) → w.grownBy w' (Value.slice A n c).ownBlock → ((Value.slice A n c).ownBlock = some g ∨ w.heap.size ≤ g) → g < w'.heap.size → wpList Tryz.prog ops Q rest (a.put o.dst (.slice (some ⟨g, 0, none⟩) (n + 1) cap)) w') : wpList Tryz.prog ops Q (o :: rest) a w := by
  obtain ⟨i0, hi0, hz0, hz1, hz2⟩ := info_parts moveInfo
  have hown0 := hown
  obtain ⟨V, hV, hown⟩ := hown
  refine wpList_append_lies _ hgd s x 29 ho b0 65 i0 _ 5 72 Tryz.underlying29 hi0 hz0 hz1 hz2 rfl (by omega) _ n _ hs hown ⟨B, 0, none⟩ 1 1 (cellM f t (rv sg A1 n1 c1 B1 m1 d1)) hx rfl ?_ ?_ (by omega) (by unfold maxLen; omega) (by omega) hbase w.heap.size rfl ?_
  · intro j u hu
    rw [addr_add, Nat.zero_add]
    match j, hu with
    | 0, hu => simp [cellM, c3] at hu; subst hu; exact hc0
    | 1, hu => simp [cellM, c3] at hu; subst hu; exact hc1
    | 2, hu => simp [cellM, c3] at hu; subst hu; exact hc2
    | 3, hu => simp [cellM, c3] at hu; subst hu; exact hc3
    | 4, hu => simp [cellM, c3] at hu; subst hu; exact hc4
    | j + 5, hu => simp [cellM, c3] at hu
  · intro u hu
    simp [cellM, c3] at hu
    rcases hu with rfl | rfl | rfl | rfl | rfl <;> rfl
  · intro g cap w' h1 h2 h3 h4
    refine h g cap w' (OwM.snoc hV hr (Kp.of_grownT (t := 65) (by decide) h2 ?_) h1) h2 (h3.imp id fun e => by omega) h4
    intro k hk
    cases e : A with
    | none => rw [e] at hk; cases hk
    | some a =>
      rw [e] at hk
      injection hk with hk
      subst hk
      exact hown0.blockA e
end Go.Proofs.YtoiopnmphbnjaaaGreatDoor
namespace Go.Proofs.YtoiopnmphbnjaaaGreatDoor
open Go.RowKit
set_option linter.unusedSimpArgs false
set_option linter.unusedVariables false
set_option maxRecDepth 20000
attribute [local irreducible] nv wp win plainB validR valR canR mvE chkM codeC
/-- out = append(out, m), at a step of a region that draws -/
theorem step_appM {w : World} {ops : Array Oper} {o : Oper} {a : Act} {K : Act → World → Prop} {Q : Exit → Act → World → Prop} {E : Prop} (hgd : o.guard = none) (s x : Operand)
    (ho : o.op = .call { callee := .builtin .append, args := #[s, x], argTypes := #[29, 29] })
    (b0 : Nat) (A : Option Addr) (c n : Nat) (F T : Nat → Int) (R : Nat → Rw) (hs : a.eval s = .slice A n c) (hown : OwM w b0 A c n F T R)
    (B : Nat) (f t : Int) (sg : Bool) (A1 : Option Addr) (n1 c1 : Nat) (B1 : Option Addr) (m1 d1 : Nat) (r : Rw) (hx : a.eval x = .slice (some ⟨B, 0, none⟩) 1 1)
    (hc0 : w.cell? ⟨B, 0, none⟩ = some (.int .i64 f)) (hc1 : w.cell? ⟨B, 1, none⟩ = some (.int .i64 t)) (hc2 : w.cell? ⟨B, 2, none⟩ = some (.bool sg)) (hc3 : w.cell? ⟨B, 3, none⟩ = some (.slice A1 n1 c1)) (hc4 : w.cell? ⟨B, 4, none⟩ = some (.slice B1 m1 d1)) (hr : RdS w b0 (rv sg A1 n1 c1 B1 m1 d1) r)
    (hn : n ≤ 1000000) (hbase : b0 ≤ w.heap.size)
    (h : ∀ g cap w', OwM w' b0 (some ⟨g, 0, none⟩) cap (n + 1) (upd F n f) (upd T n t) (upd R n r) → w.grownBy w' (Value.slice A n c).ownBlock → ((Value.slice A n c).ownBlock = some g ∨ w.heap.size ≤ g) → g < w'.heap.size → K (a.put o.dst (.slice (some ⟨g, 0, none⟩) (n + 1) cap)) w') :
    if Region.wanted o (yielded ops a.tmps) = true then Oper.wp Tryz.prog o a w K Q else E := by
  obtain ⟨i0, hi0, hz0, hz1, hz2⟩ := info_parts moveInfo
  have hown0 := hown
  obtain ⟨V, hV, hown⟩ := hown
  refine step_append_lies _ hgd s x 29 ho b0 65 i0 _ 5 72 Tryz.underlying29 hi0 hz0 hz1 hz2 rfl (by omega) _ n _ hs hown ⟨B, 0, none⟩ 1 1 (cellM f t (rv sg A1 n1 c1 B1 m1 d1)) hx rfl ?_ ?_ (by omega) (by unfold maxLen; omega) (by omega) hbase w.heap.size rfl ?_
  · intro j u hu
    rw [addr_add, Nat.zero_add]
    match j, hu with
    | 0, hu => simp [cellM, c3] at hu; subst hu; exact hc0
    | 1, hu => simp [cellM, c3] at hu; subst hu; exact hc1
    | 2, hu => simp [cellM, c3] at hu; subst hu; exact hc2
    | 3, hu => simp [cellM, c3] at hu; subst hu; exact hc3
    | 4, hu => simp [cellM, c3] at hu; subst hu; exact hc4
    | j + 5, hu => simp [cellM, c3] at hu
  · intro u hu
    simp [cellM, c3] at hu
    rcases hu with rfl | rfl | rfl | rfl | rfl <;> rfl
  · intro g cap w' h1 h2 h3 h4
    refine h g cap w' (OwM.snoc hV hr (Kp.of_grownT (t := 65) (by decide) h2 ?_) h1) h2 (h3.imp id fun e => by omega) h4
    intro k hk
    cases e : A with
    | none => rw [e] at hk; cases hk
    | some a =>
      rw [e] at hk
      injection hk with hk
      subst hk
      exact hown0.blockA e
end Go.Proofs.YtoiopnmphbnjaaaGreatDoor
