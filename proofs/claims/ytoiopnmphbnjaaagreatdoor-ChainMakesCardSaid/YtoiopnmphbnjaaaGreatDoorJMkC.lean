/- Contracts and lemmas for the given statements. Conditions: those alone that each names. -/
import Derived.Test.YtoiopnmphbnjaaaGreatDoorDynMake
import Derived.Test.YtoiopnmphbnjaaaGreatDoorJDynMa
import Derived.Test.YtoiopnmphbnjaaaGreatDoorJLiDy
namespace Go.Proofs.YtoiopnmphbnjaaaGreatDoor
open Go.RowKit
set_option linter.unusedSimpArgs false
set_option linter.unusedVariables false
set_option maxRecDepth 20000
/-! ## the chain that Make makes -/
section
variable {n : Nat} {R : Nat → Nat → Rat} {D : Nat → Bool}
theorem prs_get {k : Nat} (h : k < (prs n R).length) : (prs n R).getD k (0, 0) ∈ prs n R := by
 rw [List.getD_eq_getElem?_getD, List.getElem?_eq_getElem h]
 exact List.getElem_mem h
end
end Go.Proofs.YtoiopnmphbnjaaaGreatDoor
namespace Go.Proofs.YtoiopnmphbnjaaaGreatDoor
open Go.RowKit
set_option linter.unusedSimpArgs false
set_option linter.unusedVariables false
set_option maxRecDepth 20000
/-! ## the chain of a tree with short rates (plain): its numbers stay short -/
theorem spL_in {r : DyR} {k : Nat} {a : Int} (h7 : r.kd k = 7) (ha : a ∈ r.ar k) : ∀ {n : Nat}, k < n → a ∈ spL r n
 | n + 1, h => by
   rw [spL]
   by_cases e : k = n
   · subst e
     rw [if_pos h7]
     exact List.mem_append_right _ ha
   · have := spL_in h7 ha (n := n) (by omega)
     split
     · exact List.mem_append_left _ this
     · exact this
theorem dupB_in {a : Int} : ∀ {l sp : List Int}, a ∈ sp → a ∈ l → dupB sp l = true
 | b :: l, sp, h1, h2 => by
   rw [dupB, Bool.or_eq_true]
   rcases List.mem_cons.1 h2 with e | h2
   · subst e
     exact .inl (by simpa using h1)
   · exact .inr (dupB_in (List.mem_append_left _ h1) h2)
section
variable {r : DyR} {s : DS} {i : Nat}
theorem rt_one (ok : DyOk r) {k k' : Nat} (hk : k < k') (hk' : k' < r.ng) (h : rtK r.dy s i k) (h' : rtK r.dy s i k') : False := by
 obtain ⟨h1, h2, -⟩ := h
 obtain ⟨h3, h4, -⟩ := h'
 have g1 := ok.gate (k := k) (by omega)
 have g2 := ok.gate (k := k') hk'
 have e1 : r.kd k = 7 := by
   have : (r.kd k).toNat = 7 := h1
   omega
 have e2 : r.kd k' = 7 := by
   have : (r.kd k').toNat = 7 := h3
   omega
 obtain ⟨a, ha, ea⟩ := List.mem_map.1 (show i ∈ (r.ar k).map Int.toNat from h2)
 obtain ⟨b, hb, eb⟩ := List.mem_map.1 (show i ∈ (r.ar k').map Int.toNat from h4)
 have := g1.ix a ha
 have := g2.ix b hb
 have e : a = b := by omega
 subst e
 have := dupB_in (spL_in e1 ha hk) hb
 rw [g2.dup e2] at this
 cases this
theorem rtD_alt {d : Dy} {dor : Nat → Rat} {f0 : Rat} {n : Nat} (h1 : ∀ k k', k < k' → k' < n → rtK d s i k → rtK d s i k' → False) : ∀ k, k ≤ n → (rtD d dor s i f0 k = f0 ∧ ∀ j, j < k → ¬ rtK d s i j) ∨ ∃ j, j < k ∧ rtK d s i j ∧ rtD d dor s i f0 k = f0 * dor j
 | 0, _ => .inl ⟨rfl, fun j hj => by omega⟩
 | k + 1, hk => by
   rw [rtD]
   by_cases e : rtK d s i k
   · rw [if_pos e]
     rcases rtD_alt (dor := dor) (f0 := f0) h1 k (by omega) with ⟨h2, h3⟩ | ⟨j, hj, h2, h3⟩
     · exact .inr ⟨k, by omega, e, by rw [h2]⟩
     · exact absurd e (fun e => h1 j k hj (by omega) h2 e)
   · rw [if_neg e]
     rcases rtD_alt (dor := dor) (f0 := f0) h1 k (by omega) with ⟨h2, h3⟩ | ⟨j, hj, h2, h3⟩
     · exact .inl ⟨h2, fun j hj => by
         by_cases e2 : j = k
         · rw [e2]; exact e
         · exact h3 j (by omega)⟩
     · exact .inr ⟨j, by omega, h2, h3⟩
/-- the rates of a tree that is accepted, short -/
structure TrT (r : DyR) : Prop where
 ts : TrS r
 fz : ∀ i, i < r.v.toNat → Sz 4 (valR (r.fl i))
 rz : ∀ i, i < r.v.toNat → Sz 4 (valR (r.rp i))
 dz : ∀ k, k < r.ng → Sz 4 (valR (r.dor k))
theorem TrT.fr (h : TrT r) (ok : DyOk r) (hi : i < r.v.toNat) : Sz 8 (r.tr.fr s i) := by
 unfold Tr.fr
 split
 · exact Sz.zero (by omega)
 · rcases rtD_alt (d := r.tr.d) (dor := r.tr.dor) (f0 := r.tr.fl i) (s := s) (i := i) (n := r.tr.d.ng) (fun k k' hk hk' => rt_one ok hk hk') _ (Nat.le_refl _) with ⟨h1, -⟩ | ⟨j, hj, -, h1⟩
   · rw [h1]; exact (h.fz i hi).more (by omega)
   · rw [h1]; exact (h.fz i hi).mul (h.dz j hj) (by omega)
theorem TrT.rr (h : TrT r) (hi : i < r.v.toNat) : Sz 8 (r.tr.rr s i) := by
 unfold Tr.rr
 split
 · split
   · exact Sz.zero (by omega)
   · exact (h.rz i hi).more (by omega)
 · exact Sz.zero (by omega)
theorem nx_t (ok : DyOk r) (hs : TrT r) (h : StOk r s.1 s.2) : ∀ y, y ∈ r.tr.nx s r.v.toNat → 0 < y.2 ∧ Sz 8 y.2 ∧ StOk r y.1.1 y.1.2 := fun y hy => by
 have h0 := nx_ok ok hs.ts h (Nat.le_refl _) y hy
 refine ⟨h0.1, ?_, h0.2.2⟩
 obtain ⟨i, hi, h1 | h1⟩ := Tr.nx_mem hy
 · rw [h1.1]; exact hs.fr ok hi
 · rw [h1.1]; exact hs.rr hi
/-- what Make has made -/
structure MkZ (r : DyR) (z : List DS × (Nat → Nat → Rat)) : Prop where
 n1 : 1 ≤ z.1.length
 n2 : z.1.length ≤ 256
 nd : z.1.Nodup
 rch : ∀ b, 0 < b → b < z.1.length → ∃ a, a < b ∧ 0 < z.2 a b
 sz : ∀ a b, Sz 100 (z.2 a b)
 st : ∀ s, s ∈ z.1 → StOk r s.1 s.2
 s0 : z.1[0]? = some (setl r.dy 0 (List.replicate r.ng 0))
 row : ∀ a s, z.1[a]? = some s → ∀ y, y ∈ r.tr.nx s r.v.toNat → y.1 ∈ z.1 ∧ y.2 ≤ z.2 a (z.1.idxOf y.1)
 nn : ∀ a b, 0 ≤ z.2 a b
theorem mk_z (ok : DyOk r) (hs : TrT r) (h5 : r.v ≤ 5) {z : List DS × (Nat → Nat → Rat)} (h : r.tr.make = some z) : MkZ r z := by
 have hn : ∀ s, StOk r s.1 s.2 → ∀ y, y ∈ r.tr.nx s r.v.toNat → 0 < y.2 ∧ Sz 8 y.2 ∧ StOk r y.1.1 y.1.2 := fun s h => nx_t ok hs h
 have hN : ∀ s, (r.tr.nx s r.v.toNat).length ≤ 10 := fun s => by
   have := Tr.nx_len r.tr s r.v.toNat
   omega
 have hI := MkI.all (L := 8) (N := 10) (P := fun s => StOk r s.1 s.2) (nx := fun s => r.tr.nx s r.v.toNat) hn hN (n := 256) (MkI.start (start_ok ok)) (by omega) h
 have h0 := hI.s0
 refine ⟨?_, hI.le, hI.nd, fun b h1 h2 => ?_, fun a b => (hI.sz a b).more (by omega), hI.mem, hI.s0, fun a s ha => hI.row a s (List.getElem?_eq_some_iff.1 ha).1 ha, hI.nn⟩
 · have := (List.getElem?_eq_some_iff.1 h0).1
   omega
 · obtain ⟨a, h3, _, h4⟩ := hI.rch b h1 h2
   exact ⟨a, h3, h4⟩
theorem mk_t {w : World} {AG AF AR : Option Addr} (h : DyI w AG AF AR r) (hc : codeD r = 0) (hs : Sl49 r) : TrT r := by
 have ok := codeD_ok hc
 have hv := ok.v1
 have okF : ∀ k, k < r.nf → okR (r.fl k) := fun k hk => by
   obtain ⟨V, h1, _⟩ := h.fa
   obtain ⟨_, _, _, _, _, _, _, h2, _⟩ := h1 k hk
   exact h2
 have okP : ∀ k, k < r.nr → okR (r.rp k) := fun k hk => by
   obtain ⟨V, h1, _⟩ := h.ra
   obtain ⟨_, _, _, _, _, _, _, h2, _⟩ := h1 k hk
   exact h2
 have okD : ∀ k, k < r.ng → okR (r.dor k) := fun k hk => by
   obtain ⟨_, _, _, _, _, _, _, _, _, _, _, _, _, _, _, _, _, _, _, _, ⟨_, _, _, _, _, _, _, h2, _⟩, _⟩ := h.at_ hk
   exact h2
 have hF : ∀ i, i < r.v.toNat → i < r.nf := fun i hi => by have := ok.nf; omega
 have hP : ∀ i, i < r.v.toNat → i < r.nr := fun i hi => by have := ok.nr; omega
 have rt : ∀ {R : Nat → Rw} {k : Nat}, rtOk R k = true → 0 ≤ valR (R k) := fun {R k} h => by
   unfold rtOk at h
   simp only [Bool.and_eq_true, decide_eq_true_eq] at h
   exact h.2
 have fz : ∀ i, i < r.v.toNat → Sz 4 (valR (r.fl i)) := fun i hi => Sz_valR (okF i (hF i hi)) (by omega) (hs.fl i (hF i hi)).1 (hs.fl i (hF i hi)).2
 have rz : ∀ i, i < r.v.toNat → Sz 4 (valR (r.rp i)) := fun i hi => Sz_valR (okP i (hP i hi)) (by omega) (hs.rp i (hP i hi)).1 (hs.rp i (hP i hi)).2
 have dz : ∀ k, k < r.ng → Sz 4 (valR (r.dor k)) := fun k hk => Sz_valR (okD k hk) (by omega) (hs.dor k hk).1 (hs.dor k hk).2
 refine ⟨⟨fun i hi => rt (ok.fl i (hF i hi)), fun i hi => rt (ok.rp i (hP i hi)), fun k hk h7 => ?_, fun i hi => (fz i hi).more (by omega), fun i hi => (rz i hi).more (by omega), fun k hk => (dz k hk).more (by omega)⟩, fz, rz, dz⟩
 have := (ok.gate hk).pr h7
 unfold prR at this
 simp only [Bool.and_eq_true, decide_eq_true_eq] at this
 exact this.2.1
end
end Go.Proofs.YtoiopnmphbnjaaaGreatDoor
