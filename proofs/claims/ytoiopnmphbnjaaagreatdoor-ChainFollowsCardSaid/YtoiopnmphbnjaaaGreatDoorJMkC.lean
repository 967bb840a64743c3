/- Contracts of functions and lemmas, used by the proofs of the given statements. No condition beyond those that each lemma names. -/
import Derived.Test.YtoiopnmphbnjaaaGreatDoorDynMake
import Derived.Test.YtoiopnmphbnjaaaGreatDoorReaW
import Derived.Test.YtoiopnmphbnjaaaGreatDoorSliD
import Derived.Test.YtoiopnmphbnjaaaGreatDoorJDynMa
namespace Go.Proofs.YtoiopnmphbnjaaaGreatDoor
open Go.RowKit
set_option linter.unusedSimpArgs false
set_option linter.unusedVariables false
set_option maxRecDepth 20000
/-! ## the chain that Make makes -/
/-- the chain of the states and the rates between them -/
def mkC (n : Nat) (R : Nat → Nat → Rat) (D : Nat → Bool) : Chn :=
  ⟨(n : Int), 0, (prs n R).length, fun k => (((prs n R).getD k (0, 0)).1 : Nat), fun k => (((prs n R).getD k (0, 0)).2 : Nat), fun k => canR (R ((prs n R).getD k (0, 0)).1 ((prs n R).getD k (0, 0)).2), n, D⟩
section
variable {n : Nat} {R : Nat → Nat → Rat} {D : Nat → Bool}
theorem prs_get {k : Nat} (h : k < (prs n R).length) : (prs n R).getD k (0, 0) ∈ prs n R := by
  rw [List.getD_eq_getElem?_getD, List.getElem?_eq_getElem h]
  exact List.getElem_mem h
theorem mkC_q (k : Nat) : (mkC n R D).q k = R ((prs n R).getD k (0, 0)).1 ((prs n R).getD k (0, 0)).2 := valR_canR _
theorem mkC_f (k : Nat) : (mkC n R D).f k = ((prs n R).getD k (0, 0)).1 := rfl
theorem mkC_t (k : Nat) : (mkC n R D).t k = ((prs n R).getD k (0, 0)).2 := rfl
theorem mkC_ok (h1 : 1 ≤ n) (h2 : n ≤ 256) : (mkC n R D).Ok := by
  refine ⟨h1, h2, rfl, Int.le_refl 0, by show (0 : Int) < (n : Int); omega, fun k hk => ?_⟩
  have hm := mem_prs.1 (prs_get (R := R) hk)
  refine ⟨by show (0 : Int) ≤ ((_ : Nat) : Int); omega, ?_, by show (0 : Int) ≤ ((_ : Nat) : Int); omega, ?_, ?_, ?_, fun h0 => ?_⟩
  · show (((prs n R).getD k (0, 0)).1 : Int) < (n : Int)
    omega
  · show (((prs n R).getD k (0, 0)).2 : Int) < (n : Int)
    omega
  · show (((prs n R).getD k (0, 0)).1 : Int) ≠ (((prs n R).getD k (0, 0)).2 : Int)
    omega
  · rw [mkC_q]; exact hm.2.2.2
  · have hl := (prs_lex n R)
    have hk' : k < (prs n R).length := hk
    have := List.pairwise_iff_getElem.1 hl (k - 1) k (by omega) hk' (by omega)
    show (((prs n R).getD (k - 1) (0, 0)).1 : Int) < (((prs n R).getD k (0, 0)).1 : Int) ∨ (((prs n R).getD (k - 1) (0, 0)).1 : Int) = (((prs n R).getD k (0, 0)).1 : Int) ∧ (((prs n R).getD (k - 1) (0, 0)).2 : Int) < (((prs n R).getD k (0, 0)).2 : Int)
    rw [List.getD_eq_getElem?_getD, List.getD_eq_getElem?_getD, List.getElem?_eq_getElem hk', List.getElem?_eq_getElem (show k - 1 < (prs n R).length by omega)]
    unfold lexP at this
    simp only [Option.getD_some]
    omega
theorem mkC_rch (h : ∀ b, 0 < b → b < n → ∃ a, a < b ∧ 0 < R a b) : ∀ b, b < n → Rch (mkC n R D) 0 b := by
  intro b
  induction b using Nat.strongRecOn with
  | _ b ih =>
    intro hb
    by_cases h0 : b = 0
    · rw [h0]; exact .base
    · obtain ⟨a, hab, hR⟩ := h b (by omega) hb
      have hm : (a, b) ∈ prs n R := mem_prs.2 ⟨by show a < n; omega, hb, by show a ≠ b; omega, hR⟩
      obtain ⟨k, hk, e⟩ := List.getElem_of_mem hm
      have e1 : (prs n R).getD k (0, 0) = (a, b) := by rw [List.getD_eq_getElem?_getD, List.getElem?_eq_getElem hk, e]; rfl
      have := Rch.step (c := mkC n R D) (s := 0) (k := k) hk (by rw [mkC_f, e1]; exact ih a hab (by omega))
      rw [mkC_t, e1] at this
      exact this
theorem mkC_in {w : World} {b0 cm cd : Nat} {AM AD : Option Addr} (h : OwPr w b0 AM cm (prs n R) R) (hd : OwVb w b0 AD cd n D) (hb : b0 ≤ w.heap.size) : ChI w w.heap.size AM cm AD cd (mkC n R D) := by
  obtain ⟨V, hV, ho⟩ := h
  rw [cellsP_M] at ho
  have hM : OwM w b0 AM cm (prs n R).length (fun k => (((prs n R).getD k (0, 0)).1 : Nat)) (fun k => (((prs n R).getD k (0, 0)).2 : Nat)) (fun k => canR (R ((prs n R).getD k (0, 0)).1 ((prs n R).getD k (0, 0)).2)) := ⟨fun k => V ((prs n R).getD k (0, 0)), fun k hk => hV _ (prs_get hk), ho⟩
  refine ⟨hM.ra.mi hb, Rds.of_own hd, fun hn a ha => ?_, hM.cap, ?_⟩
  · have := World.ownsRow.lt hd a.block (by rw [ha]; rfl)
    exact this.2
  · obtain ⟨A', c', e, h2⟩ := own_form hd
    injection e with _ _ e3
    show n ≤ cd
    omega
end
end Go.Proofs.YtoiopnmphbnjaaaGreatDoor
namespace Go.Proofs.YtoiopnmphbnjaaaGreatDoor
open Go.RowKit
set_option linter.unusedSimpArgs false
set_option linter.unusedVariables false
set_option maxRecDepth 20000
/-! ## the chain of a tree with short rates (plain): its numbers stay short -/
theorem spL_in {r : DyR} {k : Nat} {a : Int} (h7 : r.kd k = 7) (ha : a ∈ r.ar k) : ∀ {n : Nat}, k < n → a ∈ spL r n
  | n + 1, h => by
    rw [spL]
    by_cases e : k = n
    · subst e
      rw [if_pos h7]
      exact List.mem_append_right _ ha
    · have := spL_in h7 ha (n := n) (by omega)
      split
      · exact List.mem_append_left _ this
      · exact this
theorem dupB_in {a : Int} : ∀ {l sp : List Int}, a ∈ sp → a ∈ l → dupB sp l = true
  | b :: l, sp, h1, h2 => by
    rw [dupB, Bool.or_eq_true]
    rcases List.mem_cons.1 h2 with e | h2
    · subst e
      exact .inl (by simpa using h1)
    · exact .inr (dupB_in (List.mem_append_left _ h1) h2)
section
variable {r : DyR} {s : DS} {i : Nat}
theorem rt_one (ok : DyOk r) {k k' : Nat} (hk : k < k') (hk' : k' < r.ng) (h : rtK r.dy s i k) (h' : rtK r.dy s i k') : False := by
  obtain ⟨h1, h2, -⟩ := h
  obtain ⟨h3, h4, -⟩ := h'
  have g1 := ok.gate (k := k) (by omega)
  have g2 := ok.gate (k := k') hk'
  have e1 : r.kd k = 7 := by
    have : (r.kd k).toNat = 7 := h1
    omega
  have e2 : r.kd k' = 7 := by
    have : (r.kd k').toNat = 7 := h3
    omega
  obtain ⟨a, ha, ea⟩ := List.mem_map.1 (show i ∈ (r.ar k).map Int.toNat from h2)
  obtain ⟨b, hb, eb⟩ := List.mem_map.1 (show i ∈ (r.ar k').map Int.toNat from h4)
  have := g1.ix a ha
  have := g2.ix b hb
  have e : a = b := by omega
  subst e
  have := dupB_in (spL_in e1 ha hk) hb
  rw [g2.dup e2] at this
  cases this
theorem rtD_alt {d : Dy} {dor : Nat → Rat} {f0 : Rat} {n : Nat} (h1 : ∀ k k', k < k' → k' < n → rtK d s i k → rtK d s i k' → False) : ∀ k, k ≤ n → (rtD d dor s i f0 k = f0 ∧ ∀ j, j < k → ¬ rtK d s i j) ∨ ∃ j, j < k ∧ rtK d s i j ∧ rtD d dor s i f0 k = f0 * dor j
  | 0, _ => .inl ⟨rfl, fun j hj => by omega⟩
  | k + 1, hk => by
    rw [rtD]
    by_cases e : rtK d s i k
    · rw [if_pos e]
      rcases rtD_alt (dor := dor) (f0 := f0) h1 k (by omega) with ⟨h2, h3⟩ | ⟨j, hj, h2, h3⟩
      · exact .inr ⟨k, by omega, e, by rw [h2]⟩
      · exact absurd e (fun e => h1 j k hj (by omega) h2 e)
    · rw [if_neg e]
      rcases rtD_alt (dor := dor) (f0 := f0) h1 k (by omega) with ⟨h2, h3⟩ | ⟨j, hj, h2, h3⟩
      · exact .inl ⟨h2, fun j hj => by
          by_cases e2 : j = k
          · rw [e2]; exact e
          · exact h3 j (by omega)⟩
      · exact .inr ⟨j, by omega, h2, h3⟩
/-- the rates of a tree that is accepted, short -/
structure TrT (r : DyR) : Prop where
  ts : TrS r
  fz : ∀ i, i < r.v.toNat → Sz 4 (valR (r.fl i))
  rz : ∀ i, i < r.v.toNat → Sz 4 (valR (r.rp i))
  dz : ∀ k, k < r.ng → Sz 4 (valR (r.dor k))
theorem TrT.fr (h : TrT r) (ok : DyOk r) (hi : i < r.v.toNat) : Sz 8 (r.tr.fr s i) := by
  unfold Tr.fr
  split
  · exact Sz.zero (by omega)
  · rcases rtD_alt (d := r.tr.d) (dor := r.tr.dor) (f0 := r.tr.fl i) (s := s) (i := i) (n := r.tr.d.ng) (fun k k' hk hk' => rt_one ok hk hk') _ (Nat.le_refl _) with ⟨h1, -⟩ | ⟨j, hj, -, h1⟩
    · rw [h1]; exact (h.fz i hi).more (by omega)
    · rw [h1]; exact (h.fz i hi).mul (h.dz j hj) (by omega)
theorem TrT.rr (h : TrT r) (hi : i < r.v.toNat) : Sz 8 (r.tr.rr s i) := by
  unfold Tr.rr
  split
  · split
    · exact Sz.zero (by omega)
    · exact (h.rz i hi).more (by omega)
  · exact Sz.zero (by omega)
theorem nx_t (ok : DyOk r) (hs : TrT r) (h : StOk r s.1 s.2) : ∀ y, y ∈ r.tr.nx s r.v.toNat → 0 < y.2 ∧ Sz 8 y.2 ∧ StOk r y.1.1 y.1.2 := fun y hy => by
  have h0 := nx_ok ok hs.ts h (Nat.le_refl _) y hy
  refine ⟨h0.1, ?_, h0.2.2⟩
  obtain ⟨i, hi, h1 | h1⟩ := Tr.nx_mem hy
  · rw [h1.1]; exact hs.fr ok hi
  · rw [h1.1]; exact hs.rr hi
/-- what Make has made -/
structure MkZ (r : DyR) (z : List DS × (Nat → Nat → Rat)) : Prop where
  n1 : 1 ≤ z.1.length
  n2 : z.1.length ≤ 256
  nd : z.1.Nodup
  rch : ∀ b, 0 < b → b < z.1.length → ∃ a, a < b ∧ 0 < z.2 a b
  sz : ∀ a b, Sz 100 (z.2 a b)
  st : ∀ s, s ∈ z.1 → StOk r s.1 s.2
  s0 : z.1[0]? = some (setl r.dy 0 (List.replicate r.ng 0))
  row : ∀ a s, z.1[a]? = some s → ∀ y, y ∈ r.tr.nx s r.v.toNat → y.1 ∈ z.1 ∧ y.2 ≤ z.2 a (z.1.idxOf y.1)
  nn : ∀ a b, 0 ≤ z.2 a b
theorem mk_z (ok : DyOk r) (hs : TrT r) (h5 : r.v ≤ 5) {z : List DS × (Nat → Nat → Rat)} (h : r.tr.make = some z) : MkZ r z := by
  have hn : ∀ s, StOk r s.1 s.2 → ∀ y, y ∈ r.tr.nx s r.v.toNat → 0 < y.2 ∧ Sz 8 y.2 ∧ StOk r y.1.1 y.1.2 := fun s h => nx_t ok hs h
  have hN : ∀ s, (r.tr.nx s r.v.toNat).length ≤ 10 := fun s => by
    have := Tr.nx_len r.tr s r.v.toNat
    omega
  have hI := MkI.all (L := 8) (N := 10) (P := fun s => StOk r s.1 s.2) (nx := fun s => r.tr.nx s r.v.toNat) hn hN (n := 256) (MkI.start (start_ok ok)) (by omega) h
  have h0 := hI.s0
  refine ⟨?_, hI.le, hI.nd, fun b h1 h2 => ?_, fun a b => (hI.sz a b).more (by omega), hI.mem, hI.s0, fun a s ha => hI.row a s (List.getElem?_eq_some_iff.1 ha).1 ha, hI.nn⟩
  · have := (List.getElem?_eq_some_iff.1 h0).1
    omega
  · obtain ⟨a, h3, _, h4⟩ := hI.rch b h1 h2
    exact ⟨a, h3, h4⟩
theorem mk_t {w : World} {AG AF AR : Option Addr} (h : DyI w AG AF AR r) (hc : codeD r = 0) (hs : Sl49 r) : TrT r := by
  have ok := codeD_ok hc
  have hv := ok.v1
  have okF : ∀ k, k < r.nf → okR (r.fl k) := fun k hk => by
    obtain ⟨V, h1, _⟩ := h.fa
    obtain ⟨_, _, _, _, _, _, _, h2, _⟩ := h1 k hk
    exact h2
  have okP : ∀ k, k < r.nr → okR (r.rp k) := fun k hk => by
    obtain ⟨V, h1, _⟩ := h.ra
    obtain ⟨_, _, _, _, _, _, _, h2, _⟩ := h1 k hk
    exact h2
  have okD : ∀ k, k < r.ng → okR (r.dor k) := fun k hk => by
    obtain ⟨_, _, _, _, _, _, _, _, _, _, _, _, _, _, _, _, _, _, _, _, ⟨_, _, _, _, _, _, _, h2, _⟩, _⟩ := h.at_ hk
    exact h2
  have hF : ∀ i, i < r.v.toNat → i < r.nf := fun i hi => by have := ok.nf; omega
  have hP : ∀ i, i < r.v.toNat → i < r.nr := fun i hi => by have := ok.nr; omega
  have rt : ∀ {R : Nat → Rw} {k : Nat}, rtOk R k = true → 0 ≤ valR (R k) := fun {R k} h => by
    unfold rtOk at h
    simp only [Bool.and_eq_true, decide_eq_true_eq] at h
    exact h.2
  have fz : ∀ i, i < r.v.toNat → Sz 4 (valR (r.fl i)) := fun i hi => Sz_valR (okF i (hF i hi)) (by omega) (hs.fl i (hF i hi)).1 (hs.fl i (hF i hi)).2
  have rz : ∀ i, i < r.v.toNat → Sz 4 (valR (r.rp i)) := fun i hi => Sz_valR (okP i (hP i hi)) (by omega) (hs.rp i (hP i hi)).1 (hs.rp i (hP i hi)).2
  have dz : ∀ k, k < r.ng → Sz 4 (valR (r.dor k)) := fun k hk => Sz_valR (okD k hk) (by omega) (hs.dor k hk).1 (hs.dor k hk).2
  refine ⟨⟨fun i hi => rt (ok.fl i (hF i hi)), fun i hi => rt (ok.rp i (hP i hi)), fun k hk h7 => ?_, fun i hi => (fz i hi).more (by omega), fun i hi => (rz i hi).more (by omega), fun k hk => (dz k hk).more (by omega)⟩, fz, rz, dz⟩
  have := (ok.gate hk).pr h7
  unfold prR at this
  simp only [Bool.and_eq_true, decide_eq_true_eq] at this
  exact this.2.1
end
end Go.Proofs.YtoiopnmphbnjaaaGreatDoor
namespace Go.Proofs.YtoiopnmphbnjaaaGreatDoor
open Go.RowKit
set_option linter.unusedSimpArgs false
set_option linter.unusedVariables false
set_option maxRecDepth 20000
/-! ## what follows a state lies on a move of the chain (plain) -/
section
variable {n at_ : Nat} {R : Nat → Nat → Rat} {D : Nat → Bool}
theorem mvs_prs {p : Nat × Rat} : p ∈ (mkC n R D).mvs at_ (mkC n R D).nm ↔ (at_, p.1) ∈ prs n R ∧ p.2 = R at_ p.1 := by
  rw [Chn.mvs_mem]
  constructor
  · rintro ⟨a, h1, h2, rfl⟩
    rw [mkC_f] at h2
    have hm := prs_get (R := R) (n := n) h1
    rw [mkC_t, mkC_q]
    generalize (prs n R).getD a (0, 0) = x at *
    obtain ⟨x1, x2⟩ := x
    dsimp only at h2 ⊢
    subst h2
    exact ⟨hm, rfl⟩
  · rintro ⟨h1, h2⟩
    obtain ⟨k, hk, e⟩ := List.getElem_of_mem h1
    have e1 : (prs n R).getD k (0, 0) = (at_, p.1) := by rw [List.getD_eq_getElem?_getD, List.getElem?_eq_getElem hk, e]; rfl
    refine ⟨k, hk, by rw [mkC_f, e1], ?_⟩
    rw [mkC_t, mkC_q, e1]
    exact Prod.ext rfl h2
end
/-- what the loop of moves meets, for a state y that follows s at the rate q -/
structure FolI (l : List DS) (s y : DS) (q : Rat) (L : List (Nat × Rat)) (p : Nat) : Prop where
  hp : l[p]? = some y
  lt : ∀ j, j < L.length → (L.getD j (0, 0)).1 < l.length
  sz : ∀ j, j < L.length → Sz 100 (L.getD j (0, 0)).2
  ge : ∀ j, j < L.length → (L.getD j (0, 0)).1 = p → q ≤ (L.getD j (0, 0)).2
  ne : ∀ j, j < L.length → l[(L.getD j (0, 0)).1]? = some y → (L.getD j (0, 0)).1 = p
  no : y = s → ∀ j, j < L.length → (L.getD j (0, 0)).1 ≠ p
  ex : y ≠ s → ∃ j, j < L.length ∧ (L.getD j (0, 0)).1 = p
theorem follow {r : DyR} {l : List DS} {R : Nat → Nat → Rat} {D : Nat → Bool} {k : Nat} {s : DS} {y : DS × Rat} (mz : MkZ r (l, R)) (hk : l[k]? = some s) (hy : y ∈ r.tr.nx s r.v.toNat) (hq : 0 < y.2) :
    ∃ p, FolI l s y.1 y.2 ((mkC l.length R D).mvs k (mkC l.length R D).nm) p := by
  obtain ⟨h1, h2⟩ := mz.row k s hk y hy
  dsimp only at h1 h2
  have hkl := (List.getElem?_eq_some_iff.1 hk).1
  have hpl : l.idxOf y.1 < l.length := List.idxOf_lt_length_iff.2 h1
  have hp : l[l.idxOf y.1]? = some y.1 := by rw [List.getElem?_eq_getElem hpl, List.getElem_idxOf]
  have hm : ∀ j, j < ((mkC l.length R D).mvs k (mkC l.length R D).nm).length → (k, (((mkC l.length R D).mvs k (mkC l.length R D).nm).getD j (0, 0)).1) ∈ prs l.length R ∧ (((mkC l.length R D).mvs k (mkC l.length R D).nm).getD j (0, 0)).2 = R k (((mkC l.length R D).mvs k (mkC l.length R D).nm).getD j (0, 0)).1 := fun j hj => by
    refine mvs_prs (D := D).1 ?_
    rw [List.getD_eq_getElem?_getD, List.getElem?_eq_getElem hj]
    exact List.getElem_mem hj
  generalize hL : (mkC l.length R D).mvs k (mkC l.length R D).nm = L at *
  have inj : ∀ {a b : Nat} {x : DS}, l[a]? = some x → l[b]? = some x → a = b := fun {a b x} ha hb => by
    obtain ⟨h1, e1⟩ := List.getElem?_eq_some_iff.1 ha
    obtain ⟨h2, e2⟩ := List.getElem?_eq_some_iff.1 hb
    exact (List.getElem_inj mz.nd).1 (e1.trans e2.symm)
  refine ⟨l.idxOf y.1, hp, fun j hj => (mem_prs.1 (hm j hj).1).2.1, fun j hj => ?_, fun j hj e => ?_, fun j hj e => inj e hp, fun e j hj e2 => ?_, fun e => ?_⟩
  · rw [(hm j hj).2]; exact mz.sz _ _
  · rw [(hm j hj).2, e]; exact h2
  · have h3 := (mem_prs.1 (hm j hj).1).2.2.1
    dsimp only at h3
    rw [e2] at h3
    exact h3 (inj hk (hp.trans (by rw [e])))
  · have h3 : k ≠ l.idxOf y.1 := fun h => by
      rw [← h, hk] at hp
      injection hp with hp
      exact e hp.symm
    have h4 : (k, l.idxOf y.1) ∈ prs l.length R := mem_prs.2 ⟨hkl, hpl, h3, by dsimp only; grind⟩
    have h5 : (l.idxOf y.1, R k (l.idxOf y.1)) ∈ L := by rw [← hL]; exact mvs_prs.2 ⟨h4, rfl⟩
    obtain ⟨j, hj, e3⟩ := List.getElem_of_mem h5
    exact ⟨j, hj, by rw [List.getD_eq_getElem?_getD, List.getElem?_eq_getElem hj, e3]; rfl⟩
/-- an act: nothing happens, or the event fails, or it is repaired -/
structure ActI (r : DyR) (s : DS) (i : Nat) : Prop where
  fz : Sz 8 (r.tr.fr s i)
  rz : Sz 8 (r.tr.rr s i)
  cs : (r.tr.fr s i = 0 ∧ r.tr.rr s i = 0) ∨ (s.1.testBit i = true ∧ heldD r.dy s i = false ∧ r.tr.fr s i = 0 ∧ 0 < r.tr.rr s i ∧ (stR r.dy s i, r.tr.rr s i) ∈ r.tr.nx s r.v.toNat) ∨ (s.1.testBit i = false ∧ r.tr.rr s i = 0 ∧ 0 < r.tr.fr s i ∧ (stF r.dy s i, r.tr.fr s i) ∈ r.tr.nx s r.v.toNat)
theorem act_i {r : DyR} {s : DS} {i : Nat} (ok : DyOk r) (tt : TrT r) (hi : i < r.v.toNat) : ActI r s i := by
  have h1 := tt.ts.fr (s := s) ok.ng hi
  have h2 := tt.ts.rr (s := s) hi
  refine ⟨tt.fr ok hi, tt.rr hi, ?_⟩
  obtain ⟨g1, g2⟩ := Tr.nx_in (t := r.tr) (s := s) hi
  cases hb : s.1.testBit i with
  | true =>
    have e1 := Tr.fr_no (t := r.tr) hb
    by_cases h : 0 < r.tr.rr s i
    · refine .inr (.inl ⟨rfl, ?_, e1, h, g2 h⟩)
      cases hh : heldD r.dy s i with
      | false => rfl
      | true => rw [Tr.rr_held (t := r.tr) hh] at h; exact absurd h (by decide)
    · exact .inl ⟨e1, by have := h2.1; grind⟩
  | false =>
    have e1 := Tr.rr_no (t := r.tr) hb
    by_cases h : 0 < r.tr.fr s i
    · exact .inr (.inr ⟨rfl, e1, h, g1 h⟩)
    · exact .inl ⟨by have := h1.1; grind, e1⟩
end Go.Proofs.YtoiopnmphbnjaaaGreatDoor
