/- Contracts and lemmas for the given statements. Conditions: those alone that each names. -/
import Derived.Test.YtoiopnmphbnjaaaGreatDoorJRdI3
import Derived.Test.YtoiopnmphbnjaaaGreatDoorJDynW18
import Derived.Test.YtoiopnmphbnjaaaGreatDoorJChX
set_option maxHeartbeats 16000000
namespace Go.Proofs.YtoiopnmphbnjaaaGreatDoor
open Go.RowKit
set_option linter.unusedSimpArgs false
set_option linter.unusedVariables false
set_option maxRecDepth 20000
/-! ## a variable that holds a number, whatever its form -/
/-- a fraction that counts as q, at most L words -/
def RdL (w : World) (b0 L : Nat) (v : Value) (q : Rat) : Prop := ∃ R, RdS w b0 v R ∧ valR R = q ∧ R.2.1.length ≤ L ∧ R.2.2.length ≤ L
section
variable {w w' : World} {b0 b1 L M g g' : Nat} {v u : Value} {q q' : Rat}
theorem RdL.kp (h : RdL w b0 L v q) (k : Kp b0 w w') : RdL w' b0 L v q := by
 obtain ⟨R, h1, h2⟩ := h
 exact ⟨R, h1.kp k, h2⟩
theorem RdL.below (h : RdL w b0 L v q) (hb : Below w.heap.size w w') : RdL w' b0 L v q := h.kp (Kp.of_below hb)
theorem RdL.rq (h : RdL w b0 L v q) : RdQ w L v q := by
 obtain ⟨R, h1, h2, h3, h4⟩ := h
 rw [← h2]
 exact h1.rdq h3 h4
theorem RdL.form (h : RdL w b0 L v q) : ∃ s A n c B m d, v = rv s A n c B m d := by
 obtain ⟨R, h1, _⟩ := h
 exact h1.form
theorem RdL.of_own (h : OwQ w b1 v q) (hs : Sz L q) : RdL w b0 L v q := ⟨canR q, h.rs, valR_canR q, (Sz_canR hs).1, (Sz_canR hs).2⟩
/-- a variable that holds a fraction -/
def VarQ (g b0 L : Nat) (q : Rat) (w : World) : Prop := (∃ s A n c B m d, w.cell? ⟨g, 0, none⟩ = some (.bool s) ∧ w.cell? ⟨g, 1, none⟩ = some (.slice A n c) ∧ w.cell? ⟨g, 2, none⟩ = some (.slice B m d) ∧ RdL w b0 L (rv s A n c B m d) q) ∧ RatB w g ∧ g < w.heap.size ∧ b0 ≤ g ∧ ∀ i, w.frozen? ⟨g, i, none⟩ = false
theorem VarQ.below (h : VarQ g b0 L q w) (hb : Below w.heap.size w w') : VarQ g b0 L q w' := by
 obtain ⟨⟨s, A, n, c, B, m, d, h0, h1, h2, r⟩, hB, hz, hg, hf⟩ := h
 exact ⟨⟨s, A, n, c, B, m, d, (hb.cell (p := ⟨g, 0, none⟩) hz).trans h0, (hb.cell (p := ⟨g, 1, none⟩) hz).trans h1, (hb.cell (p := ⟨g, 2, none⟩) hz).trans h2, r.below hb⟩, hB.below hb hz, Nat.lt_of_lt_of_le hz hb.size, hg, fun i => (hb.frozen (p := ⟨g, i, none⟩) hz).trans (hf i)⟩
theorem VarQ.put (h : VarQ g b0 L q w) {s : Bool} {A B : Option Addr} {n c m d : Nat} (hv : RdL w b0 M (rv s A n c B m d) q') : VarQ g b0 M q' (((w.setCell ⟨g, 0, none⟩ (.bool s)).setCell ⟨g, 1, none⟩ (.slice A n c)).setCell ⟨g, 2, none⟩ (.slice B m d)) := by
 obtain ⟨⟨s1, A1, n1, c1, B1, m1, d1, h0, h1, h2, r⟩, hB, hz, hg, hf⟩ := h
 have s9 := set3 (w := w) (g := g) (o := 0) (a := .bool s) (b := .slice A n c) (d := .slice B m d) h0 h1 h2
 exact ⟨⟨s, A, n, c, B, m, d, s9.1, s9.2.1, s9.2.2, hv.kp (Kp.store3 hB hg _ _ _)⟩, ((hB.set _ _).set _ _).set _ _, by simpa using hz, hg, fun i => by rw [World.frozen?_setCell, World.frozen?_setCell, World.frozen?_setCell]; exact hf i⟩
theorem VarQ.far (h : VarQ g b0 L q w) (hg' : RatB w g') (hb' : b0 ≤ g') (hne : g' ≠ g) (a b d : Value) : VarQ g b0 L q (((w.setCell ⟨g', 0, none⟩ a).setCell ⟨g', 1, none⟩ b).setCell ⟨g', 2, none⟩ d) := by
 obtain ⟨⟨s1, A1, n1, c1, B1, m1, d1, h0, h1, h2, r⟩, hB, hz, hg, hf⟩ := h
 have hc : ∀ i, (((w.setCell ⟨g', 0, none⟩ a).setCell ⟨g', 1, none⟩ b).setCell ⟨g', 2, none⟩ d).cell? ⟨g, i, none⟩ = w.cell? ⟨g, i, none⟩ := fun i => by
   rw [World.cell?_setCell_far _ _ _ _ hne, World.cell?_setCell_far _ _ _ _ hne, World.cell?_setCell_far _ _ _ _ hne]
 refine ⟨⟨s1, A1, n1, c1, B1, m1, d1, (hc 0).trans h0, (hc 1).trans h1, (hc 2).trans h2, r.kp (Kp.store3 hg' hb' _ _ _)⟩, ?_, by simpa using hz, hg, fun i => by rw [World.frozen?_setCell, World.frozen?_setCell, World.frozen?_setCell]; exact hf i⟩
 obtain ⟨cur, fz, e⟩ := hB
 refine ⟨cur, fz, ?_⟩
 rw [Below.heap_setCell _ _ _ _ (Ne.symm hne), Below.heap_setCell _ _ _ _ (Ne.symm hne), Below.heap_setCell _ _ _ _ (Ne.symm hne)]
 exact e
theorem VarQ.form3 (h : VarQ g b0 L q w) : ∃ s A n c B m d, w.cell? ⟨g, 0, none⟩ = some (.bool s) ∧ w.cell? ⟨g, 1, none⟩ = some (.slice A n c) ∧ w.cell? ⟨g, 2, none⟩ = some (.slice B m d) ∧ RdL w b0 L (rv s A n c B m d) q ∧ (w.frozen? ⟨g, 0, none⟩ = false ∧ w.frozen? ⟨g, 1, none⟩ = false ∧ w.frozen? ⟨g, 2, none⟩ = false) := by
 obtain ⟨⟨s, A, n, c, B, m, d, h0, h1, h2, r⟩, hB, hz, hg, hf⟩ := h
 exact ⟨s, A, n, c, B, m, d, h0, h1, h2, r, hf 0, hf 1, hf 2⟩
theorem far3J {g' b o : Nat} {w : World} (hne : g' ≠ b) (x y d : Value) : (((w.setCell ⟨g', 0, none⟩ x).setCell ⟨g', 1, none⟩ y).setCell ⟨g', 2, none⟩ d).cell? ⟨b, o, none⟩ = w.cell? ⟨b, o, none⟩ := by
 rw [World.cell?_setCell_far _ _ _ _ hne, World.cell?_setCell_far _ _ _ _ hne, World.cell?_setCell_far _ _ _ _ hne]
theorem below3 {B g : Nat} {w w' : World} (h : Below B w w') (hg : B ≤ g) (a b d : Value) : Below B w (((w'.setCell ⟨g, 0, none⟩ a).setCell ⟨g, 1, none⟩ b).setCell ⟨g, 2, none⟩ d) :=
 ((h.setCell hg _).setCell hg _).setCell hg _
theorem size3 {g : Nat} {w : World} (a b d : Value) : (((w.setCell ⟨g, 0, none⟩ a).setCell ⟨g, 1, none⟩ b).setCell ⟨g, 2, none⟩ d).heap.size = w.heap.size := by simp
theorem VarQ.new_ {s : Bool} {A B : Option Addr} {n c m d : Nat} (hb : b0 ≤ w.heap.size) (hv : RdL w b0 L (rv s A n c B m d) q) : VarQ w.heap.size b0 L q (w.alloc (.cells #[.bool s, .slice A n c, .slice B m d] 56)) :=
 ⟨⟨s, A, n, c, B, m, d, (World.cell?_alloc_at _ _ _ _ rfl).trans rfl, (World.cell?_alloc_at _ _ _ _ rfl).trans rfl, (World.cell?_alloc_at _ _ _ _ rfl).trans rfl, hv.below ((Below.refl _ _).alloc (Nat.le_refl _) _)⟩, RatB.new _ _, by simp, hb, fun i => World.frozen?_alloc_at _ _ _ _ rfl⟩
theorem RatB.setAny (h : RatB w g) (g' o : Nat) (u : Value) : RatB (w.setCell ⟨g', o, none⟩ u) g := by
 by_cases e : g' = g
 · subst e; exact h.set o u
 · obtain ⟨cur, fz, h⟩ := h
   exact ⟨cur, fz, (Below.heap_setCell _ _ _ _ (Ne.symm e)).trans h⟩
theorem RatB.drew_ (h : RatB w g) : RatB w.drew g := h
theorem Kp.setR (h : Kp b0 w w') (ht : RatB w' g) (hb : b0 ≤ g) (o : Nat) (u : Value) : Kp b0 w (w'.setCell ⟨g, o, none⟩ u) := by
 obtain ⟨cur, fz, e⟩ := ht
 exact h.store (p := ⟨g, o, none⟩) e (by decide) hb u
end
/-! ### an event stands once among the arguments of a spare gate -/
theorem dupB_mem {a : Int} : ∀ {l sp : List Int}, a ∈ sp → a ∈ l → dupB sp l = true
 | b :: l, sp, h1, h2 => by
   rw [dupB, Bool.or_eq_true]
   rcases List.mem_cons.1 h2 with e | h2
   · subst e
     exact .inl (by simpa using h1)
   · exact .inr (dupB_mem (List.mem_append_left _ h1) h2)
theorem dupB_nd : ∀ {l sp : List Int}, dupB sp l = false → l.Nodup
 | [], _, _ => List.nodup_nil
 | b :: l, sp, h => by
   rw [dupB, Bool.or_eq_false_iff] at h
   rw [List.nodup_cons]
   refine ⟨fun hb => ?_, dupB_nd h.2⟩
   rw [dupB_mem (sp := sp ++ [b]) (by simp) hb] at h
   exact absurd h.2 (by decide)
theorem idxOf_uni {x : Int} : ∀ {l : List Int}, l.Nodup → ∀ q (hq : q < l.length), l[q] = x ↔ Lib.idxOf l x = (q : Int)
 | [], _, q, hq => by simp at hq
 | a :: l, hn, q, hq => by
   rw [List.nodup_cons] at hn
   rw [idxOf_cons]
   have hpos : ∀ l : List Int, -1 ≤ Lib.idxOf l x := fun l => by
     induction l with
     | nil => exact Int.le_refl (-1)
     | cons b l ih => rw [idxOf_cons]; split <;> (try split) <;> omega
   cases q with
   | zero =>
     show a = x ↔ _
     by_cases e : a = x
     · rw [if_pos e]; simp [e]
     · rw [if_neg e]
       have := hpos l
       constructor
       · exact fun h => absurd h e
       · split <;> omega
   | succ q =>
     have hq' : q < l.length := by simpa using hq
     have ih := idxOf_uni (x := x) hn.2 q hq'
     show l[q] = x ↔ _
     by_cases e : a = x
     · rw [if_pos e]
       constructor
       · intro h
         exact absurd (by rw [e, ← h]; exact List.getElem_mem hq') hn.1
       · intro h; omega
     · rw [if_neg e, ih]
       have := hpos l
       split <;> omega
end Go.Proofs.YtoiopnmphbnjaaaGreatDoor
namespace Go.Proofs.YtoiopnmphbnjaaaGreatDoor
open Go.RowKit
set_option linter.unusedSimpArgs false
set_option linter.unusedVariables false
set_option maxRecDepth 20000
attribute [local irreducible] nv wp win plainB validR valR canR
/-! ## the reference's Rate -/
def RRat (b0 : Nat) (f g : Rat) (e : Ending) (w' : World) : Prop := ∃ v u, e = .returned (.tuple #[v, u, .int .i64 0]) ∧ RdL w' b0 70000 v f ∧ RdL w' b0 70000 u g
section
variable {w0 w : World} {AG AF AR Am : Option Addr} {cg cf cr cm : Nat} {r : DyR} {F e : Nat} {M : List Int}
theorem rrate_up (h0 : DyI w0 AG AF AR r) (hb0 : Below w0.heap.size w0 w) (hs : DyS r) (ok : DyOk r) (st : StOk r F M) (rj : RdJ w Am r.ng (fun i => M.getD i 0)) (he : e < r.v.toNat) (hb : F.testBit e = false) :
   Calls Tryz.prog 91 #[dyv r AG cg AF cf AR cr, .agg #[.int .i64 (F : Int), .slice Am r.ng cm], .int .i64 (e : Int)] w fun x w' => RRat w0.heap.size (rtD r.dy (fun k => valR (r.dor k)) (F, M) e (valR (r.fl e)) r.ng) 0 x w' ∧ Below w.heap.size w w' := by
 have h := h0.below hb0
 have hw0 := hb0.size
 obtain ⟨v, hv⟩ : ∃ v : Nat, r.v = v := ⟨r.v.toNat, by have := ok.v1; omega⟩
 have v24 : v ≤ 24 := by have := ok.v2; omega
 have hF : F < 2 ^ v := by have := st.f; rw [hv] at this; simpa using this
 have hev : e < v := by rw [hv] at he; simpa using he
 have hp : 2 ^ v ≤ 16777216 := Nat.pow_le_pow_right (n := 2) (by omega) v24
 have s1 := yshr F e
 have hq : F / 2 ^ e < 16777216 := Nat.lt_of_le_of_lt (Nat.div_le_self _ _) (by omega)
 have s2 : bits .and .i64 ((F / 2 ^ e : Nat) : Int) 1 = ((F / 2 ^ e % 2 : Nat) : Int) := yand1 (by omega)
 have s3 : F / 2 ^ e % 2 = 0 := by rw [ybit, hb]; rfl
 rw [s3] at s2
 generalize F / 2 ^ e = q1 at *
 have hsr := hs.fl e (by have := ok.nf; omega)
 obtain ⟨bR, oR, sR, A3, n3, c3, B3, m3, d3, rfl, hbR', p0', p1', p2', rR'⟩ := h0.fa.at_ (k := e) (by have := ok.nf; omega)
 have hbR : bR < w.heap.size := by omega
 have p0 := (below_at hb0 bR (oR + e * 3) hbR').trans p0'
 have p1 := (below_at hb0 bR (oR + e * 3 + 1) hbR').trans p1'
 have p2 := (below_at hb0 bR (oR + e * 3 + 2) hbR').trans p2'
 have rR := rR'.kp (Kp.of_below hb0)
 have hen : (e : Int) < (r.nf : Int) := by have := ok.nf; omega
 have hszf : Sz 1000 (valR (r.fl e)) := rR.sz1000 hsr.1 hsr.2
 have hszd : ∀ k, k < r.dy.ng → Sz 1000 (valR (r.dor k)) := fun k hk => by
   obtain ⟨b, off, A1, c1, s, A2, n2, c2, A3, n3, c3, -, -, -, -, -, -, -, -, -, rs, -⟩ := h.at_ (k := k) hk
   exact rs.sz1000 (hs.dor k hk).1 (hs.dor k hk).2
 obtain ⟨RT, hRT⟩ : ∃ RT : Nat → Rat, RT = rtD r.dy (fun k => valR (r.dor k)) (F, M) e (valR (r.fl e)) := ⟨_, rfl⟩
 have HSZ : Hid (∀ k, k ≤ r.ng → Sz 70000 (RT k)) := fun k hk => by
   rw [hRT]
   exact (rtD_sz (by omega) hszf hszd k hk).more (by have := ok.ng; omega)
 have HRT0 : Hid (RT 0 = valR (r.fl e)) := by rw [hRT]; rfl
 have HSTEP : Hid (∀ k, k < r.ng → -1 ≤ Lib.idxOf (r.ar k) (e : Int) ∧ Lib.idxOf (r.ar k) (e : Int) < (r.ar k).length ∧ RT (k + 1) = if r.kd k = 7 ∧ 0 ≤ Lib.idxOf (r.ar k) (e : Int) ∧ Lib.idxOf (r.ar k) (e : Int) ≠ M.getD k 0 then RT k * valR (r.dor k) else RT k) := fun k hk => by
   obtain ⟨i1, i2, i3⟩ := idxOf_nat (e := e) (l := r.ar k) fun a ha => ((ok.gate hk).ix a ha).1
   have hkd := (ok.gate hk).hkd
   have hl1 := (dgAg_len (ok.gate hk).ln).1
   refine ⟨i3, ?_, ?_⟩
   · by_cases h0 : 0 ≤ Lib.idxOf (r.ar k) (e : Int)
     · have h1 := i1.1 h0
       rw [i2 h1]
       have := List.idxOf_lt_length_iff.2 h1
       rw [List.length_map] at this
       omega
     · omega
   rw [hRT, rtD]
   by_cases h1 : r.kd k = 7 ∧ 0 ≤ Lib.idxOf (r.ar k) (e : Int) ∧ Lib.idxOf (r.ar k) (e : Int) ≠ M.getD k 0
   · rw [if_pos h1, if_pos]
     refine ⟨?_, i1.1 h1.2.1, ?_⟩
     · show (r.kd k).toNat = 7
       omega
     · show (((((r.ar k).map Int.toNat).idxOf e : Nat)) : Int) ≠ M.getD k 0
       rw [← i2 (i1.1 h1.2.1)]
       exact h1.2.2
   · rw [if_neg h1, if_neg]
     rintro ⟨g1, g2, g3⟩
     refine h1 ⟨?_, i1.2 g2, ?_⟩
     · have g1 : (r.kd k).toNat = 7 := g1
       omega
     · rw [i2 g2]
       exact g3
 have HUNI : Hid (∀ k, k < r.ng → r.kd k = 7 → ∀ q (hq : q < (r.ar k).length), (r.ar k)[q] = (e : Int) ↔ Lib.idxOf (r.ar k) (e : Int) = (q : Int)) := fun k hk h7 => idxOf_uni (dupB_nd ((ok.gate hk).dup h7))
 have HL : Hid (∀ k, k < r.ng → 1 ≤ (r.ar k).length ∧ (r.ar k).length ≤ 16) := fun k hk => dgAg_len (ok.gate hk).ln
 have HSD : Hid (∀ k, k < r.ng → (r.dor k).2.1.length ≤ 1000 ∧ (r.dor k).2.2.length ≤ 1000) := fun k hk => hs.dor k hk
 have HR0 : Hid (RdL w w0.heap.size 70000 (rv sR A3 n3 c3 B3 m3 d3) (RT 0)) := ⟨_, rR, HRT0.out.symm, by omega, by omega⟩
 rw [← hRT]
 have n64 := ok.ng
 have HH := Lib.hid h
 have HRJ := Lib.hid rj
 unfold dyv
 rw [hv]
 clear hs h h0 ok st rj he s3 hb rR rR' p0' p1' p2' hb0 hsr hszf hszd hRT HRT0
 obtain ⟨W, hW⟩ : ∃ W, W = ((((w.alloc (.cells #[.int .i64 (v : Int), .slice AG r.ng cg, .int .i64 r.top, .slice (some ⟨bR, oR, none⟩) r.nf cf, .slice AR r.nr cr] 25)).alloc (.cells #[.int .i64 (F : Int), .slice Am r.ng cm] 45)).alloc (.cells #[.bool false, .slice none 0 0, .slice none 0 0] 56)).alloc (.cells #[.bool false, .slice none 0 0, .slice none 0 0] 56)) := ⟨_, rfl⟩
 obtain ⟨W1, hW1⟩ : ∃ W1, W1 = ((w.alloc (.cells #[.int .i64 (v : Int), .slice AG r.ng cg, .int .i64 r.top, .slice (some ⟨bR, oR, none⟩) r.nf cf, .slice AR r.nr cr] 25)).alloc (.cells #[.int .i64 (F : Int), .slice Am r.ng cm] 45)) := ⟨_, rfl⟩
 obtain ⟨W2, hW2⟩ : ∃ W2, W2 = W1.alloc (.cells #[.bool false, .slice none 0 0, .slice none 0 0] 56) := ⟨_, rfl⟩
 have hWW : W = W2.alloc (.cells #[.bool false, .slice none 0 0, .slice none 0 0] 56) := by rw [hW, hW2, hW1]
 have hz1 : W1.heap.size = w.heap.size + 2 := by rw [hW1]; simp
 have hz2 : W2.heap.size = w.heap.size + 3 := by rw [hW2]; simp; omega
 have hz3 : W.heap.size = w.heap.size + 4 := by rw [hWW]; simp; omega
 have b1 : Below w.heap.size w W1 := by rw [hW1]; exact (by (skip); repeat' (first | (with_reducible first | exact BlR _ _ | assumption | refine BlA ?_ ?_ _ | refine BlD ?_ | refine BlN ?_ _ | refine BlS ?_ ?_ _ | refine BlT ?_ (BlM (by assumption) ?_)) | omega | (simp only [ZZ]; omega) | go_size))
 have b2 : Below W1.heap.size W1 W2 := by rw [hW2]; exact (Below.refl _ _).alloc (Nat.le_refl _) _
 have b3 : Below W2.heap.size W2 W := by rw [hWW]; exact (Below.refl _ _).alloc (Nat.le_refl _) _
 have b13 : Below W1.heap.size W1 W := b2.trans (b3.mono (by omega))
 have hbA : Below w.heap.size w W := b1.trans (b13.mono (by omega))
 have a0 : W1.cell? ⟨w.heap.size, 0, none⟩ = some (.int .i64 (v : Int)) := by rw [hW1]; simp [go_sem]
 have a5 : W1.cell? ⟨w.heap.size + 1, 0, none⟩ = some (.int .i64 (F : Int)) := by rw [hW1]; simp [go_sem]
 have x0 := (below_at b13 w.heap.size 0 (by omega)).trans a0
 have x5 := (below_at b13 (w.heap.size + 1) 0 (by omega)).trans a5
 have a1 : W1.cell? ⟨w.heap.size, 1, none⟩ = some (.slice AG r.ng cg) := by rw [hW1]; simp [go_sem]
 have a3 : W1.cell? ⟨w.heap.size, 3, none⟩ = some (.slice (some ⟨bR, oR, none⟩) r.nf cf) := by rw [hW1]; simp [go_sem]
 have a4 : W1.cell? ⟨w.heap.size + 1, 1, none⟩ = some (.slice Am r.ng cm) := by rw [hW1]; simp [go_sem]
 have x1 := (below_at b13 w.heap.size 1 (by omega)).trans a1
 have x3 := (below_at b13 w.heap.size 3 (by omega)).trans a3
 have y1 := (below_at b13 (w.heap.size + 1) 1 (by omega)).trans a4
 have zq : ∀ X, RdL X w0.heap.size 70000 (rv false none 0 0 none 0 0) 0 := fun X => RdL.of_own (OwQ.zero X w.heap.size) (Sz.zero (by omega))
 have vf0 : VarQ (w.heap.size + 1 + 1) w0.heap.size 70000 0 W := by
   have : VarQ (w.heap.size + 1 + 1) w0.heap.size 70000 0 W2 := by
     rw [hW2, show w.heap.size + 1 + 1 = W1.heap.size by omega]
     exact VarQ.new_ (by omega) (zq _)
   exact this.below b3
 have vr0 : VarQ (w.heap.size + 1 + 1 + 1) w0.heap.size 70000 0 W := by
   rw [hWW, show w.heap.size + 1 + 1 + 1 = W2.heap.size by omega]
   exact VarQ.new_ (by omega) (zq _)
 have g0 := (below_at hbA bR (oR + e * 3) hbR).trans p0
 have g1 := (below_at hbA bR (oR + e * 3 + 1) hbR).trans p1
 have g2 := (below_at hbA bR (oR + e * 3 + 2) hbR).trans p2
 have he0 : 0 ≤ (e : Int) := by omega
 have HW := Lib.hid hW
 have rw0 := HR0.out.below (hbA)
 obtain ⟨WS, hWS⟩ : ∃ WS, WS = ((W.setCell ⟨w.heap.size + 1 + 1, 0, none⟩ (.bool sR)).setCell ⟨w.heap.size + 1 + 1, 1, none⟩ (.slice A3 n3 c3)).setCell ⟨w.heap.size + 1 + 1, 2, none⟩ (.slice B3 m3 d3) := ⟨_, rfl⟩
 have HST : Hid (VarQ (w.heap.size + 1 + 1) w0.heap.size 70000 (RT 0) WS ∧ VarQ (w.heap.size + 1 + 1 + 1) w0.heap.size 70000 0 WS ∧ WS.cell? ⟨w.heap.size + 1, 1, none⟩ = some (.slice Am r.ng cm) ∧ Below w.heap.size w WS ∧ w.heap.size + 3 < WS.heap.size) := by
   show _ ∧ _
   rw [hWS]
   exact ⟨vf0.put rw0, vr0.far vf0.2.1 (by omega) (by omega) _ _ _, (far3J (by omega) _ _ _).trans y1, below3 hbA (by omega) _ _ _, by rw [size3]; omega⟩
 have j1 : WS.cell? ⟨w.heap.size, 1, none⟩ = some (.slice AG r.ng cg) := by rw [hWS]; exact (far3J (by omega) _ _ _).trans x1
 have HWS := Lib.hid hWS
 obtain ⟨s0, A0, n0, c0, B0, m0, d0, k0, k1, k2, -, kf0, kf1, kf2⟩ := vf0.form3
 clear hW hW1 hW2 hWW hWS b1 b2 b3 b13 a0 a5 a1 a3 a4 p0 p1 p2 vf0 vr0 rw0 zq hz1 hz2 y1 HR0 hbR
 have dd1 : decide ((e : Int) < 0) = false := by simp
 have dd2 : decide (v ≤ e) = false := by simp; omega
 have dd3 : decide ((v : Int) ≤ (e : Int)) = false := by simp; omega
 go_enter Tryz.func91, Tryz.ntmps91
 go_upto_region 1 with fail
 rw [← HW.out]
 go_wp2_with fail
 rw [← HWS.out]
 clear HW HWS k0 k1 k2 kf0 kf1 kf2 g0 g1 g2 x0 x5 x1 x3 j1 hbA hz3
 go_loopw [55] (fun i wr => ∃ k : Nat, k ≤ r.ng ∧ i = .int .i64 (k : Int) ∧ VarQ (w.heap.size + 1 + 1) w0.heap.size 70000 (RT k) wr ∧ VarQ (w.heap.size + 1 + 1 + 1) w0.heap.size 70000 0 wr ∧ wr.cell? ⟨w.heap.size + 1, 1, none⟩ = some (.slice Am r.ng cm) ∧ Below w.heap.size w wr ∧ w.heap.size + 3 < wr.heap.size) (fun i _ => r.ng - (intOf i).toNat)
 case atStart => exact ⟨0, Nat.zero_le _, rfl, HST.out⟩
 case round =>
   obtain ⟨k, hk, rfl, vf, vr, y1, hbw, hzw⟩ := hrel
   obtain ⟨wo, rfl⟩ : ∃ wo : World, wo = wr := ⟨_, rfl⟩
   have HVF := Lib.hid vf
   have HVR := Lib.hid vr
   clear HST vf vr
   by_cases hkn : k < r.ng
   · obtain ⟨b, off, A1, c1, sg, A2, n2, c2, A4, n4, c4, rfl, hbb, z0, z1, z2, z3, z4, z5, ra, rs, hlc⟩ := HH.out.at_ hkn
     have hl := HL.out k hkn
     have hsd := HSD.out k hkn
     obtain ⟨hi3, hi4, hstp⟩ := HSTEP.out k hkn
     have hsz := HSZ.out k hk
     have HU := Lib.hid (HUNI.out k hkn)
     have HRA := Lib.hid ra
     have HJ := Lib.hid (fun X (hX : Below w.heap.size w X) => HRJ.out.later hX hkn)
     have y0' := (below_at hbw b _ hbb).trans z0
     have y1' := (below_at hbw b _ hbb).trans z1
     have y2' := (below_at hbw b _ hbb).trans z2
     have y3' := (below_at hbw b _ hbb).trans z3
     have y4' := (below_at hbw b _ hbb).trans z4
     have y5' := (below_at hbw b _ hbb).trans z5
     have HQD : Hid (RdL w w.heap.size 70000 (rv sg A2 n2 c2 A4 n4 c4) (valR (r.dor k))) := ⟨_, rs, rfl, by omega, by omega⟩
     generalize valR (r.dor k) = qd at *
     generalize r.dor k = rd at *
     obtain ⟨ix, hix⟩ : ∃ ix, Lib.idxOf (r.ar k) (e : Int) = ix := ⟨_, rfl⟩
     rw [hix] at hi3 hi4 hstp HU
     generalize M.getD k 0 = m at *
     generalize r.kd k = kd at *
     generalize r.kk k = kk at *
     generalize r.ar k = l at *
     obtain ⟨W, hW⟩ : ∃ W, W = wo.alloc (.cells #[.int .i64 kd, .int .i64 kk, .slice A1 l.length c1, .bool sg, .slice A2 n2 c2, .slice A4 n4 c4] 88) := ⟨_, rfl⟩
     have q0 : W.cell? ⟨wo.heap.size, 0, none⟩ = some (.int .i64 kd) := by rw [hW]; simp [go_sem]
     have q2 : W.cell? ⟨wo.heap.size, 2, none⟩ = some (.slice A1 l.length c1) := by rw [hW]; simp [go_sem]
     have q3 : W.cell? ⟨wo.heap.size, 3, none⟩ = some (.bool sg) := by rw [hW]; simp [go_sem]
     have q4 : W.cell? ⟨wo.heap.size, 4, none⟩ = some (.slice A2 n2 c2) := by rw [hW]; simp [go_sem]
     have q5 : W.cell? ⟨wo.heap.size, 5, none⟩ = some (.slice A4 n4 c4) := by rw [hW]; simp [go_sem]
     have hbo3 : Below wo.heap.size wo W := by rw [hW]; exact (Below.refl _ _).alloc (Nat.le_refl _) _
     have hWz : W.heap.size = wo.heap.size + 1 := by rw [hW]; simp
     have hbW : Below w.heap.size w W := hbw.trans (hbo3.mono (by omega))
     have Y1 := (below_at hbo3 (w.heap.size + 1) 1 (by omega)).trans y1
     have HW := Lib.hid hW
     have HVF1 := Lib.hid (HVF.out.below hbo3)
     have HVR1 := Lib.hid (HVR.out.below hbo3)
     have HSTP := Lib.hid hstp
     clear hW hstp ra rs z0 z1 z2 z3 z4 z5 HVF HVR hsd
     by_cases c7 : kd = 7
     · subst c7
       have HU7 := Lib.hid (HU.out rfl)
       obtain ⟨FV, hFV⟩ : ∃ FV : Nat → Rat, FV = fun q : Nat => if 0 ≤ ix ∧ ix < (q : Int) ∧ ix ≠ m then RT k * qd else RT k := ⟨_, rfl⟩
       have HF0 : Hid (FV 0 = RT k) := by show _ = _; rw [hFV]; exact if_neg (by omega)
       have HFL : Hid (RT (k + 1) = FV l.length) := by
         show _ = _
         rw [HSTP.out, hFV]
         by_cases hc : 0 ≤ ix ∧ ix ≠ m
         · rw [if_pos ⟨rfl, hc⟩]; exact (if_pos ⟨hc.1, hi4, hc.2⟩).symm
         · rw [if_neg (fun h => hc h.2)]; exact (if_neg (fun h => hc ⟨h.1, h.2.2⟩)).symm
       have HFY : Hid (∀ q : Nat, ix = (q : Int) → ix ≠ m → FV (q + 1) = FV q * qd ∧ FV q = RT k) := fun q h1 h2 => by
         have e1 : FV q = RT k := by rw [hFV]; exact if_neg (by omega)
         refine ⟨?_, e1⟩
         rw [e1, hFV]
         exact if_pos ⟨by omega, by omega, h2⟩
       have HFN : Hid (∀ q : Nat, ix ≠ (q : Int) ∨ ix = m → FV (q + 1) = FV q) := fun q h => by
         rw [hFV]
         have : (0 ≤ ix ∧ ix < ((q + 1 : Nat) : Int) ∧ ix ≠ m) ↔ (0 ≤ ix ∧ ix < (q : Int) ∧ ix ≠ m) := by omega
         show (if _ then _ else _) = (if _ then _ else _)
         simp only [this]
       have l16 := hl.2
       clear hFV HSTP HU hi3 hi4
       go_wp2_with fail
       rw [← HW.out]
       clear HW y0' y1' y2' y3' y4' y5' q0 q2
       go_loopw [66] (fun j wx => ∃ q : Nat, q ≤ l.length ∧ j = .int .i64 (q : Int) ∧ VarQ (w.heap.size + 1 + 1) w0.heap.size 70000 (FV q) wx ∧ VarQ (w.heap.size + 1 + 1 + 1) w0.heap.size 70000 0 wx ∧ wx.cell? ⟨w.heap.size + 1, 1, none⟩ = some (.slice Am r.ng cm) ∧ (wx.cell? ⟨wo.heap.size, 3, none⟩ = some (.bool sg) ∧ wx.cell? ⟨wo.heap.size, 4, none⟩ = some (.slice A2 n2 c2) ∧ wx.cell? ⟨wo.heap.size, 5, none⟩ = some (.slice A4 n4 c4)) ∧ Below w.heap.size w wx ∧ wo.heap.size < wx.heap.size) (fun j _ => l.length - (intOf j).toNat)
       case atStart => exact ⟨0, Nat.zero_le _, rfl, by rw [HF0.out]; exact HVF1.out, HVR1.out, Y1, ⟨q3, q4, q5⟩, hbW, by omega⟩
       case round =>
         obtain ⟨q, hq, rfl, vf, vr, y1, ⟨z3, z4, z5⟩, hbx, hzx⟩ := hrel
         obtain ⟨wi, rfl⟩ : ∃ wi : World, wi = wr := ⟨_, rfl⟩
         have HVF := Lib.hid vf
         have HVR := Lib.hid vr
         have HBX := Lib.hid hbx
         clear vf vr HVF1 HVR1 Y1 q3 q4 q5 hbW
         by_cases hql : q < l.length
         · obtain ⟨b9, off9, rfl, hb9, u0⟩ := zsD_at HRA.out hbx hql
           have hu := HU7.out q hql
           obtain ⟨bo, offo, rfl, hbo2, m0⟩ := HJ.out wi hbx
           have j5 : (q : Int) < (l.length : Int) := by omega
           have j6 : (0 : Int) ≤ (q : Int) := by omega
           have j7 : (k : Int) < (r.ng : Int) := by omega
           have j8 : (0 : Int) ≤ (k : Int) := by omega
           generalize l[q] = y at *
           by_cases hye : y = (e : Int)
           · subst hye
             have hixq : ix = (q : Int) := hu.1 rfl
             by_cases hm : ix = m
             · have e1 : ((q : Int) != m) = false := by rw [← hm, hixq]; simp
               have HN := Lib.hid (HFN.out q (.inr hm))
               clear hu hm hixq
               go_wp2_with fail
               go_roundw
               case rel => exact ⟨q + 1, by omega, by go_num, by rw [HN.out]; exact HVF.out, HVR.out, y1, ⟨z3, z4, z5⟩, HBX.out, hzx⟩
               case measure => simp [intOf]; omega
             · have e1 : ((q : Int) != m) = true := by rw [← hixq]; simpa using hm
               obtain ⟨hfy, hfk⟩ := HFY.out q hixq hm
               have HN := Lib.hid hfy
               have HSZN : Hid (Sz 70000 (FV (q + 1))) := by
                 have h1 := HSZ.out (k + 1) hkn
                 have h2 : RT (k + 1) = FV (q + 1) := by
                   rw [HFL.out]
                   clear hu e1
                   have : ∀ t : Nat, q + 1 ≤ t → FV t = FV (q + 1) := fun t ht => by
                     induction t with
                     | zero => omega
                     | succ t ih =>
                       by_cases e : q = t
                       · rw [e]
                       · rw [HFN.out t (.inl (by omega)), ih (by omega)]
                   exact this _ (by omega)
                 rw [← h2]; exact h1
               clear hu hm hixq hfy
               obtain ⟨s5, A5, n5, c5, B5, m5, d5, t0, t1, t2, hr5, f0, f1, f2⟩ := HVF.out.form3
               have KM := Lib.hid (rmulQ hr5.rq (HQD.out.below hbx).rq (by omega) (by omega))
               clear hr5
               go_wp2_with fail
               refine KM.out.mono ?_
               rintro x w6 ⟨⟨v6, rfl, own6⟩, hb6⟩
               obtain ⟨s7, A7, n7, c7, B7, m7, d7, rfl⟩ := own6.rd.form
               have hz6 := hb6.size
               have vf6 := HVF.out.below hb6
               have vr6 := HVR.out.below hb6
               obtain ⟨s8, A8, n8, c8, B8, m8, d8, t0', t1', t2', -, f0', f1', f2'⟩ := vf6.form3
               have hr6 : RdL w6 w0.heap.size 70000 (rv s7 A7 n7 c7 B7 m7 d7) (FV (q + 1)) := by
                 rw [HN.out]
                 refine RdL.of_own own6 ?_
                 rw [← HN.out]; exact HSZN.out
               have y6 := (below_at hb6 (w.heap.size + 1) 1 (by omega)).trans y1
               have z36 := (below_at hb6 wo.heap.size 3 (by omega)).trans z3
               have z46 := (below_at hb6 wo.heap.size 4 (by omega)).trans z4
               have z56 := (below_at hb6 wo.heap.size 5 (by omega)).trans z5
               have HREL : Hid (VarQ (w.heap.size + 1 + 1) w0.heap.size 70000 (FV (q + 1)) (((w6.setCell ⟨w.heap.size + 1 + 1, 0, none⟩ (.bool s7)).setCell ⟨w.heap.size + 1 + 1, 1, none⟩ (.slice A7 n7 c7)).setCell ⟨w.heap.size + 1 + 1, 2, none⟩ (.slice B7 m7 d7)) ∧ VarQ (w.heap.size + 1 + 1 + 1) w0.heap.size 70000 0 (((w6.setCell ⟨w.heap.size + 1 + 1, 0, none⟩ (.bool s7)).setCell ⟨w.heap.size + 1 + 1, 1, none⟩ (.slice A7 n7 c7)).setCell ⟨w.heap.size + 1 + 1, 2, none⟩ (.slice B7 m7 d7)) ∧ Below w.heap.size w (((w6.setCell ⟨w.heap.size + 1 + 1, 0, none⟩ (.bool s7)).setCell ⟨w.heap.size + 1 + 1, 1, none⟩ (.slice A7 n7 c7)).setCell ⟨w.heap.size + 1 + 1, 2, none⟩ (.slice B7 m7 d7))) :=
                 ⟨vf6.put hr6, vr6.far vf6.2.1 (by omega) (by omega) _ _ _, below3 (HBX.out.trans (hb6.mono (by omega))) (by omega) _ _ _⟩
               clear vf6 vr6 hr6 own6 hb6 KM
               go_wp2_with fail
               go_roundw
               case rel =>
                 exact ⟨q + 1, by omega, by go_num, HREL.out.1, HREL.out.2.1, (far3J (by omega) _ _ _).trans y6, ⟨(far3J (by omega) _ _ _).trans z36, (far3J (by omega) _ _ _).trans z46, (far3J (by omega) _ _ _).trans z56⟩, HREL.out.2.2, by rw [size3]; omega⟩
               case measure => simp [intOf]; omega
           · have hye2 := ieq_f hye
             have HN := Lib.hid (HFN.out q (.inl (fun h => hye (hu.2 h))))
             clear hu
             go_wp2_with fail
             go_roundw
             case rel => exact ⟨q + 1, by omega, by go_num, by rw [HN.out]; exact HVF.out, HVR.out, y1, ⟨z3, z4, z5⟩, HBX.out, hzx⟩
             case measure => simp [intOf]; omega
         · have hqe : q = l.length := by omega
           have HN : Hid (RT (k + 1) = FV q) := by show _ = _; rw [HFL.out, hqe]
           have j5 : ¬ (q : Int) < (l.length : Int) := by omega
           clear hqe
           go_wp2_with fail
           go_roundw
           case rel => exact ⟨k + 1, by omega, by go_num, by rw [HN.out]; exact HVF.out, HVR.out, y1, HBX.out, by omega⟩
           case measure => simp [intOf]; omega
     · have e7 : (kd != 7) = true := by simpa using c7
       have HE : Hid (RT (k + 1) = RT k) := by show _ = _; rw [HSTP.out, if_neg (fun h => c7 h.1)]
       clear HSTP HU c7
       go_wp2_with fail
       rw [← HW.out]
       go_roundw
       case rel => exact ⟨k + 1, by omega, by go_num, by rw [HE.out]; exact HVF1.out, HVR1.out, Y1, hbW, by omega⟩
       case measure => simp [intOf]; omega
   · obtain rfl : k = r.ng := by omega
     obtain ⟨s5, A5, n5, c5, B5, m5, d5, t0, t1, t2, hr5, f0, f1, f2⟩ := HVF.out.form3
     obtain ⟨s6, A6, n6, c6, B6, m6, d6, u0, u1, u2, hr6, g0, g1, g2⟩ := HVR.out.form3
     have vf7 := HVF.out.put hr5
     have vr7 := HVR.out.far HVF.out.2.1 (by omega) (by omega) (.bool s5) (.slice A5 n5 c5) (.slice B5 m5 d5)
     have zq : ∀ X, RdL X w0.heap.size 70000 (rv false none 0 0 none 0 0) 0 := fun X => RdL.of_own (OwQ.zero X w.heap.size) (Sz.zero (by omega))
     have hF1 := (hr5.kp (Kp.store3 HVF.out.2.1 (show w0.heap.size ≤ w.heap.size + 1 + 1 by omega) (.bool s5) (.slice A5 n5 c5) (.slice B5 m5 d5))).kp (Kp.store3 vr7.2.1 (show w0.heap.size ≤ w.heap.size + 1 + 1 + 1 by omega) (.bool false) (.slice none 0 0) (.slice none 0 0))
     have HF1 := Lib.hid hF1
     have HBF := Lib.hid (below3 (below3 hbw (show w.heap.size ≤ w.heap.size + 1 + 1 by omega) (.bool s5) (.slice A5 n5 c5) (.slice B5 m5 d5)) (show w.heap.size ≤ w.heap.size + 1 + 1 + 1 by omega) (.bool false) (.slice none 0 0) (.slice none 0 0))
     clear vf7 vr7 hF1 hr5 hr6 hbw
     go_wp2_with fail
     (try simp only [Exit.inBlock, Exit.then])
     refine bodyPost_ret (v := .tuple #[rv s5 A5 n5 c5 B5 m5 d5, rv false none 0 0 none 0 0, .int .i64 0]) ?_ rfl ⟨⟨_, _, rfl, HF1.out, zq _⟩, HBF.out⟩
     rw [results_cell2 rfl]
     go_simp
end
end Go.Proofs.YtoiopnmphbnjaaaGreatDoor
namespace Go.Proofs.YtoiopnmphbnjaaaGreatDoor
open Go.RowKit
set_option linter.unusedSimpArgs false
set_option linter.unusedVariables false
set_option maxRecDepth 20000
attribute [local irreducible] nv wp win plainB validR valR canR
/-! ## the reference's Rate of a failed event -/
section
variable {w0 w : World} {AG AF AR Am : Option Addr} {cg cf cr cm : Nat} {r : DyR} {F e : Nat} {M : List Int}
theorem rrate_dn (h0 : DyI w0 AG AF AR r) (hb0 : Below w0.heap.size w0 w) (hs : DyS r) (ok : DyOk r) (st : StOk r F M) (rj : RdJ w Am r.ng (fun i => M.getD i 0)) (he : e < r.v.toNat) (hb : F.testBit e = true) :
   Calls Tryz.prog 91 #[dyv r AG cg AF cf AR cr, .agg #[.int .i64 (F : Int), .slice Am r.ng cm], .int .i64 (e : Int)] w fun x w' => RRat w0.heap.size 0 (if heldD r.dy (F, M) e then 0 else valR (r.rp e)) x w' ∧ Below w.heap.size w w' := by
 have h := h0.below hb0
 have hw0 := hb0.size
 obtain ⟨v, hv⟩ : ∃ v : Nat, r.v = v := ⟨r.v.toNat, by have := ok.v1; omega⟩
 have v24 : v ≤ 24 := by have := ok.v2; omega
 have hF : F < 2 ^ v := by have := st.f; rw [hv] at this; simpa using this
 have hev : e < v := by rw [hv] at he; simpa using he
 have hp : 2 ^ v ≤ 16777216 := Nat.pow_le_pow_right (n := 2) (by omega) v24
 have s1 := yshr F e
 have hq : F / 2 ^ e < 16777216 := Nat.lt_of_le_of_lt (Nat.div_le_self _ _) (by omega)
 have s2 : bits .and .i64 ((F / 2 ^ e : Nat) : Int) 1 = ((F / 2 ^ e % 2 : Nat) : Int) := yand1 (by omega)
 have s3 : F / 2 ^ e % 2 = 1 := by rw [ybit, hb]; rfl
 rw [s3] at s2
 generalize F / 2 ^ e = q1 at *
 have hsr := hs.rp e (by have := ok.nr; omega)
 obtain ⟨bR, oR, sR, A3, n3, c3, B3, m3, d3, rfl, hbR', p0', p1', p2', rR'⟩ := h0.ra.at_ (k := e) (by have := ok.nr; omega)
 have hbR : bR < w.heap.size := by omega
 have p0 := (below_at hb0 bR (oR + e * 3) hbR').trans p0'
 have p1 := (below_at hb0 bR (oR + e * 3 + 1) hbR').trans p1'
 have p2 := (below_at hb0 bR (oR + e * 3 + 2) hbR').trans p2'
 have rR := rR'.kp (Kp.of_below hb0)
 have hen : (e : Int) < (r.nr : Int) := by have := ok.nr; omega
 have HR0 : Hid (RdL w w0.heap.size 70000 (rv sR A3 n3 c3 B3 m3 d3) (valR (r.rp e))) := ⟨_, rR, rfl, by omega, by omega⟩
 have KR := Lib.hid (fun X (hX : Below w.heap.size w X) => rrepair_ok (w := X) (cg := cg) (cf := cf) (cr := cr) (cm := cm) (h.below hX) ok st (rj.below hX) he hb)
 generalize valR (r.rp e) = qr at *
 generalize heldD r.dy (F, M) e = hd at *
 generalize stR r.dy (F, M) e = S at *
 unfold dyv at KR ⊢
 rw [hv] at KR ⊢
 clear hs h h0 ok st rj he s3 hb rR rR' p0' p1' p2' hb0 hsr
 obtain ⟨W, hW⟩ : ∃ W, W = ((((w.alloc (.cells #[.int .i64 (v : Int), .slice AG r.ng cg, .int .i64 r.top, .slice AF r.nf cf, .slice (some ⟨bR, oR, none⟩) r.nr cr] 25)).alloc (.cells #[.int .i64 (F : Int), .slice Am r.ng cm] 45)).alloc (.cells #[.bool false, .slice none 0 0, .slice none 0 0] 56)).alloc (.cells #[.bool false, .slice none 0 0, .slice none 0 0] 56)) := ⟨_, rfl⟩
 obtain ⟨W1, hW1⟩ : ∃ W1, W1 = ((w.alloc (.cells #[.int .i64 (v : Int), .slice AG r.ng cg, .int .i64 r.top, .slice AF r.nf cf, .slice (some ⟨bR, oR, none⟩) r.nr cr] 25)).alloc (.cells #[.int .i64 (F : Int), .slice Am r.ng cm] 45)) := ⟨_, rfl⟩
 obtain ⟨W2, hW2⟩ : ∃ W2, W2 = W1.alloc (.cells #[.bool false, .slice none 0 0, .slice none 0 0] 56) := ⟨_, rfl⟩
 have hWW : W = W2.alloc (.cells #[.bool false, .slice none 0 0, .slice none 0 0] 56) := by rw [hW, hW2, hW1]
 have hz1 : W1.heap.size = w.heap.size + 2 := by rw [hW1]; simp
 have hz2 : W2.heap.size = w.heap.size + 3 := by rw [hW2]; simp; omega
 have hz3 : W.heap.size = w.heap.size + 4 := by rw [hWW]; simp; omega
 have b1 : Below w.heap.size w W1 := by rw [hW1]; exact (by (skip); repeat' (first | (with_reducible first | exact BlR _ _ | assumption | refine BlA ?_ ?_ _ | refine BlD ?_ | refine BlN ?_ _ | refine BlS ?_ ?_ _ | refine BlT ?_ (BlM (by assumption) ?_)) | omega | (simp only [ZZ]; omega) | go_size))
 have b2 : Below W1.heap.size W1 W2 := by rw [hW2]; exact (Below.refl _ _).alloc (Nat.le_refl _) _
 have b3 : Below W2.heap.size W2 W := by rw [hWW]; exact (Below.refl _ _).alloc (Nat.le_refl _) _
 have b13 : Below W1.heap.size W1 W := b2.trans (b3.mono (by omega))
 have hbA : Below w.heap.size w W := b1.trans (b13.mono (by omega))
 have a0 : W1.cell? ⟨w.heap.size, 0, none⟩ = some (.int .i64 (v : Int)) := by rw [hW1]; simp [go_sem]
 have a1 : W1.cell? ⟨w.heap.size, 1, none⟩ = some (.slice AG r.ng cg) := by rw [hW1]; simp [go_sem]
 have a2 : W1.cell? ⟨w.heap.size, 2, none⟩ = some (.int .i64 r.top) := by rw [hW1]; simp [go_sem]
 have a3 : W1.cell? ⟨w.heap.size, 3, none⟩ = some (.slice AF r.nf cf) := by rw [hW1]; simp [go_sem]
 have a4 : W1.cell? ⟨w.heap.size, 4, none⟩ = some (.slice (some ⟨bR, oR, none⟩) r.nr cr) := by rw [hW1]; simp [go_sem]
 have a5 : W1.cell? ⟨w.heap.size + 1, 0, none⟩ = some (.int .i64 (F : Int)) := by rw [hW1]; simp [go_sem]
 have a6 : W1.cell? ⟨w.heap.size + 1, 1, none⟩ = some (.slice Am r.ng cm) := by rw [hW1]; simp [go_sem]
 have x0 := (below_at b13 w.heap.size 0 (by omega)).trans a0
 have x1 := (below_at b13 w.heap.size 1 (by omega)).trans a1
 have x2 := (below_at b13 w.heap.size 2 (by omega)).trans a2
 have x3 := (below_at b13 w.heap.size 3 (by omega)).trans a3
 have x4 := (below_at b13 w.heap.size 4 (by omega)).trans a4
 have x5 := (below_at b13 (w.heap.size + 1) 0 (by omega)).trans a5
 have x6 := (below_at b13 (w.heap.size + 1) 1 (by omega)).trans a6
 have zq : ∀ X, RdL X w0.heap.size 70000 (rv false none 0 0 none 0 0) 0 := fun X => RdL.of_own (OwQ.zero X w.heap.size) (Sz.zero (by omega))
 have vf0 : VarQ (w.heap.size + 1 + 1) w0.heap.size 70000 0 W := by
   have : VarQ (w.heap.size + 1 + 1) w0.heap.size 70000 0 W2 := by
     rw [hW2, show w.heap.size + 1 + 1 = W1.heap.size by omega]
     exact VarQ.new_ (by omega) (zq _)
   exact this.below b3
 have vr0 : VarQ (w.heap.size + 1 + 1 + 1) w0.heap.size 70000 0 W := by
   rw [hWW, show w.heap.size + 1 + 1 + 1 = W2.heap.size by omega]
   exact VarQ.new_ (by omega) (zq _)
 have he0 : 0 ≤ (e : Int) := by omega
 have HW := Lib.hid hW
 have HVF := Lib.hid vf0
 have HVR := Lib.hid vr0
 have K := Lib.hid (KR.out W hbA)
 have HZQ := Lib.hid zq
 clear hW hW1 hW2 hWW b1 b2 b3 b13 a0 a1 a2 a3 a4 a5 a6 vf0 vr0 hz1 hz2 KR zq
 have dd1 : decide ((e : Int) < 0) = false := by simp
 have dd2 : decide (v ≤ e) = false := by simp; omega
 have dd3 : decide ((v : Int) ≤ (e : Int)) = false := by simp; omega
 go_enter Tryz.func91, Tryz.ntmps91
 go_upto_region 1 with fail
 rw [← HW.out]
 go_wp2_with fail
 refine K.out.mono ?_
 rintro x w1 ⟨hx, hb1⟩
 have hb1z := hb1.size
 have HB1 := Lib.hid hb1
 rcases hx with ⟨rfl, rfl⟩ | ⟨rfl, A5, c5, rfl, -⟩
 · obtain ⟨W3, hW3⟩ : ∃ W3, W3 = w1.alloc (.cells #[.int .i64 0, .slice none 0 0] 45) := ⟨_, rfl⟩
   have hb3 : Below W.heap.size W W3 := by rw [hW3]; exact hb1.alloc (by omega) _
   have vf := HVF.out.below hb3
   have vr := HVR.out.below hb3
   obtain ⟨s5, A5, n5, c5, B5, m5, d5, t0, t1, t2, hr5, f0, f1, f2⟩ := vf.form3
   obtain ⟨s6, A6, n6, c6, B6, m6, d6, u0, u1, u2, hr6, g0, g1, g2⟩ := vr.form3
   have HW3 := Lib.hid hW3
   have hbF := hbA.trans (hb3.mono (by omega))
   have rb1 := vr.2.1
   have rb2 := vf.2.1
   have HR6 := Lib.hid hr6
   clear hW3 hb3 vf vr hr5 hr6 K hb1 x0 x1 x2 x3 x4 x5 x6 HW
   go_wp2_with fail
   rw [← HW3.out]
   go_region
   all_goals
     go_wp2_with fail
     (try simp only [Exit.inBlock, Exit.then])
     refine bodyPost_ret (v := .tuple #[rv false none 0 0 none 0 0, rv s6 A6 n6 c6 B6 m6 d6, .int .i64 0]) ?_ rfl ⟨⟨_, _, rfl, HZQ.out _, ?_⟩, ?_⟩
     · rw [results_cell2 rfl]
       go_simp
     · refine RdL.kp (w := W3) HR6.out ?_
       repeat' (first | (with_reducible exact Kp.refl _ _) | (with_reducible refine Kp.drew ?_) | (with_reducible refine Kp.setR ?_ ?_ ?_ _ _) | (with_reducible exact rb1) | (with_reducible exact rb2) | (with_reducible refine RatB.setAny ?_ _ _ _) | (with_reducible refine RatB.drew_ ?_) | omega)
     · exact (by have z0 := Below.size hbF; (try simp only [ZZ] at z0 ⊢; skip); repeat' (first | (with_reducible first | exact BlR _ _ | assumption | refine BlA ?_ ?_ _ | refine BlD ?_ | refine BlN ?_ _ | refine BlS ?_ ?_ _ | refine BlT ?_ (BlM (by assumption) ?_)) | omega | (simp only [ZZ]; omega) | go_size))
 · obtain ⟨W3, hW3⟩ : ∃ W3, W3 = w1.alloc (.cells #[.int .i64 (S.1 : Nat), .slice A5 r.ng c5] 45) := ⟨_, rfl⟩
   have hb3 : Below W.heap.size W W3 := by rw [hW3]; exact hb1.alloc (by omega) _
   have hz3' := hb3.size
   have vf := HVF.out.below hb3
   have vr := HVR.out.below hb3
   obtain ⟨s5, A5', n5, c5', B5, m5, d5, t0, t1, t2, hr5, f0, f1, f2⟩ := vf.form3
   obtain ⟨s6, A6, n6, c6, B6, m6, d6, u0, u1, u2, hr6, g0, g1, g2⟩ := vr.form3
   have HW3 := Lib.hid hW3
   have hbF := hbA.trans (hb3.mono (by omega))
   have HR7 := Lib.hid (HR0.out.below hbF)
   have rb1 := vr.2.1
   have rb2 := vf.2.1
   have v4 := (below_at hb3 w.heap.size 4 (by omega)).trans x4
   have e0 := (below_at hbF bR (oR + e * 3) hbR).trans p0
   have e1 := (below_at hbF bR (oR + e * 3 + 1) hbR).trans p1
   have e2 := (below_at hbF bR (oR + e * 3 + 2) hbR).trans p2
   obtain ⟨W4, hW4⟩ : ∃ W4, W4 = ((W3.setCell ⟨w.heap.size + 1 + 1 + 1, 0, none⟩ (.bool sR)).setCell ⟨w.heap.size + 1 + 1 + 1, 1, none⟩ (.slice A3 n3 c3)).setCell ⟨w.heap.size + 1 + 1 + 1, 2, none⟩ (.slice B3 m3 d3) := ⟨_, rfl⟩
   have vr4 : VarQ (w.heap.size + 1 + 1 + 1) w0.heap.size 70000 qr W4 := by rw [hW4]; exact vr.put HR7.out
   have vf4 : VarQ (w.heap.size + 1 + 1) w0.heap.size 70000 0 W4 := by rw [hW4]; exact vf.far vr.2.1 (by omega) (by omega) _ _ _
   have hbF4 : Below w.heap.size w W4 := by rw [hW4]; exact below3 hbF (by omega) _ _ _
   have HR8 : Hid (RdL W4 w0.heap.size 70000 (rv sR A3 n3 c3 B3 m3 d3) qr) := by
     show RdL _ _ _ _ _
     rw [hW4]
     exact HR7.out.kp (Kp.store3 vr.2.1 (by omega) _ _ _)
   have k0 : W4.cell? ⟨w.heap.size + 1 + 1 + 1, 0, none⟩ = some (.bool sR) := by rw [hW4]; exact (set3 (o := 0) u0 u1 u2).1
   have k1 : W4.cell? ⟨w.heap.size + 1 + 1 + 1, 1, none⟩ = some (.slice A3 n3 c3) := by rw [hW4]; exact (set3 (o := 0) u0 u1 u2).2.1
   have k2 : W4.cell? ⟨w.heap.size + 1 + 1 + 1, 2, none⟩ = some (.slice B3 m3 d3) := by rw [hW4]; exact (set3 (o := 0) u0 u1 u2).2.2
   obtain ⟨s9, A9, n9, c9, B9, m9, d9, y0, y1, y2, -, l0, l1, l2⟩ := vf4.form3
   obtain ⟨-, -, -, -, -, -, -, -, -, -, -, l3, l4, l5⟩ := vr4.form3
   have rb3 := vr4.2.1
   have rb4 := vf4.2.1
   have HW4 := Lib.hid hW4
   clear hW3 hb3 vf vr hr5 hr6 K hb1 x0 x1 x2 x3 x4 x5 x6 HW hW4 vr4 vf4 HR7 HR0 hbF p0 p1 p2
   go_upto_region 5 with fail
   rw [← HW3.out]
   go_upto_region 7 with fail
   rw [← HW4.out]
   clear HW3 HW4 t0 t1 t2 u0 u1 u2 f0 f1 f2 g0 g1 g2 v4 e0 e1 e2
   go_region
   all_goals
     go_wp2_with fail
     (try simp only [Exit.inBlock, Exit.then])
     refine bodyPost_ret (v := .tuple #[rv false none 0 0 none 0 0, rv sR A3 n3 c3 B3 m3 d3, .int .i64 0]) ?_ rfl ⟨⟨_, _, rfl, HZQ.out _, ?_⟩, ?_⟩
     · rw [results_cell2 rfl]
       go_simp
     · refine RdL.kp (w := W4) HR8.out ?_
       repeat' (first | (with_reducible exact Kp.refl _ _) | (with_reducible refine Kp.drew ?_) | (with_reducible refine Kp.setR ?_ ?_ ?_ _ _) | (with_reducible exact rb3) | (with_reducible exact rb4) | (with_reducible refine RatB.setAny ?_ _ _ _) | (with_reducible refine RatB.drew_ ?_) | omega)
     · exact (by have z0 := Below.size hbF4; (try simp only [ZZ] at z0 ⊢; skip); repeat' (first | (with_reducible first | exact BlR _ _ | assumption | refine BlA ?_ ?_ _ | refine BlD ?_ | refine BlN ?_ _ | refine BlS ?_ ?_ _ | refine BlT ?_ (BlM (by assumption) ?_)) | omega | (simp only [ZZ]; omega) | go_size))
/-- Rate, whatever the event's state -/
theorem rrate_ok (h0 : DyI w0 AG AF AR r) (hb0 : Below w0.heap.size w0 w) (hs : DyS r) (ok : DyOk r) (st : StOk r F M) (rj : RdJ w Am r.ng (fun i => M.getD i 0)) (he : e < r.v.toNat) :
   Calls Tryz.prog 91 #[dyv r AG cg AF cf AR cr, .agg #[.int .i64 (F : Int), .slice Am r.ng cm], .int .i64 (e : Int)] w fun x w' => RRat w0.heap.size (r.tr.fr (F, M) e) (r.tr.rr (F, M) e) x w' ∧ Below w.heap.size w w' := by
 unfold Tr.fr Tr.rr
 dsimp only
 cases hb : F.testBit e
 · rw [if_neg (by decide), if_neg (by decide)]
   exact rrate_up h0 hb0 hs ok st rj he hb
 · rw [if_pos rfl, if_pos rfl]
   exact rrate_dn h0 hb0 hs ok st rj he hb
end
end Go.Proofs.YtoiopnmphbnjaaaGreatDoor
