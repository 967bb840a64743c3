/- Contracts and lemmas for the given statements. Conditions: those alone that each names. -/
import Derived.Test.YtoiopnmphbnjaaaGreatDoorJRdJ0
import Derived.Test.YtoiopnmphbnjaaaGreatDoorJDynMk2
import Derived.Test.YtoiopnmphbnjaaaGreatDoorJLinRow
import Derived.Deep.RegionLaw
import Derived.Test.YtoiopnmphbnjaaaGreatDoorJSamS
namespace Go.Proofs.YtoiopnmphbnjaaaGreatDoor
open Go.RowKit
set_option linter.unusedSimpArgs false
set_option linter.unusedVariables false
set_option maxRecDepth 20000
attribute [local irreducible] nv wp win plainB validR valR canR
/-! ## rows of states and of rates that grow by turns -/
/-- fractions in a row of the call's own, whatever their form -/
def OwL (w : World) (b0 L : Nat) (A : Option Addr) (c : Nat) (qs : List Rat) : Prop := ∃ R, OwR w b0 A c qs.length R ∧ ∀ k (hk : k < qs.length), valR (R k) = qs[k] ∧ (R k).2.1.length ≤ L ∧ (R k).2.2.length ≤ L
section
variable {w w' : World} {b0 L c ng n : Nat} {A B : Option Addr} {qs : List Rat} {l : List DS} {r : Option Nat}
theorem OwL.nil_ (w : World) (b0 L : Nat) : OwL w b0 L none 0 [] := ⟨fun _ => canR 0, OwR.nil_ _ _ _, fun k hk => by simp at hk⟩
theorem OwL.ty (h : OwL w b0 L A c qs) : ∀ k, (Value.slice A qs.length c).ownBlock = some k → b0 ≤ k ∧ TyB 56 w k := fun k hk => by
 obtain ⟨R, h1, _⟩ := h
 cases e : A with
 | none => rw [e] at hk; cases hk
 | some a =>
   rw [e] at hk
   injection hk with hk
   subst hk
   obtain ⟨h2, cur, h3⟩ := h1.blockA e
   exact ⟨h2, cur, _, h3⟩
theorem OwL.notI (h : OwL w b0 L A c qs) : NotI w b0 (Value.slice A qs.length c).ownBlock := fun k hk => by
 obtain ⟨h1, h2⟩ := h.ty k hk
 exact NotI.of_ty h2 h1 (by decide) (by decide) k rfl
theorem OwL.grown (h : OwL w b0 L A c qs) (hg : w.grownBy w' r) (hr : NotI w b0 r) (hd : ∀ k, r = some k → ¬ TyB 56 w k) : OwL w' b0 L A c qs := by
 have ht := h.ty
 obtain ⟨R, ⟨V, h1, h2⟩, h3⟩ := h
 refine ⟨R, ⟨V, fun k hk => (h1 k hk).kp (Kp.notI hg hr), h2.kept hg ?_⟩, h3⟩
 cases e : (Value.slice A qs.length c).ownBlock with
 | none => exact .inl rfl
 | some q => exact .inr fun e2 => hd q e2.symm (ht q e).2
theorem OwL.below (h : OwL w b0 L A c qs) (hb : Below w.heap.size w w') : OwL w' b0 L A c qs := h.grown (grown_none hb none) (NotI.none_ _ _) (fun k e => by cases e)
theorem OwL.alloc_ (h : OwL w b0 L A c qs) (o : Obj) : OwL (w.alloc o) b0 L A c qs := h.below ((Below.refl _ _).alloc (Nat.le_refl _) o)
theorem OwL.drew_ (h : OwL w b0 L A c qs) : OwL w.drew b0 L A c qs := h.below ((Below.refl _ _).drew)
theorem OwS.alloc_ (h : OwS w b0 A c ng l) (o : Obj) : OwS (w.alloc o) b0 A c ng l := h.below ((Below.refl _ _).alloc (Nat.le_refl _) o)
theorem OwS.drew_ (h : OwS w b0 A c ng l) : OwS w.drew b0 A c ng l := h.below ((Below.refl _ _).drew)
theorem OwS.ty (h : OwS w b0 A c ng l) : ∀ k, (Value.slice A l.length c).ownBlock = some k → b0 ≤ k ∧ TyB 45 w k := fun k hk => by
 obtain ⟨V, _, h2⟩ := h
 obtain ⟨hb, cur, hc⟩ := oT h2 k hk
 exact ⟨hb, cur, _, hc⟩
theorem RdK.alloc_ {v : Value} {f : Nat → Int} (h : RdK w b0 v n f) (o : Obj) : RdK (w.alloc o) b0 v n f := h.below ((Below.refl _ _).alloc (Nat.le_refl _) o)
theorem RdK.drew_ {v : Value} {f : Nat → Int} (h : RdK w b0 v n f) : RdK w.drew b0 v n f := h.below ((Below.refl _ _).drew)
theorem RdK.grL {v : Value} {f : Nat → Int} (h : RdK w b0 v n f) {d m : Nat} (hg : w.grownBy w' (Value.slice B m d).ownBlock) (hB : OwL w b0 L B d qs) : RdK w' b0 v n f := by
 rw [own_blk B m qs.length d d] at hg
 exact h.grown hg hB.notI
theorem RdL.alloc_ {v : Value} {q : Rat} (h : RdL w b0 L v q) (o : Obj) : RdL (w.alloc o) b0 L v q := h.below ((Below.refl _ _).alloc (Nat.le_refl _) o)
theorem RdL.drew_ {v : Value} {q : Rat} (h : RdL w b0 L v q) : RdL w.drew b0 L v q := h.below ((Below.refl _ _).drew)
theorem RdL.grS {v : Value} {q : Rat} (h : RdL w b0 n v q) {d m : Nat} (hg : w.grownBy w' (Value.slice B m d).ownBlock) (hB : OwS w b0 B d ng l) : RdL w' b0 n v q := by
 rw [own_blk B m l.length d d] at hg
 exact h.kp (Kp.notI hg hB.notI)
/-- the other row has grown -/
theorem OwS.grL (h : OwS w b0 A c ng l) {d m : Nat} (hg : w.grownBy w' (Value.slice B m d).ownBlock) (hB : OwL w b0 L B d qs) : OwS w' b0 A c ng l := by
 rw [own_blk B m qs.length d d] at hg
 exact h.grown hg hB.notI fun k e ht => absurd (ty_one (hB.ty k e).2 ht) (by decide)
theorem OwL.grS (h : OwL w b0 L A c qs) {d m : Nat} (hg : w.grownBy w' (Value.slice B m d).ownBlock) (hB : OwS w b0 B d ng l) : OwL w' b0 L A c qs := by
 rw [own_blk B m l.length d d] at hg
 exact h.grown hg hB.notI fun k e ht => absurd (ty_one (hB.ty k e).2 ht) (by decide)
theorem OwL.lt (h : OwL w b0 L A c qs) {m : Nat} : ∀ k, (Value.slice A m c).ownBlock = some k → k < w.heap.size := fun k hk => by
 rw [own_blk A m qs.length c c] at hk
 exact (h.ty k hk).2.lt
theorem OwS.lt (h : OwS w b0 A c ng l) {m : Nat} : ∀ k, (Value.slice A m c).ownBlock = some k → k < w.heap.size := fun k hk => by
 rw [own_blk A m l.length c c] at hk
 exact (h.ty k hk).2.lt
theorem OwL.notIm (h : OwL w b0 L A c qs) (m : Nat) : NotI w b0 (Value.slice A m c).ownBlock := by rw [own_blk A m qs.length c c]; exact h.notI
theorem OwS.notIm (h : OwS w b0 A c ng l) (m : Nat) : NotI w b0 (Value.slice A m c).ownBlock := by rw [own_blk A m l.length c c]; exact h.notI
theorem VarQ.alloc_ {g : Nat} {q : Rat} (h : VarQ g b0 L q w) (o : Obj) : VarQ g b0 L q (w.alloc o) := h.below ((Below.refl _ _).alloc (Nat.le_refl _) o)
theorem VarQ.drew_ {g : Nat} {q : Rat} (h : VarQ g b0 L q w) : VarQ g b0 L q w.drew := h.below ((Below.refl _ _).drew)
theorem VarQ.grown {g : Nat} {q : Rat} (h : VarQ g b0 L q w) (hg : w.grownBy w' r) (hr : NotI w b0 r) (hne : some g ≠ r) : VarQ g b0 L q w' := by
 obtain ⟨⟨s, A, n, c, B, m, d, h0, h1, h2, rd⟩, hB, hz, hgb, hf⟩ := h
 have hc := fun i => gr_cell (i := i) hg hz hne
 obtain ⟨cur, fz, e⟩ := hB
 exact ⟨⟨s, A, n, c, B, m, d, (hc 0).1.trans h0, (hc 1).1.trans h1, (hc 2).1.trans h2, rd.kp (Kp.notI hg hr)⟩, ⟨cur, fz, (hg.block g hz hne).trans e⟩, Nat.lt_of_lt_of_le hz hg.size, hgb, fun i => (hc i).2.trans (hf i)⟩
theorem OwL.snoc {R : Nat → Rw} {q : Rat} {rr : Rw} (h : ∀ k (hk : k < qs.length), valR (R k) = qs[k] ∧ (R k).2.1.length ≤ L ∧ (R k).2.2.length ≤ L) (hq : valR rr = q ∧ rr.2.1.length ≤ L ∧ rr.2.2.length ≤ L) (ho : OwR w b0 A c (qs.length + 1) (upd R qs.length rr)) : OwL w b0 L A c (qs ++ [q]) := by
 refine ⟨upd R qs.length rr, by rw [List.length_append, List.length_singleton]; exact ho, fun k hk => ?_⟩
 rw [List.length_append, List.length_singleton] at hk
 by_cases e : k = qs.length
 · subst e
   rw [upd_same]
   simpa using hq
 · rw [upd_ne _ _ e, List.getElem_append_left (by omega)]
   exact h k (by omega)
/-- append of a rate at a step -/
theorem step_appL {ops : Array Oper} {o : Oper} {a : Act} {K : Act → World → Prop} {Q : Exit → Act → World → Prop} {E : Prop} (hgd : o.guard = none) (s x : Operand)
   (ho : o.op = .call { callee := .builtin .append, args := #[s, x], argTypes := #[23, 23] })
   (W0 m : Nat) (hm : qs.length = m) (hs : a.eval s = .slice A m c) (hown : OwL w b0 L A c qs) (hW : ∀ k, (Value.slice A m c).ownBlock = some k → W0 ≤ k)
   (B : Nat) (sg : Bool) (A1 : Option Addr) (n1 c1 : Nat) (B1 : Option Addr) (m1 d1 : Nat) (q : Rat) (hr : RdL w b0 L (rv sg A1 n1 c1 B1 m1 d1) q) (hx : a.eval x = .slice (some ⟨B, 0, none⟩) 1 1)
   (hc : w.cell? ⟨B, 0, none⟩ = some (.bool sg) ∧ w.cell? ⟨B, 1, none⟩ = some (.slice A1 n1 c1) ∧ w.cell? ⟨B, 2, none⟩ = some (.slice B1 m1 d1))
   (hn : m ≤ 1000000) (hbase : b0 ≤ w.heap.size) (hW0 : W0 ≤ w.heap.size)
   (h : ∀ g cap w', OwL w b0 L A c qs → OwL w' b0 L (some ⟨g, 0, none⟩) cap (qs ++ [q]) → w.grownBy w' (Value.slice A m c).ownBlock → W0 ≤ g → K (a.put o.dst (.slice (some ⟨g, 0, none⟩) (m + 1) cap)) w') :
   if Region.wanted o (yielded ops a.tmps) = true then Oper.wp Tryz.prog o a w K Q else E := by
 subst hm
 have hown0 := hown
 obtain ⟨R, h1, h2⟩ := hown
 obtain ⟨rr, h3, h4⟩ := hr
 refine step_appR hgd s x ho b0 A c qs.length R hs h1 B sg A1 n1 c1 B1 m1 d1 rr hx hc.1 hc.2.1 hc.2.2 h3 hn hbase ?_
 intro g cap w' g1 g2 g3
 refine h g cap w' hown0 (OwL.snoc h2 h4 g1) g2 ?_
 rcases g3 with g3 | g3
 · exact hW g g3
 · omega
/-- append of a state at a step -/
theorem step_appSt {ops : Array Oper} {o : Oper} {a : Act} {K : Act → World → Prop} {Q : Exit → Act → World → Prop} {E : Prop} (hgd : o.guard = none) (s x : Operand)
   (ho : o.op = .call { callee := .builtin .append, args := #[s, x], argTypes := #[33, 33] })
   (W0 m : Nat) (hm : l.length = m) (S : DS) (hs : a.eval s = .slice A m c) (hown : OwS w b0 A c ng l) (hW : ∀ k, (Value.slice A m c).ownBlock = some k → W0 ≤ k)
   (B : Nat) (u : Value) (hu : RdK w b0 u ng (fun i => S.2.getD i 0)) (hx : a.eval x = .slice (some ⟨B, 0, none⟩) 1 1) (hc : w.cell? ⟨B, 0, none⟩ = some (.int .i64 ((S.1 : Nat) : Int)) ∧ w.cell? ⟨B, 1, none⟩ = some u)
   (hn : m ≤ 1000000) (hbase : b0 ≤ w.heap.size) (hW0 : W0 ≤ w.heap.size)
   (h : ∀ g cap w', OwS w b0 A c ng l → OwS w' b0 (some ⟨g, 0, none⟩) cap ng (l ++ [S]) → w.grownBy w' (Value.slice A m c).ownBlock → W0 ≤ g → K (a.put o.dst (.slice (some ⟨g, 0, none⟩) (m + 1) cap)) w') :
   if Region.wanted o (yielded ops a.tmps) = true then Oper.wp Tryz.prog o a w K Q else E := by
 subst hm
 have hown0 := hown
 have hno := hown.notI
 obtain ⟨V, h1, h2⟩ := hown
 obtain ⟨i0, hi0, hz0, hz1, hz2⟩ := info_parts stateInfo
 obtain ⟨B1, d1, eu⟩ := hu.form
 refine step_append_lies _ hgd s x 33 ho b0 45 i0 _ 2 32 Tryz.underlying33 hi0 hz0 hz1 hz2 rfl (by omega) _ l.length _ hs h2 ⟨B, 0, none⟩ 1 1 [.int .i64 ((S.1 : Nat) : Int), u] hx rfl ?_ ?_ (by omega) (by unfold maxLen; omega) (by omega) hbase w.heap.size rfl ?_
 · intro j v hv
   rw [addr_add, Nat.zero_add]
   match j, hv with
   | 0, hv => simp at hv; subst hv; exact hc.1
   | 1, hv => simp at hv; subst hv; exact hc.2
   | j + 2, hv => simp at hv
 · intro v hv
   simp at hv
   rcases hv with rfl | rfl
   · rfl
   · rw [eu]; rfl
 · intro g cap w' h3 h4 h5 h6
   refine h g cap w' hown0 ⟨fun k => if k = l.length then u else V k, fun k hk => ?_, ?_⟩ h4 ?_
   · by_cases e : k = l.length
     · subst e
       dsimp only
       rw [if_pos rfl]
       refine (hu.grown h4 hno).congr fun j _ => ?_
       simp
     · dsimp only
       rw [if_neg e]
       have hk2 : k < l.length := by
         rw [List.length_append, List.length_singleton] at hk
         omega
       refine ((h1 k hk2).grown h4 hno).congr fun j _ => ?_
       rw [List.getElem_append_left hk2]
   · rw [cellsS_snoc, List.length_append, List.length_singleton]
     exact h3
   · rcases h5 with h5 | h5
     · exact hW g h5
     · omega
end
end Go.Proofs.YtoiopnmphbnjaaaGreatDoor
namespace Go.Proofs.YtoiopnmphbnjaaaGreatDoor
open Go.RowKit
set_option linter.unusedSimpArgs false
set_option linter.unusedVariables false
set_option maxRecDepth 20000
/-! ## reference 49: place -/
theorem ds_eq {s t : DS} {n : Nat} (hs : s.2.length = n) (ht : t.2.length = n) : s = t ↔ (((s.1 : Nat) : Int) = ((t.1 : Nat) : Int) ∧ n = n ∧ ∀ i, i < n → s.2.getD i 0 = t.2.getD i 0) := by
 constructor
 · rintro rfl
   exact ⟨rfl, rfl, fun i _ => rfl⟩
 · rintro ⟨h1, -, h2⟩
   refine Prod.ext (by omega) (List.ext_getElem (by omega) fun i hi hj => ?_)
   have := h2 i (by omega)
   rw [List.getD_eq_getElem?_getD, List.getD_eq_getElem?_getD, List.getElem?_eq_getElem hi, List.getElem?_eq_getElem hj] at this
   exact this
def plcZ (l : List DS) (s : DS) : Int := if s ∈ l then (l.idxOf s : Nat) else -1
theorem idxOf_first {s : DS} : ∀ {l : List DS} {k : Nat} (hk : k < l.length), l[k] = s → (∀ j (hj : j < l.length), j < k → l[j] ≠ s) → l.idxOf s = k
 | a :: l, 0, hk, h, _ => by
   have h : a = s := h
   rw [List.idxOf_cons, h]; simp
 | a :: l, k + 1, hk, h, hno => by
   have h0 : a ≠ s := hno 0 (by simp) (by omega)
   have hk2 : k < l.length := by simpa using hk
   have ih := idxOf_first (s := s) hk2 (by simpa using h) fun j hj hjk => by
     have := hno (j + 1) (by simpa using hj) (by omega)
     simpa using this
   rw [List.idxOf_cons, ih]
   have : (a == s) = false := by simpa using h0
   rw [this]; rfl
section
variable {w : World} {A B : Option Addr} {b0 c d n ng : Nat} {l : List DS} {s : DS}
set_option maxHeartbeats 8000000 in
theorem rplace_ok (h : OwS w b0 A c ng l) (hn : l.length = n) (rk : RdJ w B ng (fun i => s.2.getD i 0)) (hl : ∀ t, t ∈ l → t.2.length = ng) (hs : s.2.length = ng) (h256 : n ≤ 1000) (hng : ng ≤ 1000) :
   Calls Tryz.prog 52 #[.slice A n c, .agg #[.int .i64 ((s.1 : Nat) : Int), .slice B ng d]] w fun e w' => e = .returned (.int .i64 (plcZ l s)) ∧ Below w.heap.size w w' := by
 have HO := Lib.hid h
 have HRK := Lib.hid rk
 have HN := Lib.hid hn
 have HY : Hid (∀ k (hk : k < l.length), l[k] = s → (∀ j (hj : j < l.length), j < k → l[j] ≠ s) → plcZ l s = (k : Int)) := fun k hk h1 h2 => by
   unfold plcZ
   rw [if_pos (h1 ▸ List.getElem_mem hk), idxOf_first hk h1 h2]
 have HZ : Hid ((∀ j (hj : j < l.length), l[j] ≠ s) → plcZ l s = -1) := fun h => by
   unfold plcZ
   rw [if_neg]
   intro hm
   obtain ⟨j, hj, e⟩ := List.getElem_of_mem hm
   exact h j hj e
 have HEQ : Hid (∀ k (hk : k < l.length), l[k] = s ↔ ((((l[k]).1 : Nat) : Int) = ((s.1 : Nat) : Int) ∧ ng = ng ∧ ∀ i, i < ng → (l[k]).2.getD i 0 = s.2.getD i 0)) := fun k hk => ds_eq (hl _ (List.getElem_mem hk)) hs
 obtain ⟨Z, hZ⟩ : ∃ Z, plcZ l s = Z := ⟨_, rfl⟩
 rw [hZ] at HY HZ ⊢
 obtain ⟨W, hW⟩ : ∃ W, W = w.alloc (.cells #[.int .i64 ((s.1 : Nat) : Int), .slice B ng d] 45) := ⟨_, rfl⟩
 have hb0 : Below w.heap.size w W := by rw [hW]; exact (Below.refl _ _).alloc (Nat.le_refl _) _
 have hz0 : W.heap.size = w.heap.size + 1 := by rw [hW]; simp
 have x0 : W.cell? ⟨w.heap.size, 0, none⟩ = some (.int .i64 ((s.1 : Nat) : Int)) := by rw [hW]; exact (World.cell?_alloc_at _ _ _ _ rfl).trans rfl
 have x1 : W.cell? ⟨w.heap.size, 1, none⟩ = some (.slice B ng d) := by rw [hW]; exact (World.cell?_alloc_at _ _ _ _ rfl).trans rfl
 have HW := Lib.hid hW
 have HB0 := Lib.hid hb0
 clear h rk hl hs hn hW hb0 hZ
 go_enter Tryz.func52, Tryz.ntmps52
 go_upto_region 1 with fail
 rw [← HW.out]
 go_wp2_with fail
 clear HW
 go_loopw [9] (fun j wr => ∃ k : Nat, k ≤ n ∧ j = .int .i64 (k : Int) ∧ (∀ i (hi : i < l.length), i < k → l[i] ≠ s) ∧ Below W.heap.size W wr) (fun j _ => n - (intOf j).toNat)
 case atStart => exact ⟨0, Nat.zero_le _, rfl, fun i hi h0 => absurd h0 (Nat.not_lt_zero _), Below.refl _ _⟩
 case round =>
   obtain ⟨k, hk, rfl, hno, hb⟩ := hrel
   obtain ⟨wo, rfl⟩ : ∃ wo : World, wo = wr := ⟨_, rfl⟩
   have hbz := hb.size
   have hbw : Below w.heap.size w wo := HB0.out.trans (hb.mono (by omega))
   have HNO := Lib.hid hno
   clear hno
   by_cases hkn : k < n
   · have hkl : k < l.length := by rw [HN.out]; exact hkn
     obtain ⟨g, B1, d1, eA, hgb, hgl, c0, c1, rk1⟩ := HO.out.at_ hkl
     subst eA
     have y0 := (below_at hbw g (k * 2) hgl).trans c0
     have y1 := (below_at hbw g (k * 2 + 1) hgl).trans c1
     have v0 := (below_at hb w.heap.size 0 (by omega)).trans x0
     have v1 := (below_at hb w.heap.size 1 (by omega)).trans x1
     have KS := Lib.hid (fun X (hX : Below w.heap.size w X) => sameS_any (w := X) (c := d1) (d := d) (F := (((l[k]).1 : Nat) : Int)) (G := ((s.1 : Nat) : Int)) (rk1.rj.below hX) (HRK.out.below hX) (by omega))
     have HE := Lib.hid (HEQ.out k hkl)
     have HYK := Lib.hid (HY.out k hkl)
     have HNK : Hid (l[k] ≠ s → ∀ i (hi : i < l.length), i < k + 1 → l[i] ≠ s) := fun hne i hi hik => by
       by_cases e : i = k
       · subst e; exact hne
       · exact HNO.out i hi (by omega)
     generalize l[k] = t at *
     have i1 : (0 : Int) ≤ (k : Int) := by omega
     have i2 : (k : Int) < (n : Int) := by omega
     obtain ⟨W2, hW2⟩ : ∃ W2, W2 = wo.alloc (.cells #[.int .i64 ((t.1 : Nat) : Int), .slice B1 ng d1] 45) := ⟨_, rfl⟩
     have hbo : Below wo.heap.size wo W2 := by rw [hW2]; exact (Below.refl _ _).alloc (Nat.le_refl _) _
     have hz2 : W2.heap.size = wo.heap.size + 1 := by rw [hW2]; simp
     have q0 : W2.cell? ⟨wo.heap.size, 0, none⟩ = some (.int .i64 ((t.1 : Nat) : Int)) := by rw [hW2]; exact (World.cell?_alloc_at _ _ _ _ rfl).trans rfl
     have q1 : W2.cell? ⟨wo.heap.size, 1, none⟩ = some (.slice B1 ng d1) := by rw [hW2]; exact (World.cell?_alloc_at _ _ _ _ rfl).trans rfl
     have q2 := (below_at hbo w.heap.size 0 (by omega)).trans v0
     have q3 := (below_at hbo w.heap.size 1 (by omega)).trans v1
     have K := Lib.hid (KS.out W2 (hbw.trans (hbo.mono (by omega))))
     have HBX := Lib.hid (hb.trans (hbo.mono (by omega)))
     have HW2 := Lib.hid hW2
     clear hW2 rk1 KS c0 c1 hb hbo
     go_upto_region 4 with fail
     rw [← HW2.out]
     clear y0 y1 v0 v1 HW2
     go_wp2_with fail
     refine K.out.mono ?_
     rintro x w5 ⟨⟨b, rfl, hbb⟩, hb5⟩
     have hz5 := hb5.size
     have HB5 := Lib.hid (HBX.out.trans (hb5.mono (by omega)))
     cases b
     · have hne : t ≠ s := fun h => by have := hbb.2 (HE.out.1 h); cases this
       have HN2 := Lib.hid (HNK.out hne)
       clear hne hbb hb5
       go_wp2_with fail
       go_roundw
       case rel => exact ⟨k + 1, by omega, by go_num, HN2.out, HB5.out⟩
       case measure => simp [intOf]; omega
     · have he : t = s := HE.out.2 (hbb.1 rfl)
       have hr := HYK.out he HNO.out
       clear he hbb hb5
       have hbF : Below w.heap.size w w5 := HB0.out.trans (HB5.out.mono (by omega))
       go_wp2_with fail
       go_returns
       exact ⟨by rw [hr]; rfl, hbF⟩
   · obtain rfl : k = n := by omega
     have hr := HZ.out fun j hj => HNO.out j hj (by rw [← HN.out]; exact hj)
     go_wp2_with fail
     go_returns
     exact ⟨by rw [hr]; rfl, hbw⟩
end
end Go.Proofs.YtoiopnmphbnjaaaGreatDoor
