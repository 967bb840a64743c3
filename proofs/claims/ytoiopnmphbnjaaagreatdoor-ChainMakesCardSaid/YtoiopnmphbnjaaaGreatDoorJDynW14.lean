/- Contracts and lemmas for the given statements. Conditions: those alone that each names. -/
import Derived.Test.YtoiopnmphbnjaaaGreatDoorJDynW10
import Derived.Test.YtoiopnmphbnjaaaGreatDoorJShelfD
set_option maxHeartbeats 8000000
namespace Go.Proofs.YtoiopnmphbnjaaaGreatDoor
open Go.RowKit
set_option linter.unusedSimpArgs false
set_option linter.unusedVariables false
set_option maxRecDepth 20000
/-! ## package dynamic: held -/
theorem dcontR {w : World} {b off n c : Nat} {l : List Int} (h : Rds w w.heap.size 1 (some ⟨b, off, none⟩) l.length (zsD l)) (h1 : 1 ≤ l.length) (hn : l.length ≤ 1000000) (x : Int) : Calls Tryz.prog 111 #[.slice (some ⟨b, off + 1, none⟩) (l.length - 1) c, .int .i64 x] w fun e w' => e = .returned (.bool (l.tail.contains x)) ∧ Below w.heap.size w w' := by
 refine (Tryz.slices_Contains_int b (off + 1) (l.length - 1) c l.tail x w (by simp) (by omega) (fun j hj => ?_)).mono fun e w' he => ⟨by rw [he.1, List.take_of_length_le (by simp)], by rw [he.2]; exact Below.refl _ _⟩
 have hj' : j + 1 < l.length := by simp at hj; omega
 obtain ⟨b1, o1, e1, -, hc⟩ := zsD_at h (Below.refl _ _) hj'
 injection e1 with e1
 injection e1 with e1 e2
 subst e1 e2
 rw [show off + 1 + j = off + (j + 1) by omega, hc, List.getD_eq_getElem?_getD, List.getElem?_eq_getElem hj, List.getElem_tail]
 rfl
section
variable {W : World} {A1 A2 A3 Av : Option Addr} {c1 n2 c2 n3 c3 nv cv : Nat} {kd kk e : Int} {s : Bool} {l : List Int} {V : Nat → Bool} {x y : Nat}
def hlP (V : Nat → Bool) (kd : Int) (l : List Int) (e : Int) : Bool := kd == 8 && (V (l.headD 0).toNat && l.tail.contains e)
theorem dheld1_ok (ra : Rds W W.heap.size 1 A1 l.length (zsD l)) (hx : W.cell? ⟨x, 0, none⟩ = some (.slice Av nv cv)) (hy : W.cell? ⟨y, 0, none⟩ = some (.int .i64 e)) (rv : RdV W Av nv V) (har : ∀ a, a ∈ l → 0 ≤ a ∧ a < nv) (h1 : 1 ≤ l.length) (h16 : l.length ≤ 16) (hlc : l.length ≤ c1) (h82 : kd = 8 → 2 ≤ l.length) :
   Calls Tryz.prog 110 #[gv kd kk A1 l.length c1 s A2 n2 c2 A3 n3 c3, .pointer (some ⟨x, 0, none⟩), .pointer (some ⟨y, 0, none⟩)] W fun z w' => z = .returned (.bool (hlP V kd l e)) ∧ Below W.heap.size W w' := by
 obtain ⟨W1, hW1⟩ : ∃ W1, W1 = W.alloc (.cells #[.int .i64 kd, .int .i64 kk, .slice A1 l.length c1, .bool s, .slice A2 n2 c2, .slice A3 n3 c3] 88) := ⟨_, rfl⟩
 have hbA : Below W.heap.size W W1 := by rw [hW1]; exact (Below.refl _ _).alloc (Nat.le_refl _) _
 have q0 : W1.cell? ⟨W.heap.size, 0, none⟩ = some (.int .i64 kd) := by rw [hW1]; simp [go_sem]
 have q2 : W1.cell? ⟨W.heap.size, 2, none⟩ = some (.slice A1 l.length c1) := by rw [hW1]; simp [go_sem]
 have x1 := (below_at hbA x 0 (lt_of_cell hx)).trans hx
 have y1 := (below_at hbA y 0 (lt_of_cell hy)).trans hy
 have HW := Lib.hid hW1
 clear hW1
 have f0 := fun z : Sub W1 => z.cell q0
 have f1 := fun z : Sub W1 => z.cell q2
 have f2 := fun z : Sub W1 => z.cell x1
 have f3 := fun z : Sub W1 => z.cell y1
 by_cases h8 : kd = 8
 · subst h8
   have hl2 := h82 rfl
   obtain ⟨b, off, rfl, hb, z0⟩ := zsD_at ra hbA (k := 0) (by omega)
   have ha := har _ (List.getElem_mem (show 0 < l.length by omega))
   obtain ⟨a, hae⟩ : ∃ a : Nat, l[0]'(by omega) = a := ⟨(l[0]'(by omega)).toNat, by omega⟩
   rw [hae] at z0 ha
   have han : a < nv := by omega
   have HH : Hid (hlP V 8 l e = (V a && l.tail.contains e)) := by
     show _ = _
     cases l with
     | nil => simp at h1
     | cons d l => simp at hae; subst hae; rfl
   obtain ⟨bv, offv, rfl, hbv, cx⟩ := rv.later hbA han
   have KC := Lib.hid (fun X (hX : Below W1.heap.size W1 X) => dcontR (w := X) (c := c1 - 1) (n := 0) (ra.on (hbA.trans (hX.mono hbA.size)) (hbA.trans (hX.mono hbA.size)).size) h1 (by omega) e)
   have i0 : (0 : Int) < (l.length : Int) := by omega
   have i1 : (0 : Int) ≤ (a : Int) := by omega
   have i2 : (a : Int) < (nv : Int) := by omega
   have i3 : (1 : Int) ≤ (l.length : Int) := by omega
   have i4 : ¬ c1 = 1 := by omega
   rw [Nat.add_zero] at z0
   have f4 := fun z : Sub W1 => z.cell z0
   have f5 := fun z : Sub W1 => z.cell cx
   clear har ra rv hx hy
   cases hva : V a
   · rw [hva] at cx f5
     have HF : Hid (hlP V 8 l e = false) := by show _ = _; rw [HH.out, hva]; rfl
     clear HH hva KC
     go_enter Tryz.func110, Tryz.ntmps110
     go_wp2_with fail
     rw [← HW.out]
     ((refine wp_region_quiet_bel (by kernel_rfl) (by kernel_rfl) ?_); (repeat (go_big_quiet_step (fail))); (refine wpQuiet_nil ?_); rintro w3 ⟨⟨_, hb3⟩, rfl⟩; (try dsimp only))
     go_wp2_with fail
     go_returns
     exact ⟨by rw [HF.out]; rfl, (by have z0 := Below.size hbA; have z1 := Below.size hb3; (try simp only [ZZ] at z0 z1 ⊢; skip); repeat' (first | (with_reducible first | exact BlR _ _ | assumption | refine BlA ?_ ?_ _ | refine BlD ?_ | refine BlN ?_ _ | refine BlS ?_ ?_ _ | refine BlT ?_ (BlM (by assumption) ?_)) | omega | (simp only [ZZ]; omega) | go_size))⟩
   · rw [hva] at cx f5
     have HF : Hid (hlP V 8 l e = l.tail.contains e) := by show _ = _; rw [HH.out, hva]; rfl
     clear HH hva
     generalize l.tail.contains e = bt at *
     go_enter Tryz.func110, Tryz.ntmps110
     go_wp2_with fail
     rw [← HW.out]
     ((refine wp_region_quiet_bel (by kernel_rfl) (by kernel_rfl) ?_); (repeat (go_big_quiet_step ((go_at_call 111; with_reducible exact Calls.quiet_bel (KC.out _ (Sub.bel _)))))); (refine wpQuiet_nil ?_); rintro w3 ⟨⟨_, hb3⟩, rfl⟩; (try dsimp only))
     go_wp2_with fail
     go_returns
     exact ⟨by rw [HF.out]; rfl, (by have z0 := Below.size hbA; have z1 := Below.size hb3; (try simp only [ZZ] at z0 z1 ⊢; skip); repeat' (first | (with_reducible first | exact BlR _ _ | assumption | refine BlA ?_ ?_ _ | refine BlD ?_ | refine BlN ?_ _ | refine BlS ?_ ?_ _ | refine BlT ?_ (BlM (by assumption) ?_)) | omega | (simp only [ZZ]; omega) | go_size))⟩
 · have HF : Hid (hlP V kd l e = false) := by
     show _ = _
     unfold hlP
     rw [show (kd == 8) = false by simpa using h8]; rfl
   have e8 : (kd == 8) = false := by simpa using h8
   clear har ra rv hx hy
   go_enter Tryz.func110, Tryz.ntmps110
   go_wp2_with fail
   rw [← HW.out]
   ((refine wp_region_quiet_bel (by kernel_rfl) (by kernel_rfl) ?_); (repeat (go_big_quiet_step (fail))); (refine wpQuiet_nil ?_); rintro w3 ⟨⟨_, hb3⟩, rfl⟩; (try dsimp only))
   go_wp2_with fail
   go_returns
   exact ⟨by rw [HF.out]; rfl, (by have z0 := Below.size hbA; have z1 := Below.size hb3; (try simp only [ZZ] at z0 z1 ⊢; skip); repeat' (first | (with_reducible first | exact BlR _ _ | assumption | refine BlA ?_ ?_ _ | refine BlD ?_ | refine BlN ?_ _ | refine BlS ?_ ?_ _ | refine BlT ?_ (BlM (by assumption) ?_)) | omega | (simp only [ZZ]; omega) | go_size))⟩
end
section
variable {w : World} {AG AF AR Av : Option Addr} {cg nv cv : Nat} {r : DyR} {V : Nat → Bool} {e : Int} {x y : Nat}
def hlAny (r : DyR) (V : Nat → Bool) (e : Int) (n : Nat) : Bool := (List.range n).any fun k => hlP V (r.kd k) (r.ar k) e
theorem hlAny_succ (r : DyR) (V : Nat → Bool) (e : Int) (n : Nat) : hlAny r V e (n + 1) = (hlAny r V e n || hlP V (r.kd n) (r.ar n) e) := by
 unfold hlAny
 rw [List.range_succ, List.any_append]
 simp
theorem hlAny_yes {r : DyR} {V : Nat → Bool} {e : Int} {n k : Nat} (hk : k < n) (h : hlP V (r.kd k) (r.ar k) e = true) : hlAny r V e n = true := by
 unfold hlAny
 rw [List.any_eq_true]
 exact ⟨k, by simpa using hk, h⟩
theorem dindexG_ok (h : DyI w AG AF AR r) (ok : DyOk r) (hx : w.cell? ⟨x, 0, none⟩ = some (.slice Av nv cv)) (hy : w.cell? ⟨y, 0, none⟩ = some (.int .i64 e)) (rv : RdV w Av nv V) (har : ∀ k, k < r.ng → ∀ a, a ∈ r.ar k → 0 ≤ a ∧ a < nv) :
   Calls Tryz.prog 144 #[.slice AG r.ng cg, .func (.func 110) #[] #[.pointer (some ⟨x, 0, none⟩), .pointer (some ⟨y, 0, none⟩)]] w fun z w' => (∃ i : Int, z = .returned (.int .i64 i) ∧ decide (0 ≤ i) = hlAny r V e r.ng) ∧ Below w.heap.size w w' := by
 have n64 := ok.ng
 have HOK := Lib.hid ok
 have HAR := Lib.hid har
 have HH := Lib.hid (fun W (hb : Below w.heap.size w W) k (hk : k < r.ng) => (h.below hb).at_ hk)
 have KP := Lib.hid (fun W (hb : Below w.heap.size w W) k (hk : k < r.ng) (A1 A2 A3 : Option Addr) (c1 n2 c2 n3 c3 : Nat) (s : Bool) (ra : Rds W W.heap.size 1 A1 (r.ar k).length (zsD (r.ar k))) (hlc : (r.ar k).length ≤ c1) =>
   dheld1_ok (W := W) (kd := r.kd k) (kk := r.kk k) (e := e) (s := s) (A2 := A2) (n2 := n2) (c2 := c2) (A3 := A3) (n3 := n3) (c3 := c3) (c1 := c1) (V := V) ra ((below_at hb x 0 (lt_of_cell hx)).trans hx) ((below_at hb y 0 (lt_of_cell hy)).trans hy) (rv.below hb) (har k hk) (dgAg_len (ok.gate hk).ln).1 (dgAg_len (ok.gate hk).ln).2 hlc (fun h8 => dgAg_two (.inr (.inr h8)) (ok.gate hk).ln))
 clear ok har hx hy rv h
 go_enter Tryz.func144, Tryz.ntmps144
 go_wp2_with fail
 go_loopw [8] (fun i wr => ∃ k : Nat, k ≤ r.ng ∧ i = .int .i64 (k : Int) ∧ hlAny r V e k = false ∧ Below w.heap.size w wr) (fun i _ => r.ng - (intOf i).toNat)
 case atStart => exact ⟨0, Nat.zero_le _, rfl, rfl, Below.refl _ _⟩
 case round =>
   obtain ⟨k, hk, rfl, hal, hb⟩ := hrel
   have HAL := Lib.hid hal
   clear hal
   obtain ⟨w3, rfl⟩ : ∃ w3 : World, w3 = wr := ⟨_, rfl⟩
   have hbz := hb.size
   by_cases hkn : k < r.ng
   · obtain ⟨b, off, A1, c1, s, A2, n2, c2, A3, n3, c3, rfl, hbb, z0, z1, z2, z3, z4, z5, ra, rs, hlc⟩ := HH.out w3 hb k hkn
     have K := Lib.hid (KP.out w3 hb k hkn A1 A2 A3 c1 n2 c2 n3 c3 s ra hlc)
     have HY : Hid (hlP V (r.kd k) (r.ar k) e = true → hlAny r V e r.ng = true) := fun hh => hlAny_yes hkn hh
     have HN : Hid (hlP V (r.kd k) (r.ar k) e = false → hlAny r V e (k + 1) = false) := fun hh => by rw [hlAny_succ, HAL.out, hh]; rfl
     generalize hlP V (r.kd k) (r.ar k) e = bt at *
     have i1 : (k : Int) < (r.ng : Int) := by omega
     clear HAL HH KP
     go_wp2_with fail
     refine K.out.mono ?_
     rintro z w4 ⟨rfl, hb4⟩
     cases bt
     · have HC := Lib.hid (HN.out rfl)
       go_wp2_with fail
       go_roundw
       case rel => exact ⟨k + 1, by omega, by go_num, HC.out, hb.trans (hb4.mono hbz)⟩
       case measure => simp [intOf]; omega
     · have HC := Lib.hid (HY.out rfl)
       go_wp2_with fail
       go_returns
       exact ⟨⟨(k : Int), rfl, by rw [HC.out]; simp⟩, hb.trans (hb4.mono hbz)⟩
   · obtain rfl : k = r.ng := by omega
     go_wp2_with fail
     go_returns
     exact ⟨⟨-1, rfl, by rw [HAL.out]; rfl⟩, hb⟩
end
end Go.Proofs.YtoiopnmphbnjaaaGreatDoor
namespace Go.Proofs.YtoiopnmphbnjaaaGreatDoor
open Go.RowKit
set_option linter.unusedSimpArgs false
set_option linter.unusedVariables false
set_option maxRecDepth 20000
/-! ## package dynamic: held -/
theorem hlAny_held {r : DyR} (ok : DyOk r) (F : Nat) (M : List Int) (e : Nat) : hlAny r (vaD r.dy F M r.ng) (e : Int) r.ng = heldD r.dy (F, M) e := by
 unfold hlAny heldD
 show (List.range r.ng).any _ = (List.range r.ng).any _
 rw [Bool.eq_iff_iff, List.any_eq_true, List.any_eq_true]
 have key : ∀ k, k < r.ng → hlP (vaD r.dy F M r.ng) (r.kd k) (r.ar k) (e : Int) = heldK r.dy (F, M) e k := fun k hk => by
   have hg := ok.gate hk
   have hkd := hg.hkd
   have hix := hg.ix
   have hl := (dgAg_len hg.ln).1
   unfold hlP heldK
   show ((r.kd k == 8) && _) = (((r.kd k).toNat == 8) && (vaD r.dy F M r.ng (((r.ar k).map Int.toNat).headD 0) && ((r.ar k).map Int.toNat).tail.contains e))
   have e1 : (r.kd k == 8) = ((r.kd k).toNat == 8) := by
     rw [Bool.eq_iff_iff]
     simp only [beq_iff_eq]
     omega
   rw [e1]
   generalize r.ar k = l at *
   cases l with
   | nil => simp at hl
   | cons a l =>
     have e2 : (l.contains (e : Int)) = ((l.map Int.toNat).contains e) := by
       rw [Bool.eq_iff_iff]
       simp only [List.contains_iff_mem, List.mem_map]
       constructor
       · intro h
         exact ⟨_, h, rfl⟩
       · rintro ⟨z, hz, rfl⟩
         have := hix z (by simp [hz])
         rw [show ((z.toNat : Nat) : Int) = z by omega]
         exact hz
     simp only [List.headD_cons, List.tail_cons, List.map_cons]
     rw [e2]
 constructor
 · rintro ⟨k, hk, h⟩
   exact ⟨k, hk, by rw [← key k (by simpa using hk)]; exact h⟩
 · rintro ⟨k, hk, h⟩
   exact ⟨k, hk, by rw [key k (by simpa using hk)]; exact h⟩
section
variable {w : World} {AG AF AR Am Av : Option Addr} {cg cf cr cm nv cv : Nat} {r : DyR} {F e : Nat} {M : List Int} {V : Nat → Bool} {ee : Int} {x y : Nat}
theorem dcontG_ok (h : DyI w AG AF AR r) (ok : DyOk r) (hx : w.cell? ⟨x, 0, none⟩ = some (.slice Av nv cv)) (hy : w.cell? ⟨y, 0, none⟩ = some (.int .i64 ee)) (rv : RdV w Av nv V) (har : ∀ k, k < r.ng → ∀ a, a ∈ r.ar k → 0 ≤ a ∧ a < nv) :
   Calls Tryz.prog 109 #[.slice AG r.ng cg, .func (.func 110) #[] #[.pointer (some ⟨x, 0, none⟩), .pointer (some ⟨y, 0, none⟩)]] w fun z w' => z = .returned (.bool (hlAny r V ee r.ng)) ∧ Below w.heap.size w w' := by
 have K := Lib.hid (dindexG_ok (cg := cg) h ok hx hy rv har)
 clear h ok hx hy rv har
 go_enter Tryz.func109, Tryz.ntmps109
 go_wp2_with fail
 refine K.out.mono ?_
 rintro z w4 ⟨⟨i, rfl, hi⟩, hb4⟩
 have HI := Lib.hid hi
 clear hi K
 go_wp2_with fail
 go_returns
 exact ⟨by rw [← HI.out]; rfl, hb4⟩
theorem dheld_ok (h : DyI w AG AF AR r) (ok : DyOk r) (st : StOk r F M) (rj : RdJ w Am r.ng (fun i => M.getD i 0)) :
   Calls Tryz.prog 64 #[dyv r AG cg AF cf AR cr, .agg #[.int .i64 (F : Int), .slice Am r.ng cm], .int .i64 (e : Int)] w fun z w' => z = .returned (.bool (heldD r.dy (F, M) e)) ∧ Below w.heap.size w w' := by
 obtain ⟨v, hv⟩ : ∃ v : Nat, r.v = v := ⟨r.v.toNat, by have := ok.v1; omega⟩
 have KV := Lib.hid (fun X (hX : Below w.heap.size w X) => dvalues_ok (w := X) (cg := cg) (cf := cf) (cr := cr) (cm := cm) (h.below hX) ok hv st (rj.below hX))
 have KC := Lib.hid (fun X (hX : Below w.heap.size w X) (x y : Nat) (Av : Option Addr) (cv : Nat) (V : Nat → Bool) (hx : X.cell? ⟨x, 0, none⟩ = some (.slice Av (v + r.ng) cv)) (hy : X.cell? ⟨y, 0, none⟩ = some (.int .i64 (e : Int))) (rv : RdV X Av (v + r.ng) V) => dcontG_ok (cg := cg) (h.below hX) ok hx hy rv (fun k hk a ha => by
   have := (ok.gate hk).ix a ha
   rw [hv] at this
   omega))
 rw [← hlAny_held ok]
 generalize vaD r.dy F M r.ng = V at *
 unfold dyv at KV ⊢
 rw [hv] at KV ⊢
 clear ok st rj h
 go_enter Tryz.func64, Tryz.ntmps64
 go_wp2_with fail
 refine (KV.out _ (by (skip); repeat' (first | (with_reducible first | exact BlR _ _ | assumption | refine BlA ?_ ?_ _ | refine BlD ?_ | refine BlN ?_ _ | refine BlS ?_ ?_ _ | refine BlT ?_ (BlM (by assumption) ?_)) | omega | (simp only [ZZ]; omega) | go_size))).mono ?_
 rintro z w1 ⟨⟨g4, c4, rfl, own4⟩, hb1⟩
 have hb1z := hb1.size
 simp only [World.size_alloc] at hb1z own4
 have x1 : w1.cell? ⟨w.heap.size, 1, none⟩ = some (.slice AG r.ng cg) := (below_at hb1 w.heap.size 1 (by simp; omega)).trans (by simp [go_sem])
 have e0 : w1.cell? ⟨w.heap.size + 1 + 1, 0, none⟩ = some (.int .i64 (e : Int)) := (below_at hb1 (w.heap.size + 1 + 1) 0 (by simp)).trans (by simp [go_sem])
 have hbA : Below w.heap.size w w1 := (by have z0 := Below.size hb1; (try simp only [ZZ] at z0 ⊢; skip); repeat' (first | (with_reducible first | exact BlR _ _ | assumption | refine BlA ?_ ?_ _ | refine BlD ?_ | refine BlN ?_ _ | refine BlS ?_ ?_ _ | refine BlT ?_ (BlM (by assumption) ?_)) | omega | (simp only [ZZ]; omega) | go_size))
 have hz1 : w.heap.size < w1.heap.size := by omega
 obtain ⟨W, hW⟩ : ∃ W, W = w1.alloc (.cells #[.slice (some ⟨g4, 0, none⟩) (v + r.ng) c4] 30) := ⟨_, rfl⟩
 have hbW1 : Below w1.heap.size w1 W := by rw [hW]; exact (Below.refl _ _).alloc (Nat.le_refl _) _
 have q0 : W.cell? ⟨w1.heap.size, 0, none⟩ = some (.slice (some ⟨g4, 0, none⟩) (v + r.ng) c4) := by rw [hW]; simp [go_sem]
 have e2 : W.cell? ⟨w.heap.size + 1 + 1, 0, none⟩ = some (.int .i64 (e : Int)) := (below_at hbW1 _ 0 (by omega)).trans e0
 have hbW : Below w.heap.size w W := hbA.trans (hbW1.mono (by omega))
 have K := Lib.hid (KC.out W hbW _ _ _ _ V q0 e2 (own4.below hbW1).rd)
 have HW := Lib.hid hW
 clear hb1 KV KC hW own4 q0 e2
 go_wp2_with fail
 rw [← HW.out]
 refine K.out.mono ?_
 rintro z w5 ⟨rfl, hb5⟩
 go_wp2_with fail
 go_returns
 exact ⟨rfl, (by have z0 := Below.size hbW; have z1 := Below.size hb5; (try simp only [ZZ] at z0 z1 ⊢; skip); repeat' (first | (with_reducible first | exact BlR _ _ | assumption | refine BlA ?_ ?_ _ | refine BlD ?_ | refine BlN ?_ _ | refine BlS ?_ ?_ _ | refine BlT ?_ (BlM (by assumption) ?_)) | omega | (simp only [ZZ]; omega) | go_size))⟩
end
end Go.Proofs.YtoiopnmphbnjaaaGreatDoor
