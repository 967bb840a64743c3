/- Contracts and lemmas for the given statements. Conditions: those alone that each names. -/
import Derived.Test.YtoiopnmphbnjaaaGreatDoorJDynW8
import Derived.Test.YtoiopnmphbnjaaaGreatDoorJBaseEq
import Derived.Test.YtoiopnmphbnjaaaGreatDoorJLinRow
set_option maxHeartbeats 8000000
namespace Go.Proofs.YtoiopnmphbnjaaaGreatDoor
open Go.RowKit
set_option linter.unusedSimpArgs false
set_option linter.unusedVariables false
set_option maxRecDepth 20000
attribute [local irreducible] nv wp win plainB validR valR canR
/-! ## law22: Short; law48: Light -/
def Sh (L : Nat) (r : Rw) : Prop := r.2.1.length ≤ L ∧ r.2.2.length ≤ L
theorem short22_any {w : World} {b0 : Nat} {v : Value} {r : Rw} (h : RdS w b0 v r) :
   Calls Tryz.prog 42 #[v] w fun e w' => RetBi (Sh 40 r) e ∧ Below w.heap.size w w' := by
 obtain ⟨A, c, B, d, rfl, c1, c2, ok, rA, rB, _, _⟩ := h
 obtain ⟨s, l, m⟩ := r
 dsimp only at *
 have HB : Hid (l.length ≤ 40 → m.length ≤ 40 → Sh 40 (s, l, m)) := fun h1 h2 => ⟨h1, h2⟩
 generalize Sh 40 (s, l, m) = P at *
 have hbA : ∀ o, Below w.heap.size w (w.alloc o) := fun o => (Below.refl _ _).alloc (Nat.le_refl _) o
 by_cases h1 : l.length ≤ 40
 · have e2 : decide ((l.length : Int) ≤ 40) = true := by simp; omega
   by_cases h2 : m.length ≤ 40
   · have e3 : decide ((m.length : Int) ≤ 40) = true := by simp; omega
     go_enter Tryz.func42, Tryz.ntmps42
     go_wp2
     go_ret
     exact ⟨retBi_t (HB.out h1 h2), hbA _⟩
   · have e3 : decide ((m.length : Int) ≤ 40) = false := by simp; omega
     go_enter Tryz.func42, Tryz.ntmps42
     go_wp2
     go_ret
     exact ⟨retBi_f, hbA _⟩
 · have e2 : decide ((l.length : Int) ≤ 40) = false := by simp; omega
   go_enter Tryz.func42, Tryz.ntmps42
   go_wp2
   go_ret
   exact ⟨retBi_f, hbA _⟩
structure Lt48 (r : DyR) : Prop where
 ng : r.ng ≤ 100
 ar : ∀ k, k < r.ng → (r.ar k).length ≤ 40
 dor : ∀ k, k < r.ng → Sh 40 (r.dor k)
 nf : r.nf ≤ 60
 fl : ∀ k, k < r.nf → Sh 40 (r.fl k)
 nr : r.nr ≤ 60
 rp : ∀ k, k < r.nr → Sh 40 (r.rp k)
theorem Lt48.s {r : DyR} (h : Lt48 r) : DyS r := ⟨fun k hk => by have := h.dor k hk; unfold Sh at this; omega, fun k hk => by have := h.fl k hk; unfold Sh at this; omega, fun k hk => by have := h.rp k hk; unfold Sh at this; omega, by have := h.ng; omega, by have := h.nf; omega, by have := h.nr; omega⟩
/-- the first k lists are short -/
def lsK (r : DyR) (k : Nat) : Prop := (0 < k → r.nf ≤ 60 ∧ ∀ j, j < r.nf → Sh 40 (r.fl j)) ∧ (1 < k → r.nr ≤ 60 ∧ ∀ j, j < r.nr → Sh 40 (r.rp j))
theorem light48_any {w : World} {AG AF AR : Option Addr} {cg cf cr : Nat} {r : DyR} (h : DyI w AG AF AR r) (hmx : r.ng ≤ maxLen) :
   Calls Tryz.prog 9 #[dyv r AG cg AF cf AR cr] w fun e w' => RetBi (Lt48 r) e ∧ Below w.heap.size w w' := by
 have hmx2 : r.ng ≤ 9223372036854775807 := hmx
 have HFIN : Hid ((∀ j, j < r.ng → (r.ar j).length ≤ 40 ∧ Sh 40 (r.dor j)) → lsK r 2 → r.ng ≤ 100 → Lt48 r) := fun h1 h2 h3 => ⟨h3, fun k hk => (h1 k hk).1, fun k hk => (h1 k hk).2, (h2.1 (by omega)).1, (h2.1 (by omega)).2, (h2.2 (by omega)).1, (h2.2 (by omega)).2⟩
 have HL0 : Hid (lsK r 0) := ⟨fun h => absurd h (by omega), fun h => absurd h (by omega)⟩
 have HLK : Hid (∀ k, k < 2 → ∃ A n c R, (k = 0 → (A, n, c) = (AF, r.nf, cf)) ∧ (k = 1 → (A, n, c) = (AR, r.nr, cr)) ∧ RowA w w.heap.size A n R ∧ (lsK r k → n ≤ 60 → (∀ j, j < n → Sh 40 (R j)) → lsK r (k + 1))) := fun k hk => by
   rcases (show k = 0 ∨ k = 1 by omega) with rfl | rfl
   · exact ⟨AF, r.nf, cf, r.fl, fun _ => rfl, fun h => absurd h (by omega), h.fa, fun _ h1 h2 => ⟨fun _ => ⟨h1, h2⟩, fun h => absurd h (by omega)⟩⟩
   · exact ⟨AR, r.nr, cr, r.rp, fun h => absurd h (by omega), fun _ => rfl, h.ra, fun h0 h1 h2 => ⟨fun _ => h0.1 (by omega), fun _ => ⟨h1, h2⟩⟩⟩
 have HAT := Lib.hid (fun k hk => h.at_ (k := k) hk)
 generalize Lt48 r = P at *
 generalize lsK r = LK at *
 clear h hmx
 unfold dyv
 obtain ⟨v, ng, kd, kk, ar, dor, top, nf, fl, nr, rp⟩ := r
 simp only at *
 go_enter Tryz.func9, Tryz.ntmps9
 go_wp2_with fail
 go_loopw [12] (fun i wr => ∃ k : Nat, k ≤ ng ∧ i = .int .i64 (k : Int) ∧ (∀ j, j < k → (ar j).length ≤ 40 ∧ Sh 40 (dor j)) ∧ Below w.heap.size w wr ∧ wr.cell? ⟨w.heap.size, 1, none⟩ = some (.slice AG ng cg) ∧ wr.cell? ⟨w.heap.size, 3, none⟩ = some (.slice AF nf cf) ∧ wr.cell? ⟨w.heap.size, 4, none⟩ = some (.slice AR nr cr) ∧ w.heap.size < wr.heap.size) (fun i _ => ng - (intOf i).toNat)
 case atStart => exact ⟨0, Nat.zero_le _, rfl, fun j hj => by omega, (Below.refl _ _).alloc (Nat.le_refl _) _, by simp [go_sem], by simp [go_sem], by simp [go_sem], by simp⟩
 case round =>
   obtain ⟨k, hk, rfl, hv, hb, y1, y3, y4, hz⟩ := hrel
   obtain ⟨wo, rfl⟩ : ∃ wo : World, wo = wr := ⟨_, rfl⟩
   have HV := Lib.hid hv
   clear hv
   by_cases hlt : k < ng
   · obtain ⟨b, off, A1, c1, sg, A2, n2, c2, A3, n3, c3, rfl, hbb, f0, f1, f2, f3, f4, f5, -, r0, -⟩ := HAT.out k hlt
     have x0 := (hb.cell (lt_of_cell f0)).trans f0
     have x1 := (hb.cell (lt_of_cell f1)).trans f1
     have x2 := (hb.cell (lt_of_cell f2)).trans f2
     have x3 := (hb.cell (lt_of_cell f3)).trans f3
     have x4 := (hb.cell (lt_of_cell f4)).trans f4
     have x5 := (hb.cell (lt_of_cell f5)).trans f5
     have r1 := r0.kp (Kp.of_below hb)
     have K1 := Lib.hid (fun W (hX : Below wo.heap.size wo W) => short22_any (r1.kp (Kp.of_below hX)))
     have hk0 : (0 : Int) ≤ (k : Int) := by omega
     have hki : (k : Int) < (ng : Int) := by omega
     have hAL : ∀ ob, Below wo.heap.size wo (wo.alloc ob) := fun ob => (Below.refl _ _).alloc (Nat.le_refl _) ob
     clear f0 f1 f2 f3 f4 f5 r0 r1
     generalize hln : (ar k).length = ln at *
     by_cases h40 : 40 < ln
     · have e1 : decide ((40 : Int) < (ln : Int)) = true := by simp; omega
       go_wp2_with fail
       go_ret
       exact ⟨retBi_f, hb.trans ((hAL _).mono hb.size)⟩
     · have e1 : decide ((40 : Int) < (ln : Int)) = false := by simp; omega
       go_wp2_with fail
       refine (K1.out _ (by (skip); repeat' (first | (with_reducible first | exact BlR _ _ | assumption | refine BlA ?_ ?_ _ | refine BlD ?_ | refine BlN ?_ _ | refine BlS ?_ ?_ _ | refine BlT ?_ (BlM (by assumption) ?_)) | omega | (simp only [ZZ]; omega) | go_size))).mono ?_
       rintro e w5 ⟨⟨bb, rfl, hbb5⟩, hb5⟩
       have hbF : Below w.heap.size w w5 := (by have z0 := Below.size hb; have z1 := Below.size hb5; (try simp only [ZZ] at z0 z1 ⊢; skip); repeat' (first | (with_reducible first | exact BlR _ _ | assumption | refine BlA ?_ ?_ _ | refine BlD ?_ | refine BlN ?_ _ | refine BlS ?_ ?_ _ | refine BlT ?_ (BlM (by assumption) ?_)) | omega | (simp only [ZZ]; omega) | go_size))
       have z1 := (below_at hb5 w.heap.size 1 (by simp; omega)).trans ((below_at (hAL _) w.heap.size 1 hz).trans y1)
       have z3 := (below_at hb5 w.heap.size 3 (by simp; omega)).trans ((below_at (hAL _) w.heap.size 3 hz).trans y3)
       have z4 := (below_at hb5 w.heap.size 4 (by simp; omega)).trans ((below_at (hAL _) w.heap.size 4 hz).trans y4)
       have hz5 := hb5.size
       simp only [World.size_alloc] at hz5
       clear hb5 y1 y3 y4
       cases bb with
       | true =>
         have hsh := hbb5 (by trivial)
         clear hbb5
         go_wp2_with fail
         go_roundw
         case rel =>
           refine ⟨k + 1, by omega, by go_num, fun j hj => ?_, hbF, z1, z3, z4, by omega⟩
           by_cases e : j = k
           · subst e; exact ⟨by omega, hsh⟩
           · exact HV.out j (by omega)
         case measure => simp [intOf]; omega
       | false =>
         go_wp2_with fail
         go_ret
         exact ⟨retBi_f, hbF⟩
   · obtain rfl : k = ng := by omega
     have hB9 := Lib.hid hb
     have hv1 : ∀ o, (wo.alloc (.cells #[.slice AF nf cf, .slice AR nr cr] o)).heap.size = wo.heap.size + 1 := fun o => by simp
     clear hb
     go_wp2_with fail
     go_loopw [33] (fun i wr => ∃ q : Nat, q ≤ 2 ∧ i = .int .i64 (q : Int) ∧ LK q ∧ Below w.heap.size w wr ∧ wr.cell? ⟨w.heap.size, 1, none⟩ = some (.slice AG k cg) ∧ (wr.cell? ⟨wo.heap.size, 0, none⟩ = some (.slice AF nf cf) ∧ wr.cell? ⟨wo.heap.size, 1, none⟩ = some (.slice AR nr cr)) ∧ wo.heap.size < wr.heap.size) (fun i _ => 2 - (intOf i).toNat)
     case atStart => exact ⟨0, Nat.zero_le _, rfl, HL0.out, hB9.out.trans (((Below.refl wo.heap.size wo).alloc (Nat.le_refl _) _).mono hB9.out.size), (below_at ((Below.refl wo.heap.size wo).alloc (Nat.le_refl _) _) w.heap.size 1 hz).trans y1, ⟨by simp [go_sem], by simp [go_sem]⟩, by simp⟩
     case round =>
       obtain ⟨q, hq, rfl, hlk, hb, u1, ⟨u3, u4⟩, hzo⟩ := hrel
       clear y1 y3 y4 hB9
       obtain ⟨wp, rfl⟩ : ∃ wp : World, wp = wr := ⟨_, rfl⟩
       have HLQ := Lib.hid hlk
       clear hlk
       by_cases hq2 : q < 2
       · obtain ⟨A, n, cn, R, he0, he1, hrow, hnx⟩ := HLK.out q hq2
         have uq : wp.cell? ⟨wo.heap.size, q, none⟩ = some (.slice A n cn) := by
           rcases (show q = 0 ∨ q = 1 by omega) with rfl | rfl
           · have := he0 rfl
             injection this with e1 e2
             injection e2 with e2 e3
             rw [e1, e2, e3]; exact u3
           · have := he1 rfl
             injection this with e1 e2
             injection e2 with e2 e3
             rw [e1, e2, e3]; exact u4
         have HRow := Lib.hid hrow
         have HNX := Lib.hid (hnx HLQ.out)
         have HB := Lib.hid hb
         have hq0 : (0 : Int) ≤ (q : Int) := by omega
         have hqi : (q : Int) < 2 := by omega
         clear he0 he1 hrow hnx hb
         by_cases h60 : 60 < n
         · have e1 : decide ((60 : Int) < (n : Int)) = true := by simp; omega
           go_wp2_with fail
           go_ret
           exact ⟨retBi_f, HB.out⟩
         · have e1 : decide ((60 : Int) < (n : Int)) = false := by simp; omega
           go_wp2_with fail
           go_loopw [42] (fun i wr => ∃ j : Nat, j ≤ n ∧ i = .int .i64 (j : Int) ∧ (∀ i, i < j → Sh 40 (R i)) ∧ Below wp.heap.size wp wr) (fun i _ => n - (intOf i).toNat)
           case atStart => exact ⟨0, Nat.zero_le _, rfl, fun j hj => by omega, Below.refl _ _⟩
           case round =>
             obtain ⟨j, hj, rfl, hv, hb⟩ := hrel
             have HV2 := Lib.hid hv
             clear hv
             have hbz := hb.size
             have hbw := HB.out.trans (hb.mono HB.out.size)
             by_cases hjn : j < n
             · obtain ⟨bx, ox, s1, A1, n1, c1, B1, m1, d1, rfl, hbx, f0, f1, f2, r1⟩ := HRow.out.at_ hjn
               have x0 := (hbw.cell (lt_of_cell f0)).trans f0
               have x1 := (hbw.cell (lt_of_cell f1)).trans f1
               have x2 := (hbw.cell (lt_of_cell f2)).trans f2
               have r2 := r1.kp (Kp.of_below hbw)
               have K1 := Lib.hid (fun W (hX : Below wr.heap.size wr W) => short22_any (r2.kp (Kp.of_below hX)))
               have hj0 : (0 : Int) ≤ (j : Int) := by omega
               have hji : (j : Int) < (n : Int) := by omega
               clear f0 f1 f2 r1 r2
               go_wp2_with fail
               refine (K1.out _ (by (skip); repeat' (first | (with_reducible first | exact BlR _ _ | assumption | refine BlA ?_ ?_ _ | refine BlD ?_ | refine BlN ?_ _ | refine BlS ?_ ?_ _ | refine BlT ?_ (BlM (by assumption) ?_)) | omega | (simp only [ZZ]; omega) | go_size))).mono ?_
               rintro e w5 ⟨⟨bb, rfl, hbb5⟩, hb5⟩
               have hbF : Below wp.heap.size wp w5 := (by have z0 := Below.size hb; have z1 := Below.size hb5; (try simp only [ZZ] at z0 z1 ⊢; skip); repeat' (first | (with_reducible first | exact BlR _ _ | assumption | refine BlA ?_ ?_ _ | refine BlD ?_ | refine BlN ?_ _ | refine BlS ?_ ?_ _ | refine BlT ?_ (BlM (by assumption) ?_)) | omega | (simp only [ZZ]; omega) | go_size))
               clear hb5
               cases bb with
               | true =>
                 have hsh := hbb5 (by trivial)
                 clear hbb5
                 go_wp2_with fail
                 go_roundw
                 case rel =>
                   refine ⟨j + 1, by omega, by go_num, fun i hi => ?_, hbF⟩
                   by_cases e : i = j
                   · subst e; exact hsh
                   · exact HV2.out i (by omega)
                 case measure => simp [intOf]; omega
               | false =>
                 go_wp2_with fail
                 go_ret
                 exact ⟨retBi_f, HB.out.trans (hbF.mono HB.out.size)⟩
             · obtain rfl : j = n := by omega
               have hN := HNX.out (by omega) HV2.out
               have z1 := (below_at hb w.heap.size 1 (by omega)).trans u1
               have z3 := (below_at hb wo.heap.size 0 hzo).trans u3
               have z4 := (below_at hb wo.heap.size 1 hzo).trans u4
               go_wp2_with fail
               go_roundw
               case rel => exact ⟨q + 1, by omega, by go_num, hN, hbw, z1, ⟨z3, z4⟩, by omega⟩
               case measure => simp [intOf]; omega
       · obtain rfl : q = 2 := by omega
         by_cases h1 : k ≤ 100
         · have e1 : decide ((k : Int) ≤ 100) = true := by simp; omega
           have HP := Lib.hid (HFIN.out HV.out HLQ.out h1)
           clear HV HFIN
           go_wp2_with fail
           go_ret
           exact ⟨retBi_t HP.out, hb⟩
         · have e1 : decide ((k : Int) ≤ 100) = false := by simp; omega
           go_wp2_with fail
           go_ret
           exact ⟨retBi_f, hb⟩
end Go.Proofs.YtoiopnmphbnjaaaGreatDoor
namespace Go.Proofs.YtoiopnmphbnjaaaGreatDoor
open Go.RowKit
set_option linter.unusedSimpArgs false
set_option linter.unusedVariables false
set_option maxRecDepth 20000
/-! ## append of a whole slice of fractions -/
theorem cellsV_add {n : Nat} {V U : Nat → Value} : ∀ m, cellsV (n + m) (fun k => if k < n then V k else U (k - n)) = cellsV n V ++ cellsV m U
 | 0 => by
   rw [Nat.add_zero, cellsV_congr (U := V) fun j hj => by rw [if_pos hj]]
   simp [cellsV]
 | m + 1 => by
   rw [← Nat.add_assoc, cellsV_succ, cellsV_add m, cellsV_succ, if_neg (by omega), show n + m - n = m by omega, List.append_assoc]
theorem run_appR0 (w : World) (ty : TypeId) (A : Option Addr) (n c d : Nat) (h : n ≤ c) : (Builtin.append_ #[23, 23] ty #[.slice A n c, .slice none 0 d]).run Tryz.prog w = .ok (.slice A n c) w := by
 obtain ⟨i0, hi0, hz0, hz1, hz2⟩ := info_parts ratInfo
 cases A with
 | none => simp [Builtin.append_, run_underlying Tryz.underlying23, sizeOf, typeInfo, hi0, h, Builtin.lenOf, Builtin.firstCells]
 | some a => simp [Builtin.append_, run_underlying Tryz.underlying23, sizeOf, typeInfo, hi0, h, Builtin.lenOf, Builtin.firstCells, storeCells]
theorem run_appRs {w : World} {b0 n c m d : Nat} {A X : Option Addr} {R U : Nat → Rw} (ty : TypeId) (hown : OwR w b0 A c n R) (hr : RowA w b0 X m U) (hn : n + m ≤ 1000000) (hbase : b0 ≤ w.heap.size) :
   ∃ A' c' w', (Builtin.append_ #[23, 23] ty #[.slice A n c, .slice X m d]).run Tryz.prog w = .ok (.slice A' (n + m) c') w' ∧ OwR w' b0 A' c' (n + m) (fun k => if k < n then R k else U (k - n)) ∧ w.grownBy w' (Value.slice A n c).ownBlock := by
 obtain ⟨i0, hi0, hz0, hz1, hz2⟩ := info_parts ratInfo
 have hcap := hown.cap
 have hown0 := hown
 obtain ⟨VU, hU, hRd⟩ := hr
 cases X with
 | none =>
   have hm : m = 0 := by
     rcases Nat.eq_zero_or_pos m with h | h
     · exact h
     · obtain ⟨_, _, e, _⟩ := hRd.2 h; cases e
   subst hm
   exact ⟨A, c, w, run_appR0 w ty A n c d hcap, hown.congr fun k hk => by rw [if_pos hk], World.grownBy.refl w _⟩
 | some ad =>
   obtain ⟨V, hV, hown⟩ := hown
   have h1 : ∀ u ∈ cellsV m VU, u.oneCell' = true := fun u hu => cellsV_one (fun k hk => (hU k hk).isR) u hu
   have hnews : ∀ j u, (cellsV m VU)[j]? = some u → w.cell? (ad.add j) = some u := fun j u hu => by
     have hj := (List.getElem?_eq_some_iff.1 hu).1
     rw [cellsV_length fun k hk => (hU k hk).isR] at hj
     obtain ⟨b, off, e, hb, hc⟩ := hRd.2 (by omega)
     injection e with e
     subst e
     rw [addr_add]
     exact hc j u hu
   obtain ⟨v', w', hrun, h2, h3, _, _⟩ := run_append_own_at (P := Tryz.prog) w b0 23 ty 56 i0 _ 3 56 Tryz.underlying23 hi0 hz0 hz1 hz2 rfl (by omega) _ n _ hown ad m d (cellsV m VU) (cellsV_length fun k hk => (hU k hk).isR) hnews h1 (by unfold maxLen; omega) (by omega) hbase
   obtain ⟨A', c', e, h2⟩ := own_form h2
   subst e
   have hkp : Kp b0 w w' := Kp.of_grown h3 fun k hk => by
     cases e : A with
     | none => rw [e] at hk; cases hk
     | some a =>
       rw [e] at hk
       injection hk with hk
       subst hk
       exact hown0.blockA e
   refine ⟨A', c', w', hrun, ⟨fun k => if k < n then V k else VU (k - n), fun k hk => ?_, ?_⟩, h3⟩
   · dsimp only
     by_cases h : k < n
     · rw [if_pos h, if_pos h]; exact (hV k h).kp hkp
     · rw [if_neg h, if_neg h]; exact (hU (k - n) (by omega)).kp hkp
   · rw [cellsV_add]; exact h2
theorem step_appRs {w : World} {ops : Array Oper} {o : Oper} {a : Act} {K : Act → World → Prop} {Q : Exit → Act → World → Prop} {E : Prop} (hgd : o.guard = none) (s x : Operand)
   (ho : o.op = .call { callee := .builtin .append, args := #[s, x], argTypes := #[23, 23] })
   (b0 : Nat) (A : Option Addr) (c n : Nat) (R : Nat → Rw) (hs : a.eval s = .slice A n c) (hown : OwR w b0 A c n R)
   (X : Option Addr) (m d : Nat) (U : Nat → Rw) (hx : a.eval x = .slice X m d) (hr : RowA w b0 X m U) (hn : n + m ≤ 1000000) (hbase : b0 ≤ w.heap.size)
   (h : ∀ A' c' w', OwR w' b0 A' c' (n + m) (fun k => if k < n then R k else U (k - n)) → w.grownBy w' (Value.slice A n c).ownBlock → K (a.put o.dst (.slice A' (n + m) c')) w') :
   if Region.wanted o (yielded ops a.tmps) = true then Oper.wp Tryz.prog o a w K Q else E := by
 have hw : Region.wanted o (yielded ops a.tmps) = true := by simp [Region.wanted, hgd]
 rw [if_pos hw]
 obtain ⟨A', c', w', hrun, h2, h3⟩ := run_appRs (d := d) o.type hown hr hn hbase
 unfold Oper.wp execOp
 simp only [ho, resolve, invoke, builtin, Sem.run_bind, Sem.run_pure, Result.andThen_ok, List.map_toArray, List.map_cons, List.map_nil, hs, hx, hrun]
 exact h A' c' w' h2 h3
theorem wpList_appRs {w : World} {ops : Array Oper} {rest : List Oper} {o : Oper} {a : Act} {Q : Exit → Act → World → Prop} (hgd : o.guard = none) (s x : Operand)
   (ho : o.op = .call { callee := .builtin .append, args := #[s, x], argTypes := #[23, 23] })
   (b0 : Nat) (A : Option Addr) (c n : Nat) (R : Nat → Rw) (hs : a.eval s = .slice A n c) (hown : OwR w b0 A c n R)
   (X : Option Addr) (m d : Nat) (U : Nat → Rw) (hx : a.eval x = .slice X m d) (hr : RowA w b0 X m U) (hn : n + m ≤ 1000000) (hbase : b0 ≤ w.heap.size)
   (h : ∀ A' c' w', OwR w' b0 A' c' (n + m) (fun k => if k < n then R k else U (k - n)) → w.grownBy w' (Value.slice A n c).ownBlock → wpList Tryz.prog ops Q rest (a.put o.dst (.slice A' (n + m) c')) w') : wpList Tryz.prog ops Q (o :: rest) a w := by
 refine wpList_plain hgd fun _ hK => ?_
 obtain ⟨A', c', w', hrun, h2, h3⟩ := run_appRs (d := d) o.type hown hr hn hbase
 unfold Oper.wp execOp
 simp only [ho, resolve, invoke, builtin, Sem.run_bind, Sem.run_pure, Result.andThen_ok, List.map_toArray, List.map_cons, List.map_nil, hs, hx, hrun]
 exact hK _ _ (h A' c' w' h2 h3)
end Go.Proofs.YtoiopnmphbnjaaaGreatDoor
namespace Go.Proofs.YtoiopnmphbnjaaaGreatDoor
open Go.RowKit
set_option linter.unusedSimpArgs false
set_option linter.unusedVariables false
set_option maxRecDepth 20000
attribute [local irreducible] nv wp win plainB validR valR canR
/-! ## law49: slight -/
theorem OwR.lit0 (W : World) {b0 : Nat} (hb : b0 ≤ W.heap.size) (R : Nat → Rw) : OwR (W.alloc (.cells #[] 56)) b0 (some ⟨W.heap.size, 0, none⟩) 0 0 R :=
 ⟨fun _ => .nilIface, fun k hk => absurd hk (Nat.not_lt_zero _), World.ownsRow_lit W #[] 0 hb (Nat.zero_le _) rfl⟩
theorem OwR.gr9 {w w' : World} {b0 c n B : Nat} {A : Option Addr} {R : Nat → Rw} (h : OwR w b0 A c n R) (hg : w.grownBy w' (Value.slice A n c).ownBlock) (hb : B ≤ w.heap.size) (hB : B ≤ b0) : Below B w w' := by
 refine (Below.refl _ _).grown hg hb fun k hk => ?_
 cases e : A with
 | none => rw [e] at hk; cases hk
 | some a =>
   rw [e] at hk
   injection hk with hk
   subst hk
   exact Nat.le_trans hB (h.blockA e).1
theorem RowA.later9 {w w' : World} {b0 n : Nat} {A : Option Addr} {R : Nat → Rw} (h : RowA w b0 A n R) (hb : Below w.heap.size w w') : RowA w' b0 A n R := by
 obtain ⟨V, h1, h2⟩ := h
 exact ⟨V, fun k hk => (h1 k hk).kp (Kp.of_below hb), Rds.more (Rds.below h2 hb) hb.size⟩
theorem RowA.up9 {w : World} {b0 b1 n : Nat} {A : Option Addr} {R : Nat → Rw} (h : RowA w b0 A n R) (hb : b0 ≤ b1) : RowA w b1 A n R := by
 obtain ⟨V, h1, h2⟩ := h
 exact ⟨V, fun k hk => (h1 k hk).base hb, h2⟩
theorem RowA.one9 (W : World) {b0 : Nat} {s : Bool} {A : Option Addr} {n c : Nat} {B : Option Addr} {m d : Nat} {r : Rw} (hr : RdS W b0 (rv s A n c B m d) r) : RowA (W.alloc (.cells #[.bool s, .slice A n c, .slice B m d] 56)) b0 (some ⟨W.heap.size, 0, none⟩) 1 (fun _ => r) := by
 have hb : Below W.heap.size W (W.alloc (.cells #[.bool s, .slice A n c, .slice B m d] 56)) := (Below.refl _ _).alloc (Nat.le_refl _) _
 refine ⟨fun _ => rv s A n c B m d, fun k hk => hr.kp (Kp.of_below hb), by simp [cellsV, c3], fun _ => ⟨W.heap.size, 0, rfl, by simp, fun j u hu => ?_⟩⟩
 rw [World.cell?_alloc_at _ _ _ _ rfl, Nat.zero_add]
 match j, hu with
 | 0, hu => exact hu
 | 1, hu => exact hu
 | 2, hu => exact hu
 | j + 3, hu => simp [cellsV, c3] at hu
theorem RdS.lens9 {w : World} {b0 : Nat} {s : Bool} {A : Option Addr} {n c : Nat} {B : Option Addr} {m d : Nat} {r : Rw} (h : RdS w b0 (rv s A n c B m d) r) : r.2.1.length = n ∧ r.2.2.length = m := by
 obtain ⟨A', c', B', d', e, _⟩ := h
 injection e with e
 have e1 := congrArg (·[1]?) e
 have e2 := congrArg (·[2]?) e
 simp at e1 e2
 exact ⟨e1.2.1.symm, e2.2.1.symm⟩
structure Sl49 (r : DyR) : Prop where
 fl : ∀ k, k < r.nf → Sh 4 (r.fl k)
 rp : ∀ k, k < r.nr → Sh 4 (r.rp k)
 dor : ∀ k, k < r.ng → Sh 4 (r.dor k)
/-- the list that is looked through -/
def slL (r : DyR) (k : Nat) : Rw := if k < r.nf then r.fl k else if k < r.nf + r.nr then r.rp (k - r.nf) else r.dor (k - (r.nf + r.nr))
theorem Sl49.of {r : DyR} (h : ∀ k, k < r.nf + r.nr + r.ng → Sh 4 (slL r k)) : Sl49 r := by
 refine ⟨fun k hk => ?_, fun k hk => ?_, fun k hk => ?_⟩
 · have := h k (by omega)
   unfold slL at this
   rwa [if_pos hk] at this
 · have := h (r.nf + k) (by omega)
   unfold slL at this
   rwa [if_neg (by omega), if_pos (by omega), show r.nf + k - r.nf = k by omega] at this
 · have := h (r.nf + r.nr + k) (by omega)
   unfold slL at this
   rwa [if_neg (by omega), if_neg (by omega), show r.nf + r.nr + k - (r.nf + r.nr) = k by omega] at this
theorem slight_any {w : World} {AG AF AR : Option Addr} {cg cf cr : Nat} {r : DyR} (h : DyI w AG AF AR r) (hl : Lt48 r) :
   Calls Tryz.prog 10 #[dyv r AG cg AF cf AR cr] w fun e w' => RetBi (Sl49 r) e ∧ Below w.heap.size w w' := by
 have hng := hl.ng
 have hnf := hl.nf
 have hnr := hl.nr
 have HFIN : Hid ((∀ k, k < r.nf + r.nr + r.ng → Sh 4 (slL r k)) → Sl49 r) := Sl49.of
 have HS1 : Hid (∀ k, k < r.nf + r.nr → slL r k = if k < r.nf then r.fl k else r.rp (k - r.nf)) := fun k hk => by
   unfold slL
   by_cases h : k < r.nf
   · rw [if_pos h, if_pos h]
   · rw [if_neg h, if_neg h, if_pos hk]
 have HS2 : Hid (∀ k, slL r (r.nf + r.nr + k) = r.dor k) := fun k => by
   unfold slL
   rw [if_neg (by omega), if_neg (by omega), show r.nf + r.nr + k - (r.nf + r.nr) = k by omega]
 have HF := Lib.hid (fun W hb => h.fa.later9 (w' := W) hb)
 have HR := Lib.hid (fun W hb => h.ra.later9 (w' := W) hb)
 have HAT := Lib.hid (fun k hk => h.at_ (k := k) hk)
 generalize Sl49 r = P at *
 generalize slL r = S at *
 clear h hl
 unfold dyv
 obtain ⟨v, ng, kd, kk, ar, dor, top, nf, fl, nr, rp⟩ := r
 simp only at *
 go_enter Tryz.func10, Tryz.ntmps10
 go_wp2_with fail
 obtain ⟨w1, hw1⟩ : ∃ w1, w1 = w.alloc (.cells #[.int .i64 v, .slice AG ng cg, .int .i64 top, .slice AF nf cf, .slice AR nr cr] 25) := ⟨_, rfl⟩
 have y1 : w1.cell? ⟨w.heap.size, 1, none⟩ = some (.slice AG ng cg) := by rw [hw1]; simp
 have y3 : w1.cell? ⟨w.heap.size, 3, none⟩ = some (.slice AF nf cf) := by rw [hw1]; simp
 have y4 : w1.cell? ⟨w.heap.size, 4, none⟩ = some (.slice AR nr cr) := by rw [hw1]; simp
 have hb1 : Below w.heap.size w w1 := by rw [hw1]; exact (Below.refl _ _).alloc (Nat.le_refl _) _
 have hz1 : w1.heap.size = w.heap.size + 1 := by rw [hw1]; simp
 rw [← hw1]
 have hlit : OwR (w1.drew.alloc (.cells #[] 56)) (w.heap.size + 1) (some ⟨w1.heap.size, 0, none⟩) 0 0 (fun _ => canR 0) := OwR.lit0 w1.drew (by simp; omega) _
 have hfr : RowA (w1.drew.alloc (.cells #[] 56)) (w.heap.size + 1) AF nf fl := by
   obtain ⟨V, h1, h2⟩ := HF.out (w1.drew.alloc (.cells #[] 56)) (by have z0 := Below.size hb1; (try simp only [ZZ] at z0 ⊢; skip); repeat' (first | (with_reducible first | exact BlR _ _ | assumption | refine BlA ?_ ?_ _ | refine BlD ?_ | refine BlN ?_ _ | refine BlS ?_ ?_ _ | refine BlT ?_ (BlM (by assumption) ?_)) | omega | (simp only [ZZ]; omega) | go_size))
   exact ⟨V, fun k hk => (h1 k hk).base (by omega), h2⟩
 have y4l : (w1.drew.alloc (.cells #[] 56)).cell? ⟨w.heap.size, 4, none⟩ = some (.slice AR nr cr) := (below_at (((Below.refl w1.heap.size w1).drew).alloc (Nat.le_refl _) _) w.heap.size 4 (by omega)).trans y4
 have y1l : (w1.drew.alloc (.cells #[] 56)).cell? ⟨w.heap.size, 1, none⟩ = some (.slice AG ng cg) := (below_at (((Below.refl w1.heap.size w1).drew).alloc (Nat.le_refl _) _) w.heap.size 1 (by omega)).trans y1
 have hbl : Below w.heap.size w (w1.drew.alloc (.cells #[] 56)) := (by have z0 := Below.size hb1; (try simp only [ZZ] at z0 ⊢; skip); repeat' (first | (with_reducible first | exact BlR _ _ | assumption | refine BlA ?_ ?_ _ | refine BlD ?_ | refine BlN ?_ _ | refine BlS ?_ ?_ _ | refine BlT ?_ (BlM (by assumption) ?_)) | omega | (simp only [ZZ]; omega) | go_size))
 clear hw1
 go_cut [3] from 8 to 14 (fun v wx => ∃ (A : Option Addr) (c : Nat), v = .slice A (nf + nr) c ∧ OwR wx (w.heap.size + 1) A c (nf + nr) S ∧ Below w.heap.size w wx ∧ w.heap.size + 1 ≤ wx.heap.size ∧ wx.cell? ⟨w.heap.size, 1, none⟩ = some (.slice AG ng cg))
 case first =>
   go_region_law (first | (refine step_appRs rfl (.tmp 8) (.tmp 10) rfl (w.heap.size + 1) (some ⟨w1.heap.size, 0, none⟩) 0 0 (fun _ => canR 0) (by simp [Act.eval]; done) hlit AF nf cf fl (by simp [Act.eval]; done) hfr (by omega) (by simp; omega) ?_; intro A5 c5 w5 own5 hg5; (have hb5 := hlit.gr9 hg5 (B := w.heap.size + 1) (by simp; omega) (Nat.le_refl _)); (have y5 := (below_at hb5 w.heap.size 4 (by omega)).trans y4l); (have y51 := (below_at hb5 w.heap.size 1 (by omega)).trans y1l); (have hbw5 : Below w.heap.size w w5 := hbl.trans (hb5.mono (by omega))); (have hz5 : w.heap.size + 1 ≤ w5.heap.size := (by have := hb5.size; simp at this; omega)); (have har5 := (HR.out w5 hbw5).up9 (b1 := w.heap.size + 1) (by omega))) | (refine step_appRs rfl (.tmp 11) (.tmp 13) rfl (w.heap.size + 1) A5 c5 (0 + nf) _ (by simp [Act.eval]; done) own5 AR nr cr rp (by simp [Act.eval]; done) har5 (by omega) hz5 ?_; intro A6 c6 w6 own6 hg6) | go_simp)
   all_goals
     have hb6 := own5.gr9 hg6 (B := w.heap.size + 1) hz5 (Nat.le_refl _)
     have hbF : Below w.heap.size w w6 := hbw5.trans (hb6.mono (by omega))
     have z1 := (below_at hb6 w.heap.size 1 (by omega)).trans y51
     have hz6 : w.heap.size + 1 ≤ w6.heap.size := by have := hb6.size; omega
     have HO6 : Hid (OwR w6 (w.heap.size + 1) A6 c6 (nf + nr) S) := by
       show OwR _ _ _ _ _ _
       have := own6.congr (U := S) (fun k hk => by
         rw [HS1.out k (by omega)]
         simp)
       rw [Nat.zero_add] at this
       exact this
     clear own5 own6 hg5 hg6 hb5 hb6 y5 y51 har5 hlit hfr y4l y1l hbl y1 y3 y4 hb1 HR HF hbw5 hz5
     go_wp2_with fail
     go_meet
     case rel => exact ⟨A6, c6, rfl, HO6.out, hbF, hz6, z1⟩
 case rest =>
   obtain ⟨A6, c6, rfl, ho6, hbF, hz6, z1⟩ := hcut
   have HO6 := Lib.hid ho6
   clear ho6 hlit hfr y4l y1l hbl y1 y3 y4 hb1 HR HF
   go_wp2_with fail
   go_loopw [3, 18] (fun vs i wr => ∃ (k : Nat) (A : Option Addr) (c : Nat), k ≤ ng ∧ vs = .slice A (nf + nr + k) c ∧ i = .int .i64 (k : Int) ∧ OwR wr (w.heap.size + 1) A c (nf + nr + k) S ∧ Below w.heap.size w wr ∧ w.heap.size + 1 ≤ wr.heap.size) (fun _ i _ => ng - (intOf i).toNat)
   case atStart => exact ⟨0, A6, c6, Nat.zero_le _, rfl, rfl, HO6.out, hbF, hz6⟩
   case round =>
     obtain ⟨k, A, c, hk, rfl, rfl, own, hb, hz⟩ := hrel
     obtain ⟨wo, rfl⟩ : ∃ wo : World, wo = wr := ⟨_, rfl⟩
     clear HO6 hbF z1 hz6
     by_cases hlt : k < ng
     · obtain ⟨b, off, A1, c1, sg, A2, n2, c2, A3, n3, c3', rfl, hbb, f0, f1, f2, f3, f4, f5, -, r0, -⟩ := HAT.out k hlt
       have x0 := (hb.cell (lt_of_cell f0)).trans f0
       have x1 := (hb.cell (lt_of_cell f1)).trans f1
       have x2 := (hb.cell (lt_of_cell f2)).trans f2
       have x3 := (hb.cell (lt_of_cell f3)).trans f3
       have x4 := (hb.cell (lt_of_cell f4)).trans f4
       have x5 := (hb.cell (lt_of_cell f5)).trans f5
       have hk0 : (0 : Int) ≤ (k : Int) := by omega
       have hki : (k : Int) < (ng : Int) := by omega
       obtain ⟨W1, hW1⟩ : ∃ W1, W1 = wo.alloc (.cells #[.int .i64 (kd k), .int .i64 (kk k), .slice A1 (ar k).length c1, .bool sg, .slice A2 n2 c2, .slice A3 n3 c3'] 88) := ⟨_, rfl⟩
       have hbo : Below wo.heap.size wo W1 := by rw [hW1]; exact (Below.refl _ _).alloc (Nat.le_refl _) _
       have hz1' : W1.heap.size = wo.heap.size + 1 := by rw [hW1]; simp
       have r1 := ((r0.kp (Kp.of_below hb)).kp (Kp.of_below hbo)).base (b1 := w.heap.size + 1) (by omega)
       have hone := RowA.one9 W1 r1
       have hal : Below W1.heap.size W1 (W1.alloc (.cells #[.bool sg, .slice A2 n2 c2, .slice A3 n3 c3'] 56)) := (Below.refl _ _).alloc (Nat.le_refl _) _
       have hown := (own.below hbo).below hal
       rw [hW1] at hone hown hal
       simp only [World.size_alloc] at hone
       have HS2k := HS2.out k
       have hbo2 := hbo
       rw [hW1] at hbo2
       clear f0 f1 f2 f3 f4 f5 r0 r1 hW1 hbo own
       go_wp2_with (first | (at_builtin; refine wpList_appRs rfl (.tmp 22) (.tmp 25) rfl (w.heap.size + 1) A c (nf + nr + k) S (by simp [Act.eval]; done) hown (some ⟨wo.heap.size + 1, 0, none⟩) 1 1 (fun _ => dor k) (by simp [Act.eval]; done) hone (by omega) (by simp; omega) ?_; intro A7 c7 w7 own7 hg7) | fail)
       have hbw7 := hown.gr9 hg7 (B := w.heap.size + 1) (by simp; omega) (Nat.le_refl _)
       have hbF : Below w.heap.size w w7 := (hb.trans ((hbo2.mono hb.size).trans (hal.mono (by simp; have := hb.size; omega)))).trans (hbw7.mono (by omega))
       have hz7 : w.heap.size + 1 ≤ w7.heap.size := by have := hbw7.size; simp at this; omega
       have HO7 : Hid (OwR w7 (w.heap.size + 1) A7 c7 (nf + nr + (k + 1)) S) := by
         show OwR _ _ _ _ _ _
         exact own7.congr (U := S) (fun q hq => by
           by_cases e : q < nf + nr + k
           · rw [if_pos e]
           · rw [if_neg e, ← HS2k]
             congr 1
             omega)
       clear own7 hg7 hown hone hal hbo2 hbw7 x0 x1 x2 x3 x4 x5
       go_wp2_with fail
       go_roundw
       case rel => exact ⟨k + 1, A7, c7, by omega, rfl, by go_num, HO7.out, hbF, hz7⟩
       case measure => simp [intOf]; omega
     · obtain rfl : k = ng := by omega
       have HRow := Lib.hid own.ra
       have HB := Lib.hid hb
       have hbz := hb.size
       clear own hb
       go_wp2_with fail
       go_loopw [30] (fun i wr => ∃ j : Nat, j ≤ nf + nr + k ∧ i = .int .i64 (j : Int) ∧ (∀ i, i < j → Sh 4 (S i)) ∧ Below wo.heap.size wo wr) (fun i _ => nf + nr + k - (intOf i).toNat)
       case atStart => exact ⟨0, Nat.zero_le _, rfl, fun j hj => by omega, Below.refl _ _⟩
       case round =>
         obtain ⟨j, hj, rfl, hv, hb⟩ := hrel
         have HV2 := Lib.hid hv
         clear hv
         have hbz2 := hb.size
         have hbw := HB.out.trans (hb.mono hbz)
         by_cases hjn : j < nf + nr + k
         · obtain ⟨bx, ox, s1, A1, n1, c1, B1, m1, d1, rfl, hbx, f0, f1, f2, r1⟩ := HRow.out.at_ hjn
           obtain ⟨l1, l2⟩ := r1.lens9
           have x0 := (hb.cell (lt_of_cell f0)).trans f0
           have x1 := (hb.cell (lt_of_cell f1)).trans f1
           have x2 := (hb.cell (lt_of_cell f2)).trans f2
           have hj0 : (0 : Int) ≤ (j : Int) := by omega
           have hji : (j : Int) < ((nf + nr + k : Nat) : Int) := by omega
           have hAL : ∀ ob, Below wr.heap.size wr (wr.alloc ob) := fun ob => (Below.refl _ _).alloc (Nat.le_refl _) ob
           have HSj : Hid (n1 ≤ 4 → m1 ≤ 4 → Sh 4 (S j)) := fun h1 h2 => ⟨by omega, by omega⟩
           clear f0 f1 f2 r1 l1 l2
           by_cases h1 : 4 < n1
           · have e1 : decide ((4 : Int) < (n1 : Int)) = true := by simp; omega
             go_wp2_with fail
             go_ret
             exact ⟨retBi_f, hbw.trans ((hAL _).mono (by omega))⟩
           · have e1 : decide ((4 : Int) < (n1 : Int)) = false := by simp; omega
             by_cases h2 : 4 < m1
             · have e2 : decide ((4 : Int) < (m1 : Int)) = true := by simp; omega
               go_wp2_with fail
               go_ret
               exact ⟨retBi_f, hbw.trans ((hAL _).mono (by omega))⟩
             · have e2 : decide ((4 : Int) < (m1 : Int)) = false := by simp; omega
               have hsh := HSj.out (by omega) (by omega)
               go_wp2_with fail
               go_roundw
               case rel =>
                 refine ⟨j + 1, by omega, by go_num, fun i hi => ?_, hb.trans ((hAL _).mono hbz2)⟩
                 by_cases e : i = j
                 · subst e; exact hsh
                 · exact HV2.out i (by omega)
               case measure => simp [intOf]; omega
         · obtain rfl : j = nf + nr + k := by omega
           have HP := Lib.hid (HFIN.out HV2.out)
           clear HV2 HFIN
           go_wp2_with fail
           go_ret
           exact ⟨retBi_t HP.out, hbw⟩
end Go.Proofs.YtoiopnmphbnjaaaGreatDoor
