/- Contracts and lemmas for the given statements. Conditions: those alone that each names. -/
import Derived.Test.YtoiopnmphbnjaaaGreatDoorJChX
set_option maxHeartbeats 8000000
namespace Go.Proofs.YtoiopnmphbnjaaaGreatDoor
open Go.RowKit
set_option linter.unusedSimpArgs false
set_option linter.unusedVariables false
set_option maxRecDepth 20000
/-! ## package dynamic: arguments, zero, value -/
theorem dargs_any (kd : Int) (n : Nat) (w : World) : Calls Tryz.prog 139 #[.int .i64 kd, .int .i64 (n : Int)] w fun e w' => e = .returned (.bool (dgAg kd n)) ∧ w = w' := by
 by_cases h3 : kd = 3
 · subst h3
   have e : dgAg 3 n = ((n : Int) == 1) := by unfold dgAg; rw [if_pos rfl, Bool.eq_iff_iff]; simp; omega
   rw [e]
   go_enter Tryz.func139, Tryz.ntmps139
   go_wp2
   go_returns
   exact ⟨rfl, rfl⟩
 · by_cases h5 : kd = 5
   · subst h5
     have e : dgAg 5 n = ((n : Int) == 2) := by unfold dgAg; rw [if_neg (by omega), if_pos rfl, Bool.eq_iff_iff]; simp; omega
     rw [e]
     go_enter Tryz.func139, Tryz.ntmps139
     go_wp2
     go_returns
     exact ⟨rfl, rfl⟩
   · by_cases h6 : kd = 6 ∨ kd = 7 ∨ kd = 8
     · have e : dgAg kd n = (decide ((2 : Int) ≤ n) && decide ((n : Int) ≤ 16)) := by unfold dgAg; rw [if_neg h3, if_neg h5, if_pos h6, Bool.eq_iff_iff]; simp; omega
       rw [e]
       by_cases h2 : 2 ≤ n
       · rcases h6 with rfl | rfl | rfl
         all_goals
           go_enter Tryz.func139, Tryz.ntmps139
           go_wp2
           go_returns
           exact ⟨by simp; omega, rfl⟩
       · rcases h6 with rfl | rfl | rfl
         all_goals
           go_enter Tryz.func139, Tryz.ntmps139
           go_wp2
           go_returns
           exact ⟨by simp; omega, rfl⟩
     · have e : dgAg kd n = (decide ((1 : Int) ≤ n) && decide ((n : Int) ≤ 16)) := by unfold dgAg; rw [if_neg h3, if_neg h5, if_neg h6, Bool.eq_iff_iff]; simp; omega
       have n6 : ¬ kd = 6 := fun e => h6 (.inl e)
       have n7 : ¬ kd = 7 := fun e => h6 (.inr (.inl e))
       have n8 : ¬ kd = 8 := fun e => h6 (.inr (.inr e))
       rw [e]
       clear e h6
       by_cases h1 : 1 ≤ n
       · go_enter Tryz.func139, Tryz.ntmps139
         go_wp2
         go_returns
         exact ⟨by simp; omega, rfl⟩
       · go_enter Tryz.func139, Tryz.ntmps139
         go_wp2
         go_returns
         exact ⟨by simp; omega, rfl⟩
theorem dzero_any (s : Bool) (A B : Option Addr) (n c m d : Nat) (w : World) : Calls Tryz.prog 141 #[rv s A n c B m d] w fun e w' => e = .returned (.bool (!s && (n == 0 && m == 0))) ∧ Below w.heap.size w w' := by
 have e2 : ((m : Int) == 0) = (m == 0) := by rw [Bool.eq_iff_iff]; simp
 cases s
 · by_cases h1 : n = 0
   · subst h1
     go_enter Tryz.func141, Tryz.ntmps141
     go_wp2
     go_returns
     exact ⟨by simp [e2], (by (skip); repeat' (first | (with_reducible first | exact BlR _ _ | assumption | refine BlA ?_ ?_ _ | refine BlD ?_ | refine BlN ?_ _ | refine BlS ?_ ?_ _ | refine BlT ?_ (BlM (by assumption) ?_)) | omega | (simp only [ZZ]; omega) | go_size))⟩
   · have e1 : ((n : Int) == 0) = false := by simp; omega
     go_enter Tryz.func141, Tryz.ntmps141
     go_wp2
     go_returns
     exact ⟨by simp [h1], (by (skip); repeat' (first | (with_reducible first | exact BlR _ _ | assumption | refine BlA ?_ ?_ _ | refine BlD ?_ | refine BlN ?_ _ | refine BlS ?_ ?_ _ | refine BlT ?_ (BlM (by assumption) ?_)) | omega | (simp only [ZZ]; omega) | go_size))⟩
 · go_enter Tryz.func141, Tryz.ntmps141
   go_wp2
   go_returns
   exact ⟨by simp, (by (skip); repeat' (first | (with_reducible first | exact BlR _ _ | assumption | refine BlA ?_ ?_ _ | refine BlD ?_ | refine BlN ?_ _ | refine BlS ?_ ?_ _ | refine BlT ?_ (BlM (by assumption) ?_)) | omega | (simp only [ZZ]; omega) | go_size))⟩
/-- a gate as a value -/
abbrev gv (kd kk : Int) (A : Option Addr) (n c : Nat) (s : Bool) (A2 : Option Addr) (n2 c2 : Nat) (A3 : Option Addr) (n3 c3 : Nat) : Value := .agg #[.int .i64 kd, .int .i64 kk, .slice A n c, .bool s, .slice A2 n2 c2, .slice A3 n3 c3]
section
variable {w : World} {A1 A2 A3 Av : Option Addr} {c1 n2 c2 n3 c3 nv cv : Nat} {kd kk memo : Int} {s : Bool} {l : List Int} {V : Nat → Bool}
theorem dvalue_any (ra : Rds w w.heap.size 1 A1 l.length (zsD l)) (rv : RdV w Av nv V) (har : ∀ a, a ∈ l → 0 ≤ a ∧ a < nv) (h1 : 1 ≤ l.length) (h16 : l.length ≤ 16) (hkd : 0 ≤ kd ∧ kd ≤ 8) :
   Calls Tryz.prog 106 #[gv kd kk A1 l.length c1 s A2 n2 c2 A3 n3 c3, .slice Av nv cv, .int .i64 memo] w fun e w' => e = .returned (.bool (dyVal kd.toNat kk ((l.map Int.toNat).map V) memo)) ∧ Below w.heap.size w w' := by
 obtain ⟨L, hL⟩ : ∃ L, L = (l.map Int.toNat).map V := ⟨_, rfl⟩
 have hLl : L.length = l.length := by rw [hL]; exact dy_len l V
 have HV : Hid (∀ k (hk : k < l.length), ∃ x : Nat, l[k] = x ∧ x < nv ∧ L[k]'(by omega) = V x) := fun k hk => by
   have h2 := har _ (List.getElem_mem hk)
   refine ⟨l[k].toNat, by omega, by omega, ?_⟩
   subst hL
   exact mapV hk h2.1
 rw [← hL]
 obtain ⟨x0, hx0, hx0n, hx0V⟩ := HV.out 0 (by omega)
 have HHD : Hid (L.headD false = V x0) := by
   show _ = _
   rw [← hx0V]
   cases L with
   | nil => simp at hLl; omega
   | cons b L => rfl
 have hz0 : ∃ b off, A1 = some ⟨b, off, none⟩ ∧ b < w.heap.size ∧ ∀ W, Below w.heap.size w W → W.cell? ⟨b, off, none⟩ = some (.int .i64 (x0 : Int)) := by
   obtain ⟨b, off, hA, hb, hc⟩ := zsD_at ra (Below.refl _ _) (k := 0) (by omega)
   rw [hx0] at hc
   exact ⟨b, off, hA, hb, fun W hW => (hW.cell (p := ⟨b, off, none⟩) hb).trans hc⟩
 obtain ⟨b0, off0, rfl, hb0, hz0⟩ := hz0
 have HZ := Lib.hid hz0
 have hx0i : (0 : Int) < (l.length : Int) := by omega
 clear hL har hx0V hz0
 go_enter Tryz.func106, Tryz.ntmps106
 go_wp2
 have q0 : (w.alloc (.cells #[.int .i64 kd, .int .i64 kk, .slice (some ⟨b0, off0, none⟩) l.length c1, .bool s, .slice A2 n2 c2, .slice A3 n3 c3] 88)).cell? ⟨w.heap.size, 0, none⟩ = some (.int .i64 kd) := by simp [go_sem]
 have q1 : (w.alloc (.cells #[.int .i64 kd, .int .i64 kk, .slice (some ⟨b0, off0, none⟩) l.length c1, .bool s, .slice A2 n2 c2, .slice A3 n3 c3] 88)).cell? ⟨w.heap.size, 1, none⟩ = some (.int .i64 kk) := by simp [go_sem]
 have q2 : (w.alloc (.cells #[.int .i64 kd, .int .i64 kk, .slice (some ⟨b0, off0, none⟩) l.length c1, .bool s, .slice A2 n2 c2, .slice A3 n3 c3] 88)).cell? ⟨w.heap.size, 2, none⟩ = some (.slice (some ⟨b0, off0, none⟩) l.length c1) := by simp [go_sem]
 have hbA : Below w.heap.size w (w.alloc (.cells #[.int .i64 kd, .int .i64 kk, .slice (some ⟨b0, off0, none⟩) l.length c1, .bool s, .slice A2 n2 c2, .slice A3 n3 c3] 88)) := (by (skip); repeat' (first | (with_reducible first | exact BlR _ _ | assumption | refine BlA ?_ ?_ _ | refine BlD ?_ | refine BlN ?_ _ | refine BlS ?_ ?_ _ | refine BlT ?_ (BlM (by assumption) ?_)) | omega | (simp only [ZZ]; omega) | go_size))
 obtain ⟨W, hW⟩ : ∃ W, W = w.alloc (.cells #[.int .i64 kd, .int .i64 kk, .slice (some ⟨b0, off0, none⟩) l.length c1, .bool s, .slice A2 n2 c2, .slice A3 n3 c3] 88) := ⟨_, rfl⟩
 rw [← hW] at q0 q1 q2 hbA ⊢
 clear hW
 go_loopw [7, 13] (fun nw j wr => ∃ k n : Nat, k ≤ l.length ∧ nw = .int .i64 n ∧ j = .int .i64 k ∧ n = cnB (L.take k) ∧ n ≤ k ∧ W = wr) (fun _ j _ => l.length - (intOf j).toNat)
 case atStart => exact ⟨0, 0, Nat.zero_le _, rfl, rfl, rfl, Nat.le_refl _, rfl⟩
 case round =>
   obtain ⟨k, n, hk, rfl, rfl, hn, hnk, rfl⟩ := hrel
   have HN := Lib.hid hn
   clear hn
   by_cases hkl : k < l.length
   · obtain ⟨b1, off1, e1, hb1, zq⟩ := zsD_at ra hbA hkl
     injection e1 with e1
     injection e1 with e1 e2
     subst e1 e2
     obtain ⟨x, hx, hxn, hxV⟩ := HV.out k hkl
     rw [hx] at zq
     obtain ⟨bv, offv, rfl, hbv, cx⟩ := rv.later hbA hxn
     have HC := Lib.hid (cnB_take (l := L) (k := k) (by omega))
     rw [hxV] at HC
     clear hxV hx
     cases hvx : V x
     · rw [hvx] at cx HC
       have HN' : Hid (n = cnB (L.take (k + 1))) := by show n = _; rw [HC.out, ← HN.out]; rfl
       clear HC HN hvx
       go_wp2
       go_roundw
       case rel => exact ⟨k + 1, n, by omega, rfl, by go_num, HN'.out, by omega, (by first | trivial | rfl)⟩
       case measure => simp [intOf]; omega
     · rw [hvx] at cx HC
       have HN' : Hid (n + 1 = cnB (L.take (k + 1))) := by show n + 1 = _; rw [HC.out, ← HN.out]; rfl
       clear HC HN hvx
       go_wp2
       go_roundw
       case rel => exact ⟨k + 1, n + 1, by omega, by go_num, by go_num, HN'.out, by omega, (by first | trivial | rfl)⟩
       case measure => simp [intOf]; omega
   · have HNL : Hid (cnB L = n) := by
       show _ = _
       rw [HN.out, List.take_of_length_le (by omega)]
     have HLL := Lib.hid hLl
     have h16' : n ≤ 16 := by omega
     have z0 := HZ.out W hbA
     obtain ⟨bv, offv, rfl, hbv, cx⟩ := rv.later hbA hx0n
     obtain ⟨ll, hll⟩ : ∃ ll, l.length = ll := ⟨_, rfl⟩
     rw [hll] at q2 hk hkl h16 hx0i HLL
     rw [hll]
     clear HN HV hll
     rcases (show kd = 0 ∨ kd = 1 ∨ kd = 2 ∨ kd = 3 ∨ kd = 4 ∨ kd = 5 ∨ kd = 6 ∨ kd = 7 ∨ kd = 8 by omega) with rfl | rfl | rfl | rfl | rfl | rfl | rfl | rfl | rfl
     · have HR : Hid (dyVal (0 : Int).toNat kk L memo = ((n : Int) == (ll : Int))) := by
         show _ = _
         rw [show (0 : Int).toNat = 0 from rfl, dyVal_and (.inl rfl), HNL.out, HLL.out, Bool.eq_iff_iff]; simp; omega
       go_wp2
       go_returns
       exact ⟨by rw [HR.out]; rfl, hbA⟩
     · have HR : Hid (dyVal (1 : Int).toNat kk L memo = decide (0 < n)) := by
         show _ = _
         rw [show (1 : Int).toNat = 1 from rfl, dyVal_1, HNL.out]
       go_wp2
       go_returns
       exact ⟨by rw [HR.out]; rfl, hbA⟩
     · have HR : Hid (dyVal (2 : Int).toNat kk L memo = decide (kk ≤ (n : Int))) := by
         show _ = _
         rw [show (2 : Int).toNat = 2 from rfl, dyVal_2, HNL.out]
       go_wp2
       go_returns
       exact ⟨by rw [HR.out]; rfl, hbA⟩
     · have HR : Hid (dyVal (3 : Int).toNat kk L memo = ((n : Int) == 0)) := by
         show _ = _
         rw [show (3 : Int).toNat = 3 from rfl, dyVal_3, HNL.out, Bool.eq_iff_iff]; simp
       go_wp2
       go_returns
       exact ⟨by rw [HR.out]; rfl, hbA⟩
     · have HR : Hid (dyVal (4 : Int).toNat kk L memo = (((n : Int).tmod 2) == 1)) := by
         show _ = _
         rw [show (4 : Int).toNat = 4 from rfl, dyVal_4, HNL.out, Bool.eq_iff_iff]
         rw [Int.tmod_eq_emod_of_nonneg (by omega)]
         simp; omega
       go_wp2
       go_returns
       exact ⟨by rw [HR.out]; rfl, hbA⟩
     · have HR : Hid (dyVal (5 : Int).toNat kk L memo = ((n : Int) == (ll : Int))) := by
         show _ = _
         rw [show (5 : Int).toNat = 5 from rfl, dyVal_and (.inr (.inl rfl)), HNL.out, HLL.out, Bool.eq_iff_iff]; simp; omega
       go_wp2
       go_returns
       exact ⟨by rw [HR.out]; rfl, hbA⟩
     · by_cases hnl : n = ll
       · have HR : Hid (dyVal (6 : Int).toNat kk L memo = (memo == 0)) := by
           show _ = _
           rw [show (6 : Int).toNat = 6 from rfl, dyVal_6, HNL.out, HLL.out, hnl]; simp
         have e3 : ((n : Int) == (ll : Int)) = true := by simp [hnl]
         clear hnl
         go_wp2
         go_returns
         exact ⟨by rw [HR.out]; rfl, hbA⟩
       · have HR : Hid (dyVal (6 : Int).toNat kk L memo = false) := by
           show _ = _
           rw [show (6 : Int).toNat = 6 from rfl, dyVal_6, HNL.out, HLL.out]; simp [hnl]
         have e3 : ((n : Int) == (ll : Int)) = false := by simp; omega
         clear hnl
         go_wp2
         go_returns
         exact ⟨by rw [HR.out]; rfl, hbA⟩
     · have HR : Hid (dyVal (7 : Int).toNat kk L memo = ((n : Int) == (ll : Int))) := by
         show _ = _
         rw [show (7 : Int).toNat = 7 from rfl, dyVal_and (.inr (.inr rfl)), HNL.out, HLL.out, Bool.eq_iff_iff]; simp; omega
       go_wp2
       go_returns
       exact ⟨by rw [HR.out]; rfl, hbA⟩
     · have HR : Hid (dyVal (8 : Int).toNat kk L memo = V x0) := by
         show _ = _
         rw [show (8 : Int).toNat = 8 from rfl, dyVal_8, HHD.out]
       generalize V x0 = bx at *
       go_wp2
       go_returns
       exact ⟨by rw [HR.out]; rfl, hbA⟩
end
end Go.Proofs.YtoiopnmphbnjaaaGreatDoor
namespace Go.Proofs.YtoiopnmphbnjaaaGreatDoor
open Go.RowKit
set_option linter.unusedSimpArgs false
set_option linter.unusedVariables false
set_option maxRecDepth 20000
/-! ## package dynamic: broken, active -/
section
variable {w : World} {A1 A2 A3 Av : Option Addr} {c1 n2 c2 n3 c3 nv cv : Nat} {kd kk old : Int} {s : Bool} {l : List Int} {V : Nat → Bool}
theorem dbroken_any (ra : Rds w w.heap.size 1 A1 l.length (zsD l)) (rv : RdV w Av nv V) (har : ∀ a, a ∈ l → 0 ≤ a ∧ a < nv) (h16 : l.length ≤ 16) :
   Calls Tryz.prog 142 #[gv kd kk A1 l.length c1 s A2 n2 c2 A3 n3 c3, .slice Av nv cv, .int .i64 old] w fun e w' => e = .returned (.int .i64 (dyBrk ((l.map Int.toNat).map V) old)) ∧ Below w.heap.size w w' := by
 obtain ⟨L, hL⟩ : ∃ L, L = (l.map Int.toNat).map V := ⟨_, rfl⟩
 have hLl : L.length = l.length := by rw [hL]; exact dy_len l V
 have HV : Hid (∀ k (hk : k < l.length), ∃ x : Nat, l[k] = x ∧ x < nv ∧ L[k]'(by omega) = V x) := fun k hk => by
   have h2 := har _ (List.getElem_mem hk)
   refine ⟨l[k].toNat, by omega, by omega, ?_⟩
   subst hL
   exact mapV hk h2.1
 rw [← hL]
 clear hL har
 go_enter Tryz.func142, Tryz.ntmps142
 go_wp2
 have q2 : (w.alloc (.cells #[.int .i64 kd, .int .i64 kk, .slice A1 l.length c1, .bool s, .slice A2 n2 c2, .slice A3 n3 c3] 88)).cell? ⟨w.heap.size, 2, none⟩ = some (.slice A1 l.length c1) := by simp [go_sem]
 have hbA : Below w.heap.size w (w.alloc (.cells #[.int .i64 kd, .int .i64 kk, .slice A1 l.length c1, .bool s, .slice A2 n2 c2, .slice A3 n3 c3] 88)) := (by (skip); repeat' (first | (with_reducible first | exact BlR _ _ | assumption | refine BlA ?_ ?_ _ | refine BlD ?_ | refine BlN ?_ _ | refine BlS ?_ ?_ _ | refine BlT ?_ (BlM (by assumption) ?_)) | omega | (simp only [ZZ]; omega) | go_size))
 obtain ⟨W, hW⟩ : ∃ W, W = w.alloc (.cells #[.int .i64 kd, .int .i64 kk, .slice A1 l.length c1, .bool s, .slice A2 n2 c2, .slice A3 n3 c3] 88) := ⟨_, rfl⟩
 rw [← hW] at q2 hbA ⊢
 clear hW
 go_loopw [7, 8, 9, 16] (fun sw gw ow j wr => ∃ (k : Nat) (sb gb : Bool) (oz : Int), k ≤ l.length ∧ sw = .bool sb ∧ gw = .bool gb ∧ ow = .int .i64 oz ∧ j = .int .i64 k ∧ (sb = decide (0 < cnB (L.take k)) ∧ gb = decide (cnB (L.take k) < k) ∧ oz = if gapB (L.take k) then 1 else old) ∧ W = wr) (fun _ _ _ j _ => l.length - (intOf j).toNat)
 case atStart => exact ⟨0, false, false, old, Nat.zero_le _, rfl, rfl, rfl, rfl, ⟨rfl, rfl, rfl⟩, rfl⟩
 case round =>
   obtain ⟨k, sb, gb, oz, hk, rfl, rfl, rfl, rfl, hs, rfl⟩ := hrel
   have HS := Lib.hid hs
   clear hs
   by_cases hkl : k < l.length
   · obtain ⟨b1, off1, rfl, hb1, zq⟩ := zsD_at ra hbA hkl
     obtain ⟨x, hx, hxn, hxV⟩ := HV.out k hkl
     rw [hx] at zq
     obtain ⟨bv, offv, rfl, hbv, cx⟩ := rv.later hbA hxn
     have HC := Lib.hid (cnB_take (l := L) (k := k) (by omega))
     have HG := Lib.hid (gapB_take (l := L) (k := k) (by omega))
     have HLE : Hid (cnB (L.take k) ≤ k) := by
       have := cnB_le (L.take k)
       rw [List.length_take] at this
       show _ ≤ _
       omega
     rw [hxV] at HC HG
     clear hxV hx
     cases hvx : V x
     · rw [hvx] at cx HC HG
       have HN : Hid (sb = decide (0 < cnB (L.take (k + 1))) ∧ true = decide (cnB (L.take (k + 1)) < k + 1) ∧ oz = if gapB (L.take (k + 1)) then 1 else old) := by
         obtain ⟨h1, h2, h3⟩ := HS.out
         refine ⟨?_, ?_, ?_⟩
         · rw [h1, HC.out]; rfl
         · rw [HC.out]
           have := HLE.out
           simp; omega
         · rw [h3, HG.out]; simp
       clear HS HC HG HLE hvx
       go_wp2
       go_roundw
       case rel => exact ⟨k + 1, sb, true, oz, by omega, rfl, rfl, rfl, by go_num, HN.out, (by first | trivial | rfl)⟩
       case measure => simp [intOf]; omega
     · rw [hvx] at cx HC HG
       cases gb
       · have HN : Hid (true = decide (0 < cnB (L.take (k + 1))) ∧ false = decide (cnB (L.take (k + 1)) < k + 1) ∧ oz = if gapB (L.take (k + 1)) then 1 else old) := by
           obtain ⟨h1, h2, h3⟩ := HS.out
           have h4 : ¬ cnB (L.take k) < k := by simpa using h2.symm
           refine ⟨?_, ?_, ?_⟩
           · rw [HC.out]; simp
           · rw [HC.out]; simp; omega
           · rw [h3, HG.out]; simp [h4]
         clear HS HC HG HLE hvx
         go_wp2
         go_roundw
         case rel => exact ⟨k + 1, true, false, oz, by omega, rfl, rfl, rfl, by go_num, HN.out, (by first | trivial | rfl)⟩
         case measure => simp [intOf]; omega
       · have HN : Hid (true = decide (0 < cnB (L.take (k + 1))) ∧ true = decide (cnB (L.take (k + 1)) < k + 1) ∧ (1 : Int) = if gapB (L.take (k + 1)) then 1 else old) := by
           obtain ⟨h1, h2, h3⟩ := HS.out
           have h4 : cnB (L.take k) < k := by simpa using h2.symm
           refine ⟨?_, ?_, ?_⟩
           · rw [HC.out]; simp
           · rw [HC.out]; simp; omega
           · rw [HG.out]; simp [h4]
         clear HS HC HG HLE hvx
         go_wp2
         go_roundw
         case rel => exact ⟨k + 1, true, true, 1, by omega, rfl, rfl, rfl, by go_num, HN.out, (by first | trivial | rfl)⟩
         case measure => simp [intOf]; omega
   · have HR : Hid (dyBrk L old = if sb then oz else 0) := by
       obtain ⟨h1, h2, h3⟩ := HS.out
       rw [List.take_of_length_le (by omega)] at h1 h3
       show _ = _
       unfold dyBrk
       rw [h1, h3]
       by_cases h0 : cnB L = 0
       · simp [h0]
       · have : 0 < cnB L := by omega
         simp [h0, this]
     clear HS
     cases sb
     · go_wp2
       go_returns
       exact ⟨by rw [HR.out]; rfl, hbA⟩
     · go_wp2
       go_returns
       exact ⟨by rw [HR.out]; rfl, hbA⟩
/-- the closure of active -/
theorem dact1_any {W : World} {x a : Nat} (hx : W.cell? ⟨x, 0, none⟩ = some (.slice Av nv cv)) (rv : RdV W Av nv V) (ha : a < nv) :
   Calls Tryz.prog 162 #[.int .i64 (a : Int), .pointer (some ⟨x, 0, none⟩)] W fun e w' => e = .returned (.bool (!V a)) ∧ Below W.heap.size W w' := by
 obtain ⟨bv, offv, rfl, hbv, cx⟩ := rv.at_ ha
 generalize V a = b at *
 have i1 : (0 : Int) ≤ (a : Int) := by omega
 have i2 : (a : Int) < (nv : Int) := by omega
 clear rv
 go_enter Tryz.func162, Tryz.ntmps162
 go_wp2
 go_returns
 exact ⟨rfl, Below.refl _ _⟩
theorem dindex_any {x : Nat} (ra : Rds w w.heap.size 1 A1 l.length (zsD l)) (hx : w.cell? ⟨x, 0, none⟩ = some (.slice Av nv cv)) (rv : RdV w Av nv V) (har : ∀ a, a ∈ l → 0 ≤ a ∧ a < nv) (h16 : l.length ≤ 16) :
   Calls Tryz.prog 161 #[.slice A1 l.length c1, .func (.func 162) #[] #[.pointer (some ⟨x, 0, none⟩)]] w fun e w' => e = .returned (.int .i64 (firF ((l.map Int.toNat).map V))) ∧ Below w.heap.size w w' := by
 obtain ⟨L, hL⟩ : ∃ L, L = (l.map Int.toNat).map V := ⟨_, rfl⟩
 have hLl : L.length = l.length := by rw [hL]; exact dy_len l V
 have HV : Hid (∀ k (hk : k < l.length), ∃ x : Nat, l[k] = x ∧ x < nv ∧ L[k]'(by omega) = V x) := fun k hk => by
   have h2 := har _ (List.getElem_mem hk)
   refine ⟨l[k].toNat, by omega, by omega, ?_⟩
   subst hL
   exact mapV hk h2.1
 have K1 : Hid (∀ W, Below w.heap.size w W → ∀ a, a < nv → Calls Tryz.prog 162 #[.int .i64 (a : Int), .pointer (some ⟨x, 0, none⟩)] W fun e w' => e = .returned (.bool (!V a)) ∧ Below W.heap.size W w') := fun W hb a ha =>
   dact1_any ((below_at hb x 0 (lt_of_cell hx)).trans hx) (rv.below hb) ha
 rw [← hL]
 clear hL har hx rv
 go_enter Tryz.func161, Tryz.ntmps161
 go_wp2
 go_loopw [8] (fun i wr => ∃ k : Nat, k ≤ l.length ∧ i = .int .i64 (k : Int) ∧ (∀ j (hj : j < L.length), j < k → L[j] = true) ∧ Below w.heap.size w wr) (fun i _ => l.length - (intOf i).toNat)
 case atStart => exact ⟨0, Nat.zero_le _, rfl, fun j hj h0 => by omega, Below.refl _ _⟩
 case round =>
   obtain ⟨k, hk, rfl, hv, hb⟩ := hrel
   have HW := Lib.hid hv
   clear hv
   have hbz := hb.size
   by_cases hlt : k < l.length
   · obtain ⟨b1, off1, rfl, hb1, zq⟩ := zsD_at ra hb hlt
     obtain ⟨y, hy, hyn, hyV⟩ := HV.out k hlt
     rw [hy] at zq
     have K := Lib.hid (fun W (hb' : Below wr.heap.size wr W) => K1.out W (hb.trans (hb'.mono hbz)) y hyn)
     have HK : Hid (L[k]'(by omega) = V y) := hyV
     clear hyV hy
     have hk0 : (0 : Int) ≤ (k : Int) := by omega
     have hki : (k : Int) < (l.length : Int) := by omega
     cases hv : V y
     · have HN : Hid (firF L = (k : Int)) := firF_at (by omega) (fun j hj hjk => HW.out j hj hjk) (by rw [HK.out, hv])
       rw [hv] at K
       clear hv HK HW
       (go_wp2_with fail; (with_reducible refine (K.out _ (by (skip); repeat' (first | (with_reducible first | exact BlR _ _ | assumption | refine BlA ?_ ?_ _ | refine BlD ?_ | refine BlN ?_ _ | refine BlS ?_ ?_ _ | refine BlT ?_ (BlM (by assumption) ?_)) | omega | (simp only [ZZ]; omega) | go_size))).mono ?_); rintro e w2 ⟨rfl, hb2⟩; have hb2z := Below.size hb2; (try simp only [ZZ] at hb2z))
       go_wp2
       go_ret
       exact ⟨by rw [HN.out]; rfl, hb.trans (by have z0 := Below.size hb2; (try simp only [ZZ] at z0 ⊢; skip); repeat' (first | (with_reducible first | exact BlR _ _ | assumption | refine BlA ?_ ?_ _ | refine BlD ?_ | refine BlN ?_ _ | refine BlS ?_ ?_ _ | refine BlT ?_ (BlM (by assumption) ?_)) | omega | (simp only [ZZ]; omega) | go_size))⟩
     · have HN : Hid (∀ j (hj : j < L.length), j < k + 1 → L[j] = true) := fun j hj hjk => by
         rcases Nat.lt_or_ge j k with h | h
         · exact HW.out j hj h
         · have : j = k := by omega
           subst this
           rw [HK.out, hv]
       rw [hv] at K
       clear hv HK HW
       (go_wp2_with fail; (with_reducible refine (K.out _ (by (skip); repeat' (first | (with_reducible first | exact BlR _ _ | assumption | refine BlA ?_ ?_ _ | refine BlD ?_ | refine BlN ?_ _ | refine BlS ?_ ?_ _ | refine BlT ?_ (BlM (by assumption) ?_)) | omega | (simp only [ZZ]; omega) | go_size))).mono ?_); rintro e w2 ⟨rfl, hb2⟩; have hb2z := Below.size hb2; (try simp only [ZZ] at hb2z))
       go_wp2
       go_roundw
       case rel => exact ⟨k + 1, by omega, by go_num, HN.out, hb.trans (by have z0 := Below.size hb2; (try simp only [ZZ] at z0 ⊢; skip); repeat' (first | (with_reducible first | exact BlR _ _ | assumption | refine BlA ?_ ?_ _ | refine BlD ?_ | refine BlN ?_ _ | refine BlS ?_ ?_ _ | refine BlT ?_ (BlM (by assumption) ?_)) | omega | (simp only [ZZ]; omega) | go_size))⟩
       case measure => simp [intOf]; omega
   · have HN : Hid (firF L = -1) := firF_none fun j hj => HW.out j hj (by omega)
     clear HW
     go_wp2
     go_ret
     exact ⟨by rw [HN.out]; rfl, hb⟩
theorem dactive_any (ra : Rds w w.heap.size 1 A1 l.length (zsD l)) (rv : RdV w Av nv V) (har : ∀ a, a ∈ l → 0 ≤ a ∧ a < nv) (h16 : l.length ≤ 16) (hold : old < l.length) :
   Calls Tryz.prog 143 #[gv kd kk A1 l.length c1 s A2 n2 c2 A3 n3 c3, .slice Av nv cv, .int .i64 old] w fun e w' => e = .returned (.int .i64 (dyAct ((l.map Int.toNat).map V) old)) ∧ Below w.heap.size w w' := by
 have KI := Lib.hid (fun W (hb : Below w.heap.size w W) x (hx : W.cell? ⟨x, 0, none⟩ = some (.slice Av nv cv)) => dindex_any (w := W) (c1 := c1) (V := V) (ra.on hb hb.size) hx (rv.below hb) har h16)
 obtain ⟨L, hL⟩ : ∃ L, L = (l.map Int.toNat).map V := ⟨_, rfl⟩
 rw [← hL] at KI ⊢
 have hLl : L.length = l.length := by rw [hL]; exact dy_len l V
 have z0 : (((w.alloc (.cells #[.int .i64 kd, .int .i64 kk, .slice A1 l.length c1, .bool s, .slice A2 n2 c2, .slice A3 n3 c3] 88)).alloc (.cells #[.slice Av nv cv] 30))).cell? ⟨w.heap.size, 2, none⟩ = some (.slice A1 l.length c1) := by simp [go_sem]
 have z1 : (((w.alloc (.cells #[.int .i64 kd, .int .i64 kk, .slice A1 l.length c1, .bool s, .slice A2 n2 c2, .slice A3 n3 c3] 88)).alloc (.cells #[.slice Av nv cv] 30))).cell? ⟨w.heap.size + 1, 0, none⟩ = some (.slice Av nv cv) := by simp [go_sem]
 have hbA : Below w.heap.size w (((w.alloc (.cells #[.int .i64 kd, .int .i64 kk, .slice A1 l.length c1, .bool s, .slice A2 n2 c2, .slice A3 n3 c3] 88)).alloc (.cells #[.slice Av nv cv] 30))) := (by (skip); repeat' (first | (with_reducible first | exact BlR _ _ | assumption | refine BlA ?_ ?_ _ | refine BlD ?_ | refine BlN ?_ _ | refine BlS ?_ ?_ _ | refine BlT ?_ (BlM (by assumption) ?_)) | omega | (simp only [ZZ]; omega) | go_size))
 have hsz : w.heap.size + 1 < (((w.alloc (.cells #[.int .i64 kd, .int .i64 kk, .slice A1 l.length c1, .bool s, .slice A2 n2 c2, .slice A3 n3 c3] 88)).alloc (.cells #[.slice Av nv cv] 30))).heap.size := by simp
 by_cases h0 : 0 ≤ old
 · obtain ⟨o, rfl⟩ : ∃ o : Nat, old = o := ⟨old.toNat, by omega⟩
   have hol : o < l.length := by omega
   have h2 := har _ (List.getElem_mem hol)
   obtain ⟨x, hx⟩ : ∃ x : Nat, l[o] = x := ⟨l[o].toNat, by omega⟩
   have hxn : x < nv := by omega
   have HX : Hid (L.getD o true = V x) := by
     show _ = _
     rw [List.getD_eq_getElem?_getD, List.getElem?_eq_getElem (by omega)]
     subst hL
     show ((l.map Int.toNat).map V)[o]'(by simpa using hol) = _
     rw [mapV hol h2.1, hx]; rfl
   obtain ⟨b1, off1, rfl, hb1, zq⟩ := zsD_at ra hbA hol
   obtain ⟨bv, offv, rfl, hbv, cx⟩ := rv.later hbA hxn
   rw [hx] at zq
   have i1 : (0 : Int) ≤ (o : Int) := by omega
   have i2 : (o : Int) < (l.length : Int) := by omega
   have i3 : (0 : Int) ≤ (x : Int) := by omega
   have i4 : (x : Int) < (nv : Int) := by omega
   have e0 : decide ((0 : Int) ≤ (o : Int)) = true := by simp
   obtain ⟨W, hW⟩ : ∃ W, W = (((w.alloc (.cells #[.int .i64 kd, .int .i64 kk, .slice (some ⟨b1, off1, none⟩) l.length c1, .bool s, .slice A2 n2 c2, .slice A3 n3 c3] 88)).alloc (.cells #[.slice (some ⟨bv, offv, none⟩) nv cv] 30))) := ⟨_, rfl⟩
   have HWW := Lib.hid hW
   rw [← hW] at zq cx z0 z1 hbA hsz
   clear hW hL har h2 hx ra rv
   have f0 := fun y : Sub W => y.cell z0
   have f1 := fun y : Sub W => y.cell z1
   have f2 := fun y : Sub W => y.cell zq
   have f3 := fun y : Sub W => y.cell cx
   cases hv : V x
   · have HR : Hid (dyAct L (o : Int) = (o : Int)) := by
       show _ = _
       unfold dyAct
       rw [if_pos ⟨by omega, by rw [show (o : Int).toNat = o from by omega, HX.out, hv]⟩]
     rw [hv] at cx f3
     clear hv HX
     go_enter Tryz.func143, Tryz.ntmps143
     go_wp2
     rw [← HWW.out]
     ((refine wp_region_quiet_bel (by kernel_rfl) (by kernel_rfl) ?_); (repeat (go_big_quiet_step (fail))); (refine wpQuiet_nil ?_); rintro w3 ⟨⟨_, hb3⟩, rfl⟩; (try dsimp only))
     go_wp2
     go_returns
     exact ⟨by rw [HR.out]; rfl, (by have z0 := Below.size hbA; have z1 := Below.size hb3; (try simp only [ZZ] at z0 z1 ⊢; skip); repeat' (first | (with_reducible first | exact BlR _ _ | assumption | refine BlA ?_ ?_ _ | refine BlD ?_ | refine BlN ?_ _ | refine BlS ?_ ?_ _ | refine BlT ?_ (BlM (by assumption) ?_)) | omega | (simp only [ZZ]; omega) | go_size))⟩
   · have HR : Hid (dyAct L (o : Int) = firF L) := by
       show _ = _
       unfold dyAct
       rw [if_neg (fun h => by have := h.2; rw [show (o : Int).toNat = o from by omega, HX.out, hv] at this; simp at this)]
     rw [hv] at cx f3
     clear hv HX
     go_enter Tryz.func143, Tryz.ntmps143
     go_wp2
     rw [← HWW.out]
     ((refine wp_region_quiet_bel (by kernel_rfl) (by kernel_rfl) ?_); (repeat (go_big_quiet_step (fail))); (refine wpQuiet_nil ?_); rintro w3 ⟨⟨_, hb3⟩, rfl⟩; (try dsimp only))
     have y0 := (below_at hb3 w.heap.size 2 (by omega)).trans z0
     have y1 := (below_at hb3 (w.heap.size + 1) 0 hsz).trans z1
     have K := Lib.hid (KI.out w3 (by have z0 := Below.size hbA; have z1 := Below.size hb3; (try simp only [ZZ] at z0 z1 ⊢; skip); repeat' (first | (with_reducible first | exact BlR _ _ | assumption | refine BlA ?_ ?_ _ | refine BlD ?_ | refine BlN ?_ _ | refine BlS ?_ ?_ _ | refine BlT ?_ (BlM (by assumption) ?_)) | omega | (simp only [ZZ]; omega) | go_size)) _ y1)
     clear f0 f1 f2 f3 KI
     go_wp2_with fail
     refine K.out.mono ?_
     rintro e w4 ⟨rfl, hb4⟩
     go_wp2_with fail
     go_returns
     exact ⟨by rw [HR.out]; rfl, (by have z0 := Below.size hbA; have z1 := Below.size hb3; have z2 := Below.size hb4; (try simp only [ZZ] at z0 z1 z2 ⊢; skip); repeat' (first | (with_reducible first | exact BlR _ _ | assumption | refine BlA ?_ ?_ _ | refine BlD ?_ | refine BlN ?_ _ | refine BlS ?_ ?_ _ | refine BlT ?_ (BlM (by assumption) ?_)) | omega | (simp only [ZZ]; omega) | go_size))⟩
 · have e0 : decide ((0 : Int) ≤ old) = false := by simpa using h0
   have HR : Hid (dyAct L old = firF L) := by
     show _ = _
     unfold dyAct
     rw [if_neg (fun h => h0 h.1)]
   obtain ⟨W, hW⟩ : ∃ W, W = (((w.alloc (.cells #[.int .i64 kd, .int .i64 kk, .slice A1 l.length c1, .bool s, .slice A2 n2 c2, .slice A3 n3 c3] 88)).alloc (.cells #[.slice Av nv cv] 30))) := ⟨_, rfl⟩
   have HWW := Lib.hid hW
   rw [← hW] at z0 z1 hbA hsz
   clear hW hL har ra rv
   go_enter Tryz.func143, Tryz.ntmps143
   go_wp2
   rw [← HWW.out]
   ((refine wp_region_quiet_bel (by kernel_rfl) (by kernel_rfl) ?_); (repeat (go_big_quiet_step (fail))); (refine wpQuiet_nil ?_); rintro w3 ⟨⟨_, hb3⟩, rfl⟩; (try dsimp only))
   have y0 := (below_at hb3 w.heap.size 2 (by omega)).trans z0
   have y1 := (below_at hb3 (w.heap.size + 1) 0 hsz).trans z1
   have K := Lib.hid (KI.out w3 (by have z0 := Below.size hbA; have z1 := Below.size hb3; (try simp only [ZZ] at z0 z1 ⊢; skip); repeat' (first | (with_reducible first | exact BlR _ _ | assumption | refine BlA ?_ ?_ _ | refine BlD ?_ | refine BlN ?_ _ | refine BlS ?_ ?_ _ | refine BlT ?_ (BlM (by assumption) ?_)) | omega | (simp only [ZZ]; omega) | go_size)) _ y1)
   clear KI
   go_wp2_with fail
   refine K.out.mono ?_
   rintro e w4 ⟨rfl, hb4⟩
   go_wp2_with fail
   go_returns
   exact ⟨by rw [HR.out]; rfl, (by have z0 := Below.size hbA; have z1 := Below.size hb3; have z2 := Below.size hb4; (try simp only [ZZ] at z0 z1 z2 ⊢; skip); repeat' (first | (with_reducible first | exact BlR _ _ | assumption | refine BlA ?_ ?_ _ | refine BlD ?_ | refine BlN ?_ _ | refine BlS ?_ ?_ _ | refine BlT ?_ (BlM (by assumption) ?_)) | omega | (simp only [ZZ]; omega) | go_size))⟩
end
end Go.Proofs.YtoiopnmphbnjaaaGreatDoor
namespace Go.Proofs.YtoiopnmphbnjaaaGreatDoor
open Go.RowKit
set_option linter.unusedSimpArgs false
set_option linter.unusedVariables false
set_option maxRecDepth 20000
/-! ## two own rows, of bools and of ints, that grow by turns -/
section
variable {w w' : World} {b0 m s : Nat} {v u : Value} {ty tz : TypeId} {l : List Value}
theorem oT {v : Value} (h : w.ownsRow b0 ty s v m l) : ∀ k, v.ownBlock = some k → b0 ≤ k ∧ ∃ cur, w.heap[k]? = some (.cells cur ty (0, 0)) := by
 intro k hk
 rcases h.2 with ⟨h, _⟩ | ⟨g', cap, cur, e, hb, hg, _⟩
 · rw [h] at hk; cases hk
 · rw [e] at hk
   injection hk with hk
   subst hk
   exact ⟨hb, cur, hg⟩
theorem oK {v u : Value} {l' : List Value} {b1 m' s' : Nat} (h : w.ownsRow b0 ty s v m l) (hg : w.grownBy w' u.ownBlock) (hu : w.ownsRow b1 tz s' u m' l') (hne : ty ≠ tz) : w'.ownsRow b0 ty s v m l := by
 refine World.ownsRow.kept h hg ?_
 cases e : v.ownBlock with
 | none => exact .inl rfl
 | some k =>
   refine .inr fun e2 => ?_
   obtain ⟨_, cur, h1⟩ := oT h k e
   obtain ⟨_, cur', h2⟩ := oT hu k e2.symm
   rw [h1] at h2
   injection h2 with h2
   injection h2 with _ h2 _
   exact hne h2
end
theorem tyVJ : 4 ≠ 3 := by decide
section
variable {w w' : World} {base b1 c n d m : Nat} {A B : Option Addr} {f : Nat → Bool} {p : Nat → Int}
theorem OwVb.keepJ (h : OwVb w base A c n f) (hg : w.grownBy w' (Value.slice B m d).ownBlock) (hu : OwJ w b1 B d m p) : OwVb w' base A c n f := oK h hg hu tyVJ
theorem OwJ.keepV (h : OwJ w base A c n p) (hg : w.grownBy w' (Value.slice B m d).ownBlock) (hu : OwVb w b1 B d m f) : OwJ w' base A c n p := oK h hg hu tyVJ.symm
theorem OwVb.gr (h : OwVb w base A c n f) (hg : w.grownBy w' (Value.slice A n c).ownBlock) (hb : base ≤ w.heap.size) : Below base w w' := (Below.refl _ _).grown hg hb fun k hk => (World.ownsRow.lt h k hk).1
theorem OwJ.gr (h : OwJ w base A c n p) (hg : w.grownBy w' (Value.slice A n c).ownBlock) (hb : base ≤ w.heap.size) : Below base w w' := (Below.refl _ _).grown hg hb fun k hk => (World.ownsRow.lt h k hk).1
/-- append, with the block that grows -/
theorem wpList_appVg {ops : Array Oper} {rest : List Oper} {o : Oper} {a : Act} {Q : Exit → Act → World → Prop} (hgd : o.guard = none) (s x : Operand)
   (ho : o.op = .call { callee := .builtin .append, args := #[s, x], argTypes := #[30, 30] })
   (b0 : Nat) (A : Option Addr) (c n : Nat) (f : Nat → Bool) (hs : a.eval s = .slice A n c) (hown : OwVb w b0 A c n f)
   (B : Nat) (v : Bool) (hx : a.eval x = .slice (some ⟨B, 0, none⟩) 1 1) (hc0 : w.cell? ⟨B, 0, none⟩ = some (.bool v))
   (hn : n ≤ 1000000) (hbase : b0 ≤ w.heap.size)
   (h : ∀ g cap w', OwVb w' b0 (some ⟨g, 0, none⟩) cap (n + 1) (fun j => if j = n then v else f j) → w.grownBy w' (Value.slice A n c).ownBlock → g < w'.heap.size → wpList Tryz.prog ops Q rest (a.put o.dst (.slice (some ⟨g, 0, none⟩) (n + 1) cap)) w') : wpList Tryz.prog ops Q (o :: rest) a w := by
 obtain ⟨i0, hi0, hz0, hz1, hz2⟩ := info_parts infoV
 refine wpList_append_lies _ hgd s x 30 ho b0 4 i0 _ 1 1 Tryz.underlying30 hi0 hz0 hz1 hz2 rfl (by omega) _ n _ hs hown ⟨B, 0, none⟩ 1 1 [.bool v] hx rfl ?_ ?_ (by omega) (by unfold maxLen; omega) (by omega) hbase w.heap.size rfl ?_
 · intro j u hu
   rw [addr_add, Nat.zero_add]
   match j, hu with
   | 0, hu => simp at hu; subst hu; exact hc0
   | j + 1, hu => simp at hu
 · intro u hu
   simp at hu
   subst hu; rfl
 · intro g cap w' h1 h2 h3 h4
   refine h g cap w' ?_ h2 h4
   unfold OwVb
   rw [bvl_succ, bvl_congr (g := f) (fun j hj => by rw [if_neg (by omega)])]
   simpa using h1
theorem wpList_appJg {ops : Array Oper} {rest : List Oper} {o : Oper} {a : Act} {Q : Exit → Act → World → Prop} (hgd : o.guard = none) (s x : Operand)
   (ho : o.op = .call { callee := .builtin .append, args := #[s, x], argTypes := #[43, 43] })
   (b0 : Nat) (A : Option Addr) (c n : Nat) (f : Nat → Int) (hs : a.eval s = .slice A n c) (hown : OwJ w b0 A c n f)
   (B : Nat) (v : Int) (hx : a.eval x = .slice (some ⟨B, 0, none⟩) 1 1) (hc0 : w.cell? ⟨B, 0, none⟩ = some (.int .i64 v))
   (hn : n ≤ 1000000) (hbase : b0 ≤ w.heap.size)
   (h : ∀ g cap w', OwJ w' b0 (some ⟨g, 0, none⟩) cap (n + 1) (fun j => if j = n then v else f j) → w.grownBy w' (Value.slice A n c).ownBlock → g < w'.heap.size → wpList Tryz.prog ops Q rest (a.put o.dst (.slice (some ⟨g, 0, none⟩) (n + 1) cap)) w') : wpList Tryz.prog ops Q (o :: rest) a w := by
 obtain ⟨i0, hi0, hz0, hz1, hz2⟩ := info_parts infoJ
 refine wpList_append_lies _ hgd s x 43 ho b0 3 i0 _ 1 8 Tryz.underlying43 hi0 hz0 hz1 hz2 rfl (by omega) _ n _ hs hown ⟨B, 0, none⟩ 1 1 [.int .i64 v] hx rfl ?_ ?_ (by omega) (by unfold maxLen; omega) (by omega) hbase w.heap.size rfl ?_
 · intro j u hu
   rw [addr_add, Nat.zero_add]
   match j, hu with
   | 0, hu => simp at hu; subst hu; exact hc0
   | j + 1, hu => simp at hu
 · intro u hu
   simp at hu
   subst hu; rfl
 · intro g cap w' h1 h2 h3 h4
   refine h g cap w' ?_ h2 h4
   unfold OwJ
   rw [ivl_succ, ivl_congr (g := f) (fun j hj => by rw [if_neg (by omega)])]
   simpa using h1
end
end Go.Proofs.YtoiopnmphbnjaaaGreatDoor
namespace Go.Proofs.YtoiopnmphbnjaaaGreatDoor
open Go.RowKit
set_option linter.unusedSimpArgs false
set_option linter.unusedVariables false
set_option maxRecDepth 20000
/-! ## package dynamic: events -/
section
variable {w : World} {AG AF AR : Option Addr} {cg cf cr nf nr : Nat} {top : Int}
theorem devents_any {F v nn : Nat} (v24 : v ≤ 24) (n64 : nn ≤ 64) (hF : F < 16777216) :
   Calls Tryz.prog 105 #[.agg #[.int .i64 (v : Int), .slice AG nn cg, .int .i64 top, .slice AF nf cf, .slice AR nr cr], .int .i64 (F : Int)] w fun e w' => (∃ g, e = .returned (.slice (some ⟨g, 0, none⟩) v (v + nn)) ∧ OwVb w' w.heap.size (some ⟨g, 0, none⟩) (v + nn) v (fun a => F.testBit a)) ∧ Below w.heap.size w w' := by
 have e1 : IntKind.i64.wrap ((v : Int) + (nn : Int)) = (((v + nn : Nat)) : Int) := by rw [IntKind.wrap_i64]; omega
 go_enter Tryz.func105, Tryz.ntmps105
 go_wp2_with (first | (at_make; refine wpList_makeVc rfl (.tmp 8) (.tmp 14) rfl (w.heap.size + 1) v (v + nn) (v : Int) ((v + nn : Nat) : Int) (by first | rfl | simp [Act.eval]) (by first | rfl | simp [Act.eval]) rfl rfl (by omega) (by omega) (by simp) ?_; intro w1 own1 hb1) | fail)
 have hbA : Below w.heap.size w w1 := (by have z0 := Below.size hb1; (try simp only [ZZ] at z0 ⊢; skip); repeat' (first | (with_reducible first | exact BlR _ _ | assumption | refine BlA ?_ ?_ _ | refine BlD ?_ | refine BlN ?_ _ | refine BlS ?_ ?_ _ | refine BlT ?_ (BlM (by assumption) ?_)) | omega | (simp only [ZZ]; omega) | go_size))
 have hz1 := hb1.size
 simp only [World.size_alloc] at hz1 own1
 clear hb1
 go_loopw [18] (fun i wr => ∃ k : Nat, k ≤ v ∧ i = .int .i64 k ∧ OwVb wr (w.heap.size + 1) (some ⟨w.heap.size + 1, 0, none⟩) (v + nn) v (fun a => decide (a < k) && F.testBit a) ∧ Below w.heap.size w wr ∧ w.heap.size + 1 ≤ wr.heap.size) (fun i _ => v - (intOf i).toNat)
 case atStart => exact ⟨0, Nat.zero_le _, rfl, own1.congr fun j _ => by simp, hbA, hz1⟩
 case round =>
   obtain ⟨k, hk, rfl, own, hb, hz⟩ := hrel
   clear own1 hbA hz1
   obtain ⟨wo, rfl⟩ : ∃ wo : World, wo = wr := ⟨_, rfl⟩
   by_cases hkv : k < v
   · have s1 := yshr F k
     have hq : F / 2 ^ k < 16777216 := Nat.lt_of_le_of_lt (Nat.div_le_self _ _) hF
     have s2 : bits .and .i64 ((F / 2 ^ k : Nat) : Int) 1 = ((F / 2 ^ k % 2 : Nat) : Int) := yand1 (by omega)
     have s3 : ((((F / 2 ^ k % 2 : Nat)) : Int) == 1) = F.testBit k := by
       rw [ybit]
       cases F.testBit k <;> rfl
     obtain ⟨st, sg⟩ := own.set k (F.testBit k)
     have hnew := st.congr (f' := fun a => decide (a < k + 1) && F.testBit a) fun j hj => by
       by_cases e : j = k
       · subst e; simp
       · have : decide (j < k + 1) = decide (j < k) := by rw [decide_eq_decide]; omega
         simp [e, this]
     have c1 := own.at_ hkv
     have fr := own.frozen k
     have HN := Lib.hid hnew
     clear hnew st sg own
     generalize F.testBit k = bb at *
     generalize F / 2 ^ k % 2 = r2 at *
     generalize F / 2 ^ k = r1 at *
     go_wp2
     go_roundw
     case rel => exact ⟨k + 1, by omega, by go_num, HN.out, Below.setCell hb (p := ⟨w.heap.size + 1, _, none⟩) (by simp) _, by simp; omega⟩
     case measure => simp [intOf]; omega
   · have own0 : OwVb wo (w.heap.size + 1) (some ⟨w.heap.size + 1, 0, none⟩) (v + nn) v (fun a => F.testBit a) := own.congr fun j hj => by
       have : decide (j < k) = true := by simp; omega
       rw [this]; rfl
     clear own
     go_wp2
     go_ret
     exact ⟨⟨_, rfl, own0.base_ (by omega)⟩, hb⟩
end
end Go.Proofs.YtoiopnmphbnjaaaGreatDoor
