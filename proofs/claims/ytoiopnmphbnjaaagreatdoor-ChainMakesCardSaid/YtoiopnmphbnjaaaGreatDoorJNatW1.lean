/- Contracts and lemmas for the given statements. Conditions: those alone that each names. -/
import Derived.Test.YtoiopnmphbnjaaaGreatDoorNatDef
set_option maxHeartbeats 4000000
namespace Go.Proofs.YtoiopnmphbnjaaaGreatDoor
open Go.RowKit
set_option linter.unusedSimpArgs false
set_option linter.unusedVariables false
set_option maxRecDepth 20000
attribute [local irreducible] nv
/-! ## word, trim -/
theorem word_in (A : Option Addr) (l : List Nat) (n c i : Nat) (w : World) (hl : l.length = n) (hn : n ≤ 1099511627776) (hW : W32 l) (h : RdW w w.heap.size A l) (hi : i < n) :
   Calls Tryz.prog 116 #[.slice A n c, .int .i64 (i : Int)] w fun e w' => e = .returned (.int .u64 (l.getD i 0 : Nat)) ∧ w = w' := by
 subst hl
 have hg : Hid (l.getD i 0 = l[i]) := getD_of_lt hi
 rw [hg.out]
 obtain ⟨b, off, rfl, hb, hc⟩ := h.at_ hi
 have hx := hW.at_ hi
 generalize l[i] = x at *
 clear hg
 go_enter Tryz.func116, Tryz.ntmps116
 go_wp2
 go_ret
 exact ⟨rfl, rfl⟩
theorem word_out (A : Option Addr) (n c i : Nat) (w : World) (hn : n ≤ 1099511627776) (hi : ¬ i < n) :
   Calls Tryz.prog 116 #[.slice A n c, .int .i64 (i : Int)] w fun e w' => e = .returned (.int .u64 0) ∧ w = w' := by
 go_enter Tryz.func116, Tryz.ntmps116
 go_wp2
 go_ret
 exact ⟨rfl, rfl⟩
/-- word i, 0 beyond the end -/
theorem word_any (A : Option Addr) (l : List Nat) (n c i : Nat) (w : World) (hl : l.length = n) (hn : n ≤ 1099511627776) (hW : W32 l) (h : RdW w w.heap.size A l) :
   Calls Tryz.prog 116 #[.slice A n c, .int .i64 (i : Int)] w fun e w' => e = .returned (.int .u64 (l.getD i 0 : Nat)) ∧ w = w' := by
 by_cases hi : i < n
 · exact word_in A l n c i w hl hn hW h hi
 · rw [getD_of_ge (by omega)]
   exact word_out A n c i w hn hi
theorem trim_any (A : Option Addr) (l : List Nat) (n c : Nat) (w : World) (hl : l.length = n) (hn : n ≤ 1099511627776) (hcap : n ≤ c) (hW : W32 l) (h : RdW w w.heap.size A l) :
   Calls Tryz.prog 113 #[.slice A n c] w fun e w' => ∃ A' c', e = .returned (.slice A' (dig (nv l)).length c') ∧ OwW w' w.heap.size A' c' (dig (nv l)) ∧ Below w.heap.size w w' := by
 subst hl
 have HW := Lib.hid hW
 go_enter Tryz.func113, Tryz.ntmps113
 go_wp2
 go_loop [3] (fun t => ∃ m : Nat, m ≤ l.length ∧ t = .int .i64 m ∧ (∀ i, m ≤ i → l.getD i 0 = 0)) (fun t => (intOf t).toNat)
 case atStart => exact ⟨l.length, Nat.le_refl _, rfl, fun i hi => getD_of_ge hi⟩
 case round =>
   obtain ⟨m, hm, rfl, hz⟩ := hrel
   have HZ := Lib.hid hz
   clear hz
   by_cases hm0 : m = 0
   · subst hm0
     have HE : Hid (dig (nv l) = []) := by
       show dig (nv l) = []
       rw [dig_trim HW.out (k := 0) (Nat.zero_le _) HZ.out (.inl rfl)]; rfl
     go_wp2
     go_ret
     rw [HE.out]
     exact ⟨none, 0, rfl, OwW.nil_ _ _, Below.refl _ _⟩
   · have hlt : m - 1 < l.length := by omega
     obtain ⟨b, off, rfl, hb, hc⟩ := h.at_ hlt
     have hx := hW.at_ hlt
     have HG := Lib.hid (getD_of_lt hlt)
     by_cases hx0 : l[m - 1] = 0
     · have HN : Hid (∀ i, m - 1 ≤ i → l.getD i 0 = 0) := by
         intro i hi
         by_cases e : i = m - 1
         · rw [e, HG.out, hx0]
         · exact HZ.out i (by omega)
       rw [hx0] at hc
       clear hx0 hx HG
       go_wp2
       go_round
       case rel => exact ⟨m - 1, by omega, by go_num, HN.out⟩
       case measure => simp [intOf]; omega
     · have HE : Hid (dig (nv l) = l.take m) := dig_trim HW.out hm HZ.out (.inr (by rw [HG.out]; exact hx0))
       have hx1 : (((l[m - 1] : Nat) : Int) == 0) = false := by simpa using hx0
       have hml : (l.take m).length = m := by rw [List.length_take]; omega
       have HL := Lib.hid hml
       generalize l[m - 1] = x at *
       clear hx0 HG hml
       have hm1 : ((m : Int) == 0) = false := by simpa using hm0
       go_wp2_with (at_builtin; refine wpList_appW rfl (.tmp 20) (.tmp 23) rfl w.heap.size (some ⟨w.heap.size, 0, none⟩) 0 0 [] rfl (by simp [Act.eval]) (OwW.lit0 (Nat.le_refl _)) w.heap.size (some ⟨b, off, none⟩) c m (l.take m) HL.out (by simp [Act.eval]) ((h.take hm).on ((Below.refl _ _).alloc (Nat.le_refl _) _) (Nat.le_refl _)) (by omega) (by simp) ?_; intro A' c' w' own' hb' hg')
       go_ret
       rw [HE.out, HL.out]
       exact ⟨A', c', by simp, by simpa using own', (by have z0 := Below.size hb'; (try simp only [ZZ] at z0 ⊢; skip); repeat' (first | (with_reducible first | exact BlR _ _ | assumption | refine BlA ?_ ?_ _ | refine BlD ?_ | refine BlN ?_ _ | refine BlS ?_ ?_ _ | refine BlT ?_ (BlM (by assumption) ?_)) | omega | (simp only [ZZ]; omega) | go_size))⟩
end Go.Proofs.YtoiopnmphbnjaaaGreatDoor
namespace Go.Proofs.YtoiopnmphbnjaaaGreatDoor
open Go.RowKit
set_option linter.unusedSimpArgs false
set_option linter.unusedVariables false
set_option maxRecDepth 20000
attribute [local irreducible] nv wp
/-! ## Of, Cmp, Add, Sub -/
theorem dig_two {n : Nat} (h : n < 18446744073709551616) : nv [n % 4294967296, n / 4294967296] = n := by
 simp only [nv]; omega
theorem of_zero (n : Int) (w : World) (h : n ≤ 0) :
   Calls Tryz.prog 146 #[.int .i64 n] w fun e w' => e = .returned (.slice none 0 0) ∧ w = w' := by
 go_enter Tryz.func146, Tryz.ntmps146
 go_wp2
 go_ret
 exact ⟨rfl, rfl⟩
theorem of_pos (n : Nat) (w : World) (h0 : 0 < n) (h : n < 9223372036854775808) :
   Calls Tryz.prog 146 #[.int .i64 (n : Int)] w fun e w' => ∃ A' c', e = .returned (.slice A' (dig n).length c') ∧ OwW w' w.heap.size A' c' (dig n) ∧ Below w.heap.size w w' := by
 have e1 : IntKind.u32.wrap (n : Int) = ((n % 4294967296 : Nat) : Int) := by rw [IntKind.wrap_u32]; omega
 have e2 : IntKind.u32.wrap ((n : Int) / 4294967296) = ((n / 4294967296 : Nat) : Int) := by rw [IntKind.wrap_u32]; omega
 have e3 := dig_two (n := n) (by omega)
 have hW : W32 [n % 4294967296, n / 4294967296] := W32.cons (by omega) (W32.one (by omega))
 generalize n % 4294967296 = x at *
 generalize n / 4294967296 = y at *
 have K := fun W => trim_any (some ⟨w.heap.size, 0, none⟩) [x, y] 2 2 W rfl (by omega) (by omega) hW
 rw [e3] at K
 have K := Lib.hid K
 clear e3 hW
 go_enter Tryz.func146, Tryz.ntmps146
 go_wp2_with fail
 refine (K.out _ (RdW.new2 (by simp) (by simp) (by simp))).mono ?_
 rintro e w1 ⟨A', c', rfl, own, hb⟩
 go_wp2
 go_ret
 exact ⟨A', c', rfl, own.base_ (by simp), (by have z0 := Below.size hb; (try simp only [ZZ] at z0 ⊢; skip); repeat' (first | (with_reducible first | exact BlR _ _ | assumption | refine BlA ?_ ?_ _ | refine BlD ?_ | refine BlN ?_ _ | refine BlS ?_ ?_ _ | refine BlT ?_ (BlM (by assumption) ?_)) | omega | (simp only [ZZ]; omega) | go_size))⟩
theorem of_any (n : Int) (w : World) (h : n ≤ 9223372036854775807) :
   Calls Tryz.prog 146 #[.int .i64 n] w fun e w' => ∃ A' c', e = .returned (.slice A' (dig n.toNat).length c') ∧ OwW w' w.heap.size A' c' (dig n.toNat) ∧ Below w.heap.size w w' := by
 by_cases h0 : n ≤ 0
 · refine (of_zero n w h0).mono ?_
   rintro e w' ⟨rfl, rfl⟩
   rw [show n.toNat = 0 by omega, dig_zero]
   exact ⟨none, 0, rfl, OwW.nil_ _ _, Below.refl _ _⟩
 · obtain ⟨m, rfl⟩ := Int.eq_ofNat_of_zero_le (show 0 ≤ n by omega)
   exact of_pos m w (by omega) (by omega)
/-- two numbers of unlike lengths -/
theorem cmp_len {a b : Nat} (h : (dig a).length < (dig b).length) : cmpN a b = -1 ∧ cmpN b a = 1 := ⟨cmpN_lt (dig_len_lt h), cmpN_gt (dig_len_lt h)⟩
theorem cmp_at {a b : Nat} (k : Nat) (hl : (dig a).length = (dig b).length) (hk : k < (dig a).length) (hs : ∀ j, k + 1 ≤ j → (dig a).getD j 0 = (dig b).getD j 0) (hlt : (dig a).getD k 0 < (dig b).getD k 0) : cmpN a b = -1 ∧ cmpN b a = 1 := by
 have h := nv_lt_of (dig_W32 a) (dig_W32 b) k hl hk hs hlt
 rw [nv_dig, nv_dig] at h
 exact ⟨cmpN_lt h, cmpN_gt h⟩
theorem cmp_end {a b : Nat} (hl : (dig a).length = (dig b).length) (hs : ∀ j, 0 ≤ j → (dig a).getD j 0 = (dig b).getD j 0) : cmpN a b = 0 :=
 cmpN_eq (dig_inj (nv_eq_of hl fun j => hs j (Nat.zero_le _)))
theorem cmp_any (A B : Option Addr) (l m : List Nat) (n c n' c' : Nat) (w : World) (hl : l.length = n) (hm : m.length = n') (hn : n ≤ 1099511627776) (hn' : n' ≤ 1099511627776) (hcap : n ≤ c) (hcap' : n' ≤ c') (hW : W32 l) (hW' : W32 m)
   (h : RdW w w.heap.size A l) (h' : RdW w w.heap.size B m) :
   Calls Tryz.prog 72 #[.slice A n c, .slice B n' c'] w fun e w' => e = .returned (.int .i64 (cmpN (nv l) (nv m))) ∧ Below w.heap.size w w' := by
 have K1 := Lib.hid (trim_any A l n c w hl hn hcap hW h)
 have K2 := Lib.hid (fun W (hb : Below w.heap.size w W) (hz : w.heap.size ≤ W.heap.size) => trim_any B m n' c' W hm hn' hcap' hW' (h'.on hb hz))
 have q1 : (dig (nv l)).length ≤ 1099511627776 := Nat.le_trans (dig_length_le (nv_lt hW)) (by omega)
 have q2 : (dig (nv m)).length ≤ 1099511627776 := Nat.le_trans (dig_length_le (nv_lt hW')) (by omega)
 generalize nv l = a at *
 generalize nv m = b at *
 clear hW hW' h h' hl hm
 go_enter Tryz.func72, Tryz.ntmps72
 (go_wp2_with fail; (with_reducible refine (K1.out).mono ?_); rintro e w1 ⟨A1, c1, rfl, own1, hb1⟩; have hb1z := Below.size hb1; (try simp only [ZZ] at hb1z))
 (go_wp2_with fail; (with_reducible refine (K2.out _ (by have z0 := Below.size hb1; (try simp only [ZZ] at z0 ⊢; skip); repeat' (first | (with_reducible first | exact BlR _ _ | assumption | refine BlA ?_ ?_ _ | refine BlD ?_ | refine BlN ?_ _ | refine BlS ?_ ?_ _ | refine BlT ?_ (BlM (by assumption) ?_)) | omega | (simp only [ZZ]; omega) | go_size)) (by omega)).mono ?_); rintro e w2 ⟨A2, c2, rfl, own2, hb2⟩; have hb2z := Below.size hb2; (try simp only [ZZ] at hb2z))
 have own1' := own1.below hb2
 by_cases h1 : (dig a).length < (dig b).length
 · have HE := Lib.hid (cmp_len h1).1
   go_wp2
   go_ret
   exact ⟨by rw [HE.out]; rfl, (by have z0 := Below.size hb1; have z1 := Below.size hb2; (try simp only [ZZ] at z0 z1 ⊢; skip); repeat' (first | (with_reducible first | exact BlR _ _ | assumption | refine BlA ?_ ?_ _ | refine BlD ?_ | refine BlN ?_ _ | refine BlS ?_ ?_ _ | refine BlT ?_ (BlM (by assumption) ?_)) | omega | (simp only [ZZ]; omega) | go_size))⟩
 · by_cases h2 : (dig b).length < (dig a).length
   · have HE := Lib.hid (cmp_len h2).2
     go_wp2
     go_ret
     exact ⟨by rw [HE.out]; rfl, (by have z0 := Below.size hb1; have z1 := Below.size hb2; (try simp only [ZZ] at z0 z1 ⊢; skip); repeat' (first | (with_reducible first | exact BlR _ _ | assumption | refine BlA ?_ ?_ _ | refine BlD ?_ | refine BlN ?_ _ | refine BlS ?_ ?_ _ | refine BlT ?_ (BlM (by assumption) ?_)) | omega | (simp only [ZZ]; omega) | go_size))⟩
   · have hll : (dig a).length = (dig b).length := by omega
     have HL := Lib.hid hll
     obtain ⟨N, hN⟩ : ∃ N, N = (dig a).length := ⟨_, rfl⟩
     have hN2 : N = (dig b).length := by omega
     rw [← hN] at q1
     rw [← hN2] at q2
     rw [← hN, ← hN2]
     have HN1 := Lib.hid hN
     have HN2 := Lib.hid hN2
     clear hll h1 h2 hN hN2
     go_wp2
     go_loopw [5] (fun i wr => ∃ k : Nat, k ≤ N ∧ i = .int .i64 ((k : Int) - 1) ∧ (∀ j, k ≤ j → (dig a).getD j 0 = (dig b).getD j 0) ∧ Below w2.heap.size w2 wr) (fun i _ => (intOf i + 1).toNat)
     case atStart => exact ⟨N, Nat.le_refl _, rfl, fun j hj => by rw [getD_of_ge (by have := HN1.out; omega), getD_of_ge (by have := HN2.out; omega)], Below.refl _ _⟩
     case round =>
       obtain ⟨k, hk, hi, hs, hb⟩ := hrel
       have HS := Lib.hid hs
       clear hs
       have hbz := hb.size
       rcases k with _ | k
       · obtain rfl := hi
         have HE : Hid (cmpN a b = 0) := cmp_end HL.out HS.out
         go_wp2
         go_ret
         exact ⟨by rw [HE.out]; rfl, (by have z0 := Below.size hb1; have z1 := Below.size hb2; have z2 := Below.size hb; (try simp only [ZZ] at z0 z1 z2 ⊢; skip); repeat' (first | (with_reducible first | exact BlR _ _ | assumption | refine BlA ?_ ?_ _ | refine BlD ?_ | refine BlN ?_ _ | refine BlS ?_ ?_ _ | refine BlT ?_ (BlM (by assumption) ?_)) | omega | (simp only [ZZ]; omega) | go_size))⟩
       · have hi' := hi.trans (vint (k := .i64) (show (((k + 1 : Nat) : Int) - 1) = (k : Int) by omega))
         clear hi
         obtain rfl := hi'
         have k1 : k < (dig a).length := by have := HN1.out; omega
         have k2 : k < (dig b).length := by have := HN2.out; omega
         obtain ⟨b1, o1, rfl, hbb1, y1⟩ := (own1'.rd.below hb).at_ k1
         obtain ⟨b2, o2, rfl, hbb2, y2⟩ := (own2.rd.below hb).at_ k2
         have hx := (dig_W32 a).at_ k1
         have hy := (dig_W32 b).at_ k2
         have HX := Lib.hid (getD_of_lt k1)
         have HY := Lib.hid (getD_of_lt k2)
         generalize (dig a)[k] = x at *
         generalize (dig b)[k] = y at *
         rcases Nat.lt_trichotomy x y with hxy | hxy | hxy
         · have HE := Lib.hid (cmp_at k HL.out k1 HS.out (by rw [HX.out, HY.out]; exact hxy)).1
           clear k1 k2
           go_wp2
           go_quiet (fail)
           go_wp2
           go_ret
           exact ⟨by rw [HE.out]; rfl, (by have z0 := Below.size hb1; have z1 := Below.size hb2; have z2 := Below.size hb; (try simp only [ZZ] at z0 z1 z2 ⊢; skip); repeat' (first | (with_reducible first | exact BlR _ _ | assumption | refine BlA ?_ ?_ _ | refine BlD ?_ | refine BlN ?_ _ | refine BlS ?_ ?_ _ | refine BlT ?_ (BlM (by assumption) ?_)) | omega | (simp only [ZZ]; omega) | go_size))⟩
         · have HT : Hid (∀ j, k ≤ j → (dig a).getD j 0 = (dig b).getD j 0) := by
             intro j hj
             by_cases e : j = k
             · rw [e, HX.out, HY.out, hxy]
             · exact HS.out j (by omega)
           subst hxy
           clear k1 k2
           go_wp2
           go_quiet (fail)
           go_wp2
           go_quiet (fail)
           go_wp2
           go_roundw
           case rel => exact ⟨k, by omega, by go_num, HT.out, (by have z0 := Below.size hb; (try simp only [ZZ] at z0 ⊢; skip); repeat' (first | (with_reducible first | exact BlR _ _ | assumption | refine BlA ?_ ?_ _ | refine BlD ?_ | refine BlN ?_ _ | refine BlS ?_ ?_ _ | refine BlT ?_ (BlM (by assumption) ?_)) | omega | (simp only [ZZ]; omega) | go_size))⟩
           case measure => simp [intOf]
         · have HE := Lib.hid (cmp_at k HL.out.symm k2 (fun j hj => (HS.out j hj).symm) (by rw [HX.out, HY.out]; exact hxy)).2
           clear k1 k2
           go_wp2
           go_quiet (fail)
           go_wp2
           go_quiet (fail)
           go_wp2
           go_ret
           exact ⟨by rw [HE.out]; rfl, (by have z0 := Below.size hb1; have z1 := Below.size hb2; have z2 := Below.size hb; (try simp only [ZZ] at z0 z1 z2 ⊢; skip); repeat' (first | (with_reducible first | exact BlR _ _ | assumption | refine BlA ?_ ?_ _ | refine BlD ?_ | refine BlN ?_ _ | refine BlS ?_ ?_ _ | refine BlT ?_ (BlM (by assumption) ?_)) | omega | (simp only [ZZ]; omega) | go_size))⟩
end Go.Proofs.YtoiopnmphbnjaaaGreatDoor
namespace Go.Proofs.YtoiopnmphbnjaaaGreatDoor
open Go.RowKit
set_option linter.unusedSimpArgs false
set_option linter.unusedVariables false
set_option maxRecDepth 20000
attribute [local irreducible] nv wp
/-! ## Add, Sub -/
theorem setD_take {o : List Nat} {k x : Nat} (hk : k < o.length) : nv ((o.set k x).take (k + 1)) = nv (o.take k) + wp k * x := nv_take_set hk x
theorem add_any (A B : Option Addr) (l m : List Nat) (n c n' c' : Nat) (w : World) (hl : l.length = n) (hm : m.length = n') (hn : n ≤ 549755813888) (hn' : n' ≤ 549755813888) (hW : W32 l) (hW' : W32 m)
   (h : RdW w w.heap.size A l) (h' : RdW w w.heap.size B m) :
   Calls Tryz.prog 71 #[.slice A n c, .slice B n' c'] w fun e w' => ∃ A' c'', e = .returned (.slice A' (dig (nv l + nv m)).length c'') ∧ OwW w' w.heap.size A' c'' (dig (nv l + nv m)) ∧ Below w.heap.size w w' := by
 subst hl hm
 obtain ⟨N, hNl, hNm, hN, hNE⟩ : ∃ N, l.length ≤ N ∧ m.length ≤ N ∧ N ≤ 549755813888 ∧ (N = l.length ∧ m.length ≤ l.length ∨ N = m.length ∧ l.length < m.length) := by
   rcases Nat.lt_or_ge l.length m.length with h1 | h1
   · exact ⟨m.length, by omega, Nat.le_refl _, hn', .inr ⟨rfl, h1⟩⟩
   · exact ⟨l.length, Nat.le_refl _, h1, hn, .inl ⟨rfl, h1⟩⟩
 rcases hNE with ⟨hE, hle⟩ | ⟨hE, hle⟩
 all_goals
   have HE := Lib.hid hE
   clear hE
   go_enter Tryz.func71, Tryz.ntmps71
   go_wp2_with (at_make; refine wpList_makeW rfl (.tmp 13) (.tmp 13) rfl w.heap.size (N + 1) _ _ (by simp [Act.eval]; rfl) (by simp [Act.eval]; rfl) (by have := HE.out; omega) (by have := HE.out; omega) (by omega) (Nat.le_refl _) ?_; intro w1 own1 hb1)
   go_loopw [6, 17] (fun cy i wr => ∃ (k cc : Nat) (o : List Nat), k ≤ N + 1 ∧ i = .int .i64 k ∧ cy = .int .u64 cc ∧ cc ≤ 1 ∧ o.length = N + 1 ∧ W32 o ∧ nv (o.take k) + wp k * cc = nv (l.take k) + nv (m.take k) ∧ OwG wr w.heap.size w.heap.size (N + 1) o ∧ Below w.heap.size w wr) (fun _ i _ => N + 1 - (intOf i).toNat)
   case atStart => exact ⟨0, 0, _, Nat.zero_le _, rfl, rfl, by omega, by simp, W32.replicate _, by simp [nv_nil], own1, hb1⟩
   case round =>
     obtain ⟨k, cc, o, hk, rfl, rfl, hcc, hol, hoW, heq, own, hb⟩ := hrel
     have HOL := Lib.hid hol
     have HOW := Lib.hid hoW
     have HQ := Lib.hid heq
     clear hol hoW heq own1 hb1
     have hbz := hb.size
     by_cases hlt : k < N + 1
     · have K1 := fun W hW2 => word_any A l l.length c k W rfl (by omega) hW hW2
       have K2 := fun W hW2 => word_any B m m.length c' k W rfl (by omega) hW' hW2
       have hx := hW.getD k
       have hy := hW'.getD k
       have HL := Lib.hid (nv_take_getD l k)
       have HM := Lib.hid (nv_take_getD m k)
       generalize l.getD k 0 = x at *
       generalize m.getD k 0 = y at *
       obtain ⟨s, hs⟩ : ∃ s, s = cc + (x + y) := ⟨_, rfl⟩
       have HS := Lib.hid (add_step (s := s) k HQ.out hs)
       have hc2 := add_carry hcc hx hy
       rw [← hs] at hc2
       have es : (cc : Int) + ((x : Int) + (y : Int)) = (s : Int) := by omega
       have e1 : IntKind.u32.wrap (s : Int) = ((s % 4294967296 : Nat) : Int) := by rw [IntKind.wrap_u32]; omega
       have e2 : (s : Int) / 4294967296 = ((s / 4294967296 : Nat) : Int) := by omega
       have hlo : s % 4294967296 < 4294967296 := by omega
       have hs64 : s < 18446744073709551616 := by omega
       clear hs
       generalize s % 4294967296 = lo at *
       generalize s / 4294967296 = hi at *
       have K1 := Lib.hid (K1 _ (h.on hb hbz))
       have K2 := Lib.hid (K2 _ (h'.on hb hbz))
       have y1 := own.frozen k
       have y2 := own.cell (k := k) (by have := HOL.out; omega)
       go_wp2_with (first | (go_at_call 116; (with_reducible refine (K1.out).mono ?_); rintro e _ ⟨rfl, rfl⟩) | (go_at_call 116; (with_reducible refine (K2.out).mono ?_); rintro e _ ⟨rfl, rfl⟩))
       go_roundw
       case rel => exact ⟨k + 1, hi, o.set k lo, by omega, by go_num, rfl, hc2, by simpa using HOL.out, HOW.out.set _ _ hlo, by rw [setD_take (by have := HOL.out; omega), HL.out, HM.out]; exact HS.out, own.set k lo, hb.setCell (Nat.le_refl _) _⟩
       case measure => simp [intOf]; omega
     · have hfin : nv o = nv l + nv m := by
         have h1 := HQ.out
         have e : k = N + 1 := by omega
         subst e
         rw [nv_take_all (by have := HOL.out; omega), nv_take_all (by omega), nv_take_all (by omega)] at h1
         exact add_end h1 (Nat.lt_of_lt_of_le (nv_lt hW) (wp_le hNl)) (Nat.lt_of_lt_of_le (nv_lt hW') (wp_le hNm))
       have K := trim_any (some ⟨w.heap.size, 0, none⟩) o (N + 1) (N + 1) wr HOL.out (by omega) (by omega) HOW.out own.rd
       rw [hfin] at K
       have K := Lib.hid K
       clear hfin HQ
       (go_wp2_with fail; (with_reducible refine (K.out).mono ?_); rintro e w2 ⟨A1, c1, rfl, own2, hb2⟩; have hb2z := Below.size hb2; (try simp only [ZZ] at hb2z))
       go_wp2
       go_ret
       exact ⟨A1, c1, rfl, own2.base_ (by omega), (by have z0 := Below.size hb; have z1 := Below.size hb2; (try simp only [ZZ] at z0 z1 ⊢; skip); repeat' (first | (with_reducible first | exact BlR _ _ | assumption | refine BlA ?_ ?_ _ | refine BlD ?_ | refine BlN ?_ _ | refine BlS ?_ ?_ _ | refine BlT ?_ (BlM (by assumption) ?_)) | omega | (simp only [ZZ]; omega) | go_size))⟩
theorem sub_words (x y r : Nat) (hx : x < 4294967296) (hy : y < 4294967296) (hr : r ≤ 1) : ∃ d1 d : Nat, IntKind.u64.wrap ((x : Int) - (y : Int)) = (d1 : Int) ∧ IntKind.u64.wrap ((d1 : Int) - (r : Int)) = (d : Int) ∧ d < 18446744073709551616 ∧ (d + y + r = x ∨ d + y + r = x + 18446744073709551616) := by
 refine ⟨(x + 18446744073709551616 - y) % 18446744073709551616, ((x + 18446744073709551616 - y) % 18446744073709551616 + 18446744073709551616 - r) % 18446744073709551616, ?_, ?_, by omega, by omega⟩
 · rw [IntKind.wrap_u64]; omega
 · rw [IntKind.wrap_u64]; omega
theorem sub_any (A B : Option Addr) (l m : List Nat) (n c n' c' : Nat) (w : World) (hl : l.length = n) (hm : m.length = n') (hn : n ≤ 549755813888) (hn' : n' ≤ 549755813888) (hcap : n ≤ c) (hcap' : n' ≤ c') (hW : W32 l) (hW' : W32 m)
   (h : RdW w w.heap.size A l) (h' : RdW w w.heap.size B m) (hle : nv m ≤ nv l) :
   Calls Tryz.prog 73 #[.slice A n c, .slice B n' c'] w fun e w' => ∃ A' c'', e = .returned (.tuple #[.slice A' (dig (nv l - nv m)).length c'', .nilIface]) ∧ OwW w' w.heap.size A' c'' (dig (nv l - nv m)) ∧ Below w.heap.size w w' := by
 have K0 := cmp_any A B l m n c n' c' w hl hm (by omega) (by omega) hcap hcap' hW hW' h h'
 subst hl hm
 have hq : 0 ≤ cmpN (nv l) (nv m) ∧ cmpN (nv l) (nv m) ≤ 1 := by unfold cmpN; split; omega; split <;> omega
 generalize cmpN (nv l) (nv m) = q at *
 obtain ⟨hq0, hq1⟩ := hq
 have K0 := Lib.hid K0
 have HLE := Lib.hid hle
 clear hle
 go_enter Tryz.func73, Tryz.ntmps73
 (go_wp2_with fail; (with_reducible refine (K0.out).mono ?_); rintro e w0 ⟨rfl, hb0⟩; have hb0z := Below.size hb0; (try simp only [ZZ] at hb0z))
 go_wp2_with (at_make; refine wpList_makeW rfl (.tmp 16) (.tmp 16) rfl w.heap.size l.length _ _ rfl rfl rfl rfl (by omega) (by omega) ?_; intro w1 own1 hb1)
 obtain ⟨g, hg⟩ : ∃ g, g = w0.heap.size := ⟨_, rfl⟩
 rw [← hg] at own1 ⊢
 have HG : Hid (w.heap.size ≤ g ∧ g = w0.heap.size) := ⟨by omega, hg⟩
 have hb01 : Below w.heap.size w w1 := (by have z0 := Below.size hb0; have z1 := Below.size hb1; (try simp only [ZZ] at z0 z1 ⊢; skip); repeat' (first | (with_reducible first | exact BlR _ _ | assumption | refine BlA ?_ ?_ _ | refine BlD ?_ | refine BlN ?_ _ | refine BlS ?_ ?_ _ | refine BlT ?_ (BlM (by assumption) ?_)) | omega | (simp only [ZZ]; omega) | go_size))
 have hgz : w.heap.size ≤ g := HG.out.1
 clear hg
 go_loopw [7, 20] (fun br i wr => ∃ (k r : Nat) (o : List Nat), k ≤ l.length ∧ i = .int .i64 k ∧ br = .int .u64 r ∧ r ≤ 1 ∧ o.length = l.length ∧ W32 o ∧ nv (o.take k) + nv (m.take k) = nv (l.take k) + wp k * r ∧ OwG wr w.heap.size g l.length o ∧ Below w.heap.size w wr) (fun _ i _ => l.length - (intOf i).toNat)
 case atStart => exact ⟨0, 0, _, Nat.zero_le _, rfl, rfl, by omega, by simp, W32.replicate _, by simp [nv_nil], own1, hb01⟩
 case round =>
   obtain ⟨k, r, o, hk, rfl, rfl, hr, hol, hoW, heq, own, hb⟩ := hrel
   have HOL := Lib.hid hol
   have HOW := Lib.hid hoW
   have HQ := Lib.hid heq
   clear hol hoW heq own1 hb1 hb0 hb01
   have hbz := hb.size
   by_cases hlt : k < l.length
   · have K1 := fun W hW2 => word_any A l l.length c k W rfl (by omega) hW hW2
     have K2 := fun W hW2 => word_any B m m.length c' k W rfl (by omega) hW' hW2
     have hx := hW.getD k
     have hy := hW'.getD k
     have HL := Lib.hid (nv_take_getD l k)
     have HM := Lib.hid (nv_take_getD m k)
     generalize l.getD k 0 = x at *
     generalize m.getD k 0 = y at *
     obtain ⟨d1, d, e1, e2, hd64, hd⟩ := sub_words x y r hx hy hr
     obtain ⟨hs1, hs2⟩ := sub_step k HQ.out hd hd64 hx hy hr
     have HS := Lib.hid hs1
     have e3 : IntKind.u32.wrap (d : Int) = ((d % 4294967296 : Nat) : Int) := by rw [IntKind.wrap_u32]; omega
     have e4 : (d : Int) / 9223372036854775808 = ((d / 9223372036854775808 : Nat) : Int) := by omega
     have hlo : d % 4294967296 < 4294967296 := by omega
     clear hd hs1
     generalize d % 4294967296 = lo at *
     generalize d / 9223372036854775808 = hi at *
     have K1 := Lib.hid (K1 _ (h.on hb hbz))
     have K2 := Lib.hid (K2 _ (h'.on hb hbz))
     have y1 := own.frozen k
     have y2 := own.cell (k := k) (by have := HOL.out; omega)
     go_wp2_with (first | (go_at_call 116; (with_reducible refine (K1.out).mono ?_); rintro e _ ⟨rfl, rfl⟩) | (go_at_call 116; (with_reducible refine (K2.out).mono ?_); rintro e _ ⟨rfl, rfl⟩))
     go_roundw
     case rel => exact ⟨k + 1, hi, o.set k lo, by omega, by go_num, rfl, hs2, by simpa using HOL.out, HOW.out.set _ _ hlo, by rw [setD_take (by have := HOL.out; omega), HL.out, HM.out]; exact HS.out, own.set k lo, hb.setCell hgz _⟩
     case measure => simp [intOf]; omega
   · have hfin : nv o = nv l - nv m := by
       have h1 := HQ.out
       have e : k = l.length := by omega
       rw [e] at h1
       exact sub_fin hW HOW.out HOL.out h1 HLE.out
     have K := trim_any (some ⟨g, 0, none⟩) o l.length l.length wr HOL.out (by omega) (by omega) HOW.out own.rd
     rw [hfin] at K
     have K := Lib.hid K
     clear hfin HQ
     (go_wp2_with fail; (with_reducible refine (K.out).mono ?_); rintro e w2 ⟨A1, c1, rfl, own2, hb2⟩; have hb2z := Below.size hb2; (try simp only [ZZ] at hb2z))
     go_wp2
     go_ret2
     exact ⟨A1, c1, rfl, own2.base_ (by omega), (by have z0 := Below.size hb; have z1 := Below.size hb2; (try simp only [ZZ] at z0 z1 ⊢; skip); repeat' (first | (with_reducible first | exact BlR _ _ | assumption | refine BlA ?_ ?_ _ | refine BlD ?_ | refine BlN ?_ _ | refine BlS ?_ ?_ _ | refine BlT ?_ (BlM (by assumption) ?_)) | omega | (simp only [ZZ]; omega) | go_size))⟩
end Go.Proofs.YtoiopnmphbnjaaaGreatDoor
namespace Go.Proofs.YtoiopnmphbnjaaaGreatDoor
open Go.RowKit
set_option linter.unusedSimpArgs false
set_option linter.unusedVariables false
set_option maxRecDepth 20000
attribute [local irreducible] nv wp
/-! ## Mul -/
theorem mul_last {o o' : List Nat} {i b c x X N : Nat} (hib : i + b < o.length) (hz : o.getD (i + b) 0 = 0) (hO : nv o + wp (i + b) * c = N + wp i * (x * X)) (e : o' = o.set (i + b) c) : nv o' = N + wp i * (x * X) := by
 have h := nv_set hib c
 rw [← getD_of_lt hib, hz, Nat.mul_zero, Nat.add_zero] at h
 rw [e, h, hO]
theorem mul_take {l : List Nat} {i x M N : Nat} (hi : i < l.length) (hx : l.getD i 0 = x) (hN : N = nv (l.take i) * M) : N + wp i * (x * M) = nv (l.take (i + 1)) * M := by
 rw [nv_take_getD, hx, Nat.add_mul, hN, Nat.mul_assoc]
theorem mul_any (A B : Option Addr) (l m : List Nat) (n c n' c' : Nat) (w : World) (hl : l.length = n) (hm : m.length = n') (hn : n ≤ 274877906944) (hn' : n' ≤ 274877906944) (hW : W32 l) (hW' : W32 m)
   (h : RdW w w.heap.size A l) (h' : RdW w w.heap.size B m) :
   Calls Tryz.prog 69 #[.slice A n c, .slice B n' c'] w fun e w' => ∃ A' c'', e = .returned (.slice A' (dig (nv l * nv m)).length c'') ∧ OwW w' w.heap.size A' c'' (dig (nv l * nv m)) ∧ Below w.heap.size w w' := by
 subst hl hm
 go_enter Tryz.func69, Tryz.ntmps69
 go_wp2_with (at_make; refine wpList_makeW rfl (.tmp 15) (.tmp 15) rfl w.heap.size (l.length + m.length) _ _ rfl rfl (by omega) (by omega) (by omega) (Nat.le_refl _) ?_; intro w1 own1 hb1)
 obtain ⟨g, hg⟩ : ∃ g, g = w.heap.size := ⟨_, rfl⟩
 have own1' : OwG w1 w.heap.size g (l.length + m.length) (List.replicate (l.length + m.length) 0) := by rw [hg]; exact own1
 rw [← hg]
 have hgz : w.heap.size ≤ g := by omega
 clear hg own1
 go_loopw [19] (fun ii wr => ∃ (i : Nat) (o : List Nat), i ≤ l.length ∧ ii = .int .i64 i ∧ o.length = l.length + m.length ∧ W32 o ∧ nv o = nv (l.take i) * nv m ∧ (∀ j, i + m.length ≤ j → o.getD j 0 = 0) ∧ OwG wr w.heap.size g (l.length + m.length) o ∧ Below w.heap.size w wr) (fun ii _ => l.length - (intOf ii).toNat)
 case atStart => exact ⟨0, _, Nat.zero_le _, rfl, by simp, W32.replicate _, by simp [nv_nil, nv_replicate], fun j _ => by by_cases hj : j < l.length + m.length <;> simp [List.getD_eq_getElem?_getD, hj], own1', hb1⟩
 case round =>
   obtain ⟨i, o, hi, rfl, hol, hoW, heq, hz, own, hb⟩ := hrel
   have HOL := Lib.hid hol
   have HOW := Lib.hid hoW
   have HQ := Lib.hid heq
   have HZ := Lib.hid hz
   clear hol hoW heq hz own1' hb1
   have hbz := hb.size
   obtain ⟨wo, rfl⟩ : ∃ wo : World, wo = wr := ⟨_, rfl⟩
   by_cases hlt : i < l.length
   · obtain ⟨b1, o1, rfl, hbb1, y1⟩ := (h.below hb).at_ hlt
     have hx := hW.at_ hlt
     have HX := Lib.hid (getD_of_lt hlt)
     generalize l[i] = x at *
     go_wp2
     go_loopw [8, 26] (fun cy kk wr => ∃ (k cc : Nat) (o' : List Nat), k ≤ m.length ∧ kk = .int .i64 k ∧ cy = .int .u64 cc ∧ cc < 4294967296 ∧ o'.length = l.length + m.length ∧ W32 o' ∧ nv o' + wp (i + k) * cc = nv o + wp i * (x * nv (m.take k)) ∧ (∀ j, i + m.length ≤ j → o'.getD j 0 = 0) ∧ OwG wr w.heap.size g (l.length + m.length) o' ∧ Below w.heap.size w wr) (fun _ kk _ => m.length - (intOf kk).toNat)
     case atStart => exact ⟨0, 0, o, Nat.zero_le _, rfl, rfl, by omega, HOL.out, HOW.out, by simp [nv_nil], HZ.out, own, hb⟩
     case round =>
       obtain ⟨k, cc, o', hk, rfl, rfl, hcc, hol', hoW', heq', hz', own', hb'⟩ := hrel
       have HOL' := Lib.hid hol'
       have HOW' := Lib.hid hoW'
       have HQ' := Lib.hid heq'
       have HZ' := Lib.hid hz'
       clear hol' hoW' heq' hz'
       have hbz' := hb'.size
       by_cases hlt2 : k < m.length
       · obtain ⟨b2, o2, rfl, hbb2, y2⟩ := (h'.below hb').at_ hlt2
         have hy := hW'.at_ hlt2
         have HY := Lib.hid (nv_take_succ hlt2)
         generalize m[k] = y at *
         have hlt3 : i + k < o'.length := by have := HOL'.out; omega
         have y3 := own'.cell hlt3
         have y4 := own'.frozen (i + k)
         have hz := HOW'.out.at_ hlt3
         have HS0 := fun s => Lib.hid (nv_set hlt3 s)
         generalize o'[i + k] = z at *
         have hbd := mul_bound hcc hx hy hz
         obtain ⟨p, hp⟩ : ∃ p, p = x * y := ⟨_, rfl⟩
         obtain ⟨s, hs⟩ : ∃ s, s = cc + (x * y + z) := ⟨_, rfl⟩
         have HS := Lib.hid (mul_step (O := nv o') (O' := nv (o'.set (i + k) (s % 4294967296))) i k HQ'.out hs (HS0 _).out)
         rw [← hs] at hbd
         obtain ⟨hs64, hc2⟩ := hbd
         have ep : (x : Int) * (y : Int) = (p : Int) := by rw [hp]; exact (Int.natCast_mul x y).symm
         rw [← hp] at hs
         have hp64 : p < 18446744073709551616 := by omega
         have e0 : IntKind.u64.wrap ((x : Int) * (y : Int)) = (p : Int) := by rw [ep, IntKind.wrap_u64]; omega
         have es : (cc : Int) + ((p : Int) + (z : Int)) = (s : Int) := by omega
         have es2 : (p : Int) + (z : Int) < 18446744073709551616 := by omega
         have e1 : IntKind.u32.wrap (s : Int) = ((s % 4294967296 : Nat) : Int) := by rw [IntKind.wrap_u32]; omega
         have e2 : (s : Int) / 4294967296 = ((s / 4294967296 : Nat) : Int) := by omega
         have hlo : s % 4294967296 < 4294967296 := by omega
         clear hs hp HS0
         generalize s % 4294967296 = lo at *
         generalize s / 4294967296 = hi2 at *
         go_wp2
         go_roundw
         case rel => exact ⟨k + 1, hi2, o'.set (i + k) lo, by omega, by go_num, rfl, hc2, by simpa using HOL'.out, HOW'.out.set _ _ hlo, by rw [HY.out]; exact HS.out, fun j hj => by rw [getD_set_ne (by omega)]; exact HZ'.out j hj, own'.set (i + k) lo, hb'.setCell hgz _⟩
         case measure => simp [intOf]; omega
       · have hkE : k = m.length := by omega
         have HF : Hid (nv (o'.set (i + m.length) cc) = nv (l.take (i + 1)) * nv m) := by
           have h1 := HQ'.out
           rw [hkE, nv_take_all (Nat.le_refl _)] at h1
           show nv (o'.set (i + m.length) cc) = nv (l.take (i + 1)) * nv m
           rw [mul_last (by have := HOL'.out; omega) (HZ'.out _ (Nat.le_refl _)) h1 rfl]
           exact mul_take hlt HX.out HQ.out
         have e1 : IntKind.u32.wrap (cc : Int) = (cc : Int) := by rw [IntKind.wrap_u32]; omega
         have hlt3 : i + m.length < o'.length := by have := HOL'.out; omega
         have y3 := own'.cell hlt3
         have y4 := own'.frozen (i + m.length)
         clear hkE
         go_wp2
         go_roundw
         case rel => exact ⟨i + 1, o'.set (i + m.length) cc, by omega, by go_num, by simpa using HOL'.out, HOW'.out.set _ _ hcc, HF.out, fun j hj => by rw [getD_set_ne (by omega)]; exact HZ'.out j (by omega), own'.set _ cc, hb'.setCell hgz _⟩
         case measure => simp [intOf]; omega
   · have hfin : nv o = nv l * nv m := by rw [HQ.out, nv_take_all (by omega)]
     have K := trim_any (some ⟨g, 0, none⟩) o (l.length + m.length) (l.length + m.length) wo HOL.out (by omega) (by omega) HOW.out own.rd
     rw [hfin] at K
     have K := Lib.hid K
     clear hfin HQ
     (go_wp2_with fail; (with_reducible refine (K.out).mono ?_); rintro e w2 ⟨A1, c1, rfl, own2, hb2⟩; have hb2z := Below.size hb2; (try simp only [ZZ] at hb2z))
     go_wp2
     go_ret
     exact ⟨A1, c1, rfl, own2.base_ (by omega), (by have z0 := Below.size hb; have z1 := Below.size hb2; (try simp only [ZZ] at z0 z1 ⊢; skip); repeat' (first | (with_reducible first | exact BlR _ _ | assumption | refine BlA ?_ ?_ _ | refine BlD ?_ | refine BlN ?_ _ | refine BlS ?_ ?_ _ | refine BlT ?_ (BlM (by assumption) ?_)) | omega | (simp only [ZZ]; omega) | go_size))⟩
end Go.Proofs.YtoiopnmphbnjaaaGreatDoor
