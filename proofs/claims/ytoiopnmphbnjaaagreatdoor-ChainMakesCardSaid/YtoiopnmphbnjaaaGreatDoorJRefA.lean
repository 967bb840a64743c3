/- Contracts and lemmas for the given statements. Conditions: those alone that each names. -/
import Derived.Test.YtoiopnmphbnjaaaGreatDoorJNatW1
import Derived.Test.YtoiopnmphbnjaaaGreatDoorJNatW5
set_option maxHeartbeats 4000000
namespace Go.Proofs.YtoiopnmphbnjaaaGreatDoor
open Go.RowKit
set_option linter.unusedSimpArgs false
set_option linter.unusedVariables false
set_option maxRecDepth 20000
attribute [local irreducible] nv wp
/-! ## the reference's naturals: Trim, word, Cmp, Add, Sub -/
theorem rtrim_any (A : Option Addr) (l : List Nat) (n c : Nat) (w : World) (hl : l.length = n) (hn : n ≤ 1099511627776) (hcap : n ≤ c) (hW : W32 l) (h : RdW w w.heap.size A l) :
   Calls Tryz.prog 137 #[.slice A n c] w fun e w' => ∃ A' c', e = .returned (.slice A' (dig (nv l)).length c') ∧ OwW w' w.heap.size A' c' (dig (nv l)) ∧ Below w.heap.size w w' := by
 subst hl
 have HW := Lib.hid hW
 go_enter Tryz.func137, Tryz.ntmps137
 go_wp2
 go_loop [3] (fun t => ∃ m : Nat, m ≤ l.length ∧ t = .int .i64 m ∧ (∀ i, m ≤ i → l.getD i 0 = 0)) (fun t => (intOf t).toNat)
 case atStart => exact ⟨l.length, Nat.le_refl _, rfl, fun i hi => getD_of_ge hi⟩
 case round =>
   obtain ⟨m, hm, rfl, hz⟩ := hrel
   have HZ := Lib.hid hz
   clear hz
   by_cases hm0 : m = 0
   · subst hm0
     have HE : Hid (dig (nv l) = []) := by
       show dig (nv l) = []
       rw [dig_trim HW.out (k := 0) (Nat.zero_le _) HZ.out (.inl rfl)]; rfl
     go_wp2_with (at_builtin; refine wpList_appW rfl (.tmp 18) (.tmp 21) rfl w.heap.size (some ⟨w.heap.size, 0, none⟩) 0 0 [] rfl (by simp [Act.eval]) (OwW.lit0 (Nat.le_refl _)) w.heap.size A c 0 [] rfl (by simp [Act.eval]) (RdW.nil_ _ _ _) (by omega) (by simp) ?_; intro A' c' w' own' hb' hg')
     go_ret
     rw [HE.out]
     exact ⟨A', c', rfl, own', (by have z0 := Below.size hb'; (try simp only [ZZ] at z0 ⊢; skip); repeat' (first | (with_reducible first | exact BlR _ _ | assumption | refine BlA ?_ ?_ _ | refine BlD ?_ | refine BlN ?_ _ | refine BlS ?_ ?_ _ | refine BlT ?_ (BlM (by assumption) ?_)) | omega | (simp only [ZZ]; omega) | go_size))⟩
   · have hlt : m - 1 < l.length := by omega
     obtain ⟨b, off, rfl, hb, hc⟩ := h.at_ hlt
     have hx := hW.at_ hlt
     have HG := Lib.hid (getD_of_lt hlt)
     by_cases hx0 : l[m - 1] = 0
     · have HN : Hid (∀ i, m - 1 ≤ i → l.getD i 0 = 0) := by
         intro i hi
         by_cases e : i = m - 1
         · rw [e, HG.out, hx0]
         · exact HZ.out i (by omega)
       rw [hx0] at hc
       clear hx0 hx HG
       go_wp2
       go_round
       case rel => exact ⟨m - 1, by omega, by go_num, HN.out⟩
       case measure => simp [intOf]; omega
     · have HE : Hid (dig (nv l) = l.take m) := dig_trim HW.out hm HZ.out (.inr (by rw [HG.out]; exact hx0))
       have hx1 : (((l[m - 1] : Nat) : Int) == 0) = false := by simpa using hx0
       have hml : (l.take m).length = m := by rw [List.length_take]; omega
       have HL := Lib.hid hml
       generalize l[m - 1] = x at *
       clear hx0 HG hml
       have hm1 : ((m : Int) == 0) = false := by simpa using hm0
       go_wp2_with (at_builtin; refine wpList_appW rfl (.tmp 18) (.tmp 21) rfl w.heap.size (some ⟨w.heap.size, 0, none⟩) 0 0 [] rfl (by simp [Act.eval]) (OwW.lit0 (Nat.le_refl _)) w.heap.size (some ⟨b, off, none⟩) c m (l.take m) HL.out (by simp [Act.eval]) ((h.take hm).on ((Below.refl _ _).alloc (Nat.le_refl _) _) (Nat.le_refl _)) (by omega) (by simp) ?_; intro A' c' w' own' hb' hg')
       go_ret
       rw [HE.out, HL.out]
       exact ⟨A', c', by simp, by simpa using own', (by have z0 := Below.size hb'; (try simp only [ZZ] at z0 ⊢; skip); repeat' (first | (with_reducible first | exact BlR _ _ | assumption | refine BlA ?_ ?_ _ | refine BlD ?_ | refine BlN ?_ _ | refine BlS ?_ ?_ _ | refine BlT ?_ (BlM (by assumption) ?_)) | omega | (simp only [ZZ]; omega) | go_size))⟩
theorem rword_in (A : Option Addr) (l : List Nat) (n c i : Nat) (w : World) (hl : l.length = n) (hn : n ≤ 1099511627776) (hW : W32 l) (h : RdW w w.heap.size A l) (hi : i < n) :
   Calls Tryz.prog 136 #[.slice A n c, .int .i64 (i : Int)] w fun e w' => e = .returned (.int .u64 (l.getD i 0 : Nat)) ∧ w = w' := by
 subst hl
 have hg : Hid (l.getD i 0 = l[i]) := getD_of_lt hi
 rw [hg.out]
 obtain ⟨b, off, rfl, hb, hc⟩ := h.at_ hi
 have hx := hW.at_ hi
 generalize l[i] = x at *
 clear hg
 go_enter Tryz.func136, Tryz.ntmps136
 go_wp2
 go_ret
 exact ⟨rfl, rfl⟩
theorem rword_out (A : Option Addr) (n c i : Nat) (w : World) (hn : n ≤ 1099511627776) (hi : ¬ i < n) :
   Calls Tryz.prog 136 #[.slice A n c, .int .i64 (i : Int)] w fun e w' => e = .returned (.int .u64 0) ∧ w = w' := by
 go_enter Tryz.func136, Tryz.ntmps136
 go_wp2
 go_ret
 exact ⟨rfl, rfl⟩
/-- word i, 0 beyond the end -/
theorem rword_any (A : Option Addr) (l : List Nat) (n c i : Nat) (w : World) (hl : l.length = n) (hn : n ≤ 1099511627776) (hW : W32 l) (h : RdW w w.heap.size A l) :
   Calls Tryz.prog 136 #[.slice A n c, .int .i64 (i : Int)] w fun e w' => e = .returned (.int .u64 (l.getD i 0 : Nat)) ∧ w = w' := by
 by_cases hi : i < n
 · exact rword_in A l n c i w hl hn hW h hi
 · rw [getD_of_ge (by omega)]
   exact rword_out A n c i w hn hi
/-- words of any two lists, compared from the top -/
theorem padR {l : List Nat} {N : Nat} (h : l.length ≤ N) : nv (l ++ List.replicate (N - l.length) 0) = nv l ∧ (l ++ List.replicate (N - l.length) 0).length = N ∧ ∀ j, (l ++ List.replicate (N - l.length) 0).getD j 0 = l.getD j 0 := by
 refine ⟨by rw [nv_append, nv_replicate]; omega, by rw [List.length_append, List.length_replicate]; omega, fun j => ?_⟩
 rw [List.getD_eq_getElem?_getD, List.getD_eq_getElem?_getD, List.getElem?_append]
 split
 · rfl
 · rw [List.getElem?_replicate, List.getElem?_eq_none (by omega)]
   split <;> rfl
theorem cmpR_at {l m : List Nat} (hl : W32 l) (hm : W32 m) (k : Nat) (hs : ∀ j, k + 1 ≤ j → l.getD j 0 = m.getD j 0) (hlt : l.getD k 0 < m.getD k 0) : cmpN (nv l) (nv m) = -1 ∧ cmpN (nv m) (nv l) = 1 := by
 obtain ⟨N, h1, h2, h3⟩ : ∃ N, l.length ≤ N ∧ m.length ≤ N ∧ k < N := ⟨l.length + m.length + k + 1, by omega, by omega, by omega⟩
 obtain ⟨e1, e2, e3⟩ := padR h1
 obtain ⟨f1, f2, f3⟩ := padR h2
 have := nv_lt_of (hl.append (W32.replicate _)) (hm.append (W32.replicate _)) k (by rw [e2, f2]) (by rw [e2]; exact h3) (fun j hj => by rw [e3, f3]; exact hs j hj) (by rw [e3, f3]; exact hlt)
 rw [e1, f1] at this
 exact ⟨cmpN_lt this, cmpN_gt this⟩
theorem cmpR_end {l m : List Nat} (hs : ∀ j, 0 ≤ j → l.getD j 0 = m.getD j 0) : cmpN (nv l) (nv m) = 0 := by
 obtain ⟨N, h1, h2⟩ : ∃ N, l.length ≤ N ∧ m.length ≤ N := ⟨l.length + m.length, by omega, by omega⟩
 obtain ⟨e1, e2, e3⟩ := padR h1
 obtain ⟨f1, f2, f3⟩ := padR h2
 apply cmpN_eq
 rw [← e1, ← f1]
 exact congrArg nv (nv_eq_of (by rw [e2, f2]) (fun j => by rw [e3, f3]; exact hs j (Nat.zero_le _)))
theorem rcmp_any (A B : Option Addr) (l m : List Nat) (n c n' c' : Nat) (w : World) (hl : l.length = n) (hm : m.length = n') (hn : n ≤ 1099511627776) (hn' : n' ≤ 1099511627776) (hW : W32 l) (hW' : W32 m)
   (h : RdW w w.heap.size A l) (h' : RdW w w.heap.size B m) :
   Calls Tryz.prog 98 #[.slice A n c, .slice B n' c'] w fun e w' => e = .returned (.int .i64 (cmpN (nv l) (nv m))) ∧ w = w' := by
 obtain ⟨N, hNl, hNm, hN, hNE⟩ : ∃ N, n ≤ N ∧ n' ≤ N ∧ N ≤ 1099511627776 ∧ (N = n ∧ n' ≤ n ∨ N = n' ∧ n < n') := by
   rcases Nat.lt_or_ge n n' with h1 | h1
   · exact ⟨n', by omega, Nat.le_refl _, hn', .inr ⟨rfl, h1⟩⟩
   · exact ⟨n, Nat.le_refl _, h1, hn, .inl ⟨rfl, h1⟩⟩
 have HW := Lib.hid hW
 have HW' := Lib.hid hW'
 have HL := Lib.hid hl
 have HM := Lib.hid hm
 have K1 := Lib.hid (fun i => rword_any A l n c i w hl hn hW h)
 have K2 := Lib.hid (fun i => rword_any B m n' c' i w hm hn' hW' h')
 clear hl hm
 rcases hNE with ⟨hE, hle⟩ | ⟨hE, hle⟩
 all_goals
   have HE := Lib.hid hE
   clear hE
   go_enter Tryz.func98, Tryz.ntmps98
   go_wp2
   go_loop [5] (fun i => ∃ k : Nat, k ≤ N ∧ i = .int .i64 ((k : Int) - 1) ∧ (∀ j, k ≤ j → l.getD j 0 = m.getD j 0)) (fun i => (intOf i + 1).toNat)
   case atStart => exact ⟨N, Nat.le_refl _, by have := HE.out; apply vint; omega, fun j hj => by rw [getD_of_ge (by have := HL.out; omega), getD_of_ge (by have := HM.out; omega)]⟩
   case round =>
     obtain ⟨k, hk, hi, hs⟩ := hrel
     have HS := Lib.hid hs
     clear hs
     rcases k with _ | k
     · obtain rfl := hi
       have HE : Hid (cmpN (nv l) (nv m) = 0) := cmpR_end HS.out
       go_wp2
       go_ret
       exact ⟨by rw [HE.out]; rfl, rfl⟩
     · have hi' := hi.trans (vint (k := .i64) (show (((k + 1 : Nat) : Int) - 1) = (k : Int) by omega))
       clear hi
       obtain rfl := hi'
       have hx := hW.getD k
       have hy := hW'.getD k
       have HXY : Hid (l.getD k 0 = m.getD k 0 → ∀ j, k ≤ j → l.getD j 0 = m.getD j 0) := by
         intro he j hj
         by_cases e : j = k
         · rw [e, he]
         · exact HS.out j (by omega)
       have HLT : Hid (l.getD k 0 < m.getD k 0 → cmpN (nv l) (nv m) = -1) := fun hlt => (cmpR_at HW.out HW'.out k HS.out hlt).1
       have HGT : Hid (m.getD k 0 < l.getD k 0 → cmpN (nv l) (nv m) = 1) := fun hlt => (cmpR_at HW'.out HW.out k (fun j hj => (HS.out j hj).symm) hlt).2
       have K1k := Lib.hid (K1.out k)
       have K2k := Lib.hid (K2.out k)
       generalize l.getD k 0 = x at *
       generalize m.getD k 0 = y at *
       rcases Nat.lt_trichotomy x y with hxy | hxy | hxy
       · have HR := Lib.hid (HLT.out hxy)
         go_wp2_with (first | (go_at_call 136; (with_reducible refine (K1k.out).mono ?_); rintro e _ ⟨rfl, rfl⟩) | (go_at_call 136; (with_reducible refine (K2k.out).mono ?_); rintro e _ ⟨rfl, rfl⟩))
         go_ret
         exact ⟨by rw [HR.out]; rfl, rfl⟩
       · have HT := Lib.hid (HXY.out hxy)
         subst hxy
         go_wp2_with (first | (go_at_call 136; (with_reducible refine (K1k.out).mono ?_); rintro e _ ⟨rfl, rfl⟩) | (go_at_call 136; (with_reducible refine (K2k.out).mono ?_); rintro e _ ⟨rfl, rfl⟩))
         go_round
         case rel => exact ⟨k, by omega, by go_num, HT.out⟩
         case measure => simp [intOf]
       · have HR := Lib.hid (HGT.out hxy)
         go_wp2_with (first | (go_at_call 136; (with_reducible refine (K1k.out).mono ?_); rintro e _ ⟨rfl, rfl⟩) | (go_at_call 136; (with_reducible refine (K2k.out).mono ?_); rintro e _ ⟨rfl, rfl⟩))
         go_ret
         exact ⟨by rw [HR.out]; rfl, rfl⟩
end Go.Proofs.YtoiopnmphbnjaaaGreatDoor
namespace Go.Proofs.YtoiopnmphbnjaaaGreatDoor
open Go.RowKit
set_option linter.unusedSimpArgs false
set_option linter.unusedVariables false
set_option maxRecDepth 20000
attribute [local irreducible] nv wp
/-! ## the reference's Add, Sub -/
theorem radd_any (A B : Option Addr) (l m : List Nat) (n c n' c' : Nat) (w : World) (hl : l.length = n) (hm : m.length = n') (hn : n ≤ 549755813888) (hn' : n' ≤ 549755813888) (hW : W32 l) (hW' : W32 m)
   (h : RdW w w.heap.size A l) (h' : RdW w w.heap.size B m) :
   Calls Tryz.prog 97 #[.slice A n c, .slice B n' c'] w fun e w' => ∃ A' c'', e = .returned (.slice A' (dig (nv l + nv m)).length c'') ∧ OwW w' w.heap.size A' c'' (dig (nv l + nv m)) ∧ Below w.heap.size w w' := by
 subst hl hm
 obtain ⟨N, hNl, hNm, hN, hNE⟩ : ∃ N, l.length ≤ N ∧ m.length ≤ N ∧ N ≤ 549755813888 ∧ (N = l.length ∧ m.length ≤ l.length ∧ N ≤ l.length ∨ N = m.length ∧ l.length < m.length ∧ N ≤ m.length) := by
   rcases Nat.lt_or_ge l.length m.length with h1 | h1
   · exact ⟨m.length, by omega, Nat.le_refl _, hn', .inr ⟨rfl, h1, Nat.le_refl _⟩⟩
   · exact ⟨l.length, Nat.le_refl _, h1, hn, .inl ⟨rfl, h1, Nat.le_refl _⟩⟩
 rcases hNE with ⟨hE, hle, hNle⟩ | ⟨hE, hle, hNle⟩
 all_goals
   have HE := Lib.hid hE
   clear hE
   go_enter Tryz.func97, Tryz.ntmps97
   go_wp2
   go_loopw [5, 6, 15] (fun u cy i wr => ∃ (k cc : Nat) (o : List Nat) (A' : Option Addr) (c1 : Nat), k ≤ N + 1 ∧ i = .int .i64 k ∧ cy = .int .u64 cc ∧ u = .slice A' k c1 ∧ cc ≤ 1 ∧ o.length = k ∧ W32 o ∧ nv o + wp k * cc = nv (l.take k) + nv (m.take k) ∧ OwW wr w.heap.size A' c1 o ∧ Below w.heap.size w wr) (fun _ _ i _ => N + 1 - (intOf i).toNat)
   case atStart => exact ⟨0, 0, [], none, 0, Nat.zero_le _, rfl, rfl, rfl, by omega, rfl, W32.nil, by simp [nv_nil], OwW.nil_ _ _, Below.refl _ _⟩
   case round =>
     obtain ⟨k, cc, o, A', c1, hk, rfl, rfl, rfl, hcc, hol, hoW, heq, own, hb⟩ := hrel
     have HOL := Lib.hid hol
     have HOW := Lib.hid hoW
     have HQ := Lib.hid heq
     clear hol hoW heq
     have hbz := hb.size
     by_cases hlt : k < N + 1
     · have K1 := fun W hW2 => rword_any A l l.length c k W rfl (by omega) hW hW2
       have K2 := fun W hW2 => rword_any B m m.length c' k W rfl (by omega) hW' hW2
       have hx := hW.getD k
       have hy := hW'.getD k
       have HL := Lib.hid (nv_take_getD l k)
       have HM := Lib.hid (nv_take_getD m k)
       generalize l.getD k 0 = x at *
       generalize m.getD k 0 = y at *
       obtain ⟨s, hs⟩ : ∃ s, s = cc + (x + y) := ⟨_, rfl⟩
       have HS := Lib.hid (add_step (s := s) k HQ.out hs)
       have hc2 := add_carry hcc hx hy
       rw [← hs] at hc2
       have es : (cc : Int) + ((x : Int) + (y : Int)) = (s : Int) := by omega
       have es2 : ((x : Int) + (y : Int)) + (cc : Int) = (s : Int) := by omega
       have e1 : IntKind.u32.wrap (s : Int) = ((s % 4294967296 : Nat) : Int) := by rw [IntKind.wrap_u32]; omega
       have e2 : (s : Int) / 4294967296 = ((s / 4294967296 : Nat) : Int) := by omega
       have hlo : s % 4294967296 < 4294967296 := by omega
       have hs64 : s < 18446744073709551616 := by omega
       clear hs
       generalize s % 4294967296 = lo at *
       generalize s / 4294967296 = hi at *
       have K1 := Lib.hid (K1 _ (h.on hb hbz))
       have K2 := Lib.hid (K2 _ (h'.on hb hbz))
       go_wp2_with (first | (go_at_call 136; (with_reducible refine (K1.out).mono ?_); rintro e _ ⟨rfl, rfl⟩) | (go_at_call 136; (with_reducible refine (K2.out).mono ?_); rintro e _ ⟨rfl, rfl⟩) | (at_builtin; refine wpList_appW rfl (.tmp 27) (.tmp 30) rfl w.heap.size A' c1 k o HOL.out (by simp [Act.eval]) (own.alloc _) (wr.heap.size + 1) (some ⟨wr.heap.size, 0, none⟩) 1 1 [lo] rfl (by simp [Act.eval]) (RdW.new1 (by simp) (by simp)) (by omega) (by simp; omega) ?_; intro A2 c2 w2 own2 hb2 hg2))
       go_roundw
       case rel => exact ⟨k + 1, hi, o ++ [lo], A2, c2, by omega, by go_num, rfl, by simp, hc2, by simpa using HOL.out, HOW.out.append (W32.one hlo), by rw [nv_snoc, HOL.out, HL.out, HM.out]; exact HS.out, own2, hb.trans (((Below.refl _ _).alloc hbz _).trans hb2)⟩
       case measure => simp [intOf]; omega
     · have hfin : nv o = nv l + nv m := by
         have h1 := HQ.out
         have e : k = N + 1 := by omega
         subst e
         rw [nv_take_all (by omega), nv_take_all (by omega)] at h1
         have h2 : nv (o.take (N + 1)) + wp (N + 1) * cc = nv l + nv m := by rw [nv_take_all (by have := HOL.out; omega)]; exact h1
         have := add_end h1 (Nat.lt_of_lt_of_le (nv_lt hW) (wp_le hNl)) (Nat.lt_of_lt_of_le (nv_lt hW') (wp_le hNm))
         exact this
       have K := rtrim_any A' o k c1 wr HOL.out (by omega) (by have := own.cap; have := HOL.out; omega) HOW.out own.rd
       rw [hfin] at K
       have K := Lib.hid K
       clear hfin HQ
       (go_wp2_with fail; (with_reducible refine (K.out).mono ?_); rintro e w2 ⟨A1, c3, rfl, own2, hb2⟩; have hb2z := Below.size hb2; (try simp only [ZZ] at hb2z))
       go_wp2
       go_ret
       exact ⟨A1, c3, rfl, own2.base_ (by omega), (by have z0 := Below.size hb; have z1 := Below.size hb2; (try simp only [ZZ] at z0 z1 ⊢; skip); repeat' (first | (with_reducible first | exact BlR _ _ | assumption | refine BlA ?_ ?_ _ | refine BlD ?_ | refine BlN ?_ _ | refine BlS ?_ ?_ _ | refine BlT ?_ (BlM (by assumption) ?_)) | omega | (simp only [ZZ]; omega) | go_size))⟩
theorem rsub_any (A B : Option Addr) (l m : List Nat) (n c n' c' : Nat) (w : World) (hl : l.length = n) (hm : m.length = n') (hn : n ≤ 549755813888) (hn' : n' ≤ 549755813888) (hW : W32 l) (hW' : W32 m)
   (h : RdW w w.heap.size A l) (h' : RdW w w.heap.size B m) (hle : nv m ≤ nv l) :
   Calls Tryz.prog 99 #[.slice A n c, .slice B n' c'] w fun e w' => ∃ A' c'', e = .returned (.tuple #[.slice A' (dig (nv l - nv m)).length c'', .int .i64 0]) ∧ OwW w' w.heap.size A' c'' (dig (nv l - nv m)) ∧ Below w.heap.size w w' := by
 have K0 := rcmp_any A B l m n c n' c' w hl hm (by omega) (by omega) hW hW' h h'
 subst hl hm
 have hq : 0 ≤ cmpN (nv l) (nv m) ∧ cmpN (nv l) (nv m) ≤ 1 := by unfold cmpN; split; omega; split <;> omega
 generalize cmpN (nv l) (nv m) = q at *
 obtain ⟨hq0, hq1⟩ := hq
 have K0 := Lib.hid K0
 have HLE := Lib.hid hle
 clear hle
 go_enter Tryz.func99, Tryz.ntmps99
 go_wp2_with (first | (go_at_call 98; (with_reducible refine (K0.out).mono ?_); rintro e _ ⟨rfl, rfl⟩) | fail)
 go_loopw [6, 7, 16] (fun u br i wr => ∃ (k r : Nat) (o : List Nat) (A' : Option Addr) (c1 : Nat), k ≤ l.length ∧ i = .int .i64 k ∧ br = .int .u64 r ∧ u = .slice A' k c1 ∧ r ≤ 1 ∧ o.length = k ∧ W32 o ∧ nv o + nv (m.take k) = nv (l.take k) + wp k * r ∧ OwW wr w.heap.size A' c1 o ∧ Below w.heap.size w wr) (fun _ _ i _ => l.length - (intOf i).toNat)
 case atStart => exact ⟨0, 0, [], none, 0, Nat.zero_le _, rfl, rfl, rfl, by omega, rfl, W32.nil, by simp [nv_nil], OwW.nil_ _ _, Below.refl _ _⟩
 case round =>
   obtain ⟨k, r, o, A', c1, hk, rfl, rfl, rfl, hr, hol, hoW, heq, own, hb⟩ := hrel
   have HOL := Lib.hid hol
   have HOW := Lib.hid hoW
   have HQ := Lib.hid heq
   clear hol hoW heq
   have hbz := hb.size
   by_cases hlt : k < l.length
   · have K1 := fun W hW2 => rword_any A l l.length c k W rfl (by omega) hW hW2
     have K2 := fun W hW2 => rword_any B m m.length c' k W rfl (by omega) hW' hW2
     have hx := hW.getD k
     have hy := hW'.getD k
     have HL := Lib.hid (nv_take_getD l k)
     have HM := Lib.hid (nv_take_getD m k)
     generalize l.getD k 0 = x at *
     generalize m.getD k 0 = y at *
     obtain ⟨d1, d, e1, e2, hd64, hd⟩ := sub_words x y r hx hy hr
     have HQ2 : nv (o.take k) + nv (m.take k) = nv (l.take k) + wp k * r := by rw [nv_take_all (by have := HOL.out; omega)]; exact HQ.out
     obtain ⟨hs1, hs2⟩ := sub_step k HQ2 hd hd64 hx hy hr
     rw [nv_take_all (by have := HOL.out; omega)] at hs1
     have HS := Lib.hid hs1
     have e3 : IntKind.u32.wrap (d : Int) = ((d % 4294967296 : Nat) : Int) := by rw [IntKind.wrap_u32]; omega
     have e4 : (d : Int) / 9223372036854775808 = ((d / 9223372036854775808 : Nat) : Int) := by omega
     have hlo : d % 4294967296 < 4294967296 := by omega
     clear hd hs1 HQ2
     generalize d % 4294967296 = lo at *
     generalize d / 9223372036854775808 = hi at *
     have K1 := Lib.hid (K1 _ (h.on hb hbz))
     have K2 := Lib.hid (K2 _ (h'.on hb hbz))
     go_wp2_with (first | (go_at_call 136; (with_reducible refine (K1.out).mono ?_); rintro e _ ⟨rfl, rfl⟩) | (go_at_call 136; (with_reducible refine (K2.out).mono ?_); rintro e _ ⟨rfl, rfl⟩) | (at_builtin; refine wpList_appW rfl (.tmp 28) (.tmp 31) rfl w.heap.size A' c1 k o HOL.out (by simp [Act.eval]) (own.alloc _) (wr.heap.size + 1) (some ⟨wr.heap.size, 0, none⟩) 1 1 [lo] rfl (by simp [Act.eval]) (RdW.new1 (by simp) (by simp)) (by omega) (by simp; omega) ?_; intro A2 c2 w2 own2 hb2 hg2))
     go_roundw
     case rel => exact ⟨k + 1, hi, o ++ [lo], A2, c2, by omega, by go_num, rfl, by simp, hs2, by simpa using HOL.out, HOW.out.append (W32.one hlo), by rw [nv_snoc, HOL.out, HL.out, HM.out]; exact HS.out, own2, hb.trans (((Below.refl _ _).alloc hbz _).trans hb2)⟩
     case measure => simp [intOf]; omega
   · have hfin : nv o = nv l - nv m := by
       have h1 := HQ.out
       have e : k = l.length := by omega
       rw [e] at h1
       exact sub_fin hW HOW.out (by rw [HOL.out, e]) (by rw [nv_take_all (by have := HOL.out; omega)]; exact h1) HLE.out
     have K := rtrim_any A' o k c1 wr HOL.out (by omega) (by have := own.cap; have := HOL.out; omega) HOW.out own.rd
     rw [hfin] at K
     have K := Lib.hid K
     clear hfin HQ
     (go_wp2_with fail; (with_reducible refine (K.out).mono ?_); rintro e w2 ⟨A1, c3, rfl, own2, hb2⟩; have hb2z := Below.size hb2; (try simp only [ZZ] at hb2z))
     go_wp2
     go_ret2
     exact ⟨A1, c3, rfl, own2.base_ (by omega), (by have z0 := Below.size hb; have z1 := Below.size hb2; (try simp only [ZZ] at z0 z1 ⊢; skip); repeat' (first | (with_reducible first | exact BlR _ _ | assumption | refine BlA ?_ ?_ _ | refine BlD ?_ | refine BlN ?_ _ | refine BlS ?_ ?_ _ | refine BlT ?_ (BlM (by assumption) ?_)) | omega | (simp only [ZZ]; omega) | go_size))⟩
end Go.Proofs.YtoiopnmphbnjaaaGreatDoor
namespace Go.Proofs.YtoiopnmphbnjaaaGreatDoor
open Go.RowKit
set_option linter.unusedSimpArgs false
set_option linter.unusedVariables false
set_option maxRecDepth 20000
attribute [local irreducible] nv wp
/-! ## the reference's Mul -/
theorem mulR_fit {l : List Nat} {i x b M : Nat} (hl : W32 l) (hx : x < 4294967296) (hM : M < wp b) : nv (l.take i) * M + wp i * (x * M) < wp (i + (b + 1)) := by
 have h1 : nv (l.take i) + wp i * x < wp (i + 1) := by
   have h0 := nv_take_lt hl i
   have h2 : wp i * x ≤ wp i * 4294967295 := Nat.mul_le_mul_left _ (by omega)
   have h3 := wp_succ i
   omega
 have h2 : nv (l.take i) * M + wp i * (x * M) = (nv (l.take i) + wp i * x) * M := by rw [Nat.add_mul, Nat.mul_assoc]
 rw [h2, show i + (b + 1) = (i + 1) + b by omega, wp_add]
 exact Nat.mul_lt_mul'' h1 hM
theorem rmul_any (A B : Option Addr) (l m : List Nat) (n c n' c' : Nat) (w : World) (hl : l.length = n) (hm : m.length = n') (hn : n ≤ 274877906944) (hn' : n' ≤ 274877906944) (hW : W32 l) (hW' : W32 m)
   (h : RdW w w.heap.size A l) (h' : RdW w w.heap.size B m) :
   Calls Tryz.prog 95 #[.slice A n c, .slice B n' c'] w fun e w' => ∃ A' c'', e = .returned (.slice A' (dig (nv l * nv m)).length c'') ∧ OwW w' w.heap.size A' c'' (dig (nv l * nv m)) ∧ Below w.heap.size w w' := by
 subst hl hm
 go_enter Tryz.func95, Tryz.ntmps95
 go_wp2_with (at_make; refine wpList_makeW rfl (.tmp 16) (.tmp 16) rfl w.heap.size (l.length + m.length + 1) _ _ rfl rfl (by omega) (by omega) (by omega) (Nat.le_refl _) ?_; intro w1 own1 hb1)
 obtain ⟨g, hg⟩ : ∃ g, g = w.heap.size := ⟨_, rfl⟩
 have own1' : OwG w1 w.heap.size g (l.length + m.length + 1) (List.replicate (l.length + m.length + 1) 0) := by rw [hg]; exact own1
 rw [← hg]
 have hgz : w.heap.size ≤ g := by omega
 clear hg own1
 go_loopw [20] (fun ii wr => ∃ (i : Nat) (o : List Nat), i ≤ l.length ∧ ii = .int .i64 i ∧ o.length = l.length + m.length + 1 ∧ W32 o ∧ nv o = nv (l.take i) * nv m ∧ OwG wr w.heap.size g (l.length + m.length + 1) o ∧ Below w.heap.size w wr) (fun ii _ => l.length - (intOf ii).toNat)
 case atStart => exact ⟨0, _, Nat.zero_le _, rfl, by simp, W32.replicate _, by simp [nv_nil, nv_replicate], own1', hb1⟩
 case round =>
   obtain ⟨i, o, hi, rfl, hol, hoW, heq, own, hb⟩ := hrel
   have HOL := Lib.hid hol
   have HOW := Lib.hid hoW
   have HQ := Lib.hid heq
   clear hol hoW heq own1' hb1
   have hbz := hb.size
   obtain ⟨wo, rfl⟩ : ∃ wo : World, wo = wr := ⟨_, rfl⟩
   by_cases hlt : i < l.length
   · obtain ⟨b1, o1, rfl, hbb1, y1⟩ := (h.below hb).at_ hlt
     have hx := hW.at_ hlt
     have HX := Lib.hid (getD_of_lt hlt)
     generalize l[i] = x at *
     go_wp2
     go_loopw [8, 28] (fun cy kk wr => ∃ (k cc : Nat) (o' : List Nat), k ≤ m.length + 1 ∧ kk = .int .i64 k ∧ cy = .int .u64 cc ∧ cc < 4294967296 ∧ o'.length = l.length + m.length + 1 ∧ W32 o' ∧ nv o' + wp (i + k) * cc = nv o + wp i * (x * nv (m.take k)) ∧ OwG wr w.heap.size g (l.length + m.length + 1) o' ∧ Below w.heap.size w wr) (fun _ kk _ => m.length + 1 - (intOf kk).toNat)
     case atStart => exact ⟨0, 0, o, Nat.zero_le _, rfl, rfl, by omega, HOL.out, HOW.out, by simp [nv_nil], own, hb⟩
     case round =>
       obtain ⟨k, cc, o', hk, rfl, rfl, hcc, hol', hoW', heq', own', hb'⟩ := hrel
       have HOL' := Lib.hid hol'
       have HOW' := Lib.hid hoW'
       have HQ' := Lib.hid heq'
       clear hol' hoW' heq'
       have hbz' := hb'.size
       by_cases hlt2 : k < m.length + 1
       · have hy := hW'.getD k
         have HY := Lib.hid (nv_take_getD m k)
         have K2 := fun W hW2 => rword_any B m m.length c' k W rfl (by omega) hW' hW2
         generalize m.getD k 0 = y at *
         have hlt3 : i + k < o'.length := by have := HOL'.out; omega
         have y3 := own'.cell hlt3
         have y4 := own'.frozen (i + k)
         have hz := HOW'.out.at_ hlt3
         have HS0 := fun s => Lib.hid (nv_set hlt3 s)
         generalize o'[i + k] = z at *
         have hbd := mul_bound hcc hx hy hz
         obtain ⟨p, hp⟩ : ∃ p, p = x * y := ⟨_, rfl⟩
         obtain ⟨s, hs⟩ : ∃ s, s = cc + (x * y + z) := ⟨_, rfl⟩
         have HS := Lib.hid (mul_step (O := nv o') (O' := nv (o'.set (i + k) (s % 4294967296))) i k HQ'.out hs (HS0 _).out)
         rw [← hs] at hbd
         obtain ⟨hs64, hc2⟩ := hbd
         have ep : (x : Int) * (y : Int) = (p : Int) := by rw [hp]; exact (Int.natCast_mul x y).symm
         rw [← hp] at hs
         have hp64 : p < 18446744073709551616 := by omega
         have e0 : IntKind.u64.wrap ((x : Int) * (y : Int)) = (p : Int) := by rw [ep, IntKind.wrap_u64]; omega
         have es : (p : Int) + (z : Int) + (cc : Int) = (s : Int) := by omega
         have es2 : IntKind.u64.wrap ((p : Int) + (z : Int)) = (p : Int) + (z : Int) := by rw [IntKind.wrap_u64]; omega
         have es3 : IntKind.u64.wrap (s : Int) = (s : Int) := by rw [IntKind.wrap_u64]; omega
         have e1 : IntKind.u32.wrap (s : Int) = ((s % 4294967296 : Nat) : Int) := by rw [IntKind.wrap_u32]; omega
         have e2 : (s : Int) / 4294967296 = ((s / 4294967296 : Nat) : Int) := by omega
         have hlo : s % 4294967296 < 4294967296 := by omega
         clear hs hp HS0 hlt3
         generalize s % 4294967296 = lo at *
         generalize s / 4294967296 = hi2 at *
         have f1 := fun y : Sub wr => y.cell y3
         have L2 := Lib.hid (fun y : Sub wr => K2 y.x ((h'.on hb' hbz').on y.bel y.bel.size))
         clear K2
         go_wp2
         ((refine wp_region_quiet_bel (by kernel_rfl) (by kernel_rfl) ?_); (repeat (go_big_quiet_step ((go_at_call 136; with_reducible exact Calls.quiet_same (L2.out _))))); (refine wpQuiet_nil ?_); rintro w5 ⟨⟨_, hb5⟩, rfl⟩; (try dsimp only))
         have own5 := own'.below hb5
         have y5 := own5.frozen (i + k)
         have hlt5 : i + k < o'.length := by have := HOL'.out; omega
         have y6 := own5.cell hlt5
         have hb5z := hb5.size
         have hb6 : Below w.heap.size w w5 := (by have z0 := Below.size hb'; have z1 := Below.size hb5; (try simp only [ZZ] at z0 z1 ⊢; skip); repeat' (first | (with_reducible first | exact BlR _ _ | assumption | refine BlA ?_ ?_ _ | refine BlD ?_ | refine BlN ?_ _ | refine BlS ?_ ?_ _ | refine BlT ?_ (BlM (by assumption) ?_)) | omega | (simp only [ZZ]; omega) | go_size))
         clear f1 y3 y4
         go_wp2
         go_roundw
         case rel => exact ⟨k + 1, hi2, o'.set (i + k) lo, by omega, by go_num, rfl, hc2, by simpa using HOL'.out, HOW'.out.set _ _ hlo, by rw [HY.out]; exact HS.out, own5.set (i + k) lo, hb6.setCell hgz _⟩
         case measure => simp [intOf]; omega
       · have hkE : k = m.length + 1 := by omega
         have HF : Hid (nv o' = nv (l.take (i + 1)) * nv m) := by
           have h1 := HQ'.out
           rw [hkE, nv_take_all (by omega), HQ.out] at h1
           have h2 := mulR_fit (i := i) hW hx (nv_lt hW')
           have h3 : cc = 0 := by
             rcases Nat.eq_zero_or_pos cc with h | h
             · exact h
             · have := Nat.le_mul_of_pos_right (wp (i + (m.length + 1))) h
               omega
           rw [h3, Nat.mul_zero, Nat.add_zero] at h1
           show nv o' = nv (l.take (i + 1)) * nv m
           rw [h1]
           exact mul_take hlt HX.out rfl
         clear hkE
         go_wp2
         go_roundw
         case rel => exact ⟨i + 1, o', by omega, by go_num, HOL'.out, HOW'.out, HF.out, own', hb'⟩
         case measure => simp [intOf]; omega
   · have hfin : nv o = nv l * nv m := by rw [HQ.out, nv_take_all (by omega)]
     have K := rtrim_any (some ⟨g, 0, none⟩) o (l.length + m.length + 1) (l.length + m.length + 1) wo HOL.out (by omega) (by omega) HOW.out own.rd
     rw [hfin] at K
     have K := Lib.hid K
     clear hfin HQ
     (go_wp2_with fail; (with_reducible refine (K.out).mono ?_); rintro e w2 ⟨A1, c1, rfl, own2, hb2⟩; have hb2z := Below.size hb2; (try simp only [ZZ] at hb2z))
     go_wp2
     go_ret
     exact ⟨A1, c1, rfl, own2.base_ (by omega), (by have z0 := Below.size hb; have z1 := Below.size hb2; (try simp only [ZZ] at z0 z1 ⊢; skip); repeat' (first | (with_reducible first | exact BlR _ _ | assumption | refine BlA ?_ ?_ _ | refine BlD ?_ | refine BlN ?_ _ | refine BlS ?_ ?_ _ | refine BlT ?_ (BlM (by assumption) ?_)) | omega | (simp only [ZZ]; omega) | go_size))⟩
end Go.Proofs.YtoiopnmphbnjaaaGreatDoor
namespace Go.Proofs.YtoiopnmphbnjaaaGreatDoor
open Go.RowKit
set_option linter.unusedSimpArgs false
set_option linter.unusedVariables false
set_option maxRecDepth 20000
/-! ## the reference's Bits, up, down -/
/-- one more bit of word i -/
theorem bl_bit_one {A x i k : Nat} (hA : A < wp i) (h : x / 2 ^ k % 2 = 1) : bl (A + wp i * (x % 2 ^ (k + 1))) = 32 * i + k + 1 := by
 have e : x % 2 ^ (k + 1) = x % 2 ^ k + 2 ^ k := by rw [Nat.mod_pow_succ, h, Nat.mul_one]
 have h2 : x % 2 ^ k < 2 ^ k := Nat.mod_lt _ (Nat.two_pow_pos k)
 have h0 : x % 2 ^ (k + 1) ≠ 0 := by have := Nat.two_pow_pos k; omega
 rw [bl_top hA h0, bl_unique (m := k) (by omega) (Nat.mod_lt _ (Nat.two_pow_pos _)), Nat.add_assoc]
theorem bl_bit_zero {x k : Nat} (h : x / 2 ^ k % 2 ≠ 1) : x % 2 ^ (k + 1) = x % 2 ^ k := by
 rw [Nat.mod_pow_succ, show x / 2 ^ k % 2 = 0 by omega, Nat.mul_zero, Nat.add_zero]
attribute [local irreducible] nv wp win
theorem rbits_any (A : Option Addr) (l : List Nat) (n c : Nat) (w : World) (hl : l.length = n) (hn : n ≤ 1099511627776) (hW : W32 l) (h : RdW w w.heap.size A l) :
   Calls Tryz.prog 117 #[.slice A n c] w fun e w' => e = .returned (.int .i64 (bl (nv l) : Nat)) ∧ w = w' := by
 subst hl
 go_enter Tryz.func117, Tryz.ntmps117
 go_wp2
 go_loop [3, 9] (fun u ii => ∃ i b : Nat, i ≤ l.length ∧ ii = .int .i64 i ∧ u = .int .i64 b ∧ b = bl (nv (l.take i)) ∧ b ≤ 35184372088832) (fun _ ii => l.length - (intOf ii).toNat)
 case atStart => exact ⟨0, 0, Nat.zero_le _, rfl, rfl, by simp [nv_nil, bl_zero], by omega⟩
 case round =>
   obtain ⟨i, b, hi, rfl, rfl, hb, hb2⟩ := hrel
   have HB := Lib.hid hb
   clear hb
   by_cases hlt : i < l.length
   · obtain ⟨b1, o1, rfl, hbb1, y1⟩ := h.at_ hlt
     have hx := hW.at_ hlt
     have HX := Lib.hid (nv_take_succ hlt)
     generalize l[i] = x at *
     go_wp2
     go_loop [3, 14] (fun u kk => ∃ k b : Nat, k ≤ 32 ∧ kk = .int .i64 k ∧ u = .int .i64 b ∧ b = bl (nv (l.take i) + wp i * (x % 2 ^ k)) ∧ b ≤ 35184372088832) (fun _ kk => 32 - (intOf kk).toNat)
     case atStart => exact ⟨0, b, by omega, rfl, rfl, by rw [Nat.pow_zero, Nat.mod_one, Nat.mul_zero, Nat.add_zero]; exact HB.out, hb2⟩
     case round =>
       obtain ⟨k, b, hk, rfl, rfl, hb, hb3⟩ := hrel
       have HB2 := Lib.hid hb
       clear hb
       by_cases hlt2 : k < 32
       · have e0 : (x : Int) / 2 ^ k = ((x / 2 ^ k : Nat) : Int) := by simp
         have ht : x / 2 ^ k ≤ x := Nat.div_le_self _ _
         have H1 : Hid (x / 2 ^ k % 2 = 1 → bl (nv (l.take i) + wp i * (x % 2 ^ (k + 1))) = 32 * i + k + 1) := bl_bit_one (nv_take_lt hW i)
         have H0 : Hid (x / 2 ^ k % 2 ≠ 1 → x % 2 ^ (k + 1) = x % 2 ^ k) := bl_bit_zero
         generalize x / 2 ^ k = t at *
         have e1 : bits .and .u32 (t : Int) 1 = ((t % 2 : Nat) : Int) := by
           rw [show (1 : Int) = ((1 : Nat) : Int) from rfl, u32_and_nat _ _ (by omega) (by omega), Nat.and_one_is_mod]
         by_cases h1 : t % 2 = 1
         · have HR := Lib.hid (H1.out h1)
           rw [h1] at e1
           clear h1
           go_wp2
           go_round
           case rel => exact ⟨k + 1, 32 * i + k + 1, by omega, by go_num, by go_num, HR.out.symm, by omega⟩
           case measure => simp [intOf]; omega
         · have HR := Lib.hid (H0.out h1)
           rw [show t % 2 = 0 by omega] at e1
           clear h1
           go_wp2
           go_round
           case rel => exact ⟨k + 1, b, by omega, by go_num, by go_num, by rw [HR.out]; exact HB2.out, by omega⟩
           case measure => simp [intOf]; omega
       · have HE : Hid (b = bl (nv (l.take (i + 1)))) := by
           have h1 := HB2.out
           rw [show k = 32 by omega, Nat.mod_eq_of_lt (show x < 2 ^ 32 by omega)] at h1
           show b = bl (nv (l.take (i + 1)))
           rw [HX.out]; exact h1
         go_wp2
         go_round
         case rel => exact ⟨i + 1, b, by omega, by go_num, by go_num, HE.out, by omega⟩
         case measure => simp [intOf]; omega
   · have HF : Hid (b = bl (nv l)) := by have := HB.out; rwa [nv_take_all (by omega)] at this
     go_wp2
     go_ret
     exact ⟨by rw [← HF.out]; rfl, rfl⟩
theorem up_any (A : Option Addr) (l : List Nat) (L c n : Nat) (w : World) (hl : l.length = L) (hn : L ≤ 549755813888) (hW : W32 l) (hn32 : n < 32) (h : RdW w w.heap.size A l) :
   Calls Tryz.prog 159 #[.slice A L c, .int .i64 (n : Int)] w fun e w' => ∃ A' c', e = .returned (.slice A' (dig (nv l * 2 ^ n)).length c') ∧ OwW w' w.heap.size A' c' (dig (nv l * 2 ^ n)) ∧ Below w.heap.size w w' := by
 subst hl
 have HPN := Lib.hid (Nat.pow_le_pow_right (n := 2) (by omega) (show n ≤ 31 by omega))
 go_enter Tryz.func159, Tryz.ntmps159
 go_wp2
 go_loopw [5, 6, 11] (fun u cy ii wr => ∃ (k cc : Nat) (o : List Nat) (A' : Option Addr) (c1 : Nat), k ≤ l.length ∧ ii = .int .i64 k ∧ cy = .int .u64 cc ∧ u = .slice A' k c1 ∧ cc < 2 ^ n ∧ o.length = k ∧ W32 o ∧ nv o + wp k * cc = nv (l.take k) * 2 ^ n ∧ OwW wr w.heap.size A' c1 o ∧ Below w.heap.size w wr) (fun _ _ ii _ => l.length - (intOf ii).toNat)
 case atStart => exact ⟨0, 0, [], none, 0, Nat.zero_le _, rfl, rfl, rfl, Nat.two_pow_pos n, rfl, W32.nil, by simp [nv_nil], OwW.nil_ _ _, Below.refl _ _⟩
 case round =>
   obtain ⟨k, cc, o, A', c1, hk, rfl, rfl, rfl, hcc, hol, hoW, heq, own, hb⟩ := hrel
   have hcc32 : cc < 4294967296 := by have := HPN.out; omega
   have HOL := Lib.hid hol
   have HOW := Lib.hid hoW
   have HQ := Lib.hid heq
   clear hol hoW heq
   have hbz := hb.size
   by_cases hlt : k < l.length
   · obtain ⟨b1, o1, rfl, hbb1, y1⟩ := (h.below hb).at_ hlt
     have hx := hW.at_ hlt
     have HX := Lib.hid (nv_take_succ hlt)
     generalize l[k] = x at *
     have HS := Lib.hid (up_step (x := x) k HQ.out)
     obtain ⟨hu1, hu2, hu3⟩ := up_bound hx hn32
     obtain ⟨y, hy⟩ : ∃ y, y = x * 2 ^ n := ⟨_, rfl⟩
     rw [← hy] at hu1 hu2 hu3
     have e0 : IntKind.u64.wrap ((x : Int) * 2 ^ n) = (y : Int) := by
       have : (x : Int) * 2 ^ n = (y : Int) := by rw [hy]; simp
       rw [this, IntKind.wrap_u64]; omega
     have eor : bits .or .u64 (cc : Int) (y : Int) = ((y + cc : Nat) : Int) := by
       rw [u64_or_nat _ _ (by omega) (by omega), Nat.or_comm, or_add hu3 hcc]
     have hlo2 : y % 4294967296 % 2 ^ n = 0 := mod_pow_mod (by omega) hu3
     have hlo3 : y % 4294967296 < 4294967296 := by omega
     have hvlt : y % 4294967296 + cc < 4294967296 := by
       have h1 := or_add hlo2 hcc
       rw [← h1]; exact Nat.or_lt_two_pow (n := 32) hlo3 hcc32
     have HYE := Lib.hid hy
     obtain ⟨t, ht⟩ : ∃ t, t = y + cc := ⟨_, rfl⟩
     rw [← ht] at eor
     have e1 : IntKind.u32.wrap (t : Int) = ((y % 4294967296 + cc : Nat) : Int) := by rw [IntKind.wrap_u32]; omega
     have e2 : (t : Int) / 4294967296 = ((y / 4294967296 : Nat) : Int) := by omega
     have ht64 : t < 18446744073709551616 := by omega
     have HSE : Hid (nv o + wp k * (y % 4294967296 + cc) + wp (k + 1) * (y / 4294967296) = nv (l.take (k + 1)) * 2 ^ n) := by
       have := HS.out
       rw [← HYE.out] at this
       show nv o + wp k * (y % 4294967296 + cc) + wp (k + 1) * (y / 4294967296) = nv (l.take (k + 1)) * 2 ^ n
       rw [HX.out]; exact this
     clear hy hu1 hu3 hlo2 hlo3 HS HYE ht
     obtain ⟨v, hv⟩ : ∃ v, v = y % 4294967296 + cc := ⟨_, rfl⟩
     rw [← hv] at HSE e1 hvlt
     clear hv
     generalize y / 4294967296 = hi at *
     go_wp2_with (at_builtin; refine wpList_appW rfl (.tmp 21) (.tmp 24) rfl w.heap.size A' c1 k o HOL.out (by simp [Act.eval]) (own.alloc _) (wr.heap.size + 1) (some ⟨wr.heap.size, 0, none⟩) 1 1 [v] rfl (by simp [Act.eval]) (RdW.new1 (by simp) (by simp)) (by omega) (by simp; omega) ?_; intro A2 c2 w2 own2 hb2 hg2)
     go_roundw
     case rel => exact ⟨k + 1, hi, o ++ [v], A2, c2, by omega, by go_num, rfl, by simp, hu2, by simpa using HOL.out, HOW.out.append (W32.one hvlt), by rw [nv_snoc, HOL.out]; exact HSE.out, own2, hb.trans (((Below.refl _ _).alloc hbz _).trans hb2)⟩
     case measure => simp [intOf]; omega
   · have HF : Hid (nv (o ++ [cc]) = nv l * 2 ^ n) := by
       have h1 := HQ.out
       rw [nv_take_all (by omega)] at h1
       show nv (o ++ [cc]) = _
       rw [nv_snoc, HOL.out]; exact h1
     have e1 : IntKind.u32.wrap (cc : Int) = (cc : Int) := by rw [IntKind.wrap_u32]; omega
     have K := fun (A2 : Option Addr) (c2 : Nat) W hc hr => rtrim_any A2 (o ++ [cc]) (k + 1) c2 W (by simpa using HOL.out) (by omega) hc (HOW.out.append (W32.one hcc32)) hr
     rw [HF.out] at K
     have K := Lib.hid K
     go_wp2_with (first | (at_builtin; refine wpList_appW rfl (.tmp 29) (.tmp 32) rfl w.heap.size A' c1 k o HOL.out (by simp [Act.eval]) (own.alloc _) (wr.heap.size + 1) (some ⟨wr.heap.size, 0, none⟩) 1 1 [cc] rfl (by simp [Act.eval]) (RdW.new1 (by simp) (by simp)) (by omega) (by simp; omega) ?_; intro A2 c2 w2 own2 hb2 hg2) | fail)
     have hcap := own2.cap
     rw [List.length_append, HOL.out, List.length_singleton] at hcap
     (with_reducible refine (K.out A2 c2 _ hcap own2.rd).mono ?_)
     rintro e w3 ⟨A3, c3, rfl, own3, hb3⟩
     have hb2z := hb2.size
     simp only [World.size_alloc] at hb2z
     go_wp2
     go_ret
     have hbb : Below w.heap.size w w2 := hb.trans (((Below.refl _ _).alloc hbz _).trans hb2)
     exact ⟨A3, c3, rfl, own3.base_ (by omega), (by have z0 := Below.size hbb; have z1 := Below.size hb3; (try simp only [ZZ] at z0 z1 ⊢; skip); repeat' (first | (with_reducible first | exact BlR _ _ | assumption | refine BlA ?_ ?_ _ | refine BlD ?_ | refine BlN ?_ _ | refine BlS ?_ ?_ _ | refine BlT ?_ (BlM (by assumption) ?_)) | omega | (simp only [ZZ]; omega) | go_size))⟩
theorem down_any (A : Option Addr) (l : List Nat) (L c n : Nat) (w : World) (hl : l.length = L) (hn : L ≤ 549755813888) (hW : W32 l) (hn32 : n < 32) (h : RdW w w.heap.size A l) :
   Calls Tryz.prog 160 #[.slice A L c, .int .i64 (n : Int)] w fun e w' => ∃ A' c', e = .returned (.slice A' (dig (nv l / 2 ^ n)).length c') ∧ OwW w' w.heap.size A' c' (dig (nv l / 2 ^ n)) ∧ Below w.heap.size w w' := by
 subst hl
 go_enter Tryz.func160, Tryz.ntmps160
 go_wp2
 go_loopw [5, 9] (fun u ii wr => ∃ (k : Nat) (o : List Nat) (A' : Option Addr) (c1 : Nat), k ≤ l.length ∧ ii = .int .i64 k ∧ u = .slice A' k c1 ∧ o.length = k ∧ W32 o ∧ (∀ j, j < k → o.getD j 0 = nv l / 2 ^ n / wp j % 4294967296) ∧ OwW wr w.heap.size A' c1 o ∧ Below w.heap.size w wr) (fun _ ii _ => l.length - (intOf ii).toNat)
 case atStart => exact ⟨0, [], none, 0, Nat.zero_le _, rfl, rfl, rfl, W32.nil, fun j hj => by omega, OwW.nil_ _ _, Below.refl _ _⟩
 case round =>
   obtain ⟨k, o, A', c1, hk, rfl, rfl, hol, hoW, heq, own, hb⟩ := hrel
   have HOL := Lib.hid hol
   have HOW := Lib.hid hoW
   have HQ := Lib.hid heq
   clear hol hoW heq
   have hbz := hb.size
   by_cases hlt : k < l.length
   · have K1 := fun W hW2 => rword_any A l l.length c k W rfl (by omega) hW hW2
     have K2 := fun W hW2 => rword_any A l l.length c (k + 1) W rfl (by omega) hW hW2
     rw [show ((k + 1 : Nat) : Int) = (k : Int) + 1 by omega] at K2
     have hx := hW.getD k
     have hy := hW.getD (k + 1)
     have HD := down_digit (nv l) n k (by omega)
     rw [← digit_of hW k, ← digit_of hW (k + 1)] at HD
     have HD := Lib.hid HD
     generalize l.getD k 0 = x at *
     generalize l.getD (k + 1) 0 = y at *
     have eor := or_shl32' x y hx hy
     obtain ⟨s, hs⟩ : ∃ s, s = x + 4294967296 * y := ⟨_, rfl⟩
     have HD2 : Hid (s / 2 ^ n % 4294967296 = nv l / 2 ^ n / wp k % 4294967296) := by
       show s / 2 ^ n % 4294967296 = _
       rw [hs]; exact HD.out
     rw [← hs] at eor
     have hs64 : s < 18446744073709551616 := by omega
     have e1 : (s : Int) / 2 ^ n = ((s / 2 ^ n : Nat) : Int) := by simp
     have ht : s / 2 ^ n ≤ s := Nat.div_le_self _ _
     clear hs HD
     generalize s / 2 ^ n = t at *
     have e2 : IntKind.u32.wrap (t : Int) = ((t % 4294967296 : Nat) : Int) := by rw [IntKind.wrap_u32]; omega
     have hv : t % 4294967296 < 4294967296 := by omega
     generalize t % 4294967296 = v at *
     have K1 := Lib.hid (K1 _ (h.on hb hbz))
     have K2 := Lib.hid (K2 _ (h.on hb hbz))
     go_wp2_with (first | (go_at_call 136; (with_reducible refine (K1.out).mono ?_); rintro e _ ⟨rfl, rfl⟩) | (go_at_call 136; (with_reducible refine (K2.out).mono ?_); rintro e _ ⟨rfl, rfl⟩) | (at_builtin; refine wpList_appW rfl (.tmp 12) (.tmp 25) rfl w.heap.size A' c1 k o HOL.out (by simp [Act.eval]) (own.alloc _) (wr.heap.size + 1) (some ⟨wr.heap.size, 0, none⟩) 1 1 [v] rfl (by simp [Act.eval]) (RdW.new1 (by simp) (by simp)) (by omega) (by simp; omega) ?_; intro A2 c2 w2 own2 hb2 hg2))
     go_roundw
     case rel => exact ⟨k + 1, o ++ [v], A2, c2, by omega, by go_num, by simp, by simpa using HOL.out, HOW.out.append (W32.one hv), fun j hj => by
       have hl1 := HOL.out
       by_cases e : j = k
       · subst e
         rw [List.getD_eq_getElem?_getD, List.getElem?_append_right (by omega), hl1, Nat.sub_self]
         exact HD2.out
       · rw [← HQ.out j (by omega), List.getD_eq_getElem?_getD, List.getElem?_append_left (by omega), List.getD_eq_getElem?_getD], own2, hb.trans (((Below.refl _ _).alloc hbz _).trans hb2)⟩
     case measure => simp [intOf]; omega
   · have hfin : nv o = nv l / 2 ^ n := by
       refine nv_digits (fun j hj => HQ.out j (by have := HOL.out; omega)) ?_
       rw [HOL.out, show k = l.length by omega]
       exact Nat.lt_of_le_of_lt (Nat.div_le_self _ _) (nv_lt hW)
     have K := rtrim_any A' o k c1 wr HOL.out (by omega) (by have := own.cap; have := HOL.out; omega) HOW.out own.rd
     rw [hfin] at K
     have K := Lib.hid K
     clear hfin HQ
     (go_wp2_with fail; (with_reducible refine (K.out).mono ?_); rintro e w2 ⟨A1, c3, rfl, own2, hb2⟩; have hb2z := Below.size hb2; (try simp only [ZZ] at hb2z))
     go_wp2
     go_ret
     exact ⟨A1, c3, rfl, own2.base_ (by omega), (by have z0 := Below.size hb; have z1 := Below.size hb2; (try simp only [ZZ] at z0 z1 ⊢; skip); repeat' (first | (with_reducible first | exact BlR _ _ | assumption | refine BlA ?_ ?_ _ | refine BlD ?_ | refine BlN ?_ _ | refine BlS ?_ ?_ _ | refine BlT ?_ (BlM (by assumption) ?_)) | omega | (simp only [ZZ]; omega) | go_size))⟩
end Go.Proofs.YtoiopnmphbnjaaaGreatDoor
