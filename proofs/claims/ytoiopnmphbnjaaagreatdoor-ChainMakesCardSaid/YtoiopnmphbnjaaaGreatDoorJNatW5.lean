/- Contracts and lemmas for the given statements. Conditions: those alone that each names. -/
import Derived.Test.YtoiopnmphbnjaaaGreatDoorJNatW1
import Derived.Lib.BitFns
set_option maxHeartbeats 4000000
namespace Go.Proofs.YtoiopnmphbnjaaaGreatDoor
open Go.RowKit
set_option linter.unusedSimpArgs false
set_option linter.unusedVariables false
set_option maxRecDepth 20000
attribute [local irreducible] nv wp
/-! ## small, left, right -/
theorem or_shl32 (r x : Nat) (hr : r < 4294967296) (hx : x < 4294967296) : bits .or .u64 ((r : Int) * 4294967296) (x : Int) = ((4294967296 * r + x : Nat) : Int) := by
 rw [show (r : Int) * 4294967296 = ((4294967296 * r : Nat) : Int) by omega, u64_or_nat _ _ (by omega) (by omega), or_add (n := 32) (by omega) (by omega)]
theorem drop_step (l : List Nat) (k : Nat) (h : k < l.length) : nv (l.drop k) = l[k] + 4294967296 * nv (l.drop (k + 1)) := by
 rw [List.drop_eq_getElem_cons h, nv_cons]
theorem drop_set (o : List Nat) (k q : Nat) (h : k < o.length) : nv ((o.set k q).drop k) = q + 4294967296 * nv (o.drop (k + 1)) := by
 rw [drop_step _ k (by simpa using h)]
 simp [List.drop_set]
theorem small_any (A : Option Addr) (l : List Nat) (n c b : Nat) (w : World) (hl : l.length = n) (hn : n ≤ 549755813888) (hW : W32 l) (hb0 : 0 < b) (hb32 : b < 4294967296) (h : RdW w w.heap.size A l) :
   Calls Tryz.prog 145 #[.slice A n c, .int .u32 (b : Int)] w fun e w' => ∃ A' c'', e = .returned (.tuple #[.slice A' (dig (nv l / b)).length c'', .int .u32 (nv l % b : Nat)]) ∧ OwW w' w.heap.size A' c'' (dig (nv l / b)) ∧ Below w.heap.size w w' := by
 subst hl
 go_enter Tryz.func145, Tryz.ntmps145
 go_wp2_with (at_make; refine wpList_makeW rfl (.tmp 10) (.tmp 10) rfl w.heap.size l.length _ _ rfl rfl rfl rfl (by omega) (Nat.le_refl _) ?_; intro w1 own1 hb1)
 obtain ⟨g, hg⟩ : ∃ g, g = w.heap.size := ⟨_, rfl⟩
 have own1' : OwG w1 w.heap.size g l.length (List.replicate l.length 0) := by rw [hg]; exact own1
 rw [← hg]
 have hgz : w.heap.size ≤ g := by omega
 clear hg own1
 go_loopw [7, 8] (fun rr ii wr => ∃ (k r : Nat) (o : List Nat), k ≤ l.length ∧ ii = .int .i64 ((k : Int) - 1) ∧ rr = .int .u64 r ∧ r < b ∧ o.length = l.length ∧ W32 o ∧ nv (l.drop k) = b * nv (o.drop k) + r ∧ OwG wr w.heap.size g l.length o ∧ Below w.heap.size w wr) (fun _ ii _ => (intOf ii + 1).toNat)
 case atStart => exact ⟨l.length, 0, _, Nat.le_refl _, rfl, rfl, hb0, by simp, W32.replicate _, by simp [nv_nil], own1', hb1⟩
 case round =>
   obtain ⟨k, r, o, hk, hi, rfl, hr, hol, hoW, heq, own, hb⟩ := hrel
   have HOL := Lib.hid hol
   have HOW := Lib.hid hoW
   have HQ := Lib.hid heq
   clear hol hoW heq own1' hb1
   have hbz := hb.size
   rcases k with _ | k
   · obtain rfl := hi
     have hf := small_end HQ.out hr
     rw [List.drop_zero, List.drop_zero] at hf
     have K := trim_any (some ⟨g, 0, none⟩) o l.length l.length wr HOL.out (by omega) (by omega) HOW.out own.rd
     rw [hf.1] at K
     have K := Lib.hid K
     have HF := Lib.hid hf.2
     clear hf HQ
     have e1 : IntKind.u32.wrap (r : Int) = (r : Int) := by rw [IntKind.wrap_u32]; omega
     (go_wp2_with fail; (with_reducible refine (K.out).mono ?_); rintro e w2 ⟨A1, c1, rfl, own2, hb2⟩; have hb2z := Below.size hb2; (try simp only [ZZ] at hb2z))
     go_wp2
     go_ret2
     exact ⟨A1, c1, by rw [← HF.out]; rfl, own2.base_ (by omega), (by have z0 := Below.size hb; have z1 := Below.size hb2; (try simp only [ZZ] at z0 z1 ⊢; skip); repeat' (first | (with_reducible first | exact BlR _ _ | assumption | refine BlA ?_ ?_ _ | refine BlD ?_ | refine BlN ?_ _ | refine BlS ?_ ?_ _ | refine BlT ?_ (BlM (by assumption) ?_)) | omega | (simp only [ZZ]; omega) | go_size))⟩
   · have hi' := hi.trans (vint (k := .i64) (show (((k + 1 : Nat) : Int) - 1) = (k : Int) by omega))
     clear hi
     obtain rfl := hi'
     have hlt : k < l.length := by omega
     obtain ⟨b1, o1, rfl, hbb1, y1⟩ := (h.below hb).at_ hlt
     have hx := hW.at_ hlt
     have HD := Lib.hid (drop_step l k hlt)
     generalize l[k] = x at *
     have y3 := own.frozen k
     have y2 := own.cell (k := k) (by have := HOL.out; omega)
     have hq := small_word hr hb32 hx
     have hrm := Nat.mod_lt (4294967296 * r + x) hb0
     have eor := or_shl32 r x (by omega) hx
     obtain ⟨s, hs⟩ : ∃ s, s = 4294967296 * r + x := ⟨_, rfl⟩
     have HS := Lib.hid (small_step (b := b) (x := x) HQ.out hs)
     rw [← hs] at hq hrm eor
     have hs64 : s < 18446744073709551616 := by omega
     have e1 : (s : Int) / (b : Int) = ((s / b : Nat) : Int) := (Int.natCast_ediv s b).symm
     have e2 : (s : Int) % (b : Int) = ((s % b : Nat) : Int) := (Int.natCast_emod s b).symm
     clear hs
     generalize s / b = q at *
     generalize s % b = r2 at *
     go_wp2
     go_roundw
     case rel => exact ⟨k, r2, o.set k q, by omega, by go_num, vint e2, hrm, by simpa using HOL.out, HOW.out.set _ _ hq, by rw [drop_set _ _ _ (by have := HOL.out; omega), HD.out]; exact HS.out, own.set k q, hb.setCell hgz _⟩
     case measure => simp [intOf]
theorem left_any (A : Option Addr) (l : List Nat) (L c n : Nat) (w : World) (hl : l.length = L) (hn : L ≤ 549755813888) (hW : W32 l) (hn32 : n < 32) (h : RdW w w.heap.size A l) :
   Calls Tryz.prog 148 #[.slice A L c, .int .i64 (n : Int)] w fun e w' => ∃ (g : Nat) (o : List Nat), e = .returned (.slice (some ⟨g, 0, none⟩) (L + 1) (L + 1)) ∧ o.length = L + 1 ∧ W32 o ∧ nv o = nv l * 2 ^ n ∧ OwG w' w.heap.size g (L + 1) o ∧ Below w.heap.size w w' := by
 subst hl
 go_enter Tryz.func148, Tryz.ntmps148
 go_wp2_with (at_make; refine wpList_makeW rfl (.tmp 11) (.tmp 11) rfl w.heap.size (l.length + 1) _ _ rfl rfl (by omega) (by omega) (by omega) (Nat.le_refl _) ?_; intro w1 own1 hb1)
 obtain ⟨g, hg⟩ : ∃ g, g = w.heap.size := ⟨_, rfl⟩
 have own1' : OwG w1 w.heap.size g (l.length + 1) (List.replicate (l.length + 1) 0) := by rw [hg]; exact own1
 rw [← hg]
 have hgz : w.heap.size ≤ g := by omega
 clear hg own1
 go_loopw [15] (fun ii wr => ∃ (k : Nat) (o : List Nat), k ≤ l.length ∧ ii = .int .i64 k ∧ o.length = l.length + 1 ∧ W32 o ∧ nv o = nv (l.take k) * 2 ^ n ∧ (∀ j, k < j → o.getD j 0 = 0) ∧ o.getD k 0 < 2 ^ n ∧ OwG wr w.heap.size g (l.length + 1) o ∧ Below w.heap.size w wr) (fun ii _ => l.length - (intOf ii).toNat)
 case atStart => exact ⟨0, _, Nat.zero_le _, rfl, by simp, W32.replicate _, by simp [nv_nil, nv_replicate], fun j _ => by by_cases hj : j < l.length + 1 <;> simp [List.getD_eq_getElem?_getD, hj], by simp [Nat.two_pow_pos], own1', hb1⟩
 case round =>
   obtain ⟨k, o, hk, rfl, hol, hoW, heq, hz, hlow, own, hb⟩ := hrel
   have HOL := Lib.hid hol
   have HOW := Lib.hid hoW
   have HQ := Lib.hid heq
   have HZ := Lib.hid hz
   clear hol hoW heq hz own1' hb1
   have hbz := hb.size
   by_cases hlt : k < l.length
   · obtain ⟨b1, o1, rfl, hbb1, y1⟩ := (h.below hb).at_ hlt
     have hx := hW.at_ hlt
     have HX := Lib.hid (nv_take_succ hlt)
     generalize l[k] = x at *
     have k1 : k < o.length := by have := HOL.out; omega
     have k2 : k + 1 < o.length := by have := HOL.out; omega
     have y2 := own.cell k1
     have y3 := own.frozen k
     have y4 := own.cell k2
     have y5 := own.frozen (k + 1)
     rw [getD_of_lt k1] at hlow
     have hz2 := HOW.out.at_ k1
     obtain ⟨z, hzE⟩ : ∃ z, z = o[k] := ⟨_, rfl⟩
     rw [← hzE] at y2 hlow hz2
     have HLW := fun z' hzz => left_words (o := o) (k := k) (x := x) (z := z') (n := n) k2 HQ.out hzz (HZ.out _ (by omega))
     have hub := up_bound hx hn32
     obtain ⟨y, hy⟩ : ∃ y, y = x * 2 ^ n := ⟨_, rfl⟩
     have HS := Lib.hid (HLW z (by rw [getD_of_lt k1]; exact hzE.symm))
     rw [← hy] at hub
     obtain ⟨hu1, hu2, hu3⟩ := hub
     have hlo2 : y % 4294967296 % 2 ^ n = 0 := mod_pow_mod (by omega) hu3
     have hlo3 : y % 4294967296 < 4294967296 := by omega
     have hcomm : z ||| y % 4294967296 = y % 4294967296 + z := by rw [Nat.or_comm, or_add hlo2 hlow]
     have hvlt : y % 4294967296 + z < 4294967296 := by
       rw [← hcomm]; exact Nat.or_lt_two_pow (n := 32) hz2 hlo3
     have e0 : IntKind.u64.wrap ((x : Int) * 2 ^ n) = (y : Int) := by
       have : (x : Int) * 2 ^ n = (y : Int) := by rw [hy]; simp
       rw [this, IntKind.wrap_u64]; omega
     have e3 : bits .or .u32 (z : Int) ((y % 4294967296 : Nat) : Int) = ((y % 4294967296 + z : Nat) : Int) := by
       rw [u32_or_nat _ _ hz2 hlo3, hcomm]
     have HYE := Lib.hid hy
     have e1 : (y : Int) % 4294967296 = ((y % 4294967296 : Nat) : Int) := by omega
     have e2 : (y : Int) / 4294967296 = ((y / 4294967296 : Nat) : Int) := by omega
     have hhi : y / 4294967296 < 4294967296 := by omega
     have HSE : Hid (nv ((o.set k (y % 4294967296 + z)).set (k + 1) (y / 4294967296)) = nv (l.take (k + 1)) * 2 ^ n) := by
       have := HS.out
       rw [← HYE.out] at this
       rw [HX.out]; exact this
     clear hy hu1 hu3 hlo2 hlo3 hcomm HS HLW HYE
     obtain ⟨v, hv⟩ : ∃ v, v = y % 4294967296 + z := ⟨_, rfl⟩
     rw [← hv] at HSE e3 hvlt
     clear hv hzE
     generalize y % 4294967296 = lo at *
     generalize y / 4294967296 = hi at *
     go_wp2
     go_roundw
     case rel => exact ⟨k + 1, (o.set k v).set (k + 1) hi, by omega, by go_num, by simpa using HOL.out, (HOW.out.set _ _ hvlt).set _ _ hhi, HSE.out, fun j hj => by rw [getD_set_ne (by omega), getD_set_ne (by omega)]; exact HZ.out j (by omega), by rw [getD_set_self (by simpa using k2)]; exact hu2, (own.set k v).set (k + 1) hi, (hb.setCell hgz _).setCell hgz _⟩
     case measure => simp [intOf]; omega
   · have HF : Hid (nv o = nv l * 2 ^ n) := by show nv o = _; rw [HQ.out, nv_take_all (by omega)]
     go_wp2
     go_ret
     exact ⟨g, o, by simp, HOL.out, HOW.out, HF.out, own, hb⟩
end Go.Proofs.YtoiopnmphbnjaaaGreatDoor
namespace Go.Proofs.YtoiopnmphbnjaaaGreatDoor
open Go.RowKit
set_option linter.unusedSimpArgs false
set_option linter.unusedVariables false
set_option maxRecDepth 20000
attribute [local irreducible] nv wp win
/-! ## right, take, give -/
theorem or_shl32' (x y : Nat) (hx : x < 4294967296) (hy : y < 4294967296) : bits .or .u64 (x : Int) ((y : Int) * 4294967296) = ((x + 4294967296 * y : Nat) : Int) := by
 rw [show (y : Int) * 4294967296 = ((4294967296 * y : Nat) : Int) by omega, u64_or_nat _ _ (by omega) (by omega), Nat.or_comm, or_add (n := 32) (by omega) (by omega), Nat.add_comm]
theorem right_any (A : Option Addr) (l : List Nat) (L c n : Nat) (w : World) (hl : l.length = L) (hn : L ≤ 549755813888) (hW : W32 l) (hn32 : n < 32) (h : RdW w w.heap.size A l) :
   Calls Tryz.prog 151 #[.slice A L c, .int .i64 (n : Int)] w fun e w' => ∃ (g : Nat) (o : List Nat), e = .returned (.slice (some ⟨g, 0, none⟩) L L) ∧ o.length = L ∧ W32 o ∧ nv o = nv l / 2 ^ n ∧ OwG w' w.heap.size g L o ∧ Below w.heap.size w w' := by
 subst hl
 go_enter Tryz.func151, Tryz.ntmps151
 go_wp2_with (at_make; refine wpList_makeW rfl (.tmp 8) (.tmp 8) rfl w.heap.size l.length _ _ rfl rfl rfl rfl (by omega) (Nat.le_refl _) ?_; intro w1 own1 hb1)
 obtain ⟨g, hg⟩ : ∃ g, g = w.heap.size := ⟨_, rfl⟩
 have own1' : OwG w1 w.heap.size g l.length (List.replicate l.length 0) := by rw [hg]; exact own1
 rw [← hg]
 have hgz : w.heap.size ≤ g := by omega
 clear hg own1
 go_loopw [12] (fun ii wr => ∃ (k : Nat) (o : List Nat), k ≤ l.length ∧ ii = .int .i64 k ∧ o.length = l.length ∧ W32 o ∧ (∀ j, j < k → o.getD j 0 = nv l / 2 ^ n / wp j % 4294967296) ∧ OwG wr w.heap.size g l.length o ∧ Below w.heap.size w wr) (fun ii _ => l.length - (intOf ii).toNat)
 case atStart => exact ⟨0, _, Nat.zero_le _, rfl, by simp, W32.replicate _, fun j hj => by omega, own1', hb1⟩
 case round =>
   obtain ⟨k, o, hk, rfl, hol, hoW, heq, own, hb⟩ := hrel
   have HOL := Lib.hid hol
   have HOW := Lib.hid hoW
   have HQ := Lib.hid heq
   clear hol hoW heq own1' hb1
   have hbz := hb.size
   by_cases hlt : k < l.length
   · have K1 := fun W hW2 => word_any A l l.length c k W rfl (by omega) hW hW2
     have K2 := fun W hW2 => word_any A l l.length c (k + 1) W rfl (by omega) hW hW2
     rw [show ((k + 1 : Nat) : Int) = (k : Int) + 1 by omega] at K2
     have hx := hW.getD k
     have hy := hW.getD (k + 1)
     have HD := down_digit (nv l) n k (by omega)
     rw [← digit_of hW k, ← digit_of hW (k + 1)] at HD
     have HD := Lib.hid HD
     generalize l.getD k 0 = x at *
     generalize l.getD (k + 1) 0 = y at *
     have eor := or_shl32' x y hx hy
     obtain ⟨s, hs⟩ : ∃ s, s = x + 4294967296 * y := ⟨_, rfl⟩
     have HD2 : Hid (s / 2 ^ n % 4294967296 = nv l / 2 ^ n / wp k % 4294967296) := by
       show s / 2 ^ n % 4294967296 = _
       rw [hs]; exact HD.out
     rw [← hs] at eor
     have hs64 : s < 18446744073709551616 := by omega
     have e1 : (s : Int) / 2 ^ n = ((s / 2 ^ n : Nat) : Int) := by simp
     have ht : s / 2 ^ n ≤ s := Nat.div_le_self _ _
     clear hs HD
     generalize s / 2 ^ n = t at *
     have e2 : (t : Int) % 4294967296 = ((t % 4294967296 : Nat) : Int) := by omega
     have hv : t % 4294967296 < 4294967296 := by omega
     generalize t % 4294967296 = v at *
     have K1 := Lib.hid (K1 _ (h.on hb hbz))
     have K2 := Lib.hid (K2 _ (h.on hb hbz))
     have k1 : k < o.length := by have := HOL.out; omega
     have y1 := own.frozen k
     have y2 := own.cell k1
     go_wp2_with (first | (go_at_call 116; (with_reducible refine (K1.out).mono ?_); rintro e _ ⟨rfl, rfl⟩) | (go_at_call 116; (with_reducible refine (K2.out).mono ?_); rintro e _ ⟨rfl, rfl⟩))
     go_roundw
     case rel => exact ⟨k + 1, o.set k v, by omega, by go_num, by simpa using HOL.out, HOW.out.set _ _ hv, fun j hj => by
       by_cases e : j = k
       · subst e; rw [getD_set_self k1]; exact HD2.out
       · rw [getD_set_ne (by omega)]; exact HQ.out j (by omega), own.set k v, hb.setCell hgz _⟩
     case measure => simp [intOf]; omega
   · have HF : Hid (nv o = nv l / 2 ^ n) := by
       show nv o = _
       refine nv_digits (fun j hj => HQ.out j (by have := HOL.out; omega)) ?_
       rw [HOL.out]
       exact Nat.lt_of_le_of_lt (Nat.div_le_self _ _) (nv_lt hW)
     go_wp2
     go_ret
     exact ⟨g, o, by simp, HOL.out, HOW.out, HF.out, own, hb⟩
theorem grown_set {w wr : World} {g : Nat} (h : w.grownBy wr (some g)) (k : Nat) (x : Value) : w.grownBy (wr.setCell ⟨g, k, none⟩ x) (some g) :=
 ⟨h.1, h.2, h.3, by rw [World.size_setCell]; exact h.4, fun j h1 h2 => by
   rw [Below.heap_setCell wr ⟨g, k, none⟩ x j (fun e => h2 (by rw [e]))]
   exact h.5 j h1 h2⟩
theorem grown_below {w wr : World} {g : Nat} (h : w.grownBy wr (some g)) (hg : g ≤ w.heap.size) : Below g w wr := (Below.refl _ _).grown h hg (by intro k hk; injection hk with hk; omega)
theorem take_any (V : Option Addr) (u v : List Nat) (m M cu cv j n g cg base : Nat) (w : World) (hm : v.length = m) (hM : M = m + 1) (hj : j + M ≤ u.length) (hul : u.length ≤ 1099511627776) (hn : n < 4294967296) (hWu : W32 u) (hWv : W32 v)
   (own : OwG w base g cg u) (h : RdW w g V v) :
   Calls Tryz.prog 149 #[.slice (some ⟨g, j, none⟩) M cu, .slice V m cv, .int .u64 (n : Int)] w fun e w' => ∃ (u' : List Nat) (r : Nat), e = .returned (.bool (r == 1)) ∧ r ≤ 1 ∧ u'.length = u.length ∧ W32 u' ∧ (∀ i, (i < j ∨ j + M ≤ i) → u'.getD i 0 = u.getD i 0) ∧
     nv (win u' j M) + n * nv v = nv (win u j M) + wp M * r ∧ OwG w' base g cg u' ∧ w.grownBy w' (some g) := by
 subst hm
 have hgl := own.lt
 have HM := Lib.hid hM
 have hM1 : v.length < M := by omega
 have hM2 : M ≤ v.length + 1 := by omega
 clear hM
 go_enter Tryz.func149, Tryz.ntmps149
 go_wp2
 go_loopw [7, 8, 13] (fun cy br ii wr => ∃ (k cc r P : Nat) (o : List Nat), k ≤ M ∧ ii = .int .i64 k ∧ cy = .int .u64 cc ∧ br = .int .u64 r ∧ cc < 4294967296 ∧ r ≤ 1 ∧ o.length = u.length ∧ W32 o ∧ (∀ i, (i < j ∨ j + k ≤ i) → o.getD i 0 = u.getD i 0) ∧
     P + wp k * cc = n * nv (v.take k) ∧ nv (win o j k) + P = nv (win u j k) + wp k * r ∧ OwG wr base g cg o ∧ w.grownBy wr (some g)) (fun _ _ ii _ => M - (intOf ii).toNat)
 case atStart => exact ⟨0, 0, 0, 0, u, Nat.zero_le _, rfl, rfl, rfl, by omega, by omega, rfl, hWu, fun _ _ => rfl, by simp [nv_nil], by simp, own, World.grownBy.refl _ _⟩
 case round =>
   obtain ⟨k, cc, r, P, o, hk, rfl, rfl, rfl, hcc, hr, hol, hoW, hsame, hP, hQ, own', hg⟩ := hrel
   have HOL := Lib.hid hol
   have HOW := Lib.hid hoW
   have HS := Lib.hid hsame
   have HP := Lib.hid hP
   have HQ := Lib.hid hQ
   clear hol hoW hsame hP hQ
   have hgl' := own'.lt
   by_cases hlt : k < M
   · have K1 := Lib.hid (word_any V v v.length cv k wr rfl (by omega) hWv (h.on (grown_below hg (by omega)) (by omega)))
     have hy := hWv.getD k
     have HV := Lib.hid (nv_take_getD v k)
     generalize v.getD k 0 = y at *
     have k1 : j + k < o.length := by have := HOL.out; omega
     have y1 := own'.frozen (j + k)
     have y2 := own'.cell k1
     have hz := HOW.out.at_ k1
     have HZ : Hid (o[j + k] = u.getD (j + k) 0) := by rw [← getD_of_lt k1]; exact HS.out (j + k) (by omega)
     have HW1 := Lib.hid (win_succ u j k)
     generalize o[j + k] = z at *
     obtain ⟨hs64, hc2⟩ := prod_bound hcc hn hy
     obtain ⟨p, hp⟩ : ∃ p, p = n * y := ⟨_, rfl⟩
     obtain ⟨s, hs⟩ : ∃ s, s = cc + n * y := ⟨_, rfl⟩
     have HP2 := Lib.hid (prod_step k HP.out hs)
     have e0 : IntKind.u64.wrap ((n : Int) * (y : Int)) = (p : Int) := by
       have : (n : Int) * (y : Int) = (p : Int) := by rw [hp]; exact (Int.natCast_mul n y).symm
       rw [this, IntKind.wrap_u64]; omega
     rw [← hs] at hs64 hc2
     rw [← hp] at hs
     have es : (cc : Int) + (p : Int) = (s : Int) := by omega
     have hlo : s % 4294967296 < 4294967296 := by omega
     have e1 : (s : Int) % 4294967296 = ((s % 4294967296 : Nat) : Int) := by omega
     have e1' : IntKind.u32.wrap (s : Int) = ((s % 4294967296 : Nat) : Int) := by rw [IntKind.wrap_u32]; omega
     have e2 : (s : Int) / 4294967296 = ((s / 4294967296 : Nat) : Int) := by omega
     clear hs hp
     generalize s % 4294967296 = lo at *
     generalize s / 4294967296 = hi at *
     obtain ⟨d1, d, f1, f2, hd64, hd⟩ := sub_words z lo r hz hlo hr
     obtain ⟨hs1, hs2⟩ := sub_step k HQ.out hd hd64 hz hlo hr
     have HQ2 := Lib.hid hs1
     have hdl : d % 4294967296 < 4294967296 := by omega
     have f3 : (d : Int) % 4294967296 = ((d % 4294967296 : Nat) : Int) := by omega
     have f3' : IntKind.u32.wrap (d : Int) = ((d % 4294967296 : Nat) : Int) := by rw [IntKind.wrap_u32]; omega
     have f4 : (d : Int) / 9223372036854775808 = ((d / 9223372036854775808 : Nat) : Int) := by omega
     clear hd hs1
     generalize d % 4294967296 = dl at *
     generalize d / 9223372036854775808 = dh at *
     go_wp2_with (first | (go_at_call 116; (with_reducible refine (K1.out).mono ?_); rintro e _ ⟨rfl, rfl⟩))
     go_roundw
     case rel => exact ⟨k + 1, hi, dh, P + wp k * lo, o.set (j + k) dl, by omega, by go_num, rfl, rfl, hc2, hs2, by simpa using HOL.out, HOW.out.set _ _ hdl, fun i hi => by rw [getD_set_ne (by omega)]; exact HS.out i (by omega),
       by rw [HV.out]; exact HP2.out,
       by rw [win_succ, getD_set_self k1, win_congr (u := o) (fun i h1 h2 => getD_set_ne (by omega) _), HW1.out, ← HZ.out]; exact HQ2.out, own'.set (j + k) dl, grown_set hg _ _⟩
     case measure => simp [intOf]; omega
   · have hkE : k = M := by omega
     have HE : Hid (nv (win o j M) + n * nv v = nv (win u j M) + wp M * r) := by
       have h1 := HP.out
       have h2 := HQ.out
       rw [hkE] at h1 h2
       rw [nv_take_all (by omega), HM.out] at h1
       have h3 := prod_end h1 hn (nv_lt hWv)
       rw [← h3]; exact h2
     clear HM
     have hf : ((r : Int) == 1) = (r == 1) := by
       have : r = 0 ∨ r = 1 := by omega
       rcases this with e | e <;> subst e <;> rfl
     subst hkE
     go_wp2
     go_ret
     exact ⟨o, r, by simp [hf], hr, HOL.out, HOW.out, HS.out, HE.out, own', hg⟩
end Go.Proofs.YtoiopnmphbnjaaaGreatDoor
namespace Go.Proofs.YtoiopnmphbnjaaaGreatDoor
open Go.RowKit
set_option linter.unusedSimpArgs false
set_option linter.unusedVariables false
set_option maxRecDepth 20000
attribute [local irreducible] nv wp win
/-! ## give -/
theorem grown_then {w wr w5 : World} {row : Option Nat} (h : w.grownBy wr row) (hb : Below wr.heap.size wr w5) : w.grownBy w5 row :=
 ⟨hb.os.trans h.1, hb.tape.trans h.2, hb.output.trans h.3, Nat.le_trans h.4 hb.size, fun j h1 h2 => (hb.block j (Nat.lt_of_lt_of_le h1 h.4)).trans (h.5 j h1 h2)⟩
theorem give_any (V : Option Addr) (u v : List Nat) (m M cu cv j g cg base : Nat) (w : World) (hm : v.length = m) (hM : M = m + 1) (hj : j + M ≤ u.length) (hul : u.length ≤ 1099511627776) (hWu : W32 u) (hWv : W32 v)
   (own : OwG w base g cg u) (h : RdW w g V v) :
   Calls Tryz.prog 150 #[.slice (some ⟨g, j, none⟩) M cu, .slice V m cv] w fun e w' => ∃ (u' : List Nat) (cc : Nat), e = .returned (.tuple #[]) ∧ cc ≤ 1 ∧ u'.length = u.length ∧ W32 u' ∧ (∀ i, (i < j ∨ j + M ≤ i) → u'.getD i 0 = u.getD i 0) ∧
     nv (win u' j M) + wp M * cc = nv (win u j M) + nv v ∧ OwG w' base g cg u' ∧ w.grownBy w' (some g) := by
 subst hm
 have hgl := own.lt
 have HM := Lib.hid hM
 have hM1 : v.length < M := by omega
 have hM2 : M ≤ v.length + 1 := by omega
 clear hM
 go_enter Tryz.func150, Tryz.ntmps150
 go_wp2
 go_loopw [4, 8] (fun cy ii wr => ∃ (k cc : Nat) (o : List Nat), k ≤ M ∧ ii = .int .i64 k ∧ cy = .int .u64 cc ∧ cc ≤ 1 ∧ o.length = u.length ∧ W32 o ∧ (∀ i, (i < j ∨ j + k ≤ i) → o.getD i 0 = u.getD i 0) ∧
     nv (win o j k) + wp k * cc = nv (win u j k) + nv (v.take k) ∧ OwG wr base g cg o ∧ w.grownBy wr (some g)) (fun _ ii _ => M - (intOf ii).toNat)
 case atStart => exact ⟨0, 0, u, Nat.zero_le _, rfl, rfl, by omega, rfl, hWu, fun _ _ => rfl, by simp [nv_nil], own, World.grownBy.refl _ _⟩
 case round =>
   obtain ⟨k, cc, o, hk, rfl, rfl, hcc, hol, hoW, hsame, hQ, own', hg⟩ := hrel
   have HOL := Lib.hid hol
   have HOW := Lib.hid hoW
   have HS := Lib.hid hsame
   have HQ := Lib.hid hQ
   clear hol hoW hsame hQ
   have hgl' := own'.lt
   by_cases hlt : k < M
   · have K1 := Lib.hid (fun W (hb : Below wr.heap.size wr W) => word_any V v v.length cv k W rfl (by omega) hWv ((h.on (grown_below hg (by omega)) (by omega)).on hb hb.size))
     have hy := hWv.getD k
     have HV := Lib.hid (nv_take_getD v k)
     generalize v.getD k 0 = y at *
     have k1 : j + k < o.length := by have := HOL.out; omega
     have y2 := own'.cell k1
     have hz := HOW.out.at_ k1
     have HZ : Hid (o[j + k] = u.getD (j + k) 0) := by rw [← getD_of_lt k1]; exact HS.out (j + k) (by omega)
     have HW1 := Lib.hid (win_succ u j k)
     generalize o[j + k] = z at *
     obtain ⟨s, hs⟩ : ∃ s, s = cc + (z + y) := ⟨_, rfl⟩
     have HQ2 := Lib.hid (add_step (s := s) k HQ.out hs)
     have hc2 := add_carry hcc hz hy
     rw [← hs] at hc2
     have es : (cc : Int) + ((z : Int) + (y : Int)) = (s : Int) := by omega
     have es0 : IntKind.u64.wrap ((z : Int) + (y : Int)) = (z : Int) + (y : Int) := by rw [IntKind.wrap_u64]; omega
     have es1 : IntKind.u64.wrap (s : Int) = (s : Int) := by rw [IntKind.wrap_u64]; omega
     have hlo : s % 4294967296 < 4294967296 := by omega
     have e1 : (s : Int) % 4294967296 = ((s % 4294967296 : Nat) : Int) := by omega
     have e1' : IntKind.u32.wrap (s : Int) = ((s % 4294967296 : Nat) : Int) := by rw [IntKind.wrap_u32]; omega
     have e2 : (s : Int) / 4294967296 = ((s / 4294967296 : Nat) : Int) := by omega
     have hs64 : s < 18446744073709551616 := by omega
     clear hs
     generalize s % 4294967296 = lo at *
     generalize s / 4294967296 = hi at *
     have f1 := fun y : Sub wr => y.cell y2
     have L1 := Lib.hid (fun y : Sub wr => K1.out y.x y.bel)
     go_wp2
     ((refine wp_region_quiet_bel (by kernel_rfl) (by kernel_rfl) ?_); (repeat (go_big_quiet_step ((go_at_call 116; with_reducible exact Calls.quiet_same (L1.out _))))); (refine wpQuiet_nil ?_); rintro w5 ⟨⟨_, hb5⟩, rfl⟩; (try dsimp only))
     have own5 := own'.below hb5
     have y1 := own5.frozen (j + k)
     have y3 := own5.cell k1
     clear f1 y2
     go_wp2
     go_roundw
     case rel => exact ⟨k + 1, hi, o.set (j + k) lo, by omega, by go_num, rfl, hc2, by simpa using HOL.out, HOW.out.set _ _ hlo, fun i hi => by rw [getD_set_ne (by omega)]; exact HS.out i (by omega),
       by rw [win_succ, getD_set_self k1, win_congr (u := o) (fun i h1 h2 => getD_set_ne (by omega) _), HW1.out, ← HZ.out, HV.out]; exact HQ2.out, own5.set (j + k) lo, grown_set (grown_then hg hb5) _ _⟩
     case measure => simp [intOf]; omega
   · have hkE : k = M := by omega
     have HE : Hid (nv (win o j M) + wp M * cc = nv (win u j M) + nv v) := by
       have h2 := HQ.out
       rw [hkE] at h2
       rw [nv_take_all (by omega)] at h2
       exact h2
     subst hkE
     clear HM
     go_wp2
     go_end0
     exact ⟨o, cc, rfl, hcc, HOL.out, HOW.out, HS.out, HE.out, own', hg⟩
end Go.Proofs.YtoiopnmphbnjaaaGreatDoor
namespace Go.Proofs.YtoiopnmphbnjaaaGreatDoor
open Go.RowKit
set_option linter.unusedSimpArgs false
set_option linter.unusedVariables false
set_option maxRecDepth 20000
attribute [local irreducible] nv wp win
/-! ## math/bits.Len32, LeadingZeros32; Bits -/
theorem bl_half {x : Nat} (h : x ≠ 0) : bl x = 1 + bl (x / 2) := by
 unfold bl
 rw [if_neg h, Nat.log2_def]
 by_cases h1 : 2 ≤ x
 · rw [if_pos h1, if_neg (by omega)]; omega
 · rw [if_neg h1, if_pos (by omega)]
theorem lib_bitLen {x : Nat} (h : x < 18446744073709551616) : Lib.bitLen x = bl x := by
 have key : ∀ f x, x < 2 ^ f → Lib.bitLenAux f x = bl x := by
   intro f
   induction f with
   | zero => intro x hx; have : x = 0 := by omega
             subst this; rfl
   | succ f ih =>
     intro x hx
     unfold Lib.bitLenAux
     split
     · rename_i h0; subst h0; rfl
     · rename_i h0
       rw [ih (x / 2) (by rw [Nat.pow_succ] at hx; omega), ← bl_half h0]
 exact key 64 x (by omega)
theorem ix8 (i : Int) (v : Nat) (h0 : 0 ≤ i) (h1 : i ≤ 255) (hv : Lib.bitLen i.toNat = v) (W : World) : (Instr.index 9 (.string Lib.len8tab) (.int .u8 i)).run Tryz.prog W = .ok (.int .u8 (v : Int)) W := by
 rw [Lib.run_index_len8tab W 9 .u8 i Tryz.underlying9 h0 h1, Lib.len8_of i h0 h1, hv]
set_option maxRecDepth 100000 in
theorem len32_lib (x : Int) (w : World) (h0 : 0 ≤ x) (h1 : x ≤ 4294967295) :
   Calls Tryz.prog 130 #[.int .u32 x] w fun e w' => e = .returned (.int .i64 (Lib.bitLen x.toNat)) ∧ w = w' := by
 by_cases c1 : x < 256
 · have l := Lib.bitLen_le8' x h0 (by omega)
   obtain ⟨v, hv⟩ : ∃ v, Lib.bitLen x.toNat = v := ⟨_, rfl⟩
   have hix := ix8 x v h0 (by omega) hv
   rw [hv] at l ⊢
   clear hv
   go_enter Tryz.func130, Tryz.ntmps130
   go_wp2
   go_ret
   exact ⟨rfl, rfl⟩
 · by_cases c2 : x < 65536
   · have l := Lib.bitLen_le8' (x / 256) (by omega) (by omega)
     obtain ⟨v, hv⟩ : ∃ v, Lib.bitLen (x / 256).toNat = v := ⟨_, rfl⟩
     have hix := ix8 (x / 256) v (by omega) (by omega) hv
     have e := Lib.bitLen_shift8 x.toNat (by omega) (by omega)
     rw [show x.toNat / 256 = (x / 256).toNat by omega, hv] at e
     rw [hv] at l
     rw [e]
     clear hv e
     go_enter Tryz.func130, Tryz.ntmps130
     go_wp2
     go_ret
     exact ⟨rfl, rfl⟩
   · by_cases c3 : x < 16777216
     · have l := Lib.bitLen_le8' (x / 65536) (by omega) (by omega)
       obtain ⟨v, hv⟩ : ∃ v, Lib.bitLen (x / 65536).toNat = v := ⟨_, rfl⟩
       have hix := ix8 (x / 65536) v (by omega) (by omega) hv
       have e := Lib.bitLen_shift16 x.toNat (by omega) (by omega)
       rw [show x.toNat / 65536 = (x / 65536).toNat by omega, hv] at e
       rw [hv] at l
       rw [e]
       clear hv e
       go_enter Tryz.func130, Tryz.ntmps130
       go_wp2
       go_ret
       exact ⟨rfl, rfl⟩
     · have l := Lib.bitLen_le8' (x / 65536 / 256) (by omega) (by omega)
       obtain ⟨v, hv⟩ : ∃ v, Lib.bitLen (x / 65536 / 256).toNat = v := ⟨_, rfl⟩
       have hix := ix8 (x / 65536 / 256) v (by omega) (by omega) hv
       have e := Lib.bitLen_shift24 x.toNat (by omega) (by omega)
       rw [show x.toNat / 16777216 = (x / 65536 / 256).toNat by omega, hv] at e
       rw [hv] at l
       rw [e]
       clear hv e
       go_enter Tryz.func130, Tryz.ntmps130
       go_wp2
       go_ret
       exact ⟨rfl, rfl⟩
theorem len32_any (x : Nat) (w : World) (h : x < 4294967296) :
   Calls Tryz.prog 130 #[.int .u32 (x : Int)] w fun e w' => e = .returned (.int .i64 (bl x : Nat)) ∧ w = w' := by
 have := len32_lib (x : Int) w (by omega) (by omega)
 rwa [show ((x : Int)).toNat = x from rfl, lib_bitLen (by omega)] at this
theorem lz_any (x : Nat) (w : World) (h : x < 4294967296) (hb : bl x ≤ 32) :
   Calls Tryz.prog 147 #[.int .u32 (x : Int)] w fun e w' => e = .returned (.int .i64 ((32 - bl x : Nat) : Int)) ∧ w = w' := by
 have K := fun W => len32_any x W h
 generalize bl x = v at *
 have K := Lib.hid K
 have e1 : (32 : Int) - (v : Int) = ((32 - v : Nat) : Int) := by omega
 go_enter Tryz.func147, Tryz.ntmps147
 go_wp2_with (first | (go_at_call 130; (with_reducible refine (K.out _).mono ?_); rintro e _ ⟨rfl, rfl⟩))
 go_ret
 exact ⟨rfl, rfl⟩
theorem wp_two (k : Nat) : wp k = 2 ^ (32 * k) := by
 induction k with
 | zero => exact wp_zero
 | succ k ih => rw [wp_succ, ih, Nat.mul_succ, Nat.pow_add, Nat.mul_comm]
theorem bl_bounds {x : Nat} (h : x ≠ 0) : 0 < bl x ∧ 2 ^ (bl x - 1) ≤ x ∧ x < 2 ^ bl x := by
 have e : bl x = Nat.log2 x + 1 := by unfold bl; rw [if_neg h]
 have := (Nat.log2_eq_iff h).1 rfl
 rw [e, Nat.add_sub_cancel]
 exact ⟨by omega, this.1, this.2⟩
theorem bl_unique {n m : Nat} (h1 : 2 ^ m ≤ n) (h2 : n < 2 ^ (m + 1)) : bl n = m + 1 := by
 have h0 : n ≠ 0 := by have := Nat.two_pow_pos m; omega
 unfold bl
 rw [if_neg h0, (Nat.log2_eq_iff h0).2 ⟨h1, h2⟩]
theorem bl_top {a x k : Nat} (ha : a < wp k) (hx : x ≠ 0) : bl (a + wp k * x) = 32 * k + bl x := by
 obtain ⟨h0, h1, h2⟩ := bl_bounds hx
 obtain ⟨m, hm⟩ : ∃ m, bl x = m + 1 := ⟨bl x - 1, by omega⟩
 rw [hm] at h1 h2 ⊢
 rw [Nat.add_sub_cancel] at h1
 rw [← Nat.add_assoc]
 rw [wp_two] at *
 apply bl_unique
 · rw [Nat.pow_add]
   have := Nat.mul_le_mul_left (2 ^ (32 * k)) h1
   omega
 · rw [Nat.add_assoc, Nat.pow_add]
   have h3 : 2 ^ (32 * k) * (x + 1) ≤ 2 ^ (32 * k) * 2 ^ (m + 1) := Nat.mul_le_mul_left _ h2
   rw [Nat.mul_add] at h3
   omega
theorem bl_le32 {x : Nat} (h : x < 4294967296) : bl x ≤ 32 := by
 by_cases h0 : x = 0
 · subst h0; rw [bl_zero]; omega
 · obtain ⟨h1, h2, _⟩ := bl_bounds h0
   rcases Nat.lt_or_ge 32 (bl x) with h3 | h3
   · have := Nat.pow_le_pow_right (n := 2) (by omega) (show 32 ≤ bl x - 1 by omega)
     omega
   · exact h3
theorem bl_words {l : List Nat} (hW : W32 l) {k : Nat} (hk : k < l.length) (hz : ∀ i, k + 1 ≤ i → l.getD i 0 = 0) (hx : l[k] ≠ 0) : bl (nv l) = 32 * k + bl l[k] := by
 have h1 : nv l = nv (l.take (k + 1)) := by
   have h2 := nv_split l (k + 1) hk
   have h3 : nv (l.drop (k + 1)) = 0 := by
     refine nv_zeros fun x hx => ?_
     obtain ⟨i, hi, e⟩ := List.mem_iff_getElem.1 hx
     have h4 := hz (k + 1 + i) (by omega)
     rw [List.length_drop] at hi
     rw [List.getElem_drop] at e
     rw [getD_of_lt (by omega)] at h4
     rw [← e]; exact h4
   rw [h3, Nat.mul_zero, Nat.add_zero] at h2
   exact h2
 rw [h1, nv_take_succ hk]
 exact bl_top (nv_take_lt hW k) hx
theorem bits_any (A : Option Addr) (l : List Nat) (n c : Nat) (w : World) (hl : l.length = n) (hn : n ≤ 1099511627776) (hW : W32 l) (h : RdW w w.heap.size A l) :
   Calls Tryz.prog 114 #[.slice A n c] w fun e w' => e = .returned (.int .i64 (bl (nv l) : Nat)) ∧ w = w' := by
 subst hl
 go_enter Tryz.func114, Tryz.ntmps114
 go_wp2
 go_loop [3] (fun ii => ∃ k : Nat, k ≤ l.length ∧ ii = .int .i64 ((k : Int) - 1) ∧ (∀ i, k ≤ i → l.getD i 0 = 0)) (fun ii => (intOf ii + 1).toNat)
 case atStart => exact ⟨l.length, Nat.le_refl _, rfl, fun i hi => getD_of_ge hi⟩
 case round =>
   obtain ⟨k, hk, hi, hz⟩ := hrel
   have HZ := Lib.hid hz
   clear hz
   rcases k with _ | k
   · obtain rfl := hi
     have HE : Hid (bl (nv l) = 0) := by
       show bl (nv l) = 0
       rw [bl_eq_zero, nv_eq_zero]
       intro x hx
       obtain ⟨i, hi, e⟩ := List.mem_iff_getElem.1 hx
       have := HZ.out i (Nat.zero_le _)
       rw [getD_of_lt hi] at this
       rw [← e]; exact this
     go_wp2
     go_ret
     exact ⟨by rw [HE.out]; rfl, rfl⟩
   · have hi' := hi.trans (vint (k := .i64) (show (((k + 1 : Nat) : Int) - 1) = (k : Int) by omega))
     clear hi
     obtain rfl := hi'
     have hlt : k < l.length := by omega
     obtain ⟨b, off, rfl, hb, y1⟩ := h.at_ hlt
     have hx := hW.at_ hlt
     have HX := Lib.hid (getD_of_lt hlt)
     by_cases hx0 : l[k] = 0
     · have HN : Hid (∀ i, k ≤ i → l.getD i 0 = 0) := by
         intro i hi
         by_cases e : i = k
         · rw [e, HX.out, hx0]
         · exact HZ.out i (by omega)
       rw [hx0] at y1
       clear hx0 hx HX
       go_wp2
       go_round
       case rel => exact ⟨k, by omega, by go_num, HN.out⟩
       case measure => simp [intOf]
     · have HE := Lib.hid (bl_words hW hlt HZ.out hx0)
       have hb32 := bl_le32 hx
       have hx1 : (((l[k] : Nat) : Int) != 0) = true := by rw [bne_iff_ne]; omega
       have K := fun W => len32_any l[k] W hx
       generalize l[k] = x at *
       generalize bl x = v at *
       have K := Lib.hid K
       clear hx0 HX
       go_wp2_with (first | (go_at_call 130; (with_reducible refine (K.out _).mono ?_); rintro e _ ⟨rfl, rfl⟩))
       go_ret
       exact ⟨by rw [HE.out]; exact ret_int (show (32 : Int) * (k : Int) + (v : Int) = ((32 * k + v : Nat) : Int) by omega), rfl⟩
end Go.Proofs.YtoiopnmphbnjaaaGreatDoor
