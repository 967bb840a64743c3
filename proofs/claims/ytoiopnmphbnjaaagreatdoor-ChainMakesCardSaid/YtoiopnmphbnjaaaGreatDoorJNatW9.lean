/- Contracts and lemmas for the given statements. Conditions: those alone that each names. -/
import Derived.Test.YtoiopnmphbnjaaaGreatDoorJNatW5
import Derived.Test.YtoiopnmphbnjaaaGreatDoorJBase
set_option maxHeartbeats 4000000
namespace Go.Proofs.YtoiopnmphbnjaaaGreatDoor
open Go.RowKit
set_option linter.unusedSimpArgs false
set_option linter.unusedVariables false
set_option maxRecDepth 20000
attribute [local irreducible] nv wp win
/-! ## Div -/
/-- quotient and remainder, of the call's own -/
def DivR (a b : Nat) (base : Nat) (e : Ending) (w' : World) : Prop :=
 ∃ A1 c1 A2 c2, e = .returned (.tuple #[.slice A1 (dig (a / b)).length c1, .slice A2 (dig (a % b)).length c2, .nilIface]) ∧ OwW w' base A1 c1 (dig (a / b)) ∧ OwW w' base A2 c2 (dig (a % b))
theorem dig_len_one {b : Nat} (h : (dig b).length = 1) : (dig b)[0]'(by omega) = b ∧ b < 4294967296 ∧ 0 < b := by
 obtain ⟨x, hx⟩ := List.length_eq_one_iff.1 h
 have h1 := nv_dig b
 rw [hx, nv_one] at h1
 have h2 := dig_W32 b x (by rw [hx]; simp)
 have h3 := dig_len_pos.1 (show 0 < (dig b).length by omega)
 refine ⟨?_, by omega, by omega⟩
 simp [hx, h1]
theorem div_short (A B : Option Addr) (l m : List Nat) (n c n' c' : Nat) (w : World) (hl : l.length = n) (hm : m.length = n') (hn : n ≤ 274877906944) (hn' : n' ≤ 274877906944) (hcap : n ≤ c) (hcap' : n' ≤ c') (hW : W32 l) (hW' : W32 m)
   (h : RdW w w.heap.size A l) (h' : RdW w w.heap.size B m) (hb0 : nv m ≠ 0) (hs : nv l < nv m ∨ (dig (nv m)).length = 1) :
   Calls Tryz.prog 115 #[.slice A n c, .slice B n' c'] w fun e w' => DivR (nv l) (nv m) w.heap.size e w' ∧ Below w.heap.size w w' := by
 have K1 := Lib.hid (trim_any A l n c w hl (by omega) hcap hW h)
 have K2 := Lib.hid (fun W (hb : Below w.heap.size w W) (hz : w.heap.size ≤ W.heap.size) => trim_any B m n' c' W hm (by omega) hcap' hW' (h'.on hb hz))
 have q1 : (dig (nv l)).length ≤ 274877906944 := Nat.le_trans (dig_length_le (nv_lt hW)) (by omega)
 have q2 : (dig (nv m)).length ≤ 274877906944 := Nat.le_trans (dig_length_le (nv_lt hW')) (by omega)
 generalize nv l = a at *
 generalize nv m = b at *
 clear hW hW' h h' hl hm
 have q3 : 0 < (dig b).length := dig_len_pos.2 hb0
 have K3 := Lib.hid (fun (A1 A2 : Option Addr) (c1 c2 : Nat) W h1 h2 (h3 : RdW W W.heap.size A1 (dig a)) (h4 : RdW W W.heap.size A2 (dig b)) => cmp_any A1 A2 (dig a) (dig b) _ c1 _ c2 W rfl rfl (by omega) (by omega) h1 h2 (dig_W32 a) (dig_W32 b) h3 h4)
 go_enter Tryz.func115, Tryz.ntmps115
 (go_wp2_with fail; (with_reducible refine (K1.out).mono ?_); rintro e w1 ⟨A1, c1, rfl, own1, hb1⟩; have hb1z := Below.size hb1; (try simp only [ZZ] at hb1z))
 (go_wp2_with fail; (with_reducible refine (K2.out _ (by have z0 := Below.size hb1; (try simp only [ZZ] at z0 ⊢; skip); repeat' (first | (with_reducible first | exact BlR _ _ | assumption | refine BlA ?_ ?_ _ | refine BlD ?_ | refine BlN ?_ _ | refine BlS ?_ ?_ _ | refine BlT ?_ (BlM (by assumption) ?_)) | omega | (simp only [ZZ]; omega) | go_size)) (by omega)).mono ?_); rintro e w2 ⟨A2, c2, rfl, own2, hb2⟩; have hb2z := Below.size hb2; (try simp only [ZZ] at hb2z))
 have own1' := own1.below hb2
 (go_wp2_with fail; (with_reducible refine (K3.out A1 A2 c1 c2 _ own1'.cap own2.cap own1'.rd own2.rd).mono ?_); rintro e w3 ⟨rfl, hb3⟩; have hb3z := Below.size hb3; (try simp only [ZZ] at hb3z))
 rw [nv_dig, nv_dig]
 by_cases hlt : a < b
 · rw [cmpN_lt hlt]
   have HQ : Hid (a / b = 0) := Nat.div_eq_of_lt hlt
   have HR : Hid (a % b = a) := Nat.mod_eq_of_lt hlt
   clear hs
   go_wp2
   go_ret3
   exact ⟨⟨none, 0, A1, c1, by rw [HQ.out, HR.out, dig_zero]; rfl, by rw [HQ.out, dig_zero]; exact OwW.nil_ _ _, by rw [HR.out]; exact own1'.below hb3⟩, (by have z0 := Below.size hb1; have z1 := Below.size hb2; have z2 := Below.size hb3; (try simp only [ZZ] at z0 z1 z2 ⊢; skip); repeat' (first | (with_reducible first | exact BlR _ _ | assumption | refine BlA ?_ ?_ _ | refine BlD ?_ | refine BlN ?_ _ | refine BlS ?_ ?_ _ | refine BlT ?_ (BlM (by assumption) ?_)) | omega | (simp only [ZZ]; omega) | go_size))⟩
 · have hq : 0 ≤ cmpN a b := by unfold cmpN; split; omega; split <;> omega
   generalize cmpN a b = cq at *
   have h1 : (dig b).length = 1 := by rcases hs with hs | hs; exact absurd hs hlt; exact hs
   obtain ⟨h2, h3, h4⟩ := dig_len_one h1
   have own3 := own2.below hb3
   obtain ⟨b1, o1, rfl, hbb1, y1⟩ := own3.rd.at_ (k := 0) (by omega)
   rw [h2, Nat.add_zero] at y1
   have own4 := own1'.below hb3
   have K4 := Lib.hid (small_any A1 (dig a) _ c1 b w3 rfl (by omega) (dig_W32 a) h4 h3 own4.rd)
   have hmod : a % b < 4294967296 := by have := Nat.mod_lt a h4; omega
   have K5 := fun W => of_any ((a % b : Nat) : Int) W (by omega)
   rw [show (((a % b : Nat) : Int)).toNat = a % b from rfl] at K5
   have K5 := Lib.hid K5
   have K4' : Hid (Calls Tryz.prog 145 #[.slice A1 (dig a).length c1, .int .u32 (b : Int)] w3 fun e w' => ∃ A' c'', e = .returned (.tuple #[.slice A' (dig (a / b)).length c'', .int .u32 (a % b : Nat)]) ∧ OwW w' w3.heap.size A' c'' (dig (a / b)) ∧ Below w3.heap.size w3 w') := by
     have := K4.out; rw [nv_dig] at this; exact this
   clear K4 hs h2 hlt
   have HL := Lib.hid h1
   have h1' : (((dig b).length : Int) == 1) = true := by rw [h1]; rfl
   clear h1
   obtain ⟨r, hr⟩ : ∃ r, r = a % b := ⟨_, rfl⟩
   obtain ⟨q, hq⟩ : ∃ q, q = a / b := ⟨_, rfl⟩
   rw [← hr, ← hq] at K4'
   rw [← hr] at K5 hmod
   have HR := Lib.hid hr
   have HQ := Lib.hid hq
   clear hr hq
   have e1 : IntKind.i64.wrap (r : Int) = (r : Int) := by rw [IntKind.wrap_i64]; omega
   (go_wp2_with fail; (with_reducible refine (K4'.out).mono ?_); rintro e w4 ⟨A4, c4, rfl, own5, hb4⟩; have hb4z := Below.size hb4; (try simp only [ZZ] at hb4z))
   (go_wp2_with fail; (with_reducible refine (K5.out _).mono ?_); rintro e w5 ⟨A5, c5, rfl, own6, hb5⟩; have hb5z := Below.size hb5; (try simp only [ZZ] at hb5z))
   go_wp2
   go_ret3
   exact ⟨⟨A4, c4, A5, c5, by rw [← HQ.out, ← HR.out]; rfl, by rw [← HQ.out]; exact (own5.below hb5).base_ (by omega), by rw [← HR.out]; exact own6.base_ (by omega)⟩, (by have z0 := Below.size hb1; have z1 := Below.size hb2; have z2 := Below.size hb3; have z3 := Below.size hb4; have z4 := Below.size hb5; (try simp only [ZZ] at z0 z1 z2 z3 z4 ⊢; skip); repeat' (first | (with_reducible first | exact BlR _ _ | assumption | refine BlA ?_ ?_ _ | refine BlD ?_ | refine BlN ?_ _ | refine BlS ?_ ?_ _ | refine BlT ?_ (BlM (by assumption) ?_)) | omega | (simp only [ZZ]; omega) | go_size))⟩
end Go.Proofs.YtoiopnmphbnjaaaGreatDoor
namespace Go.Proofs.YtoiopnmphbnjaaaGreatDoor
open Go.RowKit
set_option linter.unusedSimpArgs false
set_option linter.unusedVariables false
set_option maxRecDepth 100000
attribute [local irreducible] nv wp win
/-! ## Div: the long division -/
theorem grown_then2 {w wr w7 : World} {row : Option Nat} (h : wr.grownBy w7 row) (hb : Below w.heap.size w wr) : w.grownBy w7 row :=
 ⟨h.1.trans hb.os, h.2.trans hb.tape, h.3.trans hb.output, Nat.le_trans hb.size h.4, fun j h1 h2 => (h.5 j (Nat.lt_of_lt_of_le h1 hb.size) h2).trans (hb.block j h1)⟩
theorem below_of_grown {w wr : World} {g B : Nat} (h : w.grownBy wr (some g)) (hg : B ≤ g) (hB : B ≤ w.heap.size) : Below B w wr := (Below.refl _ _).grown h hB (by intro k hk; injection hk with hk; omega)
theorem below_setq {w : World} {g q k : Nat} {x : Value} (h : g ≤ q) : Below g w (w.setCell ⟨q, k, none⟩ x) := (Below.refl _ _).setCell h _
theorem div_long (A B : Option Addr) (l m : List Nat) (n c n' c' : Nat) (w : World) (hl : l.length = n) (hm : m.length = n') (hn : n ≤ 274877906944) (hn' : n' ≤ 274877906944) (hcap : n ≤ c) (hcap' : n' ≤ c') (hW : W32 l) (hW' : W32 m)
   (h : RdW w w.heap.size A l) (h' : RdW w w.heap.size B m) (hle : nv m ≤ nv l) (h2 : 2 ≤ (dig (nv m)).length) :
   Calls Tryz.prog 115 #[.slice A n c, .slice B n' c'] w fun e w' => DivR (nv l) (nv m) w.heap.size e w' ∧ Below w.heap.size w w' := by
 have K1 := Lib.hid (trim_any A l n c w hl (by omega) hcap hW h)
 have K2 := Lib.hid (fun W (hb : Below w.heap.size w W) (hz : w.heap.size ≤ W.heap.size) => trim_any B m n' c' W hm (by omega) hcap' hW' (h'.on hb hz))
 have q1 : (dig (nv l)).length ≤ 274877906944 := Nat.le_trans (dig_length_le (nv_lt hW)) (by omega)
 have q2 : (dig (nv m)).length ≤ 274877906944 := Nat.le_trans (dig_length_le (nv_lt hW')) (by omega)
 generalize nv l = a at *
 generalize nv m = b at *
 clear hW hW' h h' hl hm
 have K3 := Lib.hid (fun (A1 A2 : Option Addr) (c1 c2 : Nat) W h1 h2 (h3 : RdW W W.heap.size A1 (dig a)) (h4 : RdW W W.heap.size A2 (dig b)) => cmp_any A1 A2 (dig a) (dig b) _ c1 _ c2 W rfl rfl (by omega) (by omega) h1 h2 (dig_W32 a) (dig_W32 b) h3 h4)
 obtain ⟨M, hM⟩ : ∃ M, M = (dig b).length := ⟨_, rfl⟩
 obtain ⟨L, hL⟩ : ∃ L, L = (dig a).length := ⟨_, rfl⟩
 have hlt1 : M - 1 < (dig b).length := by omega
 have ht32 := (dig_W32 b).at_ hlt1
 have ht0 : (dig b)[M - 1] ≠ 0 := (dig_can b).2 _ (by rw [List.getLast?_eq_getElem?, ← hM, List.getElem?_eq_getElem])
 obtain ⟨t, htE⟩ : ∃ t, t = (dig b)[M - 1] := ⟨_, rfl⟩
 rw [← htE] at ht32 ht0
 obtain ⟨hb0, hb1, hb2⟩ := bl_bounds ht0
 have hbl := bl_le32 ht32
 have hS := shf_mk (t := t) (n := 32 - bl t) hle h2 (by rw [← hM, getD_of_lt hlt1, htE]) ht0 rfl hb0 hb1 hb2 hbl
 rw [← hM, ← hL] at hS
 have K4 := fun W => lz_any t W ht32 hbl
 obtain ⟨n0, hn0⟩ : ∃ n0, n0 = 32 - bl t := ⟨_, rfl⟩
 rw [← hn0] at hS K4
 have K4 := Lib.hid K4
 have HS := Lib.hid hS
 have hm2 := hS.m2
 have hmL := hS.mL
 have hn32 := hS.n32
 have HT := Lib.hid htE
 have HMB := Lib.hid hM
 have HLA := Lib.hid hL
 have hq : 0 ≤ cmpN a b := by unfold cmpN; split; omega; split <;> omega
 clear hS hb0 hb1 hb2 hbl hn0 htE ht0 h2 hle
 rw [← hL] at q1
 rw [← hM] at q2
 rw [← hL] at K1
 rw [← hM] at K2
 rw [← hL, ← hM] at K3
 clear hL hM
 go_enter Tryz.func115, Tryz.ntmps115
 (go_wp2_with fail; (with_reducible refine (K1.out).mono ?_); rintro e w1 ⟨A1, c1, rfl, own1, hb1⟩; have hb1z := Below.size hb1; (try simp only [ZZ] at hb1z))
 (go_wp2_with fail; (with_reducible refine (K2.out _ (by have z0 := Below.size hb1; (try simp only [ZZ] at z0 ⊢; skip); repeat' (first | (with_reducible first | exact BlR _ _ | assumption | refine BlA ?_ ?_ _ | refine BlD ?_ | refine BlN ?_ _ | refine BlS ?_ ?_ _ | refine BlT ?_ (BlM (by assumption) ?_)) | omega | (simp only [ZZ]; omega) | go_size)) (by omega)).mono ?_); rintro e w2 ⟨A2, c2, rfl, own2, hb2⟩; have hb2z := Below.size hb2; (try simp only [ZZ] at hb2z))
 have own1' := own1.below hb2
 (go_wp2_with fail; (with_reducible refine (K3.out A1 A2 c1 c2 _ (by have := own1'.cap; rwa [← HLA.out] at this) (by have := own2.cap; rwa [← HMB.out] at this) own1'.rd own2.rd).mono ?_); rintro e w3 ⟨rfl, hb3⟩; have hb3z := Below.size hb3; (try simp only [ZZ] at hb3z))
 rw [nv_dig, nv_dig]
 generalize cmpN a b = cq at *
 have own3 := own2.below hb3
 have own4 := own1'.below hb3
 obtain ⟨b1, o1, rfl, hbb1, y1⟩ := own3.rd.at_ (k := M - 1) (by have := HMB.out; omega)
 rw [← HT.out] at y1
 go_wp2_with (first | (go_at_call 147; (with_reducible refine (K4.out _).mono ?_); rintro e _ ⟨rfl, rfl⟩) | fail)
 have K5 := Lib.hid (left_any (some ⟨b1, o1, none⟩) (dig b) M c2 n0 w3 HMB.out.symm (by omega) (dig_W32 b) hn32 own3.rd)
 (with_reducible refine (K5.out).mono ?_)
 rintro e w4 ⟨gv, v0, rfl, hv1, hv2, hv3, own5, hb4⟩
 have hb4z := hb4.size
 rw [nv_dig] at hv3
 (go_wp2_with fail; (with_reducible refine (left_any A1 (dig a) L c1 n0 w4 HLA.out.symm (by omega) (dig_W32 a) hn32 (own4.below hb4).rd).mono ?_); rintro e w5 ⟨gu, u0, rfl, hu1, hu2, hu3, own6, hb5⟩; have hb5z := Below.size hb5; (try simp only [ZZ] at hb5z))
 have hvV := take_low hv1 hv3 HS.out.lt
 obtain ⟨vl, hvl⟩ : ∃ vl, vl = v0.take M := ⟨_, rfl⟩
 have hvll : vl.length = M := by rw [hvl, List.length_take]; omega
 have hvW : W32 vl := by rw [hvl]; exact hv2.take M
 rw [← hvl] at hvV
 have own5' := own5.below hb5
 have hrv : RdW w5 w5.heap.size (some ⟨gv, 0, none⟩) vl := by rw [hvl]; exact own5'.rd.take (by omega)
 obtain ⟨ht1, ht2, ht3⟩ := top_words hvW hvll hm2 hvV HS.out.ge
 have hk1 : M - 1 < v0.length := by omega
 have hk2 : M - 2 < v0.length := by omega
 have y2 := own5'.cell hk1
 have y3 := own5'.cell hk2
 have e1 : vl.getD (M - 1) 0 = v0[M - 1] := by rw [hvl, getD_of_lt (by rw [List.length_take]; omega)]; simp
 have e2 : vl.getD (M - 2) 0 = v0[M - 2] := by rw [hvl, getD_of_lt (by rw [List.length_take]; omega)]; simp
 have hT32 := hv2.at_ hk1
 have hx32 := hv2.at_ hk2
 rw [e1] at ht1 ht2 ht3
 rw [e2] at ht2
 generalize v0[M - 1] = T at *
 generalize v0[M - 2] = nx at *
 have hgv5 := own5'.lt
 have hgu5 := own6.lt
 have hgvu : gv < gu := by have := own5.lt; omega
 obtain ⟨V, hV⟩ : ∃ V, V = b * 2 ^ n0 := ⟨_, rfl⟩
 rw [← hV] at hvV ht1 ht2
 have HVV := Lib.hid hvV
 have HT1 := Lib.hid ht1
 have HT2 := Lib.hid ht2
 have HVE := Lib.hid hV
 have HVW := Lib.hid hvW
 have HVL := Lib.hid hvll
 have HU1 := Lib.hid hu1
 have HU2 := Lib.hid hu2
 have HU3 := Lib.hid hu3
 clear hvl hvll hvW hvV ht1 ht2 hV hu1 hu2 hu3 e1 e2 hv1 hv2 hv3 own5 own3 own4 own1 own1' own2 y1 hk1 hk2
 go_wp2
 go_quiet (fail)
 obtain ⟨K0, hK0⟩ : ∃ K0, K0 + M = L + 1 := ⟨L + 1 - M, by omega⟩
 have e3 : (L : Int) + 1 - (M : Int) = (K0 : Int) := by omega
 go_wp2_with (at_make; refine wpList_makeW rfl (.tmp 80) (.tmp 80) rfl w.heap.size K0 _ _ rfl rfl (by omega) (by omega) (by omega) (by simp; omega) ?_; intro w6 own7 hb6)
 have hb6z := hb6.size
 simp only [size_drewN'] at own7 hb6z ⊢
 have hb56 : Below w5.heap.size w5 w6 := (below_drewN (Below.refl _ _) _).trans hb6
 obtain ⟨gq, hgq⟩ : ∃ gq, gq = w5.heap.size := ⟨_, rfl⟩
 rw [← hgq] at own7 ⊢
 have hgq2 : gu < gq := by omega
 have ownU0 : OwG w6 w.heap.size gu (L + 1) u0 := own_base (own6.below hb56) (by omega)
 have hrv0 : RdW w6 gu (some ⟨gv, 0, none⟩) vl := (hrv.below hb56).lower (by omega)
 have hbw : Below w.heap.size w w6 := (by have z0 := Below.size hb1; have z1 := Below.size hb2; have z2 := Below.size hb3; have z3 := Below.size hb4; have z4 := Below.size hb5; have z5 := Below.size hb56; (try simp only [ZZ] at z0 z1 z2 z3 z4 z5 ⊢; skip); repeat' (first | (with_reducible first | exact BlR _ _ | assumption | refine BlA ?_ ?_ _ | refine BlD ?_ | refine BlN ?_ _ | refine BlS ?_ ?_ _ | refine BlT ?_ (BlM (by assumption) ?_)) | omega | (simp only [ZZ]; omega) | go_size))
 have hgz : w.heap.size ≤ gu := by omega
 have hq0 : w.heap.size ≤ gq := by omega
 have HN0 : Hid (a * 2 ^ n0 = V * (wp K0 * nv ((List.replicate K0 0).drop K0)) + nv u0) := by
   show a * 2 ^ n0 = V * (wp K0 * nv ((List.replicate K0 0).drop K0)) + nv u0
   rw [List.drop_eq_nil_of_le (by simp), nv_nil, Nat.mul_zero, Nat.mul_zero, Nat.zero_add, HU3.out, nv_dig]
 have HD0 : Hid (nv (u0.drop K0) < V) := by
   show nv (u0.drop K0) < V
   have := div_start HS.out HU2.out HU1.out (by rw [HU3.out, nv_dig])
   rwa [show L + 1 - M = K0 by omega, ← HVE.out] at this
 have hVlt : V < wp M := by rw [HVE.out]; exact HS.out.lt
 have hV0 : 0 < V := by rw [HVE.out]; exact HS.out.pos
 clear hgq own6 hrv
 go_loopw [14] (fun jj wr => ∃ (k : Nat) (u q : List Nat), k ≤ K0 ∧ jj = .int .i64 ((k : Int) - 1) ∧ u.length = L + 1 ∧ W32 u ∧ q.length = K0 ∧ W32 q ∧ nv (u.drop k) < V ∧ a * 2 ^ n0 = V * (wp k * nv (q.drop k)) + nv u ∧
     OwG wr w.heap.size gu (L + 1) u ∧ OwG wr w.heap.size gq K0 q ∧ RdW wr gu (some ⟨gv, 0, none⟩) vl ∧ Below w.heap.size w wr) (fun jj _ => (intOf jj + 1).toNat)
 case atStart => exact ⟨K0, u0, _, Nat.le_refl _, rfl, HU1.out, HU2.out, by simp, W32.replicate _, HD0.out, HN0.out, ownU0, own7, hrv0, hbw⟩
 case round =>
   obtain ⟨k, u, q, hk, hi, hul, huW, hql, hqW, hud, hN, ownU, ownQ, hrv2, hb⟩ := hrel
   have HUL := Lib.hid hul
   have HUW := Lib.hid huW
   have HQL := Lib.hid hql
   have HQW := Lib.hid hqW
   have HUD := Lib.hid hud
   have HN := Lib.hid hN
   clear hul huW hql hqW hud hN HN0 HD0 own7 ownU0 hrv0 hbw
   have hbz := hb.size
   have hgul := ownU.lt
   have hgql := ownQ.lt
   obtain ⟨wo, rfl⟩ : ∃ wo : World, wo = wr := ⟨_, rfl⟩
   rcases k with _ | k
   · obtain rfl := hi
     have hfin := div_finish (u := u) (q := q) (a := a) (b := b) (n := n0) HS.out.pos (by have := HUD.out; rwa [List.drop_zero, HVE.out] at this) (by have := HN.out; rwa [wp_zero, Nat.one_mul, List.drop_zero, HVE.out] at this)
     have K7 := trim_any (some ⟨gq, 0, none⟩) q K0 K0 wo HQL.out (by omega) (by omega) HQW.out ownQ.rd
     rw [hfin.1] at K7
     have K7 := Lib.hid K7
     have HF := Lib.hid hfin.2
     clear hfin
     (go_wp2_with fail; (with_reducible refine (K7.out).mono ?_); rintro e w8 ⟨A7, c7, rfl, own8, hb8⟩; have hb8z := Below.size hb8; (try simp only [ZZ] at hb8z))
     (go_wp2_with fail; (with_reducible refine (right_any (some ⟨gu, 0, none⟩) u (L + 1) (L + 1) n0 w8 HUL.out (by omega) HUW.out hn32 (ownU.below hb8).rd).mono ?_); rintro e w9 ⟨g9, o9, rfl, hl9, hW9, hv9, own9, hb9⟩; have hb9z := Below.size hb9; (try simp only [ZZ] at hb9z))
     have K10 := trim_any (some ⟨g9, 0, none⟩) o9 (L + 1) (L + 1) w9 hl9 (by omega) (by omega) hW9 own9.rd
     rw [hv9, HF.out] at K10
     have K10 := Lib.hid K10
     clear hv9 hl9 hW9 HF
     (go_wp2_with fail; (with_reducible refine (K10.out).mono ?_); rintro e w10 ⟨A10, c10, rfl, own10, hb10⟩; have hb10z := Below.size hb10; (try simp only [ZZ] at hb10z))
     go_wp2
     go_ret3
     exact ⟨⟨A7, c7, A10, c10, rfl, ((own8.below hb9).below hb10).base_ (by omega), own10.base_ (by omega)⟩, (by have z0 := Below.size hb; have z1 := Below.size hb8; have z2 := Below.size hb9; have z3 := Below.size hb10; (try simp only [ZZ] at z0 z1 z2 z3 ⊢; skip); repeat' (first | (with_reducible first | exact BlR _ _ | assumption | refine BlA ?_ ?_ _ | refine BlD ?_ | refine BlN ?_ _ | refine BlS ?_ ?_ _ | refine BlT ?_ (BlM (by assumption) ?_)) | omega | (simp only [ZZ]; omega) | go_size))⟩
   · have hi' := hi.trans (vint (k := .i64) (show (((k + 1 : Nat) : Int) - 1) = (k : Int) by omega))
     clear hi
     obtain rfl := hi'
     have k0 : k + M < u.length := by have := HUL.out; omega
     have k1 : k + M - 1 < u.length := by have := HUL.out; omega
     have k2 : k + M - 2 < u.length := by have := HUL.out; omega
     have y4 := ownU.cell k0
     have y5 := ownU.cell k1
     have y6 := ownU.cell k2
     obtain ⟨hc1, hc2⟩ := cur_words (k := k) (m := M) HUW.out (by omega) hm2
     rw [getD_of_lt k0, getD_of_lt k1] at hc1
     rw [getD_of_lt k0, getD_of_lt k1, getD_of_lt k2] at hc2
     have x32 := HUW.out.at_ k0
     have x31 := HUW.out.at_ k1
     have x30 := HUW.out.at_ k2
     have hcur := div_cur (k := k) (m := M) HUW.out (by omega) hVlt HUD.out
     generalize u[k + M] = x1 at *
     generalize u[k + M - 1] = x0 at *
     generalize u[k + M - 2] = x2 at *
     obtain ⟨Q, hQ⟩ : ∃ Q, Q = nv (win u k (M + 1)) / V := ⟨_, rfl⟩
     have hQ32 : Q < 4294967296 := by rw [hQ, Nat.div_lt_iff_lt_mul hV0]; exact hcur
     have eor := or_shl32 x1 x0 x32 x31
     have es0 : IntKind.u64.wrap ((x1 : Int) * 4294967296) = (x1 : Int) * 4294967296 := by rw [IntKind.wrap_u64]; omega
     obtain ⟨H, hH⟩ : ∃ H, H = 4294967296 * x1 + x0 := ⟨_, rfl⟩
     rw [← hH] at hc1 hc2 eor
     have hH64 : H < 18446744073709551616 := by omega
     have hE0 := est_start (nx := nx) (x2 := x2) (by rw [HT1.out]; omega) HT1.out ht3 hT32 hc1 hcur
     rw [← hQ] at hE0
     have ed : (H : Int) / (T : Int) = ((H / T : Nat) : Int) := (Int.natCast_ediv H T).symm
     have em : (H : Int) % (T : Int) = ((H % T : Nat) : Int) := (Int.natCast_emod H T).symm
     have hRT : H % T < T := Nat.mod_lt _ (by omega)
     have HQD := Lib.hid hQ
     have HC2 := Lib.hid hc2
     clear hQ hc1 hc2 hH hcur k0 k1 k2
     generalize hG0 : H / T = G0 at *
     generalize hR0 : H % T = R0 at *
     have eg : IntKind.u64.wrap (G0 : Int) = (G0 : Int) := by rw [IntKind.wrap_u64]; have := hE0.le; omega
     have HE0 := Lib.hid hE0
     clear hE0 hG0 hR0
     go_wp2
     go_quiet (fail)
     obtain ⟨n1, rfl⟩ : ∃ n1, n1 = nq := ⟨_, rfl⟩
     go_wp2
     go_quiet (fail)
     go_wp2
     go_loop [16, 17] (fun gg rr => ∃ G R : Nat, gg = .int .u64 G ∧ rr = .int .u64 R ∧ Est (nv (win u k (M + 1))) V T nx H x2 Q G R ∧ R < 4294967296) (fun gg _ => (intOf gg).toNat)
     case atStart => exact ⟨G0, R0, rfl, vint em, HE0.out, by omega⟩
     case round =>
       obtain ⟨G, R, rfl, rfl, hE, hR⟩ := hrel
       have hEle := hE.le
       have hEr := hE.r
       have HE := Lib.hid hE
       have eor2 := or_shl32 R x2 hR x30
       obtain ⟨s2, hs2⟩ : ∃ s2, s2 = 4294967296 * R + x2 := ⟨_, rfl⟩
       obtain ⟨zG, hzG⟩ : ∃ z : Int, z = (G : Int) := ⟨_, rfl⟩
       obtain ⟨zR, hzR⟩ : ∃ z : Int, z = (R : Int) := ⟨_, rfl⟩
       rw [← hs2, ← hzR] at eor2
       rw [← hzG, ← hzR]
       have z1 : 0 ≤ zG := by omega
       have z2 : zG ≤ 4294967297 := by omega
       have z3 : 0 ≤ zR := by omega
       have z4 : zR < 4294967296 := by omega
       clear hE HE0 ed em eg eor es0
       by_cases hGB : 4294967296 ≤ G
       · obtain ⟨d1, d2, d3⟩ := est_down HE.out ht3 HQD.out hQ32 (wp_pos (M - 2)) HT2.out HC2.out (.inl hGB)
         obtain ⟨g, rfl⟩ : ∃ g, G = g + 1 := ⟨G - 1, by omega⟩
         rw [Nat.add_sub_cancel] at d1 d3
         have HD3 := Lib.hid d3
         have z5 : 4294967296 ≤ zG := by omega
         have HZG : Hid (zG = ((g + 1 : Nat) : Int)) := hzG
         have HZR := Lib.hid hzR
         clear d3 hzG
         by_cases hRB : R + T < 4294967296
         · have HEN : Hid (Est (nv (win u k (M + 1))) V T nx H x2 Q g (R + T)) := ⟨HD3.out, d1, by omega, fun h => by omega⟩
           have z6 : zR + (T : Int) < 4294967296 := by omega
           have hRB' := Lib.hid hRB
           clear HE HD3 hEr hs2 hRB hzR hGB
           go_wp2
           go_round
           case rel => exact ⟨g, by have := HZG.out; omega, R + T, by have := HZR.out; omega, HEN.out, hRB'.out⟩
           case measure => have := HZG.out; simp [intOf]; omega
         · have hg32 : g < 4294967296 := by omega
           have hG2 : g ≤ Q + 1 := est_done HD3.out ht3 HQD.out (wp_pos _) hV0 HT2.out HC2.out hg32 (by
             have := Nat.mul_le_mul (show g ≤ 4294967295 by omega) (show nx ≤ 4294967295 by omega)
             omega)
           have hG32 := hg32
           have z6 : 4294967296 ≤ zR + (T : Int) := by omega
           clear HE HD3 hEr hs2 hRB hzR hGB hEle
           have eM : k + M + 1 - k = M + 1 := by omega
           go_wp2_with fail
           rw [show zG - 1 = (g : Int) from by have := HZG.out; omega]
           (with_reducible refine (take_any (some ⟨gv, 0, none⟩) u vl M (M + 1) _ _ k g gu (L + 1) w.heap.size (wo.drewN (n1 + nq)) HVL.out rfl (by have := HUL.out; omega) (by have := HUL.out; omega) hG32 HUW.out HVW.out (ownU.below (below_drewN (Below.refl _ _) _)) (hrv2.below (below_drewN (Below.refl _ _) _))).mono ?_)
           rintro e w7 ⟨u2, r, rfl, hr, hul2, huW2, hsame, hval, ownU2, hg7⟩
           have hg7' := grown_then2 hg7 (below_drewN (Below.refl _ _) _)
           have ownQ2 := ownQ.keep hg7' (by simp; omega)
           have hrv3 := hrv2.below (grown_below hg7' (by omega))
           have y7 := ownQ2.frozen k
           have y8 := ownQ2.cell (k := k) (by have := HQL.out; omega)
           have hg7z := hg7'.size
           rw [HVV.out] at hval
           have hw2 := win_lt huW2 k (M + 1)
           by_cases hGQ : g = Q
           · obtain ⟨hr0, hwE⟩ := take_exact hval hr hw2 (hGQ.trans HQD.out) (win_lt HUW.out k (M + 1))
             subst hr0
             have HRR := Lib.hid (div_round (N0 := a * 2 ^ n0) hul2 (by have := HUL.out; omega) hVlt hV0 HUD.out HN.out hsame HQD.out hwE (by have := HQL.out; omega))
             have HSU := Lib.hid huW2
             have HLU : Hid (u2.length = L + 1) := hul2.trans HUL.out
             subst hGQ
             clear hsame hval huW2 hul2 hwE hw2
             go_wp2
             go_roundw
             case rel => exact ⟨k, u2, q.set k g, by omega, by go_num, HLU.out, HSU.out, by simpa using HQL.out, HQW.out.set _ _ hQ32, HRR.out.1, HRR.out.2, ownU2.other (by simp; omega) _, ownQ2.set k g, hrv3.below (below_setq (by omega)), (hb.trans (below_of_grown hg7' hgz hbz)).setCell (by omega) _⟩
             case measure => simp [intOf]
           · have hGQ1 : g = Q + 1 := by omega
             have hr1 := take_over hval hr (hGQ1.trans (by rw [HQD.out])) hV0
             subst hr1
             subst hGQ1
             have HVL1 := Lib.hid hval
             have HSM := Lib.hid hsame
             have HLU : Hid (u2.length = L + 1) := hul2.trans HUL.out
             have HSU := Lib.hid huW2
             clear hsame hval huW2 hul2 hw2
             go_wp2_with fail
             (with_reducible refine (give_any (some ⟨gv, 0, none⟩) u2 vl M (M + 1) _ _ k gu (L + 1) w.heap.size _ HVL.out rfl (by have := HLU.out; omega) (by have := HLU.out; omega) HSU.out HVW.out ownU2 hrv3).mono ?_)
             rintro e w8 ⟨u3, cc, rfl, hcc, hul3, huW3, hsame3, hval3, ownU3, hg8⟩
             have ownQ3 := ownQ2.keep hg8 (by simp; omega)
             have hrv4 := hrv3.below (grown_below hg8 (by omega))
             have y9 := ownQ3.frozen k
             have y10 := ownQ3.cell (k := k) (by have := HQL.out; omega)
             have hg8z := hg8.size
             rw [HVV.out] at hval3
             have hwE := give_back HVL1.out (by rw [HQD.out]) hval3 hcc (win_lt huW3 k (M + 1)) (by have := wp_succ M; omega) hV0
             have HRR := Lib.hid (div_round (N0 := a * 2 ^ n0) (hul3.trans (HLU.out.trans HUL.out.symm)) (by have := HUL.out; omega) hVlt hV0 HUD.out HN.out (fun i hi => (hsame3 i hi).trans (HSM.out i hi)) HQD.out hwE (by have := HQL.out; omega))
             have HSU3 := Lib.hid huW3
             have HLU3 : Hid (u3.length = L + 1) := hul3.trans HLU.out
             clear hsame3 hval3 huW3 hul3 hwE
             go_wp2
             go_roundw
             case rel => exact ⟨k, u3, q.set k Q, by omega, by go_num, HLU3.out, HSU3.out, by simpa using HQL.out, HQW.out.set _ _ hQ32, HRR.out.1, HRR.out.2, ownU3.other (by simp; omega) _, ownQ3.set k Q, hrv4.below (below_setq (by omega)), ((hb.trans (below_of_grown hg7' hgz hbz)).trans (below_of_grown hg8 hgz (by omega))).setCell (by omega) _⟩
             case measure => simp [intOf]
       · have hG32 : G < 4294967296 := by omega
         obtain ⟨p, hp⟩ : ∃ p, p = G * nx := ⟨_, rfl⟩
         have hpb : p < 18446744073709551616 := by
           have := Nat.mul_le_mul (show G ≤ 4294967295 by omega) (show nx ≤ 4294967295 by omega)
           omega
         have e0 : IntKind.u64.wrap (zG * (nx : Int)) = (p : Int) := by
           have : (G : Int) * (nx : Int) = (p : Int) := by rw [hp]; exact (Int.natCast_mul G nx).symm
           rw [hzG, this, IntKind.wrap_u64]; omega
         have z5 : zG < 4294967296 := by omega
         by_cases hps : s2 < p
         · obtain ⟨d1, d2, d3⟩ := est_down HE.out ht3 HQD.out hQ32 (wp_pos (M - 2)) HT2.out HC2.out (.inr (by rw [← hs2, ← hp]; exact hps))
           have HP := Lib.hid hp
           have HS2 := Lib.hid hs2
           clear hp hs2
           obtain ⟨g, rfl⟩ : ∃ g, G = g + 1 := ⟨G - 1, by omega⟩
           rw [Nat.add_sub_cancel] at d1 d3
           have HD3 := Lib.hid d3
           have HZG : Hid (zG = ((g + 1 : Nat) : Int)) := hzG
           have HZR := Lib.hid hzR
           have hg32 : g < 4294967296 := by omega
           clear d3 hzG hGB
           by_cases hRB : R + T < 4294967296
           · have HEN : Hid (Est (nv (win u k (M + 1))) V T nx H x2 Q g (R + T)) := ⟨HD3.out, d1, by omega, fun h => by omega⟩
             have z6 : zR + (T : Int) < 4294967296 := by omega
             have z7 : 1 ≤ zG := by have := HZG.out; omega
             have hRB' := Lib.hid hRB
             clear HE HD3 hEr HP HS2 hRB hzR hG32 hEle hg32
             go_wp2
             go_round
             case rel => exact ⟨g, by have := HZG.out; omega, R + T, by have := HZR.out; omega, HEN.out, hRB'.out⟩
             case measure => have := HZG.out; simp [intOf]; omega
           · have z6 : 4294967296 ≤ zR + (T : Int) := by omega
             have z7 : 1 ≤ zG := by have := HZG.out; omega
             have hG2 : g ≤ Q + 1 := est_done HD3.out ht3 HQD.out (wp_pos _) hV0 HT2.out HC2.out hg32 (by
               have := Nat.mul_le_mul (show g ≤ 4294967295 by omega) (show nx ≤ 4294967295 by omega)
               omega)
             clear HE HD3 hEr HP HS2 hG32 hRB hzR hEle
             have hG32 := hg32
             have eM : k + M + 1 - k = M + 1 := by omega
             go_wp2_with fail
             rw [show zG - 1 = (g : Int) from by have := HZG.out; omega]
             (with_reducible refine (take_any (some ⟨gv, 0, none⟩) u vl M (M + 1) _ _ k g gu (L + 1) w.heap.size (wo.drewN (n1 + nq)) HVL.out rfl (by have := HUL.out; omega) (by have := HUL.out; omega) hG32 HUW.out HVW.out (ownU.below (below_drewN (Below.refl _ _) _)) (hrv2.below (below_drewN (Below.refl _ _) _))).mono ?_)
             rintro e w7 ⟨u2, r, rfl, hr, hul2, huW2, hsame, hval, ownU2, hg7⟩
             have hg7' := grown_then2 hg7 (below_drewN (Below.refl _ _) _)
             have ownQ2 := ownQ.keep hg7' (by simp; omega)
             have hrv3 := hrv2.below (grown_below hg7' (by omega))
             have y7 := ownQ2.frozen k
             have y8 := ownQ2.cell (k := k) (by have := HQL.out; omega)
             have hg7z := hg7'.size
             rw [HVV.out] at hval
             have hw2 := win_lt huW2 k (M + 1)
             by_cases hGQ : g = Q
             · obtain ⟨hr0, hwE⟩ := take_exact hval hr hw2 (hGQ.trans HQD.out) (win_lt HUW.out k (M + 1))
               subst hr0
               have HRR := Lib.hid (div_round (N0 := a * 2 ^ n0) hul2 (by have := HUL.out; omega) hVlt hV0 HUD.out HN.out hsame HQD.out hwE (by have := HQL.out; omega))
               have HSU := Lib.hid huW2
               have HLU : Hid (u2.length = L + 1) := hul2.trans HUL.out
               subst hGQ
               clear hsame hval huW2 hul2 hwE hw2
               go_wp2
               go_roundw
               case rel => exact ⟨k, u2, q.set k g, by omega, by go_num, HLU.out, HSU.out, by simpa using HQL.out, HQW.out.set _ _ hQ32, HRR.out.1, HRR.out.2, ownU2.other (by simp; omega) _, ownQ2.set k g, hrv3.below (below_setq (by omega)), (hb.trans (below_of_grown hg7' hgz hbz)).setCell (by omega) _⟩
               case measure => simp [intOf]
             · have hGQ1 : g = Q + 1 := by omega
               have hr1 := take_over hval hr (hGQ1.trans (by rw [HQD.out])) hV0
               subst hr1
               subst hGQ1
               have HVL1 := Lib.hid hval
               have HSM := Lib.hid hsame
               have HLU : Hid (u2.length = L + 1) := hul2.trans HUL.out
               have HSU := Lib.hid huW2
               clear hsame hval huW2 hul2 hw2
               go_wp2_with fail
               (with_reducible refine (give_any (some ⟨gv, 0, none⟩) u2 vl M (M + 1) _ _ k gu (L + 1) w.heap.size _ HVL.out rfl (by have := HLU.out; omega) (by have := HLU.out; omega) HSU.out HVW.out ownU2 hrv3).mono ?_)
               rintro e w8 ⟨u3, cc, rfl, hcc, hul3, huW3, hsame3, hval3, ownU3, hg8⟩
               have ownQ3 := ownQ2.keep hg8 (by simp; omega)
               have hrv4 := hrv3.below (grown_below hg8 (by omega))
               have y9 := ownQ3.frozen k
               have y10 := ownQ3.cell (k := k) (by have := HQL.out; omega)
               have hg8z := hg8.size
               rw [HVV.out] at hval3
               have hwE := give_back HVL1.out (by rw [HQD.out]) hval3 hcc (win_lt huW3 k (M + 1)) (by have := wp_succ M; omega) hV0
               have HRR := Lib.hid (div_round (N0 := a * 2 ^ n0) (hul3.trans (HLU.out.trans HUL.out.symm)) (by have := HUL.out; omega) hVlt hV0 HUD.out HN.out (fun i hi => (hsame3 i hi).trans (HSM.out i hi)) HQD.out hwE (by have := HQL.out; omega))
               have HSU3 := Lib.hid huW3
               have HLU3 : Hid (u3.length = L + 1) := hul3.trans HLU.out
               clear hsame3 hval3 huW3 hul3 hwE
               go_wp2
               go_roundw
               case rel => exact ⟨k, u3, q.set k Q, by omega, by go_num, HLU3.out, HSU3.out, by simpa using HQL.out, HQW.out.set _ _ hQ32, HRR.out.1, HRR.out.2, ownU3.other (by simp; omega) _, ownQ3.set k Q, hrv4.below (below_setq (by omega)), ((hb.trans (below_of_grown hg7' hgz hbz)).trans (below_of_grown hg8 hgz (by omega))).setCell (by omega) _⟩
               case measure => simp [intOf]
         · have d1 := HE.out.ge
           have hG2 : G ≤ Q + 1 := est_done HE.out.sum ht3 HQD.out (wp_pos _) hV0 HT2.out HC2.out hG32 (by rw [← hs2, ← hp]; omega)
           have HZG := Lib.hid hzG
           clear HE hEr hp hs2 hzG hzR hGB hEle
           have eM : k + M + 1 - k = M + 1 := by omega
           go_wp2_with fail
           rw [HZG.out]
           (with_reducible refine (take_any (some ⟨gv, 0, none⟩) u vl M (M + 1) _ _ k G gu (L + 1) w.heap.size (wo.drewN (n1 + nq)) HVL.out rfl (by have := HUL.out; omega) (by have := HUL.out; omega) hG32 HUW.out HVW.out (ownU.below (below_drewN (Below.refl _ _) _)) (hrv2.below (below_drewN (Below.refl _ _) _))).mono ?_)
           rintro e w7 ⟨u2, r, rfl, hr, hul2, huW2, hsame, hval, ownU2, hg7⟩
           have hg7' := grown_then2 hg7 (below_drewN (Below.refl _ _) _)
           have ownQ2 := ownQ.keep hg7' (by simp; omega)
           have hrv3 := hrv2.below (grown_below hg7' (by omega))
           have y7 := ownQ2.frozen k
           have y8 := ownQ2.cell (k := k) (by have := HQL.out; omega)
           have hg7z := hg7'.size
           rw [HVV.out] at hval
           have hw2 := win_lt huW2 k (M + 1)
           by_cases hGQ : G = Q
           · obtain ⟨hr0, hwE⟩ := take_exact hval hr hw2 (hGQ.trans HQD.out) (win_lt HUW.out k (M + 1))
             subst hr0
             have HRR := Lib.hid (div_round (N0 := a * 2 ^ n0) hul2 (by have := HUL.out; omega) hVlt hV0 HUD.out HN.out hsame HQD.out hwE (by have := HQL.out; omega))
             have HSU := Lib.hid huW2
             have HLU : Hid (u2.length = L + 1) := hul2.trans HUL.out
             subst hGQ
             clear hsame hval huW2 hul2 hwE hw2
             go_wp2
             go_roundw
             case rel => exact ⟨k, u2, q.set k G, by omega, by go_num, HLU.out, HSU.out, by simpa using HQL.out, HQW.out.set _ _ hQ32, HRR.out.1, HRR.out.2, ownU2.other (by simp; omega) _, ownQ2.set k G, hrv3.below (below_setq (by omega)), (hb.trans (below_of_grown hg7' hgz hbz)).setCell (by omega) _⟩
             case measure => simp [intOf]
           · have hGQ1 : G = Q + 1 := by omega
             have hr1 := take_over hval hr (hGQ1.trans (by rw [HQD.out])) hV0
             subst hr1
             subst hGQ1
             have HVL1 := Lib.hid hval
             have HSM := Lib.hid hsame
             have HLU : Hid (u2.length = L + 1) := hul2.trans HUL.out
             have HSU := Lib.hid huW2
             clear hsame hval huW2 hul2 hw2
             go_wp2_with fail
             (with_reducible refine (give_any (some ⟨gv, 0, none⟩) u2 vl M (M + 1) _ _ k gu (L + 1) w.heap.size _ HVL.out rfl (by have := HLU.out; omega) (by have := HLU.out; omega) HSU.out HVW.out ownU2 hrv3).mono ?_)
             rintro e w8 ⟨u3, cc, rfl, hcc, hul3, huW3, hsame3, hval3, ownU3, hg8⟩
             have ownQ3 := ownQ2.keep hg8 (by simp; omega)
             have hrv4 := hrv3.below (grown_below hg8 (by omega))
             have y9 := ownQ3.frozen k
             have y10 := ownQ3.cell (k := k) (by have := HQL.out; omega)
             have hg8z := hg8.size
             rw [HVV.out] at hval3
             have hwE := give_back HVL1.out (by rw [HQD.out]) hval3 hcc (win_lt huW3 k (M + 1)) (by have := wp_succ M; omega) hV0
             have HRR := Lib.hid (div_round (N0 := a * 2 ^ n0) (hul3.trans (HLU.out.trans HUL.out.symm)) (by have := HUL.out; omega) hVlt hV0 HUD.out HN.out (fun i hi => (hsame3 i hi).trans (HSM.out i hi)) HQD.out hwE (by have := HQL.out; omega))
             have HSU3 := Lib.hid huW3
             have HLU3 : Hid (u3.length = L + 1) := hul3.trans HLU.out
             clear hsame3 hval3 huW3 hul3 hwE
             go_wp2
             go_roundw
             case rel => exact ⟨k, u3, q.set k Q, by omega, by go_num, HLU3.out, HSU3.out, by simpa using HQL.out, HQW.out.set _ _ hQ32, HRR.out.1, HRR.out.2, ownU3.other (by simp; omega) _, ownQ3.set k Q, hrv4.below (below_setq (by omega)), ((hb.trans (below_of_grown hg7' hgz hbz)).trans (below_of_grown hg8 hgz (by omega))).setCell (by omega) _⟩
             case measure => simp [intOf]
end Go.Proofs.YtoiopnmphbnjaaaGreatDoor
namespace Go.Proofs.YtoiopnmphbnjaaaGreatDoor
open Go.RowKit
set_option linter.unusedSimpArgs false
set_option linter.unusedVariables false
set_option maxRecDepth 20000
attribute [local irreducible] nv wp win
/-- quotient and remainder of any two numbers, the divisor not 0 -/
theorem div_any (A B : Option Addr) (l m : List Nat) (n c n' c' : Nat) (w : World) (hl : l.length = n) (hm : m.length = n') (hn : n ≤ 274877906944) (hn' : n' ≤ 274877906944) (hcap : n ≤ c) (hcap' : n' ≤ c') (hW : W32 l) (hW' : W32 m)
   (h : RdW w w.heap.size A l) (h' : RdW w w.heap.size B m) (hb0 : nv m ≠ 0) :
   Calls Tryz.prog 115 #[.slice A n c, .slice B n' c'] w fun e w' => DivR (nv l) (nv m) w.heap.size e w' ∧ Below w.heap.size w w' := by
 by_cases hs : nv l < nv m ∨ (dig (nv m)).length = 1
 · exact div_short A B l m n c n' c' w hl hm hn hn' hcap hcap' hW hW' h h' hb0 hs
 · rw [not_or] at hs
   have := dig_len_pos.2 hb0
   exact div_long A B l m n c n' c' w hl hm hn hn' hcap hcap' hW hW' h h' (by omega) (by omega)
/-! ## the number that a slice in memory bears (the measure of Gcd) -/
def wdOf (w : World) (A : Option Addr) (k : Nat) : Nat :=
 match A with
 | some ⟨b, off, _⟩ => match w.cell? ⟨b, off + k, none⟩ with
   | some (.int _ x) => x.toNat
   | _ => 0
 | none => 0
def numOf (w : World) : Value → Nat
 | .slice A n _ => nv ((List.range n).map (wdOf w A))
 | _ => 0
theorem numOf_eq {w : World} {B : Nat} {A : Option Addr} {l : List Nat} {c : Nat} (h : RdW w B A l) : numOf w (.slice A l.length c) = nv l := by
 show nv ((List.range l.length).map (wdOf w A)) = nv l
 congr 1
 apply List.ext_getElem (by simp)
 intro k h1 h2
 obtain ⟨b, off, rfl, _, hc⟩ := h.at_ h2
 simp only [List.getElem_map, List.getElem_range]
 unfold wdOf
 simp [hc]
theorem gcd_any (A B : Option Addr) (l m : List Nat) (n c n' c' : Nat) (w : World) (hl : l.length = n) (hm : m.length = n') (hn : n ≤ 274877906944) (hn' : n' ≤ 274877906944) (hcap : n ≤ c) (hcap' : n' ≤ c') (hW : W32 l) (hW' : W32 m)
   (h : RdW w w.heap.size A l) (h' : RdW w w.heap.size B m) :
   Calls Tryz.prog 103 #[.slice A n c, .slice B n' c'] w fun e w' => ∃ A' c', e = .returned (.slice A' (dig ((nv l).gcd (nv m))).length c') ∧ OwW w' w.heap.size A' c' (dig ((nv l).gcd (nv m))) ∧ Below w.heap.size w w' := by
 have K1 := Lib.hid (trim_any A l n c w hl (by omega) hcap hW h)
 have K2 := Lib.hid (fun W (hb : Below w.heap.size w W) (hz : w.heap.size ≤ W.heap.size) => trim_any B m n' c' W hm (by omega) hcap' hW' (h'.on hb hz))
 have q1 : (dig (nv l)).length ≤ 274877906944 := Nat.le_trans (dig_length_le (nv_lt hW)) (by omega)
 have q2 : (dig (nv m)).length ≤ 274877906944 := Nat.le_trans (dig_length_le (nv_lt hW')) (by omega)
 generalize nv l = a at *
 generalize nv m = b at *
 clear hW hW' h h' hl hm
 go_enter Tryz.func103, Tryz.ntmps103
 (go_wp2_with fail; (with_reducible refine (K1.out).mono ?_); rintro e w1 ⟨A1, c1, rfl, own1, hb1⟩; have hb1z := Below.size hb1; (try simp only [ZZ] at hb1z))
 (go_wp2_with fail; (with_reducible refine (K2.out _ (by have z0 := Below.size hb1; (try simp only [ZZ] at z0 ⊢; skip); repeat' (first | (with_reducible first | exact BlR _ _ | assumption | refine BlA ?_ ?_ _ | refine BlD ?_ | refine BlN ?_ _ | refine BlS ?_ ?_ _ | refine BlT ?_ (BlM (by assumption) ?_)) | omega | (simp only [ZZ]; omega) | go_size)) (by omega)).mono ?_); rintro e w2 ⟨A2, c2, rfl, own2, hb2⟩; have hb2z := Below.size hb2; (try simp only [ZZ] at hb2z))
 have own1' := own1.below hb2
 go_wp2
 go_loopw [0, 1] (fun u v wr => ∃ (x y : Nat) (X Y : Option Addr) (cx cy : Nat), u = .slice X (dig x).length cx ∧ v = .slice Y (dig y).length cy ∧ x.gcd y = a.gcd b ∧ (dig x).length ≤ 274877906944 ∧ (dig y).length ≤ 274877906944 ∧ OwW wr w.heap.size X cx (dig x) ∧ OwW wr w.heap.size Y cy (dig y) ∧ Below w.heap.size w wr) (fun _ v wr => numOf wr v)
 case atStart => exact ⟨a, b, A1, A2, c1, c2, rfl, rfl, rfl, q1, q2, own1', own2.base_ (by omega), (by have z0 := Below.size hb1; have z1 := Below.size hb2; (try simp only [ZZ] at z0 z1 ⊢; skip); repeat' (first | (with_reducible first | exact BlR _ _ | assumption | refine BlA ?_ ?_ _ | refine BlD ?_ | refine BlN ?_ _ | refine BlS ?_ ?_ _ | refine BlT ?_ (BlM (by assumption) ?_)) | omega | (simp only [ZZ]; omega) | go_size))⟩
 case round =>
   obtain ⟨x, y, X, Y, cx, cy, rfl, rfl, hg, hx, hy, ox, oy, hb⟩ := hrel
   have hwz := hb.size
   have HG := Lib.hid hg
   clear hg
   have HNO := Lib.hid (numOf_eq (c := cy) oy.rd)
   by_cases hy0 : y = 0
   · subst hy0
     have HZ : Hid (x = a.gcd b) := by have := HG.out; rwa [Nat.gcd_zero_right] at this
     rw [dig_zero] at hy oy
     rw [dig_zero]
     go_wp2
     go_ret
     rw [← HZ.out]
     exact ⟨X, cx, rfl, ox, hb⟩
   · have hyl := dig_len_pos.2 hy0
     have q3 : (dig (x % y)).length ≤ 274877906944 := Nat.le_trans (dig_len_mono (Nat.le_of_lt (Nat.mod_lt x (by omega)))) hy
     have HM := Lib.hid (Nat.mod_lt x (show 0 < y by omega))
     have K := Lib.hid (div_any X Y (dig x) (dig y) _ cx _ cy wr rfl rfl hx hy ox.cap oy.cap (dig_W32 x) (dig_W32 y) ox.rd oy.rd (by rw [nv_dig]; exact hy0))
     go_wp2_with fail
     (with_reducible refine (K.out).mono ?_)
     rintro e w5 ⟨⟨B1, d1, B2, d2, rfl, _, ob⟩, hb5⟩
     have hb5z := hb5.size
     rw [nv_dig, nv_dig] at ob ⊢
     have HQ : Hid (y.gcd (x % y) = a.gcd b) := by
       have := HG.out
       exact (Nat.gcd_comm _ _).trans ((Nat.gcd_rec y x).symm.trans ((Nat.gcd_comm _ _).trans this))
     go_wp2
     go_roundw
     case rel => exact ⟨y, x % y, Y, B2, cy, d2, rfl, rfl, HQ.out, hy, q3, oy.below hb5, ob.base_ (by omega), (by have z0 := Below.size hb; have z1 := Below.size hb5; (try simp only [ZZ] at z0 z1 ⊢; skip); repeat' (first | (with_reducible first | exact BlR _ _ | assumption | refine BlA ?_ ?_ _ | refine BlD ?_ | refine BlN ?_ _ | refine BlS ?_ ?_ _ | refine BlT ?_ (BlM (by assumption) ?_)) | omega | (simp only [ZZ]; omega) | go_size))⟩
     case measure => skip; rw [numOf_eq ob.rd, HNO.out, nv_dig, nv_dig]; exact HM.out
end Go.Proofs.YtoiopnmphbnjaaaGreatDoor
