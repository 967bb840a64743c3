/- Contracts and lemmas for the given statements. Conditions: those alone that each names. -/
import Derived.Test.YtoiopnmphbnjaaaGreatDoorJRefA
import Derived.Test.YtoiopnmphbnjaaaGreatDoorJBase
import Derived.Deep.RegionLaw
import Derived.Deep.CutRange
import Derived.Test.YtoiopnmphbnjaaaGreatDoorJNatW9
set_option maxHeartbeats 1000000
namespace Go.Proofs.YtoiopnmphbnjaaaGreatDoor
open Go.RowKit
set_option linter.unusedSimpArgs false
set_option linter.unusedVariables false
set_option maxRecDepth 20000
attribute [local irreducible] nv wp win
/-! ## the reference's Div -/
theorem OwW.low {w : World} {base : Nat} {A : Option Addr} {c : Nat} {l : List Nat} (h : OwW w base A c l) {p : Addr} (hp : p.block < base) (u : Value) : OwW (w.setCell p u) base A c l := by
 refine World.ownsRow.kept h (row := some p.block) ⟨rfl, rfl, rfl, by simp, fun k _ hk => Below.heap_setCell w p u k (fun e => hk (by rw [e]))⟩ (.inr ?_)
 intro e
 have := World.ownsRow.lt h p.block e
 omega
theorem below_undrew {B : Nat} {a w : World} (h : Below B a.drew w) : Below B a w := ⟨h.os, h.tape, h.output, h.size, h.block⟩
theorem consL {P : Program} {md : Region.Mode} {l : List Oper} {Q : Exit → Act → World → Prop} {fuel : Nat} {listed : Array Bool} {a : Act} {w : World} {i : Nat} {o : Oper} {rs : List Nat} (ho : l[i]? = some o)
   (h : ∀ K' : Act → World → Prop, (∀ a w, wpAny P md l.toArray Q fuel (listed.setIfInBounds i true) a w → K' a w) → if Region.wanted o (yielded l.toArray a.tmps) = true then Oper.wp P o a w K' Q else K' (a.put o.dst undef) w)
   (hs : AllReady P md l.toArray Q fuel listed a w rs) : AllReady P md l.toArray Q fuel listed a w (i :: rs) := AllReady.cons (by simpa using ho) h hs
theorem step_of_wp {P : Program} {ops : Array Oper} {o : Oper} {a : Act} {w : World} {K : Act → World → Prop} {Q : Exit → Act → World → Prop} {E : Prop} (hg : o.guard = none) (h : o.wp P a w K Q) : if Region.wanted o (yielded ops a.tmps) = true then Oper.wp P o a w K Q else E := by
 rw [if_pos (by simp [Region.wanted, hg])]
 exact h
theorem wp_makeW {w : World} {o : Oper} {a : Act} {K : Act → World → Prop} {Q : Exit → Act → World → Prop}
   (l c : Operand) (hop : o.op = Op.makeSlice 54 l c)
   (base n : Nat) (L C : Int) (hl : a.eval l = .int .i64 L) (hc : a.eval c = .int .i64 C) (hL : L = (n : Int)) (hC : C = (n : Int)) (hn : n ≤ 1099511627776) (hb : base ≤ w.heap.size)
   (h : ∀ g w', w.heap.size ≤ g → OwG w' base g n (List.replicate n 0) → Below w.heap.size w w' → K (a.put o.dst (.slice (some ⟨g, 0, none⟩) n n)) w') : o.wp Tryz.prog a w K Q := by
 obtain ⟨i, hi, hz, hs, hby⟩ := info_parts wordInfo
 obtain ⟨w', hrun, r1, r2⟩ := run_make_full (P := Tryz.prog) w base 54 157 i (.int .u32 0) 1 Tryz.underlying54 hi hz hs .i64 .i64 n (by rw [hby]; omega) (by unfold maxLen; omega) hb
 subst hL
 subst hC
 unfold Oper.wp
 simp [execOp, hop, hl, hc, hrun, Result.andThen]
 exact h _ w' (Nat.le_refl _) (OwG.of_made r1) ((Below.refl _ _).grown r2 (Nat.le_refl _) (by intro k hk; cases hk))
theorem wp_appW {w : World} {o : Oper} {a : Act} {K : Act → World → Prop} {Q : Exit → Act → World → Prop} (s x : Operand)
   (ho : o.op = .call { callee := .builtin .append, args := #[s, x], argTypes := #[54, 54] })
   (base : Nat) (A0 : Option Addr) (c0 n0 : Nat) (l : List Nat) (hn0 : l.length = n0) (hs : a.eval s = .slice A0 n0 c0) (hown : OwW w base A0 c0 l)
   (B : Nat) (A : Option Addr) (c n : Nat) (m : List Nat) (hn : m.length = n) (hx : a.eval x = .slice A n c) (hr : RdW w B A m)
   (hlen : n0 + n ≤ 1099511627776) (hbase : base ≤ w.heap.size)
   (h : ∀ A' c' w', OwW w' base A' c' (l ++ m) → Below base w w' → w.grownBy w' (Value.slice A0 l.length c0).ownBlock → K (a.put o.dst (.slice A' (n0 + n) c')) w') : o.wp Tryz.prog a w K Q := by
 subst hn0 hn
 refine wp_app s x 54 ho base 157 _ 1 4 Tryz.underlying54 wordInfo rfl (by decide) A0 c0 l.length (wds l) hs hown B A m.length c (wds m) hx hr (wds_oneCell _) (by unfold maxLen; omega) (by omega) hbase ?_
 intro A' c' w' h1 h2 h3 h4
 refine h A' c' w' ?_ h2 h3
 unfold OwW
 rw [wds_append, List.length_append]
 exact h1
/-- quotient and remainder, of the call's own -/
def RDivR (a b : Nat) (base : Nat) (e : Ending) (w' : World) : Prop :=
 ∃ A1 c1 A2 c2, e = .returned (.tuple #[.slice A1 (dig (a / b)).length c1, .slice A2 (dig (a % b)).length c2, .int .i64 0]) ∧ OwW w' base A1 c1 (dig (a / b)) ∧ OwW w' base A2 c2 (dig (a % b))
theorem rdiv_any (A B : Option Addr) (l m : List Nat) (n c n' c' : Nat) (w : World) (hl : l.length = n) (hm : m.length = n') (hn : n ≤ 274877906900) (hn' : n' ≤ 274877906900) (hcap : n ≤ c) (hcap' : n' ≤ c') (hW : W32 l) (hW' : W32 m)
   (h : RdW w w.heap.size A l) (h' : RdW w w.heap.size B m) (hb0 : nv m ≠ 0) :
   Calls Tryz.prog 138 #[.slice A n c, .slice B n' c'] w fun e w' => RDivR (nv l) (nv m) w.heap.size e w' ∧ Below w.heap.size w w' := by
 have K1 := Lib.hid (rtrim_any B m n' c' w hm (by omega) hcap' hW' h')
 have K2 := Lib.hid (fun s W (hb : Below w.heap.size w W) (hz : w.heap.size ≤ W.heap.size) hs => up_any A l n c s W hl (by omega) hW hs (h.on hb hz))
 have q1 : ∀ s, s < 32 → (dig (nv l * 2 ^ s)).length ≤ n + 1 := fun s hs => dig_length_le (by
   have h1 := nv_lt hW
   have h2 := Nat.pow_le_pow_right (n := 2) (by omega) (show s ≤ 32 by omega)
   have h3 : nv l * 2 ^ s < wp l.length * 2 ^ 32 := Nat.mul_lt_mul_of_lt_of_le h1 h2 (by decide)
   rw [hl] at h3
   rw [wp_succ, Nat.mul_comm]
   rw [Nat.mul_comm] at h3
   exact Nat.lt_of_lt_of_eq h3 (Nat.mul_comm _ _))
 have Q1 := Lib.hid q1
 have q2 : (dig (nv m)).length ≤ n' := Nat.le_trans (dig_length_le (nv_lt hW')) (by omega)
 generalize nv l = a at *
 generalize nv m = b at *
 clear hW hW' h h' hl hm q1
 have hM0 := dig_len_pos.2 hb0
 obtain ⟨M, hM⟩ : ∃ M, M = (dig b).length := ⟨_, rfl⟩
 rw [← hM] at q2 hM0 K1
 obtain ⟨m1, hm1⟩ : ∃ m1, m1 = M - 1 := ⟨_, rfl⟩
 have eM : (M : Int) - 1 = (m1 : Int) := by omega
 have hk : m1 < (dig b).length := by omega
 have ht32 := (dig_W32 b).at_ hk
 have ht0 : (dig b)[m1] ≠ 0 := (dig_can b).2 _ (by rw [List.getLast?_eq_getElem?, ← hM, ← hm1, List.getElem?_eq_getElem])
 have HT := Lib.hid (getD_of_lt hk)
 have HK := Lib.hid hk
 have HM := Lib.hid hM
 have HM1 := Lib.hid hm1
 go_enter Tryz.func138, Tryz.ntmps138
 (go_wp2_with fail; (with_reducible refine (K1.out).mono ?_); rintro e w1 ⟨A1, c1, rfl, own1, hb1⟩; have hb1z := Below.size hb1; (try simp only [ZZ] at hb1z))
 have hcap1 := own1.cap
 obtain ⟨b1, o1, rfl, hbb1, y1⟩ := own1.rd.at_ HK.out
 generalize (dig b)[m1] = t at *
 clear hk hM hm1
 go_wp2
 go_loop [8] (fun u => ∃ s : Nat, s ≤ 31 ∧ u = .int .i64 s ∧ t * 2 ^ s < 4294967296) (fun u => 32 - (intOf u).toNat)
 case atStart => exact ⟨0, by omega, rfl, by omega⟩
 case round =>
   obtain ⟨s, hs, rfl, hts⟩ := hrel
   have HTS := Lib.hid hts
   have HAND := Lib.hid (and_top hts)
   have e0 : IntKind.u32.wrap ((t : Int) * 2 ^ s) = ((t * 2 ^ s : Nat) : Int) := by
     rw [IntKind.wrap_u32, show (t : Int) * 2 ^ s = ((t * 2 ^ s : Nat) : Int) by simp]; omega
   have e1 : bits .and .u32 ((t * 2 ^ s : Nat) : Int) 2147483648 = ((t * 2 ^ s &&& 2147483648 : Nat) : Int) := by
     rw [show (2147483648 : Int) = ((2147483648 : Nat) : Int) from rfl, u32_and_nat _ _ hts (by omega)]
   have HGE : Hid (t * 2 ^ s < 2147483648 → s < 31 ∧ t * 2 ^ (s + 1) < 4294967296) := by
     intro h1
     refine ⟨?_, by rw [Nat.pow_succ, ← Nat.mul_assoc]; omega⟩
     rcases Nat.lt_or_ge s 31 with h2 | h2
     · exact h2
     · exfalso
       have h3 : s = 31 := by omega
       rw [h3] at h1
       omega
   clear hts
   obtain ⟨y, hy⟩ : ∃ y, y = t * 2 ^ s := ⟨_, rfl⟩
   rw [← hy] at e0 e1 HGE HAND HTS
   by_cases hlt : y < 2147483648
   · have h2 := HAND.out
     rw [if_neg (by omega)] at h2
     rw [h2] at e1
     obtain ⟨h3, h4⟩ := HGE.out hlt
     have H4 := Lib.hid h4
     clear h2 h4 hy hlt
     go_wp2
     go_round
     case rel => exact ⟨s + 1, by omega, by go_num, H4.out⟩
     case measure => simp [intOf]; omega
   · have h2 := HAND.out
     rw [if_pos (by omega)] at h2
     rw [h2] at e1
     have HTop := Lib.hid (top_mk (t := t) (s := s) HM.out.symm hM0 (by have := HT.out; rwa [HM1.out] at this) (by rw [← hy]; exact HTS.out) (by rw [← hy]; omega) hs)
     have q1 := Q1.out s (by omega)
     have K3 := Lib.hid (fun W hr => up_any (some ⟨b1, o1, none⟩) (dig b) M c1 s W HM.out.symm (by omega) (dig_W32 b) (by omega) hr)
     rw [nv_dig] at K3
     have K2s := Lib.hid (fun W hb hz => K2.out s W hb hz (by omega))
     have HQX := Lib.hid (shift_div a b s)
     have HRX := Lib.hid (shift_mod a b s)
     have hV0 : 0 < b * 2 ^ s := Nat.mul_pos (by omega) (Nat.two_pow_pos s)
     generalize a * 2 ^ s = X at *
     generalize b * 2 ^ s = V at *
     clear h2 hy hlt HGE HAND HTS K2 Q1
     obtain ⟨L, hL⟩ : ∃ L, L = (dig X).length := ⟨_, rfl⟩
     rw [← hL] at q1 K2s
     have HL := Lib.hid hL
     clear hL
     have K3 := K3
     rw [HTop.out.len] at K3
     (go_wp2_with fail; (with_reducible refine (K2s.out _ (by have z0 := Below.size hb1; (try simp only [ZZ] at z0 ⊢; skip); repeat' (first | (with_reducible first | exact BlR _ _ | assumption | refine BlA ?_ ?_ _ | refine BlD ?_ | refine BlN ?_ _ | refine BlS ?_ ?_ _ | refine BlT ?_ (BlM (by assumption) ?_)) | omega | (simp only [ZZ]; omega) | go_size)) (by omega)).mono ?_); rintro e w2 ⟨A2, c2, rfl, own2, hb2⟩; have hb2z := Below.size hb2; (try simp only [ZZ] at hb2z))
     (go_wp2_with fail; (with_reducible refine (K3.out _ (own1.below hb2).rd).mono ?_); rintro e w3 ⟨A3, c3, rfl, own3, hb3⟩; have hb3z := Below.size hb3; (try simp only [ZZ] at hb3z))
     have own2' := own2.below hb3
     have hcap2 := own2.cap
     rw [← HL.out] at hcap2
     go_upto_region 9 with fail
     generalize hw0 : w3 = w0 at *
     obtain ⟨k0, hk0⟩ : ∃ k0, k0 = L + 1 - M := ⟨_, rfl⟩
     obtain ⟨zc, hzc⟩ : ∃ zc : Int, zc = (L : Int) - (M : Int) := ⟨_, rfl⟩
     have e45 : IntKind.i64.wrap ((L : Int) - (M : Int)) = zc := by rw [IntKind.wrap_i64, hzc]; omega
     obtain ⟨z1, hz1⟩ : ∃ z1 : Int, z1 = zc + 1 := ⟨_, rfl⟩
     have e46 : IntKind.i64.wrap (zc + 1) = z1 := by rw [IntKind.wrap_i64, hz1]; omega
     have e47 : (if 0 < z1 then z1 else 0) = (k0 : Int) := by split <;> omega
     have hk0L : k0 ≤ L := by omega
     have HZC := Lib.hid hzc
     have HZ1 := Lib.hid hz1
     have HK0 := Lib.hid hk0
     clear hzc hz1 hk0
     have HLD : Hid (((dig X).drop k0).length = L - k0) := by show _ = _; rw [List.length_drop, HL.out]
     have hd := own2'.rd.drop (k := k0) (c := c2) (by have := HL.out; omega) (by have := HL.out; omega)
     obtain ⟨A4, hA4⟩ : ∃ A4, A4 = (if c2 = k0 then A2 else A2.map (·.add k0)) := ⟨_, rfl⟩
     rw [← hA4] at hd
     have eA := hA4.symm
     clear hA4
     go_cut [9, 10] from 37 (fun q r wx => ∃ (g : Nat) (rl : List Nat) (Ar : Option Addr) (cr : Nat), q = .slice (some ⟨g, 0, none⟩) L L ∧ r = .slice Ar (L - k0) cr ∧ w0.heap.size ≤ g ∧ OwG wx w0.heap.size g L (List.replicate L 0) ∧ OwW wx w0.heap.size Ar cr rl ∧ rl = (dig X).drop k0 ∧ Below w0.heap.size w0 wx)
     case first =>
       refine wp_region_any (by kernel_rfl) ?_
       (try (change wpAny _ _ _ _ _ _ _ (World.drew _)))
       refine wpAny_take (i := 0) (v := ?_) rfl (by kernel_rfl) (by kernel_rfl) (by kernel_rfl) (fun _ _ _ h => h) (Or.inl ⟨by rfl, ?_⟩) ?_
       rotate_left
       · intro w; go_simp; (try with_reducible rfl)
       refine wpAny_take (i := 1) (v := ?_) rfl (by kernel_rfl) (by kernel_rfl) (by kernel_rfl) (fun _ _ _ h => h) (Or.inl ⟨by rfl, ?_⟩) ?_
       rotate_left
       · intro w; go_simp; (try with_reducible rfl)
       refine wpAny_take (i := 4) (v := ?_) rfl (by kernel_rfl) (by kernel_rfl) (by kernel_rfl) (fun _ _ _ h => h) (Or.inl ⟨by rfl, ?_⟩) ?_
       rotate_left
       · intro w; go_simp; (try with_reducible rfl)
       refine wpAny_take (i := 5) (v := ?_) rfl (by kernel_rfl) (by kernel_rfl) (by kernel_rfl) (fun _ _ _ h => h) (Or.inl ⟨by rfl, ?_⟩) ?_
       rotate_left
       · intro w; go_simp; (try with_reducible rfl)
       refine wpAny_take (i := 6) (v := ?_) rfl (by kernel_rfl) (by kernel_rfl) (by kernel_rfl) (fun _ _ _ h => h) (Or.inl ⟨by rfl, ?_⟩) ?_
       rotate_left
       · intro w; go_simp; (try with_reducible rfl)
       refine wpAny_take (i := 7) (v := ?_) rfl (by kernel_rfl) (by kernel_rfl) (by kernel_rfl) (fun _ _ _ h => h) (Or.inl ⟨by rfl, ?_⟩) ?_
       rotate_left
       · intro w; go_simp; (try with_reducible rfl)
       refine wpAny_take (i := 8) (v := ?_) rfl (by kernel_rfl) (by kernel_rfl) (by kernel_rfl) (fun _ _ _ h => h) (Or.inl ⟨by rfl, ?_⟩) ?_
       rotate_left
       · intro w; go_simp; (try with_reducible rfl)
       refine wpAny_take (i := 9) (v := ?_) rfl (by kernel_rfl) (by kernel_rfl) (by kernel_rfl) (fun _ _ _ h => h) (Or.inl ⟨by rfl, ?_⟩) ?_
       rotate_left
       · intro w; go_simp; (try with_reducible rfl)
       refine wpAny_take (i := 10) (v := ?_) rfl (by kernel_rfl) (by kernel_rfl) (by kernel_rfl) (fun _ _ _ h => h) (Or.inl ⟨by rfl, ?_⟩) ?_
       rotate_left
       · intro w; go_simp; (try with_reducible rfl)
       refine wpAny_take (i := 11) (v := ?_) rfl (by kernel_rfl) (by kernel_rfl) (by kernel_rfl) (fun _ _ _ h => h) (Or.inl ⟨by rfl, ?_⟩) ?_
       rotate_left
       · intro w; go_simp; (try with_reducible rfl)
       go_simp
       refine wpAny_ready (rs := [2, 3]) (by kernel_rfl) (by simp) ?_
       apply consL
       · exact rfl
       · intro K hK
         refine step_of_wp rfl (wp_makeW (.tmp 38) (.tmp 38) rfl w0.heap.size L _ _ rfl rfl rfl rfl (by omega) (Nat.le_refl _) ?_)
         intro g w6 hg own6 hb6
         (try go_simp)
         refine hK _ _ ?_
         clear hK K
         have hb6d := below_undrew hb6
         have hb6z := hb6d.size
         refine wpAny_ready (rs := [3]) (by kernel_rfl) (by simp) ?_
         apply consL
         · exact rfl
         · intro K hK
           go_simp
           refine hK _ _ ?_
           clear hK K
           refine wpAny_ready (rs := [12]) (by kernel_rfl) (by simp) ?_
           apply consL
           · exact rfl
           · intro K hK
             refine step_of_wp rfl (wp_appW (.tmp 40) (.tmp 48) rfl (w6.heap.size) (some ⟨w6.heap.size, 0, none⟩) 0 0 [] rfl rfl (OwW.lit0 (Nat.le_refl _)) w0.heap.size A4 (c2 - k0) (L - k0) ((dig X).drop k0) HLD.out rfl (hd.on (hb6d.alloc hb6z _) (Nat.le_refl _)) (by omega) (by simp) ?_)
             intro A7 c7 w7 own7 hb7 hg7
             (try go_simp)
             refine hK _ _ ?_
             clear hK K
             have hb77 : Below w6.heap.size w6 w7 := ((Below.refl _ _).alloc (Nat.le_refl _) _).trans hb7
             refine wpAny_take (i := 13) (v := ?_) rfl (by kernel_rfl) (by kernel_rfl) (by kernel_rfl) (fun _ _ _ h => h) (Or.inl ⟨by rfl, ?_⟩) ?_
             rotate_left
             · intro w; go_simp; (try with_reducible rfl)
             refine wpAny_take (i := 14) (v := ?_) rfl (by kernel_rfl) (by kernel_rfl) (by kernel_rfl) (fun _ _ _ h => h) (Or.inl ⟨by rfl, ?_⟩) ?_
             rotate_left
             · intro w; go_simp; (try with_reducible rfl)
             (try go_simp)
             refine wpAny_done (by kernel_rfl) ?_ _
             go_wp2_with fail
             go_meet
             exact ⟨g, _, A7, c7, rfl, by simp, (by (try simp at hg); omega), own6.below hb77, own7.base_ hb6z, by simp, hb6d.trans (Below.mono hb77 hb6z)⟩
           exact AllReady.nil
         exact AllReady.nil
       apply consL
       · exact rfl
       · intro K hK
         go_simp
         refine hK _ _ ?_
         clear hK K
         refine wpAny_ready (rs := [2, 12]) (by kernel_rfl) (by simp) ?_
         apply consL
         · exact rfl
         · intro K hK
           refine step_of_wp rfl (wp_makeW (.tmp 38) (.tmp 38) rfl w0.heap.size L _ _ rfl rfl rfl rfl (by omega) (by simp) ?_)
           intro g w6 hg own6 hb6
           (try go_simp)
           refine hK _ _ ?_
           clear hK K
           have hb6d : Below w0.heap.size w0 w6 := (Below.drew ((Below.refl _ _).alloc (Nat.le_refl _) _)).trans (Below.mono hb6 (by simp))
           have hb6z := hb6d.size
           refine wpAny_ready (rs := [12]) (by kernel_rfl) (by simp) ?_
           apply consL
           · exact rfl
           · intro K hK
             refine step_of_wp rfl (wp_appW (.tmp 40) (.tmp 48) rfl (w0.heap.size) (some ⟨w0.heap.size, 0, none⟩) 0 0 [] rfl rfl (OwW.below (World.ownsRow.drew (OwW.lit0 (w := w0) (Nat.le_refl _)) : OwW ((w0.alloc (.cells #[] 157)).drew) w0.heap.size (some ⟨w0.heap.size, 0, none⟩) 0 []) hb6) w0.heap.size A4 (c2 - k0) (L - k0) ((dig X).drop k0) HLD.out rfl (hd.on (hb6d) (Nat.le_refl _)) (by omega) (by omega) ?_)
             intro A7 c7 w7 own7 hb7 hg7
             (try go_simp)
             refine hK _ _ ?_
             clear hK K
             refine wpAny_take (i := 13) (v := ?_) rfl (by kernel_rfl) (by kernel_rfl) (by kernel_rfl) (fun _ _ _ h => h) (Or.inl ⟨by rfl, ?_⟩) ?_
             rotate_left
             · intro w; go_simp; (try with_reducible rfl)
             refine wpAny_take (i := 14) (v := ?_) rfl (by kernel_rfl) (by kernel_rfl) (by kernel_rfl) (fun _ _ _ h => h) (Or.inl ⟨by rfl, ?_⟩) ?_
             rotate_left
             · intro w; go_simp; (try with_reducible rfl)
             (try go_simp)
             refine wpAny_done (by kernel_rfl) ?_ _
             go_wp2_with fail
             go_meet
             exact ⟨g, _, A7, c7, rfl, by simp, (by (try simp at hg); omega), own6.keep hg7 (by (try simp at hg); intro e; (try simp [Value.ownBlock] at e); (try injection e with e); omega), own7, by simp, hb6d.trans hb7⟩
           exact AllReady.nil
         apply consL
         · exact rfl
         · intro K hK
           refine step_of_wp rfl (wp_appW (.tmp 40) (.tmp 48) rfl (w0.heap.size) (some ⟨w0.heap.size, 0, none⟩) 0 0 [] rfl rfl ((World.ownsRow.drew (OwW.lit0 (w := w0) (Nat.le_refl _)) : OwW ((w0.alloc (.cells #[] 157)).drew) w0.heap.size (some ⟨w0.heap.size, 0, none⟩) 0 [])) w0.heap.size A4 (c2 - k0) (L - k0) ((dig X).drop k0) HLD.out rfl (hd.on (Below.drew ((Below.refl _ _).alloc (Nat.le_refl _) _)) (Nat.le_refl _)) (by omega) (by simp) ?_)
           intro A7 c7 w7 own7 hb7 hg7
           (try go_simp)
           refine hK _ _ ?_
           clear hK K
           have hb7d : Below w0.heap.size w0 w7 := (Below.drew ((Below.refl _ _).alloc (Nat.le_refl _) _)).trans hb7
           refine wpAny_ready (rs := [2]) (by kernel_rfl) (by simp) ?_
           apply consL
           · exact rfl
           · intro K hK
             refine step_of_wp rfl (wp_makeW (.tmp 38) (.tmp 38) rfl w0.heap.size L _ _ rfl rfl rfl rfl (by omega) (hb7d.size) ?_)
             intro g w6 hg own6 hb6
             (try go_simp)
             refine hK _ _ ?_
             clear hK K
             refine wpAny_take (i := 13) (v := ?_) rfl (by kernel_rfl) (by kernel_rfl) (by kernel_rfl) (fun _ _ _ h => h) (Or.inl ⟨by rfl, ?_⟩) ?_
             rotate_left
             · intro w; go_simp; (try with_reducible rfl)
             refine wpAny_take (i := 14) (v := ?_) rfl (by kernel_rfl) (by kernel_rfl) (by kernel_rfl) (fun _ _ _ h => h) (Or.inl ⟨by rfl, ?_⟩) ?_
             rotate_left
             · intro w; go_simp; (try with_reducible rfl)
             (try go_simp)
             refine wpAny_done (by kernel_rfl) ?_ _
             go_wp2_with fail
             go_meet
             exact ⟨g, _, A7, c7, rfl, by simp, (by have := hb7d.size; omega), own6, own7.below hb6, by simp, hb7d.trans (Below.mono hb6 hb7d.size)⟩
           exact AllReady.nil
         exact AllReady.nil
       exact AllReady.nil
     case rest =>
       obtain ⟨g, rl0, Ar0, cr0, rfl, rfl, hg, ownq, ownr, hrl, hbc⟩ := hcut
       clear hd
       have HR0 : Hid (wp k0 * nv rl0 + nv ((dig X).take k0) = X ∧ nv rl0 < V ∧ rl0.length ≤ M ∧ W32 rl0 ∧ rl0.length = L - k0) := by
         have h1 := HL.out
         have h2 := HK0.out
         have hT := HTop.out
         refine ⟨?_, ?_, ?_, by rw [hrl]; exact (dig_W32 X).drop _, ?_⟩
         · have h3 := nv_split (dig X) k0 (by omega)
           rw [nv_dig] at h3
           rw [hrl, Nat.add_comm]
           exact h3.symm
         · rw [hrl]
           rcases Nat.lt_or_ge L M with h3 | h3
           · have h4 : k0 = 0 := by omega
             have h5 := dig_lt X
             rw [← h1] at h5
             have h6 := wp_le (show L ≤ M - 1 by omega)
             have h7 := hT.ge
             rw [h4, List.drop_zero, nv_dig]
             omega
           · have h4 := ref_start (X := X) hT.n1 hT.ge (by omega)
             rw [← h1, ← h2] at h4
             exact h4
         · rw [hrl, List.length_drop]; have := hT.n1; omega
         · rw [hrl, List.length_drop]; omega
       obtain ⟨h3, h4, h5, h6, h7⟩ := HR0.out
       rw [← h7]
       have HX0 := Lib.hid h3
       have HRV := Lib.hid h4
       have HZK : Hid (-(M : Int) ≤ zc ∧ k0 = (zc + 1).toNat) := by have := HZC.out; have := HK0.out; show _ ∧ _; omega
       clear h3 h4 h7 hrl HR0
       go_wp2
       go_loopw [10, 11] (fun r i wr => ∃ (k : Nat) (z : Int) (q rl : List Nat) (Ar : Option Addr) (cr : Nat), r = .slice Ar rl.length cr ∧ i = .int .i64 z ∧ k = (z + 1).toNat ∧ -(M : Int) ≤ z ∧ k ≤ L ∧ q.length = L ∧ W32 q ∧ W32 rl ∧ rl.length ≤ M ∧
         nv q * V + wp k * nv rl + nv ((dig X).take k) = X ∧ nv rl < V ∧ (∀ j, j < k → q.getD j 0 = 0) ∧ OwG wr w0.heap.size g L q ∧ OwW wr w0.heap.size Ar cr rl ∧ Below w0.heap.size w0 wr) (fun _ i _ => (intOf i + 1).toNat)
       case atStart => exact ⟨k0, zc, _, rl0, Ar0, cr0, rfl, rfl, HZK.out.2, HZK.out.1, hk0L, by simp, W32.replicate _, h6, h5, by rw [nv_replicate, Nat.zero_mul, Nat.zero_add]; exact HX0.out, HRV.out, fun j _ => by by_cases hj : j < L <;> simp [List.getD_eq_getElem?_getD, hj], ownq, ownr, hbc⟩
       case round =>
         obtain ⟨k, z, q, rl, Ar, cr, rfl, rfl, hkz, hzM, hkL, hql, hqW, hrW, hrl, hinv, hrV, hq0, oq, or_, hb⟩ := hrel
         obtain ⟨wo, rfl⟩ : ∃ wo : World, wo = wr := ⟨_, rfl⟩
         have HKZ := Lib.hid hkz
         have HQL := Lib.hid hql
         have HQW := Lib.hid hqW
         have HRW := Lib.hid hrW
         have HINV := Lib.hid hinv
         have HRV2 := Lib.hid hrV
         have HQ0 := Lib.hid hq0
         have hwz := hb.size
         clear hkz hql hqW hrW hinv hrV hq0 ownq ownr hbc HX0 HRV HZK HZC HZ1
         by_cases hz : 0 ≤ z
         · obtain ⟨j, rfl⟩ := Int.eq_ofNat_of_zero_le hz
           have HJ : Hid (k = j + 1) := by have := HKZ.out; show k = j + 1; omega
           have hjL : j < L := by have := HJ.out; omega
           have own2r := own2'.below hb
           have own3r := own3.below hb
           have hjX : j < (dig X).length := by have := HL.out; omega
           obtain ⟨b2, o2, rfl, hbb2, y2⟩ := own2r.rd.at_ hjX
           have hx := (dig_W32 X).at_ hjX
           have HXJ := Lib.hid (getD_of_lt hjX)
           generalize (dig X)[j] = x at *
           obtain ⟨R, hR⟩ : ∃ R, R = nv rl := ⟨_, rfl⟩
           have HN0 : Hid (nv ([x] ++ rl) = x + 4294967296 * R) := by show nv (x :: rl) = _; rw [nv_cons, hR]
           have HRV3 : Hid (R < V) := by have := HRV2.out; rwa [← hR] at this
           have HINV2 : Hid (nv q * V + wp (j + 1) * R + nv ((dig X).take (j + 1)) = X) := by have := HINV.out; rwa [← hR, HJ.out] at this
           have HRND := Lib.hid (ref_round (q := q) (k := j) (x := x) (by have := HQL.out; omega) (HQ0.out j (by have := HJ.out; omega)) HXJ.out HINV2.out)
           have HNV : Hid (x + 4294967296 * R < 4294967296 * V) := by have := HRV3.out; show _ < _; omega
           obtain ⟨N, hN⟩ : ∃ N, N = x + 4294967296 * R := ⟨_, rfl⟩
           rw [← hN] at HN0 HRND HNV
           clear hN hR
           have hT := HTop.out
           have HG := Lib.hid (guess_ge (n := M) HNV.out hV0 hT.ge)
           have HTW := Lib.hid (two_words (n := M) hT.n1 HNV.out hT.lt)
           have HT1 := Lib.hid (top_word (n := M) hT.n1 hT.lt)
           have HT0 : Hid (V / wp (M - 1) ≠ 0) := by
             have h1 : 0 < V / wp (M - 1) := Nat.div_pos (by have := hT.ge; have := wp_pos (M - 1); omega) (wp_pos _)
             exact Nat.pos_iff_ne_zero.1 h1
           have hVl := hT.len
           have HVL := Lib.hid hVl
           have hNl : (dig N).length ≤ M + 1 := dig_length_le (Nat.lt_trans HNV.out (by rw [wp_succ]; exact Nat.mul_lt_mul_of_pos_left hT.lt (by omega)))
           have HVG : Hid (∀ G, G ≤ 4294967295 → (dig (V * G)).length ≤ M + 1) := fun G hG => dig_length_le (by
             rw [wp_succ, Nat.mul_comm]
             have h1 := Nat.mul_le_mul_right V hG
             have h2 := hT.lt
             omega)
           clear hT hVl
           have hw32 : W32 ([x] ++ rl) := (W32.one hx).append HRW.out
           have K1 := Lib.hid (fun (A5 : Option Addr) (c5 : Nat) W hc hr => rtrim_any A5 ([x] ++ rl) (1 + rl.length) c5 W (by simp; omega) (by omega) hc hw32 hr)
           rw [HN0.out] at K1
           go_wp2_with (first | (at_builtin; refine wpList_appW rfl (.tmp 62) (.tmp 63) rfl wo.heap.size (some ⟨wo.heap.size, 0, none⟩) 1 1 [x] rfl (by simp [Act.eval]) (OwW.lit1 (Nat.le_refl _)) wo.heap.size Ar cr rl.length rl rfl (by simp [Act.eval]) (or_.rd.on ((Below.refl _ _).alloc (Nat.le_refl _) _) (Nat.le_refl _)) (by omega) (by simp) ?_; intro A5 c5 w5 own5 hb5 hg5) | fail)
           have hc5 := own5.cap
           rw [show ([x] ++ rl).length = 1 + rl.length by simp; omega] at hc5
           have hb5' : Below wo.heap.size wo w5 := ((Below.refl _ _).alloc (Nat.le_refl _) _).trans hb5
           have hb5z := hb5'.size
           (with_reducible refine (K1.out A5 c5 _ hc5 own5.rd).mono ?_)
           rintro e w6 ⟨A6, c6, rfl, own6, hb6⟩
           have hb6z := hb6.size
           have hb06 : Below wo.heap.size wo w6 := (by have z0 := Below.size hb5'; have z1 := Below.size hb6; (try simp only [ZZ] at z0 z1 ⊢; skip); repeat' (first | (with_reducible first | exact BlR _ _ | assumption | refine BlA ?_ ?_ _ | refine BlD ?_ | refine BlN ?_ _ | refine BlS ?_ ?_ _ | refine BlT ?_ (BlM (by assumption) ?_)) | omega | (simp only [ZZ]; omega) | go_size))
           have own3s := own3r.below hb06
           have hc3 := own3s.cap
           rw [HVL.out] at hc3
           have L1 := Lib.hid (rword_any A6 (dig N) (dig N).length c6 M w6 rfl (by omega) (dig_W32 N) own6.rd)
           have L2 := Lib.hid (rword_any A6 (dig N) (dig N).length c6 m1 w6 rfl (by omega) (dig_W32 N) own6.rd)
           have L3 := Lib.hid (rword_any A3 (dig V) M c3 m1 w6 HVL.out (by omega) (dig_W32 V) own3s.rd)
           have h1 := (dig_W32 N).getD M
           have h0 := (dig_W32 N).getD m1
           have hT32 := (dig_W32 V).getD m1
           have e1 := HTW.out
           have e2 := HT1.out
           rw [← HM1.out] at e1 e2
           rw [← HM1.out] at HG HT0
           rw [e2] at L3 hT32
           generalize (dig N).getD M 0 = hi at *
           generalize (dig N).getD m1 0 = lo at *
           obtain ⟨H, hH⟩ : ∃ H, H = N / wp m1 := ⟨_, rfl⟩
           obtain ⟨T, hTT⟩ : ∃ T, T = V / wp m1 := ⟨_, rfl⟩
           rw [← hH] at e1 HG
           rw [← hTT] at HG HT0 L3 hT32
           have eor : bits .or .u64 ((hi : Int) * 4294967296) (lo : Int) = (H : Int) := by
             rw [show (hi : Int) * 4294967296 = ((4294967296 * hi : Nat) : Int) by omega, u64_or_nat _ _ (by omega) (by omega), or_add (n := 32) (by omega) (by omega)]
             omega
           have es0 : IntKind.u64.wrap ((hi : Int) * 4294967296) = (hi : Int) * 4294967296 := by rw [IntKind.wrap_u64]; omega
           have hH64 : H < 18446744073709551616 := by omega
           have hT0 : T ≠ 0 := HT0.out
           have hT0' : ((T : Int) == 0) = false := by simp; omega
           obtain ⟨G0, hG0⟩ : ∃ G0, G0 = H / T := ⟨_, rfl⟩
           have ed : (H : Int) / (T : Int) = (G0 : Int) := by rw [hG0]; exact (Int.natCast_ediv H T).symm
           have hG0H : G0 ≤ H := by rw [hG0]; exact Nat.div_le_self _ _
           obtain ⟨zG, hzG⟩ : ∃ zG : Int, zG = (G0 : Int) := ⟨_, rfl⟩
           have ed2 : (H : Int).tdiv (T : Int) = (G0 : Int) := by rw [hG0]; exact (Int.ofNat_tdiv H T).symm
           rw [← hzG] at ed ed2
           have hzG0 : 0 ≤ zG := by omega
           have hzG1 : IntKind.u64.wrap zG = zG := by rw [IntKind.wrap_u64]; omega
           obtain ⟨G1, hG1⟩ : ∃ G1, G1 = min G0 4294967295 := ⟨_, rfl⟩
           have eMin : (if 4294967295 < zG then 4294967295 else zG) = (G1 : Int) := by split <;> omega
           have eMin2 : (if zG < 4294967295 then zG else 4294967295) = (G1 : Int) := by split <;> omega
           have hG1a : G1 ≤ 4294967295 := by omega
           have HGE : Hid (N / V ≤ G1) := by
             have h1 := HG.out
             rw [← hG0] at h1
             show N / V ≤ G1
             omega
           have e15 : IntKind.u32.wrap (G1 : Int) = (G1 : Int) := by rw [IntKind.wrap_u32]; omega
           clear HG e1 e2 hH hTT hG0 hzG hG1 h1 h0
           have K2 := Lib.hid (fun (B1 : Option Addr) W hr hr2 => rmul_any A3 B1 (dig V) [G1] M c3 1 1 W HVL.out rfl (by omega) (by omega) (dig_W32 V) (W32.one (by omega)) hr hr2)
           go_wp2_with (first | (go_at_call 136; (with_reducible refine (L1.out).mono ?_); rintro e _ ⟨rfl, rfl⟩) | (go_at_call 136; (with_reducible refine (L2.out).mono ?_); rintro e _ ⟨rfl, rfl⟩) | (go_at_call 136; (with_reducible refine (L3.out).mono ?_); rintro e _ ⟨rfl, rfl⟩) | fail)
           have hbA : Below w6.heap.size w6 (w6.alloc (.cells #[.int .u32 (G1 : Int)] 157)) := (Below.refl _ _).alloc (Nat.le_refl _) _
           have K3 := Lib.hid (K2.out (some ⟨w6.heap.size, 0, none⟩) _ (own3s.rd.on hbA (by simp)) (RdW.new1 (by simp) (by simp)))
           rw [nv_dig, nv_one] at K3
           (with_reducible refine (K3.out).mono ?_)
           rintro e w8 ⟨A8, c8, rfl, own8, hb8⟩
           have hb8' : Below w6.heap.size w6 w8 := hbA.trans (Below.mono hb8 (by simp))
           have hb8z := hb8'.size
           have own8' : OwW w8 w6.heap.size A8 c8 (dig (V * G1)) := own8.base_ (by simp)
           clear K1 K2 K3 own8 hb8 hbA L1 L2 L3 eor ed ed2 eMin eMin2 es0 e15 hzG0 hzG1
           go_wp2
           go_loopw [12, 13] (fun gu p wr => ∃ (G : Nat) (Ap : Option Addr) (cp : Nat), gu = .int .u64 G ∧ p = .slice Ap (dig (V * G)).length cp ∧ N / V ≤ G ∧ G ≤ 4294967295 ∧ OwW wr w6.heap.size Ap cp (dig (V * G)) ∧ Below w6.heap.size w6 wr) (fun gu _ _ => (intOf gu).toNat)
           case atStart => exact ⟨G1, A8, c8, rfl, rfl, HGE.out, hG1a, own8', hb8'⟩
           case round =>
             obtain ⟨G, Ap, cp, rfl, rfl, hgN, hg32, ownp, hbi⟩ := hrel
             have HGN := Lib.hid hgN
             clear hgN
             have hbiz := hbi.size
             have hpl := HVG.out G hg32
             have own6i := own6.below hbi
             have own3i := own3s.below hbi
             have K4 := Lib.hid (rcmp_any Ap A6 (dig (V * G)) (dig N) _ cp _ c6 wr rfl rfl (by omega) (by omega) (dig_W32 _) (dig_W32 _) ownp.rd own6i.rd)
             rw [nv_dig, nv_dig] at K4
             by_cases hcmp : N < V * G
             · obtain ⟨g1, g2, g3, g4⟩ := guess_down HGN.out hV0 hcmp
               have HGD := Lib.hid g2
               rw [cmpN_gt hcmp] at K4
               have K5 := rsub_any Ap A3 (dig (V * G)) (dig V) _ cp M c3 wr rfl HVL.out (by omega) (by omega) (dig_W32 _) (dig_W32 _) ownp.rd own3i.rd (by rw [nv_dig, nv_dig]; exact g4)
               rw [nv_dig, nv_dig, g3] at K5
               have K5 := Lib.hid K5
               clear hcmp g2 g3 g4
               go_wp2_with (first | (go_at_call 98; (with_reducible refine (K4.out).mono ?_); rintro e _ ⟨rfl, rfl⟩) | fail)
               (with_reducible refine (K5.out).mono ?_)
               rintro e w9 ⟨A9, c9, rfl, own9, hb9⟩
               go_wp2
               go_roundw
               case rel => exact ⟨G - 1, A9, c9, vint (by omega), rfl, HGD.out, by omega, own9.base_ hbiz, (by have z0 := Below.size hbi; have z1 := Below.size hb9; (try simp only [ZZ] at z0 z1 ⊢; skip); repeat' (first | (with_reducible first | exact BlR _ _ | assumption | refine BlA ?_ ?_ _ | refine BlD ?_ | refine BlN ?_ _ | refine BlS ?_ ?_ _ | refine BlT ?_ (BlM (by assumption) ?_)) | omega | (simp only [ZZ]; omega) | go_size))⟩
               case measure => simp [intOf]; omega
             · obtain ⟨g1, g2⟩ := guess_done HGN.out hV0 (by omega)
               have HG1 := Lib.hid g1
               have hq : cmpN (V * G) N ≤ 0 := by unfold cmpN; split; omega; split <;> omega
               have hle : V * G ≤ N := by omega
               generalize cmpN (V * G) N = cq at *
               have K5 := rsub_any A6 Ap (dig N) (dig (V * G)) _ c6 _ cp wr rfl rfl (by omega) (by omega) (dig_W32 _) (dig_W32 _) own6i.rd ownp.rd (by rw [nv_dig, nv_dig]; exact hle)
               rw [nv_dig, nv_dig, g2] at K5
               have K5 := Lib.hid K5
               clear hcmp g1 g2 hle
               have e20 : IntKind.u32.wrap (G : Int) = (G : Int) := by rw [IntKind.wrap_u32]; omega
               go_wp2_with (first | (go_at_call 98; (with_reducible refine (K4.out).mono ?_); rintro e _ ⟨rfl, rfl⟩) | fail)
               (with_reducible refine (K5.out).mono ?_)
               rintro e w9 ⟨A9, c9, rfl, own9, hb9⟩
               have hb9z := hb9.size
               have hb69 : Below w6.heap.size w6 w9 := (by have z0 := Below.size hbi; have z1 := Below.size hb9; (try simp only [ZZ] at z0 z1 ⊢; skip); repeat' (first | (with_reducible first | exact BlR _ _ | assumption | refine BlA ?_ ?_ _ | refine BlD ?_ | refine BlN ?_ _ | refine BlS ?_ ?_ _ | refine BlT ?_ (BlM (by assumption) ?_)) | omega | (simp only [ZZ]; omega) | go_size))
               have hb09 : Below wo.heap.size wo w9 := (by have z0 := Below.size hb06; have z1 := Below.size hb69; (try simp only [ZZ] at z0 z1 ⊢; skip); repeat' (first | (with_reducible first | exact BlR _ _ | assumption | refine BlA ?_ ?_ _ | refine BlD ?_ | refine BlN ?_ _ | refine BlS ?_ ?_ _ | refine BlT ?_ (BlM (by assumption) ?_)) | omega | (simp only [ZZ]; omega) | go_size))
               have hb19 : Below w0.heap.size w0 w9 := (by have z0 := Below.size hb; have z1 := Below.size hb09; (try simp only [ZZ] at z0 z1 ⊢; skip); repeat' (first | (with_reducible first | exact BlR _ _ | assumption | refine BlA ?_ ?_ _ | refine BlD ?_ | refine BlN ?_ _ | refine BlS ?_ ?_ _ | refine BlT ?_ (BlM (by assumption) ?_)) | omega | (simp only [ZZ]; omega) | go_size))
               have oq9 := oq.below hb09
               have hjq : j < q.length := by have := HQL.out; omega
               have y8 := oq9.cell hjq
               have y9 := oq9.frozen j
               have hgl := oq.lt
               go_wp2
               go_roundw
               case rel =>
                 exact ⟨j, (j : Int) - 1, q.set j G, _, A9, c9, rfl, by go_num, by omega, by omega, by omega, by simpa using HQL.out, HQW.out.set _ _ (by omega), dig_W32 _, dig_length_le (Nat.lt_of_lt_of_le (Nat.mod_lt _ hV0) (Nat.le_of_lt HTop.out.lt)), by rw [nv_dig, HG1.out]; exact HRND.out, by rw [nv_dig]; exact Nat.mod_lt _ hV0, fun i hi => by rw [getD_set_ne (by omega)]; exact HQ0.out i (by have := HJ.out; omega), oq9.set j G, (own9.low (show g < _ by omega) _).base_ (by omega), hb19.setCell hg _⟩
               case measure => simp [intOf]
         · have HK00 : Hid (k = 0) := by have := HKZ.out; show k = 0; omega
           have HF : Hid (nv q = X / V ∧ nv rl = X % V) := by
             have h1 := HINV.out
             rw [HK00.out, wp_zero, Nat.one_mul, List.take_zero, nv_nil, Nat.add_zero] at h1
             exact ref_end h1 HRV2.out
           have K5 := rtrim_any (some ⟨g, 0, none⟩) q L L wo HQL.out (by omega) (Nat.le_refl _) HQW.out (by have := oq.rd; exact this)
           have K6 := fun W hr => down_any Ar rl rl.length cr s W rfl (by omega) HRW.out (by omega) hr
           rw [HF.out.1, HQX.out] at K5
           rw [HF.out.2, HRX.out] at K6
           have K5 := Lib.hid K5
           have K6 := Lib.hid K6
           (go_wp2_with fail; (with_reducible refine (K5.out).mono ?_); rintro e w5 ⟨A5, c5, rfl, own5, hb5⟩; have hb5z := Below.size hb5; (try simp only [ZZ] at hb5z))
           (go_wp2_with fail; (with_reducible refine (K6.out _ (or_.below hb5).rd).mono ?_); rintro e w6 ⟨A6, c6, rfl, own6, hb6⟩; have hb6z := Below.size hb6; (try simp only [ZZ] at hb6z))
           go_wp2
           go_ret3
           exact ⟨⟨A5, c5, A6, c6, rfl, (own5.below hb6).base_ (by omega), own6.base_ (by omega)⟩, (by have z0 := Below.size hb1; have z1 := Below.size hb2; have z2 := Below.size hb3; have z3 := Below.size hb; have z4 := Below.size hb5; have z5 := Below.size hb6; (try simp only [ZZ] at z0 z1 z2 z3 z4 z5 ⊢; skip); repeat' (first | (with_reducible first | exact BlR _ _ | assumption | refine BlA ?_ ?_ _ | refine BlD ?_ | refine BlN ?_ _ | refine BlS ?_ ?_ _ | refine BlT ?_ (BlM (by assumption) ?_)) | omega | (simp only [ZZ]; omega) | go_size))⟩
end Go.Proofs.YtoiopnmphbnjaaaGreatDoor
namespace Go.Proofs.YtoiopnmphbnjaaaGreatDoor
open Go.RowKit
set_option linter.unusedSimpArgs false
set_option linter.unusedVariables false
set_option maxRecDepth 20000
attribute [local irreducible] nv wp win
/-! ## the reference's Gcd -/
theorem rgcd_any (A B : Option Addr) (l m : List Nat) (n c n' c' : Nat) (w : World) (hl : l.length = n) (hm : m.length = n') (hn : n ≤ 274877906900) (hn' : n' ≤ 274877906900) (hcap : n ≤ c) (hcap' : n' ≤ c') (hW : W32 l) (hW' : W32 m)
   (h : RdW w w.heap.size A l) (h' : RdW w w.heap.size B m) :
   Calls Tryz.prog 118 #[.slice A n c, .slice B n' c'] w fun e w' => ∃ A' c', e = .returned (.slice A' (dig ((nv l).gcd (nv m))).length c') ∧ OwW w' w.heap.size A' c' (dig ((nv l).gcd (nv m))) ∧ Below w.heap.size w w' := by
 have K1 := Lib.hid (rtrim_any A l n c w hl (by omega) hcap hW h)
 have K2 := Lib.hid (fun W (hb : Below w.heap.size w W) (hz : w.heap.size ≤ W.heap.size) => rtrim_any B m n' c' W hm (by omega) hcap' hW' (h'.on hb hz))
 have q1 : (dig (nv l)).length ≤ 274877906900 := Nat.le_trans (dig_length_le (nv_lt hW)) (by omega)
 have q2 : (dig (nv m)).length ≤ 274877906900 := Nat.le_trans (dig_length_le (nv_lt hW')) (by omega)
 generalize nv l = a at *
 generalize nv m = b at *
 clear hW hW' h h' hl hm
 go_enter Tryz.func118, Tryz.ntmps118
 (go_wp2_with fail; (with_reducible refine (K1.out).mono ?_); rintro e w1 ⟨A1, c1, rfl, own1, hb1⟩; have hb1z := Below.size hb1; (try simp only [ZZ] at hb1z))
 (go_wp2_with fail; (with_reducible refine (K2.out _ (by have z0 := Below.size hb1; (try simp only [ZZ] at z0 ⊢; skip); repeat' (first | (with_reducible first | exact BlR _ _ | assumption | refine BlA ?_ ?_ _ | refine BlD ?_ | refine BlN ?_ _ | refine BlS ?_ ?_ _ | refine BlT ?_ (BlM (by assumption) ?_)) | omega | (simp only [ZZ]; omega) | go_size)) (by omega)).mono ?_); rintro e w2 ⟨A2, c2, rfl, own2, hb2⟩; have hb2z := Below.size hb2; (try simp only [ZZ] at hb2z))
 have own1' := own1.below hb2
 go_wp2
 go_loopw [0, 1] (fun u v wr => ∃ (x y : Nat) (X Y : Option Addr) (cx cy : Nat), u = .slice X (dig x).length cx ∧ v = .slice Y (dig y).length cy ∧ x.gcd y = a.gcd b ∧ (dig x).length ≤ 274877906900 ∧ (dig y).length ≤ 274877906900 ∧ OwW wr w.heap.size X cx (dig x) ∧ OwW wr w.heap.size Y cy (dig y) ∧ Below w.heap.size w wr) (fun _ v wr => numOf wr v)
 case atStart => exact ⟨a, b, A1, A2, c1, c2, rfl, rfl, rfl, q1, q2, own1', own2.base_ (by omega), (by have z0 := Below.size hb1; have z1 := Below.size hb2; (try simp only [ZZ] at z0 z1 ⊢; skip); repeat' (first | (with_reducible first | exact BlR _ _ | assumption | refine BlA ?_ ?_ _ | refine BlD ?_ | refine BlN ?_ _ | refine BlS ?_ ?_ _ | refine BlT ?_ (BlM (by assumption) ?_)) | omega | (simp only [ZZ]; omega) | go_size))⟩
 case round =>
   obtain ⟨x, y, X, Y, cx, cy, rfl, rfl, hg, hx, hy, ox, oy, hb⟩ := hrel
   have hwz := hb.size
   have HG := Lib.hid hg
   clear hg
   have HNO := Lib.hid (numOf_eq (c := cy) oy.rd)
   by_cases hy0 : y = 0
   · subst hy0
     have HZ : Hid (x = a.gcd b) := by have := HG.out; rwa [Nat.gcd_zero_right] at this
     rw [dig_zero] at hy oy
     rw [dig_zero]
     go_wp2
     go_ret
     rw [← HZ.out]
     exact ⟨X, cx, rfl, ox, hb⟩
   · have hyl := dig_len_pos.2 hy0
     have q3 : (dig (x % y)).length ≤ 274877906900 := Nat.le_trans (dig_len_mono (Nat.le_of_lt (Nat.mod_lt x (by omega)))) hy
     have HM := Lib.hid (Nat.mod_lt x (show 0 < y by omega))
     have K := Lib.hid (rdiv_any X Y (dig x) (dig y) _ cx _ cy wr rfl rfl hx hy ox.cap oy.cap (dig_W32 x) (dig_W32 y) ox.rd oy.rd (by rw [nv_dig]; exact hy0))
     go_wp2_with fail
     (with_reducible refine (K.out).mono ?_)
     rintro e w5 ⟨⟨B1, d1, B2, d2, rfl, _, ob⟩, hb5⟩
     have hb5z := hb5.size
     rw [nv_dig, nv_dig] at ob ⊢
     have HQ : Hid (y.gcd (x % y) = a.gcd b) := by
       have := HG.out
       exact (Nat.gcd_comm _ _).trans ((Nat.gcd_rec y x).symm.trans ((Nat.gcd_comm _ _).trans this))
     go_wp2
     go_roundw
     case rel => exact ⟨y, x % y, Y, B2, cy, d2, rfl, rfl, HQ.out, hy, q3, oy.below hb5, ob.base_ (by omega), (by have z0 := Below.size hb; have z1 := Below.size hb5; (try simp only [ZZ] at z0 z1 ⊢; skip); repeat' (first | (with_reducible first | exact BlR _ _ | assumption | refine BlA ?_ ?_ _ | refine BlD ?_ | refine BlN ?_ _ | refine BlS ?_ ?_ _ | refine BlT ?_ (BlM (by assumption) ?_)) | omega | (simp only [ZZ]; omega) | go_size))⟩
     case measure => skip; rw [numOf_eq ob.rd, HNO.out, nv_dig, nv_dig]; exact HM.out
end Go.Proofs.YtoiopnmphbnjaaaGreatDoor
