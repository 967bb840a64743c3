/- Contracts and lemmas for the given statements. Conditions: those alone that each names. -/
import Derived.Test.YtoiopnmphbnjaaaGreatDoorJRdA
import Derived.Test.YtoiopnmphbnjaaaGreatDoorJDynW1
import Derived.Test.YtoiopnmphbnjaaaGreatDoorJDynW11
set_option maxHeartbeats 16000000
namespace Go.Proofs.YtoiopnmphbnjaaaGreatDoor
open Go.RowKit
set_option linter.unusedSimpArgs false
set_option linter.unusedVariables false
set_option maxRecDepth 20000
/-! ## reference 48: of, trues, value -/
section
variable {w : World} {AG AF AR Av : Option Addr} {cg cf cr cv : Nat} {r : DyR}
theorem rof_any {v i a F : Nat} {V : Nat → Bool} (hv : r.v = v) (v24 : v ≤ 24) (hF : F < 2 ^ v) (hr : RdV w Av i (fun j => V (v + j))) (hbit : ∀ a, a < v → V a = F.testBit a) (ha : a < v + i) (hi : i ≤ 1000000) :
   Calls Tryz.prog 100 #[dyv r AG cg AF cf AR cr, .slice Av i cv, .int .i64 (F : Int), .int .i64 (a : Int)] w fun e w' => e = .returned (.bool (V a)) ∧ Below w.heap.size w w' := by
 have hp : 2 ^ v ≤ 16777216 := Nat.pow_le_pow_right (n := 2) (by omega) v24
 unfold dyv
 rw [hv]
 by_cases hav : a < v
 · have s1 := yshr F a
   have hq : F / 2 ^ a < 16777216 := Nat.lt_of_le_of_lt (Nat.div_le_self _ _) (by omega)
   have s2 : bits .and .i64 ((F / 2 ^ a : Nat) : Int) 1 = ((F / 2 ^ a % 2 : Nat) : Int) := yand1 (by omega)
   have s3 : ((F / 2 ^ a % 2 : Nat) : Int) = if V a then 1 else 0 := by rw [ybit, hbit a hav]; cases F.testBit a <;> rfl
   have ha64 : a < 64 := by omega
   have hlt : (a : Int) < (v : Int) := by omega
   rw [s3] at s2
   generalize F / 2 ^ a = q1 at *
   clear hr hbit s3
   cases hb : V a
   · rw [hb] at s2
     simp only [Bool.false_eq_true, if_false] at s2
     clear hb
     go_enter Tryz.func100, Tryz.ntmps100
     go_wp2_with fail
     go_returns
     exact ⟨rfl, (by (skip); repeat' (first | (with_reducible first | exact BlR _ _ | assumption | refine BlA ?_ ?_ _ | refine BlD ?_ | refine BlN ?_ _ | refine BlS ?_ ?_ _ | refine BlT ?_ (BlM (by assumption) ?_)) | omega | (simp only [ZZ]; omega) | go_size))⟩
   · rw [hb] at s2
     simp only [if_true] at s2
     clear hb
     go_enter Tryz.func100, Tryz.ntmps100
     go_wp2_with fail
     go_returns
     exact ⟨rfl, (by (skip); repeat' (first | (with_reducible first | exact BlR _ _ | assumption | refine BlA ?_ ?_ _ | refine BlD ?_ | refine BlN ?_ _ | refine BlS ?_ ?_ _ | refine BlT ?_ (BlM (by assumption) ?_)) | omega | (simp only [ZZ]; omega) | go_size))⟩
 · obtain ⟨b, off, rfl, hb, hc⟩ := hr.later (Below.refl _ _) (show a - v < i by omega)
   rw [show v + (a - v) = a by omega] at hc
   have e1 : IntKind.i64.wrap ((a : Int) - (v : Int)) = ((a - v : Nat) : Int) := by rw [IntKind.wrap_i64]; omega
   have e2 : (a : Int) - (v : Int) = ((a - v : Nat) : Int) := by omega
   have hlt : ¬ (a : Int) < (v : Int) := by omega
   have j0 : (0 : Int) ≤ ((a - v : Nat) : Int) := by omega
   have j1 : ((a - v : Nat) : Int) < (i : Int) := by omega
   have e3 : wrap64 ((a - v : Nat) : Int) = ((a - v : Nat) : Int) := IntWalk.wrap64_in _ (by omega)
   generalize V a = x at *
   generalize a - v = t at *
   clear hr hbit
   go_enter Tryz.func100, Tryz.ntmps100
   go_wp2_with fail
   go_returns
   exact ⟨rfl, (by (skip); repeat' (first | (with_reducible first | exact BlR _ _ | assumption | refine BlA ?_ ?_ _ | refine BlD ?_ | refine BlN ?_ _ | refine BlS ?_ ?_ _ | refine BlT ?_ (BlM (by assumption) ?_)) | omega | (simp only [ZZ]; omega) | go_size))⟩
/-- the values of the arguments, and how many are true -/
def TrRet (b0 n : Nat) (L : List Bool) (e : Ending) (w' : World) : Prop := ∃ A c, e = .returned (.tuple #[.slice A n c, .int .i64 (cnB L : Nat)]) ∧ OwVb w' b0 A c n (fun j => L.getD j false)
theorem rtrues_any {v i F : Nat} {V : Nat → Bool} {kd kk : Int} {s : Bool} {l : List Int} {A1 A2 A3 : Option Addr} {c1 n2 c2 n3 c3 : Nat} (hv : r.v = v) (v24 : v ≤ 24) (hF : F < 2 ^ v) (hr : RdV w Av i (fun j => V (v + j))) (hbit : ∀ a, a < v → V a = F.testBit a) (hi : i ≤ 1000000)
   (ra : Rds w w.heap.size 1 A1 l.length (zsD l)) (har : ∀ a, a ∈ l → 0 ≤ a ∧ a < (v : Int) + i) (h16 : l.length ≤ 16) :
   Calls Tryz.prog 132 #[dyv r AG cg AF cf AR cr, .slice Av i cv, .int .i64 (F : Int), gv kd kk A1 l.length c1 s A2 n2 c2 A3 n3 c3] w fun e w' => TrRet w.heap.size l.length ((l.map Int.toNat).map V) e w' ∧ Below w.heap.size w w' := by
 obtain ⟨L, hL⟩ : ∃ L, L = (l.map Int.toNat).map V := ⟨_, rfl⟩
 have hLl : L.length = l.length := by rw [hL]; exact dy_len l V
 have KO := Lib.hid (fun W (a : Nat) (hb : Below w.heap.size w W) (ha : a < v + i) => rof_any (AG := AG) (AF := AF) (AR := AR) (cg := cg) (cf := cf) (cr := cr) (cv := cv) hv v24 hF (hr.below hb) hbit ha hi)
 have HV : Hid (∀ k (hk : k < l.length), ∃ x : Nat, l[k] = x ∧ x < v + i ∧ V x = L.getD k false ∧ cnB (L.take (k + 1)) = cnB (L.take k) + if L.getD k false then 1 else 0) := fun k hk => by
   have h2 := har _ (List.getElem_mem hk)
   have hkL : k < L.length := by omega
   have e : L[k] = V l[k].toNat := by
     subst hL
     exact mapV hk h2.1
   have e2 : L.getD k false = L[k] := by rw [List.getD_eq_getElem?_getD, List.getElem?_eq_getElem hkL]; rfl
   exact ⟨l[k].toNat, by omega, by omega, by rw [e2, e], by rw [e2]; exact cnB_take hkL⟩
 have HC0 : Hid (cnB (L.take 0) = 0) := rfl
 have HCE : Hid (cnB (L.take l.length) = cnB L) := by show _ = _; rw [← hLl, List.take_of_length_le (Nat.le_refl _)]
 have HCL : Hid (∀ k, cnB (L.take k) ≤ k) := fun k => Nat.le_trans (cnB_le _) (by rw [List.length_take]; omega)
 rw [← hL]
 have HRA := Lib.hid ra
 unfold dyv at KO ⊢
 rw [hv] at KO ⊢
 clear hL har hr hbit ra hF hLl
 obtain ⟨C, hC⟩ : ∃ C : Nat → Nat, C = fun k => cnB (L.take k) := ⟨_, rfl⟩
 have HV2 : Hid (∀ k (hk : k < l.length), ∃ x : Nat, l[k] = x ∧ x < v + i ∧ V x = L.getD k false ∧ C (k + 1) = C k + if L.getD k false then 1 else 0) := fun k hk => by rw [hC]; exact HV.out k hk
 have HC02 : Hid (C 0 = 0) := by show _ = _; rw [hC]; exact HC0.out
 have HCE2 : Hid (C l.length = cnB L) := by show _ = _; rw [hC]; exact HCE.out
 have HCL2 : Hid (∀ k, C k ≤ k) := fun k => by rw [hC]; exact HCL.out k
 have HRET : Hid (∀ A c w', OwVb w' w.heap.size A c l.length (fun j => L.getD j false) → TrRet w.heap.size l.length L (.returned (.tuple #[.slice A l.length c, .int .i64 (C l.length : Nat)])) w') := fun A c w' ho => ⟨A, c, by rw [HCE2.out], ho⟩
 generalize TrRet w.heap.size l.length L = RR at *
 clear HV HC0 HCE HCL hC HCE2
 obtain ⟨W, hW⟩ : ∃ W, W = ((w.alloc (.cells #[.int .i64 (v : Int), .slice AG r.ng cg, .int .i64 r.top, .slice AF r.nf cf, .slice AR r.nr cr] 25)).alloc (.cells #[.int .i64 kd, .int .i64 kk, .slice A1 l.length c1, .bool s, .slice A2 n2 c2, .slice A3 n3 c3] 88)) := ⟨_, rfl⟩
 have x0 : W.cell? ⟨w.heap.size, 0, none⟩ = some (.int .i64 (v : Int)) := by rw [hW]; simp [go_sem]
 have x1 : W.cell? ⟨w.heap.size, 1, none⟩ = some (.slice AG r.ng cg) := by rw [hW]; simp [go_sem]
 have x2 : W.cell? ⟨w.heap.size, 2, none⟩ = some (.int .i64 r.top) := by rw [hW]; simp [go_sem]
 have x3 : W.cell? ⟨w.heap.size, 3, none⟩ = some (.slice AF r.nf cf) := by rw [hW]; simp [go_sem]
 have x4 : W.cell? ⟨w.heap.size, 4, none⟩ = some (.slice AR r.nr cr) := by rw [hW]; simp [go_sem]
 have q2 : W.cell? ⟨w.heap.size + 1, 2, none⟩ = some (.slice A1 l.length c1) := by rw [hW]; simp [go_sem]
 have hbW : Below w.heap.size w W := by rw [hW]; exact (by (skip); repeat' (first | (with_reducible first | exact BlR _ _ | assumption | refine BlA ?_ ?_ _ | refine BlD ?_ | refine BlN ?_ _ | refine BlS ?_ ?_ _ | refine BlT ?_ (BlM (by assumption) ?_)) | omega | (simp only [ZZ]; omega) | go_size))
 have hWz : W.heap.size = w.heap.size + 2 := by rw [hW]; simp
 have HW := Lib.hid hW
 have HBW := Lib.hid hbW
 clear hW hbW
 go_enter Tryz.func132, Tryz.ntmps132
 go_upto_region 3 with fail
 rw [← HW.out]
 go_wp2_with fail
 go_loopw [10, 11, 18] (fun sv nw j wr => ∃ (k : Nat) (A : Option Addr) (c : Nat), k ≤ l.length ∧ sv = .slice A k c ∧ nw = .int .i64 (C k : Nat) ∧ j = .int .i64 (k : Int) ∧ OwVb wr (w.heap.size + 2) A c k (fun t => L.getD t false) ∧ Below (w.heap.size + 2) W wr) (fun _ _ j _ => l.length - (intOf j).toNat)
 case atStart => exact ⟨0, none, 0, Nat.zero_le _, rfl, by rw [HC02.out]; rfl, rfl, OwVb.nil_ _ _ _, Below.refl _ _⟩
 case round =>
   obtain ⟨k, A, c, hk, rfl, rfl, rfl, own, hb⟩ := hrel
   obtain ⟨wo, rfl⟩ : ∃ wo : World, wo = wr := ⟨_, rfl⟩
   have hbz := hb.size
   have hbw : Below w.heap.size w wo := HBW.out.trans (hb.mono (by omega))
   by_cases hkl : k < l.length
   · obtain ⟨b1, off1, rfl, hb1, zq⟩ := zsD_at HRA.out hbw hkl
     obtain ⟨x, hx, hxn, hxV, hcn⟩ := HV2.out k hkl
     rw [hx] at zq
     have y0 := (below_at hb w.heap.size 0 (by omega)).trans x0
     have y1 := (below_at hb w.heap.size 1 (by omega)).trans x1
     have y2 := (below_at hb w.heap.size 2 (by omega)).trans x2
     have y3 := (below_at hb w.heap.size 3 (by omega)).trans x3
     have y4 := (below_at hb w.heap.size 4 (by omega)).trans x4
     have KO1 := Lib.hid (KO.out wo x hbw hxn)
     rw [hxV] at KO1
     have k0 : (0 : Int) ≤ (k : Int) := by omega
     have k1 : (k : Int) < (l.length : Int) := by omega
     have HO := Lib.hid own
     have HB := Lib.hid hb
     have HCN := Lib.hid hcn
     have hck := HCL2.out k
     have HCG : Hid (∀ t, t < k + 1 → (if t = k then L.getD k false else L.getD t false) = L.getD t false) := fun t ht => by
       split
       · rename_i e; rw [e]
       · rfl
     clear hx hxV hxn own hb hbw hcn
     go_wp2_with fail
     refine KO1.out.mono ?_
     rintro e w2 ⟨rfl, hb2⟩
     have hz2 := hb2.size
     have HO2 := Lib.hid (HO.out.below hb2)
     have HB2 := Lib.hid (HB.out.trans (hb2.mono (by omega)))
     clear hb2 KO1 y0 y1 y2 y3 y4 zq HO HB
     cases hbk : L.getD k false
     · rw [hbk] at HCN HCG
       clear hbk
       go_wp2_with (first | (at_builtin; refine wpList_appV rfl (.tmp 30) (.tmp 32) rfl (w.heap.size + 2) A c k (fun t => L.getD t false) (by first | rfl | simp [Act.eval]) (HO2.out.below ((Below.refl _ _).alloc (Nat.le_refl _) _)) w2.heap.size false (by first | rfl | simp [Act.eval]) (by simp) (by omega) (by simp; omega) ?_; intro g7 c7 w7 own7 hb7 hlt7) | fail)
       have HO7 := Lib.hid (own7.congr (fun t ht => HCG.out t ht))
       have HB7 := Lib.hid (HB2.out.trans ((((Below.refl w2.heap.size w2).alloc (Nat.le_refl _) _).mono (by omega)).trans hb7))
       have HCN2 : Hid (C (k + 1) = C k) := by show _ = _; rw [HCN.out]; simp
       clear own7 hb7 HCN
       go_wp2_with fail
       go_roundw
       case rel => exact ⟨k + 1, some ⟨g7, 0, none⟩, c7, by omega, rfl, by rw [HCN2.out], by go_num, HO7.out, HB7.out⟩
       case measure => simp [intOf]; omega
     · rw [hbk] at HCN HCG
       clear hbk
       go_wp2_with (first | (at_builtin; refine wpList_appV rfl (.tmp 30) (.tmp 32) rfl (w.heap.size + 2) A c k (fun t => L.getD t false) (by first | rfl | simp [Act.eval]) (HO2.out.below ((Below.refl _ _).alloc (Nat.le_refl _) _)) w2.heap.size true (by first | rfl | simp [Act.eval]) (by simp) (by omega) (by simp; omega) ?_; intro g7 c7 w7 own7 hb7 hlt7) | fail)
       have HO7 := Lib.hid (own7.congr (fun t ht => HCG.out t ht))
       have HB7 := Lib.hid (HB2.out.trans ((((Below.refl w2.heap.size w2).alloc (Nat.le_refl _) _).mono (by omega)).trans hb7))
       have HCN2 : Hid (C (k + 1) = C k + 1) := by show _ = _; rw [HCN.out]; simp
       clear own7 hb7 HCN
       go_wp2_with fail
       go_roundw
       case rel => exact ⟨k + 1, some ⟨g7, 0, none⟩, c7, by omega, rfl, by rw [HCN2.out]; go_num, by go_num, HO7.out, HB7.out⟩
       case measure => simp [intOf]; omega
   · obtain rfl : k = l.length := by omega
     have HF := Lib.hid (HRET.out A c wo (own.base_ (by omega)))
     go_wp2_with fail
     go_returns
     exact ⟨HF.out, hbw⟩
end
end Go.Proofs.YtoiopnmphbnjaaaGreatDoor
namespace Go.Proofs.YtoiopnmphbnjaaaGreatDoor
open Go.RowKit
set_option linter.unusedSimpArgs false
set_option linter.unusedVariables false
set_option maxRecDepth 20000
/-! ## reference 48: value, memory -/
section
variable {w : World} {A1 A2 A3 Al : Option Addr} {m c1 n2 c2 n3 c3 n cl : Nat} {kd kk memo old : Int} {s : Bool} {L : List Bool}
theorem rvalue_any (hL : L.length = n) (rv : RdV w Al n (fun j => L.getD j false)) (h1 : 1 ≤ n) (h16 : n ≤ 16) (hkd : 0 ≤ kd ∧ kd ≤ 8) :
   Calls Tryz.prog 134 #[gv kd kk A1 m c1 s A2 n2 c2 A3 n3 c3, .slice Al n cl, .int .i64 (cnB L : Nat), .int .i64 memo] w fun e w' => e = .returned (.bool (dyVal kd.toNat kk L memo)) ∧ Below w.heap.size w w' := by
 have HHD : Hid (L.headD false = L.getD 0 false) := by
   show _ = _
   cases L with
   | nil => rfl
   | cons b L => rfl
 obtain ⟨b0, off0, rfl, hb0, hz0⟩ := rv.later (Below.refl _ _) (show 0 < n by omega)
 have hN : cnB L ≤ 16 := by have := cnB_le L; omega
 obtain ⟨N, hNe⟩ : ∃ N, N = cnB L := ⟨_, rfl⟩
 have HNL : Hid (cnB L = N) := hNe.symm
 have HLL : Hid (L.length = n) := hL
 rw [← hNe] at hN ⊢
 obtain ⟨x0, hx0⟩ : ∃ x0, x0 = L.getD 0 false := ⟨_, rfl⟩
 rw [← hx0] at HHD hz0
 rw [Nat.add_zero] at hz0
 have n0 : (0 : Int) < (n : Int) := by omega
 clear hx0 hNe hL rv
 rcases (show kd = 0 ∨ kd = 1 ∨ kd = 2 ∨ kd = 3 ∨ kd = 4 ∨ kd = 5 ∨ kd = 6 ∨ kd = 7 ∨ kd = 8 by omega) with rfl | rfl | rfl | rfl | rfl | rfl | rfl | rfl | rfl
 · have HR : Hid (dyVal (0 : Int).toNat kk L memo = ((N : Int) == (n : Int))) := by
     show _ = _
     rw [show (0 : Int).toNat = 0 from rfl, dyVal_and (.inl rfl), HNL.out, HLL.out, Bool.eq_iff_iff]; simp; omega
   go_enter Tryz.func134, Tryz.ntmps134
   go_wp2_with fail
   go_returns
   exact ⟨by rw [HR.out]; rfl, (by (skip); repeat' (first | (with_reducible first | exact BlR _ _ | assumption | refine BlA ?_ ?_ _ | refine BlD ?_ | refine BlN ?_ _ | refine BlS ?_ ?_ _ | refine BlT ?_ (BlM (by assumption) ?_)) | omega | (simp only [ZZ]; omega) | go_size))⟩
 · have HR : Hid (dyVal (1 : Int).toNat kk L memo = decide (0 < N)) := by
     show _ = _
     rw [show (1 : Int).toNat = 1 from rfl, dyVal_1, HNL.out]
   go_enter Tryz.func134, Tryz.ntmps134
   go_wp2_with fail
   go_returns
   exact ⟨by rw [HR.out]; rfl, (by (skip); repeat' (first | (with_reducible first | exact BlR _ _ | assumption | refine BlA ?_ ?_ _ | refine BlD ?_ | refine BlN ?_ _ | refine BlS ?_ ?_ _ | refine BlT ?_ (BlM (by assumption) ?_)) | omega | (simp only [ZZ]; omega) | go_size))⟩
 · have HR : Hid (dyVal (2 : Int).toNat kk L memo = decide (kk ≤ (N : Int))) := by
     show _ = _
     rw [show (2 : Int).toNat = 2 from rfl, dyVal_2, HNL.out]
   go_enter Tryz.func134, Tryz.ntmps134
   go_wp2_with fail
   go_returns
   exact ⟨by rw [HR.out]; rfl, (by (skip); repeat' (first | (with_reducible first | exact BlR _ _ | assumption | refine BlA ?_ ?_ _ | refine BlD ?_ | refine BlN ?_ _ | refine BlS ?_ ?_ _ | refine BlT ?_ (BlM (by assumption) ?_)) | omega | (simp only [ZZ]; omega) | go_size))⟩
 · have HR : Hid (dyVal (3 : Int).toNat kk L memo = ((N : Int) == 0)) := by
     show _ = _
     rw [show (3 : Int).toNat = 3 from rfl, dyVal_3, HNL.out, Bool.eq_iff_iff]; simp
   go_enter Tryz.func134, Tryz.ntmps134
   go_wp2_with fail
   go_returns
   exact ⟨by rw [HR.out]; rfl, (by (skip); repeat' (first | (with_reducible first | exact BlR _ _ | assumption | refine BlA ?_ ?_ _ | refine BlD ?_ | refine BlN ?_ _ | refine BlS ?_ ?_ _ | refine BlT ?_ (BlM (by assumption) ?_)) | omega | (simp only [ZZ]; omega) | go_size))⟩
 · have HR : Hid (dyVal (4 : Int).toNat kk L memo = (((N : Int).tmod 2) == 1)) := by
     show _ = _
     rw [show (4 : Int).toNat = 4 from rfl, dyVal_4, HNL.out, Bool.eq_iff_iff]
     rw [Int.tmod_eq_emod_of_nonneg (by omega)]
     simp; omega
   go_enter Tryz.func134, Tryz.ntmps134
   go_wp2_with fail
   go_returns
   exact ⟨by rw [HR.out]; rfl, (by (skip); repeat' (first | (with_reducible first | exact BlR _ _ | assumption | refine BlA ?_ ?_ _ | refine BlD ?_ | refine BlN ?_ _ | refine BlS ?_ ?_ _ | refine BlT ?_ (BlM (by assumption) ?_)) | omega | (simp only [ZZ]; omega) | go_size))⟩
 · have HR : Hid (dyVal (5 : Int).toNat kk L memo = ((N : Int) == (n : Int))) := by
     show _ = _
     rw [show (5 : Int).toNat = 5 from rfl, dyVal_and (.inr (.inl rfl)), HNL.out, HLL.out, Bool.eq_iff_iff]; simp; omega
   go_enter Tryz.func134, Tryz.ntmps134
   go_wp2_with fail
   go_returns
   exact ⟨by rw [HR.out]; rfl, (by (skip); repeat' (first | (with_reducible first | exact BlR _ _ | assumption | refine BlA ?_ ?_ _ | refine BlD ?_ | refine BlN ?_ _ | refine BlS ?_ ?_ _ | refine BlT ?_ (BlM (by assumption) ?_)) | omega | (simp only [ZZ]; omega) | go_size))⟩
 · by_cases hnl : N = n
   · have HR : Hid (dyVal (6 : Int).toNat kk L memo = (memo == 0)) := by
       show _ = _
       rw [show (6 : Int).toNat = 6 from rfl, dyVal_6, HNL.out, HLL.out, hnl]; simp
     have e3 : ((N : Int) == (n : Int)) = true := by simp [hnl]
     clear hnl
     go_enter Tryz.func134, Tryz.ntmps134
     go_wp2_with fail
     go_returns
     exact ⟨by rw [HR.out]; rfl, (by (skip); repeat' (first | (with_reducible first | exact BlR _ _ | assumption | refine BlA ?_ ?_ _ | refine BlD ?_ | refine BlN ?_ _ | refine BlS ?_ ?_ _ | refine BlT ?_ (BlM (by assumption) ?_)) | omega | (simp only [ZZ]; omega) | go_size))⟩
   · have HR : Hid (dyVal (6 : Int).toNat kk L memo = false) := by
       show _ = _
       rw [show (6 : Int).toNat = 6 from rfl, dyVal_6, HNL.out, HLL.out]; simp [hnl]
     have e3 : ((N : Int) == (n : Int)) = false := by simp; omega
     clear hnl
     go_enter Tryz.func134, Tryz.ntmps134
     go_wp2_with fail
     go_returns
     exact ⟨by rw [HR.out]; rfl, (by (skip); repeat' (first | (with_reducible first | exact BlR _ _ | assumption | refine BlA ?_ ?_ _ | refine BlD ?_ | refine BlN ?_ _ | refine BlS ?_ ?_ _ | refine BlT ?_ (BlM (by assumption) ?_)) | omega | (simp only [ZZ]; omega) | go_size))⟩
 · have HR : Hid (dyVal (7 : Int).toNat kk L memo = ((N : Int) == (n : Int))) := by
     show _ = _
     rw [show (7 : Int).toNat = 7 from rfl, dyVal_and (.inr (.inr rfl)), HNL.out, HLL.out, Bool.eq_iff_iff]; simp; omega
   go_enter Tryz.func134, Tryz.ntmps134
   go_wp2_with fail
   go_returns
   exact ⟨by rw [HR.out]; rfl, (by (skip); repeat' (first | (with_reducible first | exact BlR _ _ | assumption | refine BlA ?_ ?_ _ | refine BlD ?_ | refine BlN ?_ _ | refine BlS ?_ ?_ _ | refine BlT ?_ (BlM (by assumption) ?_)) | omega | (simp only [ZZ]; omega) | go_size))⟩
 · have HR : Hid (dyVal (8 : Int).toNat kk L memo = x0) := by
     show _ = _
     rw [show (8 : Int).toNat = 8 from rfl, dyVal_8, HHD.out]
   go_enter Tryz.func134, Tryz.ntmps134
   go_wp2_with fail
   go_returns
   exact ⟨by rw [HR.out]; rfl, (by (skip); repeat' (first | (with_reducible first | exact BlR _ _ | assumption | refine BlA ?_ ?_ _ | refine BlD ?_ | refine BlN ?_ _ | refine BlS ?_ ?_ _ | refine BlT ?_ (BlM (by assumption) ?_)) | omega | (simp only [ZZ]; omega) | go_size))⟩
theorem rmemory_any (hL : L.length = n) (rv : RdV w Al n (fun j => L.getD j false)) (hcap : n ≤ cl) (h1 : 1 ≤ n) (h16 : n ≤ 16) (hkd : 0 ≤ kd ∧ kd ≤ 8) (hold : kd = 7 → old < n) :
   Calls Tryz.prog 133 #[gv kd kk A1 m c1 s A2 n2 c2 A3 n3 c3, .slice Al n cl, .int .i64 (cnB L : Nat), .int .i64 old] w fun e w' => e = .returned (.int .i64 (dyMem kd.toNat L old)) ∧ Below w.heap.size w w' := by
 obtain ⟨res, hres⟩ : ∃ res, dyMem kd.toNat L old = res := ⟨_, rfl⟩
 rw [hres]
 have HGD : Hid (∀ j (hj : j < n), L.getD j false = L[j]'(by omega)) := fun j hj => by rw [List.getD_eq_getElem?_getD, List.getElem?_eq_getElem (by omega)]; rfl
 have HRV := Lib.hid rv
 have HLL : Hid (L.length = n) := hL
 have q0 : (w.alloc (.cells #[.int .i64 kd, .int .i64 kk, .slice A1 m c1, .bool s, .slice A2 n2 c2, .slice A3 n3 c3] 88)).cell? ⟨w.heap.size, 0, none⟩ = some (.int .i64 kd) := by simp [go_sem]
 have hbA : Below w.heap.size w (w.alloc (.cells #[.int .i64 kd, .int .i64 kk, .slice A1 m c1, .bool s, .slice A2 n2 c2, .slice A3 n3 c3] 88)) := (by (skip); repeat' (first | (with_reducible first | exact BlR _ _ | assumption | refine BlA ?_ ?_ _ | refine BlD ?_ | refine BlN ?_ _ | refine BlS ?_ ?_ _ | refine BlT ?_ (BlM (by assumption) ?_)) | omega | (simp only [ZZ]; omega) | go_size))
 by_cases h6 : kd = 6
 · subst h6
   by_cases hc0 : cnB L = 0
   · have HR : Hid (res = 0) := by show _ = _; rw [← hres, show (6 : Int).toNat = 6 from rfl]; unfold dyMem dyBrk; rw [if_pos rfl, if_pos hc0]
     rw [hc0]
     clear hc0 rv HGD HRV HLL hL hold hres
     go_enter Tryz.func133, Tryz.ntmps133
     go_wp2_with fail
     go_returns
     exact ⟨by rw [HR.out]; rfl, hbA⟩
   · have HR : Hid (res = if gapB L then 1 else old) := by show _ = _; rw [← hres, show (6 : Int).toNat = 6 from rfl]; unfold dyMem dyBrk; rw [if_pos rfl, if_neg hc0]
     clear hres
     obtain ⟨N, hNe⟩ : ∃ N, N = cnB L := ⟨_, rfl⟩
     rw [← hNe] at hc0 ⊢
     have e0 : ((N : Int) == 0) = false := ieq_f (by omega)
     have HT : Hid (∀ i (hi : i < n), gapB (L.take i) = false → L.getD i false = false → gapB (L.take (i + 1)) = false) := fun i hi hg hb => by
       rw [gapB_take (by omega), hg, ← HGD.out i hi, hb]; rfl
     have HT2 : Hid (∀ i (hi : i < n), gapB (L.take i) = false → (∀ j, j < i → L.getD j false = true) → gapB (L.take (i + 1)) = false) := fun i hi hg hb => by
       rw [gapB_take (by omega), hg, cnB_all (by omega) (fun j hj hji => by rw [← HGD.out j (by omega)]; exact hb j hji)]; simp
     have HY : Hid (∀ i j (hi : i < n), j < i → L.getD i false = true → L.getD j false = false → gapB L = true) := fun i j hi hj h1 h2 => by
       have h3 : gapB (L.take (i + 1)) = true := by
         have h4 := cnB_gap (l := L) (k := i) hj (by omega) (by rw [← HGD.out j (by omega)]; exact h2)
         rw [gapB_take (by omega), ← HGD.out i hi, h1]
         simp [h4]
       have := gapB_more (l := L) (k := i + 1) (n := n) (by omega) (by omega) h3
       rwa [← hL, List.take_of_length_le (Nat.le_refl _)] at this
     have HE : Hid (gapB (L.take n) = false → gapB L = false) := fun h => by rwa [← hL, List.take_of_length_le (Nat.le_refl _)] at h
     have HG0 : Hid (gapB (L.take 0) = false) := rfl
     obtain ⟨G, hG⟩ : ∃ G : Nat → Bool, G = fun i => gapB (L.take i) := ⟨_, rfl⟩
     obtain ⟨B, hB⟩ : ∃ B : Nat → Bool, B = fun i => L.getD i false := ⟨_, rfl⟩
     have HT' : Hid (∀ i (hi : i < n), G i = false → B i = false → G (i + 1) = false) := fun i hi => by rw [hG, hB]; exact HT.out i hi
     have HT2' : Hid (∀ i (hi : i < n), G i = false → (∀ j, j < i → B j = true) → G (i + 1) = false) := fun i hi => by rw [hG, hB]; exact HT2.out i hi
     have HY' : Hid (∀ i j (hi : i < n), j < i → B i = true → B j = false → gapB L = true) := fun i j hi => by rw [hB]; exact HY.out i j hi
     have HE' : Hid (G n = false → gapB L = false) := by show _ → _; rw [hG]; exact HE.out
     have HG0' : Hid (G 0 = false) := by show _ = _; rw [hG]; exact HG0.out
     have HRV' : Hid (RdV w Al n B) := by rw [hB]; exact HRV.out
     clear HT HT2 HY HE HG0 hG hB HGD HRV hNe hc0 rv HLL hL hold
     go_enter Tryz.func133, Tryz.ntmps133
     go_wp2_with fail
     generalize w.alloc (.cells #[.int .i64 6, .int .i64 kk, .slice A1 m c1, .bool s, .slice A2 n2 c2, .slice A3 n3 c3] 88) = W at *
     go_loopw [23] (fun iv wr => ∃ i : Nat, i ≤ n ∧ iv = .int .i64 (i : Int) ∧ G i = false ∧ W = wr) (fun iv _ => n - (intOf iv).toNat)
     case atStart => exact ⟨0, Nat.zero_le _, rfl, HG0'.out, rfl⟩
     case round =>
       obtain ⟨i, hi, rfl, hg, rfl⟩ := hrel
       have HG := Lib.hid hg
       clear hg
       by_cases hin : i < n
       · obtain ⟨b0, off0, rfl, hb0, cz⟩ := HRV'.out.later hbA hin
         have HTi := Lib.hid (HT'.out i hin HG.out)
         have HTi2 := Lib.hid (HT2'.out i hin HG.out)
         have HYi := Lib.hid (fun j hj => HY'.out i j hin hj)
         have i0 : (0 : Int) ≤ (i : Int) := by omega
         have i1 : (i : Int) < (n : Int) := by omega
         have i2 : (i : Int) ≤ (cl : Int) := by omega
         generalize hBi : B i = bi at *
         clear hBi HG
         go_wp2_with fail
         go_loopw [32] (fun jv wr => ∃ j : Nat, j ≤ i ∧ jv = .int .i64 (j : Int) ∧ (bi = true → ∀ t, t < j → B t = true) ∧ W = wr) (fun jv _ => i - (intOf jv).toNat)
         case atStart => exact ⟨0, Nat.zero_le _, rfl, fun _ t h => by omega, rfl⟩
         case round =>
           obtain ⟨j, hj, rfl, hall, rfl⟩ := hrel
           have HALL := Lib.hid hall
           clear hall
           by_cases hji : j < i
           · obtain ⟨b1, off1, e1, hb1, cj⟩ := HRV'.out.later hbA (show j < n by omega)
             injection e1 with e1
             injection e1 with e1 e2 _
             subst e1 e2
             have HYj := Lib.hid (HYi.out j hji)
             have HN : Hid (B j = true → bi = true → ∀ t, t < j + 1 → B t = true) := fun hb hh t ht => by
               by_cases e : t = j
               · rw [e]; exact hb
               · exact HALL.out hh t (by omega)
             have HN2 : Hid (bi = false → bi = true → ∀ t, t < j + 1 → B t = true) := fun hb hh => by rw [hb] at hh; cases hh
             have j0 : (0 : Int) ≤ (j : Int) := by omega
             have j1 : (j : Int) < (i : Int) := by omega
             generalize hBj : B j = bj at *
             cases bi
             · have HF := Lib.hid (HN2.out rfl)
               clear HN HN2 HYj HALL hBj
               go_wp2_with fail
               go_roundw
               case rel => exact ⟨j + 1, by omega, by go_num, HF.out, (by first | trivial | rfl)⟩
               case measure => simp [intOf]; omega
             · cases bj
               · have HF := Lib.hid (HYj.out rfl rfl)
                 clear HN HN2 HYj HALL hBj
                 go_wp2_with fail
                 go_returns
                 exact ⟨by rw [HR.out, HF.out]; rfl, hbA⟩
               · have HF := Lib.hid (HN.out rfl rfl)
                 clear HN HN2 HYj HALL hBj
                 go_wp2_with fail
                 go_roundw
                 case rel => exact ⟨j + 1, by omega, by go_num, fun _ => HF.out, (by first | trivial | rfl)⟩
                 case measure => simp [intOf]; omega
           · obtain rfl : j = i := by omega
             have HF : Hid (G (j + 1) = false) := by
               show _ = _
               cases hb : bi
               · exact HTi.out hb
               · exact HTi2.out (HALL.out hb)
             clear HALL HTi HTi2 HYi
             go_wp2_with fail
             go_roundw
             case rel => exact ⟨j + 1, by omega, by go_num, HF.out, (by first | trivial | rfl)⟩
             case measure => simp [intOf]; omega
       · obtain rfl : i = n := by omega
         have HF := Lib.hid (HE'.out HG.out)
         clear HG
         go_wp2_with fail
         go_returns
         exact ⟨by rw [HR.out, HF.out]; rfl, hbA⟩
 · have e6 := ieq_f h6
   by_cases h7 : kd = 7
   · subst h7
     have hold7 := hold rfl
     have HR : Hid (res = dyAct L old) := by show _ = _; rw [← hres]; rfl
     clear hres
     by_cases ho : 0 ≤ old ∧ L.getD old.toNat false = false
     · obtain ⟨o, rfl⟩ : ∃ o : Nat, old = o := ⟨old.toNat, by omega⟩
       simp only [Int.toNat_natCast] at ho
       have hon : o < n := by omega
       have HR2 : Hid (dyAct L (o : Int) = o) := by
         show _ = _
         unfold dyAct
         rw [if_pos]
         refine ⟨by omega, ?_⟩
         rw [Int.toNat_natCast, List.getD_eq_getElem?_getD, List.getElem?_eq_getElem (by omega)]
         rw [← HGD.out o hon, ho.2]; rfl
       obtain ⟨b0, off0, rfl, hb0, cz⟩ := rv.later hbA hon
       rw [ho.2] at cz
       have o0 : (0 : Int) ≤ (o : Int) := by omega
       have o1 : (o : Int) < (n : Int) := by omega
       clear ho HGD HRV HLL rv hL hold h6
       generalize cnB L = N at *
       go_enter Tryz.func133, Tryz.ntmps133
       go_wp2_with fail
       go_returns
       exact ⟨by rw [HR.out, HR2.out]; rfl, hbA⟩
     · have HR2 : Hid (dyAct L old = firF L) := by
         show _ = _
         unfold dyAct
         rw [if_neg]
         rintro ⟨h2, h3⟩
         refine ho ⟨h2, ?_⟩
         rw [List.getD_eq_getElem?_getD, List.getElem?_eq_getElem (by omega)] at h3 ⊢
         exact h3
       have HAT : Hid (∀ k (hk : k < n), (∀ j, j < k → L.getD j false = true) → L.getD k false = false → firF L = k) := fun k hk ha hb => firF_at (l := L) (k := k) (by omega) (fun j hj hjk => by rw [← HGD.out j (by omega)]; exact ha j hjk) (by rw [← HGD.out k hk]; exact hb)
       have HNO : Hid ((∀ j, j < n → L.getD j false = true) → firF L = -1) := fun ha => firF_none fun j hj => by rw [← HGD.out j (by omega)]; exact ha j (by omega)
       have hcase : (old < 0) ∨ ∃ o : Nat, old = o ∧ o < n ∧ L.getD o false = true := by
         by_cases h0 : old < 0
         · exact .inl h0
         · refine .inr ⟨old.toNat, by omega, by omega, ?_⟩
           cases hb : L.getD old.toNat false
           · exact absurd ⟨by omega, hb⟩ ho
           · rfl
       obtain ⟨B, hB⟩ : ∃ B : Nat → Bool, B = fun i => L.getD i false := ⟨_, rfl⟩
       have HAT' : Hid (∀ k (hk : k < n), (∀ j, j < k → B j = true) → B k = false → firF L = k) := fun k hk => by rw [hB]; exact HAT.out k hk
       have HNO' : Hid ((∀ j, j < n → B j = true) → firF L = -1) := by show _ → _; rw [hB]; exact HNO.out
       have hcase' : (old < 0) ∨ ∃ o : Nat, old = o ∧ o < n ∧ B o = true := by rw [hB]; exact hcase
       have HRV' : Hid (RdV w Al n B) := by rw [hB]; exact HRV.out
       clear ho HGD HRV HLL rv hL hold HAT HNO hB hcase h6
       generalize cnB L = N at *
       rcases hcase' with hneg | ⟨o, rfl, hon, hbo⟩
       · have e1 : decide (0 ≤ old) = false := by simp; omega
         go_enter Tryz.func133, Tryz.ntmps133
         go_wp2_with fail
         generalize w.alloc (.cells #[.int .i64 7, .int .i64 kk, .slice A1 m c1, .bool s, .slice A2 n2 c2, .slice A3 n3 c3] 88) = W at *
         go_loopw [58] (fun iv wr => ∃ i : Nat, i ≤ n ∧ iv = .int .i64 (i : Int) ∧ (∀ j, j < i → B j = true) ∧ W = wr) (fun iv _ => n - (intOf iv).toNat)
         case atStart => exact ⟨0, Nat.zero_le _, rfl, fun j h => by omega, rfl⟩
         case round =>
           obtain ⟨i, hi, rfl, hall, rfl⟩ := hrel
           have HALL := Lib.hid hall
           clear hall
           by_cases hin : i < n
           · obtain ⟨b9, off9, e9, hb9, ci⟩ := HRV'.out.later hbA hin
             subst e9
             have HF : Hid (B i = false → firF L = i) := fun hb => HAT'.out i hin HALL.out hb
             have HN : Hid (B i = true → ∀ j, j < i + 1 → B j = true) := fun hb j hj => by
               by_cases e : j = i
               · rw [e]; exact hb
               · exact HALL.out j (by omega)
             have i0 : (0 : Int) ≤ (i : Int) := by omega
             have i1 : (i : Int) < (n : Int) := by omega
             generalize hBi : B i = bi at *
             cases bi
             · have HC := Lib.hid (HF.out rfl)
               clear HF HN HALL hBi
               go_wp2_with fail
               go_returns
               exact ⟨by rw [HR.out, HR2.out, HC.out]; rfl, hbA⟩
             · have HC := Lib.hid (HN.out rfl)
               clear HF HN HALL hBi
               go_wp2_with fail
               go_roundw
               case rel => exact ⟨i + 1, by omega, by go_num, HC.out, (by first | trivial | rfl)⟩
               case measure => simp [intOf]; omega
           · obtain rfl : i = n := by omega
             have HC := Lib.hid (HNO'.out HALL.out)
             clear HALL
             go_wp2_with fail
             go_returns
             exact ⟨by rw [HR.out, HR2.out, HC.out]; rfl, hbA⟩
       · obtain ⟨b0, off0, rfl, hb0, cz⟩ := HRV'.out.later hbA hon
         rw [hbo] at cz
         have o0 : (0 : Int) ≤ (o : Int) := by omega
         have o1 : (o : Int) < (n : Int) := by omega
         clear hbo
         go_enter Tryz.func133, Tryz.ntmps133
         go_wp2_with fail
         generalize w.alloc (.cells #[.int .i64 7, .int .i64 kk, .slice A1 m c1, .bool s, .slice A2 n2 c2, .slice A3 n3 c3] 88) = W at *
         clear cz
         go_loopw [58] (fun iv wr => ∃ i : Nat, i ≤ n ∧ iv = .int .i64 (i : Int) ∧ (∀ j, j < i → B j = true) ∧ W = wr) (fun iv _ => n - (intOf iv).toNat)
         case atStart => exact ⟨0, Nat.zero_le _, rfl, fun j h => by omega, rfl⟩
         case round =>
           obtain ⟨i, hi, rfl, hall, rfl⟩ := hrel
           have HALL := Lib.hid hall
           clear hall
           by_cases hin : i < n
           · obtain ⟨b9, off9, e9, hb9, ci⟩ := HRV'.out.later hbA hin
             injection e9 with e9
             injection e9 with e91 e92 _
             subst e91 e92
             have HF : Hid (B i = false → firF L = i) := fun hb => HAT'.out i hin HALL.out hb
             have HN : Hid (B i = true → ∀ j, j < i + 1 → B j = true) := fun hb j hj => by
               by_cases e : j = i
               · rw [e]; exact hb
               · exact HALL.out j (by omega)
             have i0 : (0 : Int) ≤ (i : Int) := by omega
             have i1 : (i : Int) < (n : Int) := by omega
             generalize hBi : B i = bi at *
             cases bi
             · have HC := Lib.hid (HF.out rfl)
               clear HF HN HALL hBi
               go_wp2_with fail
               go_returns
               exact ⟨by rw [HR.out, HR2.out, HC.out]; rfl, hbA⟩
             · have HC := Lib.hid (HN.out rfl)
               clear HF HN HALL hBi
               go_wp2_with fail
               go_roundw
               case rel => exact ⟨i + 1, by omega, by go_num, HC.out, (by first | trivial | rfl)⟩
               case measure => simp [intOf]; omega
           · obtain rfl : i = n := by omega
             have HC := Lib.hid (HNO'.out HALL.out)
             clear HALL
             go_wp2_with fail
             go_returns
             exact ⟨by rw [HR.out, HR2.out, HC.out]; rfl, hbA⟩
   · have e7 := ieq_f h7
     have HR : Hid (res = 0) := by show _ = _; rw [← hres]; unfold dyMem; rw [if_neg (by omega), if_neg (by omega)]
     clear h6 h7 rv HGD HRV HLL hL hold hres
     generalize cnB L = N at *
     go_enter Tryz.func133, Tryz.ntmps133
     go_wp2_with fail
     go_returns
     exact ⟨by rw [HR.out]; rfl, hbA⟩
end
end Go.Proofs.YtoiopnmphbnjaaaGreatDoor
namespace Go.Proofs.YtoiopnmphbnjaaaGreatDoor
open Go.RowKit
set_option linter.unusedSimpArgs false
set_option linter.unusedVariables false
set_option maxRecDepth 20000
/-! ## reference 48: Values, Top -/
section
variable {w : World} {AG AF AR Am : Option Addr} {cg cf cr cm : Nat} {r : DyR} {F : Nat} {M : List Int}
theorem vaD_gate {d : Dy} {F : Nat} {M : List Int} {k n : Nat} (hk : k < n) (har : ∀ a, a ∈ d.ar k → a < d.v + k) : vaD d F M n (d.v + k) = dyVal (d.kd k) (d.kk k) ((d.ar k).map (vaD d F M n)) (M.getD k 0) := by
 rw [vaD_old (i := k + 1) (by omega) (by omega)]
 show (if d.v + k = d.v + k then _ else _) = _
 rw [if_pos rfl]
 congr 1
 exact List.map_congr_left fun a ha => (vaD_old (Nat.le_of_lt hk) (har a ha)).symm
theorem rvals_any {v : Nat} (h : DyI w AG AF AR r) (ok : DyOk r) (hv : r.v = v) (hF : F < 2 ^ v) (rj : RdJ w Am r.ng (fun i => M.getD i 0)) :
   Calls Tryz.prog 101 #[dyv r AG cg AF cf AR cr, .agg #[.int .i64 (F : Int), .slice Am r.ng cm]] w fun e w' => (∃ A c, e = .returned (.slice A r.ng c) ∧ OwVb w' w.heap.size A c r.ng (fun j => vaD r.dy F M r.ng (v + j))) ∧ Below w.heap.size w w' := by
 have v24 : v ≤ 24 := by have := ok.v2; omega
 have n64 := ok.ng
 have HD : Hid (r.dy.v = v) := by
   show r.v.toNat = v
   rw [hv]; rfl
 obtain ⟨V, hV⟩ : ∃ V, V = vaD r.dy F M r.ng := ⟨_, rfl⟩
 have hbit : ∀ a, a < v → V a = F.testBit a := fun a ha => by rw [hV]; exact vaD_ev (by rw [HD.out]; exact ha)
 have HG : Hid (∀ k, k < r.ng → V (v + k) = dyVal (r.kd k).toNat (r.kk k) (((r.ar k).map Int.toNat).map V) (M.getD k 0)) := fun k hk => by
   have := vaD_gate (d := r.dy) (F := F) (M := M) (n := r.ng) hk (ok.dok.ar k hk)
   rw [HD.out, ← hV] at this
   exact this
 rw [← hV]
 have KT := Lib.hid (fun (W : World) (Av : Option Addr) (cv k : Nat) (hW : Below w.heap.size w W) (hk : k < r.ng) (A1 A2 A3 : Option Addr) (c1 n2 c2 n3 c3 : Nat) (s : Bool) (hr : RdV W Av k (fun j => V (v + j))) (ra : Rds W W.heap.size 1 A1 (r.ar k).length (zsD (r.ar k))) => rtrues_any (AG := AG) (AF := AF) (AR := AR) (cg := cg) (cf := cf) (cr := cr) (cv := cv) (kd := r.kd k) (kk := r.kk k) (s := s) (A2 := A2) (A3 := A3) (c1 := c1) (n2 := n2) (c2 := c2) (n3 := n3) (c3 := c3) hv v24 hF hr hbit (by omega) ra (fun a ha => by have := (ok.gate hk).ix a ha; omega) (dgAg_len (ok.gate hk).ln).2)
 have HOK := Lib.hid ok
 have HH := Lib.hid h
 have HRJ := Lib.hid rj
 unfold dyv at KT ⊢
 rw [hv] at KT ⊢
 clear h ok rj hV hbit hF
 obtain ⟨W0, hW0⟩ : ∃ W0, W0 = ((w.alloc (.cells #[.int .i64 (v : Int), .slice AG r.ng cg, .int .i64 r.top, .slice AF r.nf cf, .slice AR r.nr cr] 25)).alloc (.cells #[.int .i64 (F : Int), .slice Am r.ng cm] 45)) := ⟨_, rfl⟩
 have hb0 : Below w.heap.size w W0 := by rw [hW0]; exact (by (skip); repeat' (first | (with_reducible first | exact BlR _ _ | assumption | refine BlA ?_ ?_ _ | refine BlD ?_ | refine BlN ?_ _ | refine BlS ?_ ?_ _ | refine BlT ?_ (BlM (by assumption) ?_)) | omega | (simp only [ZZ]; omega) | go_size))
 have hz0 : W0.heap.size = w.heap.size + 2 := by rw [hW0]; simp
 have x0 : W0.cell? ⟨w.heap.size, 0, none⟩ = some (.int .i64 (v : Int)) := by rw [hW0]; simp [go_sem]
 have x1 : W0.cell? ⟨w.heap.size, 1, none⟩ = some (.slice AG r.ng cg) := by rw [hW0]; simp [go_sem]
 have x2 : W0.cell? ⟨w.heap.size, 2, none⟩ = some (.int .i64 r.top) := by rw [hW0]; simp [go_sem]
 have x3 : W0.cell? ⟨w.heap.size, 3, none⟩ = some (.slice AF r.nf cf) := by rw [hW0]; simp [go_sem]
 have x4 : W0.cell? ⟨w.heap.size, 4, none⟩ = some (.slice AR r.nr cr) := by rw [hW0]; simp [go_sem]
 have t0 : W0.cell? ⟨w.heap.size + 1, 0, none⟩ = some (.int .i64 (F : Int)) := by rw [hW0]; simp [go_sem]
 have t1 : W0.cell? ⟨w.heap.size + 1, 1, none⟩ = some (.slice Am r.ng cm) := by rw [hW0]; simp [go_sem]
 have HW0 := Lib.hid hW0
 have HB0 := Lib.hid hb0
 clear hW0 hb0
 go_enter Tryz.func101, Tryz.ntmps101
 go_upto_region 2 with fail
 rw [← HW0.out]
 go_wp2_with fail
 go_loopw [5, 13] (fun vs i wr => ∃ (k : Nat) (A : Option Addr) (c : Nat), k ≤ r.ng ∧ vs = .slice A k c ∧ i = .int .i64 (k : Int) ∧ OwVb wr (w.heap.size + 2) A c k (fun j => V (v + j)) ∧ Below (w.heap.size + 2) W0 wr) (fun _ i _ => r.ng - (intOf i).toNat)
 case atStart => exact ⟨0, none, 0, Nat.zero_le _, rfl, rfl, OwVb.nil_ _ _ _, Below.refl _ _⟩
 case round =>
   obtain ⟨k, Av, cv, hk, rfl, rfl, own, hb⟩ := hrel
   obtain ⟨wo, rfl⟩ : ∃ wo : World, wo = wr := ⟨_, rfl⟩
   have hbz := hb.size
   have hbw : Below w.heap.size w wo := HB0.out.trans (hb.mono (by omega))
   by_cases hkn : k < r.ng
   · obtain ⟨b, off, A1, c1, s, A2, n2, c2', A3, n3, c3', rfl, hbb, z0, z1, z2, z3, z4, z5, ra, rs, hlc⟩ := HH.out.at_ hkn
     have y0 := (below_at hbw b _ hbb).trans z0
     have y1 := (below_at hbw b _ hbb).trans z1
     have y2 := (below_at hbw b _ hbb).trans z2
     have y3 := (below_at hbw b _ hbb).trans z3
     have y4 := (below_at hbw b _ hbb).trans z4
     have y5 := (below_at hbw b _ hbb).trans z5
     obtain ⟨bo, offo, rfl, hbo, m0⟩ := HRJ.out.later hbw hkn
     have hgo := HOK.out.gate hkn
     have hln := dgAg_len hgo.ln
     have hkd8 := hgo.hkd
     have HGk := Lib.hid (HG.out k hkn)
     have v0 := (below_at hb w.heap.size 0 (by omega)).trans x0
     have v1 := (below_at hb w.heap.size 1 (by omega)).trans x1
     have v2 := (below_at hb w.heap.size 2 (by omega)).trans x2
     have v3 := (below_at hb w.heap.size 3 (by omega)).trans x3
     have v4 := (below_at hb w.heap.size 4 (by omega)).trans x4
     have u0 := (below_at hb (w.heap.size + 1) 0 (by omega)).trans t0
     have u1 := (below_at hb (w.heap.size + 1) 1 (by omega)).trans t1
     obtain ⟨W, hW⟩ : ∃ W, W = wo.alloc (.cells #[.int .i64 (r.kd k), .int .i64 (r.kk k), .slice A1 (r.ar k).length c1, .bool s, .slice A2 n2 c2', .slice A3 n3 c3'] 88) := ⟨_, rfl⟩
     have hbo2 : Below wo.heap.size wo W := by rw [hW]; exact (Below.refl _ _).alloc (Nat.le_refl _) _
     have hWz : wo.heap.size < W.heap.size := by rw [hW]; simp
     have hbW : Below w.heap.size w W := hbw.trans (hbo2.mono (by omega))
     have KT1 := Lib.hid (KT.out W Av cv k hbW hkn A1 A2 A3 c1 n2 c2' n3 c3' s (own.below hbo2).rd (ra.on hbW hbW.size))
     have q0 : W.cell? ⟨wo.heap.size, 0, none⟩ = some (.int .i64 (r.kd k)) := by rw [hW]; simp [go_sem]
     have q1 : W.cell? ⟨wo.heap.size, 1, none⟩ = some (.int .i64 (r.kk k)) := by rw [hW]; simp [go_sem]
     have q2 : W.cell? ⟨wo.heap.size, 2, none⟩ = some (.slice A1 (r.ar k).length c1) := by rw [hW]; simp [go_sem]
     have q3 : W.cell? ⟨wo.heap.size, 3, none⟩ = some (.bool s) := by rw [hW]; simp [go_sem]
     have q4 : W.cell? ⟨wo.heap.size, 4, none⟩ = some (.slice A2 n2 c2') := by rw [hW]; simp [go_sem]
     have q5 : W.cell? ⟨wo.heap.size, 5, none⟩ = some (.slice A3 n3 c3') := by rw [hW]; simp [go_sem]
     have HDL := Lib.hid (dy_len (r.ar k) V)
     generalize M.getD k 0 = m at *
     generalize r.kd k = kd at *
     generalize r.kk k = kk at *
     generalize ((r.ar k).map Int.toNat).map V = L at *
     generalize (r.ar k).length = ln at *
     have hw0 := (below_at hbo2 w.heap.size 0 (by omega)).trans v0
     have hw1 := (below_at hbo2 w.heap.size 1 (by omega)).trans v1
     have hw2 := (below_at hbo2 w.heap.size 2 (by omega)).trans v2
     have hw3 := (below_at hbo2 w.heap.size 3 (by omega)).trans v3
     have hw4 := (below_at hbo2 w.heap.size 4 (by omega)).trans v4
     have s0 := (below_at hbo2 (w.heap.size + 1) 0 (by omega)).trans u0
     have s1 := (below_at hbo2 (w.heap.size + 1) 1 (by omega)).trans u1
     have m1 : W.cell? ⟨bo, offo + k, none⟩ = some (.int .i64 m) := (hbo2.cell (p := ⟨bo, offo + k, none⟩) (by show bo < _; omega)).trans m0
     have i1 : (0 : Int) ≤ (k : Int) := by omega
     have i2 : (k : Int) < (r.ng : Int) := by omega
     have HW := Lib.hid hW
     have HO := Lib.hid (own.below hbo2)
     have HBW := Lib.hid (hb.trans (hbo2.mono (by omega)))
     clear own hW hb hbw z0 z1 z2 z3 z4 z5 rs ra hgo KT hbo2 hbW m0
     go_upto_region 5 with fail
     rw [← HW.out]
     clear y0 y1 y2 y3 y4 y5 v0 v1 v2 v3 v4 u0 u1
     go_wp2_with fail
     refine KT1.out.mono ?_
     rintro e w2 ⟨⟨A8, c8, rfl, own8⟩, hb2⟩
     have hz2 := hb2.size
     have HO2 := Lib.hid (HO.out.below hb2)
     have HB2 := Lib.hid (HBW.out.trans (hb2.mono (by omega)))
     have own8d := own8.below ((Below.refl w2.heap.size w2).drew)
     obtain ⟨bv, hbv⟩ : ∃ bv, dyVal kd.toNat kk L m = bv := ⟨_, rfl⟩
     have KV := Lib.hid (rvalue_any (w := w2.drew) (kd := kd) (kk := kk) (memo := m) (m := ln) (A1 := A1) (c1 := c1) (s := s) (A2 := A2) (n2 := n2) (c2 := c2') (A3 := A3) (n3 := n3) (c3 := c3') (cl := c8) HDL.out own8d.rd hln.1 hln.2 hkd8)
     rw [hbv] at KV HGk
     have p0 := (below_at hb2 wo.heap.size 0 hWz).trans q0
     have p1 := (below_at hb2 wo.heap.size 1 hWz).trans q1
     have p2 := (below_at hb2 wo.heap.size 2 hWz).trans q2
     have p3 := (below_at hb2 wo.heap.size 3 hWz).trans q3
     have p4 := (below_at hb2 wo.heap.size 4 hWz).trans q4
     have p5 := (below_at hb2 wo.heap.size 5 hWz).trans q5
     have s1' := (below_at hb2 (w.heap.size + 1) 1 (by omega)).trans s1
     have m2 := (below_at hb2 bo _ (by omega)).trans m1
     have HCG : Hid (∀ j, j < k + 1 → (if j = k then bv else V (v + j)) = V (v + j)) := fun j hj => by
       split
       · rename_i e; rw [e, HGk.out]
       · rfl
     clear own8 own8d hb2 hbv q0 q1 q2 q3 q4 q5 hw0 hw1 hw2 hw3 hw4 s0 s1 m1 KT1 HO HBW
     go_upto_region 6 with fail
     go_region_law (first | (refine step_appV rfl (.tmp 27) (.tmp 37) rfl (w.heap.size + 2) Av cv k (fun j => V (v + j)) (by simp [Act.eval]; done) ((HO2.out.below (Below.refl _ _).drew).below (hb5.alloc hb5.size _)) w5.heap.size bv (by simp [Act.eval]; done) (by simp [go_sem]; done) (by omega) (by simp; omega) ?_; intro g6 c6 w6 own6 hg6 hg6z) | (go_simp; (go_at_call 134; (with_reducible refine (KV.out).mono ?_); rintro e w5 ⟨rfl, hb5⟩; have hb5z := Below.size hb5; (try simp only [ZZ] at hb5z); obtain ⟨hb5c0, hb5f0⟩ := bbo hb5 (wo.heap.size) (by first | omega | (simp only [ZZ]; omega)); have hb5l0 : wo.heap.size < (w5).heap.size := (by omega))))
     all_goals
       have hb5' : Below w2.heap.size w2 w5 := (Below.refl _ _).drew.trans hb5
       have hA : Below w5.heap.size w5 (w5.alloc (.cells #[.bool bv] 4)) := (Below.refl _ _).alloc (Nat.le_refl _) _
       have own5 : OwVb (w5.alloc (.cells #[.bool bv] 4)) (w.heap.size + 2) Av cv k (fun j => V (v + j)) := (HO2.out.below hb5').below hA
       have hG : Below (w.heap.size + 2) (w5.alloc (.cells #[.bool bv] 4)) w6 := own5.gr hg6 (by simp; omega)
       have hbF : Below (w.heap.size + 2) W0 w6 := (HB2.out.trans (hb5'.mono (by omega))).trans ((hA.mono (by omega)).trans hG)
       have HN := Lib.hid (own6.congr fun j hj => HCG.out j hj)
       have HBF := Lib.hid hbF
       clear own5 own6 hg6 hA hG hbF
       go_wp2_with fail
       go_roundw
       case rel => exact ⟨k + 1, some ⟨g6, 0, none⟩, c6, by omega, rfl, by go_num, HN.out, HBF.out⟩
       case measure => simp [intOf]; omega
   · obtain rfl : k = r.ng := by omega
     go_wp2_with fail
     go_ret
     exact ⟨⟨_, _, rfl, own.base_ (by omega)⟩, hbw⟩
end
end Go.Proofs.YtoiopnmphbnjaaaGreatDoor
