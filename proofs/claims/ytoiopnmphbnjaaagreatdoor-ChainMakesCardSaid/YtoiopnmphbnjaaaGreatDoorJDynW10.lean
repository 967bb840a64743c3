/- Contracts and lemmas for the given statements. Conditions: those alone that each names. -/
import Derived.Test.YtoiopnmphbnjaaaGreatDoorJDynMk2
import Derived.Laws.ResultCell
import Derived.Deep.RegionLaw
set_option maxHeartbeats 8000000
namespace Go.Proofs.YtoiopnmphbnjaaaGreatDoor
open Go.RowKit
set_option linter.unusedSimpArgs false
set_option linter.unusedVariables false
set_option maxRecDepth 20000
/-! ## package dynamic: Start -/
/-- a state as it is returned, or an error -/
def StRet (code : Int) (b0 : Nat) (n : Nat) (S : DS) (e : Ending) (w' : World) : Prop := if code = 0 then ∃ A c, e = .returned (.tuple #[.agg #[.int .i64 (S.1 : Nat), .slice A n c], .nilIface]) ∧ OwJ w' b0 A c n (fun i => S.2.getD i 0) else e = .returned (.tuple #[.agg #[.int .i64 0, .slice none 0 0], errM code])
theorem run_makeJ (W : World) (n : Nat) (hn : n ≤ 1000000) : ∃ Wm, (Instr.makeSlice 43 (.int .i64 (n : Int)) (.int .i64 (n : Int))).run Tryz.prog W = .ok (.slice (some ⟨W.heap.size, 0, none⟩) n n) Wm ∧ OwJ Wm W.heap.size (some ⟨W.heap.size, 0, none⟩) n n (fun _ => 0) ∧ Below W.heap.size W Wm := by
 obtain ⟨i, hi, hz, hs, hby⟩ := info_parts infoJ
 have hr := run_make (P := Tryz.prog) W 43 3 i (.int .i64 0) Tryz.underlying43 hi hz .i64 .i64 (n : Int) (n : Int) (by omega) (by omega) (by rw [hby]; omega) (by omega)
 simp only [Int.toNat_natCast] at hr
 have h0 := World.ownsRow_lit W (base := W.heap.size) (e := 3) (size := 1) (madeCells (Value.cells (.int .i64 0)) (n * i.size)) n (Nat.le_refl _) (by unfold maxLen; omega) (by rw [hs]; exact size_madeCells _ _)
 have e : (madeCells (Value.cells (.int .i64 0)) (n * i.size)).toList = ivl n (fun _ => 0) := by
   rw [hs, Nat.mul_one]
   show (madeCells #[Value.int .i64 0] n).toList = _
   rw [toList_madeCells_one]
   apply List.ext_getElem (by simp [ivl])
   intro j h1 h2
   simp [ivl]
 rw [e] at h0
 exact ⟨_, hr, h0, (Below.refl _ _).grown (World.grownBy_alloc W _ none) (Nat.le_refl _) (by intro k hk; cases hk)⟩
section
variable {w : World} {AG AF AR : Option Addr} {cg cf cr : Nat} {r : DyR}
theorem dstart_any (h : DyI w AG AF AR r) (hs : DyS r) :
   Calls Tryz.prog 20 #[dyv r AG cg AF cf AR cr] w fun e w' => StRet (codeD r) w.heap.size r.ng (setl r.dy 0 (List.replicate r.ng 0)) e w' ∧ Below w.heap.size w w' := by
 have KC := Lib.hid (fun X (hX : Below w.heap.size w X) => dcheck_any (cg := cg) (cf := cf) (cr := cr) (h.below hX) hs)
 by_cases hc : codeD r = 0
 · have ok := codeD_ok hc
   rw [hc] at KC ⊢
   obtain ⟨v, hv⟩ : ∃ v : Nat, r.v = v := ⟨r.v.toNat, by have := ok.v1; omega⟩
   have n64 := ok.ng
   have KS := Lib.hid (fun X (Am : Option Addr) (cm : Nat) (hX : Below w.heap.size w X) (rj : RdJ X Am r.ng (fun i => (List.replicate r.ng (0 : Int)).getD i 0)) => dsettle_any (w := X) (F := 0) (cg := cg) (cf := cf) (cr := cr) (co := cm) (h.below hX) ok hv (Nat.two_pow_pos v) rj (fun i hi _ => by
     rw [zero_getD]
     have := (dgAg_len (ok.gate hi).ln).1
     omega))
   generalize hS : setl r.dy 0 (List.replicate r.ng 0) = S at *
   unfold dyv at KC KS ⊢
   rw [hv] at KC KS ⊢
   clear hs h ok hc hS
   go_enter Tryz.func20, Tryz.ntmps20
   go_wp2_with fail
   refine (KC.out _ (by (skip); repeat' (first | (with_reducible first | exact BlR _ _ | assumption | refine BlA ?_ ?_ _ | refine BlD ?_ | refine BlN ?_ _ | refine BlS ?_ ?_ _ | refine BlT ?_ (BlM (by assumption) ?_)) | omega | (simp only [ZZ]; omega) | go_size))).mono ?_
   rintro e w1 ⟨rfl, hb1⟩
   unfold errM
   rw [if_pos rfl]
   have hb1z := hb1.size
   simp only [World.size_alloc] at hb1z
   have x0 : w1.cell? ⟨w.heap.size, 0, none⟩ = some (.int .i64 (v : Int)) := (below_at hb1 w.heap.size 0 (by simp; omega)).trans (by simp [go_sem])
   have x1 : w1.cell? ⟨w.heap.size, 1, none⟩ = some (.slice AG r.ng cg) := (below_at hb1 w.heap.size 1 (by simp; omega)).trans (by simp [go_sem])
   have x2 : w1.cell? ⟨w.heap.size, 2, none⟩ = some (.int .i64 r.top) := (below_at hb1 w.heap.size 2 (by simp; omega)).trans (by simp [go_sem])
   have x3 : w1.cell? ⟨w.heap.size, 3, none⟩ = some (.slice AF r.nf cf) := (below_at hb1 w.heap.size 3 (by simp; omega)).trans (by simp [go_sem])
   have x4 : w1.cell? ⟨w.heap.size, 4, none⟩ = some (.slice AR r.nr cr) := (below_at hb1 w.heap.size 4 (by simp; omega)).trans (by simp [go_sem])
   have t0 : w1.cell? ⟨w.heap.size + 1, 0, none⟩ = some (.int .i64 0) := (below_at hb1 (w.heap.size + 1) 0 (by simp)).trans (by simp [go_sem])
   have t1 : w1.cell? ⟨w.heap.size + 1, 1, none⟩ = some (.slice none 0 0) := (below_at hb1 (w.heap.size + 1) 1 (by simp)).trans (by simp [go_sem])
   have d0 : w1.frozen? ⟨w.heap.size + 1, 0, none⟩ = false := (below_fr hb1 (w.heap.size + 1) 0 (by simp)).trans (by simp [go_sem])
   have d1 : w1.frozen? ⟨w.heap.size + 1, 1, none⟩ = false := (below_fr hb1 (w.heap.size + 1) 1 (by simp)).trans (by simp [go_sem])
   have hbA : Below w.heap.size w w1 := (by have z0 := Below.size hb1; (try simp only [ZZ] at z0 ⊢; skip); repeat' (first | (with_reducible first | exact BlR _ _ | assumption | refine BlA ?_ ?_ _ | refine BlD ?_ | refine BlN ?_ _ | refine BlS ?_ ?_ _ | refine BlT ?_ (BlM (by assumption) ?_)) | omega | (simp only [ZZ]; omega) | go_size))
   clear hb1
   go_wp2_with fail
   obtain ⟨Wm, hmk, ownm, hbm⟩ := run_makeJ w1.drew r.ng (by omega)
   have hbm2 : Below w1.heap.size w1 Wm := ((Below.refl _ _).drew).trans hbm
   have hbmz := hbm2.size
   have e0 := fun o => below_at hbm2 w.heap.size o (by omega)
   have e1 := fun o => below_at hbm2 (w.heap.size + 1) o (by omega)
   have e2 := fun o => below_fr hbm2 (w.heap.size + 1) o (by omega)
   have m0 := (e0 0).trans x0
   have m1 := (e0 1).trans x1
   have m2 := (e0 2).trans x2
   have m3 := (e0 3).trans x3
   have m4 := (e0 4).trans x4
   have n0 := (e1 0).trans t0
   have n1 := (e1 1).trans t1
   have o0 := (e2 0).trans d0
   have o1 := (e2 1).trans d1
   have hmz : w.heap.size + 1 < Wm.heap.size := by omega
   have hbX : Below w.heap.size w Wm := hbA.trans (hbm2.mono (by omega))
   have K : Hid (Calls Tryz.prog 63 #[.agg #[.int .i64 (v : Int), .slice AG r.ng cg, .int .i64 r.top, .slice AF r.nf cf, .slice AR r.nr cr], .int .i64 0, .slice (some ⟨w1.heap.size, 0, none⟩) r.ng r.ng] Wm fun e w' => (∃ A1 c1, e = .returned (.agg #[.int .i64 (S.1 : Nat), .slice A1 r.ng c1]) ∧ OwJ w' Wm.heap.size A1 c1 r.ng (fun i => S.2.getD i 0)) ∧ Below Wm.heap.size Wm w') := Lib.hid (KS.out Wm (some ⟨w1.heap.size, 0, none⟩) r.ng hbX (ownm.rd.congr fun j hj => (zero_getD _ _).symm))
   clear KS KC e0 e1 e2 ownm hbm
   go_region_with ((go_at_call 63; (with_reducible refine (K.out).mono ?_); rintro e w5 ⟨⟨A5, c5, rfl, oj5⟩, hb5⟩; have hb5z := Below.size hb5; (try simp only [ZZ] at hb5z); obtain ⟨hb5c0, hb5f0⟩ := bbo hb5 (w.heap.size + 1) (by first | omega | (simp only [ZZ]; omega)); have hb5l0 : w.heap.size + 1 < (w5).heap.size := (by omega)))
   all_goals
     have h0 := (hb5c0 0).trans n0
     have h1 := (hb5c0 1).trans n1
     have hfin : StRet 0 w.heap.size r.ng S (.returned (.tuple #[.agg #[.int .i64 (S.1 : Int), .slice A5 r.ng c5], .nilIface])) ((w5.setCell ⟨w.heap.size + 1, 0, none⟩ (.int .i64 (S.1 : Int))).setCell ⟨w.heap.size + 1, 1, none⟩ (.slice A5 r.ng c5)) := by
       unfold StRet
       rw [if_pos rfl]
       exact ⟨A5, c5, rfl, OwJ.base_ (base := Wm.heap.size) (ofar _ (ofar _ oj5 (by omega)) (by omega)) (by omega)⟩
     have hbF : Below w.heap.size w ((w5.setCell ⟨w.heap.size + 1, 0, none⟩ (.int .i64 (S.1 : Int))).setCell ⟨w.heap.size + 1, 1, none⟩ (.slice A5 r.ng c5)) := (by have z0 := Below.size hbX; have z1 := Below.size hb5; (try simp only [ZZ] at z0 z1 ⊢; skip); repeat' (first | (with_reducible first | exact BlR _ _ | assumption | refine BlA ?_ ?_ _ | refine BlD ?_ | refine BlN ?_ _ | refine BlS ?_ ?_ _ | refine BlT ?_ (BlM (by assumption) ?_)) | omega | (simp only [ZZ]; omega) | go_size))
     have HFIN := Lib.hid hfin
     clear hfin
     go_wp2_with fail
     (try simp only [Exit.inBlock, Exit.then])
     refine bodyPost_ret (v := .tuple #[.agg #[.int .i64 (S.1 : Int), .slice A5 r.ng c5], .nilIface]) ?_ rfl ⟨HFIN.out, hbF⟩
     rw [results_cell_tmp rfl]
     go_simp
 · have HE : Hid (errM (codeD r) = .iface 80 (.int .i64 (codeD r))) := by
     show _ = _
     unfold errM; rw [if_neg hc]
   have HR : Hid (∀ e w', e = .returned (.tuple #[.agg #[.int .i64 0, .slice none 0 0], errM (codeD r)]) → StRet (codeD r) w.heap.size r.ng (setl r.dy 0 (List.replicate r.ng 0)) e w') := fun e w' he => by
     unfold StRet
     rw [if_neg hc]; exact he
   rw [HE.out] at KC HR
   generalize setl r.dy 0 (List.replicate r.ng 0) = S at *
   generalize codeD r = code at *
   clear hc h hs HE
   unfold dyv at KC ⊢
   go_enter Tryz.func20, Tryz.ntmps20
   go_wp2_with fail
   refine (KC.out _ (by (skip); repeat' (first | (with_reducible first | exact BlR _ _ | assumption | refine BlA ?_ ?_ _ | refine BlD ?_ | refine BlN ?_ _ | refine BlS ?_ ?_ _ | refine BlT ?_ (BlM (by assumption) ?_)) | omega | (simp only [ZZ]; omega) | go_size))).mono ?_
   rintro e w1 ⟨rfl, hb1⟩
   have t0 : w1.cell? ⟨w.heap.size + 1, 0, none⟩ = some (.int .i64 0) := (below_at hb1 (w.heap.size + 1) 0 (by simp)).trans (by simp [go_sem])
   have t1 : w1.cell? ⟨w.heap.size + 1, 1, none⟩ = some (.slice none 0 0) := (below_at hb1 (w.heap.size + 1) 1 (by simp)).trans (by simp [go_sem])
   have d0 : w1.frozen? ⟨w.heap.size + 1, 0, none⟩ = false := (below_fr hb1 (w.heap.size + 1) 0 (by simp)).trans (by simp [go_sem])
   have d1 : w1.frozen? ⟨w.heap.size + 1, 1, none⟩ = false := (below_fr hb1 (w.heap.size + 1) 1 (by simp)).trans (by simp [go_sem])
   have hb1z := hb1.size
   simp only [World.size_alloc] at hb1z
   have hbA : Below w.heap.size w w1 := (by have z0 := Below.size hb1; (try simp only [ZZ] at z0 ⊢; skip); repeat' (first | (with_reducible first | exact BlR _ _ | assumption | refine BlA ?_ ?_ _ | refine BlD ?_ | refine BlN ?_ _ | refine BlS ?_ ?_ _ | refine BlT ?_ (BlM (by assumption) ?_)) | omega | (simp only [ZZ]; omega) | go_size))
   go_wp2_with fail
   (try simp only [Exit.inBlock, Exit.then])
   refine bodyPost_ret (v := .tuple #[.agg #[.int .i64 0, .slice none 0 0], .iface 80 (.int .i64 code)]) ?_ rfl ⟨HR.out _ _ rfl, ?_⟩
   · rw [results_cell_tmp rfl]
     go_simp
   · exact (by have z0 := Below.size hbA; (try simp only [ZZ] at z0 ⊢; skip); repeat' (first | (with_reducible first | exact BlR _ _ | assumption | refine BlA ?_ ?_ _ | refine BlD ?_ | refine BlN ?_ _ | refine BlS ?_ ?_ _ | refine BlT ?_ (BlM (by assumption) ?_)) | omega | (simp only [ZZ]; omega) | go_size))
end
end Go.Proofs.YtoiopnmphbnjaaaGreatDoor
namespace Go.Proofs.YtoiopnmphbnjaaaGreatDoor
open Go.RowKit
set_option linter.unusedSimpArgs false
set_option linter.unusedVariables false
set_option maxRecDepth 20000
/-! ## package dynamic: values -/
/-- append at a step of a region that draws its order -/
theorem step_appV {w : World} {ops : Array Oper} {o : Oper} {a : Act} {K : Act → World → Prop} {Q : Exit → Act → World → Prop} {E : Prop} (hgd : o.guard = none) (s x : Operand)
   (ho : o.op = .call { callee := .builtin .append, args := #[s, x], argTypes := #[30, 30] })
   (b0 : Nat) (A : Option Addr) (c n : Nat) (f : Nat → Bool) (hs : a.eval s = .slice A n c) (hown : OwVb w b0 A c n f)
   (B : Nat) (v : Bool) (hx : a.eval x = .slice (some ⟨B, 0, none⟩) 1 1) (hc0 : w.cell? ⟨B, 0, none⟩ = some (.bool v))
   (hn : n ≤ 1000000) (hbase : b0 ≤ w.heap.size)
   (h : ∀ g cap w', OwVb w' b0 (some ⟨g, 0, none⟩) cap (n + 1) (fun j => if j = n then v else f j) → w.grownBy w' (Value.slice A n c).ownBlock → g < w'.heap.size → K (a.put o.dst (.slice (some ⟨g, 0, none⟩) (n + 1) cap)) w') :
   if Region.wanted o (yielded ops a.tmps) = true then Oper.wp Tryz.prog o a w K Q else E := by
 obtain ⟨i0, hi0, hz0, hz1, hz2⟩ := info_parts infoV
 refine step_append_lies _ hgd s x 30 ho b0 4 i0 _ 1 1 Tryz.underlying30 hi0 hz0 hz1 hz2 rfl (by omega) _ n _ hs hown ⟨B, 0, none⟩ 1 1 [.bool v] hx rfl ?_ ?_ (by omega) (by unfold maxLen; omega) (by omega) hbase w.heap.size rfl ?_
 · intro j u hu
   rw [addr_add, Nat.zero_add]
   match j, hu with
   | 0, hu => simp at hu; subst hu; exact hc0
   | j + 1, hu => simp at hu
 · intro u hu
   simp at hu
   subst hu; rfl
 · intro g cap w' h1 h2 h3 h4
   refine h g cap w' ?_ h2 h4
   unfold OwVb
   rw [bvl_succ, bvl_congr (g := f) (fun j hj => by rw [if_neg (by omega)])]
   simpa using h1
section
variable {w : World} {AG AF AR Am : Option Addr} {cg cf cr cm : Nat} {r : DyR} {F : Nat} {M : List Int}
theorem dvalues_ok {v : Nat} (h : DyI w AG AF AR r) (ok : DyOk r) (hv : r.v = v) (st : StOk r F M) (rj : RdJ w Am r.ng (fun i => M.getD i 0)) :
   Calls Tryz.prog 61 #[dyv r AG cg AF cf AR cr, .agg #[.int .i64 (F : Int), .slice Am r.ng cm]] w fun e w' => (∃ g c, e = .returned (.slice (some ⟨g, 0, none⟩) (v + r.ng) c) ∧ OwVb w' w.heap.size (some ⟨g, 0, none⟩) c (v + r.ng) (vaD r.dy F M r.ng)) ∧ Below w.heap.size w w' := by
 have v24 : v ≤ 24 := by have := ok.v2; omega
 have n64 := ok.ng
 have hF : F < 2 ^ v := by have := st.f; rw [hv] at this; simpa using this
 have hp : 2 ^ v ≤ 16777216 := Nat.pow_le_pow_right (n := 2) (by omega) v24
 have HD : Hid (r.dy.v = v) := by
   show r.v.toNat = v
   rw [hv]; rfl
 have HOK := Lib.hid ok
 have KE := Lib.hid (fun W => devents_any (F := F) (w := W) (AG := AG) (AF := AF) (AR := AR) (cg := cg) (cf := cf) (cr := cr) (nf := r.nf) (nr := r.nr) (top := r.top) v24 n64 (by omega))
 unfold dyv
 rw [hv]
 clear ok st
 go_enter Tryz.func61, Tryz.ntmps61
 go_wp2_with fail
 refine (KE.out _).mono ?_
 rintro e w1 ⟨⟨g1, rfl, own1⟩, hb1⟩
 simp only [World.size_alloc] at own1
 have hbA : Below w.heap.size w w1 := (by have z0 := Below.size hb1; (try simp only [ZZ] at z0 ⊢; skip); repeat' (first | (with_reducible first | exact BlR _ _ | assumption | refine BlA ?_ ?_ _ | refine BlD ?_ | refine BlN ?_ _ | refine BlS ?_ ?_ _ | refine BlT ?_ (BlM (by assumption) ?_)) | omega | (simp only [ZZ]; omega) | go_size))
 have hz1 := hb1.size
 simp only [World.size_alloc] at hz1
 have y1 : w1.cell? ⟨w.heap.size, 1, none⟩ = some (.slice AG r.ng cg) := (below_at hb1 w.heap.size 1 (by simp; omega)).trans (by simp [go_sem])
 have u1 : w1.cell? ⟨w.heap.size + 1, 1, none⟩ = some (.slice Am r.ng cm) := (below_at hb1 (w.heap.size + 1) 1 (by simp)).trans (by simp [go_sem])
 clear hb1 KE
 go_wp2_with fail
 go_loopw [5, 15] (fun vs i wr => ∃ (k g2 c2 : Nat), k ≤ r.ng ∧ vs = .slice (some ⟨g2, 0, none⟩) (v + k) c2 ∧ i = .int .i64 k ∧ OwVb wr (w.heap.size + 2) (some ⟨g2, 0, none⟩) c2 (v + k) (vaD r.dy F M k) ∧ Below w.heap.size w wr ∧ w.heap.size + 2 ≤ wr.heap.size ∧ wr.cell? ⟨w.heap.size + 1, 1, none⟩ = some (.slice Am r.ng cm)) (fun _ i _ => r.ng - (intOf i).toNat)
 case atStart => exact ⟨0, g1, v + r.ng, Nat.zero_le _, rfl, rfl, own1.congr fun j _ => rfl, hbA, hz1, u1⟩
 case round =>
   obtain ⟨k, g2, c2, hk, rfl, rfl, own, hb, hz, u1⟩ := hrel
   clear own1 hbA hz1 y1
   obtain ⟨wo, rfl⟩ : ∃ wo : World, wo = wr := ⟨_, rfl⟩
   by_cases hkn : k < r.ng
   · obtain ⟨b, off, A1, c1, s, A2, n2, c2', A3, n3, c3', rfl, hbb, z0, z1, z2, z3, z4, z5, ra, rs, hlc⟩ := h.at_ hkn
     have y0 := (below_at hb b _ hbb).trans z0
     have y1 := (below_at hb b _ hbb).trans z1
     have y2 := (below_at hb b _ hbb).trans z2
     have y3 := (below_at hb b _ hbb).trans z3
     have y4 := (below_at hb b _ hbb).trans z4
     have y5 := (below_at hb b _ hbb).trans z5
     obtain ⟨bo, offo, rfl, hbo, m0⟩ := rj.later hb hkn
     have hgo := HOK.out.gate hkn
     have HST : Hid (∀ j, vaD r.dy F M (k + 1) j = if j = v + k then dyVal (r.kd k).toNat (r.kk k) (((r.ar k).map Int.toNat).map (vaD r.dy F M k)) (M.getD k 0) else vaD r.dy F M k j) := fun j => by
       show (if j = r.dy.v + k then _ else _) = _
       rw [HD.out]; rfl
     generalize M.getD k 0 = m at *
     generalize r.kd k = kd at *
     generalize r.kk k = kk at *
     generalize r.ar k = l at *
     have har : ∀ a, a ∈ l → 0 ≤ a ∧ a < ((v + k : Nat) : Int) := fun a ha => by
       have := hgo.ix a ha
       rw [hv] at this
       omega
     have hln := dgAg_len hgo.ln
     have hkd8 := hgo.hkd
     obtain ⟨bv, hbv⟩ : ∃ bv, dyVal kd.toNat kk ((l.map Int.toNat).map (vaD r.dy F M k)) m = bv := ⟨_, rfl⟩
     rw [hbv] at HST
     clear z0 z1 z2 z3 z4 z5 rs hgo
     obtain ⟨W, hW⟩ : ∃ W, W = wo.alloc (.cells #[.int .i64 kd, .int .i64 kk, .slice A1 l.length c1, .bool s, .slice A2 n2 c2', .slice A3 n3 c3'] 88) := ⟨_, rfl⟩
     have q0 : W.cell? ⟨wo.heap.size, 0, none⟩ = some (.int .i64 kd) := by rw [hW]; simp [go_sem]
     have q1 : W.cell? ⟨wo.heap.size, 1, none⟩ = some (.int .i64 kk) := by rw [hW]; simp [go_sem]
     have q2 : W.cell? ⟨wo.heap.size, 2, none⟩ = some (.slice A1 l.length c1) := by rw [hW]; simp [go_sem]
     have q3 : W.cell? ⟨wo.heap.size, 3, none⟩ = some (.bool s) := by rw [hW]; simp [go_sem]
     have q4 : W.cell? ⟨wo.heap.size, 4, none⟩ = some (.slice A2 n2 c2') := by rw [hW]; simp [go_sem]
     have q5 : W.cell? ⟨wo.heap.size, 5, none⟩ = some (.slice A3 n3 c3') := by rw [hW]; simp [go_sem]
     have hbo2 : Below wo.heap.size wo W := by rw [hW]; exact (Below.refl _ _).alloc (Nat.le_refl _) _
     have hWz : wo.heap.size < W.heap.size := by rw [hW]; simp
     have ownW : OwVb W (w.heap.size + 2) (some ⟨g2, 0, none⟩) c2 (v + k) (vaD r.dy F M k) := own.below hbo2
     have hbW : Below w.heap.size w W := hb.trans (hbo2.mono (by omega))
     have m1 : W.cell? ⟨bo, offo + k, none⟩ = some (.int .i64 m) := (hbo2.cell (p := ⟨bo, offo + k, none⟩) (by show bo < _; omega)).trans m0
     have u2 : W.cell? ⟨w.heap.size + 1, 1, none⟩ = some (.slice (some ⟨bo, offo, none⟩) r.ng cm) := (below_at hbo2 _ 1 (by omega)).trans u1
     have HW := Lib.hid hW
     have i1 : (0 : Int) ≤ (k : Int) := by omega
     have i2 : (k : Int) < (r.ng : Int) := by omega
     have hbd : Below w.heap.size w W.drew := hbW.trans (Below.refl _ _).drew
     have KV := Lib.hid (dvalue_any (w := W.drew) (kd := kd) (kk := kk) (memo := m) (c1 := c1) (s := s) (A2 := A2) (n2 := n2) (c2 := c2') (A3 := A3) (n3 := n3) (c3 := c3') (cv := c2) (ra.on hbd hbd.size) (ownW.below ((Below.refl _ _).drew)).rd har hln.1 hln.2 hkd8)
     rw [hbv] at KV
     clear own hbv hW m0 har ra
     go_wp2_with fail
     rw [← HW.out]
     go_region_law (first | (refine step_appV rfl (.tmp 20) (.tmp 29) rfl (w.heap.size + 2) (some ⟨g2, 0, none⟩) c2 (v + k) (vaD r.dy F M k) (by simp [Act.eval]; done) ((ownW.below (Below.refl _ _).drew).below (hb5.alloc hb5.size _)) w5.heap.size bv (by simp [Act.eval]; done) (by simp [go_sem]; done) (by omega) (by simp; omega) ?_; intro g6 c6 w6 own6 hg6 hg6z) | (go_simp; (go_at_call 106; (with_reducible refine (KV.out).mono ?_); rintro e w5 ⟨rfl, hb5⟩; have hb5z := Below.size hb5; (try simp only [ZZ] at hb5z); obtain ⟨hb5c0, hb5f0⟩ := bbo hb5 (w.heap.size + 1) (by first | omega | (simp only [ZZ]; omega)); have hb5l0 : w.heap.size + 1 < (w5).heap.size := (by omega))))
     all_goals
       have hb5' : Below W.heap.size W w5 := (Below.refl _ _).drew.trans hb5
       have hA : Below w5.heap.size w5 (w5.alloc (.cells #[.bool bv] 4)) := (Below.refl _ _).alloc (Nat.le_refl _) _
       have own5 : OwVb (w5.alloc (.cells #[.bool bv] 4)) (w.heap.size + 2) (some ⟨g2, 0, none⟩) c2 (v + k) (vaD r.dy F M k) := (ownW.below hb5').below hA
       have hG : Below (w.heap.size + 2) (w5.alloc (.cells #[.bool bv] 4)) w6 := own5.gr hg6 (by simp; omega)
       have hbF : Below w.heap.size w w6 := (hbW.trans (hb5'.mono (by omega))).trans ((hA.mono (by omega)).trans (hG.mono (by omega)))
       have hzF : w.heap.size + 2 ≤ w6.heap.size := by have := hG.size; simp at this; omega
       have u6 : w6.cell? ⟨w.heap.size + 1, 1, none⟩ = some (.slice (some ⟨bo, offo, none⟩) r.ng cm) := (below_at hG _ 1 (by omega)).trans ((below_at hA _ 1 (by omega)).trans ((hb5c0 1).trans u2))
       have HN : Hid (OwVb w6 (w.heap.size + 2) (some ⟨g6, 0, none⟩) c6 (v + (k + 1)) (vaD r.dy F M (k + 1))) := own6.congr fun j _ => (HST.out j).symm
       clear own5 own6 hg6 hA hG
       go_wp2_with fail
       go_roundw
       case rel => exact ⟨k + 1, g6, c6, by omega, by first | rfl | (simp; done), by go_num, HN.out, hbF, hzF, u6⟩
       case measure => simp [intOf]; omega
   · obtain rfl : k = r.ng := by omega
     go_wp2_with fail
     go_ret
     exact ⟨⟨_, _, rfl, own.base_ (by omega)⟩, hb⟩
end
end Go.Proofs.YtoiopnmphbnjaaaGreatDoor
