/- Contracts and lemmas for the given statements. Conditions: those alone that each names. -/
import Derived.Test.YtoiopnmphbnjaaaGreatDoorJRdE
import Derived.Deep.RegionLaw
import Derived.Deep.CutRange
namespace Go.Proofs.YtoiopnmphbnjaaaGreatDoor
open Go.RowKit
set_option linter.unusedSimpArgs false
set_option linter.unusedVariables false
set_option maxRecDepth 20000
/-! ## reference 48: Settle -/
theorem ndiff_zero {a b : Nat} : ndiff a b = 0 ↔ b ||| a = b := by
 constructor
 · intro h
   apply Nat.eq_of_testBit_eq
   intro i
   have h1 : (ndiff a b).testBit i = false := by rw [h, Nat.zero_testBit]
   rw [testBit_ndiff] at h1
   rw [Nat.testBit_or]
   cases ha : a.testBit i <;> cases hb : b.testBit i <;> simp_all
 · intro h
   apply Nat.eq_of_testBit_eq
   intro i
   have h1 : (b ||| a).testBit i = b.testBit i := by rw [h]
   rw [Nat.testBit_or] at h1
   rw [testBit_ndiff, Nat.zero_testBit]
   cases ha : a.testBit i <;> cases hb : b.testBit i <;> simp_all
theorem onD_map {d : Dy} {F : Nat} {old : List Int} {k n : Nat} (hk : k ≤ n) (har : ∀ a, a ∈ d.ar k → a < d.v + k) : (d.ar k).map (onD d F old k).1 = (d.ar k).map (onD d F old n).1 := List.map_congr_left fun a ha => (onD_old hk (har a ha)).symm
theorem onD_mm {d : Dy} {F : Nat} {old : List Int} {k n : Nat} (hk : k < n) (har : ∀ a, a ∈ d.ar k → a < d.v + k) : (onD d F old n).2.getD k 0 = dyMem (d.kd k) ((d.ar k).map (onD d F old n).1) (old.getD k 0) := by
 rw [onD_mem hk, onD_map (Nat.le_of_lt hk) har]
theorem onD_vv {d : Dy} {F : Nat} {old : List Int} {k n : Nat} (hk : k < n) (har : ∀ a, a ∈ d.ar k → a < d.v + k) : (onD d F old n).1 (d.v + k) = dyVal (d.kd k) (d.kk k) ((d.ar k).map (onD d F old n).1) ((onD d F old n).2.getD k 0) := by
 rw [onD_mm hk har, onD_old (i := k + 1) (by omega) (by omega)]
 show (if d.v + k = d.v + k then _ else _) = _
 rw [if_pos rfl, onD_map (Nat.le_of_lt hk) har]
theorem gr_cell {w w' : World} {row : Option Nat} (hg : w.grownBy w' row) {b i : Nat} (hb : b < w.heap.size) (hne : some b ≠ row) : w'.cell? ⟨b, i, none⟩ = w.cell? ⟨b, i, none⟩ ∧ w'.frozen? ⟨b, i, none⟩ = w.frozen? ⟨b, i, none⟩ := by
 have h := hg.block b hb hne
 exact ⟨by simp [World.cell?, h], by simp [World.frozen?, h]⟩
theorem yfar9 {w : World} {b o o' : Nat} {v u : Value} (x : w.cell? ⟨b, o', none⟩ = some u) (h : o ≠ o') : (w.setCell ⟨b, o, none⟩ v).cell? ⟨b, o', none⟩ = some u :=
 (World.cell?_setCell_other _ _ _ _ (by intro e; injection e with _ e1; exact h e1)).trans x
/-- append at a step of a region that draws its order -/
theorem step_appJ {w : World} {ops : Array Oper} {o : Oper} {a : Act} {K : Act → World → Prop} {Q : Exit → Act → World → Prop} {E : Prop} (hgd : o.guard = none) (s x : Operand)
   (ho : o.op = .call { callee := .builtin .append, args := #[s, x], argTypes := #[43, 43] })
   (b0 : Nat) (A : Option Addr) (c n : Nat) (f : Nat → Int) (hs : a.eval s = .slice A n c) (hown : OwJ w b0 A c n f)
   (B : Nat) (v : Int) (hx : a.eval x = .slice (some ⟨B, 0, none⟩) 1 1) (hc0 : w.cell? ⟨B, 0, none⟩ = some (.int .i64 v))
   (hn : n ≤ 1000000) (hbase : b0 ≤ w.heap.size)
   (h : ∀ g cap w', OwJ w' b0 (some ⟨g, 0, none⟩) cap (n + 1) (fun j => if j = n then v else f j) → w.grownBy w' (Value.slice A n c).ownBlock → g < w'.heap.size → K (a.put o.dst (.slice (some ⟨g, 0, none⟩) (n + 1) cap)) w') :
   if Region.wanted o (yielded ops a.tmps) = true then Oper.wp Tryz.prog o a w K Q else E := by
 obtain ⟨i0, hi0, hz0, hz1, hz2⟩ := info_parts infoJ
 refine step_append_lies _ hgd s x 43 ho b0 3 i0 _ 1 8 Tryz.underlying43 hi0 hz0 hz1 hz2 rfl (by omega) _ n _ hs hown ⟨B, 0, none⟩ 1 1 [.int .i64 v] hx rfl ?_ ?_ (by omega) (by unfold maxLen; omega) (by omega) hbase w.heap.size rfl ?_
 · intro j u hu
   rw [addr_add, Nat.zero_add]
   match j, hu with
   | 0, hu => simp at hu; subst hu; exact hc0
   | j + 1, hu => simp at hu
 · intro u hu
   simp at hu
   subst hu; rfl
 · intro g cap w' h1 h2 h3 h4
   refine h g cap w' ?_ h2 h4
   unfold OwJ
   rw [ivl_succ, ivl_congr (g := f) (fun j hj => by rw [if_neg (by omega)])]
   simpa using h1
section
variable {w : World} {AG AF AR Ao : Option Addr} {cg cf cr co : Nat} {r : DyR} {M : List Int} {F : Nat}
set_option maxHeartbeats 32000000 in
theorem rsettle_any {v : Nat} (h : DyI w AG AF AR r) (ok : DyOk r) (hv : r.v = v) (hF : F < 2 ^ v) (rj : RdJ w Ao r.ng (fun i => M.getD i 0)) (hM : ∀ i, i < r.ng → r.kd i = 7 → M.getD i 0 < (r.ar i).length) :
   Calls Tryz.prog 90 #[dyv r AG cg AF cf AR cr, .int .i64 (F : Int), .slice Ao r.ng co] w fun e w' => (∃ A1 c1, e = .returned (.agg #[.int .i64 ((setl r.dy F M).1 : Nat), .slice A1 r.ng c1]) ∧ OwJ w' w.heap.size A1 c1 r.ng (fun i => (setl r.dy F M).2.getD i 0)) ∧ Below w.heap.size w w' := by
 have v24 : v ≤ 24 := by have := ok.v2; omega
 have hp : 2 ^ v ≤ 16777216 := Nat.pow_le_pow_right (n := 2) (by omega) v24
 have hp0 : 0 < 2 ^ v := Nat.two_pow_pos v
 have n64 := ok.ng
 have HD : Hid (r.dy.v = v) := by
   show r.v.toNat = v
   rw [hv]; rfl
 have HOK := Lib.hid ok
 have HH := Lib.hid h
 have HRJ := Lib.hid rj
 have HMB := Lib.hid hM
 have KT := Lib.hid (fun (G : Nat) (hG : G < 2 ^ v) (V : Nat → Bool) (hV : V = (onD r.dy G M r.ng).1) (W : World) (Av : Option Addr) (cv k : Nat) (hW : Below w.heap.size w W) (hk : k < r.ng) (A1 A2 A3 : Option Addr) (c1 n2 c2 n3 c3 : Nat) (s : Bool) (hr : RdV W Av k (fun j => V (v + j))) (ra : Rds W W.heap.size 1 A1 (r.ar k).length (zsD (r.ar k))) => rtrues_any (AG := AG) (AF := AF) (AR := AR) (cg := cg) (cf := cf) (cr := cr) (cv := cv) (kd := r.kd k) (kk := r.kk k) (s := s) (A2 := A2) (A3 := A3) (c1 := c1) (n2 := n2) (c2 := c2) (n3 := n3) (c3 := c3) hv v24 hG hr (fun a ha => by rw [hV]; exact onD_ev (by rw [HD.out]; exact ha)) (by omega) ra (fun a ha => by have := (ok.gate hk).ix a ha; omega) (dgAg_len (ok.gate hk).ln).2)
 unfold dyv at KT ⊢
 rw [hv] at KT ⊢
 clear ok rj hM h
 go_enter Tryz.func90, Tryz.ntmps90
 go_wp2_with fail
 obtain ⟨W0, hW0⟩ : ∃ W0, W0 = ((w.alloc (.cells #[.int .i64 (v : Int), .slice AG r.ng cg, .int .i64 r.top, .slice AF r.nf cf, .slice AR r.nr cr] 25)).alloc (.cells #[.int .i64 0, .slice none 0 0] 45)) := ⟨_, rfl⟩
 have hbA : Below w.heap.size w W0 := by rw [hW0]; exact (by (skip); repeat' (first | (with_reducible first | exact BlR _ _ | assumption | refine BlA ?_ ?_ _ | refine BlD ?_ | refine BlN ?_ _ | refine BlS ?_ ?_ _ | refine BlT ?_ (BlM (by assumption) ?_)) | omega | (simp only [ZZ]; omega) | go_size))
 have hzA : W0.heap.size = w.heap.size + 2 := by rw [hW0]; simp
 have x0 : W0.cell? ⟨w.heap.size, 0, none⟩ = some (.int .i64 (v : Int)) := by rw [hW0]; simp [go_sem]
 have x1 : W0.cell? ⟨w.heap.size, 1, none⟩ = some (.slice AG r.ng cg) := by rw [hW0]; simp [go_sem]
 have x2 : W0.cell? ⟨w.heap.size, 2, none⟩ = some (.int .i64 r.top) := by rw [hW0]; simp [go_sem]
 have x3 : W0.cell? ⟨w.heap.size, 3, none⟩ = some (.slice AF r.nf cf) := by rw [hW0]; simp [go_sem]
 have x4 : W0.cell? ⟨w.heap.size, 4, none⟩ = some (.slice AR r.nr cr) := by rw [hW0]; simp [go_sem]
 have c0 : W0.cell? ⟨w.heap.size + 1, 0, none⟩ = some (.int .i64 0) := by rw [hW0]; simp [go_sem]
 have c1 : W0.cell? ⟨w.heap.size + 1, 1, none⟩ = some (.slice none 0 0) := by rw [hW0]; simp [go_sem]
 have d0 : W0.frozen? ⟨w.heap.size + 1, 0, none⟩ = false := by rw [hW0]; simp [go_sem]
 have d1 : W0.frozen? ⟨w.heap.size + 1, 1, none⟩ = false := by rw [hW0]; simp [go_sem]
 rw [← hW0]
 have HBA := Lib.hid hbA
 clear hW0 hbA
 go_loopw [1] (fun fv wr => ∃ G : Nat, fv = .int .i64 G ∧ G < 2 ^ v ∧ setl r.dy G M = setl r.dy F M ∧ Below W0.heap.size W0 wr) (fun fv _ => 2 ^ v - (intOf fv).toNat)
 case atStart => exact ⟨F, rfl, hF, rfl, Below.refl _ _⟩
 case round =>
   obtain ⟨G, rfl, hG, hset, hb⟩ := hrel
   have HS := Lib.hid hset
   clear hset
   obtain ⟨wo, rfl⟩ : ∃ wo : World, wo = wr := ⟨_, rfl⟩
   have hbz := hb.size
   have HB := Lib.hid hb
   obtain ⟨V, hV⟩ : ∃ V, V = (onD r.dy G M r.ng).1 := ⟨_, rfl⟩
   obtain ⟨mm, hmm⟩ : ∃ mm : Nat → Int, mm = fun k => (onD r.dy G M r.ng).2.getD k 0 := ⟨_, rfl⟩
   have HG1 : Hid (∀ k, k < r.ng → mm k = dyMem (r.kd k).toNat (((r.ar k).map Int.toNat).map V) (M.getD k 0) ∧ V (v + k) = dyVal (r.kd k).toNat (r.kk k) (((r.ar k).map Int.toNat).map V) (mm k)) := fun k hk => by
     have h1 := onD_mm (d := r.dy) (F := G) (old := M) (n := r.ng) hk (HOK.out.dok.ar k hk)
     have h2 := onD_vv (d := r.dy) (F := G) (old := M) (n := r.ng) hk (HOK.out.dok.ar k hk)
     rw [HD.out] at h2
     rw [hmm, hV]
     exact ⟨h1, h2⟩
   have HSTK : Hid (∀ k, stk r.dy V (k + 1) = stk r.dy V k ||| (if (r.kd k).toNat = 8 ∧ V (((r.ar k).map Int.toNat).headD 0) = true then mskL ((r.ar k).map Int.toNat).tail else 0)) := fun k => rfl
   have HSL : Hid (∀ k, k ≤ r.ng → stk r.dy V k < 2 ^ v) := fun k hk => by
     have := stk_lt (d := r.dy) HOK.out.dok V k hk
     rwa [HD.out] at this
   have HST0 : Hid (stk r.dy V 0 = 0) := rfl
   have KTG := Lib.hid (KT.out G hG V hV)
   have HFIN : Hid (nxD r.dy M G = G ||| stk r.dy V r.ng) := by
     show G ||| stk r.dy (onD r.dy G M r.dy.ng).1 r.dy.ng = _
     rw [hV]; rfl
   have HMM : Hid (∀ k, (onD r.dy G M r.dy.ng).2.getD k 0 = mm k) := fun k => by rw [hmm]; rfl
   obtain ⟨ST, hST⟩ : ∃ ST : Nat → Nat, ST = stk r.dy V := ⟨_, rfl⟩
   rw [← hST] at HSTK HSL HST0 HFIN
   have y1 := (below_at hb w.heap.size 1 (by omega)).trans x1
   clear hV hmm hST hb
   have hAL : Below wo.heap.size wo (wo.alloc (.cells #[.int .i64 (G : Int), .slice none 0 0] 45)) := (Below.refl _ _).alloc (Nat.le_refl _) _
   have g0 : (wo.alloc (.cells #[.int .i64 (G : Int), .slice none 0 0] 45)).cell? ⟨wo.heap.size, 0, none⟩ = some (.int .i64 (G : Int)) := by simp
   have g1 : (wo.alloc (.cells #[.int .i64 (G : Int), .slice none 0 0] 45)).cell? ⟨wo.heap.size, 1, none⟩ = some (.slice none 0 0) := by simp
   have gf : ∀ i, (wo.alloc (.cells #[.int .i64 (G : Int), .slice none 0 0] 45)).frozen? ⟨wo.heap.size, i, none⟩ = false := fun i => World.frozen?_alloc_at _ _ _ _ (by simp)
   have gty : TyB 45 (wo.alloc (.cells #[.int .i64 (G : Int), .slice none 0 0] 45)) wo.heap.size := TyB.new wo _
   have gz : wo.heap.size < (wo.alloc (.cells #[.int .i64 (G : Int), .slice none 0 0] 45)).heap.size := by simp
   go_upto_region 4 with fail
   generalize wo.alloc (.cells #[.int .i64 (G : Int), .slice none 0 0] 45) = W1 at *
   have z1 := (below_at hAL w.heap.size 1 (by omega)).trans y1
   clear y1
   have HSTART : Hid (W1.cell? ⟨wo.heap.size, 0, none⟩ = some (.int .i64 (G : Int)) ∧ W1.cell? ⟨wo.heap.size, 1, none⟩ = some (.slice none 0 0) ∧ (∀ i, W1.frozen? ⟨wo.heap.size, i, none⟩ = false) ∧ TyB 45 W1 wo.heap.size ∧ Below wo.heap.size wo W1 ∧ wo.heap.size < W1.heap.size) := ⟨g0, g1, gf, gty, hAL, gz⟩
   clear g0 g1 gf gty hAL gz
   go_wp2_with fail
   go_loopw [8, 9, 21] (fun vs sv i wr => ∃ (k S : Nat) (Av : Option Addr) (cv : Nat) (Aj : Option Addr) (cj : Nat), k ≤ r.ng ∧ vs = .slice Av k cv ∧ sv = .int .i64 (S : Int) ∧ i = .int .i64 (k : Int) ∧ S = ST k ∧ OwVb wr (wo.heap.size + 1) Av cv k (fun j => V (v + j)) ∧ OwJ wr (wo.heap.size + 1) Aj cj k mm ∧ wr.cell? ⟨wo.heap.size, 0, none⟩ = some (.int .i64 (G : Int)) ∧ wr.cell? ⟨wo.heap.size, 1, none⟩ = some (.slice Aj k cj) ∧ (∀ i, wr.frozen? ⟨wo.heap.size, i, none⟩ = false) ∧ TyB 45 wr wo.heap.size ∧ Below wo.heap.size wo wr ∧ wo.heap.size < wr.heap.size) (fun _ _ i _ => r.ng - (intOf i).toNat)
   case atStart =>
     obtain ⟨h0, h1, h2, h3, h4, h5⟩ := HSTART.out
     exact ⟨0, 0, none, 0, none, 0, Nat.zero_le _, rfl, rfl, rfl, HST0.out.symm, OwVb.nil_ _ _ _, OwJ.nil_ _ _ _, h0, h1, h2, h3, h4, h5⟩
   case round =>
     clear HSTART z1
     obtain ⟨k, S, Av, cv, Aj, cj, hk, rfl, rfl, rfl, hS, own, oj, g0, g1, gf, gty, hb, gz⟩ := hrel
     obtain ⟨wi, rfl⟩ : ∃ wi : World, wi = wr := ⟨_, rfl⟩
     have hS2 : S < 2 ^ v := by rw [hS]; exact HSL.out k hk
     have hbW0 : Below W0.heap.size W0 wi := HB.out.trans (hb.mono (by omega))
     have hbw : Below w.heap.size w wi := HBA.out.trans (hbW0.mono (by omega))
     have v0 := (below_at hbW0 w.heap.size 0 (by omega)).trans x0
     have v1 := (below_at hbW0 w.heap.size 1 (by omega)).trans x1
     have v2 := (below_at hbW0 w.heap.size 2 (by omega)).trans x2
     have v3 := (below_at hbW0 w.heap.size 3 (by omega)).trans x3
     have v4 := (below_at hbW0 w.heap.size 4 (by omega)).trans x4
     by_cases hkn : k < r.ng
     · obtain ⟨b, off, A1, c1', s, A2, n2, c2', A3, n3, c3', rfl, hbb, z0, z1, z2, z3, z4, z5, ra, rs, hlc⟩ := HH.out.at_ hkn
       have y0 := (below_at hbw b _ hbb).trans z0
       have y1 := (below_at hbw b _ hbb).trans z1
       have y2 := (below_at hbw b _ hbb).trans z2
       have y3 := (below_at hbw b _ hbb).trans z3
       have y4 := (below_at hbw b _ hbb).trans z4
       have y5 := (below_at hbw b _ hbb).trans z5
       obtain ⟨bo, offo, rfl, hbo, m0⟩ := HRJ.out.later hbw hkn
       have hgo := HOK.out.gate hkn
       have hln := dgAg_len hgo.ln
       have hkd8 := hgo.hkd
       have hold := HMB.out k hkn
       obtain ⟨hm1, hv1⟩ := HG1.out k hkn
       have hstk := HSTK.out k
       have hsl1 := HSL.out (k + 1) hkn
       obtain ⟨W, hW⟩ : ∃ W, W = wi.alloc (.cells #[.int .i64 (r.kd k), .int .i64 (r.kk k), .slice A1 (r.ar k).length c1', .bool s, .slice A2 n2 c2', .slice A3 n3 c3'] 88) := ⟨_, rfl⟩
       have hbo2 : Below wi.heap.size wi W := by rw [hW]; exact (Below.refl _ _).alloc (Nat.le_refl _) _
       have hWz : W.heap.size = wi.heap.size + 1 := by rw [hW]; simp
       have hbW : Below w.heap.size w W := hbw.trans (hbo2.mono (by omega))
       have KT1 := Lib.hid (KTG.out W Av cv k hbW hkn A1 A2 A3 c1' n2 c2' n3 c3' s (own.below hbo2).rd (ra.on hbW hbW.size))
       have q0 : W.cell? ⟨wi.heap.size, 0, none⟩ = some (.int .i64 (r.kd k)) := by rw [hW]; simp [go_sem]
       have q1 : W.cell? ⟨wi.heap.size, 1, none⟩ = some (.int .i64 (r.kk k)) := by rw [hW]; simp [go_sem]
       have q2 : W.cell? ⟨wi.heap.size, 2, none⟩ = some (.slice A1 (r.ar k).length c1') := by rw [hW]; simp [go_sem]
       have q3 : W.cell? ⟨wi.heap.size, 3, none⟩ = some (.bool s) := by rw [hW]; simp [go_sem]
       have q4 : W.cell? ⟨wi.heap.size, 4, none⟩ = some (.slice A2 n2 c2') := by rw [hW]; simp [go_sem]
       have q5 : W.cell? ⟨wi.heap.size, 5, none⟩ = some (.slice A3 n3 c3') := by rw [hW]; simp [go_sem]
       have HDL := Lib.hid (dy_len (r.ar k) V)
       have HLE : Hid ((((r.ar k).map Int.toNat).map V).getD 0 false = V (((r.ar k).map Int.toNat).headD 0)) := by
         show _ = _
         cases hh : r.ar k with
         | nil => rw [hh] at hln; simp at hln
         | cons a l => rfl
       have HTY : Hid (r.kd k = 8 → ∀ q (hq : q + 1 < (r.ar k).length), ∃ y : Nat, (r.ar k)[q + 1] = y ∧ y < v ∧ mskL (((r.ar k).map Int.toNat).tail.take (q + 1)) = mskL (((r.ar k).map Int.toNat).tail.take q) ||| 2 ^ y) := fun h8 q hq => by
         have h1 := hgo.ix _ (List.getElem_mem hq)
         have h2 := hgo.ty (q + 1) hq (.inr ⟨h8, by omega⟩)
         rw [List.getD_eq_getElem?_getD, List.getElem?_eq_getElem hq, hv] at h2
         have h3 : (r.ar k)[q + 1] < (v : Int) := h2
         refine ⟨((r.ar k)[q + 1]).toNat, by omega, by omega, ?_⟩
         rw [mskL_take (by simp; omega)]
         simp
       have HTL : Hid (((r.ar k).map Int.toNat).tail.take ((r.ar k).length - 1) = ((r.ar k).map Int.toNat).tail) := List.take_of_length_le (by simp)
       have HTZ : Hid (r.kd k = 8 → ∀ q, mskL (((r.ar k).map Int.toNat).tail.take q) < 2 ^ v) := fun h8 q => mskL_lt fun a ha => by
         have ha' := List.mem_of_mem_take ha
         have h3 := HOK.out.dok.ev k hkn (by show (r.kd k).toNat = 8; omega) a ha'
         rwa [HD.out] at h3
       have HLN2 : Hid (r.kd k = 8 → 2 ≤ (r.ar k).length) := fun h8 => dgAg_two (.inr (.inr h8)) hgo.ln
       have HNE : Hid (some wo.heap.size ≠ (Value.slice Aj k cj).ownBlock) := gty.ne oj (by decide)
       have HNWJ : Hid (some wi.heap.size ≠ (Value.slice Aj k cj).ownBlock) := fun e => by
         have := (World.ownsRow.lt oj _ e.symm).2
         omega
       have HAV : Hid (∀ q, (Value.slice Av k cv).ownBlock = some q → q < wi.heap.size) := fun q hq => (World.ownsRow.lt own q hq).2
       have HVK : Hid (∀ j, j < k + 1 → (if j = k then V (v + k) else V (v + j)) = V (v + j)) := fun j hj => by
         split
         · rename_i e; rw [e]
         · rfl
       have HMK : Hid (∀ j, j < k + 1 → (if j = k then mm k else mm j) = mm j) := fun j hj => by
         split
         · rename_i e; rw [e]
         · rfl
       have HRA := Lib.hid ra
       obtain ⟨mk, hmk⟩ : ∃ mk, mm k = mk := ⟨_, rfl⟩
       obtain ⟨vk, hvk⟩ : ∃ vk, V (v + k) = vk := ⟨_, rfl⟩
       have HMKE : Hid (mm k = mk) := hmk
       rw [hmk] at hm1 hv1 HMK
       rw [hvk] at hv1 HVK
       generalize M.getD k 0 = old at *
       generalize r.kd k = kd at *
       generalize r.kk k = kk at *
       generalize r.ar k = l at *
       generalize (l.map Int.toNat).map V = L at *
       have hw0 := (below_at hbo2 w.heap.size 0 (by omega)).trans v0
       have hw1 := (below_at hbo2 w.heap.size 1 (by omega)).trans v1
       have hw2 := (below_at hbo2 w.heap.size 2 (by omega)).trans v2
       have hw3 := (below_at hbo2 w.heap.size 3 (by omega)).trans v3
       have hw4 := (below_at hbo2 w.heap.size 4 (by omega)).trans v4
       have t0 := (below_at hbo2 wo.heap.size 0 gz).trans g0
       have t1 := (below_at hbo2 wo.heap.size 1 gz).trans g1
       have tf := fun i => (below_fr hbo2 wo.heap.size i gz).trans (gf i)
       have HTB := Lib.hid (gty.below hbo2 gz)
       have m1 : W.cell? ⟨bo, offo + k, none⟩ = some (.int .i64 old) := (hbo2.cell (p := ⟨bo, offo + k, none⟩) (by show bo < _; omega)).trans m0
       have i1 : (0 : Int) ≤ (k : Int) := by omega
       have i2 : (k : Int) < (r.ng : Int) := by omega
       have HW := Lib.hid hW
       have HO := Lib.hid (own.below hbo2)
       have HJ := Lib.hid (oj.below hbo2)
       have HBW := Lib.hid (hb.trans (hbo2.mono (by omega)))
       have HSK := Lib.hid hstk
       have HSS := Lib.hid hS
       have HHM := Lib.hid hm1
       have HHV := Lib.hid hv1
       clear own oj hW hb hbw hbW0 z0 z1 z2 z3 z4 z5 rs ra hgo hbo2 hbW m0 gty hm1 hv1 hstk hS hmk hvk g0 g1 gf
       go_upto_region 7 with fail
       rw [← HW.out]
       clear y0 y1 y2 y3 y4 y5 v0 v1 v2 v3 v4
       go_wp2_with fail
       refine KT1.out.mono ?_
       rintro e w2 ⟨⟨A8, c8, rfl, own8⟩, hb2⟩
       have hz2 := hb2.size
       have cap8 : l.length ≤ c8 := by
         obtain ⟨A', c', e, h2⟩ := own_form own8
         injection e with _ _ e3
         omega
       obtain ⟨g8, rfl, hg8, hg8z⟩ := own8.form (by omega)
       have HO2 := Lib.hid (HO.out.below hb2)
       have HJ2 := Lib.hid (HJ.out.below hb2)
       have HTB2 := Lib.hid (HTB.out.below hb2 (by omega))
       have HB2 := Lib.hid (HBW.out.trans (hb2.mono (by omega)))
       have KMm := Lib.hid (rmemory_any (w := w2.drew) (kd := kd) (kk := kk) (old := old) (m := l.length) (A1 := A1) (c1 := c1') (s := s) (A2 := A2) (n2 := n2) (c2 := c2') (A3 := A3) (n3 := n3) (c3 := c3') (cl := c8) HDL.out (own8.below ((Below.refl _ _).drew)).rd cap8 hln.1 hln.2 hkd8 hold)
       rw [← HHM.out] at KMm
       have p0 := (below_at hb2 wi.heap.size 0 (by omega)).trans q0
       have p1 := (below_at hb2 wi.heap.size 1 (by omega)).trans q1
       have p2 := (below_at hb2 wi.heap.size 2 (by omega)).trans q2
       have p3 := (below_at hb2 wi.heap.size 3 (by omega)).trans q3
       have p4 := (below_at hb2 wi.heap.size 4 (by omega)).trans q4
       have p5 := (below_at hb2 wi.heap.size 5 (by omega)).trans q5
       have u0 := (below_at hb2 wo.heap.size 0 (by omega)).trans t0
       have u1 := (below_at hb2 wo.heap.size 1 (by omega)).trans t1
       have uf := fun i => (below_fr hb2 wo.heap.size i (by omega)).trans (tf i)
       have m2 := (below_at hb2 bo _ (by omega)).trans m1
       have HO8 := Lib.hid own8
       clear own8 hb2 q0 q1 q2 q3 q4 q5 hw0 hw1 hw2 hw3 hw4 t0 t1 tf m1 KT1 HO HJ HBW HTB
       go_upto_region 8 with fail
       have ne1 : ¬ (wo.heap.size = wi.heap.size) := by omega
       have ne2 : ¬ (wi.heap.size = wo.heap.size) := by omega
       go_cut [21] from 21 to 80 (fun kv wx => kv = .int .i64 (k : Int) ∧ ∃ (g6 c6 : Nat), OwVb wx (wo.heap.size + 1) Av cv k (fun j => V (v + j)) ∧ OwJ wx (wo.heap.size + 1) (some ⟨g6, 0, none⟩) c6 (k + 1) mm ∧ wx.cell? ⟨wo.heap.size, 0, none⟩ = some (.int .i64 (G : Int)) ∧ wx.cell? ⟨wo.heap.size, 1, none⟩ = some (.slice (some ⟨g6, 0, none⟩) (k + 1) c6) ∧ (∀ i, wx.frozen? ⟨wo.heap.size, i, none⟩ = false) ∧ TyB 45 wx wo.heap.size ∧ (wx.cell? ⟨wi.heap.size, 0, none⟩ = some (.int .i64 kd) ∧ wx.cell? ⟨wi.heap.size, 1, none⟩ = some (.int .i64 kk) ∧ wx.cell? ⟨wi.heap.size, 2, none⟩ = some (.slice A1 l.length c1') ∧ wx.cell? ⟨wi.heap.size, 3, none⟩ = some (.bool s) ∧ wx.cell? ⟨wi.heap.size, 4, none⟩ = some (.slice A2 n2 c2') ∧ wx.cell? ⟨wi.heap.size, 5, none⟩ = some (.slice A3 n3 c3')) ∧ OwVb wx W.heap.size (some ⟨g8, 0, none⟩) c8 l.length (fun j => L.getD j false) ∧ Below wo.heap.size wo wx ∧ w2.heap.size ≤ wx.heap.size)
       case first =>
         have HNW : Hid (some wi.heap.size ≠ (Value.slice Aj k cj).ownBlock) := HNWJ.out
         go_region_law (first | (refine step_appJ rfl (.tmp 35) (.tmp 44) rfl (wo.heap.size + 1) Aj cj k mm (by simp [Act.eval]; done) ((HJ2.out.below (Below.refl _ _).drew).below (hb5.alloc hb5.size _)) w5.heap.size mk (by simp [Act.eval]; done) (by simp [go_sem]; done) (by omega) (by simp; omega) ?_; intro g6 c6 w6 own6 hg6 hg6z; (have hx0 : w6.cell? ⟨wo.heap.size, 0, none⟩ = some (.int .i64 (G : Int)) := (gr_cell hg6 (by simp; omega) HNE.out).1.trans ((World.cell?_alloc_past _ _ _ (by omega)).trans ((hb5c1 0).trans u0))); (have hx1 : w6.cell? ⟨wo.heap.size, 1, none⟩ = some (.slice Aj k cj) := (gr_cell hg6 (by simp; omega) HNE.out).1.trans ((World.cell?_alloc_past _ _ _ (by omega)).trans ((hb5c1 1).trans u1))); (have hxf : ∀ i, w6.frozen? ⟨wo.heap.size, i, none⟩ = false := fun i => (gr_cell hg6 (by simp; omega) HNE.out).2.trans ((World.frozen?_alloc_past _ _ _ (by omega)).trans ((hb5f1 i).trans (uf i))))) | (go_simp; (go_at_call 133; (with_reducible refine (KMm.out).mono ?_); rintro e w5 ⟨rfl, hb5⟩; have hb5z := Below.size hb5; (try simp only [ZZ] at hb5z); obtain ⟨hb5c0, hb5f0⟩ := bbo hb5 (wi.heap.size) (by first | omega | (simp only [ZZ]; omega)); have hb5l0 : wi.heap.size < (w5).heap.size := (by omega); obtain ⟨hb5c1, hb5f1⟩ := bbo hb5 (wo.heap.size) (by first | omega | (simp only [ZZ]; omega)); have hb5l1 : wo.heap.size < (w5).heap.size := (by omega))))
         all_goals
           have hb5' : Below w2.heap.size w2 w5 := (Below.refl _ _).drew.trans hb5
           have hA : Below w5.heap.size w5 (w5.alloc (.cells #[.int .i64 mk] 3)) := (Below.refl _ _).alloc (Nat.le_refl _) _
           have oj5 : OwJ (w5.alloc (.cells #[.int .i64 mk] 3)) (wo.heap.size + 1) Aj cj k mm := (HJ2.out.below hb5').below hA
           have ov5 : OwVb (w5.alloc (.cells #[.int .i64 mk] 3)) (wo.heap.size + 1) Av cv k (fun j => V (v + j)) := (HO2.out.below hb5').below hA
           have o85 : OwVb (w5.alloc (.cells #[.int .i64 mk] 3)) W.heap.size (some ⟨g8, 0, none⟩) c8 l.length (fun j => L.getD j false) := (HO8.out.below hb5').below hA
           have ov6 := ov5.keepJ hg6 oj5
           have o86 := o85.keepJ hg6 oj5
           have hG : Below (wo.heap.size + 1) (w5.alloc (.cells #[.int .i64 mk] 3)) w6 := oj5.gr hg6 (by simp; omega)
           have ty6 : TyB 45 w6 wo.heap.size := ((HTB2.out.below hb5' (by omega)).below hA (by omega)).below hG (by omega)
           have oj6 := own6.congr fun j hj => HMK.out j hj
           have hz6 := hG.size
           simp only [World.size_alloc] at hz6
           have pp : ∀ o u, w2.cell? ⟨wi.heap.size, o, none⟩ = some u → w6.cell? ⟨wi.heap.size, o, none⟩ = some u := fun o u hu => (gr_cell hg6 (by simp; omega) HNW.out).1.trans ((World.cell?_alloc_past _ _ _ (by omega)).trans ((hb5c0 o).trans hu))
           have r0 := pp 0 _ p0
           have r1 := pp 1 _ p1
           have r2 := pp 2 _ p2
           have r3 := pp 3 _ p3
           have r4 := pp 4 _ p4
           have r5 := pp 5 _ p5
           have hbF : Below wo.heap.size wo w6 := (HB2.out.trans (hb5'.mono (by omega))).trans ((hA.mono (by omega)).trans (hG.mono (by omega)))
           have HALL : Hid (∃ (g6 c6 : Nat), OwVb (w6.setCell ⟨wo.heap.size, 1, none⟩ (.slice (some ⟨g6, 0, none⟩) (k + 1) c6)) (wo.heap.size + 1) Av cv k (fun j => V (v + j))) := ⟨g6, c6, ofar _ ov6 (by omega)⟩
           clear ov5 o85 hA oj5 own6 HALL pp
           go_wp2_with fail
           go_meet
           case rel => exact ⟨rfl, g6, c6, ofar _ ov6 (by omega), ofar _ oj6 (by omega), (yfar9 hx0 (by omega)), World.cell?_setCell_same _ _ _ hx1, fun i => by rw [World.frozen?_setCell]; exact hxf i, ty6.set _ _ _, ⟨yfar (by omega) r0, yfar (by omega) r1, yfar (by omega) r2, yfar (by omega) r3, yfar (by omega) r4, yfar (by omega) r5⟩, ofar _ o86 (by omega), hbF.setCell (Nat.le_refl _) _, by simp; omega⟩
       case rest =>
         obtain ⟨rfl, g6, c6, ov, oj, g0, g1, gf, gty, ⟨q0, q1, q2, q3, q4, q5⟩, o8, hb, hzc⟩ := hcut
         have hzw := hb.size
         have HNEV : Hid (some wo.heap.size ≠ (Value.slice Av k cv).ownBlock) := gty.ne ov (by decide)
         have KV := Lib.hid (rvalue_any (w := wc.drew) (kd := kd) (kk := kk) (memo := mk) (m := l.length) (A1 := A1) (c1 := c1') (s := s) (A2 := A2) (n2 := n2) (c2 := c2') (A3 := A3) (n3 := n3) (c3 := c3') (cl := c8) HDL.out (o8.below ((Below.refl _ _).drew)).rd hln.1 hln.2 hkd8)
         rw [← HHV.out] at KV
         have mj := oj.at_ (Nat.lt_succ_self k)
         rw [HMKE.out] at mj
         have l0 := o8.at_ (show 0 < l.length by omega)
         have hg6z : g6 < wc.heap.size := lt_of_cell mj
         have hg8c : g8 < wc.heap.size := lt_of_cell l0
         have i3 : (k : Int) < ((k + 1 : Nat) : Int) := by omega
         have i4 : (k : Int) < (k : Int) + 1 := by omega
         have i5 : (0 : Int) ≤ (k : Int) ∧ (k : Int) < (k : Int) + 1 := by omega
         have i6 : (k : Int).toNat = k := Int.toNat_natCast k
         have HOV := Lib.hid ov
         have HOJ := Lib.hid oj
         have HGT := Lib.hid gty
         have HBC := Lib.hid hb
         clear ov oj o8 gty hb p0 p1 p2 p3 p4 p5 u0 u1 uf m2 KMm HO2 HJ2 HTB2 HB2 HO8 HHM HHV
         go_upto_region 9 with fail
         go_cut [8, 21] from 21 to 80 (fun vs kv wx => kv = .int .i64 (k : Int) ∧ ∃ (Av' : Option Addr) (cv' : Nat), vs = .slice Av' (k + 1) cv' ∧ OwVb wx (wo.heap.size + 1) Av' cv' (k + 1) (fun j => V (v + j)) ∧ OwJ wx (wo.heap.size + 1) (some ⟨g6, 0, none⟩) c6 (k + 1) mm ∧ wx.cell? ⟨wo.heap.size, 0, none⟩ = some (.int .i64 (G : Int)) ∧ wx.cell? ⟨wo.heap.size, 1, none⟩ = some (.slice (some ⟨g6, 0, none⟩) (k + 1) c6) ∧ (∀ i, wx.frozen? ⟨wo.heap.size, i, none⟩ = false) ∧ TyB 45 wx wo.heap.size ∧ wx.cell? ⟨wi.heap.size, 0, none⟩ = some (.int .i64 kd) ∧ wx.cell? ⟨wi.heap.size, 2, none⟩ = some (.slice A1 l.length c1') ∧ wx.cell? ⟨g8, 0, none⟩ = some (.bool (L.getD 0 false)) ∧ Below wo.heap.size wo wx ∧ wc.heap.size ≤ wx.heap.size)
         case first =>
           go_region_law (first | (refine step_appV rfl (.tmp 47) (.tmp 57) rfl (wo.heap.size + 1) Av cv k (fun j => V (v + j)) (by simp [Act.eval]; done) ((HOV.out.below (Below.refl _ _).drew).below (hb5.alloc hb5.size _)) w5.heap.size vk (by simp [Act.eval]; done) (by simp [go_sem]; done) (by omega) (by simp; omega) ?_; intro g7 c7 w7 own7 hg7 hg7z) | (go_simp; (go_at_call 134; (with_reducible refine (KV.out).mono ?_); rintro e w5 ⟨rfl, hb5⟩; have hb5z := Below.size hb5; (try simp only [ZZ] at hb5z); obtain ⟨hb5c0, hb5f0⟩ := bbo hb5 (wi.heap.size) (by first | omega | (simp only [ZZ]; omega)); have hb5l0 : wi.heap.size < (w5).heap.size := (by omega); obtain ⟨hb5c1, hb5f1⟩ := bbo hb5 (wo.heap.size) (by first | omega | (simp only [ZZ]; omega)); have hb5l1 : wo.heap.size < (w5).heap.size := (by omega); obtain ⟨hb5c2, hb5f2⟩ := bbo hb5 (g8) (by first | omega | (simp only [ZZ]; omega)); have hb5l2 : g8 < (w5).heap.size := (by omega); obtain ⟨hb5c3, hb5f3⟩ := bbo hb5 (g6) (by first | omega | (simp only [ZZ]; omega)); have hb5l3 : g6 < (w5).heap.size := (by omega))))
           all_goals
             have hb5' : Below wc.heap.size wc w5 := (Below.refl _ _).drew.trans hb5
             have hA : Below w5.heap.size w5 (w5.alloc (.cells #[.bool vk] 4)) := (Below.refl _ _).alloc (Nat.le_refl _) _
             have ov5 : OwVb (w5.alloc (.cells #[.bool vk] 4)) (wo.heap.size + 1) Av cv k (fun j => V (v + j)) := (HOV.out.below hb5').below hA
             have oj5 : OwJ (w5.alloc (.cells #[.bool vk] 4)) (wo.heap.size + 1) (some ⟨g6, 0, none⟩) c6 (k + 1) mm := (HOJ.out.below hb5').below hA
             have oj7 := oj5.keepV hg7 ov5
             have hG : Below (wo.heap.size + 1) (w5.alloc (.cells #[.bool vk] 4)) w7 := ov5.gr hg7 (by simp; omega)
             have ty7 : TyB 45 w7 wo.heap.size := ((HGT.out.below hb5' (by omega)).below hA (by omega)).below hG (by omega)
             have ov7 := own7.congr fun j hj => HVK.out j hj
             have hz7 := hG.size
             simp only [World.size_alloc] at hz7
             have far : ∀ bb o u, bb < wc.heap.size → some bb ≠ (Value.slice Av k cv).ownBlock → wc.cell? ⟨bb, o, none⟩ = some u → w7.cell? ⟨bb, o, none⟩ = some u := fun bb o u hbb hne hu => (gr_cell hg7 (by simp; omega) hne).1.trans ((World.cell?_alloc_past _ _ _ (by omega)).trans ((below_at hb5' bb o hbb).trans hu))
             have nA : ∀ bb, wi.heap.size ≤ bb → some bb ≠ (Value.slice Av k cv).ownBlock := fun bb hbb e => by
               have := HAV.out bb e.symm
               omega
             have r0 := far wo.heap.size 0 _ (by omega) HNEV.out g0
             have r1 := far wo.heap.size 1 _ (by omega) HNEV.out g1
             have r2 := far wi.heap.size 0 _ (by omega) (nA _ (by omega)) q0
             have r3 := far wi.heap.size 2 _ (by omega) (nA _ (by omega)) q2
             have r4 := far g8 0 _ hg8c (nA _ (by omega)) l0
             have rf : ∀ i, w7.frozen? ⟨wo.heap.size, i, none⟩ = false := fun i => (gr_cell hg7 (by simp; omega) HNEV.out).2.trans ((World.frozen?_alloc_past _ _ _ (by omega)).trans ((below_fr hb5' wo.heap.size i (by omega)).trans (gf i)))
             have hbF : Below wo.heap.size wo w7 := (HBC.out.trans (hb5'.mono (by omega))).trans ((hA.mono (by omega)).trans (hG.mono (by omega)))
             clear ov5 oj5 hA own7 far nA
             go_wp2_with fail
             go_meet
             case rel => exact ⟨rfl, some ⟨g7, 0, none⟩, c7, rfl, ov7, oj7, r0, r1, rf, ty7, r2, r3, r4, hbF, by omega⟩
         case rest =>
           obtain ⟨rfl, Av', cv', rfl, ov, oj, g0, g1, gf, gty, q0, q2, l0, hb, hzd⟩ := hcut
           have HREL : Hid (OwVb wc (wo.heap.size + 1) Av' cv' (k + 1) (fun j => V (v + j)) ∧ OwJ wc (wo.heap.size + 1) (some ⟨g6, 0, none⟩) c6 (k + 1) mm ∧ wc.cell? ⟨wo.heap.size, 0, none⟩ = some (.int .i64 (G : Int)) ∧ wc.cell? ⟨wo.heap.size, 1, none⟩ = some (.slice (some ⟨g6, 0, none⟩) (k + 1) c6) ∧ (∀ i, wc.frozen? ⟨wo.heap.size, i, none⟩ = false) ∧ TyB 45 wc wo.heap.size ∧ Below wo.heap.size wo wc ∧ wo.heap.size < wc.heap.size) := ⟨ov, oj, g0, g1, gf, gty, hb, by omega⟩
           have hbwc : Below w.heap.size w wc := HBA.out.trans ((HB.out.trans (hb.mono (by omega))).mono (by omega))
           clear ov oj g0 g1 gf gty hb HOV HOJ HGT HBC KV mj HNEV HAV HVK HMK HNE HNWJ HMKE
           by_cases h8 : kd = 8
           · subst h8
             obtain ⟨b1, off1, rfl, hb1, -⟩ := zsD_at HRA.out (Below.refl _ _) (k := 0) (by omega)
             have hlen2 := HLN2.out rfl
             cases hl0 : L.getD 0 false
             · rw [hl0] at l0 HLE
               have HN : Hid (S = ST (k + 1)) := by
                 show _ = _
                 rw [HSK.out, ← HLE.out, ← HSS.out]
                 simp
               clear hl0 HLE HSK HTY HTL HTZ HLN2
               go_wp2_with fail
               go_roundw
               case rel => exact ⟨k + 1, S, Av', cv', some ⟨g6, 0, none⟩, c6, by omega, rfl, rfl, by go_num, HN.out, HREL.out⟩
               case measure => simp [intOf]; omega
             · rw [hl0] at l0 HLE
               obtain ⟨T, hT⟩ : ∃ T, T = (l.map Int.toNat).tail := ⟨_, rfl⟩
               have HN : Hid (ST (k + 1) = S ||| mskL T) := by
                 show _ = _
                 rw [HSK.out, ← HLE.out, ← HSS.out, hT]
                 simp
               have HTY2 := Lib.hid (HTY.out rfl)
               have HTZ2 := Lib.hid (HTZ.out rfl)
               have HTL2 := Lib.hid HTL.out
               rw [← hT] at HTY2 HTZ2 HTL2
               have hg1 : (1 : Int) ≤ (l.length : Int) := by omega
               have hg0 : (0 : Int) < (l.length : Int) := by omega
               have hcc : (l.length : Int) ≤ (c1' : Int) := by omega
               have hcc1 : ¬ c1' = 1 := by omega
               have hcc2 : (1 : Int) ≤ (c1' : Int) := by omega
               have hP0 : (S ||| mskL (T.take 0)) = S := by simp [mskL]
               have HP0 := Lib.hid hP0
               clear hl0 HLE HSK HTY HTL HTZ HLN2 hT hP0
               go_wp2_with fail
               go_loopw [9, 71] (fun nv j w5 => ∃ q : Nat, q + 1 ≤ l.length ∧ nv = .int .i64 ((S ||| mskL (T.take q) : Nat) : Int) ∧ j = .int .i64 (q : Int) ∧ wc = w5) (fun _ j _ => l.length - 1 - (intOf j).toNat)
               case atStart => exact ⟨0, by omega, by rw [HP0.out], rfl, rfl⟩
               case round =>
                 obtain ⟨q, hq, rfl, rfl, rfl⟩ := hrel
                 obtain ⟨P, hP⟩ : ∃ P, S ||| mskL (T.take q) = P := ⟨_, rfl⟩
                 have hP2 : P < 2 ^ v := by rw [← hP]; exact Nat.or_lt_two_pow hS2 (HTZ2.out q)
                 rw [hP]
                 by_cases hql : q + 1 < l.length
                 · obtain ⟨b9, off9, e1', hb9, u0⟩ := zsD_at HRA.out hbwc hql
                   injection e1' with e1'
                   injection e1' with e1' e2' _
                   subst e1' e2'
                   obtain ⟨y, hy, hyv, hmy⟩ := HTY2.out q hql
                   rw [hy] at u0
                   have u1 : wc.cell? ⟨b1, off1 + 1 + q, none⟩ = some (.int .i64 (y : Int)) := by rw [show off1 + 1 + q = off1 + (q + 1) by omega]; exact u0
                   have s1 := yshl (k := y) (by omega)
                   have hy24 := yp24 (k := y) (by omega)
                   have s2 : bits .or .i64 (P : Int) ((2 ^ y : Nat) : Int) = ((P ||| 2 ^ y : Nat) : Int) := i64_or _ _ (by omega) (by omega)
                   have HPN : Hid (S ||| mskL (T.take (q + 1)) = P ||| 2 ^ y) := by
                     show _ = _
                     rw [hmy, ← Nat.or_assoc, hP]
                   clear hmy hy hP
                   have j5 : (q : Int) < ((l.length - 1 : Nat) : Int) := by omega
                   have j6 : (0 : Int) ≤ (y : Int) := by omega
                   have j7 : (0 : Int) ≤ (q : Int) := by omega
                   generalize 2 ^ y = py at *
                   go_wp2_with fail
                   go_roundw
                   case rel => exact ⟨q + 1, by omega, by rw [HPN.out], by go_num, (by first | trivial | rfl)⟩
                   case measure => simp [intOf]; omega
                 · have HPN : Hid (P = ST (k + 1)) := by
                     show _ = _
                     rw [HN.out, ← hP, show q = l.length - 1 by omega, HTL2.out]
                   clear hP
                   have j5 : ¬ (q : Int) < ((l.length - 1 : Nat) : Int) := by omega
                   go_wp2_with fail
                   go_roundw
                   case rel => exact ⟨k + 1, P, Av', cv', some ⟨g6, 0, none⟩, c6, by omega, rfl, rfl, by go_num, HPN.out, HREL.out⟩
                   case measure => simp [intOf]; omega
           · have e8 := ieq_f h8
             have HN : Hid (S = ST (k + 1)) := by
               show _ = _
               rw [HSK.out, ← HSS.out, if_neg (by omega), Nat.or_zero]
             clear HLE HSK HTY HTL HTZ HLN2 h8
             go_wp2_with fail
             go_roundw
             case rel => exact ⟨k + 1, S, Av', cv', some ⟨g6, 0, none⟩, c6, by omega, rfl, rfl, by go_num, HN.out, HREL.out⟩
             case measure => simp [intOf]; omega
     · obtain rfl : k = r.ng := by omega
       have HNX : Hid (nxD r.dy M G = G ||| S) := by show _ = _; rw [HFIN.out, hS]
       have hGN : G ||| S < 2 ^ v := Nat.or_lt_two_pow hG hS2
       have s1 : bits .andNot .i64 (S : Int) (G : Int) = ((ndiff S G : Nat) : Int) := i64_andNot _ _ (by omega) (by omega)
       have s2 : bits .or .i64 (G : Int) (S : Int) = ((G ||| S : Nat) : Int) := i64_or _ _ (by omega) (by omega)
       by_cases e : G ||| S = G
       · have hz : ndiff S G = 0 := ndiff_zero.2 e
         rw [hz] at s1
         have HR := Lib.hid (setl_stop (HNX.out.trans e))
         have k0 := (below_at hbW0 (w.heap.size + 1) 0 (by omega)).trans c0
         have k1 := (below_at hbW0 (w.heap.size + 1) 1 (by omega)).trans c1
         have f0 := (below_fr hbW0 (w.heap.size + 1) 0 (by omega)).trans d0
         have f1 := (below_fr hbW0 (w.heap.size + 1) 1 (by omega)).trans d1
         have hfin : (∃ B1 d1, Ending.returned (.agg #[.int .i64 (G : Int), .slice Aj r.ng cj]) = Ending.returned (.agg #[.int .i64 ((setl r.dy F M).1 : Nat), .slice B1 r.ng d1]) ∧ OwJ ((wi.setCell ⟨w.heap.size + 1, 0, none⟩ (.int .i64 (G : Int))).setCell ⟨w.heap.size + 1, 1, none⟩ (.slice Aj r.ng cj)) w.heap.size B1 d1 r.ng (fun i => (setl r.dy F M).2.getD i 0)) := by
           refine ⟨Aj, cj, by rw [← HS.out, HR.out], ?_⟩
           rw [← HS.out, HR.out]
           exact (OwJ.base_ (base := wo.heap.size + 1) (ofar _ (ofar _ oj (by omega)) (by omega)) (by omega)).congr fun i _ => (HMM.out i).symm
         have HFN := Lib.hid hfin
         have hbF : Below w.heap.size w ((wi.setCell ⟨w.heap.size + 1, 0, none⟩ (.int .i64 (G : Int))).setCell ⟨w.heap.size + 1, 1, none⟩ (.slice Aj r.ng cj)) := (by have z0 := Below.size hbw; (try simp only [ZZ] at z0 ⊢; skip); repeat' (first | (with_reducible first | exact BlR _ _ | assumption | refine BlA ?_ ?_ _ | refine BlD ?_ | refine BlN ?_ _ | refine BlS ?_ ?_ _ | refine BlT ?_ (BlM (by assumption) ?_)) | omega | (simp only [ZZ]; omega) | go_size))
         have ne1 : ¬ (w.heap.size + 1 = wo.heap.size) := by omega
         have ne2 : ¬ (wo.heap.size = w.heap.size + 1) := by omega
         clear hfin hS own oj hz
         go_wp2_with fail
         (try simp only [Exit.inBlock, Exit.then])
         refine bodyPost_ret (v := .agg #[.int .i64 (G : Int), .slice Aj r.ng cj]) ?_ rfl ⟨HFN.out, hbF⟩
         rw [results_cell1 rfl]
         go_simp
       · have hz : ndiff S G ≠ 0 := fun hh => e (ndiff_zero.1 hh)
         have e9 := ieq_f (a := ((ndiff S G : Nat) : Int)) (b := 0) (by omega)
         have HR := Lib.hid ((setl_step HOK.out.dok (by rw [HD.out]; exact hG) (fun h => e (HNX.out.symm.trans h))).symm.trans HS.out)
         rw [HNX.out] at HR
         have hGle : G ≤ G ||| S := Nat.left_le_or
         have HBW := Lib.hid hbW0
         generalize hN : G ||| S = N at *
         clear hN hS own oj hz hbW0 hbw hb
         go_wp2_with fail
         go_roundw
         case rel => exact ⟨N, rfl, hGN, HR.out, HBW.out⟩
         case measure => simp [intOf]; omega
end
end Go.Proofs.YtoiopnmphbnjaaaGreatDoor
