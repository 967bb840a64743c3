/- Contracts and lemmas for the given statements. Conditions: those alone that each names. -/
import Derived.Test.YtoiopnmphbnjaaaGreatDoorJDynW1
import Derived.Deep.CutRange
import Derived.RangeFuncBox
set_option maxHeartbeats 8000000
namespace Go.Proofs.YtoiopnmphbnjaaaGreatDoor
open Go.RowKit
set_option linter.unusedSimpArgs false
set_option linter.unusedVariables false
set_option maxRecDepth 20000
/-! ## package dynamic: once -/
theorem getD_snoc {l : List Int} {k : Nat} (hl : l.length = k) (x : Int) (j : Nat) (hj : j < k + 1) : (l ++ [x]).getD j 0 = if j = k then x else l.getD j 0 := by
 by_cases e : j = k
 · subst e
   rw [if_pos rfl, List.getD_eq_getElem?_getD, List.getElem?_append_right (by omega), hl]
   simp
 · rw [if_neg e, List.getD_eq_getElem?_getD, List.getD_eq_getElem?_getD, List.getElem?_append_left (by omega)]
section
variable {w : World} {AG AF AR Ao : Option Addr} {cg cf cr co : Nat} {r : DyR} {M : List Int} {F : Nat}
theorem donce_any {v : Nat} (h : DyI w AG AF AR r) (ok : DyOk r) (hv : r.v = v) (hF : F < 16777216) (rj : RdJ w Ao r.ng (fun i => M.getD i 0)) (hM : ∀ i, i < r.ng → r.kd i = 7 → M.getD i 0 < (r.ar i).length) :
   Calls Tryz.prog 108 #[dyv r AG cg AF cf AR cr, .int .i64 (F : Int), .slice Ao r.ng co] w fun e w' => (∃ A1 c1 g2 c2, e = .returned (.tuple #[.slice A1 r.ng c1, .slice (some ⟨g2, 0, none⟩) (v + r.ng) c2]) ∧ OwJ w' w.heap.size A1 c1 r.ng (fun i => (onD r.dy F M r.ng).2.getD i 0) ∧ OwVb w' w.heap.size (some ⟨g2, 0, none⟩) c2 (v + r.ng) (onD r.dy F M r.ng).1) ∧ Below w.heap.size w w' := by
 have v24 : v ≤ 24 := by have := ok.v2; omega
 have n64 := ok.ng
 have HD : Hid (r.dy.v = v) := by
   show r.v.toNat = v
   rw [hv]; rfl
 have HOK := Lib.hid ok
 have KE := Lib.hid (fun W => devents_any (w := W) (AG := AG) (AF := AF) (AR := AR) (cg := cg) (cf := cf) (cr := cr) (nf := r.nf) (nr := r.nr) (top := r.top) v24 n64 hF)
 unfold dyv
 rw [hv]
 clear ok
 go_enter Tryz.func108, Tryz.ntmps108
 go_wp2_with fail
 refine (KE.out _).mono ?_
 rintro e w1 ⟨⟨g1, rfl, own1⟩, hb1⟩
 simp only [World.size_alloc] at own1
 have hbA : Below w.heap.size w w1 := (by have z0 := Below.size hb1; (try simp only [ZZ] at z0 ⊢; skip); repeat' (first | (with_reducible first | exact BlR _ _ | assumption | refine BlA ?_ ?_ _ | refine BlD ?_ | refine BlN ?_ _ | refine BlS ?_ ?_ _ | refine BlT ?_ (BlM (by assumption) ?_)) | omega | (simp only [ZZ]; omega) | go_size))
 have hz1 := hb1.size
 simp only [World.size_alloc] at hz1
 have y1 : w1.cell? ⟨w.heap.size, 1, none⟩ = some (.slice AG r.ng cg) := (below_at hb1 w.heap.size 1 (by simp)).trans (by simp [go_sem])
 clear hb1 KE
 go_wp2_with fail
 go_loopw [8, 9, 19] (fun vs ms i wr => ∃ (k : Nat) (Aj : Option Addr) (cj g2 c2 : Nat), k ≤ r.ng ∧ vs = .slice (some ⟨g2, 0, none⟩) (v + k) c2 ∧ ms = .slice Aj k cj ∧ i = .int .i64 k ∧ OwVb wr (w.heap.size + 1) (some ⟨g2, 0, none⟩) c2 (v + k) (onD r.dy F M k).1 ∧ OwJ wr (w.heap.size + 1) Aj cj k (fun i => (onD r.dy F M k).2.getD i 0) ∧ Below w.heap.size w wr ∧ w.heap.size + 1 ≤ wr.heap.size) (fun _ _ i _ => r.ng - (intOf i).toNat)
 case atStart => exact ⟨0, none, 0, g1, v + r.ng, Nat.zero_le _, rfl, rfl, rfl, own1.congr fun j _ => rfl, OwJ.nil_ _ _ _, hbA, hz1⟩
 case round =>
   obtain ⟨k, Aj, cj, g2, c2, hk, rfl, rfl, rfl, own, oj, hb, hz⟩ := hrel
   clear own1 hbA hz1 y1
   obtain ⟨wo, rfl⟩ : ∃ wo : World, wo = wr := ⟨_, rfl⟩
   by_cases hkn : k < r.ng
   · obtain ⟨b, off, A1, c1, s, A2, n2, c2', A3, n3, c3', rfl, hbb, z0, z1, z2, z3, z4, z5, ra, rs, hlc⟩ := h.at_ hkn
     have y0 := (below_at hb b _ hbb).trans z0
     have y1 := (below_at hb b _ hbb).trans z1
     have y2 := (below_at hb b _ hbb).trans z2
     have y3 := (below_at hb b _ hbb).trans z3
     have y4 := (below_at hb b _ hbb).trans z4
     have y5 := (below_at hb b _ hbb).trans z5
     obtain ⟨kd, hkd⟩ : ∃ kd, r.kd k = kd := ⟨_, rfl⟩
     obtain ⟨kk, hkk⟩ : ∃ kk, r.kk k = kk := ⟨_, rfl⟩
     obtain ⟨l, hl⟩ : ∃ l, r.ar k = l := ⟨_, rfl⟩
     obtain ⟨bo, offo, rfl, hbo, m0⟩ := rj.later hb hkn
     have hgo := HOK.out.gate hkn
     have hMk := hM k hkn
     rw [hkd] at y0
     rw [hkk] at y1
     rw [hl] at y2 ra
     rw [hkd, hkk, hl] at hgo
     rw [hkd, hl] at hMk
     obtain ⟨old, hold⟩ : ∃ old, M.getD k 0 = old := ⟨_, rfl⟩
     rw [hold] at m0 hMk
     obtain ⟨L, hL⟩ : ∃ L, (l.map Int.toNat).map (onD r.dy F M k).1 = L := ⟨_, rfl⟩
     obtain ⟨m, hm⟩ : ∃ m, dyMem kd.toNat L old = m := ⟨_, rfl⟩
     obtain ⟨bv, hbv⟩ : ∃ bv, dyVal kd.toNat kk L m = bv := ⟨_, rfl⟩
     have HV1 : Hid (∀ j, (onD r.dy F M (k + 1)).1 j = if j = v + k then bv else (onD r.dy F M k).1 j) := fun j => by
       subst hbv hm hL hold hkd hkk hl
       show (if j = r.dy.v + k then _ else _) = _
       rw [HD.out]; rfl
     have HM1 : Hid (∀ j, j < k + 1 → (onD r.dy F M (k + 1)).2.getD j 0 = if j = k then m else (onD r.dy F M k).2.getD j 0) := fun j hj => by
       subst hm hL hold hkd hkk hl
       exact getD_snoc (onD_len _ _ _ _) _ j hj
     have HV : Hid (dyVal kd.toNat kk ((l.map Int.toNat).map (onD r.dy F M k).1) m = bv) := by show _ = _; rw [hL]; exact hbv
     have har : ∀ a, a ∈ l → 0 ≤ a ∧ a < ((v + k : Nat) : Int) := fun a ha => by
       have := hgo.ix a ha
       rw [hv] at this
       omega
     have hln := dgAg_len hgo.ln
     have hkd8 := hgo.hkd
     have hgo := And.intro hln.1 (And.intro hln.2 hkd8)
     have HJB : Hid (∀ q, (Value.slice Aj k cj).ownBlock = some q → q < wo.heap.size) := fun q hq => (World.ownsRow.lt oj q hq).2
     obtain ⟨W, hW⟩ : ∃ W, W = wo.alloc (.cells #[.int .i64 kd, .int .i64 kk, .slice A1 l.length c1, .bool s, .slice A2 n2 c2', .slice A3 n3 c3'] 88) := ⟨_, rfl⟩
     have q0 : W.cell? ⟨wo.heap.size, 0, none⟩ = some (.int .i64 kd) := by rw [hW]; simp [go_sem]
     have q1 : W.cell? ⟨wo.heap.size, 1, none⟩ = some (.int .i64 kk) := by rw [hW]; simp [go_sem]
     have q2 : W.cell? ⟨wo.heap.size, 2, none⟩ = some (.slice A1 l.length c1) := by rw [hW]; simp [go_sem]
     have q3 : W.cell? ⟨wo.heap.size, 3, none⟩ = some (.bool s) := by rw [hW]; simp [go_sem]
     have q4 : W.cell? ⟨wo.heap.size, 4, none⟩ = some (.slice A2 n2 c2') := by rw [hW]; simp [go_sem]
     have q5 : W.cell? ⟨wo.heap.size, 5, none⟩ = some (.slice A3 n3 c3') := by rw [hW]; simp [go_sem]
     have hbo2 : Below wo.heap.size wo W := by rw [hW]; exact (Below.refl _ _).alloc (Nat.le_refl _) _
     have hWz : wo.heap.size < W.heap.size := by rw [hW]; simp
     have ownW := own.below hbo2
     have ojW := oj.below hbo2
     have hbW : Below w.heap.size w W := hb.trans (hbo2.mono (by omega))
     have m1 : W.cell? ⟨bo, offo + k, none⟩ = some (.int .i64 old) := (hbo2.cell (p := ⟨bo, offo + k, none⟩) (by show bo < _; omega)).trans m0
     have HW := Lib.hid hW
     have i1 : (0 : Int) ≤ (k : Int) := by omega
     have i2 : (k : Int) < (r.ng : Int) := by omega
     have HL : Hid ((l.map Int.toNat).map (onD r.dy F M k).1 = L) := hL
     have HM : Hid (dyMem kd.toNat L old = m) := hm
     clear hm hbv z0 z1 z2 z3 z4 z5 own oj hL hkd hkk hl hold hln hkd8 hbo2 m0 hW h rj hM
     rcases (show kd = 6 ∨ kd = 7 ∨ (kd ≠ 6 ∧ kd ≠ 7) by omega) with e6 | e7 | ⟨e6, e7⟩
     · subst e6
       have K := Lib.hid (fun X (hX : Below W.heap.size W X) => dbroken_any (w := X) (kd := 6) (kk := kk) (old := old) (c1 := c1) (s := s) (A2 := A2) (n2 := n2) (c2 := c2') (A3 := A3) (n3 := n3) (c3 := c3') (cv := c2) (V := (onD r.dy F M k).1) (ra.on (hbW.trans (hX.mono hbW.size)) (hbW.trans (hX.mono hbW.size)).size) (ownW.rd.below hX) har hgo.2.1)
       have HMM : Hid (dyBrk ((l.map Int.toNat).map (onD r.dy F M k).1) old = m) := by
         show _ = _
         rw [HL.out]
         exact HM.out
       rw [HMM.out] at K
       have f0 := fun y : Sub W => y.cell q0
       have f1 := fun y : Sub W => y.cell q1
       have f2 := fun y : Sub W => y.cell q2
       have f3 := fun y : Sub W => y.cell q3
       have f4 := fun y : Sub W => y.cell q4
       have f5 := fun y : Sub W => y.cell q5
       have f6 := fun y : Sub W => y.cell m1
       clear HMM hMk HM
       go_wp2
       rw [← HW.out]
       ((refine wp_region_quiet_bel (by kernel_rfl) (by kernel_rfl) ?_); (repeat (go_big_quiet_step ((go_at_call 142; with_reducible exact Calls.quiet_bel (K.out _ (Sub.bel _)))))); (refine wpQuiet_nil ?_); rintro w3 ⟨⟨_, hb3⟩, rfl⟩; (try dsimp only))
       clear f0 f1 f2 f3 f4 f5 f6 K m1 y0 y1 y2 y3 y4 y5
       have hb3z := hb3.size
       have own3 := ownW.below hb3
       have oj3 := ojW.below hb3
       have q0' : w3.cell? ⟨wo.heap.size, 0, none⟩ = _ := (below_at hb3 wo.heap.size 0 hWz).trans q0
       have q1' : w3.cell? ⟨wo.heap.size, 1, none⟩ = _ := (below_at hb3 wo.heap.size 1 hWz).trans q1
       have q2' : w3.cell? ⟨wo.heap.size, 2, none⟩ = _ := (below_at hb3 wo.heap.size 2 hWz).trans q2
       have q3' : w3.cell? ⟨wo.heap.size, 3, none⟩ = _ := (below_at hb3 wo.heap.size 3 hWz).trans q3
       have q4' : w3.cell? ⟨wo.heap.size, 4, none⟩ = _ := (below_at hb3 wo.heap.size 4 hWz).trans q4
       have q5' : w3.cell? ⟨wo.heap.size, 5, none⟩ = _ := (below_at hb3 wo.heap.size 5 hWz).trans q5
       have hbW3 : Below w.heap.size w w3 := hbW.trans (hb3.mono (by omega))
       have hz3 : wo.heap.size < w3.heap.size := by omega
       clear q0 q1 q2 q3 q4 q5 ownW ojW
       go_wp2_with (first | (at_builtin; refine wpList_appJg rfl (.tmp 44) (.tmp 46) rfl (w.heap.size + 1) Aj cj k (fun i => (onD r.dy F M k).2.getD i 0) (by simp [Act.eval]) (oj3.below ((Below.refl _ _).alloc (Nat.le_refl _) _)) w3.heap.size m rfl (by simp [go_sem]) (by omega) (by simp; omega) ?_; intro g4 c4 w4 oj4 hg4 hg4z; have hA : w3.grownBy (w3.alloc (.cells #[.int .i64 m] 3)) none := World.grownBy_alloc _ _ _; have far4 : ∀ o u, w3.cell? ⟨wo.heap.size, o, none⟩ = some u → w4.cell? ⟨wo.heap.size, o, none⟩ = some u := (fun o u hu => hg4.cell (hA.cell hu (by simp)) (fun e => Nat.lt_irrefl _ (HJB.out _ e.symm))); have x0 := far4 0 _ q0'; have x1 := far4 1 _ q1'; have x2 := far4 2 _ q2'; have x3 := far4 3 _ q3'; have x4 := far4 4 _ q4'; have x5 := far4 5 _ q5') | fail)
       have hz4 : wo.heap.size < w4.heap.size := by have := hg4.size; simp at this; omega
       have own4 : OwVb w4 (w.heap.size + 1) (some ⟨g2, 0, none⟩) c2 (v + k) (onD r.dy F M k).1 := (own3.below ((Below.refl _ _).alloc (Nat.le_refl _) _)).keepJ hg4 (oj3.below ((Below.refl _ _).alloc (Nat.le_refl _) _))
       have hbW4 : Below w.heap.size w w4 := hbW3.trans (((Below.refl _ w3).alloc (by omega) _).trans ((((oj3.below ((Below.refl _ _).alloc (Nat.le_refl _) _)).gr hg4 (by simp; omega)).mono (by omega))))
       have KV := Lib.hid (dvalue_any (w := w4) (kd := 6) (kk := kk) (memo := m) (c1 := c1) (s := s) (A2 := A2) (n2 := n2) (c2 := c2') (A3 := A3) (n3 := n3) (c3 := c3') (cv := c2) (ra.on hbW4 hbW4.size) own4.rd har hgo.1 hgo.2.1 hgo.2.2)
       have hjb4 := HJB.out
       clear far4 q0' q1' q2' q3' q4' q5' own3 oj3 hA
       refine KV.out.mono ?_
       rintro e w5 ⟨rfl, hb5⟩
       have hb5z := hb5.size
       have own5 := own4.below hb5
       have oj5 := oj4.below hb5
       rw [HV.out]
       go_wp2_with (first | (at_builtin; refine wpList_appVg rfl (.tmp 48) (.tmp 53) rfl (w.heap.size + 1) (some ⟨g2, 0, none⟩) c2 (v + k) (onD r.dy F M k).1 (by simp [Act.eval]) (own5.below ((Below.refl _ _).alloc (Nat.le_refl _) _)) w5.heap.size bv rfl (by simp [go_sem]) (by omega) (by simp; omega) ?_; intro g6 c6 w6 own6 hg6 hg6z) | fail)
       have oj6 : OwJ w6 (w.heap.size + 1) (some ⟨g4, 0, none⟩) c4 (k + 1) _ := (oj5.below ((Below.refl _ _).alloc (Nat.le_refl _) _)).keepV hg6 (own5.below ((Below.refl _ _).alloc (Nat.le_refl _) _))
       have hbW5 : Below w.heap.size w w5 := hbW4.trans (hb5.mono (by omega))
       have hbW6 : Below w.heap.size w w6 := hbW5.trans (((Below.refl _ w5).alloc (by omega) _).trans ((((own5.below ((Below.refl _ _).alloc (Nat.le_refl _) _)).gr hg6 (by simp; omega)).mono (by omega))))
       have hz6 : w.heap.size + 1 ≤ w6.heap.size := by have := hg6.size; simp at this; omega
       have HO6 : Hid (OwVb w6 (w.heap.size + 1) (some ⟨g6, 0, none⟩) c6 (v + (k + 1)) (onD r.dy F M (k + 1)).1) := own6.congr fun j _ => (HV1.out j).symm
       have HJ6 : Hid (OwJ w6 (w.heap.size + 1) (some ⟨g4, 0, none⟩) c4 (k + 1) (fun i => (onD r.dy F M (k + 1)).2.getD i 0)) := oj6.congr fun j hj => (HM1.out j hj).symm
       go_roundw
       case rel => exact ⟨k + 1, some ⟨g4, 0, none⟩, c4, g6, c6, by omega, by first | rfl | (simp; done), by first | rfl | (simp; done), by go_num, HO6.out, HJ6.out, hbW6, hz6⟩
       case measure => simp [intOf]; omega
     · subst e7
       have K := Lib.hid (fun X (hX : Below W.heap.size W X) => dactive_any (w := X) (kd := 7) (kk := kk) (old := old) (c1 := c1) (s := s) (A2 := A2) (n2 := n2) (c2 := c2') (A3 := A3) (n3 := n3) (c3 := c3') (cv := c2) (V := (onD r.dy F M k).1) (ra.on (hbW.trans (hX.mono hbW.size)) (hbW.trans (hX.mono hbW.size)).size) (ownW.rd.below hX) har hgo.2.1 (hMk rfl))
       have HMM : Hid (dyAct ((l.map Int.toNat).map (onD r.dy F M k).1) old = m) := by
         show _ = _
         rw [HL.out]
         exact HM.out
       rw [HMM.out] at K
       have f0 := fun y : Sub W => y.cell q0
       have f1 := fun y : Sub W => y.cell q1
       have f2 := fun y : Sub W => y.cell q2
       have f3 := fun y : Sub W => y.cell q3
       have f4 := fun y : Sub W => y.cell q4
       have f5 := fun y : Sub W => y.cell q5
       have f6 := fun y : Sub W => y.cell m1
       clear HMM hMk HM
       go_wp2
       rw [← HW.out]
       ((refine wp_region_quiet_bel (by kernel_rfl) (by kernel_rfl) ?_); (repeat (go_big_quiet_step ((go_at_call 143; with_reducible exact Calls.quiet_bel (K.out _ (Sub.bel _)))))); (refine wpQuiet_nil ?_); rintro w3 ⟨⟨_, hb3⟩, rfl⟩; (try dsimp only))
       clear f0 f1 f2 f3 f4 f5 f6 K m1 y0 y1 y2 y3 y4 y5
       have hb3z := hb3.size
       have own3 := ownW.below hb3
       have oj3 := ojW.below hb3
       have q0' : w3.cell? ⟨wo.heap.size, 0, none⟩ = _ := (below_at hb3 wo.heap.size 0 hWz).trans q0
       have q1' : w3.cell? ⟨wo.heap.size, 1, none⟩ = _ := (below_at hb3 wo.heap.size 1 hWz).trans q1
       have q2' : w3.cell? ⟨wo.heap.size, 2, none⟩ = _ := (below_at hb3 wo.heap.size 2 hWz).trans q2
       have q3' : w3.cell? ⟨wo.heap.size, 3, none⟩ = _ := (below_at hb3 wo.heap.size 3 hWz).trans q3
       have q4' : w3.cell? ⟨wo.heap.size, 4, none⟩ = _ := (below_at hb3 wo.heap.size 4 hWz).trans q4
       have q5' : w3.cell? ⟨wo.heap.size, 5, none⟩ = _ := (below_at hb3 wo.heap.size 5 hWz).trans q5
       have hbW3 : Below w.heap.size w w3 := hbW.trans (hb3.mono (by omega))
       have hz3 : wo.heap.size < w3.heap.size := by omega
       clear q0 q1 q2 q3 q4 q5 ownW ojW
       go_wp2_with (first | (at_builtin; refine wpList_appJg rfl (.tmp 44) (.tmp 46) rfl (w.heap.size + 1) Aj cj k (fun i => (onD r.dy F M k).2.getD i 0) (by simp [Act.eval]) (oj3.below ((Below.refl _ _).alloc (Nat.le_refl _) _)) w3.heap.size m rfl (by simp [go_sem]) (by omega) (by simp; omega) ?_; intro g4 c4 w4 oj4 hg4 hg4z; have hA : w3.grownBy (w3.alloc (.cells #[.int .i64 m] 3)) none := World.grownBy_alloc _ _ _; have far4 : ∀ o u, w3.cell? ⟨wo.heap.size, o, none⟩ = some u → w4.cell? ⟨wo.heap.size, o, none⟩ = some u := (fun o u hu => hg4.cell (hA.cell hu (by simp)) (fun e => Nat.lt_irrefl _ (HJB.out _ e.symm))); have x0 := far4 0 _ q0'; have x1 := far4 1 _ q1'; have x2 := far4 2 _ q2'; have x3 := far4 3 _ q3'; have x4 := far4 4 _ q4'; have x5 := far4 5 _ q5') | fail)
       have hz4 : wo.heap.size < w4.heap.size := by have := hg4.size; simp at this; omega
       have own4 : OwVb w4 (w.heap.size + 1) (some ⟨g2, 0, none⟩) c2 (v + k) (onD r.dy F M k).1 := (own3.below ((Below.refl _ _).alloc (Nat.le_refl _) _)).keepJ hg4 (oj3.below ((Below.refl _ _).alloc (Nat.le_refl _) _))
       have hbW4 : Below w.heap.size w w4 := hbW3.trans (((Below.refl _ w3).alloc (by omega) _).trans ((((oj3.below ((Below.refl _ _).alloc (Nat.le_refl _) _)).gr hg4 (by simp; omega)).mono (by omega))))
       have KV := Lib.hid (dvalue_any (w := w4) (kd := 7) (kk := kk) (memo := m) (c1 := c1) (s := s) (A2 := A2) (n2 := n2) (c2 := c2') (A3 := A3) (n3 := n3) (c3 := c3') (cv := c2) (ra.on hbW4 hbW4.size) own4.rd har hgo.1 hgo.2.1 hgo.2.2)
       have hjb4 := HJB.out
       clear far4 q0' q1' q2' q3' q4' q5' own3 oj3 hA
       refine KV.out.mono ?_
       rintro e w5 ⟨rfl, hb5⟩
       have hb5z := hb5.size
       have own5 := own4.below hb5
       have oj5 := oj4.below hb5
       rw [HV.out]
       go_wp2_with (first | (at_builtin; refine wpList_appVg rfl (.tmp 48) (.tmp 53) rfl (w.heap.size + 1) (some ⟨g2, 0, none⟩) c2 (v + k) (onD r.dy F M k).1 (by simp [Act.eval]) (own5.below ((Below.refl _ _).alloc (Nat.le_refl _) _)) w5.heap.size bv rfl (by simp [go_sem]) (by omega) (by simp; omega) ?_; intro g6 c6 w6 own6 hg6 hg6z) | fail)
       have oj6 : OwJ w6 (w.heap.size + 1) (some ⟨g4, 0, none⟩) c4 (k + 1) _ := (oj5.below ((Below.refl _ _).alloc (Nat.le_refl _) _)).keepV hg6 (own5.below ((Below.refl _ _).alloc (Nat.le_refl _) _))
       have hbW5 : Below w.heap.size w w5 := hbW4.trans (hb5.mono (by omega))
       have hbW6 : Below w.heap.size w w6 := hbW5.trans (((Below.refl _ w5).alloc (by omega) _).trans ((((own5.below ((Below.refl _ _).alloc (Nat.le_refl _) _)).gr hg6 (by simp; omega)).mono (by omega))))
       have hz6 : w.heap.size + 1 ≤ w6.heap.size := by have := hg6.size; simp at this; omega
       have HO6 : Hid (OwVb w6 (w.heap.size + 1) (some ⟨g6, 0, none⟩) c6 (v + (k + 1)) (onD r.dy F M (k + 1)).1) := own6.congr fun j _ => (HV1.out j).symm
       have HJ6 : Hid (OwJ w6 (w.heap.size + 1) (some ⟨g4, 0, none⟩) c4 (k + 1) (fun i => (onD r.dy F M (k + 1)).2.getD i 0)) := oj6.congr fun j hj => (HM1.out j hj).symm
       go_roundw
       case rel => exact ⟨k + 1, some ⟨g4, 0, none⟩, c4, g6, c6, by omega, by first | rfl | (simp; done), by first | rfl | (simp; done), by go_num, HO6.out, HJ6.out, hbW6, hz6⟩
       case measure => simp [intOf]; omega
     · have hm0 : m = 0 := by
         rw [← HM.out]
         unfold dyMem
         rw [if_neg (by omega), if_neg (by omega)]
       subst hm0
       obtain ⟨w3, hw3⟩ : ∃ w3, w3 = W := ⟨_, rfl⟩
       have hb3 : Below W.heap.size W w3 := by rw [hw3]; exact Below.refl _ _
       have HWB := Lib.hid (hw3.trans HW.out)
       have hw3z : w3.heap.size = wo.heap.size + 1 := by rw [HWB.out]; simp
       clear hMk HM hw3 HW m1
       have hb3z := hb3.size
       have own3 := ownW.below hb3
       have oj3 := ojW.below hb3
       have q0' : w3.cell? ⟨wo.heap.size, 0, none⟩ = _ := (below_at hb3 wo.heap.size 0 hWz).trans q0
       have q1' : w3.cell? ⟨wo.heap.size, 1, none⟩ = _ := (below_at hb3 wo.heap.size 1 hWz).trans q1
       have q2' : w3.cell? ⟨wo.heap.size, 2, none⟩ = _ := (below_at hb3 wo.heap.size 2 hWz).trans q2
       have q3' : w3.cell? ⟨wo.heap.size, 3, none⟩ = _ := (below_at hb3 wo.heap.size 3 hWz).trans q3
       have q4' : w3.cell? ⟨wo.heap.size, 4, none⟩ = _ := (below_at hb3 wo.heap.size 4 hWz).trans q4
       have q5' : w3.cell? ⟨wo.heap.size, 5, none⟩ = _ := (below_at hb3 wo.heap.size 5 hWz).trans q5
       have hbW3 : Below w.heap.size w w3 := hbW.trans (hb3.mono (by omega))
       have hz3 : wo.heap.size < w3.heap.size := by omega
       clear q0 q1 q2 q3 q4 q5 ownW ojW
       go_wp2_with (first | (at_builtin; rw [← HWB.out]; refine wpList_appJg rfl (.tmp 44) (.tmp 46) rfl (w.heap.size + 1) Aj cj k (fun i => (onD r.dy F M k).2.getD i 0) (by simp [Act.eval]) (oj3.below ((Below.refl _ _).alloc (Nat.le_refl _) _)) (wo.heap.size + 1) 0 (by simp [Act.eval]) (by rw [← hw3z]; simp [go_sem]) (by omega) (by simp; omega) ?_; intro g4 c4 w4 oj4 hg4 hg4z; have hA : w3.grownBy (w3.alloc (.cells #[.int .i64 0] 3)) none := World.grownBy_alloc _ _ _; have far4 : ∀ o u, w3.cell? ⟨wo.heap.size, o, none⟩ = some u → w4.cell? ⟨wo.heap.size, o, none⟩ = some u := (fun o u hu => hg4.cell (hA.cell hu (by simp)) (fun e => Nat.lt_irrefl _ (HJB.out _ e.symm))); have x0 := far4 0 _ q0'; have x1 := far4 1 _ q1'; have x2 := far4 2 _ q2'; have x3 := far4 3 _ q3'; have x4 := far4 4 _ q4'; have x5 := far4 5 _ q5') | fail)
       have hz4 : wo.heap.size < w4.heap.size := by have := hg4.size; simp at this; omega
       have own4 : OwVb w4 (w.heap.size + 1) (some ⟨g2, 0, none⟩) c2 (v + k) (onD r.dy F M k).1 := (own3.below ((Below.refl _ _).alloc (Nat.le_refl _) _)).keepJ hg4 (oj3.below ((Below.refl _ _).alloc (Nat.le_refl _) _))
       have hbW4 : Below w.heap.size w w4 := hbW3.trans (((Below.refl _ w3).alloc (by omega) _).trans ((((oj3.below ((Below.refl _ _).alloc (Nat.le_refl _) _)).gr hg4 (by simp; omega)).mono (by omega))))
       have KV := Lib.hid (dvalue_any (w := w4) (kd := kd) (kk := kk) (memo := 0) (c1 := c1) (s := s) (A2 := A2) (n2 := n2) (c2 := c2') (A3 := A3) (n3 := n3) (c3 := c3') (cv := c2) (ra.on hbW4 hbW4.size) own4.rd har hgo.1 hgo.2.1 hgo.2.2)
       have hjb4 := HJB.out
       clear far4 q0' q1' q2' q3' q4' q5' own3 oj3 hA
       refine KV.out.mono ?_
       rintro e w5 ⟨rfl, hb5⟩
       have hb5z := hb5.size
       have own5 := own4.below hb5
       have oj5 := oj4.below hb5
       rw [HV.out]
       go_wp2_with (first | (at_builtin; refine wpList_appVg rfl (.tmp 48) (.tmp 53) rfl (w.heap.size + 1) (some ⟨g2, 0, none⟩) c2 (v + k) (onD r.dy F M k).1 (by simp [Act.eval]) (own5.below ((Below.refl _ _).alloc (Nat.le_refl _) _)) w5.heap.size bv rfl (by simp [go_sem]) (by omega) (by simp; omega) ?_; intro g6 c6 w6 own6 hg6 hg6z) | fail)
       have oj6 : OwJ w6 (w.heap.size + 1) (some ⟨g4, 0, none⟩) c4 (k + 1) _ := (oj5.below ((Below.refl _ _).alloc (Nat.le_refl _) _)).keepV hg6 (own5.below ((Below.refl _ _).alloc (Nat.le_refl _) _))
       have hbW5 : Below w.heap.size w w5 := hbW4.trans (hb5.mono (by omega))
       have hbW6 : Below w.heap.size w w6 := hbW5.trans (((Below.refl _ w5).alloc (by omega) _).trans ((((own5.below ((Below.refl _ _).alloc (Nat.le_refl _) _)).gr hg6 (by simp; omega)).mono (by omega))))
       have hz6 : w.heap.size + 1 ≤ w6.heap.size := by have := hg6.size; simp at this; omega
       have HO6 : Hid (OwVb w6 (w.heap.size + 1) (some ⟨g6, 0, none⟩) c6 (v + (k + 1)) (onD r.dy F M (k + 1)).1) := own6.congr fun j _ => (HV1.out j).symm
       have HJ6 : Hid (OwJ w6 (w.heap.size + 1) (some ⟨g4, 0, none⟩) c4 (k + 1) (fun i => (onD r.dy F M (k + 1)).2.getD i 0)) := oj6.congr fun j hj => (HM1.out j hj).symm
       go_roundw
       case rel => exact ⟨k + 1, some ⟨g4, 0, none⟩, c4, g6, c6, by omega, by first | rfl | (simp; done), by first | rfl | (simp; done), by go_num, HO6.out, HJ6.out, hbW6, hz6⟩
       case measure => simp [intOf]; omega
   · obtain rfl : k = r.ng := by omega
     go_wp2
     go_returns
     exact ⟨⟨_, _, _, _, rfl, oj.base_ (by omega), own.base_ (by omega)⟩, hb⟩
end
end Go.Proofs.YtoiopnmphbnjaaaGreatDoor
namespace Go.Proofs.YtoiopnmphbnjaaaGreatDoor
open Go.RowKit
set_option linter.unusedSimpArgs false
set_option linter.unusedVariables false
set_option maxRecDepth 20000
/-! ## package dynamic: settle -/
theorem mskL_take {l : List Nat} {q : Nat} (h : q < l.length) : mskL (l.take (q + 1)) = mskL (l.take q) ||| 2 ^ l[q] := by
 induction l generalizing q with
 | nil => simp at h
 | cons a l ih =>
   cases q with
   | zero => simp [mskL]
   | succ q =>
     have hq : q < l.length := by simpa using h
     have := ih hq
     simp only [List.take_succ_cons, mskL, List.getElem_cons_succ]
     rw [this, Nat.or_assoc, Nat.or_assoc, Nat.or_comm (2 ^ l[q]) (2 ^ a)]
theorem results_cell1 {fn : Func} {p : Tmp} {ty : TypeId} (h : fn.results = #[.cell p ty]) (tmps : Array Value) (P : Program) (w : World) :
   (results fn tmps).run P w = ((asAddr (tmps.getD p undef)).run P w).andThen fun a w₁ => (loadVar ty a).run P w₁ := by
 simp only [results, h]
 simp [Sem.run_bind, Result.andThen]
theorem ygrown (w : World) (b o : Nat) (v : Value) : w.grownBy (w.setCell ⟨b, o, none⟩ v) (some b) :=
 ⟨rfl, rfl, rfl, (KeepsWalks.setCell w _ v).size, fun k _ hk => Below.heap_setCell _ _ _ k (fun e => hk (by rw [e]))⟩
theorem ofar {w : World} {b0 b o : Nat} {e : TypeId} {sz n : Nat} {u : Value} {xs : List Value} (v : Value) (h : w.ownsRow b0 e sz u n xs) (hb : b < b0) : (w.setCell ⟨b, o, none⟩ v).ownsRow b0 e sz u n xs := by
 refine h.kept (ygrown w b o v) ?_
 cases hu : u.ownBlock with
 | none => exact .inl rfl
 | some k => exact .inr (fun e2 => by
     injection e2 with e2
     have := (h.lt k hu).1
     omega)
section
variable {w : World} {AG AF AR Ao : Option Addr} {cg cf cr co : Nat} {r : DyR} {M : List Int} {F : Nat}
theorem dsettle_any {v : Nat} (h : DyI w AG AF AR r) (ok : DyOk r) (hv : r.v = v) (hF : F < 2 ^ v) (rj : RdJ w Ao r.ng (fun i => M.getD i 0)) (hM : ∀ i, i < r.ng → r.kd i = 7 → M.getD i 0 < (r.ar i).length) :
   Calls Tryz.prog 63 #[dyv r AG cg AF cf AR cr, .int .i64 (F : Int), .slice Ao r.ng co] w fun e w' => (∃ A1 c1, e = .returned (.agg #[.int .i64 ((setl r.dy F M).1 : Nat), .slice A1 r.ng c1]) ∧ OwJ w' w.heap.size A1 c1 r.ng (fun i => (setl r.dy F M).2.getD i 0)) ∧ Below w.heap.size w w' := by
 have v24 : v ≤ 24 := by have := ok.v2; omega
 have hp : 2 ^ v ≤ 16777216 := Nat.pow_le_pow_right (n := 2) (by omega) v24
 have hp0 : 0 < 2 ^ v := Nat.two_pow_pos v
 have n64 := ok.ng
 have HD : Hid (r.dy.v = v) := by
   show r.v.toNat = v
   rw [hv]; rfl
 have HOK := Lib.hid ok
 have KO := Lib.hid (fun X (hX : Below w.heap.size w X) G (hG : G < 2 ^ v) => donce_any (w := X) (cg := cg) (cf := cf) (cr := cr) (co := co) (F := G) (h.below hX) ok hv (by omega) (rj.below hX) hM)
 unfold dyv at KO ⊢
 rw [hv] at KO ⊢
 clear ok rj hM
 go_enter Tryz.func63, Tryz.ntmps63
 go_wp2_with fail
 obtain ⟨W0, hW0⟩ : ∃ W0, W0 = ((w.alloc (.cells #[.int .i64 (v : Int), .slice AG r.ng cg, .int .i64 r.top, .slice AF r.nf cf, .slice AR r.nr cr] 25)).alloc (.cells #[.int .i64 0, .slice none 0 0] 45)) := ⟨_, rfl⟩
 have hbA : Below w.heap.size w W0 := by rw [hW0]; exact (by (skip); repeat' (first | (with_reducible first | exact BlR _ _ | assumption | refine BlA ?_ ?_ _ | refine BlD ?_ | refine BlN ?_ _ | refine BlS ?_ ?_ _ | refine BlT ?_ (BlM (by assumption) ?_)) | omega | (simp only [ZZ]; omega) | go_size))
 have hzA : w.heap.size + 1 < W0.heap.size := by rw [hW0]; simp
 have x0 : W0.cell? ⟨w.heap.size, 0, none⟩ = some (.int .i64 (v : Int)) := by rw [hW0]; simp [go_sem]
 have x1 : W0.cell? ⟨w.heap.size, 1, none⟩ = some (.slice AG r.ng cg) := by rw [hW0]; simp [go_sem]
 have x2 : W0.cell? ⟨w.heap.size, 2, none⟩ = some (.int .i64 r.top) := by rw [hW0]; simp [go_sem]
 have x3 : W0.cell? ⟨w.heap.size, 3, none⟩ = some (.slice AF r.nf cf) := by rw [hW0]; simp [go_sem]
 have x4 : W0.cell? ⟨w.heap.size, 4, none⟩ = some (.slice AR r.nr cr) := by rw [hW0]; simp [go_sem]
 have c0 : W0.cell? ⟨w.heap.size + 1, 0, none⟩ = some (.int .i64 0) := by rw [hW0]; simp [go_sem]
 have c1 : W0.cell? ⟨w.heap.size + 1, 1, none⟩ = some (.slice none 0 0) := by rw [hW0]; simp [go_sem]
 have d0 : W0.frozen? ⟨w.heap.size + 1, 0, none⟩ = false := by rw [hW0]; simp [go_sem]
 have d1 : W0.frozen? ⟨w.heap.size + 1, 1, none⟩ = false := by rw [hW0]; simp [go_sem]
 rw [← hW0]
 clear hW0
 go_loopw [1] (fun fv wr => ∃ G : Nat, fv = .int .i64 G ∧ G < 2 ^ v ∧ setl r.dy G M = setl r.dy F M ∧ Below W0.heap.size W0 wr) (fun fv _ => 2 ^ v - (intOf fv).toNat)
 case atStart => exact ⟨F, rfl, hF, rfl, Below.refl _ _⟩
 case round =>
   obtain ⟨G, rfl, hG, hset, hb⟩ := hrel
   have HS := Lib.hid hset
   clear hset
   obtain ⟨wo, rfl⟩ : ∃ wo : World, wo = wr := ⟨_, rfl⟩
   have X := fun o => below_at hb w.heap.size o (by omega)
   have y0 := (X 0).trans x0
   have y1 := (X 1).trans x1
   have y2 := (X 2).trans x2
   have y3 := (X 3).trans x3
   have y4 := (X 4).trans x4
   have hbz := hb.size
   have hbw : Below w.heap.size w wo := hbA.trans (hb.mono (by omega))
   clear X
   go_wp2_with fail
   refine (KO.out _ hbw G hG).mono ?_
   rintro e w1 ⟨⟨A1, c1', g2, c2, rfl, oj, own⟩, hb1⟩
   have hb1z := hb1.size
   have z1 : w1.cell? ⟨w.heap.size, 1, none⟩ = some (.slice AG r.ng cg) := (below_at hb1 w.heap.size 1 (by omega)).trans y1
   have hb01 : Below W0.heap.size W0 w1 := hb.trans (hb1.mono (by omega))
   clear y0 y1 y2 y3 y4 hb
   go_wp2_with fail
   obtain ⟨vv, hvv⟩ : ∃ vv, (onD r.dy G M r.ng).1 = vv := ⟨_, rfl⟩
   rw [hvv] at own
   have HVV : Hid ((onD r.dy G M r.dy.ng).1 = vv) := hvv
   clear hvv
   have HSL : Hid (∀ k, k ≤ r.ng → stk r.dy vv k < 2 ^ v) := fun k hk => by
     have := stk_lt (d := r.dy) HOK.out.dok vv k hk
     rwa [HD.out] at this
   go_loopw [9, 25] (fun nv i w3 => ∃ k : Nat, k ≤ r.ng ∧ nv = .int .i64 ((G ||| stk r.dy vv k : Nat) : Int) ∧ i = .int .i64 k ∧ Below w1.heap.size w1 w3) (fun _ i _ => r.ng - (intOf i).toNat)
   case atStart => exact ⟨0, Nat.zero_le _, by simp [stk], rfl, Below.refl _ _⟩
   case round =>
     obtain ⟨k, hk, rfl, rfl, hb3⟩ := hrel
     obtain ⟨w3, rfl⟩ : ∃ w3 : World, w3 = wr := ⟨_, rfl⟩
     have hb3z := hb3.size
     obtain ⟨N, hN⟩ : ∃ N, G ||| stk r.dy vv k = N := ⟨_, rfl⟩
     have hN2 : N < 2 ^ v := by rw [← hN]; exact Nat.or_lt_two_pow hG (HSL.out k hk)
     by_cases hkn : k < r.ng
     · obtain ⟨b, off, A2, c2', s, A3, n3, c3', A4, n4, c4', rfl, hbb, z0, z1', z2, z3, z4, z5, ra, rs, hlc⟩ := h.at_ hkn
       have hbX : Below w.heap.size w w3 := hbw.trans ((hb1.trans (hb3.mono hb1z)).mono (by omega))
       have y0 := (below_at hbX b _ hbb).trans z0
       have y1 := (below_at hbX b _ hbb).trans z1'
       have y2 := (below_at hbX b _ hbb).trans z2
       have y3 := (below_at hbX b _ hbb).trans z3
       have y4 := (below_at hbX b _ hbb).trans z4
       have y5 := (below_at hbX b _ hbb).trans z5
       obtain ⟨kd, hkd⟩ : ∃ kd, r.kd k = kd := ⟨_, rfl⟩
       obtain ⟨kk, hkk⟩ : ∃ kk, r.kk k = kk := ⟨_, rfl⟩
       obtain ⟨l, hl⟩ : ∃ l, r.ar k = l := ⟨_, rfl⟩
       have hgo := HOK.out.gate hkn
       have HST : Hid (stk r.dy vv (k + 1) = stk r.dy vv k ||| (if kd.toNat = 8 ∧ vv ((l.map Int.toNat).headD 0) = true then mskL (l.map Int.toNat).tail else 0)) := by
         subst hkd hkk hl; rfl
       rw [hkd] at y0
       rw [hkk] at y1
       rw [hl] at y2 ra hlc
       rw [hkd, hkk, hl] at hgo
       have hln := dgAg_len hgo.ln
       have HLN := Lib.hid hgo.ln
       have hkd8 := hgo.hkd
       have hty := hgo.ty
       have hix := hgo.ix
       rw [hv] at hty hix
       clear hkd hkk hl z0 z1' z2 z3 z4 z5 rs hgo
       by_cases e8 : kd = 8
       · subst e8
         obtain ⟨b0, off0, rfl, hb0, q0⟩ := zsD_at ra hbX (k := 0) (by omega)
         have hx0 := hix _ (List.getElem_mem (show 0 < l.length by omega))
         obtain ⟨x, hx⟩ : ∃ x : Nat, l[0]'(by omega) = x := ⟨(l[0]'(by omega)).toNat, by omega⟩
         rw [hx] at q0 hx0
         have hxn : x < v + r.ng := by omega
         have HHD : Hid ((l.map Int.toNat).headD 0 = x) := by
           show _ = _
           cases l with
           | nil => simp at hln
           | cons a l => simp at hx; simp [hx]
         have hvx := (own.below hb3).at_ hxn
         have g0 : (0 : Int) < (l.length : Int) := by omega
         have g1 : (1 : Int) ≤ (l.length : Int) := by omega
         have gx : (x : Int) < ((v + r.ng : Nat) : Int) := by omega
         have hb0' : b0 < w3.heap.size := by omega
         have hg2' : g2 < w3.heap.size := by
           obtain ⟨g, e, h1, h2⟩ := own.form (by omega)
           injection e with e
           injection e with e
           omega
         cases hv0 : vv x
         · rw [hv0] at hvx
           have HN : Hid (N = G ||| stk r.dy vv (k + 1)) := by
             show _ = _
             rw [HST.out, HHD.out, hv0, if_neg (by simp), Nat.or_zero, hN]
           clear hv0 HHD
           rw [Nat.add_zero] at q0
           rw [hN]
           go_wp2
           go_roundw
           case rel => exact ⟨k + 1, by omega, by rw [← HN.out], by go_num, (by have z0 := Below.size hb3; (try simp only [ZZ] at z0 ⊢; skip); repeat' (first | (with_reducible first | exact BlR _ _ | assumption | refine BlA ?_ ?_ _ | refine BlD ?_ | refine BlN ?_ _ | refine BlS ?_ ?_ _ | refine BlT ?_ (BlM (by assumption) ?_)) | omega | (simp only [ZZ]; omega) | go_size))⟩
           case measure => simp [intOf]; omega
         · rw [hv0] at hvx
           have HN : Hid (G ||| stk r.dy vv (k + 1) = N ||| mskL (l.map Int.toNat).tail) := by
             show _ = _
             rw [HST.out, HHD.out, hv0, if_pos (by simp), ← Nat.or_assoc, hN]
           have HT : Hid (∀ q (hq : q + 1 < l.length), ∃ y : Nat, l[q + 1] = y ∧ y < v ∧ mskL ((l.map Int.toNat).tail.take (q + 1)) = mskL ((l.map Int.toNat).tail.take q) ||| 2 ^ y) := fun q hq => by
             have h1 := hix _ (List.getElem_mem hq)
             have h2 := hty (q + 1) hq (.inr ⟨rfl, by omega⟩)
             rw [List.getD_eq_getElem?_getD, List.getElem?_eq_getElem hq] at h2
             have h3 : l[q + 1] < (v : Int) := h2
             refine ⟨(l[q + 1]).toNat, by omega, by omega, ?_⟩
             rw [mskL_take (by simp; omega)]
             simp
           have HLT : Hid (∀ q, mskL ((l.map Int.toNat).tail.take q) < 2 ^ v) := fun q => mskL_lt fun a ha => by
             have ha' := List.mem_of_mem_take ha
             obtain ⟨t, ht, e⟩ := List.getElem_of_mem ha'
             rw [List.length_tail, List.length_map] at ht
             rw [List.getElem_tail, List.getElem_map] at e
             have h1 := hix _ (List.getElem_mem (show t + 1 < l.length by omega))
             have h2 := hty (t + 1) (by omega) (.inr ⟨rfl, by omega⟩)
             rw [List.getD_eq_getElem?_getD, List.getElem?_eq_getElem (show t + 1 < l.length by omega)] at h2
             have h3 : l[t + 1] < (v : Int) := h2
             omega
           clear hv0 HHD
           have q0' := q0
           rw [Nat.add_zero] at q0'
           rw [hN]
           have hc2 : 2 ≤ l.length := dgAg_two (.inr (.inr rfl)) HLN.out
           have hc1 : ¬ c2' = 1 := by omega
           have hbW4 : Below w1.heap.size w1 (w3.alloc (.cells #[.int .i64 8, .int .i64 kk, .slice (some ⟨b0, off0, none⟩) l.length c2', .bool s, .slice A3 n3 c3', .slice A4 n4 c4'] 88)) := (by have z0 := Below.size hb3; (try simp only [ZZ] at z0 ⊢; skip); repeat' (first | (with_reducible first | exact BlR _ _ | assumption | refine BlA ?_ ?_ _ | refine BlD ?_ | refine BlN ?_ _ | refine BlS ?_ ?_ _ | refine BlT ?_ (BlM (by assumption) ?_)) | omega | (simp only [ZZ]; omega) | go_size))
           have raW : Rds w3 w3.heap.size 1 (some ⟨b0, off0, none⟩) l.length (zsD l) := ra.on hbX hbX.size
           go_wp2
           go_loopw [9, 45] (fun nv j w5 => ∃ q : Nat, q + 1 ≤ l.length ∧ nv = .int .i64 ((N ||| mskL ((l.map Int.toNat).tail.take q) : Nat) : Int) ∧ j = .int .i64 q ∧ w5 = w3.alloc (.cells #[.int .i64 8, .int .i64 kk, .slice (some ⟨b0, off0, none⟩) l.length c2', .bool s, .slice A3 n3 c3', .slice A4 n4 c4'] 88)) (fun _ j _ => l.length - (intOf j).toNat)
           case atStart => exact ⟨0, by omega, by simp [mskL], rfl, rfl⟩
           case round =>
             obtain ⟨q, hq, rfl, rfl, hwr⟩ := hrel
             obtain ⟨P, hP⟩ : ∃ P, N ||| mskL ((l.map Int.toNat).tail.take q) = P := ⟨_, rfl⟩
             have hP2 : P < 2 ^ v := by rw [← hP]; exact Nat.or_lt_two_pow hN2 (HLT.out q)
             rw [hP]
             by_cases hql : q + 1 < l.length
             · obtain ⟨b1, off1, e1', hb1', u0⟩ := zsD_at raW (Below.refl _ _) hql
               injection e1' with e1'
               injection e1' with e1' e2'
               subst e1' e2'
               obtain ⟨y, hy, hyv, hmy⟩ := HT.out q hql
               rw [hy] at u0
               have u1 : w3.cell? ⟨b0, off0 + 1 + q, none⟩ = some (.int .i64 (y : Int)) := by rw [show off0 + 1 + q = off0 + (q + 1) by omega]; exact u0
               have s1 := yshl (k := y) (by omega)
               have hy24 := yp24 (k := y) (by omega)
               have s2 : bits .or .i64 (P : Int) ((2 ^ y : Nat) : Int) = ((P ||| 2 ^ y : Nat) : Int) := i64_or _ _ (by omega) (by omega)
               have HPN : Hid (N ||| mskL ((l.map Int.toNat).tail.take (q + 1)) = P ||| 2 ^ y) := by
                 show _ = _
                 rw [hmy, ← Nat.or_assoc, hP]
               clear hmy hy hP
               have i5 : (q : Int) < ((l.length - 1 : Nat) : Int) := by omega
               have i6 : (0 : Int) ≤ (y : Int) := by omega
               generalize 2 ^ y = py at *
               subst hwr
               go_wp2
               go_roundw
               case rel => exact ⟨q + 1, by omega, by rw [HPN.out], by go_num, (by first | trivial | rfl)⟩
               case measure => simp [intOf]; omega
             · have HPN : Hid (G ||| stk r.dy vv (k + 1) = P) := by
                 show _ = _
                 rw [HN.out, ← hP, List.take_of_length_le (by simp; omega)]
               clear hP
               have i5 : ¬ (q : Int) < ((l.length - 1 : Nat) : Int) := by omega
               subst hwr
               go_wp2
               go_roundw
               case rel => exact ⟨k + 1, by omega, by rw [HPN.out], by go_num, hbW4⟩
               case measure => simp [intOf]; omega
       · clear HLN
         have HN : Hid (N = G ||| stk r.dy vv (k + 1)) := by
           show _ = _
           rw [HST.out, if_neg (by omega), Nat.or_zero, hN]
         rw [hN]
         go_wp2
         go_roundw
         case rel => exact ⟨k + 1, by omega, by rw [← HN.out], by go_num, (by have z0 := Below.size hb3; (try simp only [ZZ] at z0 ⊢; skip); repeat' (first | (with_reducible first | exact BlR _ _ | assumption | refine BlA ?_ ?_ _ | refine BlD ?_ | refine BlN ?_ _ | refine BlS ?_ ?_ _ | refine BlT ?_ (BlM (by assumption) ?_)) | omega | (simp only [ZZ]; omega) | go_size))⟩
         case measure => simp [intOf]; omega
     · obtain rfl : k = r.ng := by omega
       have HNX : Hid (nxD r.dy M G = N) := by
         show G ||| stk r.dy (onD r.dy G M r.dy.ng).1 r.dy.ng = N
         rw [HVV.out]; exact hN
       have hGN : G ≤ N := by rw [← hN]; exact Nat.left_le_or
       rw [hN]
       by_cases e : N = G
       · have HR := Lib.hid (setl_stop (HNX.out.trans e))
         have hb03 : Below W0.heap.size W0 w3 := hb01.trans (hb3.mono (by omega))
         have k0 := (below_at hb03 (w.heap.size + 1) 0 (by omega)).trans c0
         have k1 := (below_at hb03 (w.heap.size + 1) 1 (by omega)).trans c1
         have f0 := (below_fr hb03 (w.heap.size + 1) 0 (by omega)).trans d0
         have f1 := (below_fr hb03 (w.heap.size + 1) 1 (by omega)).trans d1
         have oj3 := oj.below hb3
         subst e
         have hfin : (∃ B1 d1, Ending.returned (.agg #[.int .i64 (N : Int), .slice A1 r.ng c1']) = Ending.returned (.agg #[.int .i64 ((setl r.dy F M).1 : Nat), .slice B1 r.ng d1]) ∧ OwJ ((w3.setCell ⟨w.heap.size + 1, 0, none⟩ (.int .i64 (N : Int))).setCell ⟨w.heap.size + 1, 1, none⟩ (.slice A1 r.ng c1')) w.heap.size B1 d1 r.ng (fun i => (setl r.dy F M).2.getD i 0)) := by
           refine ⟨A1, c1', by rw [← HS.out, HR.out], ?_⟩
           rw [← HS.out, HR.out]
           exact OwJ.base_ (base := wo.heap.size) (ofar _ (ofar _ oj3 (by omega)) (by omega)) (by omega)
         have HFIN := Lib.hid hfin
         have hbF : Below w.heap.size w ((w3.setCell ⟨w.heap.size + 1, 0, none⟩ (.int .i64 (N : Int))).setCell ⟨w.heap.size + 1, 1, none⟩ (.slice A1 r.ng c1')) := by
           have := hbA.trans (hb03.mono (by omega))
           exact (by have z0 := Below.size this; (try simp only [ZZ] at z0 ⊢; skip); repeat' (first | (with_reducible first | exact BlR _ _ | assumption | refine BlA ?_ ?_ _ | refine BlD ?_ | refine BlN ?_ _ | refine BlS ?_ ?_ _ | refine BlT ?_ (BlM (by assumption) ?_)) | omega | (simp only [ZZ]; omega) | go_size))
         clear hfin
         go_wp2
         (try simp only [Exit.inBlock, Exit.then])
         refine bodyPost_ret (v := .agg #[.int .i64 (N : Int), .slice A1 r.ng c1']) ?_ rfl ⟨HFIN.out, hbF⟩
         rw [results_cell1 rfl]
         go_simp
       · have HR := Lib.hid ((setl_step HOK.out.dok (by rw [HD.out]; exact hG) (fun h => e (HNX.out.symm.trans h))).symm.trans HS.out)
         rw [HNX.out] at HR
         go_wp2
         go_roundw
         case rel => exact ⟨N, rfl, hN2, HR.out, (by have z0 := Below.size hb01; have z1 := Below.size hb3; (try simp only [ZZ] at z0 z1 ⊢; skip); repeat' (first | (with_reducible first | exact BlR _ _ | assumption | refine BlA ?_ ?_ _ | refine BlD ?_ | refine BlN ?_ _ | refine BlS ?_ ?_ _ | refine BlT ?_ (BlM (by assumption) ?_)) | omega | (simp only [ZZ]; omega) | go_size))⟩
         case measure => simp [intOf]; omega
end
end Go.Proofs.YtoiopnmphbnjaaaGreatDoor
