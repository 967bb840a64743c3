/- Contracts and lemmas for the given statements. Conditions: those alone that each names. -/
import Derived.Test.YtoiopnmphbnjaaaGreatDoorJRdM0
import Derived.Test.YtoiopnmphbnjaaaGreatDoorDynMake
namespace Go.Proofs.YtoiopnmphbnjaaaGreatDoor
open Go.RowKit
set_option linter.unusedSimpArgs false
set_option linter.unusedVariables false
set_option maxRecDepth 20000
attribute [local irreducible] nv wp win plainB validR valR canR
/-! ## the reference's Make -/
/-- what the reference's Make answers for a tree that is accepted -/
def RMake (b0 : Nat) (r : DyR) (o : Option (List DS × (Nat → Nat → Rat))) (e : Ending) (w' : World) : Prop :=
 match o with
 | none => e = .returned (.tuple #[cv 0 0 none 0 0 none 0 0, .slice none 0 0, .int .i64 4])
 | some z => ∃ AM cm AD cd As cs, e = .returned (.tuple #[cv (z.1.length : Nat) 0 AM (prs z.1.length z.2).length cm AD z.1.length cd, .slice As z.1.length cs, .int .i64 0]) ∧ OwPr w' b0 AM cm (prs z.1.length z.2) z.2 ∧ OwVb w' b0 AD cd z.1.length (topL r z.1) ∧ OwS w' b0 As cs r.ng z.1
theorem rsi_len {L : Nat} {l0 : List DS} {ys : List (DS × Rat)} {x : RS} (h : RsI L l0 ys x) : x.1.length ≤ l0.length + ys.length := by
 obtain ⟨t, ht⟩ := h.pre
 have hn := h.nd
 rw [← ht] at hn
 have hsub : ∀ u, u ∈ t → u ∈ ys.map (·.1) := fun u hu => by
   rcases h.mem u (by rw [← ht]; exact List.mem_append_right _ hu) with h1 | ⟨y, h1, rfl⟩
   · exact absurd rfl ((List.nodup_append.1 hn).2.2 u h1 u hu)
   · exact List.mem_map.2 ⟨y, h1, rfl⟩
 have hle : ∀ {t m : List DS}, t.Nodup → (∀ u, u ∈ t → u ∈ m) → t.length ≤ m.length := by
   intro t
   induction t with
   | nil => intro m _ _; simp
   | cons a t ih =>
     intro m hn hs
     rw [List.nodup_cons] at hn
     have ham : a ∈ m := hs a (by simp)
     have := ih (m := m.erase a) hn.2 fun u hu => (List.mem_erase_of_ne (fun e => hn.1 (by rw [← e]; exact hu))).2 (hs u (by simp [hu]))
     rw [List.length_erase_of_mem ham] at this
     have hp : 0 < m.length := List.length_pos_of_mem ham
     rw [List.length_cons]
     omega
 have := hle (List.nodup_append.1 hn).2.1 hsub
 rw [← ht, List.length_append]
 rw [List.length_map] at this
 omega
section
variable {w : World} {AG AF AR : Option Addr} {cg cf cr : Nat} {r : DyR}
set_option maxHeartbeats 32000000 in
theorem rmake_ok (h : DyI w AG AF AR r) (hs : DyS r) (ok : DyOk r) (ts : TrS r) :
   Calls Tryz.prog 15 #[dyv r AG cg AF cf AR cr] w fun e w' => RMake w.heap.size r r.tr.make e w' ∧ Below w.heap.size w w' := by
 have n64 := ok.ng
 have hv2 := ok.v2
 obtain ⟨S, hS⟩ : ∃ S, S = setl r.dy 0 (List.replicate r.ng 0) := ⟨_, rfl⟩
 have stS : StOk r S.1 S.2 := by rw [hS]; exact start_ok ok
 have KSt : Hid (∀ X, Below w.heap.size w X → Calls Tryz.prog 50 #[dyv r AG cg AF cf AR cr] X fun e w' => RSt X.heap.size r.ng S e w' ∧ Below X.heap.size X w') := by
   show ∀ _, _
   intro X hX
   have := rstart_any (cg := cg) (cf := cf) (cr := cr) (h.below hX) ok
   rw [← hS] at this
   exact this
 have KAf := Lib.hid (fun X (F : Nat) (M : List Int) (Am : Option Addr) (cm : Nat) (hX : Below w.heap.size w X) (st : StOk r F M) (rj : RdJ X Am r.ng (fun i => M.getD i 0)) => rafter_ok (w := X) (F := F) (M := M) (cg := cg) (cf := cf) (cr := cr) (cm := cm) h hX hs ok ts st rj)
 have KTo := Lib.hid (fun X (F : Nat) (M : List Int) (Am : Option Addr) (cm : Nat) (hX : Below w.heap.size w X) (st : StOk r F M) (rj : RdJ X Am r.ng (fun i => M.getD i 0)) => rtop_any (w := X) (F := F) (M := M) (cg := cg) (cf := cf) (cr := cr) (cm := cm) (h.below hX) ok st rj)
 have hnx : Hid (∀ s, StOk r s.1 s.2 → ∀ y, y ∈ r.tr.nx s r.v.toNat → 0 < y.2 ∧ Sz 70000 y.2 ∧ StOk r y.1.1 y.1.2) := fun s hs => nx_ok ok ts hs (Nat.le_refl _)
 have hnl : Hid (∀ s, (r.tr.nx s r.v.toNat).length ≤ 48) := fun s => by
   have := Tr.nx_len r.tr s r.v.toNat
   omega
 have HMR : Hid (mkR (fun s => r.tr.nx s r.v.toNat) 256 0 [S] (fun _ _ => 0) = r.tr.make) := by
   show _ = _
   rw [hS]
   rfl
 have HLN : Hid (∀ s : DS, StOk r s.1 s.2 → s.2.length = r.ng) := fun s hs => hs.l
 have HTL : Hid (∀ l j, topL r l j = vaD r.dy (l.getD j (0, [])).1 (l.getD j (0, [])).2 r.ng r.top.toNat) := fun l j => rfl
 obtain ⟨NX, hNX⟩ : ∃ NX : DS → List (DS × Rat), NX = fun s => r.tr.nx s r.v.toNat := ⟨_, rfl⟩
 have e1 : ∀ s, r.tr.nx s r.v.toNat = NX s := fun s => by rw [hNX]
 have KAf2 : Hid (∀ X (F : Nat) (M : List Int) (Am : Option Addr) (cm : Nat), Below w.heap.size w X → StOk r F M → RdJ X Am r.ng (fun i => M.getD i 0) → Calls Tryz.prog 51 #[dyv r AG cg AF cf AR cr, .agg #[.int .i64 (F : Int), .slice Am r.ng cm]] X fun x w' => AftRet w.heap.size X.heap.size r.ng (NX (F, M)) x w' ∧ Below X.heap.size X w') := by
   show ∀ X, _
   intro X F M Am cm hX st rj
   rw [← e1]
   exact KAf.out X F M Am cm hX st rj
 have hnx2 : Hid (∀ s, StOk r s.1 s.2 → ∀ y, y ∈ NX s → 0 < y.2 ∧ Sz 70000 y.2 ∧ StOk r y.1.1 y.1.2) := fun s => by rw [← e1]; exact hnx.out s
 have hnl2 : Hid (∀ s, (NX s).length ≤ 48) := fun s => by rw [← e1]; exact hnl.out s
 have HMR2 : Hid (mkR NX 256 0 [S] (fun _ _ => 0) = r.tr.make) := by rw [hNX]; exact HMR.out
 obtain ⟨O, hO⟩ : ∃ O, O = r.tr.make := ⟨_, rfl⟩
 rw [← hO] at HMR2 ⊢
 have HST := Lib.hid stS
 unfold dyv at KSt KTo KAf2 ⊢
 clear h hs ok ts hS stS KAf hnx hnl HMR e1 hNX hO
 obtain ⟨V, hV⟩ : ∃ V : Array Value, V = #[.int .i64 r.v, .slice AG r.ng cg, .int .i64 r.top, .slice AF r.nf cf, .slice AR r.nr cr] := ⟨_, rfl⟩
 obtain ⟨W, hW⟩ : ∃ W, W = ((w.alloc (.cells #[.int .i64 r.v, .slice AG r.ng cg, .int .i64 r.top, .slice AF r.nf cf, .slice AR r.nr cr] 25)).alloc (chO 0 none 0 0 none 0 0)) := ⟨_, rfl⟩
 have hbA : Below w.heap.size w W := by rw [hW]; exact (by (skip); repeat' (first | (with_reducible first | exact BlR _ _ | assumption | refine BlA ?_ ?_ _ | refine BlD ?_ | refine BlN ?_ _ | refine BlS ?_ ?_ _ | refine BlT ?_ (BlM (by assumption) ?_)) | omega | (simp only [ZZ]; omega) | go_size))
 have hbAz : W.heap.size = w.heap.size + 2 := by rw [hW]; simp
 have hB1 : W.heap[w.heap.size]? = some (.cells V 25 (0, 0)) := by
   rw [hW, hV]
   exact (Below.heap_alloc _ _ _ (by simp)).trans (heap_alloc_new w _)
 have hB2 : W.heap[w.heap.size + 1]? = some (chO 0 none 0 0 none 0 0) := by
   rw [hW]
   have := heap_alloc_new (w.alloc (.cells #[.int .i64 r.v, .slice AG r.ng cg, .int .i64 r.top, .slice AF r.nf cf, .slice AR r.nr cr] 25)) (chO 0 none 0 0 none 0 0)
   rw [World.size_alloc] at this
   exact this
 have HVC : Hid (∀ (X : World), X.heap[w.heap.size]? = some (.cells V 25 (0, 0)) → X.cell? ⟨w.heap.size, 0, none⟩ = some (.int .i64 r.v) ∧ X.cell? ⟨w.heap.size, 1, none⟩ = some (.slice AG r.ng cg) ∧ X.cell? ⟨w.heap.size, 2, none⟩ = some (.int .i64 r.top) ∧ X.cell? ⟨w.heap.size, 3, none⟩ = some (.slice AF r.nf cf) ∧ X.cell? ⟨w.heap.size, 4, none⟩ = some (.slice AR r.nr cr)) := fun X hX => by
   refine ⟨?_, ?_, ?_, ?_, ?_⟩ <;> (rw [cell_of_row X _ _ _ _ _ hX, hV]; rfl)
 obtain ⟨x0, x1, x2, x3, x4⟩ := HVC.out W hB1
 have HW := Lib.hid hW
 have K := Lib.hid (KSt.out W hbA)
 clear hW hV KSt
 go_enter Tryz.func15, Tryz.ntmps15
 go_upto_region 1 with fail
 rw [show ((w.alloc (.cells #[.int .i64 r.v, .slice AG r.ng cg, .int .i64 r.top, .slice AF r.nf cf, .slice AR r.nr cr] 25)).alloc (.cells #[.int .i64 0, .int .i64 0, .slice none 0 0, .slice none 0 0] 32)) = W from HW.out.symm]
 go_wp2_with fail
 refine K.out.mono ?_
 rintro e w1 ⟨⟨A1, c1, rfl, oj1⟩, hb1⟩
 have hb1z := hb1.size
 obtain ⟨W2, hW2⟩ : ∃ W2, W2 = w1.alloc (.cells #[.int .i64 ((S.1 : Nat) : Int), .slice A1 r.ng c1] 45) := ⟨_, rfl⟩
 obtain ⟨W3, hW3⟩ : ∃ W3, W3 = W2.alloc (chO 0 none 0 0 none 0 0) := ⟨_, rfl⟩
 have hz2 : W2.heap.size = w1.heap.size + 1 := by rw [hW2]; simp
 have hz3 : W3.heap.size = w1.heap.size + 2 := by rw [hW3]; simp; omega
 have b12 : Below w1.heap.size w1 W2 := by rw [hW2]; exact (Below.refl _ _).alloc (Nat.le_refl _) _
 have b23 : Below W2.heap.size W2 W3 := by rw [hW3]; exact (Below.refl _ _).alloc (Nat.le_refl _) _
 have b13 : Below W.heap.size W W3 := hb1.trans ((b12.mono (by omega)).trans (b23.mono (by omega)))
 have os3 : OwS W3 w.heap.size (some ⟨w1.heap.size, 0, none⟩) 1 r.ng [S] := by
   have : OwS W2 w.heap.size (some ⟨w1.heap.size, 0, none⟩) 1 r.ng [S] := by rw [hW2]; exact OwS.lit (oj1.rg _) (by omega)
   exact this.below b23
 have rf3 : RmF w W3 V W2.heap.size none 0 [] (fun _ _ => 0) none 0 0 (fun _ => false) := ⟨hbA.trans (b13.mono (by omega)), by omega, (b13.block _ (by omega)).trans hB1, (b13.block _ (by omega)).trans hB2, by rw [hW3]; exact heap_alloc_new W2 _, OwPr.nil_ _ _ _, OwVb.nil_ _ _ _⟩
 have HI0 : Hid (MkI 70000 48 (fun s => StOk r s.1 s.2) NX S 0 [S] (fun _ _ => 0)) := MkI.start HST.out
 have HRF := Lib.hid rf3
 have HOS := Lib.hid os3
 have HW32 : Hid (W3 = (w1.alloc (.cells #[.int .i64 ((S.1 : Nat) : Int), .slice A1 r.ng c1] 45)).alloc (.cells #[.int .i64 0, .int .i64 0, .slice none 0 0, .slice none 0 0] 32)) := by show _ = _; rw [hW3, hW2]; rfl
 have HZC : Hid (w1.heap.size + 1 = W2.heap.size) := by show _ = _; omega
 obtain ⟨c, hc⟩ : ∃ c, W2.heap.size = c := ⟨_, rfl⟩
 rw [hc] at HRF HZC
 have hz3' : w.heap.size + 2 ≤ c := by omega
 clear hW2 hW3 b12 b23 b13 os3 rf3 hb1 oj1 K hB1 hB2 hbA HW hz2 hz3 hc x0 x1 x2 x3 x4
 go_upto_region 3 with fail
 rw [← HW32.out, HZC.out]
 clear HW32 HZC
 go_wp2_with fail
 go_loopw [5, 7] (fun lv iv wr => ∃ (k : Nat) (l : List DS) (R : Nat → Nat → Rat) (As : Option Addr) (cs : Nat) (AM : Option Addr) (cm : Nat) (AD : Option Addr) (cd : Nat), lv = .slice As l.length cs ∧ iv = .int .i64 (k : Int) ∧ k ≤ l.length ∧ OwS wr w.heap.size As cs r.ng l ∧ RmF w wr V c AM cm (mvK R k) R AD cd k (topL r l) ∧ MkI 70000 48 (fun s => StOk r s.1 s.2) NX S k l R ∧ mkR NX (256 - k) k l R = O) (fun _ i _ => 256 - (intOf i).toNat)
 case atStart => exact ⟨0, [S], fun _ _ => 0, _, 1, none, 0, none, 0, rfl, rfl, Nat.zero_le _, HOS.out, HRF.out.congr (fun p hp => by cases hp) (fun j hj => absurd hj (Nat.not_lt_zero _)), HI0.out, HMR2.out⟩
 case round =>
   obtain ⟨k, l, R, As, cs, AM, cm, AD, cd, rfl, rfl, hkl, os, rf, hI, hR⟩ := hrel
   obtain ⟨wo, rfl⟩ : ∃ wo : World, wo = wr := ⟨_, rfl⟩
   clear HRF HOS HI0 HMR2
   have HOS := Lib.hid os
   have HRF := Lib.hid rf
   have HI := Lib.hid hI
   have HR := Lib.hid hR
   have hl256 := hI.le
   have hbw := rf.bel
   have hbz := hbw.size
   clear os rf hI hR
   by_cases hk : k < l.length
   · obtain ⟨s, hse⟩ : ∃ s, l[k] = s := ⟨_, rfl⟩
     have hsk : l[k]? = some s := by rw [List.getElem?_eq_getElem hk, hse]
     have hsts : StOk r s.1 s.2 := HI.out.mem s (hse ▸ List.getElem_mem hk)
     obtain ⟨g, B1, d1, eA, hgb, hgl, c0, c1', rk⟩ := HOS.out.at_ hk
     rw [hse] at c0 rk
     have HSTS := Lib.hid hsts
     have HSK := Lib.hid hsk
     have HSE := Lib.hid hse
     have HRK := Lib.hid rk
     obtain ⟨x0, x1, x2, x3, x4⟩ := HVC.out wo HRF.out.b1
     have hx0 := hbw.size
     have hbd : Below w.heap.size w wo.drew := hbw.trans ((Below.refl _ _).drew)
     have K := Lib.hid (KAf2.out wo.drew s.1 s.2 B1 d1 hbd hsts ((rk.below ((Below.refl wo.heap.size wo).drew)).rj))
     have hwl : w.heap.size < wo.heap.size := (Array.getElem?_eq_some_iff.1 HRF.out.b1).1
     have hns := hnl2.out s
     obtain ⟨nx, hnxe⟩ : ∃ nx, NX s = nx := ⟨_, rfl⟩
     have hnse : NX (s.1, s.2) = nx := hnxe
     rw [hnse] at K
     rw [hnxe] at hns
     have HNX := Lib.hid hnxe
     subst eA
     have i1 : (0 : Int) ≤ (k : Int) := by omega
     have i2 : (k : Int) < (l.length : Int) := by omega
     obtain ⟨F, hF⟩ : ∃ F, s.1 = F := ⟨_, rfl⟩
     rw [hF] at c0 K
     have HF := Lib.hid hF
     clear hse hsk hsts rk hnxe hnse hF
     go_upto_region 6 with fail
     go_cut [8, 9] from 26 to 33 (fun a b wx => ∃ (An : Option Addr) (cn : Nat) (Ar : Option Addr) (cr' : Nat), a = .slice An nx.length cn ∧ b = .slice Ar nx.length cr' ∧ OwS wx w.heap.size An cn r.ng (nx.map (·.1)) ∧ OwL wx w.heap.size 70000 Ar cr' (nx.map (·.2)) ∧ (∀ q, (Value.slice An nx.length cn).ownBlock = some q → wo.heap.size ≤ q) ∧ (∀ q, (Value.slice Ar nx.length cr').ownBlock = some q → wo.heap.size ≤ q) ∧ Below wo.heap.size wo wx)
     case first =>
       clear HVC HOS HRF HI HR HSTS HSK HSE HRK HNX HF KTo KAf2 hnx2 hnl2 HLN HTL HST
       go_region_with ((go_at_call 51; (with_reducible refine (K.out).mono ?_); rintro e w5 ⟨⟨An, cn, Ar, cr', rfl, osn, oln, hbn, hbl⟩, hb5⟩; have hb5z := Below.size hb5; (try simp only [ZZ] at hb5z); obtain ⟨hb5c0, hb5f0⟩ := bbo hb5 (w.heap.size) (by first | omega | (simp only [ZZ]; omega)); have hb5l0 : w.heap.size < (w5).heap.size := (by omega)))
       all_goals
         have hbF : Below wo.heap.size wo w5 := (by have z0 := Below.size hb5; (try simp only [ZZ] at z0 ⊢; skip); repeat' (first | (with_reducible first | exact BlR _ _ | assumption | refine BlA ?_ ?_ _ | refine BlD ?_ | refine BlN ?_ _ | refine BlS ?_ ?_ _ | refine BlT ?_ (BlM (by assumption) ?_)) | omega | (simp only [ZZ]; omega) | go_size))
         have HF : Hid (OwS w5 w.heap.size An cn r.ng (nx.map (·.1)) ∧ OwL w5 w.heap.size 70000 Ar cr' (nx.map (·.2))) := ⟨osn, oln⟩
         have HK1 : Hid ((∀ q, (Value.slice An nx.length cn).ownBlock = some q → wo.heap.size ≤ q) ∧ (∀ q, (Value.slice Ar nx.length cr').ownBlock = some q → wo.heap.size ≤ q)) := ⟨hbn, hbl⟩
         clear osn oln hbn hbl
         go_wp2_with fail
         go_meet
         case rel => exact ⟨An, cn, Ar, cr', rfl, rfl, HF.out.1, HF.out.2, HK1.out.1, HK1.out.2, hbF⟩
     case rest =>
       obtain ⟨An, cn, Ar, cr', rfl, rfl, osn, oln, hbn, hbl, hbc⟩ := hcut
       have hbcz := hbc.size
       have HOS5 := Lib.hid (HOS.out.below hbc)
       have HRF5 := Lib.hid (HRF.out.below hbc)
       have HSN := Lib.hid osn
       have HLN2 := Lib.hid oln
       have HBN := Lib.hid hbn
       have HBL := Lib.hid hbl
       have HLT := Lib.hid (HOS.out.lt (m := l.length))
       obtain ⟨N, hNe⟩ : ∃ N, N = l.length + nx.length := ⟨_, rfl⟩
       have HNE := Lib.hid hNe
       have hN5 : N ≤ 400 := by omega
       clear hNe
       clear osn oln hbn hbl x0 x1 x2 x3 x4 c0 c1' HOS HRF K hbd
       go_wp2_with (at_make; refine wpList_makeR rfl (.tmp 38) (.tmp 38) rfl w.heap.size N (N : Int) (N : Int) (by simp [Act.eval]; have := HNE.out; omega) (by simp [Act.eval]; have := HNE.out; omega) rfl rfl (by omega) (by omega) ?_; intro w6 own6 hb6)
       have hz6 := hb6.size
       obtain ⟨rb, hrb⟩ : ∃ rb, wc.heap.size = rb := ⟨_, rfl⟩
       have HIN0 : Hid (In2 w w6 r.ng An cn Ar cr' nx rb N (some ⟨g, 0, none⟩) cs (l, fun _ => 0)) := by
         refine ⟨HOS5.out.below hb6, HSN.out.below hb6, HLN2.out.below hb6, ?_, fun q hq e => ?_, fun q hq e => ?_⟩
         · rw [← hrb]; exact own6
         · rw [List.length_map] at hq
           have := HBN.out q hq
           have := HLT.out q e
           omega
         · injection e with e
           rw [List.length_map] at hq
           have := HLN2.out.lt (m := nx.length) q hq
           omega
       have HRF6 := Lib.hid (HRF5.out.below hb6)
       have HRS0 : Hid (RsI 70000 l (nx.take 0) (l, fun _ => 0)) := RsI.start HI.out.nd HI.out.le
       have HRW0 : Hid (rowR (nx.take 0) (l, fun _ => 0) = some (l, fun _ => 0)) := rfl
       rw [hrb]
       clear own6 hb6 HOS5 HRF5 HSN HLN2 hrb hbc
       go_wp2_with fail
       go_loopw [5, 42] (fun lv jv wr => ∃ (j : Nat) (x : RS) (As : Option Addr) (cs : Nat), lv = .slice As x.1.length cs ∧ jv = .int .i64 (j : Int) ∧ j ≤ nx.length ∧ In2 w wr r.ng An cn Ar cr' nx rb N As cs x ∧ RmF w wr V c AM cm (mvK R k) R AD cd k (topL r l) ∧ RsI 70000 l (nx.take j) x ∧ rowR (nx.take j) (l, fun _ => 0) = some x) (fun _ j _ => nx.length - (intOf j).toNat)
       case atStart => exact ⟨0, _, some ⟨g, 0, none⟩, cs, rfl, rfl, Nat.zero_le _, HIN0.out, HRF6.out, HRS0.out, HRW0.out⟩
       case round =>
         clear HIN0 HRF6 HRS0 HRW0
         obtain ⟨j, x, Ax, cx, rfl, rfl, hj, hin, hrf, hrs, hrw⟩ := hrel
         obtain ⟨wi, rfl⟩ : ∃ wi : World, wi = wr := ⟨_, rfl⟩
         have HIN1 := Lib.hid hin
         have HRF1 := Lib.hid hrf
         have HRS := Lib.hid hrs
         have HRW := Lib.hid hrw
         have hx256 := hrs.le
         have hpl := hrs.pre.length_le
         have hbwi := hrf.bel
         clear hin hrf hrs hrw
         by_cases hjn : j < nx.length
         · obtain ⟨y, hye⟩ : ∃ y, nx[j] = y := ⟨_, rfl⟩
           obtain ⟨s', q⟩ := y
           have hyn := hnx2.out s HSTS.out (s', q) (by rw [HNX.out, ← hye]; exact List.getElem_mem hjn)
           obtain ⟨hq0, hqs, hst'⟩ := hyn
           have HTK : Hid ((nx.take j).length ≤ 48) := by
             show _ ≤ _
             rw [List.length_take]
             omega
           have hTS : nx.take (j + 1) = nx.take j ++ [(s', q)] := by rw [List.take_succ_eq_append_getElem hjn, hye]
           have HXS : Hid (∀ t, t ∈ x.1 → StOk r t.1 t.2) := fun t ht => by
             rcases HRS.out.mem t ht with h1 | ⟨u, h1, rfl⟩
             · exact HI.out.mem t h1
             · exact (hnx2.out s HSTS.out u (by rw [HNX.out]; exact List.mem_of_mem_take h1)).2.2
           have hxl : x.1.length ≤ l.length + j := by
             have := rsi_len HRS.out
             rw [List.length_take] at this
             omega
           obtain ⟨gN, B2, d2, eN, hgN, hgNl, c0, c1', rk2⟩ := HIN1.out.nxt.at_ (k := j) (by rw [List.length_map]; exact hjn)
           have hmap : (nx.map (·.1))[j]'(by rw [List.length_map]; exact hjn) = s' := by rw [List.getElem_map, hye]
           rw [hmap] at c0 rk2
           have HY := Lib.hid hye
           subst eN
           have i3 : (0 : Int) ≤ (j : Int) := by omega
           have i4 : (j : Int) < (nx.length : Int) := by omega
           obtain ⟨W2, hW2⟩ : ∃ W2, W2 = wi.alloc (.cells #[.int .i64 ((s'.1 : Nat) : Int), .slice B2 r.ng d2] 45) := ⟨_, rfl⟩
           have hb12 : Below wi.heap.size wi W2 := by rw [hW2]; exact (Below.refl _ _).alloc (Nat.le_refl _) _
           have hz12 : W2.heap.size = wi.heap.size + 1 := by rw [hW2]; simp
           have t0 : W2.cell? ⟨wi.heap.size, 0, none⟩ = some (.int .i64 ((s'.1 : Nat) : Int)) := by rw [hW2]; exact (World.cell?_alloc_at _ _ _ _ rfl).trans rfl
           have t1 : W2.cell? ⟨wi.heap.size, 1, none⟩ = some (.slice B2 r.ng d2) := by rw [hW2]; exact (World.cell?_alloc_at _ _ _ _ rfl).trans rfl
           have HIN2 := Lib.hid (HIN1.out.below hb12)
           have HRF2 := Lib.hid (HRF1.out.below hb12)
           have HRK2 := Lib.hid (rk2.below hb12)
           have KP := Lib.hid (rplace_ok (d := d2) HIN2.out.st rfl (HRK2.out.rj) (fun t ht => HLN.out t (HXS.out t ht)) (HLN.out s' hst') (by omega) (by omega))
           have HW2 := Lib.hid hW2
           have HST' := Lib.hid hst'
           clear hW2 hb12 rk2 hye hmap HIN1 HRF1 hst'
           go_upto_region 11 with fail
           rw [← HW2.out]
           clear HW2 c0 c1'
           go_wp2_with fail
           refine KP.out.mono ?_
           rintro z w7 ⟨rfl, hb7⟩
           have hb7z := hb7.size
           have u0 := (below_at hb7 wi.heap.size 0 (by omega)).trans t0
           have u1 := (below_at hb7 wi.heap.size 1 (by omega)).trans t1
           have HIN7 := Lib.hid (HIN2.out.below hb7)
           have HRF7 := Lib.hid (HRF2.out.below hb7)
           have HRK7 := Lib.hid (HRK2.out.below hb7)
           clear t0 t1 HIN2 HRF2 HRK2 KP hb7
           by_cases hm : s' ∈ x.1
           · have hpz : plcZ x.1 s' = ((x.1.idxOf s' : Nat) : Int) := by unfold plcZ; rw [if_pos hm]
             rw [hpz]
             have hidx : x.1.idxOf s' < x.1.length := List.idxOf_lt_length_iff.2 hm
             obtain ⟨x2, hx2⟩ : ∃ x2 : Nat → Rat, ∀ b, x2 b = if b = x.1.idxOf s' then x.2 b + q else x.2 b := ⟨_, fun b => rfl⟩
             have hstep : stepR x (s', q) = some (x.1, x2) := by
               unfold stepR
               rw [if_neg (fun h => h.1 hm)]
               unfold addS
               rw [if_pos hm]
               congr 1
               exact Prod.ext rfl (funext fun b => (hx2 b).symm)
             have HRS2 : Hid (RsI 70000 l (nx.take (j + 1)) (x.1, x2)) := by
               show RsI _ _ _ _
               rw [hTS]
               exact HRS.out.step hq0 hqs hstep
             have HRW2 : Hid (rowR (nx.take (j + 1)) (l, fun _ => 0) = some (x.1, x2)) := by
               show _ = _
               rw [hTS, rowR_snoc, HRW.out]
               exact hstep
             have HTOL : x.1.idxOf s' < N := by have := HNE.out; omega
             have HIN := HIN7
             have HRG := HRF7
             obtain ⟨wq, rfl⟩ : ∃ wq, wq = w7 := ⟨_, rfl⟩
             clear hpz hstep hTS hm u0 u1
             obtain ⟨s3, A3, n3, c3', B3, m3, d3, g0, g1, g2, r3⟩ := HIN.out.row.at_ (k := (x.1.idxOf s')) HTOL
             obtain ⟨RR, hrr1, hrr2⟩ := HIN.out.rat
             obtain ⟨bR, oR, s4, A4, n4, c4', B4, m4, d4, eR, hbR, f0, f1, f2, r4⟩ := hrr1.ra.at_ (k := j) (by rw [List.length_map]; exact hjn)
             obtain ⟨hv4, hl4, hl4'⟩ := hrr2 j (by rw [List.length_map]; exact hjn)
             have hq4 : valR (RR j) = q := by
               rw [hv4, List.getElem_map]
               exact congrArg Prod.snd HY.out
             have q3 := r3.canQ (L := 10000000) ((HRS.out.sz (x.1.idxOf s')).more (by have := HTK.out; omega))
             have q4 : RdQ wq 10000000 (rv s4 A4 n4 c4' B4 m4 d4) q := by
               have := r4.rdq (L := 10000000) (by omega) (by omega)
               rw [hq4] at this
               exact this
             have KA := Lib.hid (fun X (hX : Below wq.heap.size wq X) => raddQ (q3.below hX) (q4.below hX) (by omega) (by omega))
             have hfz := HIN.out.row.frozen
             obtain ⟨hrb1, hrb2⟩ := HIN.out.row.tyA
             have hrbl := hrb2.lt
             have z0 : (0 : Int) ≤ (((x.1.idxOf s') : Nat) : Int) := by omega
             have z1 : (((x.1.idxOf s') : Nat) : Int) < (N : Int) := by have := HTOL; omega
             have z2 : (0 : Int) ≤ (j : Int) := by omega
             have z3 : (j : Int) < (nx.length : Int) := by omega
             have HX2 := Lib.hid hx2
             clear r3 r4 hrr1 hrr2 hv4 hl4 hl4' hq4 q3 q4 hrb2 hx2
             subst eR
             generalize hTOe : (x.1.idxOf s') = ti at *
             go_upto_region 16 with fail
             go_region_with ((go_at_call 53; (with_reducible refine (KA.out _ (by (skip); repeat' (first | (with_reducible first | exact BlR _ _ | assumption | refine BlA ?_ ?_ _ | refine BlD ?_ | refine BlN ?_ _ | refine BlS ?_ ?_ _ | refine BlT ?_ (BlM (by assumption) ?_)) | omega | (simp only [ZZ]; omega) | go_size))).mono ?_); rintro e w9 ⟨⟨v9, rfl, own9⟩, hb9⟩; have hb9z := Below.size hb9; (try simp only [ZZ] at hb9z); obtain ⟨hb9c0, hb9f0⟩ := bbo hb9 (rb) (by first | omega | (simp only [ZZ]; omega)); have hb9l0 : rb < (w9).heap.size := (by omega)); obtain ⟨s9, A9, n9, c9, B9, m9, d9, rfl⟩ := own9.form)
             all_goals
               have hb9q : Below wq.heap.size wq w9 := (by have z0 := Below.size hb9; (try simp only [ZZ] at z0 ⊢; skip); repeat' (first | (with_reducible first | exact BlR _ _ | assumption | refine BlA ?_ ?_ _ | refine BlD ?_ | refine BlN ?_ _ | refine BlS ?_ ?_ _ | refine BlT ?_ (BlM (by assumption) ?_)) | omega | (simp only [ZZ]; omega) | go_size))
               have o9 := (HIN.out.row.below hb9q).set HTOL (own9.rs (b0 := w.heap.size))
               have HO9 := Lib.hid o9
               have HI9 : Hid (In2 w (((w9.setCell ⟨rb, ti * 3, none⟩ (.bool s9)).setCell ⟨rb, ti * 3 + 1, none⟩ (.slice A9 n9 c9)).setCell ⟨rb, ti * 3 + 2, none⟩ (.slice B9 m9 d9)) r.ng (some ⟨gN, 0, none⟩) cn (some ⟨bR, oR, none⟩) cr' nx rb N Ax cx (x.1, x2)) := (HIN.out.below hb9q).put o9.2 (o9.1.congr fun b hb => by
                 unfold upd can
                 rw [HX2.out b]
                 by_cases e : b = ti
                 · rw [if_pos e, if_pos e, e]
                 · rw [if_neg e, if_neg e])
               have HRF9 : Hid (RmF w (((w9.setCell ⟨rb, ti * 3, none⟩ (.bool s9)).setCell ⟨rb, ti * 3 + 1, none⟩ (.slice A9 n9 c9)).setCell ⟨rb, ti * 3 + 2, none⟩ (.slice B9 m9 d9)) V c AM cm (mvK R k) R AD cd k (topL r l)) := (HRG.out.below hb9q).grown o9.2 (t := 56) (fun q hq => by
                 injection hq with hq
                 subst hq
                 exact (HIN.out.row.below hb9q).tyA) (by decide) (by decide) (by decide) (by decide) (by decide) (by decide)
               clear o9 own9 hb9q
               go_wp2_with fail
               go_roundw
               case rel => exact ⟨j + 1, (x.1, x2), Ax, cx, rfl, by go_num, hjn, HI9.out, HRF9.out, HRS2.out, HRW2.out⟩
               case measure => simp [intOf]; omega
           · have hpz : plcZ x.1 s' = -1 := by unfold plcZ; rw [if_neg hm]
             rw [hpz]
             by_cases h256 : x.1.length = 256
             · have HNO : Hid (O = none) := by
                 show _ = _
                 have h1 : stepR x (s', q) = none := by unfold stepR; rw [if_pos ⟨hm, h256⟩]
                 have h2 : rowR (nx.take (j + 1)) (l, fun _ => 0) = none := by rw [hTS, rowR_snoc, HRW.out]; exact h1
                 have h3 : rowR nx (l, fun _ => 0) = none := by
                   rw [← List.take_append_drop (j + 1) nx, rowR_app, h2]; rfl
                 rw [← HR.out]
                 obtain ⟨n, hn⟩ : ∃ n, 256 - k = n + 1 := ⟨255 - k, by omega⟩
                 rw [hn, mkR_step hk, HSE.out, HNX.out, h3]
               obtain ⟨f0, f1, f2, f3, ff⟩ := chO_cells HRF7.out.b2
               have ff0 := ff 0
               have ff1 := ff 1
               have ff2 := ff 2
               have ff3 := ff 3
               have hbF := HRF7.out.bel
               have e256 : ((x.1.length : Nat) : Int) = 256 := by omega
               clear hpz hTS ff u0 u1 hm
               go_wp2_with fail
               (try simp only [Exit.inBlock, Exit.then])
               refine bodyPost_ret (v := .tuple #[cv 0 0 none 0 0 none 0 0, .slice none 0 0, .int .i64 4]) ?_ rfl ⟨?_, ?_⟩
               · rw [results_ctt rfl]
                 go_simp
               · rw [HNO.out]; rfl
               · exact (by have z0 := Below.size hbF; (try simp only [ZZ] at z0 ⊢; skip); repeat' (first | (with_reducible first | exact BlR _ _ | assumption | refine BlA ?_ ?_ _ | refine BlD ?_ | refine BlN ?_ _ | refine BlS ?_ ?_ _ | refine BlT ?_ (BlM (by assumption) ?_)) | omega | (simp only [ZZ]; omega) | go_size))
             · have e256 : ((x.1.length : Nat) : Int) ≠ 256 := by omega
               have e257 : (((x.1.length : Nat) : Int) == 256) = false := by simpa using e256
               obtain ⟨x2, hx2⟩ : ∃ x2 : Nat → Rat, ∀ b, x2 b = if b = x.1.length then x.2 b + q else x.2 b := ⟨_, fun b => rfl⟩
               have hstep : stepR x (s', q) = some (x.1 ++ [s'], x2) := by
                 unfold stepR
                 rw [if_neg (fun h => h256 h.2)]
                 unfold addS
                 rw [if_neg hm, idx_add hm]
                 congr 1
                 exact Prod.ext rfl (funext fun b => (hx2 b).symm)
               have HRS2 : Hid (RsI 70000 l (nx.take (j + 1)) (x.1 ++ [s'], x2)) := by
                 show RsI _ _ _ _
                 rw [hTS]
                 exact HRS.out.step hq0 hqs hstep
               have HRW2 : Hid (rowR (nx.take (j + 1)) (l, fun _ => 0) = some (x.1 ++ [s'], x2)) := by
                 show _ = _
                 rw [hTS, rowR_snoc, HRW.out]
                 exact hstep
               have HTOL : x.1.length < N := by have := HNE.out; omega
               obtain ⟨W8, hW8⟩ : ∃ W8, W8 = w7.alloc (.cells #[.int .i64 ((s'.1 : Nat) : Int), .slice B2 r.ng d2] 45) := ⟨_, rfl⟩
               have hb78 : Below w7.heap.size w7 W8 := by rw [hW8]; exact (Below.refl _ _).alloc (Nat.le_refl _) _
               have hz78 : W8.heap.size = w7.heap.size + 1 := by rw [hW8]; simp
               have HIN8 := Lib.hid (HIN7.out.below hb78)
               have HRF8 := Lib.hid (HRF7.out.below hb78)
               have HRK8 := Lib.hid (HRK7.out.below hb78)
               have v0 : W8.cell? ⟨w7.heap.size, 0, none⟩ = some (.int .i64 ((s'.1 : Nat) : Int)) := by rw [hW8]; exact (World.cell?_alloc_at _ _ _ _ rfl).trans rfl
               have v1 : W8.cell? ⟨w7.heap.size, 1, none⟩ = some (.slice B2 r.ng d2) := by rw [hW8]; exact (World.cell?_alloc_at _ _ _ _ rfl).trans rfl
               have hbs : w.heap.size ≤ W8.heap.size := by omega
               subst hW8
               clear hpz hstep hTS hm hb78
               go_wp2_with (first | (at_builtin; refine wpList_appSt rfl (.tmp 58) (.tmp 60) rfl s' (by first | rfl | simp [Act.eval]) HIN8.out.st w7.heap.size (.slice B2 r.ng d2) HRK8.out (by first | rfl | simp [Act.eval]) v0 v1 (by omega) hbs ?_; intro g8 c8 wq os8 hg8 hz8) | fail)
               have hw8 := hg8.size
               simp only [World.size_alloc] at hw8
               have HIN := Lib.hid (HIN8.out.app hg8 os8 hz8)
               have HRG : Hid (RmF w wq V c AM cm (mvK R k) R AD cd k (topL r l)) := HRF8.out.grown hg8 (t := 45) (fun q hq => HIN8.out.st.ty q hq) (by decide) (by decide) (by decide) (by decide) (by decide) (by decide)
               have hlen : (x.1 ++ [s']).length = x.1.length + 1 := by simp
               clear os8 hg8 hz8 v0 v1 HIN8 HRF8 HRK8 u0 u1
               obtain ⟨s3, A3, n3, c3', B3, m3, d3, g0, g1, g2, r3⟩ := HIN.out.row.at_ (k := x.1.length) HTOL
               obtain ⟨RR, hrr1, hrr2⟩ := HIN.out.rat
               obtain ⟨bR, oR, s4, A4, n4, c4', B4, m4, d4, eR, hbR, f0, f1, f2, r4⟩ := hrr1.ra.at_ (k := j) (by rw [List.length_map]; exact hjn)
               obtain ⟨hv4, hl4, hl4'⟩ := hrr2 j (by rw [List.length_map]; exact hjn)
               have hq4 : valR (RR j) = q := by
                 rw [hv4, List.getElem_map]
                 exact congrArg Prod.snd HY.out
               have q3 := r3.canQ (L := 10000000) ((HRS.out.sz x.1.length).more (by have := HTK.out; omega))
               have q4 : RdQ wq 10000000 (rv s4 A4 n4 c4' B4 m4 d4) q := by
                 have := r4.rdq (L := 10000000) (by omega) (by omega)
                 rw [hq4] at this
                 exact this
               have KA := Lib.hid (fun X (hX : Below wq.heap.size wq X) => raddQ (q3.below hX) (q4.below hX) (by omega) (by omega))
               have hfz := HIN.out.row.frozen
               obtain ⟨hrb1, hrb2⟩ := HIN.out.row.tyA
               have hrbl := hrb2.lt
               have z0 : (0 : Int) ≤ ((x.1.length : Nat) : Int) := by omega
               have z1 : ((x.1.length : Nat) : Int) < (N : Int) := by have := HTOL; omega
               have z2 : (0 : Int) ≤ (j : Int) := by omega
               have z3 : (j : Int) < (nx.length : Int) := by omega
               have HX2 := Lib.hid hx2
               clear r3 r4 hrr1 hrr2 hv4 hl4 hl4' hq4 q3 q4 hrb2 hx2
               subst eR
               generalize hTOe : x.1.length = ti at *
               go_upto_region 16 with fail
               go_region_with ((go_at_call 53; (with_reducible refine (KA.out _ (by (skip); repeat' (first | (with_reducible first | exact BlR _ _ | assumption | refine BlA ?_ ?_ _ | refine BlD ?_ | refine BlN ?_ _ | refine BlS ?_ ?_ _ | refine BlT ?_ (BlM (by assumption) ?_)) | omega | (simp only [ZZ]; omega) | go_size))).mono ?_); rintro e w9 ⟨⟨v9, rfl, own9⟩, hb9⟩; have hb9z := Below.size hb9; (try simp only [ZZ] at hb9z); obtain ⟨hb9c0, hb9f0⟩ := bbo hb9 (rb) (by first | omega | (simp only [ZZ]; omega)); have hb9l0 : rb < (w9).heap.size := (by omega)); obtain ⟨s9, A9, n9, c9, B9, m9, d9, rfl⟩ := own9.form)
               all_goals
                 have hb9q : Below wq.heap.size wq w9 := (by have z0 := Below.size hb9; (try simp only [ZZ] at z0 ⊢; skip); repeat' (first | (with_reducible first | exact BlR _ _ | assumption | refine BlA ?_ ?_ _ | refine BlD ?_ | refine BlN ?_ _ | refine BlS ?_ ?_ _ | refine BlT ?_ (BlM (by assumption) ?_)) | omega | (simp only [ZZ]; omega) | go_size))
                 have o9 := (HIN.out.row.below hb9q).set HTOL (own9.rs (b0 := w.heap.size))
                 have HO9 := Lib.hid o9
                 have HI9 : Hid (In2 w (((w9.setCell ⟨rb, ti * 3, none⟩ (.bool s9)).setCell ⟨rb, ti * 3 + 1, none⟩ (.slice A9 n9 c9)).setCell ⟨rb, ti * 3 + 2, none⟩ (.slice B9 m9 d9)) r.ng (some ⟨gN, 0, none⟩) cn (some ⟨bR, oR, none⟩) cr' nx rb N (some ⟨g8, 0, none⟩) c8 ((x.1 ++ [s']), x2)) := (HIN.out.below hb9q).put o9.2 (o9.1.congr fun b hb => by
                   unfold upd can
                   rw [HX2.out b]
                   by_cases e : b = ti
                   · rw [if_pos e, if_pos e, e]
                   · rw [if_neg e, if_neg e])
                 have HRF9 : Hid (RmF w (((w9.setCell ⟨rb, ti * 3, none⟩ (.bool s9)).setCell ⟨rb, ti * 3 + 1, none⟩ (.slice A9 n9 c9)).setCell ⟨rb, ti * 3 + 2, none⟩ (.slice B9 m9 d9)) V c AM cm (mvK R k) R AD cd k (topL r l)) := (HRG.out.below hb9q).grown o9.2 (t := 56) (fun q hq => by
                   injection hq with hq
                   subst hq
                   exact (HIN.out.row.below hb9q).tyA) (by decide) (by decide) (by decide) (by decide) (by decide) (by decide)
                 clear o9 own9 hb9q
                 go_wp2_with fail
                 go_roundw
                 case rel => exact ⟨j + 1, ((x.1 ++ [s']), x2), (some ⟨g8, 0, none⟩), c8, (by show _ = Value.slice _ (x.1 ++ [s']).length _; rw [hlen]), by go_num, hjn, HI9.out, HRF9.out, HRS2.out, HRW2.out⟩
                 case measure => simp [intOf]; omega
         · have hje : j = nx.length := by omega
           have hxw : rowR nx (l, fun _ => 0) = some x := by
             have := HRW.out
             rwa [hje, List.take_of_length_le (Nat.le_refl _)] at this
           have hxs : RsI 70000 l nx x := by
             have := HRS.out
             rwa [hje, List.take_of_length_le (Nat.le_refl _)] at this
           obtain ⟨R', hR'⟩ : ∃ R' : Nat → Nat → Rat, R' = fun a b => if a = k then x.2 b else R a b := ⟨_, rfl⟩
           have HI2 : Hid (MkI 70000 48 (fun s => StOk r s.1 s.2) NX S (k + 1) x.1 R') := by
             show MkI _ _ _ _ _ _ _ _
             rw [hR']
             exact HI.out.step hk hnx2.out hnl2.out (by rw [HSE.out, HNX.out]; exact hxw)
           have HR2 : Hid (mkR NX (256 - (k + 1)) (k + 1) x.1 R' = O) := by
             show _ = _
             rw [← HR.out]
             obtain ⟨n, hn⟩ : ∃ n, 256 - k = n + 1 := ⟨255 - k, by omega⟩
             rw [hn, mkR_step hk, HSE.out, HNX.out, hxw, hR', show 256 - (k + 1) = n by omega]
           have HRK : Hid (R' k = x.2 ∧ ∀ a, a < k → R' a = R a) := by
             show _ ∧ _
             rw [hR']
             exact ⟨funext fun b => if_pos rfl, fun a ha => funext fun b => if_neg (by omega)⟩
           have HMV0 : Hid (mvK R' k = mvK R k) := mvK_congr fun a ha => HRK.out.2 a ha
           have HMV1 : Hid (mvK R' (k + 1) = mvK R' k ++ rowK x.2 k N) := by
             show _ = _
             rw [mvK_succ, HRK.out.1]
             congr 1
             have hz : ∀ b, x.1.length ≤ b → x.2 b = 0 := hxs.out
             have hN3 : x.1.length ≤ N := by have := rsi_len hxs; have := HNE.out; omega
             rw [rowK_more hz 256 hx256, rowK_more hz N hN3]
           have HXZ : Hid (∀ b, Sz 10000000 (x.2 b) ∧ 0 ≤ x.2 b) := fun b => ⟨(hxs.sz b).more (by omega), hxs.nn b⟩
           have HPRE : Hid (l <+: x.1) := hxs.pre
           have HRF3 : Hid (RmF w wi V c AM cm (mvK R' k ++ rowK x.2 k 0) R' AD cd k (topL r x.1)) := by
             have e0 : mvK R' k ++ rowK x.2 k 0 = mvK R k := by
               rw [HMV0.out]
               show mvK R k ++ [] = _
               rw [List.append_nil]
             show RmF _ _ _ _ _ _ _ _ _ _ _ _
             rw [e0]
             refine HRF1.out.congr (fun p hp => ?_) (fun j hj => ?_)
             · rw [HRK.out.2 p.1 (mvK_fst p hp)]
             · rw [HTL.out, HTL.out]
               have : x.1.getD j (0, []) = l.getD j (0, []) := by
                 obtain ⟨t, ht⟩ := HPRE.out
                 rw [← ht, List.getD_eq_getElem?_getD, List.getD_eq_getElem?_getD, List.getElem?_append_left (by omega)]
               rw [this]
           have HROW := Lib.hid HIN1.out.row
           have HSTX := Lib.hid HIN1.out.st
           have hkN : k < N := by have := HNE.out; omega
           have hmvl : (mvK R' k).length ≤ 65536 := Nat.le_trans (mvK_len R' k) (by have := Nat.mul_le_mul_right 256 (show k ≤ 256 by omega); omega)
           have j5 : ¬ (j : Int) < (nx.length : Int) := by omega
           clear HIN1 HRF1 HRS HRW hxw hxs hR' HR HI HSE HNX
           go_wp2_with fail
           go_loopw [77] (fun bv wr => ∃ (b : Nat) (AM : Option Addr) (cm : Nat), bv = .int .i64 (b : Int) ∧ b ≤ N ∧ RmF w wr V c AM cm (mvK R' k ++ rowK x.2 k b) R' AD cd k (topL r x.1) ∧ OwR wr w.heap.size (some ⟨rb, 0, none⟩) N N (can x.2) ∧ OwS wr w.heap.size Ax cx r.ng x.1) (fun bv _ => N - (intOf bv).toNat)
           case atStart => exact ⟨0, AM, cm, rfl, Nat.zero_le _, HRF3.out, HROW.out, HSTX.out⟩
           case round =>
             clear HRF3 HROW HSTX
             obtain ⟨b, AM, cm, rfl, hb, rf, row, os⟩ := hrel
             obtain ⟨w9, rfl⟩ : ∃ w9 : World, w9 = wr := ⟨_, rfl⟩
             have HRF := Lib.hid rf
             have HROW := Lib.hid row
             have HOS := Lib.hid os
             have hbw9 := rf.bel
             have hz9 := hbw9.size
             clear rf row os
             by_cases hbN : b < N
             · obtain ⟨s3, A3, n3, c3', B3, m3, d3, g0, g1, g2, r3⟩ := HROW.out.at_ hbN
               obtain ⟨hxz, hxn⟩ := HXZ.out b
               have hRS : Hid (rowK x.2 k (b + 1) = rowK x.2 k b ++ if k ≠ b ∧ 0 < x.2 b then [(k, b)] else []) := rowK_succ _ _ _
               have i5 : (0 : Int) ≤ (b : Int) := by omega
               have i6 : (b : Int) < (N : Int) := by omega
               obtain ⟨W2, hW2⟩ : ∃ W2, W2 = w9.alloc (.cells #[.bool s3, .slice A3 n3 c3', .slice B3 m3 d3] 56) := ⟨_, rfl⟩
               have hb92 : Below w9.heap.size w9 W2 := by rw [hW2]; exact (Below.refl _ _).alloc (Nat.le_refl _) _
               have hz92 : W2.heap.size = w9.heap.size + 1 := by rw [hW2]; simp
               have t0 : W2.cell? ⟨w9.heap.size, 0, none⟩ = some (.bool s3) := by rw [hW2]; exact (World.cell?_alloc_at _ _ _ _ rfl).trans rfl
               have t1 : W2.cell? ⟨w9.heap.size, 1, none⟩ = some (.slice A3 n3 c3') := by rw [hW2]; exact (World.cell?_alloc_at _ _ _ _ rfl).trans rfl
               have t2 : W2.cell? ⟨w9.heap.size, 2, none⟩ = some (.slice B3 m3 d3) := by rw [hW2]; exact (World.cell?_alloc_at _ _ _ _ rfl).trans rfl
               have r32 := r3.kp (Kp.of_below hb92)
               have HR3 := Lib.hid r32
               have HRF2 := Lib.hid (HRF.out.below hb92)
               have HROW2 := Lib.hid (HROW.out.below hb92)
               have HOS2 := Lib.hid (HOS.out.below hb92)
               have KSg := Lib.hid (rsignQ (r32.canQ hxz) (by omega) (by omega))
               have HW2 := Lib.hid hW2
               clear hW2 r3 r32 hb92
               go_upto_region 21 with fail
               rw [← HW2.out]
               clear HW2 g0 g1 g2
               by_cases hbk : b = k
               · have hE : Hid (rowK x.2 k (b + 1) = rowK x.2 k b) := by show _ = _; rw [hRS.out, if_neg (fun h => h.1 hbk.symm), List.append_nil]
                 have e1 : (((b : Nat) : Int) != ((k : Nat) : Int)) = false := by simp [hbk]
                 clear hRS hbk
                 go_wp2_with fail
                 go_roundw
                 case rel => exact ⟨b + 1, AM, cm, by go_num, hbN, by rw [hE.out]; exact HRF2.out, HROW2.out, HOS2.out⟩
                 case measure => simp [intOf]; omega
               · have e1 : (((b : Nat) : Int) != ((k : Nat) : Int)) = true := by rw [bne_iff_ne]; omega
                 by_cases hp : 0 < x.2 b
                 · have hsg : sgnQ (x.2 b) = 1 := sgn_pos hp
                   rw [hsg] at KSg
                   obtain ⟨P, hPe⟩ : ∃ P, P = mvK R' k ++ rowK x.2 k b := ⟨_, rfl⟩
                   have hE : Hid (mvK R' k ++ rowK x.2 k (b + 1) = P ++ [(k, b)]) := by
                     show _ = _
                     rw [hRS.out, if_pos ⟨fun h => hbk h.symm, hp⟩, hPe, List.append_assoc]
                   have hPN : Hid ((k, b) ∉ P) := fun hm => by
                     rw [hPe] at hm
                     rcases List.mem_append.1 hm with hm | hm
                     · have := mvK_fst _ hm
                       exact absurd this (Nat.lt_irrefl _)
                     · have := (rowK_mem _ hm).2
                       exact absurd this (Nat.lt_irrefl _)
                   have hPL : P.length ≤ 100000 := by
                     rw [hPe, List.length_append]
                     have := rowK_len x.2 k b
                     omega
                   have HRFP : Hid (RmF w W2 V c AM cm P R' AD cd k (topL r x.1)) := by rw [hPe]; exact HRF2.out
                   have HV3 : Hid (RdS W2 w.heap.size (rv s3 A3 n3 c3' B3 m3 d3) (canR (R' k b))) := by
                     show RdS _ _ _ _
                     rw [HRK.out.1]
                     exact HR3.out
                   clear hRS hp hsg hxz hxn hPe HRF2 HR3 hmvl
                   go_wp2_with fail
                   refine KSg.out.mono ?_
                   rintro z w5 ⟨rfl, hb5⟩
                   have hz5 := hb5.size
                   have HRF5 := Lib.hid (HRFP.out.below hb5)
                   have HROW5 := Lib.hid (HROW2.out.below hb5)
                   have HOS5 := Lib.hid (HOS2.out.below hb5)
                   have HV5 := Lib.hid (HV3.out.kp (Kp.of_below hb5))
                   have s0 := (below_at hb5 w9.heap.size 0 (by omega)).trans t0
                   have s1 := (below_at hb5 w9.heap.size 1 (by omega)).trans t1
                   have s2 := (below_at hb5 w9.heap.size 2 (by omega)).trans t2
                   obtain ⟨pl, hpl⟩ : ∃ pl, P.length = pl := ⟨_, rfl⟩
                   have q2 := (chO_cells HRF5.out.bc).2.2.1
                   rw [hpl] at q2 hPL
                   have HPL := Lib.hid hpl
                   obtain ⟨W6, hW6⟩ : ∃ W6, W6 = w5.alloc (.cells #[.int .i64 ((k : Nat) : Int), .int .i64 ((b : Nat) : Int), .bool s3, .slice A3 n3 c3', .slice B3 m3 d3] 65) := ⟨_, rfl⟩
                   have hb56 : Below w5.heap.size w5 W6 := by rw [hW6]; exact (Below.refl _ _).alloc (Nat.le_refl _) _
                   have hz56 : W6.heap.size = w5.heap.size + 1 := by rw [hW6]; simp
                   have HRF6 := Lib.hid (HRF5.out.below hb56)
                   have HROW6 := Lib.hid (HROW5.out.below hb56)
                   have HOS6 := Lib.hid (HOS5.out.below hb56)
                   have HV6 := Lib.hid (HV5.out.kp (Kp.of_below hb56))
                   have HC6 : Hid (∀ j u, (cellM ((k, b).1 : Nat) ((k, b).2 : Nat) (rv s3 A3 n3 c3' B3 m3 d3))[j]? = some u → W6.cell? ⟨w5.heap.size, j, none⟩ = some u) := fun j u hu => by
                     rw [hW6, World.cell?_alloc_at _ _ _ _ rfl]
                     match j, hu with
                     | 0, hu => exact hu
                     | 1, hu => exact hu
                     | 2, hu => exact hu
                     | 3, hu => exact hu
                     | 4, hu => exact hu
                     | j + 5, hu => simp [cellM, c3] at hu
                   have hbs : w.heap.size ≤ W6.heap.size := by omega
                   have q6 := (below_at hb56 c 2 (Array.getElem?_eq_some_iff.1 HRF5.out.bc).1).trans q2
                   subst hW6
                   clear hb5 hb56 hpl HRF5 HROW5 HOS5 HV5 HRFP HV3 t0 t1 t2 KSg HROW2 HOS2
                   go_wp2_with (first | (at_builtin; refine wpList_appMvP rfl (.tmp 91) (.tmp 96) rfl pl HPL.out (by first | rfl | simp [Act.eval]) HRF6.out.mv (k, b) hPN.out (rv s3 A3 n3 c3' B3 m3 d3) HV6.out w5.heap.size (by first | rfl | simp [Act.eval]) HC6.out (by omega) hbs ?_; intro g8 c8 w8 om8 hg8; have om8' := Lib.hid om8; have hg8' := Lib.hid hg8; obtain ⟨hpush, hcl, hfzc⟩ := HRF6.out.pushM (Below.refl _ _) (by rw [HPL.out]; exact hg8) om8; rw [HPL.out] at hpush hcl; have HPU := Lib.hid hpush; clear hpush om8 hg8) | fail)
                   have HREL : Hid (RmF w (w8.setCell ⟨c, 2, none⟩ (.slice (some ⟨g8, 0, none⟩) (pl + 1) c8)) V c (some ⟨g8, 0, none⟩) c8 (mvK R' k ++ rowK x.2 k (b + 1)) R' AD cd k (topL r x.1) ∧ OwR (w8.setCell ⟨c, 2, none⟩ (.slice (some ⟨g8, 0, none⟩) (pl + 1) c8)) w.heap.size (some ⟨rb, 0, none⟩) N N (can x.2) ∧ OwS (w8.setCell ⟨c, 2, none⟩ (.slice (some ⟨g8, 0, none⟩) (pl + 1) c8)) w.heap.size Ax cx r.ng x.1) := by
                     show _ ∧ _
                     rw [hE.out]
                     refine ⟨HPU.out, ?_⟩
                     have hty := HRF6.out.mv.ty
                     have hg9 := hg8'.out
                     rw [← HPL.out] at hg9
                     have hni : NotI _ w.heap.size (Value.slice AM P.length cm).ownBlock := fun q hq => NotI.of_ty (hty q hq).2 (hty q hq).1 (by decide) (by decide) q rfl
                     have r8 := HROW6.out.keptT hg9 hni fun e => absurd (ty_one (hty rb e).2 HROW6.out.tyA.2) (by decide)
                     have o8 := HOS6.out.grown hg9 hni fun q hq ht => absurd (ty_one (hty q hq).2 ht) (by decide)
                     have htc : TyB 32 w8 c := by
                       obtain ⟨cur, fz, e⟩ := HRF6.out.tc
                       exact ⟨cur, fz, (hg9.block c (Array.getElem?_eq_some_iff.1 e).1 fun e2 => absurd (ty_one (hty c e2.symm).2 HRF6.out.tc) (by decide)).trans e⟩
                     have hg5 := grownBy_setK w8 c 2 (.slice (some ⟨g8, 0, none⟩) (pl + 1) c8)
                     have hlo := HRF6.out.lo
                     have hn5 : NotI w8 w.heap.size (some c) := NotI.of_ty htc (by omega) (by decide) (by decide)
                     refine ⟨r8.keptT hg5 hn5 fun e => ?_, o8.grown hg5 hn5 fun q hq ht => ?_⟩
                     · injection e with e
                       rw [e] at htc
                       exact absurd (ty_one htc r8.tyA.2) (by decide)
                     · injection hq with hq
                       subst hq
                       exact absurd (ty_one htc ht) (by decide)
                   clear om8' hg8' HRF6 HROW6 HOS6 HV6 HC6 HPU q2 q6
                   go_wp2_with fail
                   go_roundw
                   case rel => exact ⟨b + 1, some ⟨g8, 0, none⟩, c8, by go_num, hbN, HREL.out⟩
                   case measure => simp [intOf]; omega
                 · have hz0 : x.2 b = 0 := Rat.le_antisymm (Rat.not_lt.1 hp) hxn
                   rw [hz0] at KSg
                   have e0 : sgnQ 0 = 0 := rfl
                   rw [e0] at KSg
                   have hE : Hid (rowK x.2 k (b + 1) = rowK x.2 k b) := by show _ = _; rw [hRS.out, if_neg (fun h => hp h.2), List.append_nil]
                   clear hRS hp hz0 hxz hxn e0
                   go_wp2_with fail
                   refine KSg.out.mono ?_
                   rintro z w5 ⟨rfl, hb5⟩
                   have HREL : Hid (RmF w w5 V c AM cm (mvK R' k ++ rowK x.2 k (b + 1)) R' AD cd k (topL r x.1) ∧ OwR w5 w.heap.size (some ⟨rb, 0, none⟩) N N (can x.2) ∧ OwS w5 w.heap.size Ax cx r.ng x.1) := by
                     show _ ∧ _
                     rw [hE.out]
                     exact ⟨HRF2.out.below hb5, HROW2.out.below hb5, HOS2.out.below hb5⟩
                   clear hb5
                   go_wp2_with fail
                   go_roundw
                   case rel => exact ⟨b + 1, AM, cm, by go_num, hbN, HREL.out⟩
                   case measure => simp [intOf]; omega
             · obtain rfl : b = N := by omega
               have hkx : k < x.1.length := by omega
               have hxk : x.1[k] = s := by
                 obtain ⟨t, ht⟩ := HPRE.out
                 have h1 := HSK.out
                 rw [List.getElem?_eq_getElem hk] at h1
                 injection h1 with h1
                 have : x.1[k]? = l[k]? := by rw [← ht, List.getElem?_append_left hk]
                 rw [List.getElem?_eq_getElem hkx, List.getElem?_eq_getElem hk] at this
                 injection this with this
                 rw [this, h1]
               obtain ⟨gx, Bx, dx, eX, hgx, hgxl, c0, c1', rkx⟩ := HOS.out.at_ hkx
               rw [hxk] at c0 rkx
               rw [HF.out] at c0
               have hbd : Below w.heap.size w w9.drew := hbw9.trans ((Below.refl _ _).drew)
               have KT0 := KTo.out w9.drew s.1 s.2 Bx dx hbd HSTS.out ((rkx.below ((Below.refl w9.heap.size w9).drew)).rj)
               rw [HF.out] at KT0
               have hbv : topL r x.1 k = vaD r.dy F s.2 r.ng r.top.toNat := by
                 rw [HTL.out, List.getD_eq_getElem?_getD, List.getElem?_eq_getElem hkx, hxk]
                 show vaD r.dy s.1 s.2 r.ng r.top.toNat = _
                 rw [HF.out]
               rw [← hbv] at KT0
               have HDC : Hid (∀ j, j < k + 1 → (if j = k then topL r x.1 k else topL r x.1 j) = topL r x.1 j) := fun j hj => by
                 split
                 · rename_i e; rw [e]
                 · rfl
               obtain ⟨bv, hbve⟩ : ∃ bv, topL r x.1 k = bv := ⟨_, rfl⟩
               rw [hbve] at KT0 HDC
               have KT := Lib.hid KT0
               subst eX
               have HRFN : Hid (RmF w w9 V c AM cm (mvK R' (k + 1)) R' AD cd k (topL r x.1)) := by rw [HMV1.out]; exact HRF.out
               obtain ⟨y0, y1, y2, y3, y4⟩ := HVC.out w9 HRF.out.b1
               have q3 := (chO_cells HRF.out.bc).2.2.2.1
               have qf := (chO_cells HRF.out.bc).2.2.2.2 3
               have hcl9 := (Array.getElem?_eq_some_iff.1 HRF.out.bc).1
               have hwl9 : w.heap.size < w9.heap.size := (Array.getElem?_eq_some_iff.1 HRF.out.b1).1
               have i7 : (k : Int) < ((x.1.length : Nat) : Int) := by omega
               have hb99 : Below w9.heap.size w9 w9.drew := (Below.refl _ _).drew
               have j9 : ¬ (b : Int) < (b : Int) := by omega
               clear rkx KT0 hbve hbv hxk HRF HROW HXZ HMV1 HMV0 HRK hmvl
               go_upto_region 24 with fail
               go_region_law (first
                 | (refine step_appV rfl (.tmp 101) (.tmp 108) rfl w.heap.size AD cd k (topL r x.1) (by simp [Act.eval]; done) ((HRFN.out.dn.below (Below.refl _ _).drew).below (hb5.alloc hb5.size _)) w5.heap.size bv (by simp [Act.eval]; done) (by simp [go_sem]; done) (by omega) (by simp; omega) ?_
                    intro g6 c6 w6 own6 hg6 hg6z
                    obtain ⟨hpush, hcl, hfz⟩ := HRFN.out.pushD (hb99.trans (hb5.alloc hb5.size _)) hg6 (own6.congr fun j hj => HDC.out j hj))
                 | (go_simp; (go_at_call 55; (with_reducible refine (KT.out).mono ?_); rintro e w5 ⟨rfl, hb5⟩; have hb5z := Below.size hb5; (try simp only [ZZ] at hb5z); obtain ⟨hb5c0, hb5f0⟩ := bbo hb5 (w.heap.size) (by first | omega | (simp only [ZZ]; omega)); have hb5l0 : w.heap.size < (w5).heap.size := (by omega); obtain ⟨hb5c1, hb5f1⟩ := bbo hb5 (c) (by first | omega | (simp only [ZZ]; omega)); have hb5l1 : c < (w5).heap.size := (by omega); obtain ⟨hb5c2, hb5f2⟩ := bbo hb5 (gx) (by first | omega | (simp only [ZZ]; omega)); have hb5l2 : gx < (w5).heap.size := (by omega)))
                 | fail)
               all_goals
                 have hty := (HRFN.out.dn.below ((Below.refl w9.heap.size w9).drew.trans (hb5.alloc hb5.size (.cells #[.bool bv] 4)))).tyR
                 have o2 : OwS (w5.alloc (.cells #[.bool bv] 4)) w.heap.size (some ⟨gx, 0, none⟩) cx r.ng x.1 := HOS.out.below (hb99.trans (hb5.alloc hb5.size _))
                 have o6 := o2.grown hg6 (fun q hq => NotI.of_ty (hty q hq).2 (hty q hq).1 (by decide) (by decide) q rfl) (fun q hq ht => absurd (ty_one (hty q hq).2 ht) (by decide))
                 have htc : TyB 32 w6 c := by
                   obtain ⟨cur, fz, e⟩ := hpush.tc
                   have := hpush.bc
                   by_cases h0 : c < w6.heap.size
                   · exact (HRFN.out.below (hb99.trans (hb5.alloc hb5.size (.cells #[.bool bv] 4)))).tcg hg6
                   · exact absurd (Array.getElem?_eq_some_iff.1 e).1 (by simpa using h0)
                 have o7 := o6.setC htc (by have := HRFN.out.lo; omega) 3 (.slice (some ⟨g6, 0, none⟩) (k + 1) c6)
                 have HO7 := Lib.hid o7
                 have HPU := Lib.hid hpush
                 clear o7 o6 o2 hpush hty htc own6 hg6 HOS
                 go_wp2_with fail
                 go_roundw
                 case rel => exact ⟨k + 1, x.1, R', some ⟨gx, 0, none⟩, cx, AM, cm, some ⟨g6, 0, none⟩, c6, rfl, by go_num, hkx, HO7.out, HPU.out, HI2.out, HR2.out⟩
                 case measure => simp [intOf]; omega
   · obtain rfl : k = l.length := by omega
     have hOe : O = some (l, R) := by rw [← HR.out]; exact mkR_stop (Nat.le_refl _)
     have hpr : mvK R l.length = prs l.length R := mvK_prs hl256 fun a b hb => HI.out.out a b (.inr hb)
     have HRFE : Hid (RmF w wo V c AM cm (prs l.length R) R AD cd l.length (topL r l)) := by rw [← hpr]; exact HRF.out
     obtain ⟨pl, hpl⟩ : ∃ pl, (prs l.length R).length = pl := ⟨_, rfl⟩
     have hbc := HRFE.out.bc
     rw [hpl] at hbc
     obtain ⟨q0, q1, q2, q3, qf⟩ := chO_cells hbc
     obtain ⟨f0, f1, f2, f3, ff⟩ := chO_cells HRFE.out.b2
     have qf0 := qf 0
     have ff0 := ff 0
     have ff1 := ff 1
     have ff2 := ff 2
     have ff3 := ff 3
     have hlo := HRFE.out.lo
     have tc1 : TyB 32 wo c := HRFE.out.tc
     have tc2 : TyB 32 wo (w.heap.size + 1) := ⟨_, _, HRFE.out.b2⟩
     have HMV := Lib.hid HRFE.out.mv
     have HDN := Lib.hid HRFE.out.dn
     have HPL := Lib.hid hpl
     have ne1 : ¬ c = w.heap.size + 1 := by omega
     have ne2 : ¬ w.heap.size + 1 = c := by omega
     have HOSE := Lib.hid HOS.out
     have i9 : ¬ ((l.length : Nat) : Int) < ((l.length : Nat) : Int) := by omega
     have HOE := Lib.hid hOe
     clear hOe hpr HRFE HRF HOS HI HR hbc ff qf hpl
     go_wp2_with fail
     (try simp only [Exit.inBlock, Exit.then])
     refine bodyPost_ret (v := .tuple #[cv (l.length : Nat) 0 AM pl cm AD l.length cd, .slice As l.length cs, .int .i64 0]) ?_ rfl ⟨?_, ?_⟩
     · rw [results_ctt rfl]
       go_simp
     · rw [HOE.out]
       refine ⟨AM, cm, AD, cd, As, cs, by rw [HPL.out], ?_, ?_, ?_⟩
       · repeat' (first | (with_reducible exact HMV.out) | (with_reducible refine OwPr.setC ?_ ?_ ?_ _ _) | (with_reducible exact tc1) | (with_reducible exact tc2) | (with_reducible refine TyB.set ?_ _ _ _) | omega)
       · repeat' (first | (with_reducible exact HDN.out) | (with_reducible refine OwVb.setC ?_ ?_ _ _) | (with_reducible exact tc1) | (with_reducible exact tc2) | (with_reducible refine TyB.set ?_ _ _ _) | omega)
       · repeat' (first | (with_reducible exact HOSE.out) | (with_reducible refine OwS.setC ?_ ?_ ?_ _ _) | (with_reducible exact tc1) | (with_reducible exact tc2) | (with_reducible refine TyB.set ?_ _ _ _) | omega)
     · exact (by have z0 := Below.size hbw; (try simp only [ZZ] at z0 ⊢; skip); repeat' (first | (with_reducible first | exact BlR _ _ | assumption | refine BlA ?_ ?_ _ | refine BlD ?_ | refine BlN ?_ _ | refine BlS ?_ ?_ _ | refine BlT ?_ (BlM (by assumption) ?_)) | omega | (simp only [ZZ]; omega) | go_size))
end
end Go.Proofs.YtoiopnmphbnjaaaGreatDoor
