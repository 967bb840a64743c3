/- Contracts and lemmas for the given statements. Conditions: those alone that each names. -/
import Derived.Test.YtoiopnmphbnjaaaGreatDoorJDynMa
import Derived.Test.YtoiopnmphbnjaaaGreatDoorJDynW11
namespace Go.Proofs.YtoiopnmphbnjaaaGreatDoor
open Go.RowKit
open Go.Maps Go.WideMaps
set_option linter.unusedSimpArgs false
set_option linter.unusedVariables false
set_option maxRecDepth 20000
attribute [local irreducible] nv wp win plainB validR valR canR kyL
/-! ## chain.Make -/
theorem Kp.setK {w w' : World} {b0 g o : Nat} {u : Value} (h : Kp b0 w w') (ht : TyB 56 w' g) (hb : b0 ≤ g) : Kp b0 w (w'.setCell ⟨g, o, none⟩ u) := h.trans (Kp.set1 ht (by decide) hb o u)
theorem TyB.alloc_ {t : TypeId} {w : World} {g : Nat} (h : TyB t w g) (o : Obj) : TyB t (w.alloc o) g := h.below ((Below.refl _ _).alloc (Nat.le_refl _) o) h.lt
theorem TyB.drew_ {t : TypeId} {w : World} {g : Nat} (h : TyB t w g) : TyB t w.drew g := h
theorem TyB.newE {t : TypeId} {w : World} {g : Nat} {cs : Array Value} (h : g = w.heap.size) : TyB t (w.alloc (.cells cs t)) g := by rw [h]; exact TyB.new w cs
theorem grownBy_drewK (w : World) (r : Option Nat) : w.grownBy w.drew r := ⟨rfl, rfl, rfl, Nat.le_refl _, fun _ _ _ => rfl⟩
def topL (r : DyR) (l : List DS) (j : Nat) : Bool := vaD r.dy (l.getD j (0, [])).1 (l.getD j (0, [])).2 r.ng r.top.toNat
/-- what Make answers for a tree that is accepted -/
def MakeRet (b0 : Nat) (r : DyR) (o : Option (List DS × (Nat → Nat → Rat))) (e : Ending) (w' : World) : Prop :=
 match o with
 | none => e = .returned (.tuple #[cv 0 0 none 0 0 none 0 0, .slice none 0 0, .iface 80 (.int .i64 4)])
 | some z => ∃ AM cm AD cd As cs, e = .returned (.tuple #[cv (z.1.length : Nat) 0 AM (prs z.1.length z.2).length cm AD z.1.length cd, .slice As z.1.length cs, .nilIface]) ∧ OwPr w' b0 AM cm (prs z.1.length z.2) z.2 ∧ OwVb w' b0 AD cd z.1.length (topL r z.1) ∧ OwS w' b0 As cs r.ng z.1
theorem StOk.memB {r : DyR} {F : Nat} {M : List Int} (h : StOk r F M) (ok : DyOk r) : ∀ i, i < r.ng → -1 ≤ M.getD i 0 ∧ M.getD i 0 ≤ 16 := fun i hi => by
 have hm := h.m i hi
 have hl := (dgAg_len (ok.gate hi).ln).2
 by_cases h6 : r.kd i = 6
 · have := hm.k6 h6
   omega
 · by_cases h7 : r.kd i = 7
   · have := hm.k7 h7
     omega
   · have := hm.k0 h6 h7
     omega
theorem StOk.f24 {r : DyR} {F : Nat} {M : List Int} (h : StOk r F M) (ok : DyOk r) : F < 16777216 := by
 have h1 := h.f
 have h2 := ok.v2
 have : 2 ^ r.v.toNat ≤ 2 ^ 24 := Nat.pow_le_pow_right (by omega) (by omega)
 omega
section
variable {w : World} {AG AF AR : Option Addr} {cg cf cr : Nat} {r : DyR}
set_option maxHeartbeats 16000000 in
theorem make_ok (h : DyI w AG AF AR r) (hs : DyS r) (hc : codeD r = 0) (ts : TrS r) (ht : TabW w) :
   Calls Tryz.prog 12 #[dyv r AG cg AF cf AR cr] w fun e w' => MakeRet w.heap.size r r.tr.make e w' ∧ Below w.heap.size w w' := by
 have ok := codeD_ok hc
 have n64 := ok.ng
 obtain ⟨S, hS⟩ : ∃ S, S = setl r.dy 0 (List.replicate r.ng 0) := ⟨_, rfl⟩
 have stS : StOk r S.1 S.2 := by rw [hS]; exact start_ok ok
 have KSt : Hid (∀ X, Below w.heap.size w X → Calls Tryz.prog 20 #[dyv r AG cg AF cf AR cr] X fun e w' => (∃ A c, e = .returned (.tuple #[.agg #[.int .i64 (S.1 : Nat), .slice A r.ng c], .nilIface]) ∧ OwJ w' X.heap.size A c r.ng (fun i => S.2.getD i 0)) ∧ Below X.heap.size X w') := by
   show ∀ _, _
   intro X hX
   have := dstart_any (cg := cg) (cf := cf) (cr := cr) (h.below hX) hs
   rw [hc, ← hS] at this
   refine this.mono fun e w' ⟨h1, h2⟩ => ⟨?_, h2⟩
   unfold StRet at h1
   rw [if_pos rfl] at h1
   exact h1
 have HH := Lib.hid h
 have HS := Lib.hid hs
 have HC := Lib.hid hc
 have HTS := Lib.hid ts
 have HT := Lib.hid ht
 have HOK := Lib.hid ok
 have HSS := Lib.hid hS
 have HST := Lib.hid stS
 unfold dyv at KSt ⊢
 clear h hs hc ts ht ok hS stS
 go_enter Tryz.func12, Tryz.ntmps12
 go_wp2_with fail
 refine (KSt.out _ (by (skip); repeat' (first | (with_reducible first | exact BlR _ _ | assumption | refine BlA ?_ ?_ _ | refine BlD ?_ | refine BlN ?_ _ | refine BlS ?_ ?_ _ | refine BlT ?_ (BlM (by assumption) ?_)) | omega | (simp only [ZZ]; omega) | go_size))).mono ?_
 rintro e w1 ⟨⟨A1, c1, rfl, oj1⟩, hb1⟩
 have hb1z := hb1.size
 simp only [World.size_alloc] at hb1z
 have hB1 : w1.heap[w.heap.size]? = some (.cells #[.int .i64 r.v, .slice AG r.ng cg, .int .i64 r.top, .slice AF r.nf cf, .slice AR r.nr cr] 25 (0, 0)) := (hb1.block w.heap.size (by simp; omega)).trans ((Below.heap_alloc _ _ _ (by simp)).trans (heap_alloc_new w _))
 have hB2 : w1.heap[w.heap.size + 1]? = some (chO 0 none 0 0 none 0 0) := (hb1.block (w.heap.size + 1) (by simp)).trans (by
   have := heap_alloc_new (w.alloc (.cells #[.int .i64 r.v, .slice AG r.ng cg, .int .i64 r.top, .slice AF r.nf cf, .slice AR r.nr cr] 25)) (chO 0 none 0 0 none 0 0)
   rw [World.size_alloc] at this
   exact this)
 have hbA : Below w.heap.size w w1 := (by have z0 := Below.size hb1; (try simp only [ZZ] at z0 ⊢; skip); repeat' (first | (with_reducible first | exact BlR _ _ | assumption | refine BlA ?_ ?_ _ | refine BlD ?_ | refine BlN ?_ _ | refine BlS ?_ ?_ _ | refine BlT ?_ (BlM (by assumption) ?_)) | omega | (simp only [ZZ]; omega) | go_size))
 have x0 : w1.cell? ⟨w.heap.size, 0, none⟩ = some (.int .i64 r.v) := by rw [cell_of_row w1 _ _ _ _ _ hB1]; rfl
 have x1 : w1.cell? ⟨w.heap.size, 1, none⟩ = some (.slice AG r.ng cg) := by rw [cell_of_row w1 _ _ _ _ _ hB1]; rfl
 have x2 : w1.cell? ⟨w.heap.size, 2, none⟩ = some (.int .i64 r.top) := by rw [cell_of_row w1 _ _ _ _ _ hB1]; rfl
 have x3 : w1.cell? ⟨w.heap.size, 3, none⟩ = some (.slice AF r.nf cf) := by rw [cell_of_row w1 _ _ _ _ _ hB1]; rfl
 have x4 : w1.cell? ⟨w.heap.size, 4, none⟩ = some (.slice AR r.nr cr) := by rw [cell_of_row w1 _ _ _ _ _ hB1]; rfl
 have hws : w.heap.size < w1.heap.size := by omega
 have hmm := @run_makeMap Tryz.prog
 clear KSt
 go_wp2_with fail
 obtain ⟨W5, hW5⟩ : ∃ W5, W5 = w1.alloc (.cells #[.int .i64 (S.1 : Nat), .slice A1 r.ng c1] 45) := ⟨_, rfl⟩
 have hz5 : W5.heap.size = w1.heap.size + 1 := by rw [hW5]; simp
 have hbA5 : Below w1.heap.size w1 W5 := by rw [hW5]; exact (Below.refl _ _).alloc (Nat.le_refl _) _
 rw [← hW5]
 obtain ⟨W4, hW4⟩ : ∃ W4, W4 = ((W5.alloc (.map #[] 0)).alloc (.map #[] 0)).alloc (.cells #[.int .i64 r.v, .slice AG r.ng cg, .int .i64 r.top, .slice AF r.nf cf, .slice AR r.nr cr, .slice none 0 0, .map (some (w1.heap.size + 1)), .map (some (w1.heap.size + 1 + 1))] 96) := ⟨_, rfl⟩
 have hmk : MKI W4 ⟨w.heap.size, W5.heap.size + 2, W5.heap.size, W5.heap.size + 1, r, AG, cg, AF, cf, AR, cr⟩ 0 [] (fun _ _ => 0) none 0 := MKI.made (by rw [hW4, hz5]) (by omega)
 have hb54 : Below W5.heap.size W5 W4 := by rw [hW4]; exact (by (skip); repeat' (first | (with_reducible first | exact BlR _ _ | assumption | refine BlA ?_ ?_ _ | refine BlD ?_ | refine BlN ?_ _ | refine BlS ?_ ?_ _ | refine BlT ?_ (BlM (by assumption) ?_)) | omega | (simp only [ZZ]; omega) | go_size))
 have hb14 : Below w1.heap.size w1 W4 := hbA5.trans (hb54.mono (by omega))
 rw [← hW4]
 obtain ⟨K, hK⟩ : ∃ K : MB, K = ⟨w.heap.size, W5.heap.size + 2, W5.heap.size, W5.heap.size + 1, r, AG, cg, AF, cf, AR, cr⟩ := ⟨_, rfl⟩
 rw [← hK] at hmk
 have e1 : r = K.r := by rw [hK]
 have e2 : AG = K.AG := by rw [hK]
 have e3 : cg = K.cg := by rw [hK]
 have e4 : AF = K.AF := by rw [hK]
 have e5 : cf = K.cf := by rw [hK]
 have e6 : AR = K.AR := by rw [hK]
 have e7 : cr = K.cr := by rw [hK]
 have e8 : w1.heap.size + 1 + 1 + 1 = K.m := by rw [hK]; show _ = W5.heap.size + 2; omega
 have e9 : K.b0 = w.heap.size := by rw [hK]
 rw [e8]
 clear hK hmm x0 x1 x2 x3 x4
 subst e1 e2 e3 e4 e5 e6 e7
 have hB14 := (hb14.block w.heap.size (by omega)).trans hB1
 have hB24 := (hb14.block (w.heap.size + 1) (by omega)).trans hB2
 have hrk1 : RdK W4 K.b0 (.slice A1 K.r.ng c1) K.r.ng (fun i => S.2.getD i 0) := (oj1.rg K.b0).below hb14
 have hbw4 : Below w.heap.size w W4 := hbA.trans (hb14.mono (by omega))
 have KF := Lib.hid (find_ok (cm := c1) (S := S) hmk ⟨HT.out.below hbw4, HST.out.l, n64, HST.out.f24 HOK.out, HST.out.memB HOK.out, hrk1⟩ (.inr (by simp)) (by simp))
 have HMK := Lib.hid hmk
 have hidx0 : List.idxOf S [] = 0 := rfl
 have hadd0 : addS [] S = [S] := by unfold addS; simp
 rw [hidx0, hadd0] at KF
 clear hW5 hW4 hb1 hB1 hB2 oj1 hrk1 hmk hbA5 hb54 hidx0 hadd0
 refine KF.out.mono ?_
 rintro e w7 ⟨⟨rfl, As7, cs7, hm7⟩, hw7⟩
 have hB17 := HMK.out.keep hw7 hB14 (by decide) (by decide)
 have hB27 := HMK.out.keep hw7 hB24 (by decide) (by decide)
 have hbw7 : Below w.heap.size w w7 := hbw4.trans (hw7.below (by rw [e9]; exact Nat.le_refl _) HMK.out.lo)
 have HM7 := Lib.hid hm7
 have hz7 : w1.heap.size < w7.heap.size := by have := hw7.size; have := hb14.size; have := HMK.out.mlt; omega
 clear KF hw7 hm7 hB14 hB24 HMK
 have hnx : Hid (∀ s, StOk K.r s.1 s.2 → ∀ y, y ∈ K.r.tr.nx s K.r.v.toNat → 0 < y.2 ∧ Sz 70000 y.2 ∧ StOk K.r y.1.1 y.1.2) := fun s hs => nx_ok HOK.out HTS.out hs (Nat.le_refl _)
 have hnl : Hid (∀ s, (K.r.tr.nx s K.r.v.toNat).length ≤ 48) := fun s => by
   have := Tr.nx_len K.r.tr s K.r.v.toNat
   have := HOK.out.v2
   omega
 have HMR : Hid (mkR (fun s => K.r.tr.nx s K.r.v.toNat) 256 0 [S] (fun _ _ => 0) = K.r.tr.make) := by
   show _ = _
   rw [HSS.out]
   rfl
 obtain ⟨W8, hW8⟩ : ∃ W8, W8 = w7.alloc (chO 0 none 0 0 none 0 0) := ⟨_, rfl⟩
 have hb78 : Below w7.heap.size w7 W8 := by rw [hW8]; exact (Below.refl _ _).alloc (Nat.le_refl _) _
 have hF8 : MkF w W8 K w7.heap.size 0 0 none (topL K.r [S]) := ⟨hbw7.trans (hb78.mono (by have := hbw7.size; omega)), by omega, e9, (hb78.block _ (Array.getElem?_eq_some_iff.1 hB17).1).trans hB17, (hb78.block _ (Array.getElem?_eq_some_iff.1 hB27).1).trans hB27, by rw [hW8]; exact heap_alloc_new w7 _, OwVb.nil_ _ _ _⟩
 have hm8 : MKI W8 K 0 [S] (fun _ _ => 0) As7 cs7 := HM7.out.below hb78
 have HI0 : Hid (MkI 70000 48 (fun s => StOk K.r s.1 s.2) (fun s => K.r.tr.nx s K.r.v.toNat) S 0 [S] (fun _ _ => 0)) := MkI.start HST.out
 obtain ⟨c, hcw⟩ : ∃ c, c = w7.heap.size := ⟨_, rfl⟩
 subst hW8
 have HF8 := Lib.hid hF8
 have HM8 := Lib.hid hm8
 rw [← hcw] at HF8
 clear hF8 hm8 hB17 hB27 HM7 hb78
 go_wp2_with fail
 rw [← hcw]
 clear hcw
 go_loopw [11] (fun i wr => ∃ (k : Nat) (l : List DS) (R : Nat → Nat → Rat) (As : Option Addr) (cs : Nat) (AD : Option Addr) (cd : Nat), i = .int .i64 (k : Int) ∧ k ≤ l.length ∧ MKI wr K (48 * k) l R As cs ∧ MkF w wr K c k cd AD (topL K.r l) ∧ MkI 70000 48 (fun s => StOk K.r s.1 s.2) (fun s => K.r.tr.nx s K.r.v.toNat) S k l R ∧ mkR (fun s => K.r.tr.nx s K.r.v.toNat) (256 - k) k l R = K.r.tr.make) (fun i _ => 256 - (intOf i).toNat)
 case atStart => exact ⟨0, [S], _, As7, cs7, none, 0, rfl, Nat.zero_le _, HM8.out, HF8.out, HI0.out, HMR.out⟩
 case round =>
   obtain ⟨k, l, R, As, cs, AD, cd, rfl, hkl, hm, hf, hI, hR⟩ := hrel
   obtain ⟨wo, rfl⟩ : ∃ wo : World, wo = wr := ⟨_, rfl⟩
   have hc := hm.cells
   have hF := Lib.hid hf
   have hM := Lib.hid hm
   have HI := Lib.hid hI
   have HR := Lib.hid hR
   have hl256 := hI.le
   have hmc5 := hc.2.2.2.2.2.1
   clear hf hm hI hR hc
   by_cases hk : k < l.length
   · obtain ⟨s, hse⟩ : ∃ s, l[k] = s := ⟨_, rfl⟩
     have hsk : l[k]? = some s := by rw [List.getElem?_eq_getElem hk, hse]
     have hsts : StOk K.r s.1 s.2 := HI.out.mem s (hse ▸ List.getElem_mem hk)
     have HSTS := Lib.hid hsts
     have HSK := Lib.hid hsk
     have hv0 : Hid (InI K.r k 0 s l (l, fun _ => 0)) := InI.start hk hsk HI.out.nd HI.out.le
     have HMs : Hid (MKI wo K (48 * k + 2 * 0) (l, fun _ : Nat => (0 : Rat)).1 (fun a b => if a = k then (l, fun _ : Nat => (0 : Rat)).2 b else R a b) As cs) := hM.out.congr fun a b hab => by
       by_cases e : a = k
       · rw [if_pos e, e]; exact HI.out.out k b (.inl (Nat.le_refl _))
       · rw [if_neg e]
     have hb1 := hF.out.c1
     have hkl2 : (k : Int) < (l.length : Int) := by omega
     clear hse hsts hsk hmc5
     have hmc5 := hM.out.cells.2.2.2.2.2.1
     go_wp2_with fail
     go_loopw [56] (fun j wr => ∃ (i : Nat) (x : RS) (As : Option Addr) (cs : Nat), j = .int .i64 (i : Int) ∧ InI K.r k i s l x ∧ MKI wr K (48 * k + 2 * i) x.1 (fun a b => if a = k then x.2 b else R a b) As cs ∧ MkF w wr K c k cd AD (topL K.r l)) (fun j _ => K.r.v.toNat - (intOf j).toNat)
     case atStart => exact ⟨0, _, As, cs, rfl, hv0.out, HMs.out, hF.out⟩
     case round =>
       obtain ⟨i, x, Ax, cx, rfl, hin, hm, hf⟩ := hrel
       clear hb1 hmc5 HMs hv0
       obtain ⟨wi, rfl⟩ : ∃ wi : World, wi = wr := ⟨_, rfl⟩
       have HIN := Lib.hid hin
       have HMI := Lib.hid hm
       have HF := Lib.hid hf
       have hb1 := hf.c1
       have hmc5 := hm.cells.2.2.2.2.2.1
       have hxl : k < x.1.length := by have := hin.rs.pre.length_le; omega
       have hx256 := hin.rs.le
       have hxk : x.1[k] = s := by
         obtain ⟨t, ht⟩ := hin.rs.pre
         have h1 := HSK.out
         rw [List.getElem?_eq_getElem hk] at h1
         injection h1 with h1
         rw [← h1]
         have : x.1[k]? = l[k]? := by rw [← ht, List.getElem?_append_left hk]
         rw [List.getElem?_eq_getElem hxl, List.getElem?_eq_getElem hk] at this
         injection this
       obtain ⟨g, Bs, ds, eA, hgb, hgl, c0, c1, rk⟩ := hm.st.at_ hxl
       rw [hxk] at c0 rk
       have HXK := Lib.hid hxk
       have hmll := hm.mlt
       have hbwi : Below w.heap.size w wi := hf.bel
       have hv1 := HOK.out.v1
       subst eA
       clear hin hm hf hxk
       by_cases hiv : (i : Int) < K.r.v
       · have hivn : i < K.r.v.toNat := by omega
         have KR := Lib.hid (fun X (hX : Below wi.heap.size wi X) => drate_ok (cg := K.cg) (cf := K.cf) (cr := K.cr) (cm := ds) (e := i) (HH.out.below (hbwi.trans (hX.mono hbwi.size))) HS.out HC.out HSTS.out ((rk.below hX).rj) hivn)
         have hwb : w.heap.size < wi.heap.size := by have := (Array.getElem?_eq_some_iff.1 HF.out.b1).1; omega
         obtain ⟨hy0, hy1, hy2, hy3, hy4⟩ := hb1
         have i0 : (0 : Int) ≤ (k : Int) := by omega
         have i1 : (k : Int) < (x.1.length : Int) := by omega
         have hbd : Below wi.heap.size wi wi.drew := (Below.refl _ _).drew
         obtain ⟨fr, hfr⟩ : ∃ fr, K.r.tr.fr s i = fr := ⟨_, rfl⟩
         obtain ⟨rr, hrr⟩ : ∃ rr, K.r.tr.rr s i = rr := ⟨_, rfl⟩
         obtain ⟨F, hF⟩ : ∃ F, s.1 = F := ⟨_, rfl⟩
         have KR2 : Hid (∀ X, Below wi.heap.size wi X → Calls Tryz.prog 21 #[.agg #[.int .i64 K.r.v, .slice K.AG K.r.ng K.cg, .int .i64 K.r.top, .slice K.AF K.r.nf K.cf, .slice K.AR K.r.nr K.cr], .agg #[.int .i64 (F : Int), .slice Bs K.r.ng ds], .int .i64 (i : Int)] X fun x w' => RatRet X.heap.size fr rr x w' ∧ Below X.heap.size X w') := by
           show ∀ _, _
           rw [← hfr, ← hrr, ← hF]
           exact KR.out
         have HFR := Lib.hid hfr
         have HRR := Lib.hid hrr
         have HFF := Lib.hid hF
         rw [hF] at c0
         clear rk KR hfr hrr hF
         have ne0 : ¬ w.heap.size = wi.heap.size := by omega
         have ne1 : ¬ wi.heap.size = w.heap.size := by omega
         have ne2 : ¬ w.heap.size = wi.heap.size + 1 := by omega
         have ne3 : ¬ wi.heap.size + 1 = w.heap.size := by omega
         have ne4 : ¬ K.m = wi.heap.size := by omega
         have ne5 : ¬ wi.heap.size = K.m := by omega
         have ne6 : ¬ K.m = wi.heap.size + 1 := by omega
         have ne7 : ¬ wi.heap.size + 1 = K.m := by omega
         have ne8 : ¬ g = wi.heap.size := by omega
         have ne9 : ¬ wi.heap.size = g := by omega
         have ne10 : ¬ g = wi.heap.size + 1 := by omega
         have ne11 : ¬ wi.heap.size + 1 = g := by omega
         go_upto_region 15 with fail
         go_cut [13, 14, 15] from 59 to 72 (fun p q e wx => e = .nilIface ∧ ∃ (b13 b14 : Nat) (s3 : Bool) (A3 : Option Addr) (n3 c3 : Nat) (B3 : Option Addr) (m3 d3 : Nat) (s4 : Bool) (A4 : Option Addr) (n4 c4 : Nat) (B4 : Option Addr) (m4 d4 : Nat), p = .pointer (some ⟨b13, 0, none⟩) ∧ q = .pointer (some ⟨b14, 0, none⟩) ∧ Below wi.heap.size wi wx ∧ wi.heap.size ≤ b13 ∧ wi.heap.size ≤ b14 ∧ TyB 56 wx b13 ∧ TyB 56 wx b14
           ∧ (wx.cell? ⟨b13, 0, none⟩ = some (.bool s3) ∧ wx.cell? ⟨b13, 1, none⟩ = some (.slice A3 n3 c3) ∧ wx.cell? ⟨b13, 2, none⟩ = some (.slice B3 m3 d3)) ∧ (wx.cell? ⟨b14, 0, none⟩ = some (.bool s4) ∧ wx.cell? ⟨b14, 1, none⟩ = some (.slice A4 n4 c4) ∧ wx.cell? ⟨b14, 2, none⟩ = some (.slice B4 m4 d4)) ∧ RdS wx K.b0 (rv s3 A3 n3 c3 B3 m3 d3) (canR fr) ∧ RdS wx K.b0 (rv s4 A4 n4 c4 B4 m4 d4) (canR rr))
         case first =>
           clear HI HR HIN HMI HF HSK HXK HSTS HM8 HF8 HI0 HMR hnx hnl
           go_region_held3 (fun W => W.cell? ⟨w.heap.size, 0, none⟩ = some (.int .i64 K.r.v) ∧ W.cell? ⟨w.heap.size, 1, none⟩ = some (.slice K.AG K.r.ng K.cg) ∧ W.cell? ⟨w.heap.size, 2, none⟩ = some (.int .i64 K.r.top) ∧ W.cell? ⟨w.heap.size, 3, none⟩ = some (.slice K.AF K.r.nf K.cf) ∧ W.cell? ⟨w.heap.size, 4, none⟩ = some (.slice K.AR K.r.nr K.cr) ∧ W.cell? ⟨K.m, 5, none⟩ = some (.slice (some ⟨g, 0, none⟩) x.1.length cx) ∧ W.cell? ⟨g, k * 2, none⟩ = some (.int .i64 (F : Int)) ∧ W.cell? ⟨g, k * 2 + 1, none⟩ = some (.slice Bs K.r.ng ds)) (go_keep)
             (first | ((go_at_call 21; (with_reducible refine (KR2.out _ (by (skip); repeat' (first | (with_reducible first | exact BlR _ _ | assumption | refine BlA ?_ ?_ _ | refine BlD ?_ | refine BlN ?_ _ | refine BlS ?_ ?_ _ | refine BlT ?_ (BlM (by assumption) ?_)) | omega | (simp only [ZZ]; omega) | go_size))).mono ?_); rintro e w5 ⟨⟨v5, u5, rfl, o5, p5⟩, hb5⟩; have hb5z := Below.size hb5; (try simp only [ZZ] at hb5z); obtain ⟨hb5c0, hb5f0⟩ := bbo hb5 (w.heap.size) (by first | omega | (simp only [ZZ]; omega)); have hb5l0 : w.heap.size < (w5).heap.size := (by omega); obtain ⟨hb5c1, hb5f1⟩ := bbo hb5 (K.m) (by first | omega | (simp only [ZZ]; omega)); have hb5l1 : K.m < (w5).heap.size := (by omega); obtain ⟨hb5c2, hb5f2⟩ := bbo hb5 (g) (by first | omega | (simp only [ZZ]; omega)); have hb5l2 : g < (w5).heap.size := (by omega); obtain ⟨hb5c3, hb5f3⟩ := bbo hb5 (wi.heap.size) (by first | omega | (simp only [ZZ]; omega)); have hb5l3 : wi.heap.size < (w5).heap.size := (by omega); obtain ⟨hb5c4, hb5f4⟩ := bbo hb5 (wi.heap.size + 1) (by first | omega | (simp only [ZZ]; omega)); have hb5l4 : wi.heap.size + 1 < (w5).heap.size := (by omega)); obtain ⟨s3, A3, n3, c3, B3, m3, d3, rfl⟩ := o5.rd.form; obtain ⟨s4, A4, n4, c4, B4, m4, d4, rfl⟩ := p5.rd.form) | ((go_at_call 21; (with_reducible refine (KR2.out _ (by (skip); repeat' (first | (with_reducible first | exact BlR _ _ | assumption | refine BlA ?_ ?_ _ | refine BlD ?_ | refine BlN ?_ _ | refine BlS ?_ ?_ _ | refine BlT ?_ (BlM (by assumption) ?_)) | omega | (simp only [ZZ]; omega) | go_size))).mono ?_); rintro e w5 ⟨⟨v5, u5, rfl, o5, p5⟩, hb5⟩; have hb5z := Below.size hb5; (try simp only [ZZ] at hb5z); obtain ⟨hb5c0, hb5f0⟩ := bbo hb5 (w.heap.size) (by first | omega | (simp only [ZZ]; omega)); have hb5l0 : w.heap.size < (w5).heap.size := (by omega); obtain ⟨hb5c1, hb5f1⟩ := bbo hb5 (K.m) (by first | omega | (simp only [ZZ]; omega)); have hb5l1 : K.m < (w5).heap.size := (by omega); obtain ⟨hb5c2, hb5f2⟩ := bbo hb5 (g) (by first | omega | (simp only [ZZ]; omega)); have hb5l2 : g < (w5).heap.size := (by omega); obtain ⟨hb5c3, hb5f3⟩ := bbo hb5 (wi.heap.size) (by first | omega | (simp only [ZZ]; omega)); have hb5l3 : wi.heap.size < (w5).heap.size := (by omega)); obtain ⟨s3, A3, n3, c3, B3, m3, d3, rfl⟩ := o5.rd.form; obtain ⟨s4, A4, n4, c4, B4, m4, d4, rfl⟩ := p5.rd.form) | ((go_at_call 21; (with_reducible refine (KR2.out _ (by (skip); repeat' (first | (with_reducible first | exact BlR _ _ | assumption | refine BlA ?_ ?_ _ | refine BlD ?_ | refine BlN ?_ _ | refine BlS ?_ ?_ _ | refine BlT ?_ (BlM (by assumption) ?_)) | omega | (simp only [ZZ]; omega) | go_size))).mono ?_); rintro e w5 ⟨⟨v5, u5, rfl, o5, p5⟩, hb5⟩; have hb5z := Below.size hb5; (try simp only [ZZ] at hb5z); obtain ⟨hb5c0, hb5f0⟩ := bbo hb5 (w.heap.size) (by first | omega | (simp only [ZZ]; omega)); have hb5l0 : w.heap.size < (w5).heap.size := (by omega); obtain ⟨hb5c1, hb5f1⟩ := bbo hb5 (K.m) (by first | omega | (simp only [ZZ]; omega)); have hb5l1 : K.m < (w5).heap.size := (by omega); obtain ⟨hb5c2, hb5f2⟩ := bbo hb5 (g) (by first | omega | (simp only [ZZ]; omega)); have hb5l2 : g < (w5).heap.size := (by omega)); obtain ⟨s3, A3, n3, c3, B3, m3, d3, rfl⟩ := o5.rd.form; obtain ⟨s4, A4, n4, c4, B4, m4, d4, rfl⟩ := p5.rd.form) | fail)
           all_goals
             go_wp2_with fail
             go_meet
             case rel =>
               refine ⟨rfl, _, _, s3, A3, n3, c3, B3, m3, d3, s4, A4, n4, c4, B4, m4, d4, rfl, rfl, (by have z0 := Below.size hb5; (try simp only [ZZ] at z0 ⊢; skip); repeat' (first | (with_reducible first | exact BlR _ _ | assumption | refine BlA ?_ ?_ _ | refine BlD ?_ | refine BlN ?_ _ | refine BlS ?_ ?_ _ | refine BlT ?_ (BlM (by assumption) ?_)) | omega | (simp only [ZZ]; omega) | go_size)), by first | omega | (simp; omega), by first | omega | (simp; omega), ?_, ?_, ⟨?_, ?_, ?_⟩, ⟨?_, ?_, ?_⟩, o5.rs.kp ?_, p5.rs.kp ?_⟩
               · repeat' (first | (with_reducible exact TyB.new _ _) | ((with_reducible refine TyB.newE ?_); (first | (with_reducible rfl) | (simp only [World.size_alloc, World.size_drew, World.size_setCell]; done))) | (with_reducible refine TyB.set ?_ _ _ _) | (with_reducible refine TyB.alloc_ ?_ _) | (with_reducible refine TyB.below ?_ hb5 ?_) | (with_reducible refine TyB.drew_ ?_) | omega | (simp only [World.size_alloc, World.size_drew, World.size_setCell]; omega) | (show _ < World.heap.size _; simp only [World.size_alloc, World.size_drew, World.size_setCell]; omega))
               · repeat' (first | (with_reducible exact TyB.new _ _) | ((with_reducible refine TyB.newE ?_); (first | (with_reducible rfl) | (simp only [World.size_alloc, World.size_drew, World.size_setCell]; done))) | (with_reducible refine TyB.set ?_ _ _ _) | (with_reducible refine TyB.alloc_ ?_ _) | (with_reducible refine TyB.below ?_ hb5 ?_) | (with_reducible refine TyB.drew_ ?_) | omega | (simp only [World.size_alloc, World.size_drew, World.size_setCell]; omega) | (show _ < World.heap.size _; simp only [World.size_alloc, World.size_drew, World.size_setCell]; omega))
               iterate 6 (focus (first | (simp [go_sem]; done) | (simp [go_sem, *]; done)))
               · repeat' (first | (with_reducible exact Kp.refl _ _) | (with_reducible refine Kp.alloc ?_ _) | (with_reducible refine Kp.drew ?_) | (with_reducible refine Kp.setK ?_ ?_ ?_) | (with_reducible exact TyB.new _ _) | ((with_reducible refine TyB.newE ?_); (first | (with_reducible rfl) | (simp only [World.size_alloc, World.size_drew, World.size_setCell]; done))) | (with_reducible refine TyB.set ?_ _ _ _) | (with_reducible refine TyB.alloc_ ?_ _) | (with_reducible refine TyB.below ?_ hb5 ?_) | (with_reducible refine TyB.drew_ ?_) | omega | (simp only [World.size_alloc, World.size_drew, World.size_setCell]; omega) | (show _ < World.heap.size _; simp only [World.size_alloc, World.size_drew, World.size_setCell]; omega))
               · repeat' (first | (with_reducible exact Kp.refl _ _) | (with_reducible refine Kp.alloc ?_ _) | (with_reducible refine Kp.drew ?_) | (with_reducible refine Kp.setK ?_ ?_ ?_) | (with_reducible exact TyB.new _ _) | ((with_reducible refine TyB.newE ?_); (first | (with_reducible rfl) | (simp only [World.size_alloc, World.size_drew, World.size_setCell]; done))) | (with_reducible refine TyB.set ?_ _ _ _) | (with_reducible refine TyB.alloc_ ?_ _) | (with_reducible refine TyB.below ?_ hb5 ?_) | (with_reducible refine TyB.drew_ ?_) | omega | (simp only [World.size_alloc, World.size_drew, World.size_setCell]; omega) | (show _ < World.heap.size _; simp only [World.size_alloc, World.size_drew, World.size_setCell]; omega))
         case rest =>
           obtain ⟨rfl, b13, b14, s3, A3, n3, c3, B3, m3, d3, s4, A4, n4, c4, B4, m4, d4, rfl, rfl, hbx, hb13, hb14', ht13, ht14, ⟨p0, p1, p2⟩, ⟨q0, q1, q2⟩, r13, r14⟩ := hcut
           clear hy0 hy1 hy2 hy3 hy4 hmc5 c0 c1 KR2 ne0 ne1 ne2 ne3 ne4 ne5 ne6 ne7 ne8 ne9 ne10 ne11
           have hmc : MKI wc K (48 * k + 2 * i) x.1 (fun a b => if a = k then x.2 b else R a b) (some ⟨g, 0, none⟩) cx := HMI.out.below hbx
           have hfc := HF.out.below hbx
           have hbwc : Below w.heap.size w wc := hfc.bel
           have st1 := HSTS.out.stF (s := s) HOK.out hivn
           have st2 := HSTS.out.stR (s := s) (i := i) HOK.out
           have hfr := HTS.out.fr (s := s) n64 hivn
           have hrr := HTS.out.rr (s := s) hivn
           rw [HFR.out] at hfr
           rw [HRR.out] at hrr
           obtain ⟨S1, hS1⟩ : ∃ S1, stF K.r.dy s i = S1 := ⟨_, rfl⟩
           obtain ⟨S2, hS2⟩ : ∃ S2, stR K.r.dy s i = S2 := ⟨_, rfl⟩
           rw [hS1] at st1
           rw [hS2] at st2
           have HS1 := Lib.hid hS1
           have HS2 := Lib.hid hS2
           have hxs := HIN.out.xs HOK.out.v2
           have hi24 : i ≤ 24 := by have := HOK.out.v2; omega
           have hF1 : 0 < fr → s.1.testBit i = false := fun hp => by
             cases hb : s.1.testBit i
             · rfl
             · have := Tr.fr_no (t := K.r.tr) hb
               rw [HFR.out] at this
               rw [this] at hp
               exact absurd hp (by decide)
           have hR1 : 0 < rr → s.1.testBit i = true ∧ heldD K.r.dy s i = false := fun hp => by
             cases hb : s.1.testBit i
             · have := Tr.rr_no (t := K.r.tr) hb
               rw [HRR.out] at this
               rw [this] at hp
               exact absurd hp (by decide)
             · refine ⟨rfl, ?_⟩
               cases hh : heldD K.r.dy s i
               · rfl
               · have := Tr.rr_held (t := K.r.tr) hh
                 rw [HRR.out] at this
                 rw [this] at hp
                 exact absurd hp (by decide)
           have KM1 := Lib.hid (mv_any (i := i) (s := s) (S := S1) (fid := 24) (R := R) hmc hxl HXK.out (HT.out.below hbwc) n64 r13 hfr.1 (hfr.2.more (by omega)) hxs st1.l (st1.f24 HOK.out) (st1.memB HOK.out) hx256 (by omega) (enters_of Tryz.func24 (by kernel_rfl) rfl) (fun hp X B d hX hr => by
             have := dfail_ok (cg := K.cg) (cf := K.cf) (cr := K.cr) (cm := d) (HH.out.below (hbwc.trans (hX.mono hbwc.size))) HS.out HC.out HSTS.out hr hivn (hF1 hp)
             rw [← HS1.out]
             exact this))
           have HMC := Lib.hid hmc
           have HFC := Lib.hid hfc
           have hmb : K.m ≠ b14 ∧ b14 ≠ K.bn ∧ b14 ≠ K.br := by
             obtain ⟨es, e, e1⟩ := HMI.out.bnm
             obtain ⟨es', e', e1'⟩ := HMI.out.brm
             have h1 := (Array.getElem?_eq_some_iff.1 e1).1
             have h2 := (Array.getElem?_eq_some_iff.1 e1').1
             omega
           have HNONE : Hid (rowR (K.r.tr.nx s K.r.v.toNat) (l, fun _ => 0) = none → K.r.tr.make = none) := fun h => by
             rw [← HR.out]
             obtain ⟨n, hn⟩ : ∃ n, 256 - k = n + 1 := ⟨255 - k, by omega⟩
             rw [hn, mkR_step hk]
             have e : l[k] = s := by
               have h1 := HSK.out
               rw [List.getElem?_eq_getElem hk] at h1
               injection h1
             rw [e, h]
           clear hmc hfc hS1 hS2 HR
           go_wp2_with fail
           refine KM1.out.mono ?_
           rintro e w6 ⟨hmv, hkw⟩
           cases ho : step1 x S1 fr with
           | none =>
             rw [ho] at hmv
             obtain rfl : e = .returned (.iface 80 (.int .i64 4)) := hmv
             have hf6 := HFC.out.kw HMC.out hkw
             have HMN : Hid (K.r.tr.make = none) := HNONE.out (HIN.out.none1 hivn (by rw [HS1.out, HFR.out]; exact ho))
             obtain ⟨f0, f1, f2, f3, ff⟩ := chO_cells hf6.b2
             have ff0 := ff 0
             have ff1 := ff 1
             have ff2 := ff 2
             have ff3 := ff 3
             have hbF := hf6.bel
             clear ho hkw hf6 ff KM1
             go_wp2_with fail
             (try simp only [Exit.inBlock, Exit.then])
             refine bodyPost_ret (v := .tuple #[cv 0 0 none 0 0 none 0 0, .slice none 0 0, .iface 80 (.int .i64 4)]) ?_ rfl ⟨?_, ?_⟩
             · rw [results_ctt rfl]
               go_simp
             · rw [HMN.out]; rfl
             · exact (by have z0 := Below.size hbF; (try simp only [ZZ] at z0 ⊢; skip); repeat' (first | (with_reducible first | exact BlR _ _ | assumption | refine BlA ?_ ?_ _ | refine BlD ?_ | refine BlN ?_ _ | refine BlS ?_ ?_ _ | refine BlT ?_ (BlM (by assumption) ?_)) | omega | (simp only [ZZ]; omega) | go_size))
           | some z =>
             rw [ho] at hmv
             obtain ⟨he, Az, cz, hmz⟩ := hmv
             subst he
             have hinj : InJ K.r k i s l x z := HIN.out.fail HOK.out HTS.out hivn (by rw [HS1.out, HFR.out]; exact ho)
             have hzs := hinj.xs hi24
             obtain ⟨ys, hrs, -⟩ := hinj.rs
             have hzl : k < z.1.length := by have := hrs.pre.length_le; omega
             have hz256 := hrs.le
             have hzk : z.1[k] = s := by
               obtain ⟨t, ht⟩ := hrs.pre
               have h1 := HSK.out
               rw [List.getElem?_eq_getElem hk] at h1
               injection h1 with h1
               rw [← h1]
               have : z.1[k]? = l[k]? := by rw [← ht, List.getElem?_append_left hk]
               rw [List.getElem?_eq_getElem hzl, List.getElem?_eq_getElem hk] at this
               injection this
             have hf6 := HFC.out.kw HMC.out hkw
             have r146 : RdS w6 K.b0 (rv s4 A4 n4 c4 B4 m4 d4) (canR rr) := r14.kp (hkw.kp HMC.out)
             have q06 := ((Kw.cell hkw (o := 0) ht14 hmb.1.symm (by decide) hmb.2.1 hmb.2.2).1).trans q0
             have q16 := ((Kw.cell hkw (o := 1) ht14 hmb.1.symm (by decide) hmb.2.1 hmb.2.2).1).trans q1
             have q26 := ((Kw.cell hkw (o := 2) ht14 hmb.1.symm (by decide) hmb.2.1 hmb.2.2).1).trans q2
             have KM2 := Lib.hid (mv_any (i := i) (s := s) (S := S2) (fid := 25) (R := R) hmz hzl hzk (HT.out.below hf6.bel) n64 r146 hrr.1 (hrr.2.more (by omega)) hzs st2.l (st2.f24 HOK.out) (st2.memB HOK.out) hz256 (by omega) (enters_of Tryz.func25 (by kernel_rfl) rfl) (fun hp X B d hX hr => by
               have := drepair_ok (cg := K.cg) (cf := K.cf) (cr := K.cr) (cm := d) (HH.out.below (hf6.bel.trans (hX.mono hf6.bel.size))) HS.out HC.out HSTS.out hr hivn (hR1 hp).1 (hR1 hp).2
               rw [← HS2.out]
               exact this))
             have HMZ := Lib.hid hmz
             have HF6 := Lib.hid hf6
             have HO1 : Hid (step1 x (stF K.r.dy s i) (K.r.tr.fr s i) = some z) := by show _ = _; rw [HS1.out, HFR.out]; exact ho
             clear ho hmz hf6 hkw KM1 p0 p1 p2 q0 q1 q2 r13 r14 r146 hinj hrs
             go_wp2_with fail
             refine KM2.out.mono ?_
             rintro e w8 ⟨hmv, hkw⟩
             have hf8 := HF6.out.kw HMZ.out hkw
             cases ho : step1 z S2 rr with
             | none =>
               rw [ho] at hmv
               obtain rfl : e = .returned (.iface 80 (.int .i64 4)) := hmv
               have HMN : Hid (K.r.tr.make = none) := HNONE.out (HIN.out.none2 hivn HO1.out (by rw [HS2.out, HRR.out]; exact ho))
               obtain ⟨f0, f1, f2, f3, ff⟩ := chO_cells hf8.b2
               have ff0 := ff 0
               have ff1 := ff 1
               have ff2 := ff 2
               have ff3 := ff 3
               have hbF := hf8.bel
               clear ho hkw hf8 ff KM2
               go_wp2_with fail
               (try simp only [Exit.inBlock, Exit.then])
               refine bodyPost_ret (v := .tuple #[cv 0 0 none 0 0 none 0 0, .slice none 0 0, .iface 80 (.int .i64 4)]) ?_ rfl ⟨?_, ?_⟩
               · rw [results_ctt rfl]
                 go_simp
               · rw [HMN.out]; rfl
               · exact (by have z0 := Below.size hbF; (try simp only [ZZ] at z0 ⊢; skip); repeat' (first | (with_reducible first | exact BlR _ _ | assumption | refine BlA ?_ ?_ _ | refine BlD ?_ | refine BlN ?_ _ | refine BlS ?_ ?_ _ | refine BlT ?_ (BlM (by assumption) ?_)) | omega | (simp only [ZZ]; omega) | go_size))
             | some u =>
               rw [ho] at hmv
               obtain ⟨he, Au, cu, hmu⟩ := hmv
               subst he
               have hin2 := HIN.out.next HOK.out HTS.out HSTS.out hivn HO1.out (by rw [HS2.out, HRR.out]; exact ho)
               have hmu2 : MKI w8 K (48 * k + 2 * (i + 1)) u.1 (fun a b => if a = k then u.2 b else R a b) Au cu := by
                 rw [show 48 * k + 2 * (i + 1) = 48 * k + 2 * i + 1 + 1 by omega]
                 exact hmu
               have HF8' := Lib.hid hf8
               have HN2 := Lib.hid hin2
               have HU := Lib.hid hmu2
               clear ho hkw hf8 hin2 hmu hmu2 KM2
               go_wp2_with fail
               go_roundw
               case rel => exact ⟨i + 1, u, Au, cu, by go_num, HN2.out, HU.out, HF8'.out⟩
               case measure => simp [intOf]; omega
       · have hiv2 : i = K.r.v.toNat := by have := HIN.out.iv; omega
         subst hiv2
         have e := HIN.out.e
         have hlk : l[k] = s := by
           have h1 := HSK.out
           rw [List.getElem?_eq_getElem hk] at h1
           injection h1
         have hI2 : MkI 70000 48 (fun s => StOk K.r s.1 s.2) (fun s => K.r.tr.nx s K.r.v.toNat) S (k + 1) x.1 (fun a b => if a = k then x.2 b else R a b) := HI.out.step hk hnx.out hnl.out (by rw [hlk]; exact e)
         have hR2 : mkR (fun s => K.r.tr.nx s K.r.v.toNat) (256 - (k + 1)) (k + 1) x.1 (fun a b => if a = k then x.2 b else R a b) = K.r.tr.make := by
           rw [← HR.out]
           obtain ⟨n, hn⟩ : ∃ n, 256 - k = n + 1 := ⟨255 - k, by omega⟩
           rw [hn, mkR_step hk, hlk, e, show 256 - (k + 1) = n by omega]
         have hpre : ∀ j, j < l.length → x.1[j]? = l[j]? := fun j hj => by
           obtain ⟨t, ht⟩ := HIN.out.rs.pre
           rw [← ht, List.getElem?_append_left hj]
         have htop : ∀ j, j < k → topL K.r l j = topL K.r x.1 j := fun j hj => by
           unfold topL
           rw [List.getD_eq_getElem?_getD, List.getD_eq_getElem?_getD, hpre j (by omega)]
         obtain ⟨tb, htb⟩ : ∃ tb, vaD K.r.dy s.1 s.2 K.r.ng K.r.top.toNat = tb := ⟨_, rfl⟩
         have HTK : Hid (topL K.r x.1 k = tb) := by
           show _ = _
           unfold topL
           rw [List.getD_eq_getElem?_getD, hpre k hk, HSK.out]
           exact htb
         have KT : Hid (∀ X, Below wi.heap.size wi X → Calls Tryz.prog 19 #[.agg #[.int .i64 K.r.v, .slice K.AG K.r.ng K.cg, .int .i64 K.r.top, .slice K.AF K.r.nf K.cf, .slice K.AR K.r.nr K.cr], .agg #[.int .i64 (s.1 : Nat), .slice Bs K.r.ng ds]] X fun e w' => e = .returned (.tuple #[.bool tb, .nilIface]) ∧ Below X.heap.size X w') := by
           show ∀ _, _
           intro X hX
           rw [← htb]
           exact dtop_ok (cg := K.cg) (cf := K.cf) (cr := K.cr) (cm := ds) (HH.out.below (hbwi.trans (hX.mono hbwi.size))) HS.out HC.out HSTS.out ((rk.below hX).rj)
         obtain ⟨hy0, hy1, hy2, hy3, hy4⟩ := hb1
         have hcc := chO_cells HF.out.bc
         obtain ⟨hc0, hc1, hc2, hc3, hcf⟩ := hcc
         have i0 : (0 : Int) ≤ (k : Int) := by omega
         have i1 : (k : Int) < (x.1.length : Int) := by omega
         have f0 := fun y : Sub wi => y.cell hy0
         have f1 := fun y : Sub wi => y.cell hy1
         have f2 := fun y : Sub wi => y.cell hy2
         have f3 := fun y : Sub wi => y.cell hy3
         have f4 := fun y : Sub wi => y.cell hy4
         have f5 := fun y : Sub wi => y.cell hmc5
         have f6 := fun y : Sub wi => y.cell c0
         have f7 := fun y : Sub wi => y.cell c1
         have HTOP := Lib.hid htop
         have HI2 := Lib.hid hI2
         have HR2 := Lib.hid hR2
         have hcl := (Array.getElem?_eq_some_iff.1 HF.out.bc).1
         have hk256 : k ≤ 256 := by omega
         clear e hlk hpre htop hI2 hR2 htb rk HI HR
         go_wp2_with fail
         ((refine wp_region_quiet_bel (by kernel_rfl) (by kernel_rfl) ?_); (repeat (go_big_quiet_step ((go_at_call 19; with_reducible exact Calls.quiet_bel (KT.out _ (Sub.bel _)))))); (refine wpQuiet_nil ?_); rintro w3 ⟨⟨_, hb3⟩, rfl⟩; (try dsimp only))
         have hb3z := hb3.size
         have g3 : w3.cell? ⟨c, 3, none⟩ = some (.slice AD k cd) := (below_at hb3 c 3 hcl).trans hc3
         clear f0 f1 f2 f3 f4 f5 f6 f7 KT hy0 hy1 hy2 hy3 hy4 hmc5 c0 c1 hc0 hc1 hc2 hc3 hcf
         have hm3 : MKI w3 K (48 * k + 2 * K.r.v.toNat) x.1 (fun a b => if a = k then x.2 b else R a b) (some ⟨g, 0, none⟩) cx := HMI.out.below hb3
         have hf3 := HF.out.below hb3
         have HM3 := Lib.hid hm3
         have HF3 := Lib.hid hf3
         have hlo3 := hm3.lo
         have HPU : Hid (∀ (w4 : World) (g4 c4 : Nat), (w3.alloc (.cells #[.bool tb] 4)).grownBy w4 (Value.slice AD k cd).ownBlock → OwVb w4 K.b0 (some ⟨g4, 0, none⟩) c4 (k + 1) (fun j => if j = k then tb else topL K.r l j) →
             (MKI (w4.setCell ⟨c, 3, none⟩ (.slice (some ⟨g4, 0, none⟩) (k + 1) c4)) K (48 * (k + 1)) x.1 (fun a b => if a = k then x.2 b else R a b) (some ⟨g, 0, none⟩) cx ∧ MkF w (w4.setCell ⟨c, 3, none⟩ (.slice (some ⟨g4, 0, none⟩) (k + 1) c4)) K c (k + 1) c4 (some ⟨g4, 0, none⟩) (topL K.r x.1)) ∧ w4.cell? ⟨c, 3, none⟩ = some (.slice AD k cd) ∧ w4.frozen? ⟨c, 3, none⟩ = false) := fun w4 g4 c4 hg own4 => by
           have own5 : OwVb w4 K.b0 (some ⟨g4, 0, none⟩) c4 (k + 1) (topL K.r x.1) := own4.congr fun j hj => by
             by_cases e : j = k
             · subst e; rw [if_pos rfl, HTK.out]
             · rw [if_neg e]; exact HTOP.out j (by omega)
           obtain ⟨⟨r1, r2⟩, r3, r4⟩ := HF3.out.push HM3.out ((Below.refl _ _).alloc (Nat.le_refl _) _) hg own5
           have := HOK.out.v2
           exact ⟨⟨r1.more (by omega), r2⟩, r3, r4⟩
         have HOW3 : Hid (OwVb w3 K.b0 AD cd k (topL K.r l)) := hf3.dn
         clear hm3 hf3
         go_wp2_with (first | (at_builtin; refine wpList_appVg rfl (.tmp 109) (.tmp 111) rfl K.b0 AD cd k (topL K.r l) (by simp [Act.eval]) (HOW3.out.below ((Below.refl _ _).alloc (Nat.le_refl _) _)) w3.heap.size tb rfl (by simp [go_sem]) (by omega) (by simp; omega) ?_; intro g4 c4 w4 own4 hg4 hg4z; obtain ⟨⟨r1, r2⟩, r3, r4⟩ := HPU.out w4 g4 c4 hg4 own4) | fail)
         have HN1 := Lib.hid r1
         have HN2 := Lib.hid r2
         clear r1 r2 own4 hg4 HPU
         go_roundw
         case rel => exact ⟨k + 1, x.1, _, some ⟨g, 0, none⟩, cx, some ⟨g4, 0, none⟩, c4, by go_num, by omega, HN1.out, HN2.out, HI2.out, HR2.out⟩
         case measure => simp [intOf]; omega
   · obtain rfl : k = l.length := by omega
     have HMKE : Hid (K.r.tr.make = some (l, R)) := by
       show _ = _
       rw [← HR.out, mkR_stop (Nat.le_refl _)]
     obtain ⟨hc0, hc1, hc2, hc3, hcf⟩ := chO_cells hF.out.bc
     have hcf0 := hcf 0
     have hn1 : l.length ≤ 1000000 := by omega
     have hcb : w.heap.size + 2 ≤ c := hF.out.lo
     have htc : TyB 32 wo c := ⟨_, _, hF.out.bc⟩
     have hmc : K.m ≠ c := fun e => absurd (ty_one hM.out.mty (e ▸ htc)) (by decide)
     have hmc' : c ≠ K.m := fun e => hmc e.symm
     have hx7 := hM.out.cells.2.2.2.2.2.2.2
     have hg1 := grownBy_setK wo c 0 (.int .i64 (l.length : Int))
     have hm1 : MKI (wo.setCell ⟨c, 0, none⟩ (.int .i64 (l.length : Int))) K (48 * l.length) l R As cs := hM.out.grown hg1 (NotI.of_ty htc (by omega) (by decide) (by decide)) fun q hq => by
       injection hq with hq
       subst hq
       refine ⟨hmc', fun e => ?_, fun e => ?_, fun e => absurd (ty_one htc e) (by decide)⟩
       · subst e; exact map_not_ty hM.out.bnm htc
       · subst e; exact map_not_ty hM.out.brm htc
     obtain ⟨D, hD1, hD2⟩ := hm1.rat
     have HD1 := Lib.hid hD1
     have HLG : Hid (∀ Wr rI, Wr.ranges Tryz.prog 100 tokE K.br rI (48 * l.length) D (has D) (size D) → (wo.setCell ⟨c, 0, none⟩ (.int .i64 (l.length : Int))).grownBy Wr none → LG w Wr K c l.length cd AD (topL K.r l) [] none 0 (48 * l.length) l R As cs D rI (has D) (size D)) := fun Wr rI hrg hg => by
       have hz : ∀ {b : Nat} {cur : Array Value} {t : TypeId} {fz : Nat × Nat}, (wo.setCell ⟨c, 0, none⟩ (.int .i64 (l.length : Int))).heap[b]? = some (.cells cur t fz) → Wr.heap[b]? = some (.cells cur t fz) := fun {b cur t fz} hc => (hg.block b (Array.getElem?_eq_some_iff.1 hc).1 (by simp)).trans hc
       have hbl : Below (wo.setCell ⟨c, 0, none⟩ (.int .i64 (l.length : Int))).heap.size (wo.setCell ⟨c, 0, none⟩ (.int .i64 (l.length : Int))) Wr := ⟨hg.os, hg.tape, hg.output, hg.size, fun q hq => hg.block q hq (by simp)⟩
       have b2 := (hg1.block _ (Array.getElem?_eq_some_iff.1 hF.out.b2).1 (fun e => by injection e with e; omega)).trans hF.out.b2
       have bc := outK_set (i := 0) (u := .int .i64 (l.length : Int)) hF.out.bc
       refine ⟨hm1.below hbl, (hF.out.bel.setCell (by show _ ≤ c; omega) _).trans (hbl.mono (by have := hF.out.bel.size; simp; omega)), hF.out.lo, hF.out.eb, rfl, hz b2, hz bc, ?_, own_nil _ _ _ _, hD2.kp (Kp.of_below hbl), hrg⟩
       have dn1 : OwVb (wo.setCell ⟨c, 0, none⟩ (.int .i64 (l.length : Int))) K.b0 AD cd l.length (topL K.r l) := own_blkK hF.out.dn fun q hq => by
         obtain ⟨_, cur, h2⟩ := oT hF.out.dn q hq
         exact hg1.block q (Array.getElem?_eq_some_iff.1 h2).1 (fun e => by
           injection e with e
           subst e
           exact absurd (ty_one htc ⟨_, _, h2⟩) (by decide))
       exact dn1.below hbl
     have HCO : Hid (Come l.length R D [] (has D)) := Come.start hD2 hn1
     have hbz : K.b0 ≤ wo.heap.size := hM.out.lo
     clear hD1 hD2 hm1 hg1 hcf HR HI htc
     go_wp2_with (first | (at_range; refine wpList_range_own _ rfl (.tmp 123) 94 rfl 100 56 pairKeyed Tryz.underlying94 tokE K.br (48 * l.length) D rfl HD1.out ?_; intro w0r hrg0 hg0 hs0) | fail)
     go_frame
     have hlg := HLG.out _ _ hrg0 hg0
     rw [World.size_setCell] at hs0 hlg
     have HG0 := Lib.hid hlg
     simp only [World.size_setCell]
     clear hrg0 hg0 hlg HLG HD1 hc0 hc1 hc2 hc3 hcf0 hmc5 hx7
     go_loopw [] (fun wr => ∃ (Ml : List (Nat × Nat)) (left : Lit → Bool) (cnt : Nat) (AM : Option Addr) (cm : Nat), LG w wr K c l.length cd AD (topL K.r l) Ml AM cm (48 * l.length) l R As cs D wo.heap.size left cnt ∧ Come l.length R D Ml left) (fun wr => wr.rangeLeft K.br wo.heap.size)
     case atStart => exact ⟨[], _, _, none, 0, HG0.out, HCO.out⟩
     case round =>
       obtain ⟨Ml, left, cnt, AM, cm, hlg, hco⟩ := hrel
       obtain ⟨wl, rfl⟩ : ∃ wl : World, wl = wr := ⟨_, rfl⟩
       have HLG := Lib.hid hlg
       have HCM := Lib.hid hco
       have hlo2 : K.b0 ≤ wo.heap.size := hbz
       have hml : Ml.length ≤ 1000000 := by
         have h1 := hco.len
         have h2 : l.length * l.length ≤ 256 * 256 := Nat.mul_le_mul hl256 hl256
         omega
       clear hlg hco
       go_wp2_with (first | (at_next; refine wpList_next_lg rfl (.tmp 124) rfl (by rfl) HLG.out hlo2 hn1 HCM.out.hl ?_ ?_) | fail)
       · intro hl0
         have hperm := HCM.out.perm hl0
         have HPM := Lib.hid hperm
         have KSo := Lib.hid (msort_any (V := valD D) 48 mkcmp_any (enters_of Tryz.func48 (by kernel_rfl) rfl) (fun p hp => by
           have := HCM.out.ok p hp
           have hr := (HLG.out.rd.val (x := p.1) (y := p.2) (by omega) (by omega) this.2.2.1).isR
           exact ⟨hr, by omega, by omega⟩) hperm (prs_lex _ _) HLG.out.mv hml)
         obtain ⟨hc0, hc1, hc2, hc3, -⟩ := chO_cells HLG.out.bc
         clear hperm
         go_wp2_with fail
         refine KSo.out.mono ?_
         rintro e w9 ⟨rfl, own9, hg9⟩
         have hrow : ∀ q, (Value.slice AM Ml.length cm).ownBlock = some q → K.b0 ≤ q ∧ TyB 65 wl q := fun q hq => by
           obtain ⟨h1, cur, h2⟩ := oT HLG.out.mv q hq
           exact ⟨h1, cur, _, h2⟩
         have hne : ∀ {b : Nat} {t : TypeId}, TyB t wl b → t ≠ 65 → some b ≠ (Value.slice AM Ml.length cm).ownBlock := fun {b t} ht h e => h (ty_one ht (hrow b e.symm).2)
         obtain ⟨m9, bel9, rd9, -⟩ := HLG.out.kind hg9 hrow (by decide) (by decide) (by decide) (by decide)
         have b29 := (hg9.block _ (Array.getElem?_eq_some_iff.1 HLG.out.b2).1 (hne ⟨_, _, HLG.out.b2⟩ (by decide))).trans HLG.out.b2
         have bc9 := (hg9.block _ (Array.getElem?_eq_some_iff.1 HLG.out.bc).1 (hne ⟨_, _, HLG.out.bc⟩ (by decide))).trans HLG.out.bc
         have dn9 : OwVb w9 K.b0 AD cd l.length (topL K.r l) := own_blkK HLG.out.dn fun q hq => by
           obtain ⟨_, cur, h2⟩ := oT HLG.out.dn q hq
           exact hg9.block q (Array.getElem?_eq_some_iff.1 h2).1 (hne ⟨_, _, h2⟩ (by decide))
         obtain ⟨z0, z1, z2, z3, -⟩ := chO_cells bc9
         obtain ⟨f0, f1, f2, f3, ff⟩ := chO_cells b29
         have ff0 := ff 0
         have ff1 := ff 1
         have ff2 := ff 2
         have ff3 := ff 3
         have y5 := m9.cells.2.2.2.2.2.1
         have ht2 : TyB 32 w9 (w.heap.size + 1) := ⟨_, _, b29⟩
         have hn2 : NotI w9 K.b0 (some (w.heap.size + 1)) := NotI.of_ty ht2 (by omega) (by decide) (by decide)
         have HFIN : Hid (∀ Wf, w9.grownBy Wf (some (w.heap.size + 1)) → MakeRet w.heap.size K.r K.r.tr.make (.returned (.tuple #[cv (l.length : Nat) 0 AM Ml.length cm AD l.length cd, .slice As l.length cs, .nilIface])) Wf ∧ Below w.heap.size w Wf) := fun Wf hgf => by
           have hkeep : ∀ {b0 s m : Nat} {e : TypeId} {v : Value} {xs : List Value}, e ≠ 32 → w9.ownsRow b0 e s v m xs → Wf.ownsRow b0 e s v m xs := fun {b0 s m e v xs} he ho => own_blkK ho fun q hq => by
             obtain ⟨_, cur, h2⟩ := oT ho q hq
             exact hgf.block q (Array.getElem?_eq_some_iff.1 h2).1 (fun e => by
               injection e with e
               subst e
               exact he (ty_one ⟨_, _, h2⟩ ht2))
           refine ⟨?_, bel9.trans ((Below.refl _ _).grown hgf bel9.size fun q hq => by injection hq with hq; omega)⟩
           rw [HMKE.out]
           have hlen := HPM.out.length_eq
           refine ⟨AM, cm, AD, cd, As, cs, by rw [hlen], ⟨valD D, fun p hp => ?_, ?_⟩, ?_, ?_⟩
           · have := mem_prs.1 (show p ∈ prs l.length R from hp)
             rw [← e9]
             exact (rd9.kp (Kp.notI hgf hn2)).val (by omega) (by omega) this.2.2.1
           · rw [← e9, ← hlen]
             exact hkeep (by decide) own9
           · rw [← e9]
             exact hkeep (by decide) dn9
           · rw [← e9]
             exact m9.st.grown hgf hn2 fun q hq e => by
               injection hq with hq
               subst hq
               exact absurd (ty_one ht2 e) (by decide)
         clear hne b29 bc9 dn9 ff ht2 hn2 rd9 m9 hg9 own9 KSo hc0 hc1 hc2 hc3
         go_wp2_with fail
         go_region
         all_goals
           go_wp2_with fail
           (try simp only [Exit.inBlock, Exit.then])
           refine bodyPost_ret (v := .tuple #[cv (l.length : Nat) 0 AM Ml.length cm AD l.length cd, .slice As l.length cs, .nilIface]) ?_ rfl (HFIN.out _ ?_)
           · rw [results_ctt rfl]
             go_simp
           · repeat' (first | (with_reducible exact World.grownBy.refl _ _) | (with_reducible refine World.grownBy.trans ?_ (grownBy_setK _ _ _ _)) | (with_reducible refine World.grownBy.trans ?_ (grownBy_drewK _ _)))
       · intro x y v w' cnt' hx hy hxy hlf hpos hval hvr hlg' hlt hen
         obtain ⟨s, A2, n2, c2, B2, m2, d2, rfl⟩ := hvr
         have HV := Lib.hid hval
         have HLG' := Lib.hid hlg'
         obtain ⟨hc0, hc1, hc2, hc3, -⟩ := chO_cells hlg'.bc
         have hc2a := fun o => Lib.cell?_alloc_some o hc2
         have hc2b := fun o o' => Lib.cell?_alloc_some o' (Lib.cell?_alloc_some o hc2)
         have hlo' := hlg'.mki.lo
         have HNX : Hid (Come l.length R D (Ml ++ [(x, y)]) (fun z => left z && !z.sameKey (pkL x y))) := HCM.out.next hn1 hx hy hxy hpos hlf
         have HCL : Hid (∀ (W : World) (B : Nat), B = W.heap.size → ∀ j u, (cellM ((x : Nat) : Int) ((y : Nat) : Int) (valD D (x, y)))[j]? = some u → (W.alloc (.cells #[.int .i64 (x : Int), .int .i64 (y : Int), .bool s, .slice A2 n2 c2, .slice B2 m2 d2] 65)).cell? ⟨B, j, none⟩ = some u) := fun W B e j u hu => by
           subst e
           rw [cell_of_row _ _ _ _ _ _ (heap_alloc_new W _)]
           rw [HV.out] at hu
           simpa [cellM, c3] using hu
         have HIR : Hid (isR (valD D (x, y))) := by
           show isR _
           rw [HV.out]
           exact ⟨s, A2, n2, c2, B2, m2, d2, rfl⟩
         have HPU : Hid (∀ (W3 w4 : World) (g4 c4 : Nat), Below w'.heap.size w' W3 → W3.grownBy w4 (Value.slice AM Ml.length cm).ownBlock → w4.ownsRow K.b0 65 5 (.slice (some ⟨g4, 0, none⟩) (Ml.length + 1) c4) (Ml.length + 1) (cellsP (Ml ++ [(x, y)]) (valD D)) →
             LG w (w4.setCell ⟨c, 2, none⟩ (.slice (some ⟨g4, 0, none⟩) (Ml.length + 1) c4)) K c l.length cd AD (topL K.r l) (Ml ++ [(x, y)]) (some ⟨g4, 0, none⟩) c4 (48 * l.length) l R As cs D wo.heap.size (fun z => left z && !z.sameKey (pkL x y)) cnt' ∧ w4.cell? ⟨c, 2, none⟩ = some (.slice AM Ml.length cm) ∧ w4.frozen? ⟨c, 2, none⟩ = false) := fun W3 w4 g4 c4 hb hg own => HLG'.out.push hb hg own
         clear hlg' hval
         go_wp2_with (first | (at_builtin; refine wpList_appPr rfl (.tmp 131) (.tmp 138) rfl K.b0 AM cm Ml (valD D) (by simp [Act.eval]) (own_below HLG'.out.mv (by (skip); repeat' (first | (with_reducible first | exact BlR _ _ | assumption | refine BlA ?_ ?_ _ | refine BlD ?_ | refine BlN ?_ _ | refine BlS ?_ ?_ _ | refine BlT ?_ (BlM (by assumption) ?_)) | omega | (simp only [ZZ]; omega) | go_size))) (w'.heap.size + 1 + 1) (x, y) HIR.out (by simp [Act.eval]) (HCL.out _ _ (by simp)) hml (by simp; omega) ?_; intro g4 c4 w4 own4 hg4; obtain ⟨r1, r3, r4⟩ := HPU.out _ w4 g4 c4 (by (skip); repeat' (first | (with_reducible first | exact BlR _ _ | assumption | refine BlA ?_ ?_ _ | refine BlD ?_ | refine BlN ?_ _ | refine BlS ?_ ?_ _ | refine BlT ?_ (BlM (by assumption) ?_)) | omega | (simp only [ZZ]; omega) | go_size)) hg4 own4) | fail)
         go_roundw
         case rel => exact ⟨Ml ++ [(x, y)], _, cnt', some ⟨g4, 0, none⟩, c4, r1, HNX.out⟩
         case measure =>
           rw [r1.rng.left_eq, HLG.out.rng.left_eq]
           exact hlt
end
end Go.Proofs.YtoiopnmphbnjaaaGreatDoor
