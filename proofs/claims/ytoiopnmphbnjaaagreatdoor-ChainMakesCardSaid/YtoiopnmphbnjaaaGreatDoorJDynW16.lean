/- Contracts and lemmas for the given statements. Conditions: those alone that each names. -/
import Derived.Test.YtoiopnmphbnjaaaGreatDoorJDynW14
import Derived.Lib.SliceRun
set_option maxHeartbeats 16000000
namespace Go.Proofs.YtoiopnmphbnjaaaGreatDoor
open Go.RowKit
set_option linter.unusedSimpArgs false
set_option linter.unusedVariables false
set_option maxRecDepth 20000
/-! ## package dynamic: Repair -/
section
variable {w : World} {AG AF AR Am : Option Addr} {cg cf cr cm : Nat} {r : DyR} {F e : Nat} {M : List Int}
theorem drepair_ok (h : DyI w AG AF AR r) (hs : DyS r) (hc : codeD r = 0) (st : StOk r F M) (rj : RdJ w Am r.ng (fun i => M.getD i 0)) (he : e < r.v.toNat) (hb : F.testBit e = true) (hh : heldD r.dy (F, M) e = false) :
   Calls Tryz.prog 25 #[dyv r AG cg AF cf AR cr, .agg #[.int .i64 (F : Int), .slice Am r.ng cm], .int .i64 (e : Int)] w fun x w' => StRet 0 w.heap.size r.ng (stR r.dy (F, M) e) x w' ∧ Below w.heap.size w w' := by
 have ok := codeD_ok hc
 obtain ⟨v, hv⟩ : ∃ v : Nat, r.v = v := ⟨r.v.toNat, by have := ok.v1; omega⟩
 have v24 : v ≤ 24 := by have := ok.v2; omega
 have hF : F < 2 ^ v := by have := st.f; rw [hv] at this; simpa using this
 have hev : e < v := by rw [hv] at he; simpa using he
 have hp : 2 ^ v ≤ 16777216 := Nat.pow_le_pow_right (n := 2) (by omega) v24
 have hG : ndiff F (2 ^ e) < 2 ^ v := ndiff_lt hF
 have KC := Lib.hid (fun X (hX : Below w.heap.size w X) => dchk_ok (cg := cg) (cf := cf) (cr := cr) (cm := cm) (h.below hX) hs hc st (rj.below hX))
 have KS := Lib.hid (fun X (hX : Below w.heap.size w X) => dsettle_any (w := X) (F := ndiff F (2 ^ e)) (cg := cg) (cf := cf) (cr := cr) (co := cm) (h.below hX) ok hv hG (rj.below hX) st.o7)
 have KH := Lib.hid (fun X (hX : Below w.heap.size w X) => (by
   have := dheld_ok (w := X) (e := e) (cg := cg) (cf := cf) (cr := cr) (cm := cm) (h.below hX) ok st (rj.below hX)
   rw [hh] at this
   exact this : Calls Tryz.prog 64 #[dyv r AG cg AF cf AR cr, .agg #[.int .i64 (F : Int), .slice Am r.ng cm], .int .i64 (e : Int)] X fun z w' => z = .returned (.bool false) ∧ Below X.heap.size X w'))
 have HST : Hid (stR r.dy (F, M) e = setl r.dy (ndiff F (2 ^ e)) M) := rfl
 rw [HST.out]
 generalize hS : setl r.dy (ndiff F (2 ^ e)) M = S at *
 have s1 := yshr F e
 have hq : F / 2 ^ e < 16777216 := Nat.lt_of_le_of_lt (Nat.div_le_self _ _) (by omega)
 have s2 : bits .and .i64 ((F / 2 ^ e : Nat) : Int) 1 = ((F / 2 ^ e % 2 : Nat) : Int) := yand1 (by omega)
 have s3 : F / 2 ^ e % 2 = 1 := by rw [ybit, hb]; rfl
 rw [s3] at s2
 have s4 := yshl (k := e) (by omega)
 have s6 := yshl2 (k := e) (by omega)
 have he24 := yp24 (k := e) (by omega)
 have s5 : bits .andNot .i64 (F : Int) ((2 ^ e : Nat) : Int) = ((ndiff F (2 ^ e) : Nat) : Int) := i64_andNot _ _ (by omega) (by omega)
 generalize ndiff F (2 ^ e) = G at *
 generalize F / 2 ^ e = q1 at *
 generalize 2 ^ e = pe at *
 unfold dyv at KC KS KH ⊢
 rw [hv] at KC KS KH ⊢
 clear hs h ok hc hS HST st rj he s3 hb hh
 go_enter Tryz.func25, Tryz.ntmps25
 go_wp2_with fail
 refine (KC.out _ (by (skip); repeat' (first | (with_reducible first | exact BlR _ _ | assumption | refine BlA ?_ ?_ _ | refine BlD ?_ | refine BlN ?_ _ | refine BlS ?_ ?_ _ | refine BlT ?_ (BlM (by assumption) ?_)) | omega | (simp only [ZZ]; omega) | go_size))).mono ?_
 rintro x w1 ⟨rfl, hb1⟩
 have hb1z := hb1.size
 simp only [World.size_alloc] at hb1z
 have x0 : w1.cell? ⟨w.heap.size, 0, none⟩ = some (.int .i64 (v : Int)) := (below_at hb1 w.heap.size 0 (by simp; omega)).trans (by simp [go_sem])
 have x1 : w1.cell? ⟨w.heap.size, 1, none⟩ = some (.slice AG r.ng cg) := (below_at hb1 w.heap.size 1 (by simp; omega)).trans (by simp [go_sem])
 have x2 : w1.cell? ⟨w.heap.size, 2, none⟩ = some (.int .i64 r.top) := (below_at hb1 w.heap.size 2 (by simp; omega)).trans (by simp [go_sem])
 have x3 : w1.cell? ⟨w.heap.size, 3, none⟩ = some (.slice AF r.nf cf) := (below_at hb1 w.heap.size 3 (by simp; omega)).trans (by simp [go_sem])
 have x4 : w1.cell? ⟨w.heap.size, 4, none⟩ = some (.slice AR r.nr cr) := (below_at hb1 w.heap.size 4 (by simp; omega)).trans (by simp [go_sem])
 have y0 : w1.cell? ⟨w.heap.size + 1, 0, none⟩ = some (.int .i64 (F : Int)) := (below_at hb1 (w.heap.size + 1) 0 (by simp)).trans (by simp [go_sem])
 have y1 : w1.cell? ⟨w.heap.size + 1, 1, none⟩ = some (.slice Am r.ng cm) := (below_at hb1 (w.heap.size + 1) 1 (by simp)).trans (by simp [go_sem])
 have t0 : w1.cell? ⟨w.heap.size + 1 + 1, 0, none⟩ = some (.int .i64 0) := (below_at hb1 (w.heap.size + 1 + 1) 0 (by simp)).trans (by simp [go_sem])
 have t1 : w1.cell? ⟨w.heap.size + 1 + 1, 1, none⟩ = some (.slice none 0 0) := (below_at hb1 (w.heap.size + 1 + 1) 1 (by simp)).trans (by simp [go_sem])
 have d0 : w1.frozen? ⟨w.heap.size + 1 + 1, 0, none⟩ = false := (below_fr hb1 (w.heap.size + 1 + 1) 0 (by simp)).trans (by simp [go_sem])
 have d1 : w1.frozen? ⟨w.heap.size + 1 + 1, 1, none⟩ = false := (below_fr hb1 (w.heap.size + 1 + 1) 1 (by simp)).trans (by simp [go_sem])
 have hbA : Below w.heap.size w w1 := (by have z0 := Below.size hb1; (try simp only [ZZ] at z0 ⊢; skip); repeat' (first | (with_reducible first | exact BlR _ _ | assumption | refine BlA ?_ ?_ _ | refine BlD ?_ | refine BlN ?_ _ | refine BlS ?_ ?_ _ | refine BlT ?_ (BlM (by assumption) ?_)) | omega | (simp only [ZZ]; omega) | go_size))
 clear hb1
 go_wp2_with fail
 refine (KH.out _ hbA).mono ?_
 rintro x w2 ⟨rfl, hb2⟩
 have hb2z := hb2.size
 have x0' := (below_at hb2 w.heap.size 0 (by omega)).trans x0
 have x1' := (below_at hb2 w.heap.size 1 (by omega)).trans x1
 have x2' := (below_at hb2 w.heap.size 2 (by omega)).trans x2
 have x3' := (below_at hb2 w.heap.size 3 (by omega)).trans x3
 have x4' := (below_at hb2 w.heap.size 4 (by omega)).trans x4
 have y0' := (below_at hb2 (w.heap.size + 1) 0 (by omega)).trans y0
 have y1' := (below_at hb2 (w.heap.size + 1) 1 (by omega)).trans y1
 have t0' := (below_at hb2 (w.heap.size + 1 + 1) 0 (by omega)).trans t0
 have t1' := (below_at hb2 (w.heap.size + 1 + 1) 1 (by omega)).trans t1
 have d0' := (below_fr hb2 (w.heap.size + 1 + 1) 0 (by omega)).trans d0
 have d1' := (below_fr hb2 (w.heap.size + 1 + 1) 1 (by omega)).trans d1
 have hbB : Below w.heap.size w w2 := hbA.trans (hb2.mono (by omega))
 go_wp2_with fail
 have hbd : Below w.heap.size w w2.drew := hbB.trans ((Below.refl _ _).drew)
 have K := Lib.hid (KS.out w2.drew hbd)
 clear KS KC KH
 go_region_with ((go_at_call 63; (with_reducible refine (K.out).mono ?_); rintro e w5 ⟨⟨A5, c5, rfl, oj5⟩, hb5⟩; have hb5z := Below.size hb5; (try simp only [ZZ] at hb5z); obtain ⟨hb5c0, hb5f0⟩ := bbo hb5 (w.heap.size + 1 + 1) (by first | omega | (simp only [ZZ]; omega)); have hb5l0 : w.heap.size + 1 + 1 < (w5).heap.size := (by omega)))
 all_goals
   have h0 := (hb5c0 0).trans t0'
   have h1 := (hb5c0 1).trans t1'
   have hfin : StRet 0 w.heap.size r.ng S (.returned (.tuple #[.agg #[.int .i64 (S.1 : Int), .slice A5 r.ng c5], .nilIface])) ((w5.setCell ⟨w.heap.size + 1 + 1, 0, none⟩ (.int .i64 (S.1 : Int))).setCell ⟨w.heap.size + 1 + 1, 1, none⟩ (.slice A5 r.ng c5)) := by
     unfold StRet
     rw [if_pos rfl]
     exact ⟨A5, c5, rfl, OwJ.base_ (base := w2.heap.size) (ofar _ (ofar _ oj5 (by show _ < w2.heap.size; omega)) (by omega)) (by omega)⟩
   have hbF : Below w.heap.size w ((w5.setCell ⟨w.heap.size + 1 + 1, 0, none⟩ (.int .i64 (S.1 : Int))).setCell ⟨w.heap.size + 1 + 1, 1, none⟩ (.slice A5 r.ng c5)) := (by have z0 := Below.size hbd; have z1 := Below.size hb5; (try simp only [ZZ] at z0 z1 ⊢; skip); repeat' (first | (with_reducible first | exact BlR _ _ | assumption | refine BlA ?_ ?_ _ | refine BlD ?_ | refine BlN ?_ _ | refine BlS ?_ ?_ _ | refine BlT ?_ (BlM (by assumption) ?_)) | omega | (simp only [ZZ]; omega) | go_size))
   have HFIN := Lib.hid hfin
   clear hfin
   go_wp2_with fail
   (try simp only [Exit.inBlock, Exit.then])
   refine bodyPost_ret (v := .tuple #[.agg #[.int .i64 (S.1 : Int), .slice A5 r.ng c5], .nilIface]) ?_ rfl ⟨HFIN.out, hbF⟩
   rw [results_cell_tmp rfl]
   go_simp
end
end Go.Proofs.YtoiopnmphbnjaaaGreatDoor
namespace Go.Proofs.YtoiopnmphbnjaaaGreatDoor
open Go.RowKit
set_option linter.unusedSimpArgs false
set_option linter.unusedVariables false
set_option maxRecDepth 20000
/-! ## slices.Clone of words, clone of a fraction -/
theorem dclW_any {w : World} {c : Nat} {A : Option Addr} {l : List Nat} (h : RdW w w.heap.size A l) (hn : l.length ≤ 1000000) :
   Calls Tryz.prog 112 #[.slice A l.length c] w fun e w' => (∃ A' c', e = .returned (.slice A' l.length c') ∧ OwW w' w.heap.size A' c' l) ∧ Below w.heap.size w w' := by
 have hs := fun w => Lib.run_eql_slice_nil (P := Tryz.prog) w 54 157 A l.length c 0 0 Tryz.underlying54
 cases A with
 | none =>
   have h0 : l = [] := by
     rcases Nat.eq_zero_or_pos l.length with h0 | h0
     · exact List.length_eq_zero_iff.1 h0
     · obtain ⟨b, off, e, _⟩ := h.2 h0
       cases e
   subst h0
   simp only [List.length_nil] at hs ⊢
   go_enter Tryz.func112, Tryz.ntmps112
   go_wp2
   go_ret
   exact ⟨⟨_, _, rfl, own_nil _ _ _ _⟩, Below.refl _ _⟩
 | some a =>
   have HR := Lib.hid h
   clear h
   go_enter Tryz.func112, Tryz.ntmps112
   go_wp2_with (at_builtin; refine wpList_appW rfl (.tmp 5) (.tmp 6) rfl w.heap.size (some ⟨w.heap.size, 0, none⟩) 0 0 [] rfl rfl (OwW.lit0 (Nat.le_refl _)) w.heap.size (some a) c l.length l rfl rfl (Rds.alloc HR.out (Nat.le_refl _) _) (by omega) (by simp) ?_; intro A1 c1 w1 hown hbel hfr)
   simp only [Nat.zero_add, List.nil_append] at hown hfr
   have hb1 : Below w.heap.size w w1 := ((Below.refl _ _).alloc (Nat.le_refl _) _).trans hbel
   have HO := Lib.hid hown
   clear hown
   go_wp2
   go_ret
   exact ⟨⟨_, _, rfl, HO.out⟩, hb1⟩
theorem ofar3 {w : World} {b0 b c : Nat} {A : Option Addr} {l : List Nat} (h : OwW w b0 A c l) (hb : b < b0) (u0 u1 u2 : Value) : OwW (((w.setCell ⟨b, 0, none⟩ u0).setCell ⟨b, 1, none⟩ u1).setCell ⟨b, 2, none⟩ u2) b0 A c l := ofar _ (ofar _ (ofar _ h hb) hb) hb
theorem dcloneS {w : World} {b0 : Nat} {v : Value} {r : Rw} (h : RdS w b0 v r) (hv : validR r = true) (h1 : r.2.1.length ≤ 1000) (h2 : r.2.2.length ≤ 1000) :
   Calls Tryz.prog 65 #[v] w fun e w' => RetQ w.heap.size (valR r) e w' ∧ Below w.heap.size w w' := by
 obtain ⟨A, c, B, d, rfl, c1, c2, ok, rA, rB, _, _⟩ := h
 have hcan := canR_valR ok hv
 obtain ⟨s, l, m⟩ := r
 dsimp only at *
 have K1 := Lib.hid (fun X (hX : Below w.heap.size w X) => dclW_any (w := X) (c := c) (A := A) (l := l) (rA.on hX hX.size) (by omega))
 have K2 := Lib.hid (fun X (hX : Below w.heap.size w X) => dclW_any (w := X) (c := d) (A := B) (l := m) (rB.on hX hX.size) (by omega))
 have HR : Hid (∀ A' c' B' d' w', OwW w' w.heap.size A' c' l → OwW w' w.heap.size B' d' m → RetQ w.heap.size (valR (s, l, m)) (.returned (rv s A' l.length c' B' m.length d')) w') := fun A' c' B' d' w' o1 o2 => ⟨_, rfl, A', c', B', d', by rw [hcan], by rw [hcan]; exact o1, by rw [hcan]; exact o2⟩
 generalize valR (s, l, m) = q at *
 have hc0 : c1 = c1 := rfl
 clear rA rB hcan hv ok hc0
 go_enter Tryz.func65, Tryz.ntmps65
 go_wp2_with fail
 have t0 : ((w.alloc (.cells #[.bool s, .slice A l.length c, .slice B m.length d] 56)).alloc (.cells #[.bool false, .slice none 0 0, .slice none 0 0] 56)).drew.cell? ⟨w.heap.size + 1, 0, none⟩ = some (.bool false) := by simp [go_sem]
 go_region_with (first | (go_at_call 112; (with_reducible refine (K1.out _ (by (skip); repeat' (first | (with_reducible first | exact BlR _ _ | assumption | refine BlA ?_ ?_ _ | refine BlD ?_ | refine BlN ?_ _ | refine BlS ?_ ?_ _ | refine BlT ?_ (BlM (by assumption) ?_)) | omega | (simp only [ZZ]; omega) | go_size))).mono ?_); rintro e w4 ⟨⟨A4, c4, rfl, own4⟩, hb4⟩; have hb4z := Below.size hb4; (try simp only [ZZ] at hb4z); obtain ⟨hb4c0, hb4f0⟩ := bbo hb4 (w.heap.size) (by first | omega | (simp only [ZZ]; omega)); have hb4l0 : w.heap.size < (w4).heap.size := (by omega); obtain ⟨hb4c1, hb4f1⟩ := bbo hb4 (w.heap.size + 1) (by first | omega | (simp only [ZZ]; omega)); have hb4l1 : w.heap.size + 1 < (w4).heap.size := (by omega)) | (go_at_call 112; (with_reducible refine (K2.out _ (by (skip); repeat' (first | (with_reducible first | exact BlR _ _ | assumption | refine BlA ?_ ?_ _ | refine BlD ?_ | refine BlN ?_ _ | refine BlS ?_ ?_ _ | refine BlT ?_ (BlM (by assumption) ?_)) | omega | (simp only [ZZ]; omega) | go_size))).mono ?_); rintro e w5 ⟨⟨A5, c5, rfl, own5⟩, hb5⟩; have hb5z := Below.size hb5; (try simp only [ZZ] at hb5z); obtain ⟨hb5c0, hb5f0⟩ := bbo hb5 (w.heap.size) (by first | omega | (simp only [ZZ]; omega)); have hb5l0 : w.heap.size < (w5).heap.size := (by omega); obtain ⟨hb5c1, hb5f1⟩ := bbo hb5 (w.heap.size + 1) (by first | omega | (simp only [ZZ]; omega)); have hb5l1 : w.heap.size + 1 < (w5).heap.size := (by omega)))
 all_goals clear K1 K2
 all_goals first
   | (have o4 : OwW w5 (w.heap.size + 2) A4 c4 l := own_base (own4.below hb5) (by first | omega | (simp only [World.size_alloc, World.size_drew]; omega))
      have o5 : OwW w5 (w.heap.size + 2) A5 c5 m := own_base own5 (by first | omega | (simp only [World.size_alloc, World.size_drew]; omega))
      have e := fun o => (hb5c1 o).trans (hb4c1 o)
      have g0 : w5.cell? ⟨w.heap.size + 1, 0, none⟩ = some (.bool false) := (e 0).trans (by simp [go_sem])
      have g1 : w5.cell? ⟨w.heap.size + 1, 1, none⟩ = some (.slice none 0 0) := (e 1).trans (by simp [go_sem])
      have g2 : w5.cell? ⟨w.heap.size + 1, 2, none⟩ = some (.slice none 0 0) := (e 2).trans (by simp [go_sem])
      have hbF : Below w.heap.size w w5 := (by have z0 := Below.size hb4; have z1 := Below.size hb5; (try simp only [ZZ] at z0 z1 ⊢; skip); repeat' (first | (with_reducible first | exact BlR _ _ | assumption | refine BlA ?_ ?_ _ | refine BlD ?_ | refine BlN ?_ _ | refine BlS ?_ ?_ _ | refine BlT ?_ (BlM (by assumption) ?_)) | omega | (simp only [ZZ]; omega) | go_size))
      have HF := Lib.hid (HR.out A4 c4 A5 c5 _ (own_base (ofar3 (b := w.heap.size + 1) o4 (by omega) (.bool s) (.slice A4 l.length c4) (.slice A5 m.length c5)) (by omega)) (own_base (ofar3 (b := w.heap.size + 1) o5 (by omega) (.bool s) (.slice A4 l.length c4) (.slice A5 m.length c5)) (by omega)))
      have hbG : Below w.heap.size w (((w5.setCell ⟨w.heap.size + 1, 0, none⟩ (.bool s)).setCell ⟨w.heap.size + 1, 1, none⟩ (.slice A4 l.length c4)).setCell ⟨w.heap.size + 1, 2, none⟩ (.slice A5 m.length c5)) := (by have z0 := Below.size hbF; (try simp only [ZZ] at z0 ⊢; skip); repeat' (first | (with_reducible first | exact BlR _ _ | assumption | refine BlA ?_ ?_ _ | refine BlD ?_ | refine BlN ?_ _ | refine BlS ?_ ?_ _ | refine BlT ?_ (BlM (by assumption) ?_)) | omega | (simp only [ZZ]; omega) | go_size))
      clear o4 o5 e own4 own5 HR
      go_wp2_with fail
      (try simp only [Exit.inBlock, Exit.then])
      refine bodyPost_ret (v := rv s A4 l.length c4 A5 m.length c5) ?_ rfl ⟨HF.out, hbG⟩
      rw [results_cell1 rfl]
      go_simp)
   | (have o4 : OwW w4 (w.heap.size + 2) A4 c4 l := own_base own4 (by first | omega | (simp only [World.size_alloc, World.size_drew]; omega))
      have o5 : OwW w4 (w.heap.size + 2) A5 c5 m := own_base (own5.below hb4) (by first | omega | (simp only [World.size_alloc, World.size_drew]; omega))
      have e := fun o => (hb4c1 o).trans (hb5c1 o)
      have g0 : w4.cell? ⟨w.heap.size + 1, 0, none⟩ = some (.bool false) := (e 0).trans (by simp [go_sem])
      have g1 : w4.cell? ⟨w.heap.size + 1, 1, none⟩ = some (.slice none 0 0) := (e 1).trans (by simp [go_sem])
      have g2 : w4.cell? ⟨w.heap.size + 1, 2, none⟩ = some (.slice none 0 0) := (e 2).trans (by simp [go_sem])
      have hbF : Below w.heap.size w w4 := (by have z0 := Below.size hb5; have z1 := Below.size hb4; (try simp only [ZZ] at z0 z1 ⊢; skip); repeat' (first | (with_reducible first | exact BlR _ _ | assumption | refine BlA ?_ ?_ _ | refine BlD ?_ | refine BlN ?_ _ | refine BlS ?_ ?_ _ | refine BlT ?_ (BlM (by assumption) ?_)) | omega | (simp only [ZZ]; omega) | go_size))
      have HF := Lib.hid (HR.out A4 c4 A5 c5 _ (own_base (ofar3 (b := w.heap.size + 1) o4 (by omega) (.bool s) (.slice A4 l.length c4) (.slice A5 m.length c5)) (by omega)) (own_base (ofar3 (b := w.heap.size + 1) o5 (by omega) (.bool s) (.slice A4 l.length c4) (.slice A5 m.length c5)) (by omega)))
      have hbG : Below w.heap.size w (((w4.setCell ⟨w.heap.size + 1, 0, none⟩ (.bool s)).setCell ⟨w.heap.size + 1, 1, none⟩ (.slice A4 l.length c4)).setCell ⟨w.heap.size + 1, 2, none⟩ (.slice A5 m.length c5)) := (by have z0 := Below.size hbF; (try simp only [ZZ] at z0 ⊢; skip); repeat' (first | (with_reducible first | exact BlR _ _ | assumption | refine BlA ?_ ?_ _ | refine BlD ?_ | refine BlN ?_ _ | refine BlS ?_ ?_ _ | refine BlT ?_ (BlM (by assumption) ?_)) | omega | (simp only [ZZ]; omega) | go_size))
      clear o4 o5 e own4 own5 HR
      go_wp2_with fail
      (try simp only [Exit.inBlock, Exit.then])
      refine bodyPost_ret (v := rv s A4 l.length c4 A5 m.length c5) ?_ rfl ⟨HF.out, hbG⟩
      rw [results_cell1 rfl]
      go_simp)
end Go.Proofs.YtoiopnmphbnjaaaGreatDoor
