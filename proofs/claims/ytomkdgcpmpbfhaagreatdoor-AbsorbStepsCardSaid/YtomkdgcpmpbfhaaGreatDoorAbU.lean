/- Contracts of functions and lemmas, used by the proofs of the given statements. No condition beyond those that each lemma names. -/
import Derived.Test.YtomkdgcpmpbfhaaGreatDoorAbU0
namespace Go.Proofs.YtomkdgcpmpbfhaaGreatDoor
open Go.RowKit
set_option linter.unusedSimpArgs false
set_option linter.unusedVariables false
set_option maxRecDepth 20000
attribute [local irreducible] nv wp win plainB validR valR canR mvE chkM codeC spr sprN chg cnt cntB ixB kept sysK plB parM outK gj
/-! ## package absorb: solve -/
/-- marks, a row, and an error's number -/
def RetSo (n : Nat) (f : Nat → Bool) (x : Nat → Rat) (code : Int) (b : Nat) (e : Ending) (w' : World) : Prop :=
  if code = 0 then ∃ A1 c1 A2 c2, e = .returned (.tuple #[.slice A1 n c1, .slice A2 n c2, .nilIface]) ∧ OwB w' b A1 c1 n f ∧ RowA w' w'.heap.size A2 n (can x) else e = .returned (.tuple #[.slice none 0 0, .slice none 0 0, errM code])
theorem retSo_0 {n : Nat} {f : Nat → Bool} {x : Nat → Rat} {code : Int} {b : Nat} {w' : World} {A1 A2 : Option Addr} {c1 c2 : Nat} (h : code = 0) (h1 : OwB w' b A1 c1 n f) (h2 : RowA w' w'.heap.size A2 n (can x)) : RetSo n f x code b (.returned (.tuple #[.slice A1 n c1, .slice A2 n c2, .nilIface])) w' := by
  unfold RetSo; rw [if_pos h]; exact ⟨A1, c1, A2, c2, rfl, h1, h2⟩
theorem retSo_n {n : Nat} {f : Nat → Bool} {x : Nat → Rat} {code : Int} {b : Nat} {w' : World} {z : Value} (h : code ≠ 0) (hz : errM code = z) : RetSo n f x code b (.returned (.tuple #[.slice none 0 0, .slice none 0 0, z])) w' := by
  unfold RetSo; rw [if_neg h, hz]
theorem retB4_pass {n : Nat} {f : Nat → Bool} {code : Int} {b : Nat} {e : Ending} {w' : World} (h : RetB4 n f code b e w') (h0 : code = 0) : ∃ A c', e = .returned (.tuple #[.slice A n c', .nilIface]) ∧ OwB w' b A c' n f := by
  unfold RetB4 at h; rwa [if_pos h0] at h
theorem retB4_err {n : Nat} {f : Nat → Bool} {code : Int} {b : Nat} {e : Ending} {w' : World} (h : RetB4 n f code b e w') (h0 : code ≠ 0) : e = .returned (.tuple #[.slice none 0 0, errM code]) := by
  unfold RetB4 at h; rwa [if_neg h0] at h
set_option maxHeartbeats 16000000 in
theorem solveA_any {w : World} {AM AD : Option Addr} {cm cd : Nat} {c : Chn} (back : Bool) (h : ChI w w.heap.size AM cm AD cd c) (hs : ChS c 400) (hnd : c.Ok → c.nd ≤ 9) (hsz : c.Ok → ∀ k, k ≤ c.nm → ∀ i j, Sz 400 (sysK c.lv c.f c.t c.q back k i j)) :
    Calls Tryz.prog 40 #[cv c.st c.sr AM c.nm cm AD c.nd cd, .bool back] w fun e w' => RetSo c.nd c.lv (c.sol back) c.codeA w.heap.size e w' ∧ Below w.heap.size w w' := by
  have K1 := Lib.hid (fun W (hb : Below w.heap.size w W) => live_any (h.below hb) hs)
  by_cases h0 : c.codeA = 0
  · have ok := Chn.codeA_ok h0
    have K2 := Lib.hid (fun W Al cl (hb : Below w.heap.size w W) hl => system_any (Al := Al) (cl := cl) back (h.below hb) ok hs hl (hsz ok))
    have hn1 := ok.lo
    have hn9 := hnd ok
    obtain ⟨hS0, hS1⟩ := Chn.part_sol h0 back
    have HS1 := Lib.hid hS1
    have hSP : ∀ a b, Sz 400 (parM c.lv c.f c.t c.q back c.nd c.nm a b) := fun a b => by unfold parM; exact hsz ok c.nm (Nat.le_refl _) _ _
    have HNo := Lib.hid (fun (hm : cntB c.lv c.nd = 0) s (hs : s < c.nd) => Chn.sol_none (c := c) back hm hs)
    have hml : cntB c.lv c.nd ≤ c.nd := cntB_le
    have HRs := Lib.hid (fun k => Chn.rhsK_s c back k)
    have HRz := Lib.hid (fun k => Chn.rhsK_z c back k)
    have HR0 := Lib.hid (Chn.rhsK_0 c back)
    have HRS : Hid (∀ k t, Sz 400 (c.rhsK back k t)) := fun k t => by
      unfold Chn.rhsK
      split
      · exact c.rhs_sz back _
      · exact Sz.zero (by omega)
    have HO0 := Lib.hid (fun x => outK_0 c.lv x)
    have HOs := Lib.hid (fun x k (hk : k < cntB c.lv c.nd) s (hs : s < c.nd) => outK_s (l := c.lv) (x := x) hk hs)
    have HIL := Lib.hid (fun k (hk : k < cntB c.lv c.nd) => (ixB_lt hk).1)
    have HKG := Lib.hid (fun k hk => (kept_get hk : (kept c.lv c.nd)[k]'hk = ixB c.lv c.nd k))
    have hkl : (kept c.lv c.nd).length = cntB c.lv c.nd := kept_len
    have hsr : c.sr = ((c.sr.toNat : Nat) : Int) := by have := ok.s0; omega
    have hRHS : ∀ i, c.rhs back i = if back then (if i = c.sr.toNat then 1 else 0) else 1 := fun i => rfl
    have HRHS := Lib.hid hRHS
    -- the system's solution
    have KS : Hid (∀ W A B ca cb, 0 < cntB c.lv c.nd → MatI W W.heap.size A (cntB c.lv c.nd) (fun _ => cntB c.lv c.nd) (fun i => can (parM c.lv c.f c.t c.q back c.nd c.nm i)) → RowI W W.heap.size B (cntB c.lv c.nd) (can (c.rhsK back (cntB c.lv c.nd))) →
        Calls Tryz.prog 71 #[.slice A (cntB c.lv c.nd) ca, .slice B (cntB c.lv c.nd) cb] W fun e w' => (∃ A' d, e = .returned (.tuple #[.slice A' (cntB c.lv c.nd) d, .nilIface]) ∧ OwR w' W.heap.size A' d (cntB c.lv c.nd) (can fun i => (gj (cntB c.lv c.nd) (wide (parM c.lv c.f c.t c.q back c.nd c.nm) (c.rhsK back (cntB c.lv c.nd)) (cntB c.lv c.nd)) (cntB c.lv c.nd + 1)).1 i (cntB c.lv c.nd))) ∧ Below W.heap.size W w') := by
      intro W A B ca cb hm hA hB
      have := solve_any (ca := ca) (cb := cb) (m := 0) (L := 400) hA hB (codeM_sq hm (by omega)) rfl (fun i k _ _ => Sz_canR (hSP i k)) (fun i k _ _ => canR_ok _) (fun i _ => Sz_canR (HRS.out _ i)) (fun i _ => canR_ok _) (by omega) (gl_10 (by omega))
      have e1 : (fun i k => valR (can (parM c.lv c.f c.t c.q back c.nd c.nm i) k)) = parM c.lv c.f c.t c.q back c.nd c.nm := by funext i k; exact valR_canR _
      have e2 : (fun i => valR (can (c.rhsK back (cntB c.lv c.nd)) i)) = c.rhsK back (cntB c.lv c.nd) := by funext i; exact valR_canR _
      rw [e1, e2] at this
      refine this.mono fun e w' hh => ⟨?_, hh.2⟩
      have h1 := hh.1
      unfold RetSolve at h1
      rw [if_pos hS0] at h1
      exact h1
    obtain ⟨X, hX⟩ : ∃ X : Nat → Rat, X = fun i => (gj (cntB c.lv c.nd) (wide (parM c.lv c.f c.t c.q back c.nd c.nm) (c.rhsK back (cntB c.lv c.nd)) (cntB c.lv c.nd)) (cntB c.lv c.nd + 1)).1 i (cntB c.lv c.nd) := ⟨_, rfl⟩
    obtain ⟨PM, hPM⟩ : ∃ PM, PM = parM c.lv c.f c.t c.q back c.nd c.nm := ⟨_, rfl⟩
    obtain ⟨RK, hRK⟩ : ∃ RK, RK = c.rhsK back := ⟨_, rfl⟩
    obtain ⟨SO, hSO⟩ : ∃ SO, SO = c.sol back := ⟨_, rfl⟩
    rw [← hX] at HS1 KS
    rw [← hPM] at KS K2
    rw [← hRK] at KS HRs HRz HR0
    rw [← hSO] at HS1 HNo ⊢
    have HOX0 := Lib.hid (HO0.out X)
    have HOXs := Lib.hid (HOs.out X)
    have HRHS := Lib.hid hRHS
    have K0 : Hid (∀ W : World, Calls Tryz.prog 28 #[.int .i64 1] W fun e w' => RetQ W.heap.size ((1 : Nat) : Rat) e w' ∧ Below W.heap.size W w') := fun W => ofQ 1 W (by omega)
    obtain ⟨LV, hLV⟩ : ∃ LV, LV = c.lv := ⟨_, rfl⟩
    rw [← hLV] at K1 HS1 KS HNo hml HIL HKG hkl HOX0 HOXs K2 HRs HRz ⊢
    obtain ⟨m, hm⟩ : ∃ m, m = cntB LV c.nd := ⟨_, rfl⟩
    rw [← hm] at HS1 KS HNo hml HOXs HIL hkl
    have HK2' : Hid (∀ W Al cl, Below w.heap.size w W → MkI W Al c.nd LV → Calls Tryz.prog 70 #[cv c.st c.sr AM c.nm cm AD c.nd cd, .slice Al c.nd cl, .bool back] W fun e w' => (∃ A1 c1 A2 c2, e = .returned (.tuple #[.slice A1 m c1, .slice A2 m c2]) ∧ OwI w' W.heap.size A1 c1 (kept LV c.nd) ∧ MatI w' w'.heap.size A2 m (fun _ => m) (fun i => can (PM i))) ∧ Below W.heap.size W w') := by
      intro W Al cl hb hk
      have := K2.out W Al cl hb hk
      unfold RetSys at this
      rw [← hm] at this
      exact this
    have hca := h0
    obtain ⟨ca, hca2⟩ : ∃ ca, ca = c.codeA := ⟨_, rfl⟩
    rw [← hca2] at K1 hca ⊢
    have HCA := Lib.hid hca
    obtain ⟨sr, hsr2⟩ : ∃ sr, sr = c.sr.toNat := ⟨_, rfl⟩
    rw [← hsr2] at hsr HRHS
    have hst := ok.st
    rw [hst, hsr] at K1 HK2'
    rw [hst, hsr]
    clear hX hPM hRK hSO hLV hm hca hca2 hsr2 hst hsr h0 ok hnd hsz h hs hS0 hS1 hSP HRS HO0 HOs K2 hRHS
    have HPC := Lib.hid (fun W hb => par_cells (W := W) (w := w) (a := .int .i64 (c.nd : Int)) (b := .int .i64 (sr : Int)) (d := .slice AM c.nm cm) (e := .slice AD c.nd cd) (t := 25) hb)
    have HPB := Lib.hid (fun W hb => par_below (W := W) (w := w) (o := .cells #[.int .i64 (c.nd : Int), .int .i64 (sr : Int), .slice AM c.nm cm, .slice AD c.nd cd] 25) hb)
    have hW0z : (w.alloc (.cells #[.int .i64 (c.nd : Int), .int .i64 (sr : Int), .slice AM c.nm cm, .slice AD c.nd cd] 25)).heap.size = w.heap.size + 1 := by simp
    go_enter Tryz.func40, Tryz.ntmps40
    (go_wp2_with fail; (with_reducible refine (K1.out _ (by (skip); repeat' (first | (with_reducible exact Below.refl _ _) | (with_reducible assumption) | (with_reducible refine Below.alloc ?_ ?_ _) | (with_reducible refine Below.drew ?_) | (with_reducible refine below_drewN ?_ _) | (with_reducible refine Below.setCell ?_ ?_ _) | (with_reducible refine Below.trans ?_ (Below.mono (by with_reducible assumption) ?_)) | omega | (simp only [ZA, ZS, ZD, ZN]; omega) | go_size))).mono ?_); rintro e w1 ⟨hR, hb1⟩; have hb1z := Below.size hb1; (try simp only [ZA, ZS, ZD, ZN] at hb1z))
    obtain ⟨A1, c1, rfl, own1⟩ := retB4_pass hR HCA.out
    have HB1 : Hid (Below (w.heap.size + 1) (w.alloc (.cells #[.int .i64 (c.nd : Int), .int .i64 (sr : Int), .slice AM c.nm cm, .slice AD c.nd cd] 25)) w1) := by show Below _ _ _; simpa using hb1
    have HO1 := Lib.hid own1
    have hz1 := HB1.out.size
    rw [hW0z] at hz1
    have HW0z := Lib.hid hW0z
    clear hR own1 hb1 hW0z
    generalize w.alloc (.cells #[.int .i64 (c.nd : Int), .int .i64 (sr : Int), .slice AM c.nm cm, .slice AD c.nd cd] 25) = W0 at *
    obtain ⟨y0, -, -, -⟩ := HPC.out _ HB1.out
    go_wp2_with (first | (at_make; refine wpList_makeR rfl (.tmp 27) (.tmp 27) rfl w1.heap.size c.nd (c.nd : Int) (c.nd : Int) (by first | rfl | simp [Act.eval]) (by first | rfl | simp [Act.eval]) rfl rfl (by omega) (Nat.le_refl _) ?_; intro w2 own2 hb2; obtain ⟨x0, x1, x2, x3⟩ := HPC.out _ (HB1.out.trans (hb2.mono (by omega)))) | fail)
    have hbW2 := HPB.out _ (HB1.out.trans (hb2.mono (by omega)))
    have hz2 := hb2.size
    (go_wp2_with fail; (with_reducible refine (HK2'.out _ A1 c1 hbW2 (HO1.out.below hb2).mk).mono ?_); rintro e w3 ⟨⟨A3, c3, A4, c4, rfl, oI, mI⟩, hb3⟩; have hb3z := Below.size hb3; (try simp only [ZA, ZS, ZD, ZN] at hb3z))
    have hb13 := hb2.trans (hb3.mono hz2)
    have hz3 := hb3.size
    have HB13 := Lib.hid hb13
    have HB3 : Hid (Below (w.heap.size + 1) W0 w3) := HB1.out.trans (hb13.mono (by omega))
    have OUT := Lib.hid (own2.below hb3)
    have HI := Lib.hid oI
    have HM := Lib.hid mI
    have hg12 := own2.lt
    clear own2 hb2 hb3 oI mI hb13 x0 x1 x2 x3 y0 hbW2
    by_cases hm0 : m = 0
    · have hrow : RowA w3 w3.heap.size (some ⟨w1.heap.size, 0, none⟩) c.nd (can SO) := ((OwS.of_own OUT.out (b0 := w3.heap.size) (by omega)).congr fun s hs => by unfold can; rw [HNo.out hm0 s hs]).ra
      have HRW := Lib.hid hrow
      have HBE := Lib.hid (HPB.out _ HB3.out)
      clear hrow HNo
      subst hm0
      go_wp2
      go_ret3
      exact ⟨retSo_0 HCA.out (own_base (HO1.out.below HB13.out) (by have := HW0z.out; omega)) HRW.out, HBE.out⟩
    · have hmp : 0 < m := by omega
      have emz : ((m : Int) == 0) = false := by simpa using hm0
      clear hm0
      go_wp2_with (first | (at_make; refine wpList_makeR rfl (.tmp 42) (.tmp 42) rfl w3.heap.size m (m : Int) (m : Int) (by first | rfl | simp [Act.eval]) (by first | rfl | simp [Act.eval]) rfl rfl (by omega) (Nat.le_refl _) ?_; intro w5 own5 hb5) | fail)
      have HO5 : Hid (OwR w5 w3.heap.size (some ⟨w3.heap.size, 0, none⟩) m m (can (RK 0))) := by rw [HR0.out]; exact own5
      have HB5 := Lib.hid hb5
      clear own5 hb5
      go_loopw [46] (fun i wr => ∃ k : Nat, k ≤ m ∧ i = .int .i64 (k : Int) ∧ OwR wr w3.heap.size (some ⟨w3.heap.size, 0, none⟩) m m (can (RK k)) ∧ Below w3.heap.size w3 wr) (fun i _ => m - (intOf i).toNat)
      case atStart => exact ⟨0, Nat.zero_le _, rfl, HO5.out, HB5.out⟩
      case round =>
        clear HO5 HB5
        obtain ⟨k, hk, rfl, own, hb⟩ := hrel
        have hz := hb.size
        by_cases hlt : k < m
        · obtain ⟨gs, e, hcs⟩ := (HI.out.below hb).at_ (k := k) (by omega)
          cases e
          rw [HKG.out k (by omega)] at hcs
          have hil := HIL.out k hlt
          have hrs := HRs.out k
          have hrz := HRz.out k
          obtain ⟨ik, hik⟩ : ∃ ik, ik = ixB LV c.nd k := ⟨_, rfl⟩
          rw [← hik] at hcs hil hrs hrz
          have hrh := HRHS.out ik
          clear hik
          obtain ⟨-, x1, -, -⟩ := HPC.out _ (HB3.out.trans (hb.mono (by omega)))
          have hki : (k : Int) < (m : Int) := by omega
          have hk0 : (0 : Int) ≤ (k : Int) := by omega
          have hfz := own.frozen
          have hgl := own.lt
          obtain ⟨t0, t1, t2, t3, t4, t5, t6, o0, o1, o2, -⟩ := own.at_ hlt
          have HO := Lib.hid own
          have HB := Lib.hid hb
          have hst : ∀ (w6 : World) (hb6 : Below wr.heap.size wr w6) s4 A4 n4 c4 B4 m4 d4, OwQ w6 wr.heap.size (rv s4 A4 n4 c4 B4 m4 d4) ((1 : Nat) : Rat) → c.rhs back ik = 1 → OwR (((w6.setCell ⟨w3.heap.size, k * 3, none⟩ (.bool s4)).setCell ⟨w3.heap.size, k * 3 + 1, none⟩ (.slice A4 n4 c4)).setCell ⟨w3.heap.size, k * 3 + 2, none⟩ (.slice B4 m4 d4)) w3.heap.size (some ⟨w3.heap.size, 0, none⟩) m m (can (RK (k + 1))) ∧ Below w3.heap.size w3 (((w6.setCell ⟨w3.heap.size, k * 3, none⟩ (.bool s4)).setCell ⟨w3.heap.size, k * 3 + 1, none⟩ (.slice A4 n4 c4)).setCell ⟨w3.heap.size, k * 3 + 2, none⟩ (.slice B4 m4 d4)) := by
            intro w6 hb6 s4 A4 n4 c4 B4 m4 d4 own6 h1
            have st := (HO.out.below hb6).set hlt (own6.rs (b0 := w3.heap.size))
            rw [upd_can] at st
            have e1 : upd (RK k) k ((1 : Nat) : Rat) = RK (k + 1) := by rw [← hrs, h1]; rfl
            rw [e1] at st
            exact ⟨st.1, (HB.out.trans (hb6.mono hz)).trans (below_of_row st.2 (fun q hq => by injection hq with hq; omega) (by have := hb6.size; omega))⟩
          have HST := Lib.hid hst
          clear own hb hst hrs
          cases back
          · have H1 : Hid (c.rhs false ik = 1) := hrh
            clear hrh hrz x1
            (go_wp2_with fail; (with_reducible refine (K0.out _).mono ?_); rintro e w6 ⟨⟨v6, rfl, own6⟩, hb6⟩; have hb6z := Below.size hb6; (try simp only [ZA, ZS, ZD, ZN] at hb6z); have hb6c0 := fun o => below_at hb6 (w3.heap.size) o (by first | omega | (simp only [ZA, ZS, ZD, ZN]; omega)); have hb6f0 := fun o => below_fr hb6 (w3.heap.size) o (by first | omega | (simp only [ZA, ZS, ZD, ZN]; omega)))
            obtain ⟨s4, A6, n6, c6, B6, m6, d6, rfl⟩ := own6.form
            have HF := Lib.hid (HST.out w6 hb6 _ _ _ _ _ _ _ own6 H1.out)
            clear own6
            go_wp2
            go_roundw
            case rel => exact ⟨k + 1, by omega, by go_num, HF.out.1, HF.out.2⟩
            case measure => simp [intOf]; omega
          · by_cases hie : ik = sr
            · have H1 : Hid (c.rhs true ik = 1) := hrh.trans (by rw [hie]; simp)
              have ei : ((ik : Int) == (sr : Int)) = true := by simp [hie]
              clear hrh hrz
              subst hie
              (go_wp2_with fail; (with_reducible refine (K0.out _).mono ?_); rintro e w6 ⟨⟨v6, rfl, own6⟩, hb6⟩; have hb6z := Below.size hb6; (try simp only [ZA, ZS, ZD, ZN] at hb6z); have hb6c0 := fun o => below_at hb6 (w3.heap.size) o (by first | omega | (simp only [ZA, ZS, ZD, ZN]; omega)); have hb6f0 := fun o => below_fr hb6 (w3.heap.size) o (by first | omega | (simp only [ZA, ZS, ZD, ZN]; omega)))
              obtain ⟨s4, A6, n6, c6, B6, m6, d6, rfl⟩ := own6.form
              have HF := Lib.hid (HST.out w6 hb6 _ _ _ _ _ _ _ own6 H1.out)
              clear own6
              go_wp2
              go_roundw
              case rel => exact ⟨k + 1, by omega, by go_num, HF.out.1, HF.out.2⟩
              case measure => simp [intOf]; omega
            · have HZ := Lib.hid (hrz (hrh.trans (by simp [hie])))
              have ei : ((ik : Int) == (sr : Int)) = false := by simp; omega
              have ei2 : ¬ ((ik : Int) = (sr : Int)) := by omega
              clear hrh hrz
              go_wp2
              go_roundw
              case rel => exact ⟨k + 1, by omega, by go_num, by rw [← HZ.out]; exact HO.out, HB.out⟩
              case measure => simp [intOf]; omega
        · have hkm : k = m := by omega
          subst hkm
          have HRB := Lib.hid own
          have HB := Lib.hid hb
          clear own hb
          obtain ⟨wC, hwC⟩ : ∃ wC, wC = wr := ⟨_, rfl⟩
          subst hwC
          (go_wp2_with fail; (with_reducible refine (KS.out _ A4 (some ⟨w3.heap.size, 0, none⟩) c4 k hmp (HM.out.later HB.out) (HRB.out.ri (by omega))).mono ?_); rintro e w7 ⟨⟨A7, c7, rfl, own7⟩, hb7⟩; have hb7z := Below.size hb7; (try simp only [ZA, ZS, ZD, ZN] at hb7z))
          have hz7 := hb7.size
          have hCz := HB.out.size
          have hb37 := HB.out.trans (hb7.mono hCz)
          have OU7 : Hid (OwS w7 w7.heap.size w1.heap.size (some ⟨w1.heap.size, 0, none⟩) c.nd c.nd (can (outK LV X 0))) := by rw [HOX0.out]; exact OwS.of_own (OUT.out.below hb37) (by omega)
          have HX7 : Hid (RowA w7 w7.heap.size A7 k (can X)) := (OwS.of_own own7 (b0 := w7.heap.size) (by omega)).ra
          have HXn : Hid (∀ a, A7 = some a → 0 < k → a.block ≠ w1.heap.size) := fun a ha _ => by
            subst ha
            have := (OwR.blockA own7 rfl).1
            omega
          have HI7 := Lib.hid (HI.out.below hb37)
          have HIn : Hid (∀ q, (Value.slice A3 (kept LV c.nd).length c3).ownBlock = some q → q ≠ w1.heap.size) := fun q hq => by have := (World.ownsRow.lt HI.out q hq).1; omega
          have HB7 := Lib.hid (HB13.out.trans (hb37.mono (by omega)))
          clear own7 hb7 hb37
          go_wp2
          go_loopw [75] (fun i wr => ∃ j : Nat, j ≤ k ∧ i = .int .i64 (j : Int) ∧ OwS wr w7.heap.size w1.heap.size (some ⟨w1.heap.size, 0, none⟩) c.nd c.nd (can (outK LV X j)) ∧ RowA wr w7.heap.size A7 k (can X) ∧ OwI wr w2.heap.size A3 c3 (kept LV c.nd) ∧ Below w1.heap.size w1 wr ∧ w7.heap.size ≤ wr.heap.size) (fun i _ => k - (intOf i).toNat)
          case atStart => exact ⟨0, Nat.zero_le _, rfl, OU7.out, HX7.out, HI7.out, HB7.out, Nat.le_refl _⟩
          case round =>
            clear OU7 HX7 HI7 HB7
            obtain ⟨j, hj, rfl, oU, oX, oI, hb, hzw⟩ := hrel
            by_cases hlt : j < k
            · obtain ⟨gs, e, hcs⟩ := oI.at_ (k := j) (by omega)
              cases e
              rw [HKG.out j (by omega)] at hcs
              have hil := HIL.out j hlt
              have hxs := HOXs.out j hlt
              obtain ⟨ij, hij⟩ : ∃ ij, ij = ixB LV c.nd j := ⟨_, rfl⟩
              rw [← hij] at hcs hil hxs
              clear hij
              obtain ⟨bx, ox, s1, A1', n1, c1', B1, m1, d1, rfl, hbx, f0, f1, f2, r1⟩ := oX.at_ hlt
              obtain ⟨t0, t1, t2, t3, t4, t5, t6, o0, o1, o2, -⟩ := oU.at_ hil
              have hfz := oU.frozen
              have hgl := oU.lt
              have st := oU.set hil r1
              have hnw := oU.nwb
              have oX2 := oX.keepN st.2 hnw HXn.out
              have oI2 := oI.kept_ st.2 (by
                cases e : (Value.slice (some ⟨gs, 0, none⟩) (kept LV c.nd).length c3).ownBlock with
                | none => exact .inl rfl
                | some q => exact .inr fun e2 => by injection e2 with e2; exact HIn.out q e e2)
              have hb2 := hb.trans (below_of_row st.2 (fun q hq => by injection hq with hq; omega) (by omega))
              have HS := Lib.hid (st.1.congr (U := can (outK LV X (j + 1))) fun s hs => by
                have := hxs s hs
                show upd (can (outK LV X j)) ij (can X j) s = _
                unfold can
                rw [show upd (fun k => canR (outK LV X j k)) ij (canR (X j)) s = canR (upd (outK LV X j) ij (X j) s) by unfold upd; split <;> rfl, this])
              have HX2 := Lib.hid oX2
              have HI2 := Lib.hid oI2
              have HB2 := Lib.hid hb2
              have hji : (j : Int) < (k : Int) := by omega
              have hj0 : (0 : Int) ≤ (j : Int) := by omega
              have hii : (ij : Int) < (c.nd : Int) := by omega
              have hi0 : (0 : Int) ≤ (ij : Int) := by omega
              clear oU oX oI hb st oX2 oI2 hb2 hnw r1 hxs
              go_wp2
              go_roundw
              case rel => exact ⟨j + 1, by omega, by go_num, HS.out, HX2.out, HI2.out, HB2.out, by simp; omega⟩
              case measure => simp [intOf]; omega
            · have hjk : j = k := by omega
              subst hjk
              have HF := Lib.hid ((oU.up (b1 := wr.heap.size) hzw).congr (U := can SO) fun s hs => by unfold can; rw [HS1.out s hs]).ra
              have HBE := Lib.hid (HPB.out _ (HB1.out.trans (hb.mono (by omega))))
              have HOE := Lib.hid (own_base (HO1.out.below hb) (by have := HW0z.out; omega : w.heap.size ≤ W0.heap.size))
              clear oU oX oI hb
              go_wp2
              go_ret3
              exact ⟨retSo_0 HCA.out HOE.out HF.out, HBE.out⟩
  · have HC := Lib.hid h0
    have hE := errM_n h0
    have HE := Lib.hid hE
    obtain ⟨ca, hca⟩ : ∃ ca, ca = c.codeA := ⟨_, rfl⟩
    rw [← hca] at K1 HC HE ⊢
    clear h0 hE hca h hs hnd hsz
    go_enter Tryz.func40, Tryz.ntmps40
    (go_wp2_with fail; (with_reducible refine (K1.out _ (by (skip); repeat' (first | (with_reducible exact Below.refl _ _) | (with_reducible assumption) | (with_reducible refine Below.alloc ?_ ?_ _) | (with_reducible refine Below.drew ?_) | (with_reducible refine below_drewN ?_ _) | (with_reducible refine Below.setCell ?_ ?_ _) | (with_reducible refine Below.trans ?_ (Below.mono (by with_reducible assumption) ?_)) | omega | (simp only [ZA, ZS, ZD, ZN]; omega) | go_size))).mono ?_); rintro e w1 ⟨hR, hb1⟩; have hb1z := Below.size hb1; (try simp only [ZA, ZS, ZD, ZN] at hb1z))
    have hR2 := retB4_err hR HC.out
    rw [HE.out] at hR2
    subst hR2
    go_wp2
    go_ret3
    exact ⟨retSo_n HC.out HE.out, (by have z0 := Below.size hb1; (try simp only [ZA, ZS, ZD, ZN] at z0 ⊢; skip); repeat' (first | (with_reducible exact Below.refl _ _) | (with_reducible assumption) | (with_reducible refine Below.alloc ?_ ?_ _) | (with_reducible refine Below.drew ?_) | (with_reducible refine below_drewN ?_ _) | (with_reducible refine Below.setCell ?_ ?_ _) | (with_reducible refine Below.trans ?_ (Below.mono (by with_reducible assumption) ?_)) | omega | (simp only [ZA, ZS, ZD, ZN]; omega) | go_size))⟩
end Go.Proofs.YtomkdgcpmpbfhaaGreatDoor
