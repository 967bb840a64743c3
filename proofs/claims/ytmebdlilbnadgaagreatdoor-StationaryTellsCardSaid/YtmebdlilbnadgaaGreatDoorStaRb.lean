/- Contracts of functions and lemmas, used by the proofs of the given statements. No condition beyond those that each lemma names. -/
import Derived.Test.YtmebdlilbnadgaaGreatDoorStaRa
import Derived.Test.YtmebdlilbnadgaaGreatDoorJStaW1
namespace Go.Proofs.YtmebdlilbnadgaaGreatDoor
open Go.RowKit
set_option linter.unusedSimpArgs false
set_option linter.unusedVariables false
set_option maxRecDepth 20000
attribute [local irreducible] nv wp win plainB validR valR canR mvE chkM codeC spr sprN chg cnt cntB ixB kept adj rsF clB clK
/-! ## reference: classes -/
set_option maxHeartbeats 16000000 in
theorem rclasses_any {w : World} {AM AD : Option Addr} {cm cd : Nat} {c : Chn} (h : ChI w w.heap.size AM cm AD cd c) (ok : c.Ok) (hnm : c.nm ≤ 1000000) :
    Calls Tryz.prog 54 #[cv c.st c.sr AM c.nm cm AD c.nd cd] w fun e w' => (∃ A c', e = .returned (.slice A c.ncl c') ∧ RwL w' w.heap.size A c' c.ncl c.clL) ∧ Below w.heap.size w w' := by
  have hn1 := ok.lo
  have hn2 := ok.hi
  have K1 := Lib.hid (fun a (ha : a < c.nd) W (hb : Below w.heap.size w W) => rreach_any (h.below hb) ok hnm ha)
  have HC0 : Hid (∀ i, clK c.f c.t c.nm c.nd i 0 = true) := fun i => clK_0
  have HCn : Hid (∀ i, clK c.f c.t c.nm c.nd i c.nd = clB c.f c.t c.nm c.nd i) := fun i => clK_n
  have HCno : Hid (∀ i k, rsF c.f c.t c.nm c.nd i k = false → clK c.f c.t c.nm c.nd i (k + 1) = clK c.f c.t c.nm c.nd i k) := fun i k h => clK_no h
  have HCy : Hid (∀ i k, rsF c.f c.t c.nm c.nd i k = true → clK c.f c.t c.nm c.nd i (k + 1) = (clK c.f c.t c.nm c.nd i k && (rsF c.f c.t c.nm c.nd k i && decide (i ≤ k)))) := fun i k h => clK_yes h
  have HLL : Hid (∀ i, i < c.nd → clB c.f c.t c.nm c.nd i = true → c.clL (cntB (clB c.f c.t c.nm c.nd) i) = kept (rsF c.f c.t c.nm c.nd i) c.nd) := fun i hi h => by unfold Chn.clL; rw [(ixB_cnt hi h).2]
  have HB0 : Hid (cntB (clB c.f c.t c.nm c.nd) 0 = 0) := cntB_zero
  have HBy := Lib.hid (fun k (h : clB c.f c.t c.nm c.nd k = true) => cntB_yes h)
  have HBn := Lib.hid (fun k (h : clB c.f c.t c.nm c.nd k = false) => cntB_no h)
  have HBl := Lib.hid (fun k => (cntB_le : cntB (clB c.f c.t c.nm c.nd) k ≤ k))
  have HK0 := Lib.hid (fun i => (by unfold kept; rfl : kept (rsF c.f c.t c.nm c.nd i) 0 = []))
  have HKY := Lib.hid (fun i k (h : rsF c.f c.t c.nm c.nd i k = true) => kept_yes h)
  have HKN := Lib.hid (fun i k (h : rsF c.f c.t c.nm c.nd i k = false) => kept_no h)
  have HKL := Lib.hid (fun i k => (by rw [kept_len]; exact cntB_le : (kept (rsF c.f c.t c.nm c.nd i) k).length ≤ k))
  obtain ⟨n9, hn9⟩ : ∃ n9, n9 = c.ncl := ⟨_, rfl⟩
  have HN9 : Hid (n9 = cntB (clB c.f c.t c.nm c.nd) c.nd) := hn9
  rw [← hn9]
  obtain ⟨LL, hLL⟩ : ∃ LL, LL = c.clL := ⟨_, rfl⟩
  rw [← hLL] at HLL ⊢
  obtain ⟨CK, hCK⟩ : ∃ CK, CK = clK c.f c.t c.nm c.nd := ⟨_, rfl⟩
  rw [← hCK] at HC0 HCn HCno HCy
  obtain ⟨CL, hCL⟩ : ∃ CL, CL = clB c.f c.t c.nm c.nd := ⟨_, rfl⟩
  rw [← hCL] at HCn HLL HB0 HBy HBn HBl HN9
  obtain ⟨RS, hRS⟩ : ∃ RS, RS = rsF c.f c.t c.nm c.nd := ⟨_, rfl⟩
  rw [← hRS] at HCno HCy HLL HK0 HKY HKN HKL K1
  have hst := ok.st
  rw [hst] at K1 ⊢
  obtain ⟨sr, hsr⟩ : ∃ sr, sr = c.sr := ⟨_, rfl⟩
  rw [← hsr] at K1 ⊢
  clear hn9 hLL hCK hCL hRS h ok hst hsr
  have HPC := Lib.hid (fun W hb => par_cells (W := W) (w := w) (a := .int .i64 (c.nd : Int)) (b := .int .i64 sr) (d := .slice AM c.nm cm) (e := .slice AD c.nd cd) (t := 25) hb)
  have HPB := Lib.hid (fun W hb => par_below (W := W) (w := w) (o := .cells #[.int .i64 (c.nd : Int), .int .i64 sr, .slice AM c.nm cm, .slice AD c.nd cd] 25) hb)
  have HW0z : Hid ((w.alloc (.cells #[.int .i64 (c.nd : Int), .int .i64 sr, .slice AM c.nm cm, .slice AD c.nd cd] 25)).heap.size = w.heap.size + 1) := by show _ = _; simp
  go_enter Tryz.func54, Tryz.ntmps54
  obtain ⟨y0, y1, y2, y3⟩ := HPC.out _ (Below.refl _ _)
  go_wp2
  generalize w.alloc (.cells #[.int .i64 (c.nd : Int), .int .i64 sr, .slice AM c.nm cm, .slice AD c.nd cd] 25) = W0 at *
  go_loopw [11, 3] (fun i ss wr => ∃ (k : Nat) (A : Option Addr) (cp n : Nat), k ≤ c.nd ∧ i = .int .i64 (k : Int) ∧ ss = .slice A n cp ∧ n = cntB CL k ∧ RwL wr (w.heap.size + 1) A cp n LL ∧ Below (w.heap.size + 1) W0 wr) (fun i _ _ => c.nd - (intOf i).toNat)
  case atStart => exact ⟨0, none, 0, 0, Nat.zero_le _, rfl, rfl, by rw [HB0.out], RwO.nil_ _ _ _, Below.refl _ _⟩
  case round =>
    clear y0 y1 y2 y3
    obtain ⟨i, A, cp, n, hi, rfl, rfl, hn, oL, hb⟩ := hrel
    have hz := hb.size
    rw [HW0z.out] at hz
    by_cases hlt : i < c.nd
    · have hii : (i : Int) < (c.nd : Int) := by omega
      have hi0 : (0 : Int) ≤ (i : Int) := by omega
      have HN := Lib.hid hn
      have HOL0 := Lib.hid oL
      have HB0' := Lib.hid hb
      obtain ⟨y0, y1, y2, y3⟩ := HPC.out _ hb
      clear hn oL hb
      (go_wp2_with fail; (with_reducible refine (K1.out i hlt _ (HPB.out _ HB0'.out)).mono ?_); rintro e w1 ⟨⟨A1, c1, rfl, own1⟩, hb1⟩; have hb1z := Below.size hb1; (try simp only [ZA, ZS, ZD, ZN] at hb1z))
      have HB := Lib.hid (HB0'.out.trans (hb1.mono (by omega)))
      have HOL := Lib.hid (HOL0.out.below hb1)
      have HRI := Lib.hid own1
      obtain ⟨gi, rfl, -, hgi⟩ := own1.head (by omega)
      have hz1 := HB.out.size
      rw [HW0z.out] at hz1
      clear own1 hb1 y0 y1 y2 y3 HOL0 HB0' hz
      go_wp2
      go_loopw [18, 6, 5] (fun j o ss wr => ∃ (k : Nat) (A2 : Option Addr) (c2 n2 : Nat), k ≤ c.nd ∧ j = .int .i64 (k : Int) ∧ o = .bool (CK i k) ∧ ss = .slice A2 n2 c2 ∧ n2 = (kept (RS i) k).length ∧ OwI wr w1.heap.size A2 c2 (kept (RS i) k) ∧ Below w1.heap.size w1 wr) (fun j _ _ _ => c.nd - (intOf j).toNat)
      case atStart => exact ⟨0, none, 0, 0, Nat.zero_le _, rfl, by rw [HC0.out], rfl, by rw [HK0.out]; rfl, by rw [HK0.out]; exact OwI.nil_ _ _, Below.refl _ _⟩
      case round =>
        obtain ⟨k, A2, c2, n2, hk, rfl, rfl, rfl, hn2, oI, hb2⟩ := hrel
        have hz2 := hb2.size
        have HN2 := Lib.hid hn2
        have HKLk := HKL.out i k
        rw [← hn2] at HKLk
        clear hn2
        by_cases hkl : k < c.nd
        · have hik := (HRI.out.below hb2).at_ hkl
          have hki : (k : Int) < (c.nd : Int) := by omega
          have hk0 : (0 : Int) ≤ (k : Int) := by omega
          have HI := Lib.hid oI
          have HB2 := Lib.hid hb2
          clear oI hb2
          cases hA : RS i k
          · rw [hA] at hik
            have HCE := Lib.hid (HCno.out i k hA)
            have HKE := Lib.hid (HKN.out i k hA)
            clear hA
            go_wp2
            go_roundw
            case rel => exact ⟨k + 1, A2, c2, n2, by omega, by go_num, by rw [HCE.out], rfl, by rw [HKE.out]; exact HN2.out, by rw [HKE.out]; exact HI.out, HB2.out⟩
            case measure => simp [intOf]; omega
          · rw [hA] at hik
            have hCE := HCy.out i k hA
            have HKE := Lib.hid (HKY.out i k hA)
            clear hA
            obtain ⟨b1, hb1⟩ : ∃ b1, b1 = CK i k := ⟨_, rfl⟩
            rw [← hb1] at hCE ⊢
            clear hb1
            by_cases hle : i ≤ k
            · rw [decide_eq_true hle] at hCE
              have e9 : decide ((i : Int) ≤ (k : Int)) = true := decide_eq_true (by omega)
              cases b1
              · have HCE := Lib.hid hCE
                clear hCE
                go_wp2_with (first | (at_builtin; refine wpList_appI1 rfl (.tmp 25) (.tmp 27) rfl w1.heap.size A2 c2 n2 (kept (RS i) k) HN2.out.symm (by first | rfl | simp [Act.eval]) (HI.out.below ((Below.refl _ _).alloc (Nat.le_refl _) _)) k wr.heap.size (by first | rfl | simp [Act.eval]) (by rw [World.cell?_alloc_at _ _ _ _ (by simp)]; rfl) (by omega) (by first | omega | (simp; omega)) ?_; intro A5 c5 w5 own5 hbel5 hgr5) | fail)
                go_roundw
                case rel => exact ⟨k + 1, A5, c5, n2 + 1, by omega, by go_num, by rw [HCE.out]; rfl, rfl, by rw [HKE.out, List.length_append, ← HN2.out]; rfl, by rw [HKE.out]; exact own5, (HB2.out.alloc (by omega) _).trans hbel5⟩
                case measure => simp [intOf]; omega
              · obtain ⟨b2, hb2⟩ : ∃ b2, b2 = RS k i := ⟨_, rfl⟩
                rw [← hb2] at hCE
                have HCE := Lib.hid hCE
                have HB2' := Lib.hid hb2
                clear hCE hb2
                go_wp2_with (first | (at_builtin; refine wpList_appI1 rfl (.tmp 25) (.tmp 27) rfl w1.heap.size A2 c2 n2 (kept (RS i) k) HN2.out.symm (by first | rfl | simp [Act.eval]) (HI.out.below ((Below.refl _ _).alloc (Nat.le_refl _) _)) k wr.heap.size (by first | rfl | simp [Act.eval]) (by rw [World.cell?_alloc_at _ _ _ _ (by simp)]; rfl) (by omega) (by first | omega | (simp; omega)) ?_; intro A5 c5 w5 own5 hbel5 hgr5; (have hb5 : Below w1.heap.size w1 w5 := (HB2.out.alloc (by omega) _).trans hbel5); (obtain ⟨y0, y1, y2, y3⟩ := HPC.out _ (HB.out.trans (hb5.mono (by omega))))) | fail)
                (go_wp2_with fail; (with_reducible refine (K1.out k hkl _ (HPB.out _ (HB.out.trans (hb5.mono (by omega))))).mono ?_); rintro e w6 ⟨⟨A6, c6, rfl, own6⟩, hb6⟩; have hb6z := Below.size hb6; (try simp only [ZA, ZS, ZD, ZN] at hb6z))
                obtain ⟨gk, rfl, -, hgk⟩ := own6.head (by omega)
                have hki2 := own6.at_ hlt
                rw [← HB2'.out] at hki2
                have O6 := Lib.hid (own5.below hb6)
                have HB6 := Lib.hid (hb5.trans (hb6.mono hb5.size))
                clear own5 own6 hb6 hb5 hbel5 hgr5 y0 y1 y2 y3
                go_wp2
                go_roundw
                case rel => exact ⟨k + 1, A5, c5, n2 + 1, by omega, by go_num, by rw [HCE.out]; simp, rfl, by rw [HKE.out, List.length_append, ← HN2.out]; rfl, by rw [HKE.out]; exact O6.out, HB6.out⟩
                case measure => simp [intOf]; omega
            · rw [decide_eq_false hle] at hCE
              have e9 : decide ((i : Int) ≤ (k : Int)) = false := decide_eq_false (by omega)
              have HCE := Lib.hid hCE
              clear hCE
              cases b1
              all_goals
                go_wp2_with (first | (at_builtin; refine wpList_appI1 rfl (.tmp 25) (.tmp 27) rfl w1.heap.size A2 c2 n2 (kept (RS i) k) HN2.out.symm (by first | rfl | simp [Act.eval]) (HI.out.below ((Below.refl _ _).alloc (Nat.le_refl _) _)) k wr.heap.size (by first | rfl | simp [Act.eval]) (by rw [World.cell?_alloc_at _ _ _ _ (by simp)]; rfl) (by omega) (by first | omega | (simp; omega)) ?_; intro A5 c5 w5 own5 hbel5 hgr5) | fail)
                go_roundw
                case rel => exact ⟨k + 1, A5, c5, n2 + 1, by omega, by go_num, by rw [HCE.out]; simp, rfl, by rw [HKE.out, List.length_append, ← HN2.out]; rfl, by rw [HKE.out]; exact own5, (HB2.out.alloc (by omega) _).trans hbel5⟩
                case measure => simp [intOf]; omega
        · have hkn : k = c.nd := by omega
          subst hkn
          have HI := Lib.hid oI
          have HB2 := Lib.hid hb2
          have HBL := HBl.out i
          rw [← HN.out] at HBL
          clear oI hb2
          have hCn := HCn.out i
          cases hA : CL i
          · rw [hA] at hCn
            have HE := Lib.hid (HBn.out i hA)
            clear hA
            rw [hCn]
            clear hCn
            go_wp2
            go_roundw
            case rel => exact ⟨i + 1, A, cp, n, by omega, by go_num, rfl, by rw [HE.out]; exact HN.out, HOL.out.below HB2.out, HB.out.trans (HB2.out.mono (by omega))⟩
            case measure => simp [intOf]; omega
          · rw [hA] at hCn
            have HE := Lib.hid (HBy.out i hA)
            have hLi := HLL.out i hlt hA
            rw [← HN.out] at hLi
            have HLI := Lib.hid hLi
            clear hA hLi
            rw [hCn]
            clear hCn
            go_wp2_with (first | (at_builtin; refine wpList_appL rfl (.tmp 45) (.tmp 47) rfl LL (by first | rfl | simp [Act.eval]) ((HOL.out.below HB2.out).below ((Below.refl _ _).alloc (Nat.le_refl _) _)) wr.heap.size (by first | rfl | simp [Act.eval]) A2 n2 c2 (by simp) (by rw [HLI.out]; exact HN2.out) (by rw [HLI.out]; exact (HI.out.base_ (by omega)).below ((Below.refl _ _).alloc (Nat.le_refl _) _)) (by omega) (by simp; omega) ?_; intro A7 c7 w7 own7 hb7 hz7) | fail)
            go_roundw
            case rel => exact ⟨i + 1, A7, c7, n + 1, by omega, by go_num, rfl, by rw [HE.out, ← HN.out], own7, ((HB.out.trans (HB2.out.mono (by omega))).alloc (by omega) _).trans hb7⟩
            case measure => simp [intOf]; omega
    · have hkn : i = c.nd := by omega
      subst hkn
      have hn9 : n = n9 := by rw [hn, HN9.out]
      subst hn9
      have HOL := Lib.hid oL
      have HB := Lib.hid hb
      clear hn oL hb
      go_wp2
      go_ret
      exact ⟨⟨_, _, rfl, RwO.base HOL.out (by omega)⟩, HPB.out _ HB.out⟩
end Go.Proofs.YtmebdlilbnadgaaGreatDoor
