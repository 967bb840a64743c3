/- Contracts of functions and lemmas, used by the proofs of the given statements. No condition beyond those that each lemma names. -/
import Derived.Test.YtnljncncnohncaaDoorLawR
namespace Go.Proofs.YtnljncncnohncaaDoor
open Go.RowKit
set_option linter.unusedSimpArgs false
set_option linter.unusedVariables false
set_option maxRecDepth 20000
attribute [local irreducible] nv wp win plainB validR valR canR gj findR elim swp gl detF
/-! ## LinearDets -/
theorem can_val (F : Mf) : (fun i k => valR (can (F i) k)) = F := by funext i k; exact valR_canR _
theorem SmallM.detP {w : World} {n ca : Nat} {A : Option Addr} {len : Nat → Nat} {R : Nat → Nat → Rw} (hs : SmallM n len R) (hc : codeM n len = 0) (hsq : len 0 = n) (h : MatI w w.heap.size A n len R) :
    Calls Tryd.prog 18 #[.slice A n ca] w fun e w' => RetS w.heap.size (detF n fun i k => valR (R i k)) .nilIface e w' ∧ Below w.heap.size w w' := by
  obtain ⟨h1, h2, h3, h4, h5, h6⟩ := hs.acc hc
  exact det_any (L := 3) h hc hsq (fun i k hi hk => h6 i k hi (by omega)) (fun i k hi hk => h.ok hi (by rw [h5 i hi]; omega)) (by omega) (by have := gl37 (show n ≤ 8 by omega); omega)
theorem codeM_sq {n : Nat} (h : 0 < n) (h2 : n ≤ 256) : codeM n (fun _ => n) = 0 := codeM_ok (by omega) (by omega) h2 h2 fun _ _ => rfl
theorem det_own {w : World} {n ca L : Nat} {A : Option Addr} {F : Mf} (h : MatI w w.heap.size A n (fun _ => n) (fun i => can (F i))) (hn0 : 0 < n) (hn : n ≤ 256) (hz : ∀ i k, i < n → k < n → Sz L (F i k)) (hL : 1 ≤ L) (hg : gl L n ≤ 1000000000) :
    Calls Tryd.prog 18 #[.slice A n ca] w fun e w' => RetS w.heap.size (detF n F) .nilIface e w' ∧ Below w.heap.size w w' := by
  have := det_any (ca := ca) (L := L) h (codeM_sq hn0 hn) rfl (fun i k hi hk => Sz_canR (hz i k hi hk)) (fun i k hi hk => canR_ok _) hL hg
  rwa [can_val] at this
theorem gl507 {n : Nat} (h : n ≤ 7) : gl 100 n ≤ 1000000000 := Nat.le_trans (gl_mono h) (by decide +kernel)
theorem detF_sz {n L : Nat} {M : Mf} (hL : 1 ≤ L) (h : ∀ a b, a < n → b < n → Sz L (M a b)) : Sz (gl L n) (detF n M) := by
  unfold detF
  cases e : dts n M n with
  | none => exact Sz.zero (gl_pos hL n)
  | some sd =>
    obtain ⟨S, d⟩ := sd
    exact (dts_sz hL h n (Nat.le_refl _) S d e).2
theorem detF_rank {n : Nat} {M : Mf} : detF n M = 0 ↔ (gj n M n).2.length < n := by rw [detF_D]; exact D_rank
theorem detF_mul {n : Nat} (M N : Mf) : detF n (mulF M N n) = detF n M * detF n N := by rw [detF_D, detF_D, detF_D]; exact D_mul M N
set_option maxHeartbeats 8000000 in
theorem linearDets_law {w : World} {n ca n' ca' : Nat} {A A' : Option Addr} {len len' : Nat → Nat} {R R' : Nat → Nat → Rw} (h : MatI w w.heap.size A n len R) (h' : MatI w w.heap.size A' n' len' R') :
    Calls Tryd.prog 5 #[.slice A n ca, .slice A' n' ca'] w fun e w' => e = .returned (.bool true) ∧ Below w.heap.size w w' := by
  have KL := Lib.hid (fun (W : World) (g : Nat) (hb : Below w.heap.size w W) (hc : W.cell? ⟨g, 0, none⟩ = some (.slice A n ca)) (hc' : W.cell? ⟨g, 1, none⟩ = some (.slice A' n' ca')) => large2 (cm := 2) h h' hb hc hc')
  have HA := Lib.hid h
  have HA' := Lib.hid h'
  clear h h'
  go_enter Tryd.func5, Tryd.ntmps5
  go_wp2_with (first | (go_at_call 11; (with_reducible refine (awake_any _).mono ?_); rintro e w1 ⟨rfl, hb1⟩; have hb1z := Below.size hb1; (try simp only [World.size_alloc, World.size_setCell, World.size_drew] at hb1z)) | fail)
  have hw1 : Below w.heap.size w (w1.alloc (.cells #[.slice A n ca, .slice A' n' ca'] 22)) := hb1.alloc hb1.size _
  ((go_at_call 12; (with_reducible refine (KL.out _ _ hw1 (cell_new' rfl rfl) (cell_new' rfl rfl)).mono ?_); rintro e w2 ⟨⟨bb, rfl, hbb⟩, hb2⟩; have hb2z := Below.size hb2; (try simp only [World.size_alloc, World.size_setCell, World.size_drew] at hb2z)))
  have hb12 : Below w.heap.size w w2 := hw1.trans (hb2.mono (by simp; omega))
  clear hw1 KL
  cases bb with
  | true =>
    clear hbb
    go_wp2_with (first | (go_at_call 11; (with_reducible refine (awake_any _).mono ?_); rintro e w3 ⟨rfl, hb3⟩; have hb3z := Below.size hb3; (try simp only [World.size_alloc, World.size_setCell, World.size_drew] at hb3z)) | fail)
    have hb13 := hb12.trans (hb3.mono hb12.size)
    go_ret
    exact ⟨rfl, hb13⟩
  | false =>
    have HS := Lib.hid (hbb rfl)
    clear hbb
    by_cases hc : codeM n len = 0
    · have KC := Lib.hid (check_any (ca := ca) (HA.out.at_below hb12) (by have := HS.out.1.le.1; omega) (fun i hi => by have := HS.out.1.le.2 i hi; omega))
      rw [hc, errM_0] at KC
      by_cases hc' : codeM n' len' = 0
      · have KC' := Lib.hid (check_any (ca := ca') (HA'.out.at_below hb12) (by have := HS.out.2.le.1; omega) (fun i hi => by have := HS.out.2.le.2 i hi; omega))
        rw [hc', errM_0] at KC'
        obtain ⟨hn7, hc7, hn0, hl0, h5, h6⟩ := HS.out.1.acc hc
        obtain ⟨hn7', hc7', hn0', hl0', h5', h6'⟩ := HS.out.2.acc hc'
        obtain ⟨b, off, A0, c0, rfl, hc0, -⟩ := HA.out.at0 hn0
        obtain ⟨b', off', A0', c0', rfl, hc0', -⟩ := HA'.out.at0 hn0'
        have hd0 := (hb12.cell (lt_of_cell hc0)).trans hc0
        have hd0' := (hb12.cell (lt_of_cell hc0')).trans hc0'
        clear hc0 hc0'
        by_cases hs1 : n = len 0
        · by_cases hs2 : n' = n
          · subst hs2
            by_cases hs3 : n' = len' 0
            · obtain ⟨M, hM⟩ : ∃ M : Mf, M = fun i k => valR (R i k) := ⟨_, rfl⟩
              obtain ⟨N, hN⟩ : ∃ N : Mf, N = fun i k => valR (R' i k) := ⟨_, rfl⟩
              have hsM : ∀ i k, i < n' → k < n' → Sz 3 (M i k) := fun i k hi hk => by rw [hM]; exact HA.out.sz (m := 0) HS.out.1 hi (by rw [h5 i hi, ← hs1]; exact hk)
              have hsN : ∀ i k, i < n' → k < n' → Sz 3 (N i k) := fun i k hi hk => by rw [hN]; exact HA'.out.sz (m := 0) HS.out.2 hi (by rw [h5' i hi, ← hs3]; exact hk)
              have HF : Hid (∀ i k, i < n' → k < n' → Sz 100 (mulF M N n' i k)) := fun i k hi hk => (dotS_sz (L := 3) (m := n') (x := M i) (y := fun t => N t k) (by omega) (fun t ht => hsM i t hi ht) (fun t ht => hsN t k ht hk) n' (Nat.le_refl _)).more (by omega)
              have KM := Lib.hid (fun W (hb : Below w.heap.size w W) => (by
                have := mulM_any (ca := ca) (cb := ca') (L := 3) (HA.out.at_below hb) (HA'.out.at_below hb) hc hc' hs1.symm hs3.symm (fun i k hi hk => h6 i k hi (by omega)) (fun i k hi hk => HA.out.ok hi (by rw [h5 i hi]; omega)) (fun i k hi hk => h6' i k hi (by omega)) (fun i k hi hk => HA'.out.ok hi (by rw [h5' i hi]; omega)) (by omega) (by omega)
                rw [← hM, ← hN] at this
                exact this : Calls Tryd.prog 29 #[.slice (some ⟨b, off, none⟩) n' ca, .slice (some ⟨b', off', none⟩) n' ca'] W fun e w' => RetMM W.heap.size n' n' (mulF M N n') e w' ∧ Below W.heap.size W w'))
              have KD1 := Lib.hid (fun W (hb : Below w.heap.size w W) => (by
                have := HS.out.1.detP (ca := ca) hc hs1.symm (HA.out.at_below hb)
                rw [← hM] at this
                exact this : Calls Tryd.prog 18 #[.slice (some ⟨b, off, none⟩) n' ca] W fun e w' => RetS W.heap.size (detF n' M) .nilIface e w' ∧ Below W.heap.size W w'))
              have KD2 := Lib.hid (fun W (hb : Below w.heap.size w W) => (by
                have := HS.out.2.detP (ca := ca') hc' hs3.symm (HA'.out.at_below hb)
                rw [← hN] at this
                exact this : Calls Tryd.prog 18 #[.slice (some ⟨b', off', none⟩) n' ca'] W fun e w' => RetS W.heap.size (detF n' N) .nilIface e w' ∧ Below W.heap.size W w'))
              have KR := Lib.hid (fun W (hb : Below w.heap.size w W) => (by
                have := HS.out.1.rankP (ca := ca) hc (HA.out.at_below hb)
                rw [← hM, ← hs1] at this
                exact this : Calls Tryd.prog 30 #[.slice (some ⟨b, off, none⟩) n' ca] W fun e w' => e = .returned (.tuple #[.int .i64 (((gj n' M n').2.length : Nat) : Int), .nilIface]) ∧ Below W.heap.size W w'))
              have HZ1 := Lib.hid (detF_sz (n := n') (M := M) (show 1 ≤ 3 by omega) hsM)
              have HZ2 := Lib.hid (detF_sz (n := n') (M := N) (show 1 ≤ 3 by omega) hsN)
              have HZ3 := Lib.hid (detF_sz (n := n') (M := mulF M N n') (show 1 ≤ 100 by omega) HF.out)
              have HMU := Lib.hid (detF_mul (n := n') M N)
              have HRK := Lib.hid (detF_rank (n := n') (M := M))
              have g3 := gl37 (show n' ≤ 8 by omega)
              have g100 := gl507 hn7
              have g3p := gl_pos (L := 3) (by omega) n'
              rw [← hs1] at hd0
              rw [← hs3] at hd0'
              clear hs1 hs3 hM hN hsM hsN HA HA' HS h5 h6 h5' h6' hc hc'
              obtain ⟨F, hF⟩ : ∃ F, F = mulF M N n' := ⟨_, rfl⟩
              rw [← hF] at HF KM HZ3 HMU
              clear hF
              obtain ⟨x, hx⟩ : ∃ x, x = detF n' M := ⟨_, rfl⟩
              obtain ⟨y, hy⟩ : ∃ y, y = detF n' N := ⟨_, rfl⟩
              obtain ⟨z, hz⟩ : ∃ z, z = detF n' F := ⟨_, rfl⟩
              obtain ⟨r, hr⟩ : ∃ r, r = (gj n' M n').2.length := ⟨_, rfl⟩
              have KD3 := Lib.hid (fun W co A (h : MatI W W.heap.size A n' (fun _ => n') (fun i => can (F i))) => (by
                have := det_own (ca := co) h hn0 (by omega) HF.out (by omega) g100
                rw [← hz] at this
                exact this : Calls Tryd.prog 18 #[.slice A n' co] W fun e w' => RetS W.heap.size z .nilIface e w' ∧ Below W.heap.size W w'))
              rw [← hx] at HRK KD1 HZ1 HMU
              rw [← hy] at KD2 HZ2 HMU
              rw [← hz] at HZ3 HMU
              rw [← hr] at HRK KR
              clear hx hy hz hr HF
              generalize gl 3 n' = B at *
              generalize gl 100 n' = E at *
              go_wp2_with (first | (go_at_call 24; (with_reducible refine (KC.out).mono ?_); rintro e _ ⟨rfl, rfl⟩) | (go_at_call 24; (with_reducible refine (KC'.out).mono ?_); rintro e _ ⟨rfl, rfl⟩) | fail)
              ((go_at_call 29; (with_reducible refine (KM.out _ hb12).mono ?_); rintro e w5 ⟨⟨o, co, rfl, own5⟩, hb5⟩; have hb5z := Below.size hb5; (try simp only [World.size_alloc, World.size_setCell, World.size_drew] at hb5z)))
              have hb15 := hb12.trans (hb5.mono hb12.size)
              have HO5 := Lib.hid (own5.mo.mi hb5.size)
              clear own5 KM KC KC'
              go_wp2_with fail
              ((go_at_call 18; (with_reducible refine (KD1.out _ hb15).mono ?_); rintro e w6 ⟨⟨v6, rfl, rd6⟩, hb6⟩; have hb6z := Below.size hb6; (try simp only [World.size_alloc, World.size_setCell, World.size_drew] at hb6z)))
              obtain ⟨s6, A6, n6, c6, B6, m6, d6, rfl⟩ := rd6.form
              have hb16 : Below w.heap.size w (w6.alloc (.cells #[.bool s6, .slice A6 n6 c6, .slice B6 m6 d6] 37)) := (hb15.trans (hb6.mono hb15.size)).alloc (by have := hb15.size; have := hb6.size; omega) _
              clear KD1
              go_wp2_with fail
              ((go_at_call 18; (with_reducible refine (KD2.out _ hb16).mono ?_); rintro e w7 ⟨⟨v7, rfl, rd7⟩, hb7⟩; have hb7z := Below.size hb7; (try simp only [World.size_alloc, World.size_setCell, World.size_drew] at hb7z); have hb7c0 := fun o => below_at hb7 (w6.heap.size) o (by first | omega | (simp only [World.size_alloc, World.size_setCell, World.size_drew]; omega)); have hb7f0 := fun o => below_fr hb7 (w6.heap.size) o (by first | omega | (simp only [World.size_alloc, World.size_setCell, World.size_drew]; omega)); have hb7l0 : w6.heap.size < (w7).heap.size := (by omega)))
              obtain ⟨s7, A7, n7, c7, B7, m7, d7, rfl⟩ := rd7.form
              have hb67 : Below w6.heap.size w6 w7 := ((Below.refl _ _).alloc (Nat.le_refl _) _).trans (hb7.mono (by simp))
              have hb17 : Below w.heap.size w (w7.alloc (.cells #[.bool s7, .slice A7 n7 c7, .slice B7 m7 d7] 37)) := (hb16.trans (hb7.mono hb16.size)).alloc (by have := hb15.size; have := hb6.size; omega) _
              have hb57 : Below w5.heap.size w5 (w7.alloc (.cells #[.bool s7, .slice A7 n7 c7, .slice B7 m7 d7] 37)) := (hb6.trans (hb67.mono hb6.size)).alloc (by have := hb6.size; omega) _
              clear KD2
              go_wp2_with fail
              ((go_at_call 18; (with_reducible refine (KD3.out _ _ _ (HO5.out.at_below hb57)).mono ?_); rintro e w8 ⟨⟨v8, rfl, rd8⟩, hb8⟩; have hb8z := Below.size hb8; (try simp only [World.size_alloc, World.size_setCell, World.size_drew] at hb8z); have hb8c0 := fun o => below_at hb8 (w6.heap.size) o (by first | omega | (simp only [World.size_alloc, World.size_setCell, World.size_drew]; omega)); have hb8f0 := fun o => below_fr hb8 (w6.heap.size) o (by first | omega | (simp only [World.size_alloc, World.size_setCell, World.size_drew]; omega)); have hb8l0 : w6.heap.size < (w8).heap.size := (by omega); have hb8c1 := fun o => below_at hb8 (w7.heap.size) o (by first | omega | (simp only [World.size_alloc, World.size_setCell, World.size_drew]; omega)); have hb8f1 := fun o => below_fr hb8 (w7.heap.size) o (by first | omega | (simp only [World.size_alloc, World.size_setCell, World.size_drew]; omega)); have hb8l1 : w7.heap.size < (w8).heap.size := (by omega)))
              obtain ⟨s8, A8, n8, c8, B8, m8, d8, rfl⟩ := rd8.form
              have hb78 : Below w7.heap.size w7 w8 := ((Below.refl _ _).alloc (Nat.le_refl _) _).trans (hb8.mono (by simp))
              have hb18 : Below w.heap.size w (w8.alloc (.cells #[.bool s8, .slice A8 n8 c8, .slice B8 m8 d8] 37)) := (hb17.trans (hb8.mono hb17.size)).alloc (by have := hb15.size; have := hb6.size; omega) _
              clear KD3
              go_wp2_with fail
              ((go_at_call 30; (with_reducible refine (KR.out _ hb18).mono ?_); rintro e w9 ⟨rfl, hb9⟩; have hb9z := Below.size hb9; (try simp only [World.size_alloc, World.size_setCell, World.size_drew] at hb9z); have hb9c0 := fun o => below_at hb9 (w6.heap.size) o (by first | omega | (simp only [World.size_alloc, World.size_setCell, World.size_drew]; omega)); have hb9f0 := fun o => below_fr hb9 (w6.heap.size) o (by first | omega | (simp only [World.size_alloc, World.size_setCell, World.size_drew]; omega)); have hb9l0 : w6.heap.size < (w9).heap.size := (by omega); have hb9c1 := fun o => below_at hb9 (w7.heap.size) o (by first | omega | (simp only [World.size_alloc, World.size_setCell, World.size_drew]; omega)); have hb9f1 := fun o => below_fr hb9 (w7.heap.size) o (by first | omega | (simp only [World.size_alloc, World.size_setCell, World.size_drew]; omega)); have hb9l1 : w7.heap.size < (w9).heap.size := (by omega); have hb9c2 := fun o => below_at hb9 (w8.heap.size) o (by first | omega | (simp only [World.size_alloc, World.size_setCell, World.size_drew]; omega)); have hb9f2 := fun o => below_fr hb9 (w8.heap.size) o (by first | omega | (simp only [World.size_alloc, World.size_setCell, World.size_drew]; omega)); have hb9l2 : w8.heap.size < (w9).heap.size := (by omega)))
              have hb89 : Below w8.heap.size w8 w9 := ((Below.refl _ _).alloc (Nat.le_refl _) _).trans (hb9.mono (by simp))
              have hb79 : Below w7.heap.size w7 w9 := hb78.trans (hb89.mono (by omega))
              have hb69 : Below w6.heap.size w6 w9 := hb67.trans (hb79.mono (by omega))
              have hb19 : Below w.heap.size w w9 := hb18.trans (hb9.mono hb18.size)
              have q6 := (rd6.kp (Kp.of_below hb69)).canQ HZ1.out
              have q7 := (rd7.kp (Kp.of_below hb79)).canQ HZ2.out
              have q8 := (rd8.kp (Kp.of_below hb89)).canQ (HZ3.out.more (show E ≤ E + (B + B) by omega))
              have sp := HZ1.out.mul HZ2.out g3p
              have K1 := Lib.hid (fun W (hb : Below w9.heap.size w9 W) => mulQ (q6.below hb) (q7.below hb) g3p (by omega))
              have K2 := Lib.hid (fun W base v1 (hb : Below w9.heap.size w9 W) (hv : OwQ W base v1 (x * y)) => (by
                have := cmpQ (q8.below hb) (hv.rq (sp.more (show B + B ≤ E + (B + B) by omega))) (by omega) (by omega)
                rw [HMU.out, Rat.sub_self, show sgnQ 0 = 0 from rfl] at this
                exact this : Calls Tryd.prog 28 #[rv s8 A8 n8 c8 B8 m8 d8, v1] W fun e w' => e = .returned (.int .i64 0) ∧ Below W.heap.size W w'))
              have K3 := Lib.hid (fun W (hb : Below w9.heap.size w9 W) => signQ (q6.below hb) g3p (by omega))
              clear q6 q7 q8 sp rd6 rd7 rd8 KR HO5 HMU
              have hsg : (sgnQ x == 0) = true ∧ decide (r < n') = true ∨ (sgnQ x == 0) = false ∧ decide (r < n') = false := by
                by_cases h0 : x = 0
                · have := HRK.out.1 h0
                  exact .inl ⟨by rw [h0]; rfl, decide_eq_true (by omega)⟩
                · have : ¬ r < n' := fun e => h0 (HRK.out.2 e)
                  exact .inr ⟨sgn_eq h0, decide_eq_false (by omega)⟩
              clear HRK
              generalize sgnQ x = sg at *
              rcases hsg with ⟨q1, q2⟩ | ⟨q1, q2⟩
              all_goals
                go_wp2
                go_region_held3 (fun W => W.cell? ⟨w6.heap.size, 0, none⟩ = some (.bool s6) ∧ W.cell? ⟨w6.heap.size, 1, none⟩ = some (.slice A6 n6 c6) ∧ W.cell? ⟨w6.heap.size, 2, none⟩ = some (.slice B6 m6 d6) ∧ W.cell? ⟨w7.heap.size, 0, none⟩ = some (.bool s7) ∧ W.cell? ⟨w7.heap.size, 1, none⟩ = some (.slice A7 n7 c7) ∧ W.cell? ⟨w7.heap.size, 2, none⟩ = some (.slice B7 m7 d7) ∧ W.cell? ⟨w8.heap.size, 0, none⟩ = some (.bool s8) ∧ W.cell? ⟨w8.heap.size, 1, none⟩ = some (.slice A8 n8 c8) ∧ W.cell? ⟨w8.heap.size, 2, none⟩ = some (.slice B8 m8 d8)) (go_keep)
                  (first | ((go_at_call 27; (with_reducible refine (K1.out _ (by (skip); repeat' (first | (with_reducible exact Below.refl _ _) | (with_reducible assumption) | (with_reducible refine Below.alloc ?_ ?_ _) | (with_reducible refine Below.drew ?_) | (with_reducible refine below_drewN ?_ _) | (with_reducible refine Below.setCell ?_ ?_ _) | (with_reducible refine Below.trans ?_ (Below.mono (by with_reducible assumption) ?_)) | omega | (simp only [World.size_alloc, World.size_setCell, World.size_drew, size_drewN']; omega) | go_size))).mono ?_); rintro e w10 ⟨⟨v10, rfl, own10⟩, hb10⟩; have hb10z := Below.size hb10; (try simp only [World.size_alloc, World.size_setCell, World.size_drew] at hb10z); have hb10c0 := fun o => below_at hb10 (w6.heap.size) o (by first | omega | (simp only [World.size_alloc, World.size_setCell, World.size_drew]; omega)); have hb10f0 := fun o => below_fr hb10 (w6.heap.size) o (by first | omega | (simp only [World.size_alloc, World.size_setCell, World.size_drew]; omega)); have hb10l0 : w6.heap.size < (w10).heap.size := (by omega); have hb10c1 := fun o => below_at hb10 (w7.heap.size) o (by first | omega | (simp only [World.size_alloc, World.size_setCell, World.size_drew]; omega)); have hb10f1 := fun o => below_fr hb10 (w7.heap.size) o (by first | omega | (simp only [World.size_alloc, World.size_setCell, World.size_drew]; omega)); have hb10l1 : w7.heap.size < (w10).heap.size := (by omega); have hb10c2 := fun o => below_at hb10 (w8.heap.size) o (by first | omega | (simp only [World.size_alloc, World.size_setCell, World.size_drew]; omega)); have hb10f2 := fun o => below_fr hb10 (w8.heap.size) o (by first | omega | (simp only [World.size_alloc, World.size_setCell, World.size_drew]; omega)); have hb10l2 : w8.heap.size < (w10).heap.size := (by omega))) | ((go_at_call 28; (with_reducible refine (K2.out _ _ _ (by have z0 := Below.size hb10; (try simp only [World.size_alloc, World.size_setCell, World.size_drew, size_drewN'] at z0 ⊢; skip); repeat' (first | (with_reducible exact Below.refl _ _) | (with_reducible assumption) | (with_reducible refine Below.alloc ?_ ?_ _) | (with_reducible refine Below.drew ?_) | (with_reducible refine below_drewN ?_ _) | (with_reducible refine Below.setCell ?_ ?_ _) | (with_reducible refine Below.trans ?_ (Below.mono (by with_reducible assumption) ?_)) | omega | (simp only [World.size_alloc, World.size_setCell, World.size_drew, size_drewN']; omega) | go_size)) own10).mono ?_); rintro e w11 ⟨rfl, hb11⟩; have hb11z := Below.size hb11; (try simp only [World.size_alloc, World.size_setCell, World.size_drew] at hb11z); have hb11c0 := fun o => below_at hb11 (w6.heap.size) o (by first | omega | (simp only [World.size_alloc, World.size_setCell, World.size_drew]; omega)); have hb11f0 := fun o => below_fr hb11 (w6.heap.size) o (by first | omega | (simp only [World.size_alloc, World.size_setCell, World.size_drew]; omega)); have hb11l0 : w6.heap.size < (w11).heap.size := (by omega); have hb11c1 := fun o => below_at hb11 (w7.heap.size) o (by first | omega | (simp only [World.size_alloc, World.size_setCell, World.size_drew]; omega)); have hb11f1 := fun o => below_fr hb11 (w7.heap.size) o (by first | omega | (simp only [World.size_alloc, World.size_setCell, World.size_drew]; omega)); have hb11l1 : w7.heap.size < (w11).heap.size := (by omega); have hb11c2 := fun o => below_at hb11 (w8.heap.size) o (by first | omega | (simp only [World.size_alloc, World.size_setCell, World.size_drew]; omega)); have hb11f2 := fun o => below_fr hb11 (w8.heap.size) o (by first | omega | (simp only [World.size_alloc, World.size_setCell, World.size_drew]; omega)); have hb11l2 : w8.heap.size < (w11).heap.size := (by omega))) | ((go_at_call 21; (with_reducible refine (K3.out _ (by have z0 := Below.size hb10; have z1 := Below.size hb11; (try simp only [World.size_alloc, World.size_setCell, World.size_drew, size_drewN'] at z0 z1 ⊢; skip); repeat' (first | (with_reducible exact Below.refl _ _) | (with_reducible assumption) | (with_reducible refine Below.alloc ?_ ?_ _) | (with_reducible refine Below.drew ?_) | (with_reducible refine below_drewN ?_ _) | (with_reducible refine Below.setCell ?_ ?_ _) | (with_reducible refine Below.trans ?_ (Below.mono (by with_reducible assumption) ?_)) | omega | (simp only [World.size_alloc, World.size_setCell, World.size_drew, size_drewN']; omega) | go_size))).mono ?_); rintro e w12 ⟨rfl, hb12⟩; have hb12z := Below.size hb12; (try simp only [World.size_alloc, World.size_setCell, World.size_drew] at hb12z); have hb12c0 := fun o => below_at hb12 (w6.heap.size) o (by first | omega | (simp only [World.size_alloc, World.size_setCell, World.size_drew]; omega)); have hb12f0 := fun o => below_fr hb12 (w6.heap.size) o (by first | omega | (simp only [World.size_alloc, World.size_setCell, World.size_drew]; omega)); have hb12l0 : w6.heap.size < (w12).heap.size := (by omega); have hb12c1 := fun o => below_at hb12 (w7.heap.size) o (by first | omega | (simp only [World.size_alloc, World.size_setCell, World.size_drew]; omega)); have hb12f1 := fun o => below_fr hb12 (w7.heap.size) o (by first | omega | (simp only [World.size_alloc, World.size_setCell, World.size_drew]; omega)); have hb12l1 : w7.heap.size < (w12).heap.size := (by omega); have hb12c2 := fun o => below_at hb12 (w8.heap.size) o (by first | omega | (simp only [World.size_alloc, World.size_setCell, World.size_drew]; omega)); have hb12f2 := fun o => below_fr hb12 (w8.heap.size) o (by first | omega | (simp only [World.size_alloc, World.size_setCell, World.size_drew]; omega)); have hb12l2 : w8.heap.size < (w12).heap.size := (by omega))) | fail)
                have hb20 : Below w.heap.size w w12 := hb19.trans (show Below w.heap.size w9 w12 from (by have z0 := Below.size hb10; have z1 := Below.size hb11; have z2 := Below.size hb12; (try simp only [World.size_alloc, World.size_setCell, World.size_drew, size_drewN'] at z0 z1 z2 ⊢; skip); repeat' (first | (with_reducible exact Below.refl _ _) | (with_reducible assumption) | (with_reducible refine Below.alloc ?_ ?_ _) | (with_reducible refine Below.drew ?_) | (with_reducible refine below_drewN ?_ _) | (with_reducible refine Below.setCell ?_ ?_ _) | (with_reducible refine Below.trans ?_ (Below.mono (by with_reducible assumption) ?_)) | omega | (simp only [World.size_alloc, World.size_setCell, World.size_drew, size_drewN']; omega) | go_size)))
                go_wp2
                go_ret
                exact ⟨rfl, hb20⟩
            · clear HS HA HA' h5 h6 h5' h6' hc hc'
              rw [← hs1] at hd0
              clear hs1
              generalize len' 0 = c' at *
              have e1 : ((n' : Int) == (c' : Int)) = false := beq_eq_false_iff_ne.2 (by omega)
              have e2 : ((n' : Int) != (c' : Int)) = true := by rw [bne_iff_ne]; omega
              go_wp2_with (first | (go_at_call 24; (with_reducible refine (KC.out).mono ?_); rintro e _ ⟨rfl, rfl⟩) | (go_at_call 24; (with_reducible refine (KC'.out).mono ?_); rintro e _ ⟨rfl, rfl⟩) | (go_at_call 11; (with_reducible refine (awake_any _).mono ?_); rintro e w3 ⟨rfl, hb3⟩; have hb3z := Below.size hb3; (try simp only [World.size_alloc, World.size_setCell, World.size_drew] at hb3z)) | fail)
              have hb13 := hb12.trans (hb3.mono hb12.size)
              go_ret
              exact ⟨rfl, hb13⟩
          · clear HS HA HA' h5 h6 h5' h6' hc hc'
            rw [← hs1] at hd0
            clear hs1
            generalize len' 0 = c' at *
            have e1 : ((n' : Int) == (n : Int)) = false := beq_eq_false_iff_ne.2 (by omega)
            have e2 : ((n' : Int) != (n : Int)) = true := by rw [bne_iff_ne]; omega
            go_wp2_with (first | (go_at_call 24; (with_reducible refine (KC.out).mono ?_); rintro e _ ⟨rfl, rfl⟩) | (go_at_call 24; (with_reducible refine (KC'.out).mono ?_); rintro e _ ⟨rfl, rfl⟩) | (go_at_call 11; (with_reducible refine (awake_any _).mono ?_); rintro e w3 ⟨rfl, hb3⟩; have hb3z := Below.size hb3; (try simp only [World.size_alloc, World.size_setCell, World.size_drew] at hb3z)) | fail)
            have hb13 := hb12.trans (hb3.mono hb12.size)
            go_ret
            exact ⟨rfl, hb13⟩
        · clear HS HA HA' h5 h6 h5' h6' hc hc'
          generalize len 0 = c at *
          generalize len' 0 = c' at *
          have e1 : ((n : Int) == (c : Int)) = false := beq_eq_false_iff_ne.2 (by omega)
          have e2 : ((n : Int) != (c : Int)) = true := by rw [bne_iff_ne]; omega
          go_wp2_with (first | (go_at_call 24; (with_reducible refine (KC.out).mono ?_); rintro e _ ⟨rfl, rfl⟩) | (go_at_call 24; (with_reducible refine (KC'.out).mono ?_); rintro e _ ⟨rfl, rfl⟩) | (go_at_call 11; (with_reducible refine (awake_any _).mono ?_); rintro e w3 ⟨rfl, hb3⟩; have hb3z := Below.size hb3; (try simp only [World.size_alloc, World.size_setCell, World.size_drew] at hb3z)) | fail)
          have hb13 := hb12.trans (hb3.mono hb12.size)
          go_ret
          exact ⟨rfl, hb13⟩
      · have KC' := Lib.hid (check_err (ca := ca') (HA'.out.at_below hb12) (by have := HS.out.2.le.1; omega) (fun i hi => by have := HS.out.2.le.2 i hi; omega) rfl hc')
        generalize codeM n' len' = c at *
        clear HS HA HA' hc
        go_wp2_with (first | (go_at_call 24; (with_reducible refine (KC.out).mono ?_); rintro e _ ⟨rfl, rfl⟩) | (go_at_call 24; (with_reducible refine (KC'.out).mono ?_); rintro e _ ⟨rfl, rfl⟩) | (go_at_call 11; (with_reducible refine (awake_any _).mono ?_); rintro e w3 ⟨rfl, hb3⟩; have hb3z := Below.size hb3; (try simp only [World.size_alloc, World.size_setCell, World.size_drew] at hb3z)) | fail)
        have hb13 := hb12.trans (hb3.mono hb12.size)
        go_ret
        exact ⟨rfl, hb13⟩
    · have KC := Lib.hid (check_err (ca := ca) (HA.out.at_below hb12) (by have := HS.out.1.le.1; omega) (fun i hi => by have := HS.out.1.le.2 i hi; omega) rfl hc)
      generalize codeM n len = c at *
      clear HS HA HA'
      go_wp2_with (first | (go_at_call 24; (with_reducible refine (KC.out).mono ?_); rintro e _ ⟨rfl, rfl⟩) | (go_at_call 11; (with_reducible refine (awake_any _).mono ?_); rintro e w3 ⟨rfl, hb3⟩; have hb3z := Below.size hb3; (try simp only [World.size_alloc, World.size_setCell, World.size_drew] at hb3z)) | fail)
      have hb13 := hb12.trans (hb3.mono hb12.size)
      go_ret
      exact ⟨rfl, hb13⟩
end Go.Proofs.YtnljncncnohncaaDoor
