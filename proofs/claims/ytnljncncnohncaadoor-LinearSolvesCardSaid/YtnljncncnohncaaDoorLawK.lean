/- Contracts of functions and lemmas, used by the proofs of the given statements. No condition beyond those that each lemma names. -/
import Derived.Test.YtnljncncnohncaaDoorLawR
namespace Go.Proofs.YtnljncncnohncaaDoor
open Go.RowKit
set_option linter.unusedSimpArgs false
set_option linter.unusedVariables false
set_option maxRecDepth 20000
/-! ## LinearKernel: the plain part -/
theorem fre_inj (p : List Nat) : ∀ k i l (hi : i < (fre p k).length) (hl : l < (fre p k).length), (fre p k)[i] = (fre p k)[l] → i = l
  | 0, i, l, hi, hl, _ => absurd hi (Nat.not_lt_zero _)
  | k + 1, i, l, hi, hl, h => by
    by_cases hk : k ∈ p
    · simp only [fre_in hk] at hi hl h
      exact fre_inj p k i l hi hl h
    · simp only [fre_out hk, List.length_append, List.length_singleton] at hi hl h
      have hlt : ∀ t (ht : t < (fre p k).length), (fre p k)[t] < k := fun t ht => (fre_mem.1 (List.getElem_mem ht)).1
      by_cases e1 : i = (fre p k).length
      · by_cases e2 : l = (fre p k).length
        · omega
        · exfalso
          have hl2 : l < (fre p k).length := by omega
          subst e1
          rw [List.getElem_concat_length (by rfl), List.getElem_append_left hl2] at h
          have := hlt l hl2
          omega
      · have hi2 : i < (fre p k).length := by omega
        by_cases e2 : l = (fre p k).length
        · exfalso
          subst e2
          rw [List.getElem_append_left hi2, List.getElem_concat_length (by rfl)] at h
          have := hlt i hi2
          omega
        · have hl2 : l < (fre p k).length := by omega
          rw [List.getElem_append_left hi2, List.getElem_append_left hl2] at h
          exact fre_inj p k i l hi2 hl2 h
theorem kerM_row {n c t : Nat} {M : Mf} (ht : t < (fre (gj n M c).2 c).length) : kerM n M c t = kx n M c ((fre (gj n M c).2 c)[t]) (gj n M c).2.length := by
  unfold kerM
  simp [List.getD, ht]
/-- a vector of the kernel is mapped to 0 -/
theorem kerM_zero {n c t : Nat} {M : Mf} (ht : t < (fre (gj n M c).2 c).length) {i : Nat} (hi : i < n) : dotS (M i) (kerM n M c t) c = 0 := by
  rw [kerM_row ht]
  obtain ⟨h1, h2⟩ := fre_mem.1 (List.getElem_mem ht)
  exact kx_zero h1 h2 i hi
/-- .. and has 1 in its own column, 0 in the others' -/
theorem kerM_col {n c t l : Nat} {M : Mf} (ht : t < (fre (gj n M c).2 c).length) (hl : l < (fre (gj n M c).2 c).length) : kerM n M c t ((fre (gj n M c).2 c)[l]) = if l = t then 1 else 0 := by
  rw [kerM_row ht]
  obtain ⟨h1, h2⟩ := fre_mem.1 (List.getElem_mem ht)
  obtain ⟨h3, h4⟩ := fre_mem.1 (List.getElem_mem hl)
  by_cases e : l = t
  · subst e
    rw [if_pos rfl]
    exact kx_own h2 _ (Nat.le_refl _)
  · rw [if_neg e]
    exact kx_other (fun e2 => e (fre_inj _ _ _ _ hl ht e2)) h4
theorem kx_sz {n c k L : Nat} {M : Mf} (hL : 1 ≤ L) (h : ∀ t, t < (gj n M c).2.length → Sz L ((gj n M c).1 t k)) : ∀ t, t ≤ (gj n M c).2.length → ∀ j, Sz L (kx n M c k t j)
  | 0, _, j => by
    rw [kx_start]; unfold upd
    split
    · exact Sz.one hL
    · exact Sz.zero hL
  | t + 1, ht, j => by
    rw [kx_succ]; unfold upd
    split
    · exact (h t (by omega)).neg
    · exact kx_sz hL h t (by omega) j
theorem kerM_sz {n c L : Nat} {M : Mf} (hL : 1 ≤ L) (h : ∀ a b, a < n → b < c → Sz L ((gj n M c).1 a b)) {t : Nat} (ht : t < (fre (gj n M c).2 c).length) (j : Nat) : Sz L (kerM n M c t j) := by
  rw [kerM_row ht]
  have h1 := (fre_mem.1 (List.getElem_mem ht)).1
  exact kx_sz hL (fun s hs => h s _ (by have := (gj_len_le (n := n) (M := M) c).2; omega) h1) _ (Nat.le_refl _) j
theorem mem_take {p : List Nat} {t k : Nat} (ht : t < p.length) : k ∈ p.take (t + 1) ↔ k ∈ p.take t ∨ k = p[t] := by rw [List.take_succ_eq_append_getElem ht, List.mem_append, List.mem_singleton]
attribute [local irreducible] nv wp win plainB validR valR canR gj findR elim swp gl fre kerM
theorem RowI.toI {w : World} {b n c : Nat} {A : Option Addr} {M : Mf} {t : Nat} (h : MatI w b A n (fun _ => c) (fun i => can (M i))) (ht : t < n) : ∃ b' off Ai ci, A = some ⟨b', off, none⟩ ∧ b' < w.heap.size ∧ w.cell? ⟨b', off + t, none⟩ = some (.slice Ai c ci) ∧ c ≤ ci ∧ RowI w b Ai c (can (M t)) := h.at_ ht
set_option maxHeartbeats 8000000 in
theorem linearKernel_law {w : World} {n ca : Nat} {A : Option Addr} {len : Nat → Nat} {R : Nat → Nat → Rw} (h : MatI w w.heap.size A n len R) :
    Calls Tryd.prog 8 #[.slice A n ca] w fun e w' => e = .returned (.bool true) ∧ Below w.heap.size w w' := by
  have HA := Lib.hid h
  have KL := Lib.hid (fun (W : World) (g : Nat) (hb : Below w.heap.size w W) (hc : W.cell? ⟨g, 0, none⟩ = some (.slice A n ca)) => large1 (cm := 1) h hb hc)
  clear h
  go_enter Tryd.func8, Tryd.ntmps8
  go_wp2_with (first | (go_at_call 11; (with_reducible refine (awake_any _).mono ?_); rintro e w1 ⟨rfl, hb1⟩; have hb1z := Below.size hb1; (try simp only [World.size_alloc, World.size_setCell, World.size_drew] at hb1z)) | fail)
  have hw1 : Below w.heap.size w (w1.alloc (.cells #[.slice A n ca] 22)) := hb1.alloc hb1.size _
  ((go_at_call 12; (with_reducible refine (KL.out _ _ hw1 (cell_new' rfl rfl)).mono ?_); rintro e w2 ⟨⟨bb, rfl, hbb⟩, hb2⟩; have hb2z := Below.size hb2; (try simp only [World.size_alloc, World.size_setCell, World.size_drew] at hb2z)))
  have hb12 : Below w.heap.size w w2 := hw1.trans (hb2.mono (by simp; omega))
  clear hw1 KL
  cases bb with
  | true =>
    clear hbb
    go_wp2_with (first | (go_at_call 11; (with_reducible refine (awake_any _).mono ?_); rintro e w3 ⟨rfl, hb3⟩; have hb3z := Below.size hb3; (try simp only [World.size_alloc, World.size_setCell, World.size_drew] at hb3z)) | fail)
    have hb13 := hb12.trans (hb3.mono hb12.size)
    go_ret
    exact ⟨rfl, hb13⟩
  | false =>
    have HS := Lib.hid (hbb rfl)
    clear hbb
    by_cases hc : codeM n len = 0
    · have KC := Lib.hid (check_any (ca := ca) (HA.out.at_below hb12) (by have := HS.out.le.1; omega) (fun i hi => by have := HS.out.le.2 i hi; omega))
      rw [hc, errM_0] at KC
      have KR := Lib.hid (fun W (hb : Below w.heap.size w W) => HS.out.redP (ca := ca) hc (HA.out.at_below hb))
      have KK := Lib.hid (HS.out.kerP (ca := ca) hc (HA.out.at_below hb12))
      obtain ⟨hn7, hc7, hn0, hl0, h5, h6⟩ := HS.out.acc hc
      obtain ⟨M, hM⟩ : ∃ M : Mf, M = fun i k => valR (R i k) := ⟨_, rfl⟩
      obtain ⟨c, hcl⟩ : ∃ c, c = len 0 := ⟨_, rfl⟩
      have HSM := Lib.hid (fun i k (hi : i < n) (hk : k < c) => (by rw [hM]; exact HA.out.sz (m := 0) HS.out hi (by rw [h5 i hi, ← hcl]; exact hk) : Sz 3 (M i k)))
      have HSS := Lib.hid (gj_sz (n := n) (M := M) (c := c) (show 1 ≤ 3 by omega) HSM.out c (Nat.le_refl _))
      have hGL := gl37 (show c ≤ 8 by omega)
      have HG := Lib.hid (gl_pos (L := 3) (by omega) c)
      have hB3 : 3 ≤ gl 3 c := by have := gl_mono (L := 3) (Nat.zero_le c); rwa [gl_0] at this
      obtain ⟨B, hB⟩ : ∃ B, B = gl 3 c := ⟨_, rfl⟩
      rw [← hB] at HSS hGL HG hB3
      clear hB
      have KA := Lib.hid (fun W Bx cb (f : Nat → Rat) (hb : Below w.heap.size w W) (hr : RowI W W.heap.size Bx c (can f)) (hf : ∀ k, k < c → Sz B (f k)) => (by
        have := apply_any (ca := ca) (cb := cb) (L := B) (HA.out.at_below hb) hr hc hcl.symm (fun i k hi hk => by have := h6 i k hi (by omega); omega) (fun i k hi hk => HA.out.ok hi (by rw [h5 i hi]; omega)) (fun i hi => Sz_canR (hf i hi)) (fun i hi => canR_ok _) HG.out (by omega)
        rw [show (fun i => dotS (fun k => valR (R i k)) (fun k => valR (can f k)) c) = fun i => dotS (M i) f c by
          funext i
          rw [hM]
          exact dotS_congr (fun _ _ => rfl) fun k _ => valR_canR _] at this
        exact this : Calls Tryd.prog 34 #[.slice A n ca, .slice Bx c cb] W fun e w' => RetA W.heap.size n (fun i => dotS (M i) f c) e w' ∧ Below W.heap.size W w'))
      unfold RetR3 at KR
      unfold RetKer at KK
      rw [← hM, ← hcl] at KR KK
      have HKZ := Lib.hid (fun t (ht : t < (fre (gj n M c).2 c).length) i (hi : i < n) => kerM_zero ht hi)
      have HKC := Lib.hid (fun t l j (ht : t < (fre (gj n M c).2 c).length) (hl : (fre (gj n M c).2 c)[l]? = some j) => (by obtain ⟨h1, h2⟩ := List.getElem?_eq_some_iff.1 hl; rw [← h2]; exact ⟨(fre_mem.1 (List.getElem_mem h1)).1, kerM_col (n := n) (M := M) ht h1⟩ : j < c ∧ kerM n M c t j = if l = t then 1 else 0))
      have HKS := Lib.hid (fun t (ht : t < (fre (gj n M c).2 c).length) j => kerM_sz HG.out HSS.out ht j)
      have hpl : (gj n M c).2.length ≤ n := (gj_len_le c).2
      obtain ⟨K, hK⟩ : ∃ K, K = kerM n M c := ⟨_, rfl⟩
      obtain ⟨p, hp⟩ : ∃ p, p = (gj n M c).2 := ⟨_, rfl⟩
      obtain ⟨S, hS⟩ : ∃ S, S = (gj n M c).1 := ⟨_, rfl⟩
      rw [← hK] at HKZ HKC HKS KK
      rw [← hp] at HKZ HKC HKS KK KR hpl
      rw [← hS] at KR
      obtain ⟨b, off, A0, c0, rfl, hc0, -⟩ := HA.out.at0 hn0
      rw [← hcl] at hc0 hl0 hc7
      have HC0 := Lib.hid hc0
      clear HSM HSS h5 h6 hM hcl hc HS hp hS hK hc0
      go_wp2_with (first | (go_at_call 24; (with_reducible refine (KC.out).mono ?_); rintro e _ ⟨rfl, rfl⟩) | ((go_at_call 31; (with_reducible refine (KK.out).mono ?_); rintro e w3 ⟨⟨Ak, dk, rfl, mk⟩, hb3⟩; have hb3z := Below.size hb3; (try simp only [World.size_alloc, World.size_setCell, World.size_drew] at hb3z))) | fail)
      have hb13 := hb12.trans (hb3.mono hb12.size)
      go_wp2_with fail
      ((go_at_call 25; (with_reducible refine (KR.out _ hb13).mono ?_); rintro e w4 ⟨⟨bo, co, P, cp, rfl, own4, opv4⟩, hb4⟩; have hb4z := Below.size hb4; (try simp only [World.size_alloc, World.size_setCell, World.size_drew] at hb4z)))
      have hb14 := hb13.trans (hb4.mono hb13.size)
      have HK3 := Lib.hid mk
      have HP := Lib.hid opv4
      have hb34 := Lib.hid hb4
      have h14 := hb14.size
      have h34 := hb4.size
      have hc4 := (hb14.cell (lt_of_cell HC0.out)).trans HC0.out
      clear mk opv4 own4 KC KK KR hb4
      obtain ⟨r, hr⟩ : ∃ r, r = p.length := ⟨_, rfl⟩
      rw [← hr] at hpl ⊢
      have HR := Lib.hid hr
      clear hr
      generalize hfl : (fre p c).length = fl at *
      have HFL := Lib.hid hfl
      clear hfl
      have hfle : fl ≤ c := by rw [← HFL.out]; exact fre_len p c
      go_wp2
      go_loopw [8, 56] (fun a i wr => ∃ k A d, k ≤ c ∧ i = .int .i64 (k : Int) ∧ a = .slice A (fre p k).length d ∧ OwI wr w4.heap.size A d (fre p k) ∧ Below w4.heap.size w4 wr) (fun _ i _ => c - (intOf i).toNat)
      case atStart => exact ⟨0, none, 0, Nat.zero_le _, rfl, by unfold fre; rfl, by unfold fre; exact OwI.nil_ _ _, Below.refl _ _⟩
      case round =>
        obtain ⟨k, A2, d2, hk, rfl, rfl, own, hb5⟩ := hrel
        have hb5z := hb5.size
        have hfk := fre_len p k
        have HOF := Lib.hid own
        clear own
        by_cases hkc : k < c
        · generalize hfe : (fre p k).length = fk at *
          have HFK := Lib.hid hfe
          clear hfe
          obtain ⟨wq, hwq⟩ : ∃ wq, wq = wr := ⟨_, rfl⟩
          subst hwq
          go_wp2
          go_loopw [10, 61] (fun a i wr => ∃ t : Nat, t ≤ r ∧ i = .int .i64 t ∧ a = .bool (decide (k ∈ p.take t)) ∧ wr = wq) (fun _ i _ => r - (intOf i).toNat)
          case atStart => exact ⟨0, Nat.zero_le _, rfl, by simp, rfl⟩
          case round =>
            obtain ⟨t, ht, rfl, rfl, rfl⟩ := hrel
            by_cases htr : t < r
            · have hlt' : t < p.length := by rw [← HR.out]; exact htr
              obtain ⟨gP, rfl, hcP⟩ := (HP.out.below hb5).at_ hlt'
              have HM := Lib.hid (mem_take (k := k) hlt')
              generalize p[t] = x at *
              by_cases h1 : k ∈ p.take t
              · have e1 : decide (k ∈ p.take t) = true := decide_eq_true h1
                have HE : Hid (decide (k ∈ p.take (t + 1)) = true) := decide_eq_true (HM.out.2 (.inl h1))
                clear h1
                generalize hdk : decide (k ∈ p.take t) = dk1 at *
                subst e1
                clear hdk
                go_wp2
                go_roundw
                case rel => exact ⟨t + 1, by omega, by go_num, by rw [HE.out], by first | rfl | trivial⟩
                case measure => simp [intOf]; omega
              · have e1 : decide (k ∈ p.take t) = false := decide_eq_false h1
                by_cases h2 : k = x
                · have HE : Hid (decide (k ∈ p.take (t + 1)) = true) := decide_eq_true (HM.out.2 (.inr h2))
                  subst h2
                  clear h1
                  generalize hdk : decide (k ∈ p.take t) = dk1 at *
                  subst e1
                  clear hdk
                  go_wp2
                  go_roundw
                  case rel => exact ⟨t + 1, by omega, by go_num, by rw [HE.out], by first | rfl | trivial⟩
                  case measure => simp [intOf]; omega
                · have HE : Hid (decide (k ∈ p.take (t + 1)) = false) := decide_eq_false fun h3 => (HM.out.1 h3).elim h1 h2
                  have e2 : ((x : Int) == (k : Int)) = false := beq_eq_false_iff_ne.2 (by omega)
                  clear h1 h2
                  generalize hdk : decide (k ∈ p.take t) = dk1 at *
                  subst e1
                  clear hdk
                  go_wp2
                  go_roundw
                  case rel => exact ⟨t + 1, by omega, by go_num, by rw [HE.out], by first | rfl | trivial⟩
                  case measure => simp [intOf]; omega
            · have hrt : t = r := by omega
              have e0 : p.take t = p := by rw [hrt, HR.out, List.take_length]
              rw [e0]
              subst hrt
              by_cases hin : k ∈ p
              · have HE := Lib.hid (fre_in hin)
                rw [decide_eq_true hin]
                clear hin e0
                go_wp2
                go_roundw
                case rel => exact ⟨k + 1, A2, d2, by omega, by go_num, by rw [HE.out, HFK.out], by rw [HE.out]; exact HOF.out, hb5⟩
                case measure => simp [intOf]; omega
              · have HE := Lib.hid (fre_out hin)
                rw [decide_eq_false hin]
                have HEL : Hid ((fre p (k + 1)).length = fk + 1) := by
                  show _ = _
                  rw [HE.out, List.length_append, HFK.out]; rfl
                clear hin e0
                have hal : Below wr.heap.size wr (wr.alloc (.cells #[.int .i64 (k : Int)] 3)) := (Below.refl _ _).alloc (Nat.le_refl _) _
                go_wp2_with (at_builtin; refine wpList_appI1 rfl (.tmp 74) (.tmp 76) rfl w4.heap.size A2 d2 fk (fre p k) HFK.out (by simp [Act.eval]) (HOF.out.below hal) k wr.heap.size (by simp [Act.eval]) (by simp) (by omega) (by simp; omega) ?_; intro A9 d9 w9 own9 hb9 hg9)
                exact ⟨⟨k + 1, A9, d9, by omega, by go_num, by rw [HEL.out], by rw [HE.out]; exact own9, hb5.trans ((hal.mono hb5z).trans hb9)⟩, by simp [intOf]; omega⟩
        · have hkc2 : k = c := by omega
          subst hkc2
          rw [HFL.out]
          have HOF2 : Hid (OwI wr w4.heap.size A2 d2 (fre p k)) := HOF.out
          obtain ⟨w5, hw5⟩ : ∃ w5, w5 = wr := ⟨_, rfl⟩
          subst hw5
          clear HOF hfk
          go_wp2
          go_loopw [86] (fun i wr => ∃ q : Nat, q ≤ fl ∧ i = .int .i64 q ∧ Below w5.heap.size w5 wr) (fun i _ => fl - (intOf i).toNat)
          case atStart => exact ⟨0, Nat.zero_le _, rfl, Below.refl _ _⟩
          case round =>
            obtain ⟨i, hi, rfl, hb6⟩ := hrel
            have hb6z := hb6.size
            have hb46 : Below w4.heap.size w4 wr := hb5.trans (hb6.mono hb5z)
            have hb36 : Below w3.heap.size w3 wr := hb34.out.trans (hb46.mono h34)
            have hbw6 : Below w.heap.size w wr := hb14.trans (hb46.mono h14)
            by_cases hif : i < fl
            · obtain ⟨bk, ok, Bi, cbi, rfl, _, hk0, hlk, hrow⟩ := HK3.out.at_ hif
              have hk1 := (hb36.cell (lt_of_cell hk0)).trans hk0
              have HRI := Lib.hid (hrow.at_below hb36)
              have KAi := Lib.hid (KA.out wr Bi cbi (K i) hbw6 HRI.out (fun j _ => HKS.out i hif j))
              have HZ := Lib.hid (fun q (hq : q < n) => HKZ.out i hif q hq)
              have HCC := Lib.hid (fun l j hj => HKC.out i l j hif hj)
              have HSZ := Lib.hid (fun j => HKS.out i hif j)
              clear hrow hk0
              obtain ⟨wi, hwi⟩ : ∃ wi, wi = wr := ⟨_, rfl⟩
              subst hwi
              go_wp2_with (first | ((go_at_call 34; (with_reducible refine (KAi.out).mono ?_); rintro e w6 ⟨⟨Ay, dy, rfl, own6⟩, hb7⟩; have hb7z := Below.size hb7; (try simp only [World.size_alloc, World.size_setCell, World.size_drew] at hb7z))) | fail)
              have HY := Lib.hid (own6.congr (U := can fun _ => 0) (fun q hq => by show canR (dotS (M q) (K i) k) = canR 0; rw [HZ.out q hq]))
              clear own6 KAi
              go_loopw [101] (fun s wr => ∃ q : Nat, q ≤ n ∧ s = .int .i64 q ∧ Below w6.heap.size w6 wr) (fun s _ => n - (intOf s).toNat)
              case atStart => exact ⟨0, Nat.zero_le _, rfl, Below.refl _ _⟩
              case round =>
                obtain ⟨s, hs, rfl, hb8⟩ := hrel
                have hb8z := hb8.size
                by_cases hsn : s < n
                · obtain ⟨yb, yo, s1, A1, n1, c1, B1, m1, d1, rfl, hyb, f0, f1, f2, r1⟩ := HY.out.ra.at_ hsn
                  have hf0 := (hb8.cell (lt_of_cell f0)).trans f0
                  have hf1 := (hb8.cell (lt_of_cell f1)).trans f1
                  have hf2 := (hb8.cell (lt_of_cell f2)).trans f2
                  have hal : Below wr.heap.size wr (wr.alloc (.cells #[.bool s1, .slice A1 n1 c1, .slice B1 m1 d1] 37)) := (Below.refl _ _).alloc (Nat.le_refl _) _
                  have q1 := RdS.canQ (q := 0) (r1.kp (Kp.of_below hb8)) (Sz.zero HG.out)
                  have KS := Lib.hid (by
                    have := signQ (q1.below hal) HG.out (by omega)
                    rw [show sgnQ 0 = 0 from rfl] at this
                    exact this : Calls Tryd.prog 21 #[rv s1 A1 n1 c1 B1 m1 d1] (wr.alloc (.cells #[.bool s1, .slice A1 n1 c1, .slice B1 m1 d1] 37)) fun e w' => e = .returned (.int .i64 0) ∧ Below (wr.alloc (.cells #[.bool s1, .slice A1 n1 c1, .slice B1 m1 d1] 37)).heap.size (wr.alloc (.cells #[.bool s1, .slice A1 n1 c1, .slice B1 m1 d1] 37)) w')
                  clear q1 r1 f0 f1 f2
                  go_wp2_with (first | (go_at_call 21; (with_reducible refine (KS.out).mono ?_); rintro e w7 ⟨rfl, hb9⟩; have hb9z := Below.size hb9; (try simp only [World.size_alloc, World.size_setCell, World.size_drew] at hb9z)) | fail)
                  have hb10 := hb8.trans ((hal.mono hb8z).trans (hb9.mono (by simp; omega)))
                  go_roundw
                  case rel => exact ⟨s + 1, by omega, by go_num, hb10⟩
                  case measure => simp [intOf]; omega
                · have hsn2 : s = n := by omega
                  subst hsn2
                  obtain ⟨w7, hw7⟩ : ∃ w7, w7 = wr := ⟨_, rfl⟩
                  subst hw7
                  clear HY
                  go_wp2
                  go_loopw [111] (fun l wr => ∃ q : Nat, q ≤ fl ∧ l = .int .i64 q ∧ Below w7.heap.size w7 wr) (fun l _ => fl - (intOf l).toNat)
                  case atStart => exact ⟨0, Nat.zero_le _, rfl, Below.refl _ _⟩
                  case round =>
                    obtain ⟨l, hl, rfl, hb9⟩ := hrel
                    have hb9z := hb9.size
                    have hbi9 : Below wi.heap.size wi wr := hb7.trans ((hb8.mono hb7.size).trans (hb9.mono (by have := hb7.size; omega)))
                    have hb59 : Below w5.heap.size w5 wr := hb6.trans (hbi9.mono hb6z)
                    by_cases hlf : l < fl
                    · have hlt' : l < (fre p k).length := by rw [HFL.out]; exact hlf
                      obtain ⟨gF, rfl, hcF⟩ := (HOF2.out.below hb59).at_ hlt'
                      obtain ⟨hjc, hKj⟩ := HCC.out l _ (List.getElem?_eq_getElem hlt')
                      generalize (fre p k)[l] = j at *
                      obtain ⟨bx, ox, s2, A2', n2, c2, B2, m2, d2', rfl, hbx, g0, g1, g2, r2⟩ := HRI.out.ra.at_ hjc
                      have hg0 := (hbi9.cell (lt_of_cell g0)).trans g0
                      have hg1 := (hbi9.cell (lt_of_cell g1)).trans g1
                      have hg2 := (hbi9.cell (lt_of_cell g2)).trans g2
                      have q2 := RdS.canQ (q := K i j) (r2.kp (Kp.of_below hbi9)) (HSZ.out j)
                      have hj0 : (0 : Int) ≤ (j : Int) := by omega
                      have hj1 : (j : Int) < (k : Int) := by omega
                      have hj2 : decide ((k : Int) ≤ (j : Int)) = false := decide_eq_false (by omega)
                      have hj3 : decide (k ≤ j) = false := decide_eq_false (by omega)
                      have key : ∀ W base v1 (wt : Nat), K i j = (wt : Rat) → Below wr.heap.size wr W → OwQ W base v1 (wt : Rat) → wt ≤ 1 → Calls Tryd.prog 28 #[rv s2 A2' n2 c2 B2 m2 d2', v1] W fun e w' => e = .returned (.int .i64 0) ∧ Below W.heap.size W w' := by
                        intro W base v1 wt e hb hv h1
                        have := cmpQ (q2.below hb) (hv.rq ((sz_nat (by omega)).more HG.out)) HG.out (by omega)
                        rw [e, Rat.sub_self, show sgnQ 0 = 0 from rfl] at this
                        exact this
                      have KC2 := Lib.hid key
                      clear key q2 r2 g0 g1 g2 hlt'
                      by_cases hli : l = i
                      · rw [if_pos hli] at hKj
                        have HKJ : Hid (K i j = ((1 : Nat) : Rat)) := hKj
                        have K1 : ∀ W, Calls Tryd.prog 37 #[.int .i64 1] W fun e w' => RetQ W.heap.size ((1 : Nat) : Rat) e w' ∧ Below W.heap.size W w' := fun W => ofQ 1 W (by omega)
                        have K1 := Lib.hid K1
                        subst hli
                        clear hKj
                        go_wp2
                        go_region_held3 (fun W => W.cell? ⟨bx, ox + j * 3, none⟩ = some (.bool s2) ∧ W.cell? ⟨bx, ox + j * 3 + 1, none⟩ = some (.slice A2' n2 c2) ∧ W.cell? ⟨bx, ox + j * 3 + 2, none⟩ = some (.slice B2 m2 d2')) (go_keep)
                          (first | ((go_at_call 37; (with_reducible refine (K1.out _).mono ?_); rintro e w8 ⟨⟨v8, rfl, own8⟩, hb11⟩; have hb11z := Below.size hb11; (try simp only [World.size_alloc, World.size_setCell, World.size_drew] at hb11z); have hb11c0 := fun o => below_at hb11 (bx) o (by first | omega | (simp only [World.size_alloc, World.size_setCell, World.size_drew]; omega)); have hb11f0 := fun o => below_fr hb11 (bx) o (by first | omega | (simp only [World.size_alloc, World.size_setCell, World.size_drew]; omega)); have hb11l0 : bx < (w8).heap.size := (by omega))) | ((go_at_call 28; (with_reducible refine (KC2.out _ _ _ _ HKJ.out (by have z0 := Below.size hb11; (try simp only [World.size_alloc, World.size_setCell, World.size_drew, size_drewN'] at z0 ⊢; skip); repeat' (first | (with_reducible exact Below.refl _ _) | (with_reducible assumption) | (with_reducible refine Below.alloc ?_ ?_ _) | (with_reducible refine Below.drew ?_) | (with_reducible refine below_drewN ?_ _) | (with_reducible refine Below.setCell ?_ ?_ _) | (with_reducible refine Below.trans ?_ (Below.mono (by with_reducible assumption) ?_)) | omega | (simp only [World.size_alloc, World.size_setCell, World.size_drew, size_drewN']; omega) | go_size)) own8 (by omega)).mono ?_); rintro e w9 ⟨rfl, hb12⟩; have hb12z := Below.size hb12; (try simp only [World.size_alloc, World.size_setCell, World.size_drew] at hb12z); have hb12c0 := fun o => below_at hb12 (bx) o (by first | omega | (simp only [World.size_alloc, World.size_setCell, World.size_drew]; omega)); have hb12f0 := fun o => below_fr hb12 (bx) o (by first | omega | (simp only [World.size_alloc, World.size_setCell, World.size_drew]; omega)); have hb12l0 : bx < (w9).heap.size := (by omega))) | fail)
                        all_goals
                          have hb13' : Below wr.heap.size wr w9 := (by have z0 := Below.size hb11; have z1 := Below.size hb12; (try simp only [World.size_alloc, World.size_setCell, World.size_drew, size_drewN'] at z0 z1 ⊢; skip); repeat' (first | (with_reducible exact Below.refl _ _) | (with_reducible assumption) | (with_reducible refine Below.alloc ?_ ?_ _) | (with_reducible refine Below.drew ?_) | (with_reducible refine below_drewN ?_ _) | (with_reducible refine Below.setCell ?_ ?_ _) | (with_reducible refine Below.trans ?_ (Below.mono (by with_reducible assumption) ?_)) | omega | (simp only [World.size_alloc, World.size_setCell, World.size_drew, size_drewN']; omega) | go_size))
                          have hb14' := hb9.trans (hb13'.mono hb9z)
                          go_wp2
                          go_roundw
                          case rel => exact ⟨l + 1, by omega, by go_num, hb14'⟩
                          case measure => simp [intOf]; omega
                      · rw [if_neg hli] at hKj
                        have HKJ : Hid (K i j = ((0 : Nat) : Rat)) := hKj
                        have K1 : ∀ W, Calls Tryd.prog 37 #[.int .i64 0] W fun e w' => RetQ W.heap.size ((0 : Nat) : Rat) e w' ∧ Below W.heap.size W w' := fun W => ofQ 0 W (by omega)
                        have K1 := Lib.hid K1
                        have e2 : ((l : Int) == (i : Int)) = false := beq_eq_false_iff_ne.2 (by omega)
                        clear hKj hli
                        go_wp2
                        go_region_held3 (fun W => W.cell? ⟨bx, ox + j * 3, none⟩ = some (.bool s2) ∧ W.cell? ⟨bx, ox + j * 3 + 1, none⟩ = some (.slice A2' n2 c2) ∧ W.cell? ⟨bx, ox + j * 3 + 2, none⟩ = some (.slice B2 m2 d2')) (go_keep)
                          (first | ((go_at_call 37; (with_reducible refine (K1.out _).mono ?_); rintro e w8 ⟨⟨v8, rfl, own8⟩, hb11⟩; have hb11z := Below.size hb11; (try simp only [World.size_alloc, World.size_setCell, World.size_drew] at hb11z); have hb11c0 := fun o => below_at hb11 (bx) o (by first | omega | (simp only [World.size_alloc, World.size_setCell, World.size_drew]; omega)); have hb11f0 := fun o => below_fr hb11 (bx) o (by first | omega | (simp only [World.size_alloc, World.size_setCell, World.size_drew]; omega)); have hb11l0 : bx < (w8).heap.size := (by omega))) | ((go_at_call 28; (with_reducible refine (KC2.out _ _ _ _ HKJ.out (by have z0 := Below.size hb11; (try simp only [World.size_alloc, World.size_setCell, World.size_drew, size_drewN'] at z0 ⊢; skip); repeat' (first | (with_reducible exact Below.refl _ _) | (with_reducible assumption) | (with_reducible refine Below.alloc ?_ ?_ _) | (with_reducible refine Below.drew ?_) | (with_reducible refine below_drewN ?_ _) | (with_reducible refine Below.setCell ?_ ?_ _) | (with_reducible refine Below.trans ?_ (Below.mono (by with_reducible assumption) ?_)) | omega | (simp only [World.size_alloc, World.size_setCell, World.size_drew, size_drewN']; omega) | go_size)) own8 (by omega)).mono ?_); rintro e w9 ⟨rfl, hb12⟩; have hb12z := Below.size hb12; (try simp only [World.size_alloc, World.size_setCell, World.size_drew] at hb12z); have hb12c0 := fun o => below_at hb12 (bx) o (by first | omega | (simp only [World.size_alloc, World.size_setCell, World.size_drew]; omega)); have hb12f0 := fun o => below_fr hb12 (bx) o (by first | omega | (simp only [World.size_alloc, World.size_setCell, World.size_drew]; omega)); have hb12l0 : bx < (w9).heap.size := (by omega))) | fail)
                        all_goals
                          have hb13' : Below wr.heap.size wr w9 := (by have z0 := Below.size hb11; have z1 := Below.size hb12; (try simp only [World.size_alloc, World.size_setCell, World.size_drew, size_drewN'] at z0 z1 ⊢; skip); repeat' (first | (with_reducible exact Below.refl _ _) | (with_reducible assumption) | (with_reducible refine Below.alloc ?_ ?_ _) | (with_reducible refine Below.drew ?_) | (with_reducible refine below_drewN ?_ _) | (with_reducible refine Below.setCell ?_ ?_ _) | (with_reducible refine Below.trans ?_ (Below.mono (by with_reducible assumption) ?_)) | omega | (simp only [World.size_alloc, World.size_setCell, World.size_drew, size_drewN']; omega) | go_size))
                          have hb14' := hb9.trans (hb13'.mono hb9z)
                          go_wp2
                          go_roundw
                          case rel => exact ⟨l + 1, by omega, by go_num, hb14'⟩
                          case measure => simp [intOf]; omega
                    · have hlf2 : l = fl := by omega
                      subst hlf2
                      go_wp2
                      go_roundw
                      case rel => exact ⟨i + 1, by omega, by go_num, hb59⟩
                      case measure => simp [intOf]; omega
            · have hif2 : i = fl := by omega
              subst hif2
              go_wp2
              go_ret
              exact ⟨rfl, hbw6⟩
    · have KC := Lib.hid (check_err (ca := ca) (HA.out.at_below hb12) (by have := HS.out.le.1; omega) (fun i hi => by have := HS.out.le.2 i hi; omega) rfl hc)
      generalize codeM n len = c at *
      clear HS HA
      go_wp2_with (first | (go_at_call 24; (with_reducible refine (KC.out).mono ?_); rintro e _ ⟨rfl, rfl⟩) | (go_at_call 11; (with_reducible refine (awake_any _).mono ?_); rintro e w3 ⟨rfl, hb3⟩; have hb3z := Below.size hb3; (try simp only [World.size_alloc, World.size_setCell, World.size_drew] at hb3z)) | fail)
      have hb13 := hb12.trans (hb3.mono hb12.size)
      go_ret
      exact ⟨rfl, hb13⟩
end Go.Proofs.YtnljncncnohncaaDoor
