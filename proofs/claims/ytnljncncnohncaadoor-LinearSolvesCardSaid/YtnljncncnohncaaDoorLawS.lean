/- Contracts of functions and lemmas, used by the proofs of the given statements. No condition beyond those that each lemma names. -/
import Derived.Test.YtnljncncnohncaaDoorJLinY
import Derived.Test.YtnljncncnohncaaDoorLawR
namespace Go.Proofs.YtnljncncnohncaaDoor
open Go.RowKit
set_option linter.unusedSimpArgs false
set_option linter.unusedVariables false
set_option maxRecDepth 20000
attribute [local irreducible] nv wp win plainB validR valR canR gj findR elim swp gl fre kerM codeS
/-! ## LinearSolution -/
theorem is_eq (n : Int) (w : World) : Calls Tryd.prog 20 #[.iface 42 (.int .i64 n), .int .i64 n] w fun e w' => e = .returned (.bool true) ∧ w = w' := by
  have hta : ∀ (x : Value) (w : World), (Instr.typeAssert (.iface 42 x) 28 42 true).run Tryd.prog w = .ok (.tuple #[x, .bool true]) w := fun _ _ => by kernel_rfl
  go_enter Tryd.func20, Tryd.ntmps20
  go_wp2
  go_ret
  exact ⟨rfl, rfl⟩
theorem is_ne {n k : Int} (h : n ≠ k) (w : World) : Calls Tryd.prog 20 #[.iface 42 (.int .i64 n), .int .i64 k] w fun e w' => e = .returned (.bool false) ∧ w = w' := by
  have hta : ∀ (x : Value) (w : World), (Instr.typeAssert (.iface 42 x) 28 42 true).run Tryd.prog w = .ok (.tuple #[x, .bool true]) w := fun _ _ => by kernel_rfl
  have e1 : (n == k) = false := beq_eq_false_iff_ne.2 h
  have e2 : decide (n = k) = false := decide_eq_false h
  go_enter Tryd.func20, Tryd.ntmps20
  go_wp2
  go_ret
  exact ⟨rfl, rfl⟩
def SolRes (w : World) (b0 n c : Nat) (W : Mf) (X Z : Value) : Prop :=
  (codeS n c W = 0 ∧ ∃ A d, X = .slice A c d ∧ Z = .nilIface ∧ OwR w b0 A d c (can fun i => (gj n W (c + 1)).1 i c)) ∨ (codeS n c W ≠ 0 ∧ X = .slice none 0 0 ∧ Z = errM (codeS n c W))
def RetSo (b0 n c : Nat) (W : Mf) (e : Ending) (w : World) : Prop := ∃ X Z, e = .returned (.tuple #[X, Z]) ∧ SolRes w b0 n c W X Z
theorem RetSolve.so {b0 n c : Nat} {W : Mf} {e : Ending} {w : World} (h : RetSolve b0 n c W e w) : RetSo b0 n c W e w := by
  unfold RetSolve at h
  by_cases h0 : codeS n c W = 0
  · rw [if_pos h0] at h
    obtain ⟨A, d, h1, h2⟩ := h
    exact ⟨_, _, h1, .inl ⟨h0, A, d, rfl, rfl, h2⟩⟩
  · rw [if_neg h0] at h
    exact ⟨_, _, h, .inr ⟨h0, rfl, rfl⟩⟩
theorem SmallM.solP {w : World} {n ca cb : Nat} {A B : Option Addr} {len : Nat → Nat} {R : Nat → Nat → Rw} {Rb : Nat → Rw} (hs : SmallM n len R) (hv : SmallR n Rb) (hc : codeM n len = 0) (h : MatI w w.heap.size A n len R) (hB : RowI w w.heap.size B n Rb) :
    Calls Tryd.prog 14 #[.slice A n ca, .slice B n cb] w fun e w' => RetSo w.heap.size n (len 0) (wide (fun i k => valR (R i k)) (fun i => valR (Rb i)) (len 0)) e w' ∧ Below w.heap.size w w' := by
  obtain ⟨h1, h2, h3, h4, h5, h6⟩ := hs.acc hc
  exact (solve_any (L := 3) (m := 0) h hB hc rfl h6 (fun i k hi hk => h.ok hi (by rw [h5 i hi]; exact hk)) (fun i hi => hv.2 i hi) (fun i hi => hB.ra.ok hi) (by omega) (by have := gl37 (show len 0 + 1 ≤ 8 by omega); omega)).mono fun e w' ⟨h, hb⟩ => ⟨h.so, hb⟩
theorem wide_rankP {w : World} {n c ca : Nat} {A : Option Addr} {R : Nat → Nat → Rw} {Rb : Nat → Rw} (h : MatI w w.heap.size A n (fun _ => c + 1) (wideR R Rb c)) (hn0 : 0 < n) (hn : n ≤ 7) (hc : c ≤ 7)
    (h6 : ∀ i k, i < n → k < c → (R i k).2.1.length ≤ 3 ∧ (R i k).2.2.length ≤ 3) (hb : ∀ i, i < n → (Rb i).2.1.length ≤ 3 ∧ (Rb i).2.2.length ≤ 3) :
    Calls Tryd.prog 30 #[.slice A n ca] w fun e w' => e = .returned (.tuple #[.int .i64 (((gj n (wide (fun i k => valR (R i k)) (fun i => valR (Rb i)) c) (c + 1)).2.length : Nat) : Int), .nilIface]) ∧ Below w.heap.size w w' := by
  have := rankP_any (L := 3) (ca := ca) h (codeM_ok (by omega) (by omega) (by omega) (show c + 1 ≤ 256 by omega) fun _ _ => rfl) rfl (fun i k hi hk => by
    unfold wideR
    by_cases e : k < c
    · rw [if_pos e]; exact h6 i k hi e
    · rw [if_neg e]; exact hb i hi) (fun i k hi hk => h.ok hi hk) (by omega) (by have := gl37 (show c + 1 ≤ 8 by omega); omega)
  rwa [wideR_val] at this
set_option maxHeartbeats 8000000 in
theorem linearSolution_law {w : World} {n ca nb cb : Nat} {A B : Option Addr} {len : Nat → Nat} {R : Nat → Nat → Rw} {Rb : Nat → Rw} (h : MatI w w.heap.size A n len R) (hB : RowI w w.heap.size B nb Rb) (hcb : nb ≤ cb) :
    Calls Tryd.prog 9 #[.slice A n ca, .slice B nb cb] w fun e w' => e = .returned (.bool true) ∧ Below w.heap.size w w' := by
  have HA := Lib.hid h
  have HB := Lib.hid hB
  have KL := Lib.hid (fun (W : World) (g : Nat) (hb : Below w.heap.size w W) (hc : W.cell? ⟨g, 0, none⟩ = some (.slice A n ca)) => large1 (cm := 1) h hb hc)
  have KV := Lib.hid (fun (W : World) (hb : Below w.heap.size w W) => vector_any (hB.kp (Kp.of_below hb)) hb.size hcb)
  clear h hB
  go_enter Tryd.func9, Tryd.ntmps9
  go_wp2_with (first | (go_at_call 11; (with_reducible refine (awake_any _).mono ?_); rintro e w1 ⟨rfl, hb1⟩; have hb1z := Below.size hb1; (try simp only [World.size_alloc, World.size_setCell, World.size_drew] at hb1z)) | fail)
  have hw1 : Below w.heap.size w (w1.alloc (.cells #[.slice A n ca] 22)) := hb1.alloc hb1.size _
  ((go_at_call 12; (with_reducible refine (KL.out _ _ hw1 (cell_new' rfl rfl)).mono ?_); rintro e w2 ⟨⟨bb, rfl, hbb⟩, hb2⟩; have hb2z := Below.size hb2; (try simp only [World.size_alloc, World.size_setCell, World.size_drew] at hb2z)))
  have hb12 : Below w.heap.size w w2 := hw1.trans (hb2.mono (by simp; omega))
  clear hw1 KL
  cases bb with
  | true =>
    clear hbb
    go_wp2_with (first | (go_at_call 11; (with_reducible refine (awake_any _).mono ?_); rintro e w3 ⟨rfl, hb3⟩; have hb3z := Below.size hb3; (try simp only [World.size_alloc, World.size_setCell, World.size_drew] at hb3z)) | fail)
    have hb13 := hb12.trans (hb3.mono hb12.size)
    go_ret
    exact ⟨rfl, hb13⟩
  | false =>
    have HS := Lib.hid (hbb rfl)
    clear hbb
    by_cases hc : codeM n len = 0
    · have KC := Lib.hid (check_any (ca := ca) (HA.out.at_below hb12) (by have := HS.out.le.1; omega) (fun i hi => by have := HS.out.le.2 i hi; omega))
      rw [hc, errM_0] at KC
      obtain ⟨hn7, hc7, hn0, hl0, h5, h6⟩ := HS.out.acc hc
      by_cases hnb : n = nb
      · subst hnb
        have hn1 : ((n : Int) == 0) = false := beq_eq_false_iff_ne.2 (by omega)
        go_wp2_with (first | (go_at_call 24; (with_reducible refine (KC.out).mono ?_); rintro e _ ⟨rfl, rfl⟩) | fail)
        ((go_at_call 13; (with_reducible refine (KV.out _ hb12).mono ?_); rintro e w3 ⟨⟨bv, rfl, hbv⟩, hb3⟩; have hb3z := Below.size hb3; (try simp only [World.size_alloc, World.size_setCell, World.size_drew] at hb3z)))
        have hb13 := hb12.trans (hb3.mono hb12.size)
        clear KV KC
        cases bv with
        | false =>
          clear hbv HS HA h5 h6 hc
          go_wp2_with (first | (go_at_call 11; (with_reducible refine (awake_any _).mono ?_); rintro e w4 ⟨rfl, hb4⟩; have hb4z := Below.size hb4; (try simp only [World.size_alloc, World.size_setCell, World.size_drew] at hb4z)) | fail)
          have hb14 := hb13.trans (hb4.mono hb13.size)
          go_ret
          exact ⟨rfl, hb14⟩
        | true =>
          have HV := Lib.hid (hbv rfl)
          clear hbv
          obtain ⟨M, hM⟩ : ∃ M : Mf, M = fun i k => valR (R i k) := ⟨_, rfl⟩
          obtain ⟨y, hy⟩ : ∃ y : Nat → Rat, y = fun i => valR (Rb i) := ⟨_, rfl⟩
          obtain ⟨c, hcl⟩ : ∃ c, c = len 0 := ⟨_, rfl⟩
          have KSo := Lib.hid (HS.out.solP (ca := ca) (cb := cb) HV.out hc (HA.out.at_below hb13) (HB.out.at_below hb13))
          have KK := Lib.hid (fun W (hb : Below w.heap.size w W) => HS.out.kerP (ca := ca) hc (HA.out.at_below hb))
          have KR := Lib.hid (fun W (hb : Below w.heap.size w W) => HS.out.rankP (ca := ca) hc (HA.out.at_below hb))
          have KW := Lib.hid (fun W Aw dw (hm : MatI W W.heap.size Aw n (fun _ => c + 1) (wideR R Rb c)) => wide_rankP (ca := dw) hm hn0 hn7 (by omega) (fun i k hi hk => h6 i k hi (by omega)) HV.out.2)
          have HSM := Lib.hid (fun i k (hi : i < n) (hk : k < c) => (by rw [hM]; exact HA.out.sz (m := 0) HS.out hi (by rw [h5 i hi, ← hcl]; exact hk) : Sz 3 (M i k)))
          have HSY := Lib.hid (fun i (hi : i < n) => (by rw [hy]; exact HB.out.sz HV.out hi : Sz 3 (y i)))
          have HSS := Lib.hid (gj_sz (n := n) (M := wide M y c) (c := c + 1) (show 1 ≤ 3 by omega) (fun i k hi hk => by
            unfold wide
            by_cases e : k < c
            · rw [if_pos e]; exact HSM.out i k hi e
            · rw [if_neg e]; exact HSY.out i hi) (c + 1) (Nat.le_refl _))
          have hGL := gl37 (show c + 1 ≤ 8 by omega)
          have HG := Lib.hid (gl_pos (L := 3) (by omega) (c + 1))
          have hB3 : 3 ≤ gl 3 (c + 1) := by have := gl_mono (L := 3) (Nat.zero_le (c + 1)); rwa [gl_0] at this
          obtain ⟨B, hBe⟩ : ∃ B, B = gl 3 (c + 1) := ⟨_, rfl⟩
          rw [← hBe] at HSS hGL HG hB3
          clear hBe
          have KA := Lib.hid (fun W Bx cb (f : Nat → Rat) (hb : Below w.heap.size w W) (hr : RowI W W.heap.size Bx c (can f)) (hf : ∀ k, k < c → Sz B (f k)) => (by
            have := apply_any (ca := ca) (cb := cb) (L := B) (HA.out.at_below hb) hr hc hcl.symm (fun i k hi hk => by have := h6 i k hi (by omega); omega) (fun i k hi hk => HA.out.ok hi (by rw [h5 i hi]; omega)) (fun i hi => Sz_canR (hf i hi)) (fun i hi => canR_ok _) HG.out (by omega)
            rw [show (fun i => dotS (fun k => valR (R i k)) (fun k => valR (can f k)) c) = fun i => dotS (M i) f c by
              funext i
              rw [hM]
              exact dotS_congr (fun _ _ => rfl) fun k _ => valR_canR _] at this
            exact this : Calls Tryd.prog 34 #[.slice A n ca, .slice Bx c cb] W fun e w' => RetA W.heap.size n (fun i => dotS (M i) f c) e w' ∧ Below W.heap.size W w'))
          have HKI := Lib.hid (codeS_kinds n c M y)
          have HSQ := Lib.hid (fun h1 h2 => solve_eq (n := n) (c := c) (M := M) (y := y) h1 h2)
          have HCN := Lib.hid (kernel_count n c M)
          have hrn : (gj n M c).2.length ≤ n := (gj_len_le c).2
          have HYB := Lib.hid (fun i (hi : i < n) => HV.out.2 i hi)
          have HYV := Lib.hid (fun i => (by rw [hy] : valR (Rb i) = y i))
          unfold RetKer at KK
          rw [← hM, ← hcl] at KK KR
          rw [← hM, ← hy] at KW
          rw [← hM, ← hy, ← hcl] at KSo
          unfold RetSo SolRes at KSo
          obtain ⟨b, off, A0, c0, rfl, hc0, -⟩ := HA.out.at0 hn0
          rw [← hcl] at hc0 hl0 hc7
          have HC0 := Lib.hid hc0
          have HL := Lib.hid (fun i hi => (h5 i hi).trans hcl.symm)
          clear HSM HSY h5 h6 hM hy hcl hc HS HV hc0
          obtain ⟨S, hS⟩ : ∃ S, S = (gj n (wide M y c) (c + 1)).1 := ⟨_, rfl⟩
          obtain ⟨r2, hr2⟩ : ∃ r2, r2 = (gj n (wide M y c) (c + 1)).2.length := ⟨_, rfl⟩
          obtain ⟨r, hr⟩ : ∃ r, r = (gj n M c).2.length := ⟨_, rfl⟩
          obtain ⟨fl, hfl⟩ : ∃ fl, fl = (fre (gj n M c).2 c).length := ⟨_, rfl⟩
          obtain ⟨q, hq⟩ : ∃ q, q = codeS n c (wide M y c) := ⟨_, rfl⟩
          rw [← hS] at HSS KSo HSQ
          rw [← hr2] at HKI HSQ KW
          rw [← hr] at HKI HSQ HCN KR hrn
          rw [← hfl] at HKI HCN KK
          rw [← hq] at HKI KSo
          clear hS hr2 hr hfl hq
          go_wp2_with fail
          ((go_at_call 14; (with_reducible refine (KSo.out).mono ?_); rintro e w4 ⟨⟨X, Z, rfl, hsol⟩, hb4⟩; have hb4z := Below.size hb4; (try simp only [World.size_alloc, World.size_setCell, World.size_drew] at hb4z)))
          have hb14 := hb13.trans (hb4.mono hb13.size)
          have HSO := Lib.hid hsol
          clear hsol KSo
          go_wp2
          go_loopw [7, 56] (fun a i wr => ∃ k A d, k ≤ n ∧ i = .int .i64 (k : Int) ∧ a = .slice A k d ∧ MatW wr w4.heap.size A d k (fun _ => c + 1) (wideR R Rb c) ∧ Below w4.heap.size w4 wr) (fun _ i _ => n - (intOf i).toNat)
          case atStart => exact ⟨0, none, 0, Nat.zero_le _, rfl, rfl, MatW.nil_ _ _ _ _, Below.refl _ _⟩
          case round =>
            obtain ⟨k, A2, d2, hk, rfl, rfl, own, hb5⟩ := hrel
            have hb5z := hb5.size
            have h14 := hb14.size
            have hbw := hb14.trans (hb5.mono h14)
            by_cases hkn : k < n
            · obtain ⟨x1, x2, Ai, ci, e1, _, ha0, hlc, hrow⟩ := HA.out.at_ hkn
              obtain ⟨rfl, rfl⟩ : x1 = b ∧ x2 = off := by injection e1 with e1; injection e1 with e1 e2; exact ⟨e1.symm, e2.symm⟩
              rw [HL.out k hkn] at ha0 hlc hrow
              have ha1 := (hbw.cell (lt_of_cell ha0)).trans ha0
              obtain ⟨ax, ox, _, _, _, _, _, _, _, rfl, hax, _, _, _, _⟩ := hrow.ra.at_ hl0
              obtain ⟨bB, oB, s1, A1, n1, c1, B1, m1, d1, rfl, hbB, f0, f1, f2, r1⟩ := HB.out.ra.at_ hkn
              have tc : ∀ {b o : Nat} {v : Value}, w.cell? ⟨b, o, none⟩ = some v → wr.cell? ⟨b, o, none⟩ = some v := fun h => (hbw.cell (lt_of_cell h)).trans h
              have hf0 := tc f0
              have hf1 := tc f1
              have hf2 := tc f2
              have HRW := Lib.hid ((hrow.kp (Kp.of_below hbw)).ra.base h14)
              have HRB := Lib.hid ((r1.kp (Kp.of_below hbw)).base h14)
              have HMW := Lib.hid own
              have hbB4 : bB < w4.heap.size := by omega
              have HWC : Hid (∀ j, j < c + 1 → upd (R k) c (Rb k) j = wideR R Rb c k j) := fun j hj => by
                unfold upd wideR
                by_cases e : j = c
                · rw [if_pos e, if_neg (by omega)]
                · rw [if_neg e, if_pos (by omega)]
              clear own tc f0 f1 f2 r1 hrow ha0 e1
              have hk0 : (0 : Int) ≤ (k : Int) := by omega
              have hk1 : (k : Int) < (n : Int) := by omega
              have hbBl : bB < wr.heap.size := by have := hbw.size; omega
              go_wp2
              go_region_held3 (fun W => W.cell? ⟨bB, oB + k * 3, none⟩ = some (.bool s1) ∧ W.cell? ⟨bB, oB + k * 3 + 1, none⟩ = some (.slice A1 n1 c1) ∧ W.cell? ⟨bB, oB + k * 3 + 2, none⟩ = some (.slice B1 m1 d1)) (go_keep)
                (first
                  | (refine step_appRow0 (by rfl) (.tmp 62) (.tmp 63) (by rfl) w4.heap.size _ _ (R k) (by rfl) (by first | exact OwR.empty (by first | exact hb5z | omega | (simp <;> omega)) | exact (OwR.empty (w := wr) (by first | exact hb5z | omega | (simp <;> omega))).below (by (skip); repeat' (first | (with_reducible exact Below.refl _ _) | (with_reducible assumption) | (with_reducible refine Below.alloc ?_ ?_ _) | (with_reducible refine Below.drew ?_) | (with_reducible refine below_drewN ?_ _) | (with_reducible refine Below.setCell ?_ ?_ _) | (with_reducible refine Below.trans ?_ (Below.mono (by with_reducible assumption) ?_)) | omega | (simp only [World.size_alloc, World.size_setCell, World.size_drew, size_drewN']; omega) | go_size)) | exact (OwR.empty' (w := wr.alloc (.cells #[.bool s1, .slice A1 n1 c1, .slice B1 m1 d1] 37)) (by first | exact hb5z | omega | (simp <;> omega)) (by simp)).below (by (skip); repeat' (first | (with_reducible exact Below.refl _ _) | (with_reducible assumption) | (with_reducible refine Below.alloc ?_ ?_ _) | (with_reducible refine Below.drew ?_) | (with_reducible refine below_drewN ?_ _) | (with_reducible refine Below.setCell ?_ ?_ _) | (with_reducible refine Below.trans ?_ (Below.mono (by with_reducible assumption) ?_)) | omega | (simp only [World.size_alloc, World.size_setCell, World.size_drew, size_drewN']; omega) | go_size))) ⟨ax, ox, none⟩ c ci (R k) (by rfl) (HRW.out.below (by (skip); repeat' (first | (with_reducible exact Below.refl _ _) | (with_reducible assumption) | (with_reducible refine Below.alloc ?_ ?_ _) | (with_reducible refine Below.drew ?_) | (with_reducible refine below_drewN ?_ _) | (with_reducible refine Below.setCell ?_ ?_ _) | (with_reducible refine Below.trans ?_ (Below.mono (by with_reducible assumption) ?_)) | omega | (simp only [World.size_alloc, World.size_setCell, World.size_drew, size_drewN']; omega) | go_size))) hl0 (by omega) (by first | exact hb5z | omega | (simp <;> omega)) ?_; intro g4 cap4 w5 hown5 hgrow5 hfr5; have hb55 : Below wr.heap.size wr w5 := (show Below wr.heap.size wr _ from (by (skip); repeat' (first | (with_reducible exact Below.refl _ _) | (with_reducible assumption) | (with_reducible refine Below.alloc ?_ ?_ _) | (with_reducible refine Below.drew ?_) | (with_reducible refine below_drewN ?_ _) | (with_reducible refine Below.setCell ?_ ?_ _) | (with_reducible refine Below.trans ?_ (Below.mono (by with_reducible assumption) ?_)) | omega | (simp only [World.size_alloc, World.size_setCell, World.size_drew, size_drewN']; omega) | go_size))).trans (below_of_row hgrow5 (fun q hq => by injection hq with hq; subst hq; first | exact Nat.le_refl _ | (simp <;> omega)) (by first | omega | (simp <;> omega))); have hx5 := fun o => below_at hb55 bB o hbBl; have hz55 := hb55.size; have hg4 : wr.heap.size ≤ g4 := hfr5.elim (fun h => by injection h with h; subst h; first | exact Nat.le_refl _ | (simp <;> omega)) (fun h => by first | omega | (simp at h <;> omega)))
                  | (refine step_appR (by rfl) (.tmp 64) (.tmp 69) (by rfl) w4.heap.size _ _ c (R k) (by rfl) (by first | exact hown5 | exact hown5.below ((Below.refl _ _).alloc (Nat.le_refl _) _)) _ s1 A1 n1 c1 B1 m1 d1 (Rb k) (by rfl) (by first | (simp; done) | (rw [hgrow5.cell_far ⟨wr.heap.size + 1, 0, none⟩ (by simp <;> omega) (by simp [Value.ownBlock])]; simp; done) | (rw [hgrow5.cell_far ⟨wr.heap.size, 0, none⟩ (by simp <;> omega) (by simp [Value.ownBlock])]; simp; done)) (by first | (simp; done) | (rw [hgrow5.cell_far ⟨wr.heap.size + 1, 1, none⟩ (by simp <;> omega) (by simp [Value.ownBlock])]; simp; done) | (rw [hgrow5.cell_far ⟨wr.heap.size, 1, none⟩ (by simp <;> omega) (by simp [Value.ownBlock])]; simp; done)) (by first | (simp; done) | (rw [hgrow5.cell_far ⟨wr.heap.size + 1, 2, none⟩ (by simp <;> omega) (by simp [Value.ownBlock])]; simp; done) | (rw [hgrow5.cell_far ⟨wr.heap.size, 2, none⟩ (by simp <;> omega) (by simp [Value.ownBlock])]; simp; done)) (HRB.out.kp (Kp.of_below (by have z0 := Below.size hb55; (try simp only [World.size_alloc, World.size_setCell, World.size_drew, size_drewN'] at z0 ⊢; skip); repeat' (first | (with_reducible exact Below.refl _ _) | (with_reducible assumption) | (with_reducible refine Below.alloc ?_ ?_ _) | (with_reducible refine Below.drew ?_) | (with_reducible refine below_drewN ?_ _) | (with_reducible refine Below.setCell ?_ ?_ _) | (with_reducible refine Below.trans ?_ (Below.mono (by with_reducible assumption) ?_)) | omega | (simp only [World.size_alloc, World.size_setCell, World.size_drew, size_drewN']; omega) | go_size)))) (by omega) (by first | exact hb5z | omega | (simp <;> omega)) ?_; intro g5 cap5 w6 hown6 hgrow6 hfr6; have hb56 : Below wr.heap.size wr w6 := (show Below wr.heap.size wr _ from (by have z0 := Below.size hb55; (try simp only [World.size_alloc, World.size_setCell, World.size_drew, size_drewN'] at z0 ⊢; skip); repeat' (first | (with_reducible exact Below.refl _ _) | (with_reducible assumption) | (with_reducible refine Below.alloc ?_ ?_ _) | (with_reducible refine Below.drew ?_) | (with_reducible refine below_drewN ?_ _) | (with_reducible refine Below.setCell ?_ ?_ _) | (with_reducible refine Below.trans ?_ (Below.mono (by with_reducible assumption) ?_)) | omega | (simp only [World.size_alloc, World.size_setCell, World.size_drew, size_drewN']; omega) | go_size))).trans (below_of_row hgrow6 (fun q hq => by have hq2 : g4 = q := (by injection hq); omega) (by first | omega | (simp <;> omega))); have hx6 := fun o => below_at hb56 bB o hbBl; have hz56 := hb56.size)
                  | (refine step_appW (by rfl) (.tmp 61) (.tmp 71) (by rfl) w4.heap.size A2 d2 k (fun _ => c + 1) (wideR R Rb c) (by rfl) (HMW.out.below (by have z0 := Below.size hb56; (try simp only [World.size_alloc, World.size_setCell, World.size_drew, size_drewN'] at z0 ⊢; skip); repeat' (first | (with_reducible exact Below.refl _ _) | (with_reducible assumption) | (with_reducible refine Below.alloc ?_ ?_ _) | (with_reducible refine Below.drew ?_) | (with_reducible refine below_drewN ?_ _) | (with_reducible refine Below.setCell ?_ ?_ _) | (with_reducible refine Below.trans ?_ (Below.mono (by with_reducible assumption) ?_)) | omega | (simp only [World.size_alloc, World.size_setCell, World.size_drew, size_drewN']; omega) | go_size))) _ (by rfl) (some ⟨g5, 0, none⟩) cap5 (by simp) ((hown6.congr HWC.out).below ((Below.refl _ _).alloc (Nat.le_refl _) _)) (by omega) (by first | exact hb5z | omega | (simp <;> omega)) ?_; intro A9 d9 w7 own9 hb79; have hx7 := fun o => hb79.cell (p := ⟨bB, o, none⟩) hbB4; have hb57 : Below w4.heap.size wr w7 := Below.trans (show Below w4.heap.size wr _ from (hb56.mono hb5z).alloc (by omega) _) hb79)
                  | fail)
              all_goals
                go_wp2
                go_roundw
                case rel => exact ⟨k + 1, A9, d9, by omega, by go_num, rfl, own9, hb5.trans hb57⟩
                case measure => simp [intOf]; omega
            · have hkn2 : k = n := by omega
              subst hkn2
              have HMW := Lib.hid own
              clear own
              obtain ⟨w5, hw5⟩ : ∃ w5, w5 = wr := ⟨_, rfl⟩
              subst hw5
              go_wp2_with fail
              ((go_at_call 31; (with_reducible refine (KK.out _ hbw).mono ?_); rintro e w6 ⟨⟨Ak, dk, rfl, mk⟩, hb6⟩; have hb6z := Below.size hb6; (try simp only [World.size_alloc, World.size_setCell, World.size_drew] at hb6z)))
              have hb16 := hbw.trans (hb6.mono hbw.size)
              clear mk KK
              go_wp2_with fail
              ((go_at_call 30; (with_reducible refine (KR.out _ hb16).mono ?_); rintro e w7 ⟨rfl, hb7⟩; have hb7z := Below.size hb7; (try simp only [World.size_alloc, World.size_setCell, World.size_drew] at hb7z)))
              have hb17 := hb16.trans (hb7.mono hb16.size)
              have hb57 : Below w5.heap.size w5 w7 := hb6.trans (hb7.mono hb6.size)
              clear KR
              go_wp2_with fail
              ((go_at_call 30; (with_reducible refine (KW.out _ _ _ ((HMW.out.below hb57).mi (by have := hb57.size; omega))).mono ?_); rintro e w8 ⟨rfl, hb8⟩; have hb8z := Below.size hb8; (try simp only [World.size_alloc, World.size_setCell, World.size_drew] at hb8z)))
              have hb18 := hb17.trans (hb8.mono hb17.size)
              have h48 : Below w4.heap.size w4 w8 := hb5.trans ((hb57.mono hb5z).trans (hb8.mono (by have := hb57.size; omega)))
              clear KW HMW
              have hsum : ((fl : Int) + (r : Int) == (c : Int)) = true := by
                have := HCN.out
                rw [beq_iff_eq]; omega
              have hsum2 : ((fl : Int) + (r : Int) != (c : Int)) = false := by
                have := HCN.out
                rw [bne_eq_false_iff_eq]; omega
              have hsum3 : (fl : Int) + (r : Int) = (c : Int) := by have := HCN.out; omega
              have hsum4 : ((fl + r : Nat) : Int) = (c : Int) := by have := HCN.out; omega
              have hc8 : w8.cell? ⟨b, off, none⟩ = some (.slice A0 c c0) := (hb18.cell (lt_of_cell HC0.out)).trans HC0.out
              have hki := HKI.out
              have hso := HSO.out
              clear HKI HSO
              rcases hki with ⟨q1, q2⟩ | ⟨q1, q2, q3⟩ | ⟨q1, q2, q3, q4⟩
              · subst q1 q2
                rcases hso with ⟨h0, _⟩ | ⟨_, rfl, rfl⟩
                · omega
                · rw [errM_n (by omega)]
                  clear HCN
                  go_wp2_with (first | (go_at_call 20; (with_reducible refine (is_eq _ _).mono ?_); rintro e _ ⟨rfl, rfl⟩) | fail)
                  go_ret
                  exact ⟨by simp, hb18⟩
              · subst q1 q2
                rcases hso with ⟨h0, _⟩ | ⟨_, rfl, rfl⟩
                · omega
                · rw [errM_n (by omega)]
                  clear HCN
                  have hf0 : decide (0 < fl) = true := decide_eq_true q3
                  go_wp2_with (first | (go_at_call 20; (with_reducible refine (is_eq _ _).mono ?_); rintro e _ ⟨rfl, rfl⟩) | (go_at_call 20; (with_reducible refine (is_ne (by omega) _).mono ?_); rintro e _ ⟨rfl, rfl⟩) | fail)
                  go_ret
                  exact ⟨by simp, hb18⟩
              · subst q1 q2 q3 q4
                rcases hso with ⟨_, A8, d8, rfl, rfl, ownx⟩ | ⟨h0, _⟩
                · have HFX := Lib.hid (ownx.below h48)
                  have KAx := Lib.hid (KA.out w8 A8 d8 (fun i => S i r2) hb18 (HFX.out.ri (by have := h48.size; omega)) (fun k hk => HSS.out k r2 (by omega) (by omega)))
                  have HQ := Lib.hid (HSQ.out rfl rfl)
                  clear ownx KA HSQ HFX
                  go_wp2_with (first | ((go_at_call 34; (with_reducible refine (KAx.out).mono ?_); rintro e w9 ⟨⟨Ay, dy, rfl, own9⟩, hb9⟩; have hb9z := Below.size hb9; (try simp only [World.size_alloc, World.size_setCell, World.size_drew] at hb9z))) | fail)
                  have HY := Lib.hid (own9.congr (U := can y) (fun i hi => by show canR (dotS (M i) _ r2) = canR (y i); rw [HQ.out i hi]))
                  have hb19 := hb18.trans (hb9.mono hb18.size)
                  clear own9 KAx
                  go_loopw [161] (fun s wr => ∃ i : Nat, i ≤ k ∧ s = .int .i64 i ∧ Below w9.heap.size w9 wr) (fun s _ => k - (intOf s).toNat)
                  case atStart => exact ⟨0, Nat.zero_le _, rfl, Below.refl _ _⟩
                  case round =>
                    obtain ⟨i, hi, rfl, hb10⟩ := hrel
                    have hb10z := hb10.size
                    have hbw2 := hb19.trans (hb10.mono hb19.size)
                    by_cases hik : i < k
                    · obtain ⟨yb, yo, s1, A1, n1, c1, B1, m1, d1, rfl, hyb, f0, f1, f2, r1⟩ := HY.out.ra.at_ hik
                      obtain ⟨bB, oB, s2, A2', n2, c2, B2, m2, d2', rfl, hbB, g0, g1, g2, r3⟩ := HB.out.ra.at_ hik
                      have hf0 := (hb10.cell (lt_of_cell f0)).trans f0
                      have hf1 := (hb10.cell (lt_of_cell f1)).trans f1
                      have hf2 := (hb10.cell (lt_of_cell f2)).trans f2
                      have hg0 := (hbw2.cell (lt_of_cell g0)).trans g0
                      have hg1 := (hbw2.cell (lt_of_cell g1)).trans g1
                      have hg2 := (hbw2.cell (lt_of_cell g2)).trans g2
                      have hsy : Sz 3 (y i) := by rw [← HYV.out i]; exact Sz_valR (HB.out.ra.ok hik) (by omega) (HYB.out i hik).1 (HYB.out i hik).2
                      have q1 := RdS.canQ (q := y i) (r1.kp (Kp.of_below hb10)) hsy
                      have q2 := (r3.kp (Kp.of_below hbw2)).rdq (HYB.out i hik).1 (HYB.out i hik).2
                      rw [HYV.out i] at q2
                      have K1 := Lib.hid (fun W (hb : Below wr.heap.size wr W) => (by
                        have := cmpQ (q1.below hb) (q2.below hb) (by omega) (by omega)
                        rw [Rat.sub_self, show sgnQ 0 = 0 from rfl] at this
                        exact this : Calls Tryd.prog 28 #[rv s1 A1 n1 c1 B1 m1 d1, rv s2 A2' n2 c2 B2 m2 d2'] W fun e w' => e = .returned (.int .i64 0) ∧ Below W.heap.size W w'))
                      have hi0 : (0 : Int) ≤ (i : Int) := by omega
                      have hi1 : (i : Int) < (k : Int) := by omega
                      clear q1 q2 f0 f1 f2 g0 g1 g2 r1 r3 hsy
                      go_wp2
                      go_region_held3 (fun W => W.cell? ⟨yb, yo + i * 3, none⟩ = some (.bool s1) ∧ W.cell? ⟨yb, yo + i * 3 + 1, none⟩ = some (.slice A1 n1 c1) ∧ W.cell? ⟨yb, yo + i * 3 + 2, none⟩ = some (.slice B1 m1 d1) ∧ W.cell? ⟨bB, oB + i * 3, none⟩ = some (.bool s2) ∧ W.cell? ⟨bB, oB + i * 3 + 1, none⟩ = some (.slice A2' n2 c2) ∧ W.cell? ⟨bB, oB + i * 3 + 2, none⟩ = some (.slice B2 m2 d2')) (go_keep)
                        (first | (go_at_call 28; (with_reducible refine (K1.out _ (by (skip); repeat' (first | (with_reducible exact Below.refl _ _) | (with_reducible assumption) | (with_reducible refine Below.alloc ?_ ?_ _) | (with_reducible refine Below.drew ?_) | (with_reducible refine below_drewN ?_ _) | (with_reducible refine Below.setCell ?_ ?_ _) | (with_reducible refine Below.trans ?_ (Below.mono (by with_reducible assumption) ?_)) | omega | (simp only [World.size_alloc, World.size_setCell, World.size_drew, size_drewN']; omega) | go_size))).mono ?_); rintro e w10 ⟨rfl, hb11⟩; have hb11z := Below.size hb11; (try simp only [World.size_alloc, World.size_setCell, World.size_drew] at hb11z); have hb11c0 := fun o => below_at hb11 (yb) o (by first | omega | (simp only [World.size_alloc, World.size_setCell, World.size_drew]; omega)); have hb11f0 := fun o => below_fr hb11 (yb) o (by first | omega | (simp only [World.size_alloc, World.size_setCell, World.size_drew]; omega)); have hb11l0 : yb < (w10).heap.size := (by omega); have hb11c1 := fun o => below_at hb11 (bB) o (by first | omega | (simp only [World.size_alloc, World.size_setCell, World.size_drew]; omega)); have hb11f1 := fun o => below_fr hb11 (bB) o (by first | omega | (simp only [World.size_alloc, World.size_setCell, World.size_drew]; omega)); have hb11l1 : bB < (w10).heap.size := (by omega)) | fail)
                      all_goals
                        have hb12' : Below wr.heap.size wr w10 := (by have z0 := Below.size hb11; (try simp only [World.size_alloc, World.size_setCell, World.size_drew, size_drewN'] at z0 ⊢; skip); repeat' (first | (with_reducible exact Below.refl _ _) | (with_reducible assumption) | (with_reducible refine Below.alloc ?_ ?_ _) | (with_reducible refine Below.drew ?_) | (with_reducible refine below_drewN ?_ _) | (with_reducible refine Below.setCell ?_ ?_ _) | (with_reducible refine Below.trans ?_ (Below.mono (by with_reducible assumption) ?_)) | omega | (simp only [World.size_alloc, World.size_setCell, World.size_drew, size_drewN']; omega) | go_size))
                        have hb13' := hb10.trans (hb12'.mono hb10z)
                        go_wp2
                        go_roundw
                        case rel => exact ⟨i + 1, by omega, by go_num, hb13'⟩
                        case measure => simp [intOf]; omega
                    · have hik2 : i = k := by omega
                      subst hik2
                      go_wp2
                      go_ret
                      exact ⟨rfl, hbw2⟩
                · omega
      · have e1 : ((n : Int) == (nb : Int)) = false := beq_eq_false_iff_ne.2 (by omega)
        have e2 : ((n : Int) != (nb : Int)) = true := by rw [bne_iff_ne]; omega
        clear HS HA h5 h6 hc KV HB
        go_wp2_with (first | (go_at_call 24; (with_reducible refine (KC.out).mono ?_); rintro e _ ⟨rfl, rfl⟩) | (go_at_call 11; (with_reducible refine (awake_any _).mono ?_); rintro e w3 ⟨rfl, hb3⟩; have hb3z := Below.size hb3; (try simp only [World.size_alloc, World.size_setCell, World.size_drew] at hb3z)) | fail)
        have hb13 := hb12.trans (hb3.mono hb12.size)
        go_ret
        exact ⟨rfl, hb13⟩
    · have KC := Lib.hid (check_err (ca := ca) (HA.out.at_below hb12) (by have := HS.out.le.1; omega) (fun i hi => by have := HS.out.le.2 i hi; omega) rfl hc)
      generalize codeM n len = c at *
      clear HS HA KV HB
      go_wp2_with (first | (go_at_call 24; (with_reducible refine (KC.out).mono ?_); rintro e _ ⟨rfl, rfl⟩) | (go_at_call 11; (with_reducible refine (awake_any _).mono ?_); rintro e w3 ⟨rfl, hb3⟩; have hb3z := Below.size hb3; (try simp only [World.size_alloc, World.size_setCell, World.size_drew] at hb3z)) | fail)
      have hb13 := hb12.trans (hb3.mono hb12.size)
      go_ret
      exact ⟨rfl, hb13⟩
end Go.Proofs.YtnljncncnohncaaDoor
