/- Contracts of functions and lemmas, used by the proofs of the given statements. No condition beyond those that each lemma names. -/
import Derived.Test.YtlncafhgmbhocaaGreatDoorJLmW1
import Derived.Test.YtlncafhgmbhocaaGreatDoorJTrZ
import Derived.Test.YtlncafhgmbhocaaGreatDoorJLawTr
namespace Go.Proofs.YtlncafhgmbhocaaGreatDoor
open Go.RowKit
set_option linter.unusedSimpArgs false
set_option linter.unusedVariables false
set_option maxRecDepth 20000
/-! ## package lump: sums -/
section
variable {nm n P : Nat} {q : Nat → Rat} {F T p : Nat → Nat}
theorem smK_fz (h : Rts nm q P) (i j : Nat) : ∀ k, k ≤ nm → Fz P (k * (4294967296 * P)) (smK F T q p k i j)
  | 0, _ => (Fz.zero P).le (by omega)
  | k + 1, hk => by
    have ih := smK_fz h i j k (by omega)
    have hq := h.fz k (by omega)
    have e : (k + 1) * (4294967296 * P) = k * (4294967296 * P) + 4294967296 * P := by rw [Nat.add_mul]; omega
    rw [e]
    show Fz P _ (if p (T k) ≠ p (F k) ∧ i = F k ∧ j = p (T k) then smK F T q p k i j + q k else smK F T q p k i j)
    split
    · exact ih.add hq
    · exact ih.le (by omega)
theorem smK_sz (h : Rts nm q P) (i j : Nat) {k : Nat} (hk : k ≤ nm) : Sz 20 (smK F T q p k i j) := by
  refine (smK_fz h i j k hk).sz h.ne (by omega) (lt_wp_more h.lt (by omega)) ?_
  have h1 : k * 4294967296 < wp 2 := Nat.lt_of_le_of_lt (Nat.mul_le_mul_right _ (by have := h.few; omega)) wp2b
  have := wp_mul_lt h1 h.lt
  rw [Nat.mul_assoc] at this
  exact lt_wp_more this (by omega)
end
attribute [local irreducible] nv wp win plainB validR valR canR mvE chkM codeC smK
set_option maxHeartbeats 16000000 in
theorem lsumsG_any {w : World} {AM AD AV : Option Addr} {cm cd ca : Nat} {c : Chn} {P' : Nat → Int} {p : Nat → Nat} (h : ChI w w.heap.size AM cm AD cd c) (ok : c.Ok) (hs : ChS c 400) (hv : PaI w AV c.nd P') (hp : ∀ i, i < c.nd → P' i = (p i : Int)) (hpl : ∀ i, i < c.nd → p i < c.nd)
    (hsz : ∀ k, k ≤ c.nm → ∀ i j, Sz 400 (smK c.f c.t c.q p k i j)) :
    Calls Tryz.prog 41 #[cv c.st c.sr AM c.nm cm AD c.nd cd, .slice AV c.nd ca] w fun e w' => (e = .returned (.slice (some ⟨w.heap.size + 1, 0, none⟩) c.nd c.nd) ∧ MatG w' (w.heap.size + 1) (w.heap.size + 1) c.nd c.nd (fun _ => c.nd) (smK c.f c.t c.q p c.nm)) ∧ Below w.heap.size w w' := by
  have HMV := Lib.hid (fun W hb k hk => h.mv_later (W := W) ok hb (k := k) hk)
  have hnm := hs.nm
  have hn1 := ok.lo
  have hn2 := ok.hi
  have hst := ok.st
  have HSQ := Lib.hid (fun k hk => (hs.siz ok).raw k hk)
  have HV := Lib.hid (hv.congr hp)
  obtain ⟨P, hP⟩ : ∃ P : Nat → Mf, P = smK c.f c.t c.q p := ⟨_, rfl⟩
  have HSP : Hid (∀ k, k ≤ c.nm → ∀ a b, Sz 400 (P k a b)) := by rw [hP]; exact hsz
  have HP0 : Hid (P 0 = fun _ _ => 0) := by show P 0 = fun _ _ => 0; rw [hP]; unfold smK; rfl
  have HPN : Hid (∀ k, p (c.t k) = p (c.f k) → P (k + 1) = P k) := by rw [hP]; exact fun k e => smK_same e
  have HPY : Hid (∀ k, p (c.t k) ≠ p (c.f k) → P (k + 1) = upd (P k) (c.f k) (upd (P k (c.f k)) (p (c.t k)) (P k (c.f k) (p (c.t k)) + c.q k))) := by rw [hP]; exact fun k e => smK_new e
  have HPL := Lib.hid hpl
  rw [← hP]
  obtain ⟨bp, op, rfl, hbp, -⟩ := HV.out.later (k := 0) (Below.refl _ _) (by omega)
  have hmk := fun W (hb : Below w.heap.size w W) i (hi : i < c.nd) => (by
    obtain ⟨bd, od, e, -, x⟩ := HV.out.later hb hi
    cases e
    exact x : W.cell? ⟨bp, op + i, none⟩ = some (.int .i64 ((p i : Nat) : Int)))
  have HL := Lib.hid hmk
  obtain ⟨sr, hsr⟩ : ∃ sr, sr = c.sr := ⟨_, rfl⟩
  rw [← hsr, hst]
  clear hP hmk h hst hsr ok hs hv hp hpl hsz HV
  have HPC := Lib.hid (fun W hb => par_cells (W := W) (w := w) (a := .int .i64 (c.nd : Int)) (b := .int .i64 sr) (d := .slice AM c.nm cm) (e := .slice AD c.nd cd) (t := 25) hb)
  have HPB := Lib.hid (fun W hb => par_below (W := W) (w := w) (o := .cells #[.int .i64 (c.nd : Int), .int .i64 sr, .slice AM c.nm cm, .slice AD c.nd cd] 25) hb)
  have hW0z : (w.alloc (.cells #[.int .i64 (c.nd : Int), .int .i64 sr, .slice AM c.nm cm, .slice AD c.nd cd] 25)).heap.size = w.heap.size + 1 := by simp
  have HW0 := Lib.hid (Below.refl (w.heap.size + 1) (w.alloc (.cells #[.int .i64 (c.nd : Int), .int .i64 sr, .slice AM c.nm cm, .slice AD c.nd cd] 25)))
  go_enter Tryz.func41, Tryz.ntmps41
  go_wp2_with (first | (at_make; refine wpList_makeM rfl (.tmp 11) (.tmp 11) rfl (w.heap.size + 1) c.nd (fun _ _ => 0) (c.nd : Int) (c.nd : Int) (by first | rfl | simp [Act.eval]) (by first | rfl | simp [Act.eval]) rfl rfl (by omega) (by simp) ?_; intro w3 own3 hb3) | fail)
  rw [hW0z] at own3 hb3
  have own4 := own3.congr (len' := fun j => if j < 0 then c.nd else 0) (M' := fun _ _ => 0) (fun i _ => by simp) (fun i k _ hk => rfl)
  have HO3 := Lib.hid own4
  have HB3 := Lib.hid hb3
  clear own3 own4 hb3
  generalize w.alloc (.cells #[.int .i64 (c.nd : Int), .int .i64 sr, .slice AM c.nm cm, .slice AD c.nd cd] 25) = W0 at *
  go_loopw [15] (fun i wr => ∃ k : Nat, k ≤ c.nd ∧ i = .int .i64 (k : Int) ∧ MatG wr (w.heap.size + 1) (w.heap.size + 1) c.nd c.nd (fun j => if j < k then c.nd else 0) (fun _ _ => 0) ∧ Below (w.heap.size + 1) W0 wr) (fun i _ => c.nd - (intOf i).toNat)
  case atStart => exact ⟨0, Nat.zero_le _, rfl, HO3.out, HB3.out⟩
  case round =>
    clear HO3 HB3
    obtain ⟨i, hi, rfl, own, hb⟩ := hrel
    have hbz2 := hb.size
    have holt := own.lt
    by_cases hlt : i < c.nd
    · obtain ⟨A9, c9, hX⟩ := own.row i
      have hcell := hX.cell hlt
      have hfz := own.frozen
      simp only [Nat.lt_irrefl, if_false] at hcell
      obtain ⟨y0, -, -, -⟩ := HPC.out _ hb
      have HX := Lib.hid hX
      have HB9 := Lib.hid hb
      have hi0 : (0 : Int) ≤ (i : Int) := by omega
      have hi1 : (i : Int) < (c.nd : Int) := by omega
      clear hX own hb
      go_wp2_with (first | (at_make; refine wpList_makeR rfl (.tmp 21) (.tmp 21) rfl (w.heap.size + 1) c.nd (c.nd : Int) (c.nd : Int) (by first | rfl | simp [Act.eval]) (by first | rfl | simp [Act.eval]) rfl rfl (by omega) (by omega) ?_; intro w5 own5 hb5; (have hcell5 := (hb5.cell (p := ⟨w.heap.size + 1, i, none⟩) holt).trans hcell); (have hfz5 := fun o => (below_fr hb5 (w.heap.size + 1) o holt))) | fail)
      have hp := HX.out.put' hlt (grown_of_below hb5 (Value.slice A9 0 c9).ownBlock) own5 (.inr (Nat.le_refl _)) (by omega)
      have hp1 := hp.1.congr (len' := fun j => if j < i + 1 then c.nd else 0) (M' := fun _ _ => 0) (fun j hj => by
        unfold upd
        by_cases e : j = i
        · subst e; simp
        · by_cases e2 : j < i
          · simp [e, e2, show j < i + 1 by omega]
          · simp [e, e2, show ¬ j < i + 1 by omega]) (fun j k hj hk => by unfold upd; by_cases e : j = i <;> simp [e])
      have HP9 := Lib.hid hp1
      have HPB9 := Lib.hid (HB9.out.trans hp.2.2)
      clear hp hp1 own5 hb5
      go_roundw
      case rel => exact ⟨i + 1, by omega, by go_num, HP9.out, HPB9.out⟩
      case measure => simp [intOf]; omega
    · have hkm : i = c.nd := by omega
      have own4 := own.congr (len' := fun _ => c.nd) (M' := P 0) (fun j hj => by simp [show j < i by omega]) (fun j k _ _ => by rw [HP0.out])
      have HO4 := Lib.hid own4
      have HB4 := Lib.hid hb
      obtain ⟨-, -, y2, -⟩ := HPC.out _ hb
      clear own own4 hb hkm
      go_wp2
      go_loopw [28] (fun j wr => ∃ k : Nat, k ≤ c.nm ∧ j = .int .i64 (k : Int) ∧ MatG wr (w.heap.size + 1) (w.heap.size + 1) c.nd c.nd (fun _ => c.nd) (P k) ∧ Below (w.heap.size + 1) W0 wr) (fun i _ => c.nm - (intOf i).toNat)
      case atStart => exact ⟨0, Nat.zero_le _, rfl, HO4.out, HB4.out⟩
      case round =>
        clear HO4 HB4 y2 holt hbz2
        obtain ⟨k, hk, rfl, own, hb⟩ := hrel
        have hz := hb.size
        have hol := own.lt
        have hbW := HPB.out _ hb
        by_cases hlt : k < c.nm
        · obtain ⟨bm, om, s1, A1, n1, c1, B1, m1, d1, rfl, hbm, g0, g1, g2, g3, g4, r1, hfn, htn, hft⟩ := HMV.out wr hbW k hlt
          have pf := HL.out wr hbW _ hfn
          have pt := HL.out wr hbW _ htn
          have hPN := HPN.out k
          have hPY := HPY.out k
          have hcl := HPL.out _ htn
          obtain ⟨q1, q2⟩ := HSQ.out k hlt
          have r1B := r1.base (b1 := w.heap.size + 1) (by omega)
          have qr : RdQ wr 400 (rv s1 A1 n1 c1 B1 m1 d1) (c.q k) := r1B.rdq (L := 400) q1 q2
          have hsk := HSP.out k hk
          obtain ⟨f, hf⟩ : ∃ f, f = c.f k := ⟨_, rfl⟩
          obtain ⟨tt, ht⟩ : ∃ tt, tt = c.t k := ⟨_, rfl⟩
          obtain ⟨q, hq⟩ : ∃ q, q = c.q k := ⟨_, rfl⟩
          rw [← hf] at g0 hfn hPN hPY hft pf
          rw [← ht] at g1 htn hPN hPY hft pt hcl
          rw [← hq] at hPY qr
          obtain ⟨x, hx⟩ : ∃ x, x = p f := ⟨_, rfl⟩
          obtain ⟨y, hy⟩ : ∃ y, y = p tt := ⟨_, rfl⟩
          rw [← hx] at pf hPN hPY
          rw [← hy] at pt hPN hPY hcl
          clear hf ht hq hx hy q1 q2 r1B
          have hki : (k : Int) < (c.nm : Int) := by omega
          have hk0 : (0 : Int) ≤ (k : Int) := by omega
          have hfi : (f : Int) < (c.nd : Int) := by omega
          have hf0 : (0 : Int) ≤ (f : Int) := by omega
          have hti : (tt : Int) < (c.nd : Int) := by omega
          have ht0 : (0 : Int) ≤ (tt : Int) := by omega
          have hyi : (y : Int) < (c.nd : Int) := by omega
          have hy0 : (0 : Int) ≤ (y : Int) := by omega
          have hbp2 : bp < wr.heap.size := by omega
          have HB5 := Lib.hid hb
          have HO := Lib.hid own
          clear own hb hbW
          (have occ := fun o i => below_at ((Below.refl wr.heap.size wr).alloc (Nat.le_refl _) o) (bp) i (by omega)); (have ocf := fun o i => below_fr ((Below.refl wr.heap.size wr).alloc (Nat.le_refl _) o) (bp) i (by omega))
          have hal : Below wr.heap.size wr (wr.alloc (.cells #[.int .i64 (f : Int), .int .i64 (tt : Int), .bool s1, .slice A1 n1 c1, .slice B1 m1 d1] 46)) := (Below.refl _ _).alloc (Nat.le_refl _) _
          have HAL := Lib.hid hal
          clear hal
          by_cases hxy : y = x
          · have HE := Lib.hid (hPN hxy)
            subst hxy
            have e1 : ((y : Int) != (y : Int)) = false := by simp
            clear hPN hPY qr r1
            go_wp2
            go_roundw
            case rel => exact ⟨k + 1, by omega, by go_num, by rw [HE.out]; exact HO.out.below HAL.out, HB5.out.trans (HAL.out.mono (by omega))⟩
            case measure => simp [intOf]; omega
          · have HE := Lib.hid (hPY hxy)
            have e1 : ((y : Int) != (x : Int)) = true := by simp; omega
            clear hPN hPY hxy
            go_wp2
            generalize hwq : wr.alloc (.cells #[.int .i64 (f : Int), .int .i64 (tt : Int), .bool s1, .slice A1 n1 c1, .slice B1 m1 d1] 46) = wq at *
            have hAL := HAL.out
            have z0 : wq.cell? ⟨wr.heap.size, 0, none⟩ = some (.int .i64 (f : Int)) := by rw [← hwq]; simp
            have z2 : wq.cell? ⟨wr.heap.size, 2, none⟩ = some (.bool s1) := by rw [← hwq]; simp
            have z3 : wq.cell? ⟨wr.heap.size, 3, none⟩ = some (.slice A1 n1 c1) := by rw [← hwq]; simp
            have z4 : wq.cell? ⟨wr.heap.size, 4, none⟩ = some (.slice B1 m1 d1) := by rw [← hwq]; simp
            have hwz : wq.heap.size = wr.heap.size + 1 := by rw [← hwq]; simp
            have qr2 := qr.below hAL
            obtain ⟨A9, c9, hX'⟩ := HO.out.row f
            obtain ⟨g, rfl⟩ := hX'.head hfn (by omega)
            have hgl := (hX'.own hfn).lt
            have hgb := (hX'.own hfn).block.1
            have hne : g ≠ w.heap.size + 1 := hX'.ne hfn rfl
            have hX := hX'.below hAL
            have hcell : wq.cell? ⟨w.heap.size + 1, f, none⟩ = some (.slice (some ⟨g, 0, none⟩) c.nd c9) := hX.cell hfn
            have hown : OwR wq (w.heap.size + 1) (some ⟨g, 0, none⟩) c9 c.nd (can (P k f)) := hX.own hfn
            obtain ⟨s0, A3, n3', c3', B3, m3, d3, o0, o1, o2, r0⟩ := hown.at_ hcl
            have qd := (show RdS wq _ _ (canR (P k f y)) from r0).canQ (hsk f y)
            have KA := Lib.hid (fun W (hb : Below wq.heap.size wq W) => addQ (qd.below hb) (qr2.below hb) (by omega) (by omega))
            have hfz := hown.frozen
            have HX := Lib.hid hX
            have HOn := Lib.hid hown
            have HAL2 := Lib.hid hAL
            clear hX hX' hown r0 qd hAL HAL hwq pt pf g0 g1 g2 g3 g4 occ ocf qr qr2 r1
            have ne1 : ¬ (w.heap.size + 1 = g) := fun e => hne e.symm
            have ne2 : ¬ (wr.heap.size = g) := by omega
            have ne3 : ¬ (g = wr.heap.size) := by omega
            rw [ld_later 44 (.tmp 56)]
            go_region_held3 (fun W => W.cell? ⟨w.heap.size + 1, f, none⟩ = some (.slice (some ⟨g, 0, none⟩) c.nd c9) ∧ W.cell? ⟨wr.heap.size, 0, none⟩ = some (.int .i64 (f : Int)) ∧ W.cell? ⟨wr.heap.size, 2, none⟩ = some (.bool s1) ∧ W.cell? ⟨wr.heap.size, 3, none⟩ = some (.slice A1 n1 c1) ∧ W.cell? ⟨wr.heap.size, 4, none⟩ = some (.slice B1 m1 d1)) (go_keep)
              (first | ((go_at_call 18; (with_reducible refine (KA.out _ (by (skip); repeat' (first | (with_reducible exact Below.refl _ _) | (with_reducible assumption) | (with_reducible refine Below.alloc ?_ ?_ _) | (with_reducible refine Below.drew ?_) | (with_reducible refine below_drewN ?_ _) | (with_reducible refine Below.setCell ?_ ?_ _) | (with_reducible refine Below.trans ?_ (Below.mono (by with_reducible assumption) ?_)) | omega | (simp only [ZA, ZS, ZD, ZN]; omega) | go_size))).mono ?_); rintro e w4 ⟨⟨v4, rfl, own4⟩, hb6⟩; have hb6z := Below.size hb6; (try simp only [ZA, ZS, ZD] at hb6z); have hb6c0 := fun o => below_at hb6 (w.heap.size + 1) o (by first | omega | (simp only [ZA, ZS, ZD]; omega)); have hb6f0 := fun o => below_fr hb6 (w.heap.size + 1) o (by first | omega | (simp only [ZA, ZS, ZD]; omega)); have hb6l0 : w.heap.size + 1 < (w4).heap.size := (by omega); have hb6c1 := fun o => below_at hb6 (g) o (by first | omega | (simp only [ZA, ZS, ZD]; omega)); have hb6f1 := fun o => below_fr hb6 (g) o (by first | omega | (simp only [ZA, ZS, ZD]; omega)); have hb6l1 : g < (w4).heap.size := (by omega); have hb6c2 := fun o => below_at hb6 (wr.heap.size) o (by first | omega | (simp only [ZA, ZS, ZD]; omega)); have hb6f2 := fun o => below_fr hb6 (wr.heap.size) o (by first | omega | (simp only [ZA, ZS, ZD]; omega)); have hb6l2 : wr.heap.size < (w4).heap.size := (by omega)); obtain ⟨s4, A5, n5, c5, B5, m5, d5, rfl⟩ := own4.form) | fail)
            all_goals
              have hb9 : Below wq.heap.size wq w4 := (by have z0 := Below.size hb6; (try simp only [ZA, ZS, ZD, ZN] at z0 ⊢; skip); repeat' (first | (with_reducible exact Below.refl _ _) | (with_reducible assumption) | (with_reducible refine Below.alloc ?_ ?_ _) | (with_reducible refine Below.drew ?_) | (with_reducible refine below_drewN ?_ _) | (with_reducible refine Below.setCell ?_ ?_ _) | (with_reducible refine Below.trans ?_ (Below.mono (by with_reducible assumption) ?_)) | omega | (simp only [ZA, ZS, ZD, ZN]; omega) | go_size))
              have hst := (HOn.out.below hb9).set hcl (own4.rs (b0 := w.heap.size + 1))
              have hs := (HX.out.below hb9).same hfn hst.2 (f' := upd (P k f) y (P k f y + q)) (hst.1.congr fun b _ => by rw [upd_can]) (by have := hb9.size; omega)
              have HF := Lib.hid (hs.1.mg.congr (len' := fun _ => c.nd) (M' := P (k + 1)) (fun _ _ => rfl) (fun a b ha hb => by rw [HE.out]))
              have HBF := Lib.hid ((HB5.out.trans (HAL2.out.mono (by omega))).trans ((hb9.mono (by omega)).trans hs.2.2))
              clear hs hst hb9
              go_wp2
              go_roundw
              case rel => exact ⟨k + 1, by omega, by go_num, HF.out, HBF.out⟩
              case measure => simp [intOf]; omega
        · have hkm : k = c.nm := by omega
          have HO := Lib.hid own
          have HbB := Lib.hid hbW
          have HK := Lib.hid hkm
          clear own hb hbW hkm
          go_wp2
          go_ret
          refine ⟨⟨rfl, ?_⟩, HbB.out⟩
          rw [← HK.out]
          exact HO.out
theorem lsums_any {w : World} {AM AD AV : Option Addr} {cm cd ca : Nat} {c : Chn} {P' : Nat → Int} {p : Nat → Nat} (h : ChI w w.heap.size AM cm AD cd c) (ok : c.Ok) (hs : ChS c 400) (hv : PaI w AV c.nd P') (hp : ∀ i, i < c.nd → P' i = (p i : Int)) (hpl : ∀ i, i < c.nd → p i < c.nd)
    (hsz : ∀ k, k ≤ c.nm → ∀ i j, Sz 400 (smK c.f c.t c.q p k i j)) :
    Calls Tryz.prog 41 #[cv c.st c.sr AM c.nm cm AD c.nd cd, .slice AV c.nd ca] w fun e w' => (∃ A' c', e = .returned (.slice A' c.nd c') ∧ MatI w' w'.heap.size A' c.nd (fun _ => c.nd) (fun i => can (smK c.f c.t c.q p c.nm i))) ∧ Below w.heap.size w w' :=
  (lsumsG_any h ok hs hv hp hpl hsz).mono fun _ w' ⟨⟨e, r⟩, hb⟩ => ⟨⟨_, _, e, (MatG.mo r).mi (by have := r.lt; omega)⟩, hb⟩
end Go.Proofs.YtlncafhgmbhocaaGreatDoor
namespace Go.Proofs.YtlncafhgmbhocaaGreatDoor
open Go.RowKit
set_option linter.unusedSimpArgs false
set_option linter.unusedVariables false
set_option maxRecDepth 20000
attribute [local irreducible] nv wp win plainB validR valR canR mvE chkM codeC smK
/-! ## package lump: equal -/
theorem leq1_any {w : World} {L : Nat} {v u : Value} {q r : Rat} (h : RdQ w L v q) (h' : RdQ w L u r) (hL : 1 ≤ L) (hL2 : L ≤ 1000000000) :
    Calls Tryz.prog 86 #[v, u] w fun e w' => e = .returned (.bool (decide (q = r))) ∧ Below w.heap.size w w' := by
  have K := Lib.hid (fun W (hb : Below w.heap.size w W) => cmpQ (h.below hb) (h'.below hb) hL (by omega))
  obtain ⟨r1, hr1, -⟩ := h
  obtain ⟨s, A, n, c, B, m, d, rfl⟩ := hr1.form
  obtain ⟨r2, hr2, -⟩ := h'
  obtain ⟨s', A', n', c', B', m', d', rfl⟩ := hr2.form
  clear hr1 hr2
  obtain ⟨z, hz⟩ : ∃ z, z = sgnQ (q - r) := ⟨_, rfl⟩
  have HZ : Hid ((z == 0) = decide (q = r)) := by
    show (z == 0) = _
    rw [hz]
    by_cases e : q = r
    · rw [decide_eq_true e, sgnQ_zero.2 (by grind)]; rfl
    · rw [decide_eq_false e, beq_eq_false_iff_ne]
      exact fun e2 => e (by have := sgnQ_zero.1 e2; grind)
  rw [← hz] at K
  clear hz
  go_enter Tryz.func86, Tryz.ntmps86
  (go_wp2_with fail; (with_reducible refine (K.out _ (by (skip); repeat' (first | (with_reducible exact Below.refl _ _) | (with_reducible assumption) | (with_reducible refine Below.alloc ?_ ?_ _) | (with_reducible refine Below.drew ?_) | (with_reducible refine below_drewN ?_ _) | (with_reducible refine Below.setCell ?_ ?_ _) | (with_reducible refine Below.trans ?_ (Below.mono (by with_reducible assumption) ?_)) | omega | (simp only [ZA, ZS, ZD, ZN]; omega) | go_size))).mono ?_); rintro e w1 ⟨rfl, hb1⟩; have hb1z := Below.size hb1; (try simp only [ZA, ZS, ZD, ZN] at hb1z))
  go_wp2
  go_ret
  exact ⟨by rw [← HZ.out]; rfl, (by have z0 := Below.size hb1; (try simp only [ZA, ZS, ZD, ZN] at z0 ⊢; skip); repeat' (first | (with_reducible exact Below.refl _ _) | (with_reducible assumption) | (with_reducible refine Below.alloc ?_ ?_ _) | (with_reducible refine Below.drew ?_) | (with_reducible refine below_drewN ?_ _) | (with_reducible refine Below.setCell ?_ ?_ _) | (with_reducible refine Below.trans ?_ (Below.mono (by with_reducible assumption) ?_)) | omega | (simp only [ZA, ZS, ZD, ZN]; omega) | go_size))⟩
set_option maxHeartbeats 8000000 in
theorem leqf_any {w : World} {b0 b1 n c d L : Nat} {A B : Option Addr} {x y : Nat → Rat} (h : RowA w b0 A n (can x)) (h' : RowA w b1 B n (can y)) (hx : ∀ s, s < n → Sz L (x s)) (hy : ∀ s, s < n → Sz L (y s)) (hL : 1 ≤ L) (hL2 : L ≤ 1000000000) (hn : n ≤ 1000000) :
    Calls Tryz.prog 85 #[.slice A n c, .slice B n d, .func (.func 86) #[] #[]] w fun e w' => e = .returned (.bool (eqN n x y)) ∧ Below w.heap.size w w' := by
  have HA := Lib.hid h
  have HB := Lib.hid h'
  have HX := Lib.hid hx
  have HY := Lib.hid hy
  have HYS : Hid ((∀ s, s < n → x s = y s) → eqN n x y = true) := fun e => eqN_iff.2 e
  have HNO : Hid (∀ k, k < n → x k ≠ y k → eqN n x y = false) := fun k hk e => by
    cases h : eqN n x y
    · rfl
    · exact absurd (eqN_iff.1 h k hk) e
  have e0 : ((n : Int) != (n : Int)) = false := by simp
  obtain ⟨ans, hans⟩ : ∃ ans, ans = eqN n x y := ⟨_, rfl⟩
  rw [← hans] at HYS HNO ⊢
  clear h h' hx hy hans
  go_enter Tryz.func85, Tryz.ntmps85
  go_wp2
  go_loopw [17] (fun i wr => ∃ k : Nat, k ≤ n ∧ i = .int .i64 (k : Int) ∧ (∀ j, j < k → x j = y j) ∧ Below w.heap.size w wr) (fun i _ => n - (intOf i).toNat)
  case atStart => exact ⟨0, Nat.zero_le _, rfl, fun j hj => by omega, Below.refl _ _⟩
  case round =>
    obtain ⟨k, hk, rfl, hv, hb⟩ := hrel
    have HV := Lib.hid hv
    clear hv
    have hbz := hb.size
    by_cases hlt : k < n
    · obtain ⟨b, off, s1, A1, n1, c1, B1, m1, d1, rfl, hbb, f0, f1, f2, r1⟩ := HA.out.at_ hlt
      obtain ⟨b', off', s2, A2, n2, c2, B2, m2, d2, rfl, hbb', g0, g1, g2, r2⟩ := HB.out.at_ hlt
      have x0 := (hb.cell (lt_of_cell f0)).trans f0
      have x1 := (hb.cell (lt_of_cell f1)).trans f1
      have x2 := (hb.cell (lt_of_cell f2)).trans f2
      have y0 := (hb.cell (lt_of_cell g0)).trans g0
      have y1 := (hb.cell (lt_of_cell g1)).trans g1
      have y2 := (hb.cell (lt_of_cell g2)).trans g2
      have q1 := (show RdS w _ _ (canR (x k)) from r1).canQ (HX.out k hlt)
      have q2 := (show RdS w _ _ (canR (y k)) from r2).canQ (HY.out k hlt)
      have K := Lib.hid (fun W (hb' : Below wr.heap.size wr W) => leq1_any (q1.below (hb.trans (hb'.mono hbz))) (q2.below (hb.trans (hb'.mono hbz))) hL hL2)
      have hk0 : (0 : Int) ≤ (k : Int) := by omega
      have hki : (k : Int) < (n : Int) := by omega
      have hb1 : b' < wr.heap.size := by omega
      clear f0 f1 f2 g0 g1 g2 r1 r2 q1 q2
      (have obc := fun o i => below_at ((Below.refl wr.heap.size wr).alloc (Nat.le_refl _) o) (b') i (by omega)); (have obf := fun o i => below_fr ((Below.refl wr.heap.size wr).alloc (Nat.le_refl _) o) (b') i (by omega))
      by_cases hv : x k = y k
      · rw [decide_eq_true hv] at K
        have HN := Lib.hid hv
        clear hv
        (go_wp2_with fail; (with_reducible refine (K.out _ (by (skip); repeat' (first | (with_reducible exact Below.refl _ _) | (with_reducible assumption) | (with_reducible refine Below.alloc ?_ ?_ _) | (with_reducible refine Below.drew ?_) | (with_reducible refine below_drewN ?_ _) | (with_reducible refine Below.setCell ?_ ?_ _) | (with_reducible refine Below.trans ?_ (Below.mono (by with_reducible assumption) ?_)) | omega | (simp only [ZA, ZS, ZD, ZN]; omega) | go_size))).mono ?_); rintro e w2 ⟨rfl, hb2⟩; have hb2z := Below.size hb2; (try simp only [ZA, ZS, ZD, ZN] at hb2z))
        go_wp2
        go_roundw
        case rel =>
          refine ⟨k + 1, by omega, by go_num, fun j hj => ?_, hb.trans (by have z0 := Below.size hb2; (try simp only [ZA, ZS, ZD, ZN] at z0 ⊢; skip); repeat' (first | (with_reducible exact Below.refl _ _) | (with_reducible assumption) | (with_reducible refine Below.alloc ?_ ?_ _) | (with_reducible refine Below.drew ?_) | (with_reducible refine below_drewN ?_ _) | (with_reducible refine Below.setCell ?_ ?_ _) | (with_reducible refine Below.trans ?_ (Below.mono (by with_reducible assumption) ?_)) | omega | (simp only [ZA, ZS, ZD, ZN]; omega) | go_size))⟩
          by_cases e : j = k
          · rw [e]; exact HN.out
          · exact HV.out j (by omega)
        case measure => simp [intOf]; omega
      · rw [decide_eq_false hv] at K
        have HN := Lib.hid (HNO.out k hlt hv)
        clear hv
        (go_wp2_with fail; (with_reducible refine (K.out _ (by (skip); repeat' (first | (with_reducible exact Below.refl _ _) | (with_reducible assumption) | (with_reducible refine Below.alloc ?_ ?_ _) | (with_reducible refine Below.drew ?_) | (with_reducible refine below_drewN ?_ _) | (with_reducible refine Below.setCell ?_ ?_ _) | (with_reducible refine Below.trans ?_ (Below.mono (by with_reducible assumption) ?_)) | omega | (simp only [ZA, ZS, ZD, ZN]; omega) | go_size))).mono ?_); rintro e w2 ⟨rfl, hb2⟩; have hb2z := Below.size hb2; (try simp only [ZA, ZS, ZD, ZN] at hb2z))
        go_wp2
        go_ret
        exact ⟨by rw [HN.out]; rfl, hb.trans (by have z0 := Below.size hb2; (try simp only [ZA, ZS, ZD, ZN] at z0 ⊢; skip); repeat' (first | (with_reducible exact Below.refl _ _) | (with_reducible assumption) | (with_reducible refine Below.alloc ?_ ?_ _) | (with_reducible refine Below.drew ?_) | (with_reducible refine below_drewN ?_ _) | (with_reducible refine Below.setCell ?_ ?_ _) | (with_reducible refine Below.trans ?_ (Below.mono (by with_reducible assumption) ?_)) | omega | (simp only [ZA, ZS, ZD, ZN]; omega) | go_size))⟩
    · have : k = n := by omega
      subst this
      have HN := Lib.hid (HYS.out HV.out)
      go_wp2
      go_ret
      exact ⟨by rw [HN.out]; rfl, hb⟩
theorem lequal_any {w : World} {b0 b1 n c d L : Nat} {A B : Option Addr} {x y : Nat → Rat} (h : RowA w b0 A n (can x)) (h' : RowA w b1 B n (can y)) (hx : ∀ s, s < n → Sz L (x s)) (hy : ∀ s, s < n → Sz L (y s)) (hL : 1 ≤ L) (hL2 : L ≤ 1000000000) (hn : n ≤ 1000000) :
    Calls Tryz.prog 53 #[.slice A n c, .slice B n d] w fun e w' => e = .returned (.bool (eqN n x y)) ∧ Below w.heap.size w w' := by
  have K := Lib.hid (leqf_any (c := c) (d := d) h h' hx hy hL hL2 hn)
  obtain ⟨ans, hans⟩ : ∃ ans, ans = eqN n x y := ⟨_, rfl⟩
  rw [← hans] at K ⊢
  clear h h' hx hy hans
  go_enter Tryz.func53, Tryz.ntmps53
  (go_wp2_with fail; (with_reducible refine (K.out).mono ?_); rintro e w2 ⟨rfl, hb2⟩; have hb2z := Below.size hb2; (try simp only [ZA, ZS, ZD, ZN] at hb2z))
  go_wp2
  go_ret
  exact ⟨rfl, hb2⟩
end Go.Proofs.YtlncafhgmbhocaaGreatDoor
