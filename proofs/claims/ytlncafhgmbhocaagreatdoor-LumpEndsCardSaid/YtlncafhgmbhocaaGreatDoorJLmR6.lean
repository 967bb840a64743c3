/- Contracts of functions and lemmas, used by the proofs of the given statements. No condition beyond those that each lemma names. -/
import Derived.Test.YtlncafhgmbhocaaGreatDoorLmR2
import Derived.Test.YtlncafhgmbhocaaGreatDoorJLmW5
namespace Go.Proofs.YtlncafhgmbhocaaGreatDoor
open Go.RowKit
set_option linter.unusedSimpArgs false
set_option linter.unusedVariables false
set_option maxRecDepth 20000
attribute [local irreducible] nv wp win plainB validR valR canR mvE chkM codeC smK alk badP nrm
/-! ## the reference of law51: Norm -/
set_option maxHeartbeats 4000000 in
theorem lrNormP_any {w : World} {AM AD AV : Option Addr} {cm cd n ca : Nat} {c : Chn} {P : Nat → Int} (h : ChI w w.heap.size AM cm AD cd c) (hs : ChS c 400) (hv : PaI w AV n P) (hn : n ≤ 1000) (hca : n ≤ ca) :
    Calls Tryz.prog 25 #[cv c.st c.sr AM c.nm cm AD c.nd cd, .slice AV n ca] w fun e w' => AnsP (.int .i64) (lenC (c.codeL n P) n) (nrmZ P) (c.codeL n P) e w' ∧ Below w.heap.size w w' := by
  have K1 := Lib.hid (fun W (hb : Below w.heap.size w W) => lrErr_any (ca := ca) (h.below hb) hs (hv.below hb) (by omega))
  have HPB := Lib.hid (fun W hb => par_below (W := W) (w := w) (o := .cells #[.int .i64 c.st, .int .i64 c.sr, .slice AM c.nm cm, .slice AD c.nd cd] 25) hb)
  have hW0z : (w.alloc (.cells #[.int .i64 c.st, .int .i64 c.sr, .slice AM c.nm cm, .slice AD c.nd cd] 25)).heap.size = w.heap.size + 1 := by simp
  by_cases h0 : c.codeL n P = 0
  · obtain ⟨hc0, hnn, hin⟩ := Chn.codeL_0 h0
    have hpp := prt_is hin
    have K2 := Lib.hid (fun W (hb : Below w.heap.size w W) => lrNorm_any (c := ca) (hv.below hb) (fun i hi => (hpp i hi).1) hn hca)
    rw [h0] at K1
    rw [h0, lenC_0]
    obtain ⟨N, hN⟩ : ∃ N, N = nrmZ P := ⟨_, rfl⟩
    have K3 : Hid (∀ W, Below w.heap.size w W → Calls Tryz.prog 46 #[.slice AV n ca] W fun e w' => (∃ A' c', e = .returned (.slice A' n c') ∧ OwZ w' W.heap.size A' c' n N) ∧ Below W.heap.size W w') := fun W hb => by
      rw [hN]
      refine (K2.out W hb).mono fun e w' ⟨h1, h2⟩ => ⟨?_, h2⟩
      obtain ⟨A', c', e1, -, o⟩ := h1
      exact ⟨A', c', e1, o⟩
    rw [← hN]
    clear h hs hv h0 hc0 hnn hin hpp K2 hN
    go_enter Tryz.func25, Tryz.ntmps25
    (go_wp2_with fail; (with_reducible refine (K1.out _ (by (skip); repeat' (first | (with_reducible exact Below.refl _ _) | (with_reducible assumption) | (with_reducible refine Below.alloc ?_ ?_ _) | (with_reducible refine Below.drew ?_) | (with_reducible refine below_drewN ?_ _) | (with_reducible refine Below.setCell ?_ ?_ _) | (with_reducible refine Below.trans ?_ (Below.mono (by with_reducible assumption) ?_)) | omega | (simp only [ZA, ZS, ZD, ZN]; omega) | go_size))).mono ?_); rintro e w1 ⟨rfl, hb1⟩; have hb1z := Below.size hb1; (try simp only [ZA, ZS, ZD, ZN] at hb1z); have hb1c0 := fun o => below_at hb1 (w.heap.size) o (by first | omega | (simp only [ZA, ZS, ZD, ZN]; omega)); have hb1f0 := fun o => below_fr hb1 (w.heap.size) o (by first | omega | (simp only [ZA, ZS, ZD, ZN]; omega)))
    have hB1 := HPB.out w1 (by rw [← hW0z]; exact hb1)
    (go_wp2_with fail; (with_reducible refine (K3.out _ hB1).mono ?_); rintro e w2 ⟨⟨A2, c2, rfl, own2⟩, hb2⟩; have hb2z := Below.size hb2; (try simp only [ZA, ZS, ZD, ZN] at hb2z))
    go_wp2
    go_ret2
    exact ⟨⟨_, _, rfl, own2.pa⟩, hB1.trans (hb2.mono hB1.size)⟩
  · rw [lenC_n h0]
    obtain ⟨cc, hcc⟩ : ∃ cc, cc = c.codeL n P := ⟨_, rfl⟩
    rw [← hcc] at K1 h0 ⊢
    have e1 : (cc != 0) = true := by simpa using h0
    clear h hs hv h0 hcc
    go_enter Tryz.func25, Tryz.ntmps25
    (go_wp2_with fail; (with_reducible refine (K1.out _ (by (skip); repeat' (first | (with_reducible exact Below.refl _ _) | (with_reducible assumption) | (with_reducible refine Below.alloc ?_ ?_ _) | (with_reducible refine Below.drew ?_) | (with_reducible refine below_drewN ?_ _) | (with_reducible refine Below.setCell ?_ ?_ _) | (with_reducible refine Below.trans ?_ (Below.mono (by with_reducible assumption) ?_)) | omega | (simp only [ZA, ZS, ZD, ZN]; omega) | go_size))).mono ?_); rintro e w1 ⟨rfl, hb1⟩; have hb1z := Below.size hb1; (try simp only [ZA, ZS, ZD, ZN] at hb1z); have hb1c0 := fun o => below_at hb1 (w.heap.size) o (by first | omega | (simp only [ZA, ZS, ZD, ZN]; omega)); have hb1f0 := fun o => below_fr hb1 (w.heap.size) o (by first | omega | (simp only [ZA, ZS, ZD, ZN]; omega)))
    have hB1 := HPB.out w1 (by rw [← hW0z]; exact hb1)
    go_wp2
    go_ret2
    exact ⟨⟨_, _, rfl, PaI.nil_ _ _⟩, hB1⟩
end Go.Proofs.YtlncafhgmbhocaaGreatDoor
namespace Go.Proofs.YtlncafhgmbhocaaGreatDoor
open Go.RowKit
set_option linter.unusedSimpArgs false
set_option linter.unusedVariables false
set_option maxRecDepth 20000
/-! ## the reference of law51: ByDown -/
/-- what is down, as numbers -/
def dwnP (D : Nat → Bool) (s : Nat) : Nat := if D s then 1 else 0
theorem dwnP_rel {D : Nat → Bool} {a b : Nat} : relP (dwnP D) a b = true ↔ D a = D b := by
  unfold relP dwnP
  cases D a <;> cases D b <;> simp
theorem byd_nrm (D : Nat → Bool) (i : Nat) : nrm (relP (dwnP D)) i = bydF D i := by
  have hE := relP_eqv (dwnP D)
  have h0 : nrm (relP (dwnP D)) 0 = 0 := by have := nrm_le hE 0; omega
  unfold bydF
  by_cases e : D i = D 0
  · rw [if_pos e, nrm_same hE (dwnP_rel.2 e), h0]
  · rw [if_neg e]
    obtain ⟨h1, h2, h3⟩ := firS_spec hE i
    have hfi := dwnP_rel.1 h2
    have hk : ∀ k, k < firS (relP (dwnP D)) i → D k = D 0 := fun k hk => by
      have : D k ≠ D i := fun e2 => by have := h3 k (dwnP_rel.2 e2); omega
      cases hx : D k <;> cases hy : D i <;> cases hz : D 0 <;> simp_all
    have hf0 : 0 < firS (relP (dwnP D)) i := by
      rcases Nat.eq_zero_or_pos (firS (relP (dwnP D)) i) with h | h
      · rw [h] at hfi
        exact absurd hfi.symm e
      · exact h
    have hc : ∀ m, m + 1 ≤ firS (relP (dwnP D)) i → cntB (isF (relP (dwnP D))) (m + 1) = 1 := fun m => by
      induction m with
      | zero =>
        intro _
        have : isF (relP (dwnP D)) 0 = true := (isF_none hE).2 fun k hk => by omega
        rw [cntB_yes this, cntB_zero]
      | succ m ih =>
        intro hm
        have : isF (relP (dwnP D)) (m + 1) = false := isF_old hE (k := 0) (by omega) (dwnP_rel.2 (hk (m + 1) (by omega)).symm)
        rw [cntB_no this, ih (by omega)]
    unfold nrm
    have := hc (firS (relP (dwnP D)) i - 1) (by omega)
    rw [show firS (relP (dwnP D)) i - 1 + 1 = firS (relP (dwnP D)) i by omega] at this
    exact this
attribute [local irreducible] nv wp win plainB validR valR canR mvE chkM codeC smK alk badP nrm bydF
set_option maxHeartbeats 8000000 in
theorem lrByDown_any {w : World} {AM AD : Option Addr} {cm cd : Nat} {c : Chn} (h : ChI w w.heap.size AM cm AD cd c) (hs : ChS c 400) :
    Calls Tryz.prog 28 #[cv c.st c.sr AM c.nm cm AD c.nd cd] w fun e w' => AnsP (.int .i64) (lenC c.code c.nd) (fun i => ((bydF c.D i : Nat) : Int)) c.code e w' ∧ Below w.heap.size w w' := by
  have K1 := Lib.hid (fun W (hb : Below w.heap.size w W) => rchCheck (h.below hb) hs.nm hs.short)
  have HPB := Lib.hid (fun W hb => par_below (W := W) (w := w) (o := .cells #[.int .i64 c.st, .int .i64 c.sr, .slice AM c.nm cm, .slice AD c.nd cd] 25) hb)
  have HPC := Lib.hid (fun W hb => par_cells (W := W) (w := w) (a := .int .i64 c.st) (b := .int .i64 c.sr) (d := .slice AM c.nm cm) (e := .slice AD c.nd cd) (t := 25) hb)
  have hW0z : (w.alloc (.cells #[.int .i64 c.st, .int .i64 c.sr, .slice AM c.nm cm, .slice AD c.nd cd] 25)).heap.size = w.heap.size + 1 := by simp
  by_cases h0 : c.code = 0
  · have ok := Chn.ok_iff.1 h0
    have hn1 := ok.lo
    have hn2 := ok.hi
    have HST := Lib.hid ok.st
    have HDN := Lib.hid (fun W hb s hs => h.dn_later (W := W) hb (s := s) hs)
    rw [h0] at K1
    rw [h0, lenC_0]
    obtain ⟨N, hN⟩ : ∃ N : Nat → Int, N = fun i => ((dwnP c.D i : Nat) : Int) := ⟨_, rfl⟩
    obtain ⟨Z, hZ⟩ : ∃ Z : Nat → Int, Z = fun i => ((bydF c.D i : Nat) : Int) := ⟨_, rfl⟩
    have HNY : Hid (∀ k, c.D k = false → N k = 0) := fun k e => by rw [hN]; show ((dwnP c.D k : Nat) : Int) = 0; unfold dwnP; rw [e]; rfl
    have HNN : Hid (∀ k, c.D k = true → N k = 1) := fun k e => by rw [hN]; show ((dwnP c.D k : Nat) : Int) = 1; unfold dwnP; rw [e]; rfl
    have K2 : Hid (∀ W A d, PaI W A c.nd N → c.nd ≤ d → Calls Tryz.prog 46 #[.slice A c.nd d] W fun e w' => (∃ A' c', e = .returned (.slice A' c.nd c') ∧ OwZ w' W.heap.size A' c' c.nd Z) ∧ Below W.heap.size W w') := fun W A d hp hd => by
      have := lrNorm_any (p := dwnP c.D) hp (fun i _ => by rw [hN]) (by omega) hd
      rw [hZ]
      refine this.mono fun e w' ⟨h1, h2⟩ => ⟨?_, h2⟩
      obtain ⟨A', c', e1, -, o⟩ := h1
      exact ⟨A', c', e1, o.congr (fun j _ => by rw [byd_nrm])⟩
    rw [← hZ]
    obtain ⟨bd, od, rfl, hbd, -⟩ := HDN.out w (Below.refl _ _) 0 (by omega)
    have hd0 := fun W (hb : Below w.heap.size w W) s (hs : s < c.nd) => (by
      obtain ⟨b, o, e, -, p⟩ := HDN.out W hb s hs
      cases e
      exact p : W.cell? ⟨bd, od + s, none⟩ = some (.bool (c.D s)))
    have HDd := Lib.hid hd0
    clear h hs ok h0 hN hZ hd0 HDN
    go_enter Tryz.func28, Tryz.ntmps28
    (go_wp2_with fail; (with_reducible refine (K1.out _ (by (skip); repeat' (first | (with_reducible exact Below.refl _ _) | (with_reducible assumption) | (with_reducible refine Below.alloc ?_ ?_ _) | (with_reducible refine Below.drew ?_) | (with_reducible refine below_drewN ?_ _) | (with_reducible refine Below.setCell ?_ ?_ _) | (with_reducible refine Below.trans ?_ (Below.mono (by with_reducible assumption) ?_)) | omega | (simp only [ZA, ZS, ZD, ZN]; omega) | go_size))).mono ?_); rintro e w1 ⟨rfl, hb1⟩; have hb1z := Below.size hb1; (try simp only [ZA, ZS, ZD, ZN] at hb1z); have hb1c0 := fun o => below_at hb1 (w.heap.size) o (by first | omega | (simp only [ZA, ZS, ZD, ZN]; omega)); have hb1f0 := fun o => below_fr hb1 (w.heap.size) o (by first | omega | (simp only [ZA, ZS, ZD, ZN]; omega)))
    have hB1 : Below (w.heap.size + 1) (w.alloc (.cells #[.int .i64 c.st, .int .i64 c.sr, .slice AM c.nm cm, .slice (some ⟨bd, od, none⟩) c.nd cd] 25)) w1 := by rw [← hW0z]; exact hb1
    have HB1 := Lib.hid hB1
    obtain ⟨y0, -, -, y3⟩ := HPC.out _ hB1
    rw [HST.out] at y0
    have hw1 : w.heap.size < w1.heap.size := by omega
    clear hb1 hb1c0 hb1f0 hB1
    go_wp2_with (first | (at_make; refine wpList_makeZ rfl (.tmp 14) (.tmp 14) rfl w1.heap.size c.nd (c.nd : Int) (c.nd : Int) (by first | rfl | simp [Act.eval]) (by first | rfl | simp [Act.eval]) rfl rfl (by omega) (Nat.le_refl _) ?_; intro w3 own3 hb3; (have y33 := (hb3.cell (p := ⟨w.heap.size, 3, none⟩) hw1).trans y3)) | fail)
    have HO3 := Lib.hid own3
    have HB3 := Lib.hid hb3
    clear own3 hb3 y0 y3 y33
    go_loopw [19] (fun i wr => ∃ k : Nat, k ≤ c.nd ∧ i = .int .i64 (k : Int) ∧ OwZ wr w1.heap.size (some ⟨w1.heap.size, 0, none⟩) c.nd c.nd (fun j => if j < k then N j else 0) ∧ Below w1.heap.size w1 wr) (fun i _ => c.nd - (intOf i).toNat)
    case atStart => exact ⟨0, Nat.zero_le _, rfl, HO3.out.congr (fun j hj => by simp), HB3.out⟩
    case round =>
      clear HO3 HB3
      obtain ⟨k, hk, rfl, own, hb⟩ := hrel
      have hbz := hb.size
      have hb1 := HB1.out.trans (hb.mono (by omega))
      have hbW := HPB.out _ hb1
      by_cases hlt : k < c.nd
      · have dk := HDd.out wr hbW k hlt
        have hki : (k : Int) < (c.nd : Int) := by omega
        have hk0 : (0 : Int) ≤ (k : Int) := by omega
        have hz0 := own.at_ hlt
        have hfz := own.frozen
        have HB := Lib.hid hb
        have hNY := HNY.out k
        have hNN := HNN.out k
        have stp : ∀ x, N k = x → ∀ j, j < c.nd → (if j = k then x else if j < k then N j else 0) = if j < k + 1 then N j else 0 := fun x hx j hj => by
          by_cases e : j = k
          · rw [if_pos e, if_pos (by omega), e, hx]
          · rw [if_neg e]
            by_cases e2 : j < k
            · rw [if_pos e2, if_pos (by omega)]
            · rw [if_neg e2, if_neg (by omega)]
        have HSTP := Lib.hid stp
        cases hD : c.D k
        · rw [hD] at dk
          have HN := Lib.hid (hNY hD)
          have HO := Lib.hid own
          clear hNY hNN hD own hb hb1 hbW stp
          go_wp2
          go_roundw
          case rel =>
            refine ⟨k + 1, by omega, by go_num, HO.out.congr (fun j hj => ?_), HB.out⟩
            have := HSTP.out 0 HN.out j hj
            show (if j < k then N j else 0) = _
            rw [← this]
            by_cases e : j = k
            · rw [if_pos e, if_neg (by omega)]
            · rw [if_neg e]
          case measure => simp [intOf]; omega
        · rw [hD] at dk
          have HN := Lib.hid (hNN hD)
          have st := own.set k 1
          have hb2 := hb.trans (below_of_row st.2 (fun q hq => by injection hq with hq; omega) hbz)
          have HO := Lib.hid st.1
          have HB2 := Lib.hid hb2
          clear hNY hNN hD own hb hb1 hbW stp st hb2
          go_wp2
          go_roundw
          case rel => exact ⟨k + 1, by omega, by go_num, HO.out.congr (fun j hj => by unfold upd; exact HSTP.out 1 HN.out j hj), HB2.out⟩
          case measure => simp [intOf]; omega
      · have HK := Lib.hid (show k = c.nd by omega)
        have hp := own.pa.congr (P' := N) (fun j hj => by simp [show j < k by rw [HK.out]; exact hj])
        have HP := Lib.hid hp
        have HBW := Lib.hid hbW
        clear own hb hb1 hbW hp
        (go_wp2_with fail; (with_reducible refine (K2.out _ _ _ HP.out (Nat.le_refl _)).mono ?_); rintro e w9 ⟨⟨A9, c9, rfl, own9⟩, hb9⟩; have hb9z := Below.size hb9; (try simp only [ZA, ZS, ZD, ZN] at hb9z))
        go_wp2
        go_ret2
        exact ⟨⟨A9, c9, rfl, own9.pa⟩, HBW.out.trans (hb9.mono HBW.out.size)⟩
  · rw [lenC_n h0]
    obtain ⟨cc, hcc⟩ : ∃ cc, cc = c.code := ⟨_, rfl⟩
    rw [← hcc] at K1 h0 ⊢
    have e1 : (cc != 0) = true := by simpa using h0
    clear h hs h0 hcc
    go_enter Tryz.func28, Tryz.ntmps28
    (go_wp2_with fail; (with_reducible refine (K1.out _ (by (skip); repeat' (first | (with_reducible exact Below.refl _ _) | (with_reducible assumption) | (with_reducible refine Below.alloc ?_ ?_ _) | (with_reducible refine Below.drew ?_) | (with_reducible refine below_drewN ?_ _) | (with_reducible refine Below.setCell ?_ ?_ _) | (with_reducible refine Below.trans ?_ (Below.mono (by with_reducible assumption) ?_)) | omega | (simp only [ZA, ZS, ZD, ZN]; omega) | go_size))).mono ?_); rintro e w1 ⟨rfl, hb1⟩; have hb1z := Below.size hb1; (try simp only [ZA, ZS, ZD, ZN] at hb1z); have hb1c0 := fun o => below_at hb1 (w.heap.size) o (by first | omega | (simp only [ZA, ZS, ZD, ZN]; omega)); have hb1f0 := fun o => below_fr hb1 (w.heap.size) o (by first | omega | (simp only [ZA, ZS, ZD, ZN]; omega)))
    have hB1 := HPB.out w1 (by rw [← hW0z]; exact hb1)
    go_wp2
    go_ret2
    exact ⟨⟨_, _, rfl, PaI.nil_ _ _⟩, hB1⟩
end Go.Proofs.YtlncafhgmbhocaaGreatDoor
