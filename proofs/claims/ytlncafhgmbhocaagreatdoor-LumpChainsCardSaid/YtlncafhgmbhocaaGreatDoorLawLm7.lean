/- Contracts of functions and lemmas, used by the proofs of the given statements. No condition beyond those that each lemma names. -/
import Derived.Test.YtlncafhgmbhocaaGreatDoorJLmE
import Derived.Test.YtlncafhgmbhocaaGreatDoorLawLmV
import Derived.Test.YtlncafhgmbhocaaGreatDoorJRatL
import Derived.Test.YtlncafhgmbhocaaGreatDoorBis
namespace Go.Proofs.YtlncafhgmbhocaaGreatDoor
open Go.RowKit
set_option linter.unusedSimpArgs false
set_option linter.unusedVariables false
set_option maxRecDepth 20000
attribute [local irreducible] nv wp win plainB validR valR canR mvE chkM codeC smK alk badP nrm eqN eqZ blks memZ crsP itP rfn movB rateB outS outB
/-! ## LumpChains -/
set_option maxHeartbeats 64000000 in
theorem lumpChains_law {w : World} {AM AD AV : Option Addr} {cm cd n ca : Nat} {c : Chn} {P : Nat → Int} (h : ChI w w.heap.size AM cm AD cd c) (hv : PaI w AV n P) :
    Calls Tryz.prog 8 #[cv c.st c.sr AM c.nm cm AD c.nd cd, .slice AV n ca] w fun e w' => e = .returned (.bool true) ∧ Below w.heap.size w w' := by
  have KV := Lib.hid (fun W (hb : Below w.heap.size w W) => valid51_any (ca := ca) (h.below hb) (hv.below hb))
  have HI := Lib.hid (fun W (hb : Below w.heap.size w W) => h.below hb)
  have HSm := Lib.hid (fun (hf : FewP c) => hf.small h)
  have HV := Lib.hid (fun W (hb : Below w.heap.size w W) => hv.below hb)
  have HOk := Lib.hid (fun k (hk : k < c.nm) => h.okR hk)
  have HMV := Lib.hid (fun (ok : c.Ok) W hb k hk => h.mv_later (W := W) ok hb (k := k) hk)
  have HDN := Lib.hid (fun k (hk : k < c.nd) => h.down hk)
  have hbA : Below w.heap.size w (w.alloc (.cells #[.int .i64 c.st, .int .i64 c.sr, .slice AM c.nm cm, .slice AD c.nd cd] 25)) := (Below.refl _ _).alloc (Nat.le_refl _) _
  have HBA := Lib.hid hbA
  clear h hv hbA
  go_enter Tryz.func8, Tryz.ntmps8
  (go_wp2_with fail; (with_reducible refine (KV.out _ HBA.out).mono ?_); rintro e w1 ⟨⟨bb, rfl, hbb⟩, hb1⟩; have hb1z := Below.size hb1; (try simp only [ZA, ZS, ZD, ZN] at hb1z); have hb1c0 := fun o => below_at hb1 (w.heap.size) o (by first | omega | (simp only [ZA, ZS, ZD, ZN]; omega)); have hb1f0 := fun o => below_fr hb1 (w.heap.size) o (by first | omega | (simp only [ZA, ZS, ZD, ZN]; omega)))
  have hB1 : Below w.heap.size w w1 := HBA.out.trans (hb1.mono (by simp))
  have hw1 : w.heap.size < w1.heap.size := by omega
  cases bb with
  | false =>
    clear hbb
    (go_wp2_with fail; (with_reducible refine (awake51_any _).mono ?_); rintro e w2 ⟨rfl, hb2⟩; have hb2z := Below.size hb2; (try simp only [ZA, ZS, ZD, ZN] at hb2z))
    go_wp2
    go_ret
    exact ⟨rfl, hB1.trans (hb2.mono hB1.size)⟩
  | true =>
    have hF := (hbb rfl).1
    have hC1 := (hbb rfl).2
    clear hbb
    have hS := HSm.out hF
    obtain ⟨hc0, hnn, hin⟩ := Chn.codeL_0 hC1
    have ok := Chn.ok_iff.1 hc0
    subst hnn
    have hnd := hF.nd
    have hnm := hF.nm
    have hpp := prt_is hin
    have hlo := ok.lo
    have hhi := ok.hi
    have hst := ok.st
    have hsr0 := ok.s0
    have hsr1 := ok.s1
    obtain ⟨sr, hsr⟩ : ∃ sr : Nat, c.sr = (sr : Int) := ⟨c.sr.toNat, by omega⟩
    have hsl : sr < c.nd := by omega
    obtain ⟨p, hp⟩ : ∃ p, p = prt P := ⟨_, rfl⟩
    rw [← hp] at hpp
    obtain ⟨bd, od, rfl, hbd, -, -⟩ := HDN.out 0 (by omega)
    have HDC : Hid (∀ W, Below w.heap.size w W → ∀ k, k < c.nd → W.cell? ⟨bd, od + k, none⟩ = some (.bool (c.D k))) := fun W hb k hk => by
      obtain ⟨b', o', e, hlt, -, e2⟩ := HDN.out k hk
      cases e
      exact (hb.cell (p := ⟨bd, od + k, none⟩) hlt).trans e2
    have HMW := Lib.hid (HMV.out ok)
    have HSQ := Lib.hid (fun k hk => (hS.chS.siz ok).raw k hk)
    have hid0 : c.codeQ c.nd (fun i => (i : Int)) = 0 := by
      have e : prt (fun i => (i : Int)) = idN := by funext i; unfold prt idN; simp
      exact Chn.codeQ_z (Chn.codeL_z hc0 rfl (inP_iff.2 fun j hj => by omega)) (by rw [e]; exact Chn.id_sta c) (by rw [e]; exact Chn.id_one c)
    have KQI : Hid (∀ W A d, Below w.heap.size w W → PaI W A c.nd (fun i => (i : Int)) → Calls Tryz.prog 12 #[cv c.st c.sr AM c.nm cm (some ⟨bd, od, none⟩) c.nd cd, .slice A c.nd d] W fun e w' => (∃ A' a B b, e = .returned (.tuple #[cv c.st c.sr A' c.nm a B c.nd b, .nilIface]) ∧ ChI w' w'.heap.size A' a B b c) ∧ Below W.heap.size W w') := fun W A d hb hA => by
      have := lQuotient_any (ca := d) (HI.out W hb) hS.chS hA (by omega) hS.smS
      have e : prt (fun i => (i : Int)) = idN := by funext i; unfold prt idN; simp
      rw [hid0, Chn.quoE_0 hid0, e] at this
      obtain ⟨g1, g2, g3, g4, g5, g6⟩ := Chn.id_quo ok HOk.out
      exact this.mono fun e w' ⟨⟨A', a, B, b, e1, h1⟩, h2⟩ => ⟨⟨A', a, B, b, by rw [e1, g1, g2, g3, g4, errM_0], h1.congr_ g3 g4 g5 g6⟩, h2⟩
    have KCS : Hid (∀ W A a B b, Below w.heap.size w W → ChI W W.heap.size A a B b c → Calls Tryz.prog 15 #[cv c.st c.sr A c.nm a B c.nd b, cv c.st c.sr AM c.nm cm (some ⟨bd, od, none⟩) c.nd cd] W fun e w' => e = .returned (.bool true) ∧ Below W.heap.size W w') := fun W A a B b hb hi => chain_same hi (HI.out W hb) (by omega) (by omega) (fun k hk => by have := hS.raw k hk; omega)
    obtain ⟨X, hX⟩ : ∃ X, X = c.quoE c.nd P := ⟨_, rfl⟩
    have KQ : Hid (∀ W, Below w.heap.size w W → Calls Tryz.prog 12 #[cv c.st c.sr AM c.nm cm (some ⟨bd, od, none⟩) c.nd cd, .slice AV c.nd ca] W fun e w' => AnsC errM (c.codeQ c.nd P) X e w' ∧ Below W.heap.size W w') := fun W hb => by rw [hX]; exact lQuotient_any (ca := ca) (HI.out W hb) hS.chS (HV.out W hb) (by omega) hS.smS
    have hcq : c.codeQ c.nd P = 0 ∨ c.codeQ c.nd P = 15 ∨ c.codeQ c.nd P = 7 := by
      by_cases h2 : StaB c.f c.t c.q c.nm c.nd (prt P)
      · by_cases h3 : c.oneD (prt P)
        · exact .inl (Chn.codeQ_z hC1 h2 h3)
        · exact .inr (.inr (Chn.codeQ_7 hC1 h2 h3))
      · exact .inr (.inl (Chn.codeQ_15 hC1 h2))
    have HCQ := Lib.hid hcq
    rw [hst, hsr] at KQI KCS KQ
    have hst9 := hst
    have hsr9 := hsr
    have HOKK := Lib.hid (And.intro ok hS)
    have HX := Lib.hid hX
    have HPP := Lib.hid hpp
    have HP := Lib.hid hp
    have HC1 := Lib.hid hC1
    have y0 : w1.cell? ⟨w.heap.size, 0, none⟩ = some (.int .i64 (c.nd : Int)) := by rw [hb1c0, World.cell?_alloc_at _ _ _ _ rfl, ← hst9]; rfl
    have y1 : w1.cell? ⟨w.heap.size, 1, none⟩ = some (.int .i64 (sr : Int)) := by rw [hb1c0, World.cell?_alloc_at _ _ _ _ rfl, ← hsr9]; rfl
    have y2 : w1.cell? ⟨w.heap.size, 2, none⟩ = some (.slice AM c.nm cm) := by rw [hb1c0, World.cell?_alloc_at _ _ _ _ rfl]; rfl
    have y3 : w1.cell? ⟨w.heap.size, 3, none⟩ = some (.slice (some ⟨bd, od, none⟩) c.nd cd) := by rw [hb1c0, World.cell?_alloc_at _ _ _ _ rfl]; rfl
    clear hid0 hcq hst hsr hX hpp hp hC1 hc0 hin ok hS hF hsr0 hsr1 HSm HMV HDN HOk hb1c0 hb1f0 hb1 KV
    (go_wp2_with fail; (with_reducible refine (awake51_any _).mono ?_); rintro e w3 ⟨rfl, hb3⟩; have hb3z := Below.size hb3; (try simp only [ZA, ZS, ZD, ZN] at hb3z))
    have h13 : Below w1.heap.size w1 w3 := hb3
    have hB3 : Below w.heap.size w w3 := hB1.trans (hb3.mono hB1.size)
    have z0 := (h13.cell (p := ⟨w.heap.size, 0, none⟩) hw1).trans y0
    have hz3 := h13.size
    clear hb3
    go_wp2_with (first | (at_make; refine wpList_makeZ rfl (.tmp 29) (.tmp 29) rfl w3.heap.size c.nd (c.nd : Int) (c.nd : Int) (by first | rfl | simp [Act.eval]) (by first | rfl | simp [Act.eval]) rfl rfl (by omega) (Nat.le_refl _) ?_; intro w4 own4 hb4) | fail)
    have HO4 := Lib.hid own4
    have HB4 := Lib.hid hb4
    clear own4 hb4
    go_loopw [33] (fun i wr => ∃ k : Nat, k ≤ c.nd ∧ i = .int .i64 (k : Int) ∧ OwZ wr w3.heap.size (some ⟨w3.heap.size, 0, none⟩) c.nd c.nd (fun j => if j < k then (j : Int) else 0) ∧ Below w3.heap.size w3 wr) (fun i _ => c.nd - (intOf i).toNat)
    case atStart => exact ⟨0, Nat.zero_le _, rfl, HO4.out.congr (fun j hj => by simp), HB4.out⟩
    case round =>
      clear HO4 HB4
      obtain ⟨k, hk, rfl, own, hb⟩ := hrel
      by_cases hlt : k < c.nd
      · have hgl := (World.ownsRow.lt own w3.heap.size rfl).2
        have hcell := own.at_ hlt
        have hfz := own.frozen
        have st := own.set k (k : Int)
        have HST := Lib.hid st.1
        have HBS := Lib.hid (hb.trans (below_of_row st.2 (fun q hq => by injection hq with hq; omega) (by omega)))
        have hki : (k : Int) < (c.nd : Int) := by omega
        have hk0 : (0 : Int) ≤ (k : Int) := by omega
        clear own st hb
        go_wp2
        go_roundw
        case rel =>
          refine ⟨k + 1, by omega, by go_num, HST.out.congr (fun j hj => ?_), HBS.out⟩
          unfold upd
          by_cases e : j = k
          · rw [if_pos e, if_pos (by omega), e]
          · rw [if_neg e]
            show (if j < k then (j : Int) else 0) = if j < k + 1 then (j : Int) else 0
            by_cases e2 : j < k
            · rw [if_pos e2, if_pos (by omega)]
            · rw [if_neg e2, if_neg (by omega)]
        case measure => simp [intOf]; omega
      · have hkn : k = c.nd := by omega
        have pown : PaI wr (some ⟨w3.heap.size, 0, none⟩) c.nd (fun i => (i : Int)) := own.pa.congr (fun j hj => by rw [if_pos (by omega)])
        have hB5 := hB3.trans (hb.mono hB3.size)
        have hz5 := hb.size
        have h15 : Below w1.heap.size w1 wr := h13.trans (hb.mono hz3)
        have u0 := (h15.cell (p := ⟨w.heap.size, 0, none⟩) hw1).trans y0
        have u1 := (h15.cell (p := ⟨w.heap.size, 1, none⟩) hw1).trans y1
        have u2 := (h15.cell (p := ⟨w.heap.size, 2, none⟩) hw1).trans y2
        have u3 := (h15.cell (p := ⟨w.heap.size, 3, none⟩) hw1).trans y3
        have H15 := Lib.hid h15
        have hwl5 : w.heap.size < wr.heap.size := by have := h15.size; omega
        have PO := Lib.hid pown
        have HB5 := Lib.hid hB5
        clear own hb hB3 hB5 pown h15 z0 h13 hB1
        go_wp2_with fail
        (go_wp2_with fail; (with_reducible refine (KQI.out _ _ _ HB5.out PO.out).mono ?_); rintro e w6 ⟨⟨A6, a6, B6, b6, rfl, i6⟩, hb6⟩; have hb6z := Below.size hb6; (try simp only [ZA, ZS, ZD, ZN] at hb6z); have hb6c0 := fun o => below_at hb6 (w.heap.size) o (by first | omega | (simp only [ZA, ZS, ZD, ZN]; omega)); have hb6f0 := fun o => below_fr hb6 (w.heap.size) o (by first | omega | (simp only [ZA, ZS, ZD, ZN]; omega)))
        have hB6 := HB5.out.trans (hb6.mono HB5.out.size)
        have h6a : Below w6.heap.size w6 (w6.alloc (.cells #[.int .i64 (c.nd : Int), .int .i64 (sr : Int), .slice A6 c.nm a6, .slice B6 c.nd b6] 25)) := (Below.refl _ _).alloc (Nat.le_refl _) _
        have H6A := Lib.hid h6a
        have KC9 := Lib.hid (KCS.out _ _ _ _ _ (hB6.trans (h6a.mono hB6.size)) (i6.below h6a))
        have HB6 := Lib.hid hB6
        have hz6 : w.heap.size < w6.heap.size := by have := hb6.size; omega
        have H16 := Lib.hid (H15.out.trans (hb6.mono H15.out.size))
        clear hb6 i6 hB6 h6a KQI KCS PO
        (have ooc := fun o i => below_at ((Below.refl w6.heap.size w6).alloc (Nat.le_refl _) o) (w.heap.size) i (by omega)); (have oof := fun o i => below_fr ((Below.refl w6.heap.size w6).alloc (Nat.le_refl _) o) (w.heap.size) i (by omega))
        (go_wp2_with fail; (with_reducible refine (KC9.out).mono ?_); rintro e w7 ⟨rfl, hb7⟩; have hb7z := Below.size hb7; (try simp only [ZA, ZS, ZD, ZN] at hb7z); have hb7c0 := fun o => below_at hb7 (w.heap.size) o (by first | omega | (simp only [ZA, ZS, ZD, ZN]; omega)); have hb7f0 := fun o => below_fr hb7 (w.heap.size) o (by first | omega | (simp only [ZA, ZS, ZD, ZN]; omega)))
        have hB7 := HB6.out.trans ((H6A.out.trans (hb7.mono (by simp))).mono HB6.out.size)
        have H17 := Lib.hid (H16.out.trans ((H6A.out.trans (hb7.mono (by simp))).mono H16.out.size))
        clear hb7 KC9
        (go_wp2_with fail; (with_reducible refine (KQ.out _ hB7).mono ?_); rintro e w8 ⟨⟨A8, a8, B8, b8, rfl, i8⟩, hb8⟩; have hb8z := Below.size hb8; (try simp only [ZA, ZS, ZD, ZN] at hb8z); have hb8c0 := fun o => below_at hb8 (w.heap.size) o (by first | omega | (simp only [ZA, ZS, ZD, ZN]; omega)); have hb8f0 := fun o => below_fr hb8 (w.heap.size) o (by first | omega | (simp only [ZA, ZS, ZD, ZN]; omega)))
        have hB8 := hB7.trans (hb8.mono hB7.size)
        have hz8 : w.heap.size < w8.heap.size := by have := hb8.size; omega
        have H18 := Lib.hid (H17.out.trans (hb8.mono H17.out.size))
        have h8a : Below w8.heap.size w8 (w8.alloc (.cells #[.int .i64 X.st, .int .i64 X.sr, .slice A8 X.nm a8, .slice B8 X.nd b8] 25)) := (Below.refl _ _).alloc (Nat.le_refl _) _
        have H8A := Lib.hid h8a
        have HB8 := Lib.hid hB8
        rcases HCQ.out with hc | hc | hc
        · rw [hc, errM_0]
          have HC0 := Lib.hid hc
          have I8 := Lib.hid i8
          clear hc i8 hb8 hB8 hB7 h8a KQ HCQ
          obtain ⟨ok, hS⟩ := HOKK.out
          obtain ⟨hq1, hq2, hq3⟩ := Chn.codeQ_0 HC0.out
          rw [← HP.out] at hq2 hq3
          have hXe : X = c.quo p := by rw [HX.out, Chn.quoE_0 HC0.out, ← HP.out]
          have hpl : ∀ i, i < c.nd → p i < c.nd := fun i hi => (HPP.out i hi).2
          obtain ⟨N, hN⟩ : ∃ N, N = nrm (relP p) := ⟨_, rfl⟩
          have hXo : X.Ok := by rw [hXe]; exact Chn.quo_ok ok p
          have hXc := hXo
          have hXnm : X.nm ≤ 81 := by rw [hXe]; exact Chn.quo_nm ok (hS.nd ok) p
          have hXst : X.st = (X.nd : Int) := hXo.st
          have hXhi : X.nd ≤ 256 := hXo.hi
          have hXsr : X.sr = ((N sr : Nat) : Int) := by
            rw [hXe, hN]
            show ((nrm (relP p) c.sr.toNat : Nat) : Int) = _
            rw [hsr9]; rfl
          have HNL : Hid (∀ i, i < c.nd → N i < X.nd) := fun i hi => by
            rw [hXe, hN]
            exact Chn.blk_num hi
          have HXD : Hid (∀ s, s < c.nd → X.D (N s) = c.D s) := fun s hs => by
            rw [hXe, hN]
            show c.D (ixB (isF (relP p)) c.nd (nrm (relP p) s)) = c.D s
            rw [ix_nrm (relP_eqv p) hs]
            exact (hq3 s hs).symm
          obtain ⟨Df, hDf⟩ : ∃ Df : Nat → Nat → Nat → Rat, Df = fun s k j => outS c.f c.t c.q N s k - outB X.f X.q (N s) j := ⟨_, rfl⟩
          have HSZ : Hid (∀ s k j, k ≤ c.nm → j ≤ X.nm → Sz 400 (Df s k j)) := fun s k j hk hj => by
            rw [hDf]
            rw [hXe] at hj ⊢
            exact hS.out_sz ok p N s (N s) k j hk hj
          have HD0 : Hid (∀ s, Df s 0 0 = 0) := fun s => by rw [hDf]; show outS c.f c.t c.q N s 0 - outB X.f X.q (N s) 0 = 0; unfold outS outB sumN; grind
          have HDY : Hid (∀ s k, c.f k = s → N (c.t k) ≠ N s → Df s (k + 1) 0 = Df s k 0 + c.q k) := fun s k h1 h2 => by rw [hDf]; show outS c.f c.t c.q N s (k + 1) - _ = _; rw [outS_y ⟨h1, h2⟩]; grind
          have HDN : Hid (∀ s k, ¬ (c.f k = s ∧ N (c.t k) ≠ N s) → Df s (k + 1) 0 = Df s k 0) := fun s k h1 => by rw [hDf]; show outS c.f c.t c.q N s (k + 1) - _ = _; rw [outS_n h1]
          have HBY : Hid (∀ s k j, X.f j = N s → Df s k (j + 1) = Df s k j - X.q j) := fun s k j h1 => by rw [hDf]; show _ - outB X.f X.q (N s) (j + 1) = _; rw [outB_y h1]; grind
          have HBN : Hid (∀ s k j, X.f j ≠ N s → Df s k (j + 1) = Df s k j) := fun s k j h1 => by rw [hDf]; show _ - outB X.f X.q (N s) (j + 1) = _; rw [outB_n h1]
          have HDE : Hid (∀ s, s < c.nd → Df s c.nm X.nm = 0) := fun s hs => by
            rw [hDf]
            show outS c.f c.t c.q N s c.nm - outB X.f X.q (N s) X.nm = 0
            rw [hXe, hN, Chn.out_eq ok hpl hq2 hs]
            grind
          obtain ⟨NZ, hNZ⟩ : ∃ NZ : Nat → Int, NZ = nrmZ P := ⟨_, rfl⟩
          have HNZ : Hid (∀ i, NZ i = ((N i : Nat) : Int)) := fun i => by rw [hNZ, hN, HP.out]; rfl
          have KN : Hid (∀ W, Below w.heap.size w W → Calls Tryz.prog 24 #[cv (c.nd : Int) (sr : Int) AM c.nm cm (some ⟨bd, od, none⟩) c.nd cd, .slice AV c.nd ca] W fun e w' => (∃ A d, e = .returned (.tuple #[.slice A c.nd d, .nilIface]) ∧ PaI w' A c.nd NZ) ∧ Below W.heap.size W w') := fun W hb => by
            have := lNorm_any (ca := ca) (HI.out W hb) hS.chS (HV.out W hb) (by omega)
            rw [HC1.out, lenC_0, hst9, hsr9] at this
            rw [hNZ]
            exact this
          have KCk : Hid (∀ W A a B b, ChI W W.heap.size A a B b X → Calls Tryz.prog 32 #[cv X.st X.sr A X.nm a B X.nd b] W fun e w' => e = .returned .nilIface ∧ Below W.heap.size W w') := fun W A a B b hi => by
            have := chCheck hi (by omega) (by rw [hXe]; exact (hS.quo_chS ok p).short)
            rw [Chn.ok_iff.2 hXc, errM_0] at this
            exact this
          have HMX := Lib.hid (fun W hb j hj => I8.out.mv_later (W := W) hXo hb (k := j) hj)
          have HXQ : Hid (∀ j, j < X.nm → (X.R j).2.1.length ≤ 400 ∧ (X.R j).2.2.length ≤ 400) := fun j _ => by rw [hXe]; have := hS.quo_raw ok p j; omega
          have HXDn := Lib.hid (fun W (hb : Below w8.heap.size w8 W) k hk => (I8.out.below hb).down (k := k) hk)
          obtain ⟨bx, ox, rfl, hbx8, -, -⟩ := HXDn.out w8 (Below.refl _ _) 0 hXo.lo
          have HXC : Hid (∀ W, Below w8.heap.size w8 W → ∀ k, k < X.nd → W.cell? ⟨bx, ox + k, none⟩ = some (.bool (X.D k))) := fun W hb k hk => by
            obtain ⟨b', o', e, _, _, e2⟩ := HXDn.out W hb k hk
            cases e
            exact e2
          have HI8 := Lib.hid (fun W (hb : Below w8.heap.size w8 W) => I8.out.below hb)
          rw [hXst, hXsr] at KCk
          rw [hXst, hXsr]
          rw [hXst, hXsr] at H8A
          have eX : ((X.nd : Int) != (X.nd : Int)) = false := by simp
          have hnm9 := hS.nm
          clear hq1 hq2 hq3 hXe hpl hN hXo hXc hXst hXsr hDf hNZ ok hS HC1 HOKK HP HPP HI HV HC0 HX HXDn
          have hbx9 : bx < w8.heap.size := hbx8
          (have ppc := fun o i => below_at ((Below.refl w8.heap.size w8).alloc (Nat.le_refl _) o) (w.heap.size) i (by omega)); (have ppf := fun o i => below_fr ((Below.refl w8.heap.size w8).alloc (Nat.le_refl _) o) (w.heap.size) i (by omega))
          (go_wp2_with fail; (with_reducible refine (KN.out _ (HB8.out.trans (H8A.out.mono (by omega)))).mono ?_); rintro e wa ⟨⟨Aa, aa, rfl, ra⟩, hba⟩; have hbaz := Below.size hba; (try simp only [ZA, ZS, ZD, ZN] at hbaz); have hbac0 := fun o => below_at hba (w.heap.size) o (by first | omega | (simp only [ZA, ZS, ZD, ZN]; omega)); have hbaf0 := fun o => below_fr hba (w.heap.size) o (by first | omega | (simp only [ZA, ZS, ZD, ZN]; omega)); have hbac1 := fun o => below_at hba (w8.heap.size) o (by first | omega | (simp only [ZA, ZS, ZD, ZN]; omega)); have hbaf1 := fun o => below_fr hba (w8.heap.size) o (by first | omega | (simp only [ZA, ZS, ZD, ZN]; omega)))
          have h8a : Below w8.heap.size w8 wa := H8A.out.trans (hba.mono (by simp))
          have v0 : wa.cell? ⟨w8.heap.size, 0, none⟩ = some (.int .i64 (X.nd : Int)) := by rw [hbac1]; simp
          have v1 : wa.cell? ⟨w8.heap.size, 1, none⟩ = some (.int .i64 ((N sr : Nat) : Int)) := by rw [hbac1]; simp
          have v2 : wa.cell? ⟨w8.heap.size, 2, none⟩ = some (.slice A8 X.nm a8) := by rw [hbac1]; simp
          have v3 : wa.cell? ⟨w8.heap.size, 3, none⟩ = some (.slice (some ⟨bx, ox, none⟩) X.nd b8) := by rw [hbac1]; simp
          have RA := Lib.hid ra
          have H8a := Lib.hid h8a
          have hlv : w8.heap.size < wa.heap.size := by have := hba.size; simp at this; omega
          clear ra h8a hba hbac0 hbac1 hbaf0 hbaf1 KN
          (go_wp2_with fail; (with_reducible refine (KCk.out _ _ _ _ _ (HI8.out _ H8a.out)).mono ?_); rintro e wb ⟨rfl, hbb⟩; have hbbz := Below.size hbb; (try simp only [ZA, ZS, ZD, ZN] at hbbz); have hbbc0 := fun o => below_at hbb (w8.heap.size) o (by first | omega | (simp only [ZA, ZS, ZD, ZN]; omega)); have hbbf0 := fun o => below_fr hbb (w8.heap.size) o (by first | omega | (simp only [ZA, ZS, ZD, ZN]; omega)))
          have H8b := Lib.hid (H8a.out.trans (hbb.mono H8a.out.size))
          have hlvb : w8.heap.size < wb.heap.size := by have := hbb.size; omega
          have t0 := (hbb.cell (p := ⟨w8.heap.size, 0, none⟩) hlv).trans v0
          have t1 := (hbb.cell (p := ⟨w8.heap.size, 1, none⟩) hlv).trans v1
          have t2 := (hbb.cell (p := ⟨w8.heap.size, 2, none⟩) hlv).trans v2
          have t3 := (hbb.cell (p := ⟨w8.heap.size, 3, none⟩) hlv).trans v3
          have RB := Lib.hid (RA.out.below hbb)
          have HB9 := Lib.hid (HB8.out.trans (H8b.out.mono HB8.out.size))
          have hwb : w.heap.size < wb.heap.size := by omega
          have H1b := Lib.hid (H18.out.trans (H8b.out.mono H18.out.size))
          have Y0 := (H1b.out.cell (p := ⟨w.heap.size, 0, none⟩) hw1).trans y0
          have Y1 := (H1b.out.cell (p := ⟨w.heap.size, 1, none⟩) hw1).trans y1
          have Y2 := (H1b.out.cell (p := ⟨w.heap.size, 2, none⟩) hw1).trans y2
          have Y3 := (H1b.out.cell (p := ⟨w.heap.size, 3, none⟩) hw1).trans y3
          obtain ⟨ba, oa, rfl, hba9, -⟩ := RB.out.later (k := 0) (Below.refl _ _) (by omega)
          have HAC : Hid (∀ W, Below wb.heap.size wb W → ∀ k, k < c.nd → W.cell? ⟨ba, oa + k, none⟩ = some (.int .i64 ((N k : Nat) : Int))) := fun W hb k hk => by
            obtain ⟨b', o', e, _, e2⟩ := RB.out.later hb hk
            cases e
            rw [← HNZ.out k]
            exact e2
          have HXC2 : Hid (∀ W, Below wb.heap.size wb W → ∀ k, k < X.nd → W.cell? ⟨bx, ox + k, none⟩ = some (.bool (X.D k))) := fun W hb k hk => HXC.out W (H8b.out.trans (hb.mono H8b.out.size)) k hk
          have HDC2 : Hid (∀ W, Below wb.heap.size wb W → ∀ k, k < c.nd → W.cell? ⟨bd, od + k, none⟩ = some (.bool (c.D k))) := fun W hb k hk => HDC.out W (HB9.out.trans (hb.mono HB9.out.size)) k hk
          have HMW2 := Lib.hid (fun W (hb : Below wb.heap.size wb W) k hk => HMW.out W (HB9.out.trans (hb.mono HB9.out.size)) k hk)
          have HMX2 := Lib.hid (fun W (hb : Below wb.heap.size wb W) k hk => HMX.out W (H8b.out.trans (hb.mono H8b.out.size)) k hk)
          clear HXC HDC HMW HMX RA RB HNZ H16 H17 H18 H15 H1b hbb H8A H8a H8b I8 HI8 HB5 HB6 HB8 H6A u0 u1 u2 u3 y0 y1 y2 y3 v0 v1 v2 v3 KCk
          clear hbbc0 hbbf0
          go_wp2
          go_loopw [92] (fun i wr => ∃ s : Nat, s ≤ c.nd ∧ i = .int .i64 (s : Int) ∧ Below wb.heap.size wb wr) (fun i _ => c.nd - (intOf i).toNat)
          case atStart => exact ⟨0, Nat.zero_le _, rfl, Below.refl _ _⟩
          case round =>
            obtain ⟨s, hs, rfl, hb⟩ := hrel
            obtain ⟨wS, hwS⟩ : ∃ wS, wS = wr := ⟨_, rfl⟩
            rw [← hwS] at hb ⊢
            clear hwS
            have hz := hb.size
            have HS := Lib.hid hb
            have C0 := (hb.cell (p := ⟨w.heap.size, 0, none⟩) hwb).trans Y0
            have C1 := (hb.cell (p := ⟨w.heap.size, 1, none⟩) hwb).trans Y1
            have C2 := (hb.cell (p := ⟨w.heap.size, 2, none⟩) hwb).trans Y2
            have C3 := (hb.cell (p := ⟨w.heap.size, 3, none⟩) hwb).trans Y3
            have D1 := (hb.cell (p := ⟨w8.heap.size, 1, none⟩) hlvb).trans t1
            have D2 := (hb.cell (p := ⟨w8.heap.size, 2, none⟩) hlvb).trans t2
            have D3 := (hb.cell (p := ⟨w8.heap.size, 3, none⟩) hlvb).trans t3
            have hwS1 : w.heap.size < wS.heap.size := by omega
            have hwS2 : w8.heap.size < wS.heap.size := by omega
            clear hb
            by_cases hlt : s < c.nd
            · have hsi : (s : Int) < (c.nd : Int) := by omega
              have hs0 : (0 : Int) ≤ (s : Int) := by omega
              have HV0 : Hid (VarR wS.heap.size (Df s 0 0) (wS.alloc (.cells #[.bool false, .slice none 0 0, .slice none 0 0] 44))) := by
                rw [HD0.out s]; exact VarR.new wS
              have HA0 : Hid (Below wS.heap.size wS (wS.alloc (.cells #[.bool false, .slice none 0 0, .slice none 0 0] 44))) := (Below.refl _ _).alloc (Nat.le_refl _) _
              (have oSc := fun o i => below_at ((Below.refl wS.heap.size wS).alloc (Nat.le_refl _) o) (w.heap.size) i (by omega)); (have oSf := fun o i => below_fr ((Below.refl wS.heap.size wS).alloc (Nat.le_refl _) o) (w.heap.size) i (by omega))
              go_wp2
              go_loopw [98] (fun i wr => ∃ k : Nat, k ≤ c.nm ∧ i = .int .i64 (k : Int) ∧ VarR wS.heap.size (Df s k 0) wr ∧ Below wS.heap.size wS wr) (fun i _ => c.nm - (intOf i).toNat)
              case atStart => exact ⟨0, Nat.zero_le _, rfl, HV0.out, HA0.out⟩
              case round =>
                clear HV0 HA0
                obtain ⟨k, hk, rfl, vS, hb⟩ := hrel
                have hz2 := hb.size
                have hvz := vS.2.2.1
                have hbw := HS.out.trans (hb.mono HS.out.size)
                by_cases hlt2 : k < c.nm
                · obtain ⟨bm, om, s1, A1, n1, c1, B1, m1, d1, rfl, hbm, g0, g1, g2, g3, g4, r1, hfn, htn, hft⟩ := HMW2.out wr hbw k hlt2
                  obtain ⟨q1, q2⟩ := HSQ.out k hlt2
                  have qm : RdQ wr 400 (rv s1 A1 n1 c1 B1 m1 d1) (c.q k) := r1.rdq (L := 400) q1 q2
                  have hDY := HDY.out s k
                  have hDN := HDN.out s k
                  have hSk := HSZ.out s k 0 hk (Nat.zero_le _)
                  obtain ⟨f, hf⟩ : ∃ f, f = c.f k := ⟨_, rfl⟩
                  obtain ⟨tt, ht⟩ : ∃ tt, tt = c.t k := ⟨_, rfl⟩
                  obtain ⟨q, hq⟩ : ∃ q, q = c.q k := ⟨_, rfl⟩
                  rw [← hf] at g0 hDY hDN
                  rw [← ht] at g1 htn hDY hDN
                  rw [← hq] at hDY qm
                  have hki : (k : Int) < (c.nm : Int) := by omega
                  have hk0 : (0 : Int) ≤ (k : Int) := by omega
                  have hti : (tt : Int) < (c.nd : Int) := by omega
                  have ht0 : (0 : Int) ≤ (tt : Int) := by omega
                  have HB := Lib.hid hb
                  have hal : Below wr.heap.size wr (wr.alloc (.cells #[.int .i64 (f : Int), .int .i64 (tt : Int), .bool s1, .slice A1 n1 c1, .slice B1 m1 d1] 46)) := (Below.refl _ _).alloc (Nat.le_refl _) _
                  have HAL := Lib.hid hal
                  have HVS := Lib.hid (vS.below hal)
                  have HQM := Lib.hid (qm.below hal)
                  have pt := HAC.out _ (hbw.trans (hal.mono hbw.size)) tt htn
                  have ps := HAC.out _ (hbw.trans (hal.mono hbw.size)) s hlt
                  obtain ⟨y, hy⟩ : ∃ y, y = N tt := ⟨_, rfl⟩
                  obtain ⟨z, hzz⟩ : ∃ z, z = N s := ⟨_, rfl⟩
                  rw [← hy] at pt hDY hDN
                  rw [← hzz] at ps hDY hDN
                  have b0 : (wr.alloc (.cells #[.int .i64 (f : Int), .int .i64 (tt : Int), .bool s1, .slice A1 n1 c1, .slice B1 m1 d1] 46)).cell? ⟨wr.heap.size, 0, none⟩ = some (.int .i64 (f : Int)) := by simp
                  have b2 : (wr.alloc (.cells #[.int .i64 (f : Int), .int .i64 (tt : Int), .bool s1, .slice A1 n1 c1, .slice B1 m1 d1] 46)).cell? ⟨wr.heap.size, 1, none⟩ = some (.int .i64 (tt : Int)) := by simp
                  have b3 : (wr.alloc (.cells #[.int .i64 (f : Int), .int .i64 (tt : Int), .bool s1, .slice A1 n1 c1, .slice B1 m1 d1] 46)).cell? ⟨wr.heap.size, 2, none⟩ = some (.bool s1) := by simp
                  have b4 : (wr.alloc (.cells #[.int .i64 (f : Int), .int .i64 (tt : Int), .bool s1, .slice A1 n1 c1, .slice B1 m1 d1] 46)).cell? ⟨wr.heap.size, 3, none⟩ = some (.slice A1 n1 c1) := by simp
                  have b5 : (wr.alloc (.cells #[.int .i64 (f : Int), .int .i64 (tt : Int), .bool s1, .slice A1 n1 c1, .slice B1 m1 d1] 46)).cell? ⟨wr.heap.size, 4, none⟩ = some (.slice B1 m1 d1) := by simp
                  have hwz9 : (wr.alloc (.cells #[.int .i64 (f : Int), .int .i64 (tt : Int), .bool s1, .slice A1 n1 c1, .slice B1 m1 d1] 46)).heap.size = wr.heap.size + 1 := by simp
                  clear hf ht hq hy hzz hft hfn r1 hb hbw hal q1 q2 vS qm
                  go_wp2
                  obtain ⟨W9, hW9⟩ : ∃ W9, W9 = (wr.alloc (.cells #[.int .i64 (f : Int), .int .i64 (tt : Int), .bool s1, .slice A1 n1 c1, .slice B1 m1 d1] 46)) := ⟨_, rfl⟩
                  rw [← hW9] at HAL HVS HQM pt ps b0 b2 b3 b4 b5 hwz9 ⊢
                  clear hW9
                  have x0 := fun y : Sub W9 => y.cell b0
                  have x1 := fun y : Sub W9 => y.cell b2
                  have x2 := fun y : Sub W9 => y.cell pt
                  have x3 := fun y : Sub W9 => y.cell ps
                  by_cases h12 : f = s ∧ y ≠ z
                  · obtain ⟨h1, h2⟩ := h12
                    have HE := Lib.hid (hDY h1 h2)
                    subst h1
                    have e1 : ((f : Int) == (f : Int)) = true := by simp
                    have e2 : ((y : Int) != (z : Int)) = true := by simp; omega
                    clear hDY hDN h2
                    ((refine wp_region_quiet_bel (by kernel_rfl) (by kernel_rfl) ?_); (repeat (go_big_quiet_step (fail))); (refine wpQuiet_nil ?_); rintro w7 ⟨⟨_, hb7⟩, rfl⟩; (try dsimp only))
                    have vq := HVS.out.below hb7
                    have HVQ := Lib.hid vq
                    have HQ7 := Lib.hid (HQM.out.below hb7)
                    have Q2 := (hb7.cell (p := ⟨wr.heap.size, 2, none⟩) (by show wr.heap.size < _; omega)).trans b3
                    have Q3 := (hb7.cell (p := ⟨wr.heap.size, 3, none⟩) (by show wr.heap.size < _; omega)).trans b4
                    have Q4 := (hb7.cell (p := ⟨wr.heap.size, 4, none⟩) (by show wr.heap.size < _; omega)).trans b5
                    have HB7 := Lib.hid ((HB.out.trans (HAL.out.mono (by omega))).trans (hb7.mono (by omega)))
                    have hz7 := hb7.size
                    obtain ⟨⟨s8, A8, n8, c8, B8, m8, d8, o0, o1, o2, r0⟩, hRB, hgz, hgf⟩ := vq
                    have qd := r0.canQ hSk
                    have KA := Lib.hid (fun W (hb : Below w7.heap.size w7 W) => addQ (qd.below hb) (HQ7.out.below hb) (by omega) (by omega))
                    clear r0 qd hRB x0 x1 x2 x3 b0 b2 b3 b4 b5 pt ps hb7 HVS HQM HB
                    go_wp2_with fail
                    (go_wp2_with fail; (with_reducible refine (KA.out _ (by (skip); repeat' (first | (with_reducible exact Below.refl _ _) | (with_reducible assumption) | (with_reducible refine Below.alloc ?_ ?_ _) | (with_reducible refine Below.drew ?_) | (with_reducible refine below_drewN ?_ _) | (with_reducible refine Below.setCell ?_ ?_ _) | (with_reducible refine Below.trans ?_ (Below.mono (by with_reducible assumption) ?_)) | omega | (simp only [ZA, ZS, ZD, ZN]; omega) | go_size))).mono ?_); rintro e w4 ⟨⟨v4, rfl, own4⟩, hb4⟩; have hb4z := Below.size hb4; (try simp only [ZA, ZS, ZD, ZN] at hb4z); have hb4c0 := fun o => below_at hb4 (wS.heap.size) o (by first | omega | (simp only [ZA, ZS, ZD, ZN]; omega)); have hb4f0 := fun o => below_fr hb4 (wS.heap.size) o (by first | omega | (simp only [ZA, ZS, ZD, ZN]; omega)))
                    obtain ⟨s9, A9, n9, c9, B9, m9, d9, rfl⟩ := own4.form
                    have hgf4 : ∀ i, w4.frozen? ⟨wS.heap.size, i, none⟩ = false := fun i => by rw [hb4f0]; exact hgf i
                    have hVP := (HVQ.out.below hb4).put (own4.rs (b0 := 0))
                    rw [← HE.out] at hVP
                    have HVP := Lib.hid hVP
                    have HBP := Lib.hid (below_set3 (g := wS.heap.size) (HB7.out.trans (hb4.mono (by have := HB7.out.size; omega))) (Nat.le_refl _) (.bool s9) (.slice A9 n9 c9) (.slice B9 m9 d9))
                    have p0 : w4.cell? ⟨wS.heap.size, 0, none⟩ = some (.bool s8) := by rw [hb4c0]; exact o0
                    have p1 : w4.cell? ⟨wS.heap.size, 1, none⟩ = some (.slice A8 n8 c8) := by rw [hb4c0]; exact o1
                    have p2 : w4.cell? ⟨wS.heap.size, 2, none⟩ = some (.slice B8 m8 d8) := by rw [hb4c0]; exact o2
                    clear hVP hb4 hb4c0 hb4f0 own4 o0 o1 o2
                    go_wp2
                    go_roundw
                    case rel => exact ⟨k + 1, by omega, by go_num, HVP.out, HBP.out⟩
                    case measure => simp [intOf]; omega
                  · have HE := Lib.hid (hDN h12)
                    have H12 := Lib.hid h12
                    clear hDY hDN h12
                    by_cases h1 : f = s
                    · have e1 : ((f : Int) == (s : Int)) = true := by simp [h1]
                      have e2 : ((y : Int) != (z : Int)) = false := by
                        by_cases e : y = z
                        · simp [e]
                        · exact absurd ⟨h1, e⟩ H12.out
                      clear h1
                      ((refine wp_region_quiet_bel (by kernel_rfl) (by kernel_rfl) ?_); (repeat (go_big_quiet_step (fail))); (refine wpQuiet_nil ?_); rintro w7 ⟨⟨_, hb7⟩, rfl⟩; (try dsimp only))
                      have HV7 := Lib.hid (HVS.out.below hb7)
                      have HB7 := Lib.hid ((HB.out.trans (HAL.out.mono (by omega))).trans (hb7.mono (by omega)))
                      clear hb7
                      go_wp2
                      go_roundw
                      case rel => exact ⟨k + 1, by omega, by go_num, by rw [HE.out]; exact HV7.out, HB7.out⟩
                      case measure => simp [intOf]; omega
                    · have e1 : ((f : Int) == (s : Int)) = false := by simp; omega
                      clear h1
                      ((refine wp_region_quiet_bel (by kernel_rfl) (by kernel_rfl) ?_); (repeat (go_big_quiet_step (fail))); (refine wpQuiet_nil ?_); rintro w7 ⟨⟨_, hb7⟩, rfl⟩; (try dsimp only))
                      have HV7 := Lib.hid (HVS.out.below hb7)
                      have HB7 := Lib.hid ((HB.out.trans (HAL.out.mono (by omega))).trans (hb7.mono (by omega)))
                      clear hb7
                      go_wp2
                      go_roundw
                      case rel => exact ⟨k + 1, by omega, by go_num, by rw [HE.out]; exact HV7.out, HB7.out⟩
                      case measure => simp [intOf]; omega
                · have hkm : k = c.nm := by omega
                  have HKM := Lib.hid hkm
                  have HV1 := Lib.hid vS
                  have HB1 := Lib.hid hb
                  obtain ⟨wM, hwM⟩ : ∃ wM, wM = wr := ⟨_, rfl⟩
                  rw [← hwM] at HV1 HB1 hz2 hvz ⊢
                  have E2 := (HB1.out.cell (p := ⟨w8.heap.size, 2, none⟩) hwS2).trans D2
                  clear vS hb hbw hkm
                  clear hwM
                  go_wp2
                  go_loopw [126] (fun i wr => ∃ j : Nat, j ≤ X.nm ∧ i = .int .i64 (j : Int) ∧ VarR wS.heap.size (Df s c.nm j) wr ∧ Below wS.heap.size wS wr) (fun i _ => X.nm - (intOf i).toNat)
                  case atStart => exact ⟨0, Nat.zero_le _, rfl, by rw [← HKM.out]; exact HV1.out, HB1.out⟩
                  case round =>
                    clear HV1 HB1 HKM
                    obtain ⟨j, hj, rfl, vS, hb⟩ := hrel
                    have hz2 := hb.size
                    have hvz := vS.2.2.1
                    have hbw := HS.out.trans (hb.mono HS.out.size)
                    by_cases hlt2 : j < X.nm
                    · obtain ⟨bm, om, s1, A1, n1, c1, B1, m1, d1, rfl, hbm, g0, g1, g2, g3, g4, r1, hfn, htn, hft⟩ := HMX2.out wr hbw j hlt2
                      obtain ⟨q1, q2⟩ := HXQ.out j hlt2
                      have qm : RdQ wr 400 (rv s1 A1 n1 c1 B1 m1 d1) (X.q j) := r1.rdq (L := 400) q1 q2
                      have hBY := HBY.out s c.nm j
                      have hBN := HBN.out s c.nm j
                      have hSk := HSZ.out s c.nm j (Nat.le_refl _) hj
                      obtain ⟨f, hf⟩ : ∃ f, f = X.f j := ⟨_, rfl⟩
                      obtain ⟨tt, ht⟩ : ∃ tt, tt = X.t j := ⟨_, rfl⟩
                      obtain ⟨q, hq⟩ : ∃ q, q = X.q j := ⟨_, rfl⟩
                      rw [← hf] at g0 hBY hBN
                      rw [← ht] at g1
                      rw [← hq] at hBY qm
                      have hki : (j : Int) < (X.nm : Int) := by omega
                      have hk0 : (0 : Int) ≤ (j : Int) := by omega
                      have HB := Lib.hid hb
                      have hal : Below wr.heap.size wr (wr.alloc (.cells #[.int .i64 (f : Int), .int .i64 (tt : Int), .bool s1, .slice A1 n1 c1, .slice B1 m1 d1] 46)) := (Below.refl _ _).alloc (Nat.le_refl _) _
                      have HAL := Lib.hid hal
                      have HVS := Lib.hid (vS.below hal)
                      have HQM := Lib.hid (qm.below hal)
                      have ps := HAC.out _ (hbw.trans (hal.mono hbw.size)) s hlt
                      obtain ⟨z, hzz⟩ : ∃ z, z = N s := ⟨_, rfl⟩
                      rw [← hzz] at ps hBY hBN
                      have b0 : (wr.alloc (.cells #[.int .i64 (f : Int), .int .i64 (tt : Int), .bool s1, .slice A1 n1 c1, .slice B1 m1 d1] 46)).cell? ⟨wr.heap.size, 0, none⟩ = some (.int .i64 (f : Int)) := by simp
                      have b2 : (wr.alloc (.cells #[.int .i64 (f : Int), .int .i64 (tt : Int), .bool s1, .slice A1 n1 c1, .slice B1 m1 d1] 46)).cell? ⟨wr.heap.size, 1, none⟩ = some (.int .i64 (tt : Int)) := by simp
                      have b3 : (wr.alloc (.cells #[.int .i64 (f : Int), .int .i64 (tt : Int), .bool s1, .slice A1 n1 c1, .slice B1 m1 d1] 46)).cell? ⟨wr.heap.size, 2, none⟩ = some (.bool s1) := by simp
                      have b4 : (wr.alloc (.cells #[.int .i64 (f : Int), .int .i64 (tt : Int), .bool s1, .slice A1 n1 c1, .slice B1 m1 d1] 46)).cell? ⟨wr.heap.size, 3, none⟩ = some (.slice A1 n1 c1) := by simp
                      have b5 : (wr.alloc (.cells #[.int .i64 (f : Int), .int .i64 (tt : Int), .bool s1, .slice A1 n1 c1, .slice B1 m1 d1] 46)).cell? ⟨wr.heap.size, 4, none⟩ = some (.slice B1 m1 d1) := by simp
                      have hwz9 : (wr.alloc (.cells #[.int .i64 (f : Int), .int .i64 (tt : Int), .bool s1, .slice A1 n1 c1, .slice B1 m1 d1] 46)).heap.size = wr.heap.size + 1 := by simp
                      clear hf ht hq hzz hft hfn htn r1 hb hbw hal q1 q2 vS qm
                      go_wp2
                      obtain ⟨W9, hW9⟩ : ∃ W9, W9 = (wr.alloc (.cells #[.int .i64 (f : Int), .int .i64 (tt : Int), .bool s1, .slice A1 n1 c1, .slice B1 m1 d1] 46)) := ⟨_, rfl⟩
                      rw [← hW9] at HAL HVS HQM ps b0 b2 b3 b4 b5 hwz9 ⊢
                      clear hW9
                      have x0 := fun y : Sub W9 => y.cell b0
                      have x3 := fun y : Sub W9 => y.cell ps
                      by_cases h1 : f = z
                      · have HE := Lib.hid (hBY h1)
                        subst h1
                        have e1 : ((f : Int) == (f : Int)) = true := by simp
                        clear hBY hBN
                        ((refine wp_region_quiet_bel (by kernel_rfl) (by kernel_rfl) ?_); (repeat (go_big_quiet_step (fail))); (refine wpQuiet_nil ?_); rintro w7 ⟨⟨_, hb7⟩, rfl⟩; (try dsimp only))
                        have vq := HVS.out.below hb7
                        have HVQ := Lib.hid vq
                        have HQ7 := Lib.hid (HQM.out.below hb7)
                        have Q2 := (hb7.cell (p := ⟨wr.heap.size, 2, none⟩) (by show wr.heap.size < _; omega)).trans b3
                        have Q3 := (hb7.cell (p := ⟨wr.heap.size, 3, none⟩) (by show wr.heap.size < _; omega)).trans b4
                        have Q4 := (hb7.cell (p := ⟨wr.heap.size, 4, none⟩) (by show wr.heap.size < _; omega)).trans b5
                        have HB7 := Lib.hid ((HB.out.trans (HAL.out.mono (by omega))).trans (hb7.mono (by omega)))
                        have hz7 := hb7.size
                        obtain ⟨⟨s8, A8', n8, c8, B8', m8, d8, o0, o1, o2, r0⟩, hRB, hgz, hgf⟩ := vq
                        have qd := r0.canQ hSk
                        have KA := Lib.hid (fun W (hb : Below w7.heap.size w7 W) => subQ (qd.below hb) (HQ7.out.below hb) (by omega) (by omega))
                        clear r0 qd hRB x0 x3 b0 b2 b3 b4 b5 ps hb7 HVS HQM HB
                        go_wp2_with fail
                        (go_wp2_with fail; (with_reducible refine (KA.out _ (by (skip); repeat' (first | (with_reducible exact Below.refl _ _) | (with_reducible assumption) | (with_reducible refine Below.alloc ?_ ?_ _) | (with_reducible refine Below.drew ?_) | (with_reducible refine below_drewN ?_ _) | (with_reducible refine Below.setCell ?_ ?_ _) | (with_reducible refine Below.trans ?_ (Below.mono (by with_reducible assumption) ?_)) | omega | (simp only [ZA, ZS, ZD, ZN]; omega) | go_size))).mono ?_); rintro e w4 ⟨⟨v4, rfl, own4⟩, hb4⟩; have hb4z := Below.size hb4; (try simp only [ZA, ZS, ZD, ZN] at hb4z); have hb4c0 := fun o => below_at hb4 (wS.heap.size) o (by first | omega | (simp only [ZA, ZS, ZD, ZN]; omega)); have hb4f0 := fun o => below_fr hb4 (wS.heap.size) o (by first | omega | (simp only [ZA, ZS, ZD, ZN]; omega)))
                        obtain ⟨s9, A9, n9, c9, B9, m9, d9, rfl⟩ := own4.form
                        have hgf4 : ∀ i, w4.frozen? ⟨wS.heap.size, i, none⟩ = false := fun i => by rw [hb4f0]; exact hgf i
                        have hVP := (HVQ.out.below hb4).put (own4.rs (b0 := 0))
                        rw [← HE.out] at hVP
                        have HVP := Lib.hid hVP
                        have HBP := Lib.hid (below_set3 (g := wS.heap.size) (HB7.out.trans (hb4.mono (by have := HB7.out.size; omega))) (Nat.le_refl _) (.bool s9) (.slice A9 n9 c9) (.slice B9 m9 d9))
                        have p0 : w4.cell? ⟨wS.heap.size, 0, none⟩ = some (.bool s8) := by rw [hb4c0]; exact o0
                        have p1 : w4.cell? ⟨wS.heap.size, 1, none⟩ = some (.slice A8' n8 c8) := by rw [hb4c0]; exact o1
                        have p2 : w4.cell? ⟨wS.heap.size, 2, none⟩ = some (.slice B8' m8 d8) := by rw [hb4c0]; exact o2
                        clear hVP hb4 hb4c0 hb4f0 own4 o0 o1 o2
                        go_wp2
                        go_roundw
                        case rel => exact ⟨j + 1, by omega, by go_num, HVP.out, HBP.out⟩
                        case measure => simp [intOf]; omega
                      · have HE := Lib.hid (hBN h1)
                        have e1 : ((f : Int) == (z : Int)) = false := by simp; omega
                        clear h1 hBY hBN
                        ((refine wp_region_quiet_bel (by kernel_rfl) (by kernel_rfl) ?_); (repeat (go_big_quiet_step (fail))); (refine wpQuiet_nil ?_); rintro w7 ⟨⟨_, hb7⟩, rfl⟩; (try dsimp only))
                        have HV7 := Lib.hid (HVS.out.below hb7)
                        have HB7 := Lib.hid ((HB.out.trans (HAL.out.mono (by omega))).trans (hb7.mono (by omega)))
                        clear hb7
                        go_wp2
                        go_roundw
                        case rel => exact ⟨j + 1, by omega, by go_num, by rw [HE.out]; exact HV7.out, HB7.out⟩
                        case measure => simp [intOf]; omega
                    · have hjm : j = X.nm := by omega
                      subst hjm
                      have F3 := (hb.cell (p := ⟨w.heap.size, 3, none⟩) hwS1).trans C3
                      have G3 := (hb.cell (p := ⟨w8.heap.size, 3, none⟩) hwS2).trans D3
                      have ps := HAC.out _ hbw s hlt
                      have nl := HNL.out s hlt
                      have xd := HXC2.out _ hbw _ nl
                      have cd9 := HDC2.out _ hbw s hlt
                      rw [HXD.out s hlt] at xd
                      obtain ⟨z, hzz⟩ : ∃ z, z = N s := ⟨_, rfl⟩
                      rw [← hzz] at ps nl xd
                      obtain ⟨t, htt⟩ : ∃ t, t = c.D s := ⟨_, rfl⟩
                      rw [← htt] at xd cd9
                      have hzi : (z : Int) < (X.nd : Int) := by omega
                      have hz0 : (0 : Int) ≤ (z : Int) := by omega
                      have e9 : (t != t) = false := by simp
                      obtain ⟨⟨s8, A8', n8, c8, B8', m8, d8, o0, o1, o2, r0⟩, -, -, -⟩ := vS
                      have qd := r0.canQ (HSZ.out s c.nm X.nm (Nat.le_refl _) (Nat.le_refl _))
                      rw [HDE.out s hlt] at qd
                      have KSg := Lib.hid (fun W (hb : Below wr.heap.size wr W) => signQ (qd.below hb) (by omega) (by omega))
                      rw [sgnQ_zero.2 rfl] at KSg
                      have HBn := Lib.hid hbw
                      have x0 := fun y : Sub wr => y.cell o0
                      have x1 := fun y : Sub wr => y.cell o1
                      have x2 := fun y : Sub wr => y.cell o2
                      have x3 := fun y : Sub wr => y.cell F3
                      have x4 := fun y : Sub wr => y.cell G3
                      have x5 := fun y : Sub wr => y.cell ps
                      have x6 := fun y : Sub wr => y.cell xd
                      have x7 := fun y : Sub wr => y.cell cd9
                      clear F3 G3 ps nl xd cd9 hzz htt o0 o1 o2 r0 qd hb hbw E2
                      go_wp2
                      ((refine wp_region_quiet_bel (by kernel_rfl) (by kernel_rfl) ?_); (repeat (go_big_quiet_step ((go_at_call 20; with_reducible exact Calls.quiet_bel (KSg.out _ (Sub.bel _)))))); (refine wpQuiet_nil ?_); rintro w7 ⟨⟨_, hb7⟩, rfl⟩; (try dsimp only))
                      all_goals
                        have HBr := Lib.hid (HBn.out.trans (hb7.mono HBn.out.size))
                        clear hb7
                        go_wp2
                        go_roundw
                        case rel => exact ⟨s + 1, by omega, by go_num, HBr.out⟩
                        case measure => simp [intOf]; omega
            · have ps := HAC.out _ HS.out sr hsl
              have hri : (sr : Int) < (c.nd : Int) := by omega
              have hr0 : (0 : Int) ≤ (sr : Int) := by omega
              obtain ⟨z, hzz⟩ : ∃ z, z = N sr := ⟨_, rfl⟩
              rw [← hzz] at ps D1
              have e9 : ((z : Int) == (z : Int)) = true := by simp
              have x0 := fun y : Sub wS => y.cell C1
              have x1 := fun y : Sub wS => y.cell D1
              have x2 := fun y : Sub wS => y.cell ps
              have HBw := Lib.hid (HB9.out.trans (HS.out.mono HB9.out.size))
              clear C1 D1 ps hzz C0 C2 C3 D2 D3
              go_wp2
              ((refine wp_region_quiet_bel (by kernel_rfl) (by kernel_rfl) ?_); (repeat (go_big_quiet_step (fail))); (refine wpQuiet_nil ?_); rintro w7 ⟨⟨_, hb7⟩, rfl⟩; (try dsimp only))
              go_wp2
              go_ret
              exact ⟨rfl, HBw.out.trans (hb7.mono HBw.out.size)⟩
        · rw [hc]
          clear hc i8 hb8 hB7 hB8 h8a KQ HCQ
          rw [errM_n (by omega)]
          go_wp2_with fail
          (with_reducible refine (bis_eq 15 _).mono ?_)
          rintro e _ ⟨rfl, rfl⟩
          go_wp2
          go_ret
          exact ⟨rfl, HB8.out.trans (H8A.out.mono HB8.out.size)⟩
        · rw [hc]
          clear hc i8 hb8 hB7 hB8 h8a KQ HCQ
          rw [errM_n (by omega)]
          go_wp2_with fail
          (with_reducible refine (bis_ne (n := 7) (k := 15) (by omega) _).mono ?_)
          rintro e _ ⟨rfl, rfl⟩
          go_wp2_with fail
          (with_reducible refine (bis_eq 7 _).mono ?_)
          rintro e _ ⟨rfl, rfl⟩
          go_wp2
          go_ret
          exact ⟨rfl, HB8.out.trans (H8A.out.mono HB8.out.size)⟩
end Go.Proofs.YtlncafhgmbhocaaGreatDoor
