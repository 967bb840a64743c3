/- Contracts of functions and lemmas, used by the proofs of the given statements. No condition beyond those that each lemma names. -/
import Derived.Test.YtlncafhgmbhocaaGreatDoorJLmR4
import Derived.Test.YtlncafhgmbhocaaGreatDoorJLmW5
import Derived.Test.YtlncafhgmbhocaaGreatDoorJMcP
import Derived.Test.YtlncafhgmbhocaaGreatDoorJBase
namespace Go.Proofs.YtlncafhgmbhocaaGreatDoor
open Go.RowKit
set_option linter.unusedSimpArgs false
set_option linter.unusedVariables false
set_option maxRecDepth 20000
/-! ## the reference of law51: Coarsest -/
theorem firS_self {R : Nat → Nat → Bool} (h : Eqv R) {k : Nat} (hv : ∀ i, i < k → R i k = false) : firS R k = k := by
  obtain ⟨h1, h2, -⟩ := firS_spec h k
  rcases Nat.lt_or_eq_of_le h1 with h3 | h3
  · rw [hv _ h3] at h2; cases h2
  · exact h3
attribute [local irreducible] nv wp win plainB validR valR canR mvE chkM codeC smK alk badP nrm firS intoQ crsP itP rfn
set_option maxHeartbeats 16000000 in
theorem lrCoarsest_any {w : World} {AM AD AV : Option Addr} {cm cd n ca : Nat} {c : Chn} {P : Nat → Int} (h : ChI w w.heap.size AM cm AD cd c) (hs : ChS c 400) (hv : PaI w AV n P) (hn : n ≤ 1000) (hca : n ≤ ca)
    (hsz : c.Ok → ∀ p s d k, k ≤ c.nm → Sz 400 (intoQ c.f c.t c.q k p s d)) :
    Calls Tryz.prog 27 #[cv c.st c.sr AM c.nm cm AD c.nd cd, .slice AV n ca] w fun e w' => AnsP (.int .i64) (lenC (c.codeL n P) n) (fun i => ((crsP c.f c.t c.q c.nm c.nd (prt P) i : Nat) : Int)) (c.codeL n P) e w' ∧ Below w.heap.size w w' := by
  have K1 := Lib.hid (fun W (hb : Below w.heap.size w W) => lrErr_any (ca := ca) (h.below hb) hs (hv.below hb) (by omega))
  by_cases h0 : c.codeL n P = 0
  · obtain ⟨hc0, hnn, hin⟩ := Chn.codeL_0 h0
    have ok := Chn.ok_iff.1 hc0
    subst hnn
    have hn1 := ok.lo
    have hn2 := ok.hi
    have hpp := prt_is hin
    have hst := ok.st
    rw [h0] at K1
    obtain ⟨it, hit⟩ : ∃ it : Nat → Nat → Nat, it = itP c.f c.t c.q c.nm c.nd (prt P) := ⟨_, rfl⟩
    have hit0 : it 0 = nrm (relP (prt P)) := by rw [hit]; unfold itP; rfl
    have hits : ∀ t, it (t + 1) = nrm (rfn c.f c.t c.q c.nm c.nd (it t)) := fun t => by
      rw [hit]
      conv => lhs; unfold itP
      rfl
    obtain ⟨R, hR⟩ : ∃ R : Nat → Nat → Nat → Bool, R = fun t => rfn c.f c.t c.q c.nm c.nd (it t) := ⟨_, rfl⟩
    have hRE : ∀ t, Eqv (R t) := fun t => by rw [hR]; exact rfn_eqv
    obtain ⟨Z, hZ⟩ : ∃ Z : Nat → Nat → Int, Z = fun t i => ((it t i : Nat) : Int) := ⟨_, rfl⟩
    obtain ⟨L, hL⟩ : ∃ L : Nat → Nat → Nat → Bool, L = fun t a b => alk c.f c.t c.q c.nm c.nd (it t) a b := ⟨_, rfl⟩
    obtain ⟨G, hG⟩ : ∃ G : Nat → Nat → Int, G = fun t i => ((firS (R t) i : Nat) : Int) := ⟨_, rfl⟩
    have K2 : Hid (∀ W, Below w.heap.size w W → Calls Tryz.prog 46 #[.slice AV c.nd ca] W fun e w' => (∃ A' c', e = .returned (.slice A' c.nd c') ∧ c.nd ≤ c' ∧ OwZ w' W.heap.size A' c' c.nd (Z 0)) ∧ Below W.heap.size W w') := fun W hb => by
      have := lrNorm_any (c := ca) (hv.below hb) (fun i hi => (hpp i hi).1) hn hca
      rw [← hit0] at this
      rw [hZ]
      exact this
    have K3 : Hid (∀ t W A d, PaI W A c.nd (G t) → c.nd ≤ d → Calls Tryz.prog 46 #[.slice A c.nd d] W fun e w' => (∃ A' c', e = .returned (.slice A' c.nd c') ∧ c.nd ≤ c' ∧ OwZ w' W.heap.size A' c' c.nd (Z (t + 1))) ∧ Below W.heap.size W w') := fun t W A d hp hd => by
      have := lrNorm_any (p := firS (R t)) hp (fun i _ => by rw [hG]) hn hd
      rw [nrm_lst (hRE t), hR, ← hits t] at this
      rw [hZ]
      exact this
    have KA : Hid (∀ t W A d a b, PaI W A c.nd (Z t) → Below w.heap.size w W → a < c.nd → Calls Tryz.prog 65 #[cv c.st c.sr AM c.nm cm AD c.nd cd, .slice A c.nd d, .int .i64 ((a : Nat) : Int), .int .i64 ((b : Nat) : Int)] W fun e w' => e = .returned (.bool (L t a b)) ∧ Below W.heap.size W w') := fun t W A d a b hp hb ha => by
      rw [hL]
      exact ralike_any (p := it t) (h.below hb) ok hs hp (fun i _ => by rw [hZ]) ha (hsz ok (it t))
    have HRY : Hid (∀ t a b, Z t a = Z t b → L t a b = true → R t b a = true) := fun t a b h1 h2 => by
      rw [hZ] at h1
      rw [hL] at h2
      have h1' : it t a = it t b := by have : ((it t a : Nat) : Int) = ((it t b : Nat) : Int) := h1; omega
      apply (hRE t).sy
      rw [hR]
      unfold rfn
      show (it t a == it t b && alk c.f c.t c.q c.nm c.nd (it t) a b) = true
      have h2' : alk c.f c.t c.q c.nm c.nd (it t) a b = true := h2
      rw [h2', h1']
      simp
    have HRN : Hid (∀ t a b, (Z t a ≠ Z t b ∨ L t a b = false) → R t b a = false) := fun t a b hx => by
      cases e : R t b a
      · rfl
      · have e2 := (hRE t).sy _ _ e
        rw [hR] at e2
        unfold rfn at e2
        rw [Bool.and_eq_true] at e2
        have h1 : it t a = it t b := by simpa using e2.1
        rcases hx with hx | hx
        · rw [hZ] at hx
          exact absurd (show ((it t a : Nat) : Int) = ((it t b : Nat) : Int) by rw [h1]) hx
        · rw [hL] at hx
          have h3 : alk c.f c.t c.q c.nm c.nd (it t) a b = false := hx
          rw [h3] at e2
          exact absurd e2.2 (by simp)
    have HGS : Hid (∀ t k, (∀ i, i < k → R t i k = false) → G t k = (k : Int)) := fun t k hx => by rw [hG]; show ((firS (R t) k : Nat) : Int) = _; rw [firS_self (hRE t) hx]
    have HGE : Hid (∀ t i k, R t i k = true → G t i = G t k) := fun t i k hx => by rw [hG]; show ((firS (R t) i : Nat) : Int) = ((firS (R t) k : Nat) : Int); rw [firS_same (hRE t) hx]
    obtain ⟨C, hC⟩ : ∃ C : Nat → Int, C = fun i => ((crsP c.f c.t c.q c.nm c.nd (prt P) i : Nat) : Int) := ⟨_, rfl⟩
    have HZC : Hid (Z c.nd = C) := by show Z c.nd = C; rw [hZ, hC, hit]; unfold crsP; rfl
    rw [h0, lenC_0, ← hC]
    obtain ⟨sr, hsr⟩ : ∃ sr, sr = c.sr := ⟨_, rfl⟩
    rw [← hsr, hst] at K1 KA ⊢
    clear hC hG hL hZ hRE hR hits hit0 hit hpp hst hsr h hs hv h0 hc0 hin ok hsz
    have HPB := Lib.hid (fun W hb => par_below (W := W) (w := w) (o := .cells #[.int .i64 (c.nd : Int), .int .i64 sr, .slice AM c.nm cm, .slice AD c.nd cd] 25) hb)
    have HPC := Lib.hid (fun W hb => par_cells (W := W) (w := w) (a := .int .i64 (c.nd : Int)) (b := .int .i64 sr) (d := .slice AM c.nm cm) (e := .slice AD c.nd cd) (t := 25) hb)
    have hW0z : (w.alloc (.cells #[.int .i64 (c.nd : Int), .int .i64 sr, .slice AM c.nm cm, .slice AD c.nd cd] 25)).heap.size = w.heap.size + 1 := by simp
    go_enter Tryz.func27, Tryz.ntmps27
    (go_wp2_with fail; (with_reducible refine (K1.out _ (by (skip); repeat' (first | (with_reducible exact Below.refl _ _) | (with_reducible assumption) | (with_reducible refine Below.alloc ?_ ?_ _) | (with_reducible refine Below.drew ?_) | (with_reducible refine below_drewN ?_ _) | (with_reducible refine Below.setCell ?_ ?_ _) | (with_reducible refine Below.trans ?_ (Below.mono (by with_reducible assumption) ?_)) | omega | (simp only [ZA, ZS, ZD, ZN]; omega) | go_size))).mono ?_); rintro e w1 ⟨rfl, hb1⟩; have hb1z := Below.size hb1; (try simp only [ZA, ZS, ZD, ZN] at hb1z); have hb1c0 := fun o => below_at hb1 (w.heap.size) o (by first | omega | (simp only [ZA, ZS, ZD, ZN]; omega)); have hb1f0 := fun o => below_fr hb1 (w.heap.size) o (by first | omega | (simp only [ZA, ZS, ZD, ZN]; omega)))
    have hB1 : Below (w.heap.size + 1) (w.alloc (.cells #[.int .i64 (c.nd : Int), .int .i64 sr, .slice AM c.nm cm, .slice AD c.nd cd] 25)) w1 := by rw [← hW0z]; exact hb1
    (go_wp2_with fail; (with_reducible refine (K2.out _ (HPB.out _ hB1)).mono ?_); rintro e w2 ⟨⟨A2, d2, rfl, hd2, own2⟩, hb2⟩; have hb2z := Below.size hb2; (try simp only [ZA, ZS, ZD, ZN] at hb2z); have hb2c0 := fun o => below_at hb2 (w.heap.size) o (by first | omega | (simp only [ZA, ZS, ZD, ZN]; omega)); have hb2f0 := fun o => below_fr hb2 (w.heap.size) o (by first | omega | (simp only [ZA, ZS, ZD, ZN]; omega)))
    have hB2 := hB1.trans (hb2.mono (by have := hB1.size; simp at this; omega))
    have hz2 : w.heap.size + 1 ≤ w2.heap.size := by have := hB2.size; simp at this; omega
    obtain ⟨y0, -, -, -⟩ := HPC.out _ hB2
    have HP2 := Lib.hid own2.pa
    have HB2 := Lib.hid hB2
    clear hb1 hb2 hB1 hB2 own2 hb1c0 hb2c0 hb1f0 hb2f0 K1 K2
    generalize w.alloc (.cells #[.int .i64 (c.nd : Int), .int .i64 sr, .slice AM c.nm cm, .slice AD c.nd cd] 25) = W0 at *
    go_wp2
    clear y0
    go_loopw [21, 7] (fun i ns wr => ∃ (t : Nat) (A : Option Addr) (d : Nat), t ≤ c.nd ∧ i = .int .i64 (t : Int) ∧ ns = .slice A c.nd d ∧ c.nd ≤ d ∧ PaI wr A c.nd (Z t) ∧ Below (w.heap.size + 1) W0 wr ∧ w.heap.size < wr.heap.size) (fun i _ _ => c.nd - (intOf i).toNat)
    case atStart => exact ⟨0, A2, d2, Nat.zero_le _, rfl, rfl, hd2, HP2.out, HB2.out, by omega⟩
    case round =>
      clear HP2 HB2
      obtain ⟨t, A, d, ht, rfl, rfl, hd, hp, hb, hg⟩ := hrel
      have hbz := hb.size
      have HP := Lib.hid hp
      have HB := Lib.hid hb
      obtain ⟨y0, y1, y2, y3⟩ := HPC.out _ hb
      have HBW := Lib.hid (HPB.out _ hb)
      clear hp hb
      obtain ⟨wo, hwo⟩ : ∃ wo, wo = wr := ⟨_, rfl⟩
      subst hwo
      by_cases htl : t < c.nd
      · have hti : (t : Int) < (c.nd : Int) := by omega
        have ht0 : (0 : Int) ≤ (t : Int) := by omega
        have HY : Hid (∀ W, Below wo.heap.size wo W → W.cell? ⟨w.heap.size, 0, none⟩ = some (.int .i64 (c.nd : Int)) ∧ W.cell? ⟨w.heap.size, 1, none⟩ = some (.int .i64 sr) ∧ W.cell? ⟨w.heap.size, 2, none⟩ = some (.slice AM c.nm cm) ∧ W.cell? ⟨w.heap.size, 3, none⟩ = some (.slice AD c.nd cd)) := fun W hb => ⟨(hb.cell (p := ⟨w.heap.size, 0, none⟩) hg).trans y0, (hb.cell (p := ⟨w.heap.size, 1, none⟩) hg).trans y1, (hb.cell (p := ⟨w.heap.size, 2, none⟩) hg).trans y2, (hb.cell (p := ⟨w.heap.size, 3, none⟩) hg).trans y3⟩
        go_wp2_with (first | (at_make; refine wpList_makeZ rfl (.tmp 24) (.tmp 24) rfl wo.heap.size c.nd (c.nd : Int) (c.nd : Int) (by first | rfl | simp [Act.eval]) (by first | rfl | simp [Act.eval]) rfl rfl (by omega) (Nat.le_refl _) ?_; intro w7 own7 hb7; (have y70 := (hb7.cell (p := ⟨w.heap.size, 0, none⟩) hg).trans y0)) | fail)
        have HO7 := Lib.hid own7
        have HB7 := Lib.hid hb7
        clear own7 hb7 y70 y0 y1 y2 y3
        go_loopw [28] (fun i wr => ∃ k : Nat, k ≤ c.nd ∧ i = .int .i64 (k : Int) ∧ OwZ wr wo.heap.size (some ⟨wo.heap.size, 0, none⟩) c.nd c.nd (fun j => if j < k then G t j else 0) ∧ Below wo.heap.size wo wr) (fun i _ => c.nd - (intOf i).toNat)
        case atStart => exact ⟨0, Nat.zero_le _, rfl, HO7.out.congr (fun j hj => by simp), HB7.out⟩
        case round =>
          clear HO7 HB7
          obtain ⟨k, hk, rfl, own, hb⟩ := hrel
          have hzr := hb.size
          by_cases hlt : k < c.nd
          · have hki : (k : Int) < (c.nd : Int) := by omega
            have hk0 : (0 : Int) ≤ (k : Int) := by omega
            have hz0 := own.at_ hlt
            have hfz := own.frozen
            have st := own.set k (k : Int)
            have hb2 := hb.trans (below_of_row st.2 (fun q hq => by injection hq with hq; omega) hzr)
            have HST := Lib.hid st.1
            have HB2 := Lib.hid hb2
            clear own hb st hb2
            go_wp2
            clear hz0 hfz
            go_loopw [10] (fun v wr => ∃ (j : Nat) (x : Int), j ≤ k ∧ v = .int .i64 ((j : Int) - 1) ∧ ((x = (k : Int) ∧ ∀ i, j ≤ i → i < k → R t i k = false) ∨ (x = G t k ∧ ∃ i, j ≤ i ∧ i < k ∧ R t i k = true)) ∧ OwZ wr wo.heap.size (some ⟨wo.heap.size, 0, none⟩) c.nd c.nd (upd (fun j => if j < k then G t j else 0) k x) ∧ Below wo.heap.size wo wr) (fun v _ => (intOf v + 1).toNat)
            case atStart => exact ⟨k, (k : Int), Nat.le_refl _, rfl, .inl ⟨rfl, fun i h1 h2 => by omega⟩, HST.out, HB2.out⟩
            case round =>
              clear HST HB2 hzr
              obtain ⟨j, x, hj, rfl, hx, own, hb⟩ := hrel
              have hzr := hb.size
              have HX := Lib.hid hx
              by_cases hj0 : j = 0
              · subst hj0
                have hxk : x = G t k := by
                  rcases hx with ⟨h1, h2⟩ | ⟨h1, -⟩
                  · rw [h1, HGS.out t k (fun i hi => h2 i (by omega) hi)]
                  · exact h1
                have HXK := Lib.hid hxk
                have HO := Lib.hid own
                have HB2 := Lib.hid hb
                clear hx own hb hxk
                rw [show ((0 : Nat) : Int) - 1 = -1 by omega]
                go_wp2
                go_roundw
                case rel =>
                  refine ⟨k + 1, by omega, by go_num, HO.out.congr (fun i hi => ?_), HB2.out⟩
                  unfold upd
                  by_cases e : i = k
                  · rw [if_pos e, if_pos (by omega), e, HXK.out]
                  · rw [if_neg e]
                    show (if i < k then G t i else 0) = if i < k + 1 then G t i else 0
                    by_cases e2 : i < k
                    · rw [if_pos e2, if_pos (by omega)]
                    · rw [if_neg e2, if_neg (by omega)]
                case measure => first | (simp [intOf]; done) | (simp [intOf]; omega)
              · obtain ⟨j', rfl⟩ : ∃ j', j = j' + 1 := ⟨j - 1, by omega⟩
                rw [show ((j' + 1 : Nat) : Int) - 1 = (j' : Int) by omega]
                have hjn : j' < c.nd := by omega
                have hji : (j' : Int) < (c.nd : Int) := by omega
                have hji0 : (0 : Int) ≤ (j' : Int) := by omega
                obtain ⟨y0, y1, y2, y3⟩ := HY.out _ hb
                obtain ⟨b, off, rfl, hbb, pk⟩ := HP.out.later hb hlt
                obtain ⟨b', off', ee, -, pj⟩ := HP.out.later hb hjn
                cases ee
                have zj : wr.cell? ⟨wo.heap.size, j', none⟩ = some (.int .i64 (G t j')) := by rw [own.at_ hjn]; simp [upd, show ¬ j' = k by omega, show j' < k by omega]
                have zk : wr.cell? ⟨wo.heap.size, k, none⟩ = some (.int .i64 x) := by rw [own.at_ hlt]; simp [upd]
                have hfz := own.frozen
                have KE := Lib.hid (fun W (hb' : Below wr.heap.size wr W) => KA.out t W _ d k j' ((HP.out.below hb).below hb') (HBW.out.trans ((hb.trans (hb'.mono hzr)).mono HBW.out.size)) hlt)
                obtain ⟨ans, hans⟩ : ∃ ans, ans = L t k j' := ⟨_, rfl⟩
                have HRY' := HRY.out t k j'
                have HRN' := HRN.out t k j'
                rw [← hans] at KE HRY' HRN'
                obtain ⟨u, hu⟩ : ∃ u, u = Z t k := ⟨_, rfl⟩
                obtain ⟨v, hv⟩ : ∃ v, v = Z t j' := ⟨_, rfl⟩
                rw [← hu] at pk HRY' HRN'
                rw [← hv] at pj HRY' HRN'
                have HO := Lib.hid own
                have HB2 := Lib.hid hb
                have no : R t j' k = false → ((x = (k : Int) ∧ ∀ i, j' ≤ i → i < k → R t i k = false) ∨ (x = G t k ∧ ∃ i, j' ≤ i ∧ i < k ∧ R t i k = true)) := fun e => by
                  rcases hx with ⟨h1, h2⟩ | ⟨h1, i, h2, h3, h4⟩
                  · exact .inl ⟨h1, fun i hi1 hi2 => by
                      by_cases e2 : i = j'
                      · rw [e2]; exact e
                      · exact h2 i (by omega) hi2⟩
                  · exact .inr ⟨h1, i, by omega, h3, h4⟩
                have HNO := Lib.hid no
                clear hans hu hv own hx no
                by_cases huv : u = v
                · subst huv
                  have a0 := fun z : Sub wr => z.cell pk
                  have a1 := fun z : Sub wr => z.cell pj
                  have a2 := fun z : Sub wr => z.cell y0
                  have a3 := fun z : Sub wr => z.cell y1
                  have a4 := fun z : Sub wr => z.cell y2
                  have a5 := fun z : Sub wr => z.cell y3
                  cases ans
                  · have HN2 := Lib.hid (HNO.out (HRN' (.inr rfl)))
                    clear HRY' HRN' hb
                    go_wp2
                    ((refine wp_region_quiet_bel (by kernel_rfl) (by kernel_rfl) ?_); (repeat (go_big_quiet_step ((go_at_call 65; with_reducible exact Calls.quiet_bel (KE.out _ (Sub.bel _)))))); (refine wpQuiet_nil ?_); rintro w8 ⟨⟨_, hb8⟩, rfl⟩; (try dsimp only))
                    have HO8 := Lib.hid (HO.out.below hb8)
                    have HB8 := Lib.hid (HB2.out.trans (hb8.mono hzr))
                    clear hb8
                    go_wp2
                    go_roundw
                    case rel => exact ⟨j', x, by omega, by go_num, HN2.out, HO8.out, HB8.out⟩
                    case measure => first | (simp [intOf]; done) | (simp [intOf]; omega)
                  · have hR1 := HRY' rfl rfl
                    have HN2 := Lib.hid hR1
                    have HGE2 := Lib.hid (HGE.out t j' k hR1)
                    clear HRY' HRN' hb hR1
                    go_wp2
                    ((refine wp_region_quiet_bel (by kernel_rfl) (by kernel_rfl) ?_); (repeat (go_big_quiet_step ((go_at_call 65; with_reducible exact Calls.quiet_bel (KE.out _ (Sub.bel _)))))); (refine wpQuiet_nil ?_); rintro w8 ⟨⟨_, hb8⟩, rfl⟩; (try dsimp only))
                    have o8 := HO.out.below hb8
                    have st := o8.set k (G t j')
                    have hbs := (HB2.out.trans (hb8.mono hzr)).trans (below_of_row st.2 (fun q hq => by injection hq with hq; omega) (by have := hb8.size; omega))
                    have vj : w8.cell? ⟨wo.heap.size, j', none⟩ = some (.int .i64 (G t j')) := (hb8.cell (lt_of_cell zj)).trans zj
                    have vk : w8.cell? ⟨wo.heap.size, k, none⟩ = some (.int .i64 x) := (hb8.cell (lt_of_cell zk)).trans zk
                    have vf := o8.frozen
                    have HO8 := Lib.hid st.1
                    have HB8 := Lib.hid hbs
                    clear hb8 o8 st hbs zj zk hfz
                    go_wp2
                    go_roundw
                    case rel =>
                      refine ⟨j', G t j', by omega, by go_num, .inr ⟨HGE2.out, j', Nat.le_refl _, by omega, HN2.out⟩, HO8.out.congr (fun i hi => ?_), HB8.out⟩
                      unfold upd
                      by_cases e : i = k
                      · rw [if_pos e, if_pos e]
                      · rw [if_neg e, if_neg e, if_neg e]
                    case measure => first | (simp [intOf]; done) | (simp [intOf]; omega)
                · have HN2 := Lib.hid (HNO.out (HRN' (.inl huv)))
                  have a0 := fun z : Sub wr => z.cell pk
                  have a1 := fun z : Sub wr => z.cell pj
                  have e3 : (u == v) = false := beq_eq_false_iff_ne.2 huv
                  clear HRY' HRN' hb huv
                  go_wp2
                  ((refine wp_region_quiet_bel (by kernel_rfl) (by kernel_rfl) ?_); (repeat (go_big_quiet_step (fail))); (refine wpQuiet_nil ?_); rintro w8 ⟨⟨_, hb8⟩, rfl⟩; (try dsimp only))
                  have HO8 := Lib.hid (HO.out.below hb8)
                  have HB8 := Lib.hid (HB2.out.trans (hb8.mono hzr))
                  clear hb8
                  go_wp2
                  go_roundw
                  case rel => exact ⟨j', x, by omega, by go_num, HN2.out, HO8.out, HB8.out⟩
                  case measure => first | (simp [intOf]; done) | (simp [intOf]; omega)
          · have HK := Lib.hid (show k = c.nd by omega)
            have hp9 := own.pa.congr (P' := G t) (fun j hj => by simp [show j < k by rw [HK.out]; exact hj])
            have HP9 := Lib.hid hp9
            have HB9 := Lib.hid (HB.out.trans (hb.mono (by omega)))
            clear own hb hp9
            (go_wp2_with fail; (with_reducible refine (K3.out t _ _ _ HP9.out (Nat.le_refl _)).mono ?_); rintro e w9 ⟨⟨A9, c9, rfl, hc9, own9⟩, hb9⟩; have hb9z := Below.size hb9; (try simp only [ZA, ZS, ZD, ZN] at hb9z))
            have HQ9 := Lib.hid own9.pa
            have HB10 := Lib.hid (HB9.out.trans (hb9.mono (by omega)))
            have hz9 := hb9.size
            clear own9 hb9
            go_wp2
            go_roundw
            case rel => exact ⟨t + 1, A9, c9, by omega, by go_num, rfl, hc9, HQ9.out, HB10.out, by omega⟩
            case measure => first | (simp [intOf]; done) | (simp [intOf]; omega)
      · have htn : t = c.nd := by omega
        have HQ := Lib.hid (show PaI wo A c.nd C by
          have e : Z t = C := by rw [htn]; exact HZC.out
          rw [← e]
          exact HP.out)
        clear y0 y1 y2 y3 htn
        go_wp2
        go_ret2
        exact ⟨⟨_, _, rfl, HQ.out⟩, HBW.out⟩
  · rw [lenC_n h0]
    have HPB := Lib.hid (fun W hb => par_below (W := W) (w := w) (o := .cells #[.int .i64 c.st, .int .i64 c.sr, .slice AM c.nm cm, .slice AD c.nd cd] 25) hb)
    have hW0z : (w.alloc (.cells #[.int .i64 c.st, .int .i64 c.sr, .slice AM c.nm cm, .slice AD c.nd cd] 25)).heap.size = w.heap.size + 1 := by simp
    obtain ⟨cc, hcc⟩ : ∃ cc, cc = c.codeL n P := ⟨_, rfl⟩
    rw [← hcc] at K1 h0 ⊢
    have e1 : (cc != 0) = true := by simpa using h0
    clear h hs hv h0 hsz hcc
    go_enter Tryz.func27, Tryz.ntmps27
    (go_wp2_with fail; (with_reducible refine (K1.out _ (by (skip); repeat' (first | (with_reducible exact Below.refl _ _) | (with_reducible assumption) | (with_reducible refine Below.alloc ?_ ?_ _) | (with_reducible refine Below.drew ?_) | (with_reducible refine below_drewN ?_ _) | (with_reducible refine Below.setCell ?_ ?_ _) | (with_reducible refine Below.trans ?_ (Below.mono (by with_reducible assumption) ?_)) | omega | (simp only [ZA, ZS, ZD, ZN]; omega) | go_size))).mono ?_); rintro e w1 ⟨rfl, hb1⟩; have hb1z := Below.size hb1; (try simp only [ZA, ZS, ZD, ZN] at hb1z); have hb1c0 := fun o => below_at hb1 (w.heap.size) o (by first | omega | (simp only [ZA, ZS, ZD, ZN]; omega)); have hb1f0 := fun o => below_fr hb1 (w.heap.size) o (by first | omega | (simp only [ZA, ZS, ZD, ZN]; omega)))
    have hB1 := HPB.out w1 (by rw [← hW0z]; exact hb1)
    go_wp2
    go_ret2
    exact ⟨⟨_, _, rfl, PaI.nil_ _ _⟩, hB1⟩
end Go.Proofs.YtlncafhgmbhocaaGreatDoor
namespace Go.Proofs.YtlncafhgmbhocaaGreatDoor
open Go.RowKit
set_option linter.unusedSimpArgs false
set_option linter.unusedVariables false
set_option maxRecDepth 20000
/-! ## the reference of law51: Refines -/
def RefZ (n : Nat) (P Q : Nat → Int) : Prop := ∀ i k, i < n → k < n → P i = P k → Q i = Q k
set_option maxHeartbeats 8000000 in
theorem lrRefines_any {w : World} {A B : Option Addr} {n c d : Nat} {P Q : Nat → Int} (h : PaI w A n P) (h' : PaI w B n Q) (hn : n ≤ 1000000) :
    Calls Tryz.prog 30 #[.slice A n c, .slice B n d] w fun e w' => (∃ r : Bool, e = .returned (.bool r) ∧ (r = true ↔ RefZ n P Q)) ∧ Below w.heap.size w w' := by
  have HA := Lib.hid h
  have HB := Lib.hid h'
  clear h h'
  go_enter Tryz.func30, Tryz.ntmps30
  go_wp2
  go_loopw [9] (fun i wr => ∃ k : Nat, k ≤ n ∧ i = .int .i64 (k : Int) ∧ (∀ i j, i < k → j < n → P i = P j → Q i = Q j) ∧ Below w.heap.size w wr) (fun i _ => n - (intOf i).toNat)
  case atStart => exact ⟨0, Nat.zero_le _, rfl, fun i j h1 => by omega, Below.refl _ _⟩
  case round =>
    obtain ⟨k, hk, rfl, hv, hb⟩ := hrel
    have HV := Lib.hid hv
    clear hv
    by_cases hlt : k < n
    · have hki : (k : Int) < (n : Int) := by omega
      have hk0 : (0 : Int) ≤ (k : Int) := by omega
      have HB0 := Lib.hid hb
      clear hb
      obtain ⟨wo, hwo⟩ : ∃ wo, wo = wr := ⟨_, rfl⟩
      subst hwo
      go_wp2
      go_loopw [14] (fun i wr => ∃ m : Nat, m ≤ n ∧ i = .int .i64 (m : Int) ∧ (∀ j, j < m → P k = P j → Q k = Q j) ∧ Below w.heap.size w wr) (fun i _ => n - (intOf i).toNat)
      case atStart => exact ⟨0, Nat.zero_le _, rfl, fun j hj => by omega, HB0.out⟩
      case round =>
        clear HB0
        obtain ⟨m, hm, rfl, hv, hb⟩ := hrel
        have HW := Lib.hid hv
        clear hv
        have hz := hb.size
        by_cases hml : m < n
        · have hmi : (m : Int) < (n : Int) := by omega
          have hm0 : (0 : Int) ≤ (m : Int) := by omega
          obtain ⟨b1, o1, rfl, -, x0⟩ := HA.out.later hb hlt
          obtain ⟨b1', o1', ee, -, x1⟩ := HA.out.later hb hml
          cases ee
          obtain ⟨b2, o2, rfl, -, y0⟩ := HB.out.later hb hlt
          obtain ⟨b2', o2', ee, -, y1⟩ := HB.out.later hb hml
          cases ee
          have HBb := Lib.hid hb
          clear hb
          by_cases hp : P k = P m
          · rw [← hp] at x1
            obtain ⟨x, hx⟩ : ∃ x, x = P k := ⟨_, rfl⟩
            rw [← hx] at x0 x1
            have HPm := Lib.hid hp
            have a0 := fun z : Sub wr => z.cell x0
            have a1 := fun z : Sub wr => z.cell x1
            by_cases hq : Q k = Q m
            · have HQm := Lib.hid hq
              rw [← hq] at y1
              obtain ⟨y, hy⟩ : ∃ y, y = Q k := ⟨_, rfl⟩
              rw [← hy] at y0 y1
              have a2 := fun z : Sub wr => z.cell y0
              have a3 := fun z : Sub wr => z.cell y1
              have e2 : (y != y) = false := by simp
              clear hp hq hx hy
              go_wp2
              ((refine wp_region_quiet_bel (by kernel_rfl) (by kernel_rfl) ?_); (repeat (go_big_quiet_step (fail))); (refine wpQuiet_nil ?_); rintro w8 ⟨⟨_, hb8⟩, rfl⟩; (try dsimp only))
              have HB8 := Lib.hid (HBb.out.trans (hb8.mono hz))
              clear hb8
              go_wp2
              go_roundw
              case rel =>
                refine ⟨m + 1, by omega, by go_num, fun j hj e => ?_, HB8.out⟩
                by_cases e2 : j = m
                · rw [e2]; exact HQm.out
                · exact HW.out j (by omega) e
              case measure => first | (simp [intOf]; done) | (simp [intOf]; omega)
            · have HNO := Lib.hid (show ¬ RefZ n P Q from fun e => hq (e k m hlt hml hp))
              obtain ⟨y, hy⟩ : ∃ y, y = Q k := ⟨_, rfl⟩
              obtain ⟨v, hv⟩ : ∃ v, v = Q m := ⟨_, rfl⟩
              rw [← hy] at y0 hq
              rw [← hv] at y1 hq
              have a2 := fun z : Sub wr => z.cell y0
              have a3 := fun z : Sub wr => z.cell y1
              have e2 : (y != v) = true := by simpa using hq
              clear hp hq hx hy hv
              go_wp2
              ((refine wp_region_quiet_bel (by kernel_rfl) (by kernel_rfl) ?_); (repeat (go_big_quiet_step (fail))); (refine wpQuiet_nil ?_); rintro w8 ⟨⟨_, hb8⟩, rfl⟩; (try dsimp only))
              have HB8 := Lib.hid (HBb.out.trans (hb8.mono hz))
              clear hb8
              go_wp2
              go_ret
              exact ⟨⟨false, rfl, by simp [HNO.out]⟩, HB8.out⟩
          · have HPm := Lib.hid hp
            obtain ⟨x, hx⟩ : ∃ x, x = P k := ⟨_, rfl⟩
            obtain ⟨u, hu⟩ : ∃ u, u = P m := ⟨_, rfl⟩
            rw [← hx] at x0 hp
            rw [← hu] at x1 hp
            have a0 := fun z : Sub wr => z.cell x0
            have a1 := fun z : Sub wr => z.cell x1
            have e1 : (x == u) = false := beq_eq_false_iff_ne.2 hp
            clear hp hx hu
            go_wp2
            ((refine wp_region_quiet_bel (by kernel_rfl) (by kernel_rfl) ?_); (repeat (go_big_quiet_step (fail))); (refine wpQuiet_nil ?_); rintro w8 ⟨⟨_, hb8⟩, rfl⟩; (try dsimp only))
            have HB8 := Lib.hid (HBb.out.trans (hb8.mono hz))
            clear hb8
            go_wp2
            go_roundw
            case rel =>
              refine ⟨m + 1, by omega, by go_num, fun j hj e => ?_, HB8.out⟩
              by_cases e2 : j = m
              · rw [e2] at e; exact absurd e HPm.out
              · exact HW.out j (by omega) e
            case measure => first | (simp [intOf]; done) | (simp [intOf]; omega)
        · have HMN := Lib.hid (show m = n by omega)
          have HBb := Lib.hid hb
          clear hb
          go_wp2
          go_roundw
          case rel =>
            refine ⟨k + 1, by omega, by go_num, fun i j hi hj e => ?_, HBb.out⟩
            by_cases e2 : i = k
            · rw [e2] at e ⊢; exact HW.out j (by rw [HMN.out]; exact hj) e
            · exact HV.out i j (by omega) hj e
          case measure => first | (simp [intOf]; done) | (simp [intOf]; omega)
    · have HKN := Lib.hid (show k = n by omega)
      have HYS := Lib.hid (show RefZ n P Q from fun i j hi hj e => HV.out i j (by rw [HKN.out]; exact hi) hj e)
      go_wp2
      go_ret
      exact ⟨⟨true, rfl, by simp [HYS.out]⟩, hb⟩
end Go.Proofs.YtlncafhgmbhocaaGreatDoor
