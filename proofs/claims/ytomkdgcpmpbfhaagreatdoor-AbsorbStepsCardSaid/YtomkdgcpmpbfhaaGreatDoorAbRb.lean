/- Contracts of functions and lemmas, used by the proofs of the given statements. No condition beyond those that each lemma names. -/
import Derived.Test.YtomkdgcpmpbfhaaGreatDoorAbPb
namespace Go.Proofs.YtomkdgcpmpbfhaaGreatDoor
open Go.RowKit
set_option linter.unusedSimpArgs false
set_option linter.unusedVariables false
set_option maxRecDepth 20000
attribute [local irreducible] nv wp win plainB validR valR canR mvE chkM codeC spr sprN chg cnt
/-! ## reference: Error -/
set_option maxHeartbeats 16000000 in
theorem rerror_any {w : World} {AM AD : Option Addr} {cm cd : Nat} {c : Chn} (h : ChI w w.heap.size AM cm AD cd c) (hs : ChS c 400) :
    Calls Tryz.prog 41 #[cv c.st c.sr AM c.nm cm AD c.nd cd] w fun e w' => e = .returned (.int .i64 c.codeA) ∧ Below w.heap.size w w' := by
  have K1 := Lib.hid (fun W (hb : Below w.heap.size w W) => rchCheck (h.below hb) hs.nm hs.short)
  have hnm := hs.nm
  by_cases hc0 : c.code = 0
  · have ok := Chn.ok_iff.1 hc0
    have KL := Lib.hid (fun W (hb : Below w.heap.size w W) => rlive_any (h.below hb) ok hnm)
    have HDS := Lib.hid (fun W (hb : Below w.heap.size w W) => (h.below hb).dn)
    rw [hc0] at K1
    have HMV := Lib.hid (fun W hb k hk => h.mv_later (W := W) ok hb (k := k) hk)
    have hst := ok.st
    have hn1 := ok.lo
    have hn2 := ok.hi
    have HA0 := Lib.hid (fun ha : c.allE => Chn.codeA_z hc0 ha)
    have HA1 := Lib.hid (fun ha : ¬ c.allE => Chn.codeA_17 hc0 ha)
    have HAE : Hid (c.allE ↔ ∀ s, s < c.nd → c.lv s = true → c.en s = true) := Iff.refl _
    obtain ⟨LV, hLV⟩ : ∃ LV, LV = c.lv := ⟨_, rfl⟩
    obtain ⟨SE, hSE⟩ : ∃ SE : (Nat → Bool) → Nat → Nat → Bool, SE = fun l k => spr (fun _ => true) c.t c.f l k := ⟨_, rfl⟩
    have h1 : c.enN 0 = c.D := by unfold Chn.enN sprN; rfl
    have HES' : Hid (∀ r, c.enN (r + 1) = SE (c.enN r) c.nm) := fun r => by rw [hSE]; unfold Chn.enN; conv => lhs; unfold sprN
    have HEP0' : Hid (∀ l, SE l 0 = l) := fun l => by rw [hSE]; unfold spr; rfl
    have HEPK' : Hid (∀ l k, SE l (k + 1) = if SE l k (c.t k) && true then upd (SE l k) (c.f k) true else SE l k) := fun l k => by rw [hSE]; conv => lhs; unfold spr
    have hE9 : c.en = c.enN c.nd := rfl
    have H1 := Lib.hid h1
    obtain ⟨EN, hEN⟩ : ∃ EN, EN = c.enN := ⟨_, rfl⟩
    rw [hE9] at HAE
    rw [← hEN] at H1 HES' HAE
    rw [← hLV] at HAE KL
    obtain ⟨ca, hca⟩ : ∃ ca, ca = c.codeA := ⟨_, rfl⟩
    rw [← hca] at HA0 HA1 ⊢
    rw [hst] at K1 KL
    rw [hst]
    have hD0 : AD = none → c.nd = 0 := fun e => h.dn.head e
    clear h1 hLV hSE hEN hca h hs ok hst hc0 hE9
    obtain ⟨sr, hsr⟩ : ∃ sr, sr = c.sr := ⟨_, rfl⟩
    rw [← hsr] at K1 KL ⊢
    clear hsr
    cases AD with
    | none => exact absurd (hD0 rfl) (by omega)
    | some ad =>
    clear hD0
    go_enter Tryz.func41, Tryz.ntmps41
    (go_wp2_with fail; (with_reducible refine (K1.out _ (by (skip); repeat' (first | (with_reducible exact Below.refl _ _) | (with_reducible assumption) | (with_reducible refine Below.alloc ?_ ?_ _) | (with_reducible refine Below.drew ?_) | (with_reducible refine below_drewN ?_ _) | (with_reducible refine Below.setCell ?_ ?_ _) | (with_reducible refine Below.trans ?_ (Below.mono (by with_reducible assumption) ?_)) | omega | (simp only [ZA, ZS, ZD, ZN]; omega) | go_size))).mono ?_); rintro e w1 ⟨rfl, hb1⟩; have hb1z := Below.size hb1; (try simp only [ZA, ZS, ZD, ZN] at hb1z))
    have hb1' : Below (w.heap.size + 1) (w.alloc (.cells #[.int .i64 (c.nd : Int), .int .i64 sr, .slice AM c.nm cm, .slice (some ad) c.nd cd] 25)) w1 := by simpa using hb1
    have hz1 := hb1'.size
    simp only [World.size_alloc] at hz1
    have HPC := Lib.hid (fun W hb => par_cells (W := W) (w := w) (a := .int .i64 (c.nd : Int)) (b := .int .i64 sr) (d := .slice AM c.nm cm) (e := .slice (some ad) c.nd cd) (t := 25) hb)
    have HPB := Lib.hid (fun W hb => par_below (W := W) (w := w) (o := .cells #[.int .i64 (c.nd : Int), .int .i64 sr, .slice AM c.nm cm, .slice (some ad) c.nd cd] 25) hb)
    have HB1 := Lib.hid hb1'
    clear hb1 hb1' K1
    generalize w.alloc (.cells #[.int .i64 (c.nd : Int), .int .i64 sr, .slice AM c.nm cm, .slice (some ad) c.nd cd] 25) = W0 at HPC HPB HB1
    obtain ⟨y0, -, y2, y3⟩ := HPC.out _ HB1.out
    (have oac := fun o i => below_at ((Below.refl w1.heap.size w1).alloc (Nat.le_refl _) o) (w.heap.size) i (by omega)); (have oaf := fun o i => below_fr ((Below.refl w1.heap.size w1).alloc (Nat.le_refl _) o) (w.heap.size) i (by omega))
    go_wp2_with (first | (at_builtin; refine wpList_app rfl (.tmp 14) (.tmp 16) 23 rfl w1.heap.size 4 _ 1 1 Tryz.underlying23 boolInfo rfl (by decide) (some ⟨w1.heap.size, 0, none⟩) 0 0 [] rfl (World.ownsRow_lit w1 #[] 0 (Nat.le_refl _) (by unfold maxLen; omega) (by simp)) w1.heap.size (some ad) c.nd cd (bools c.nd c.D) rfl (Rds.alloc (HDS.out _ (HPB.out _ HB1.out)) (Nat.le_refl _) _) (by intro u hu; simp [bools] at hu; obtain ⟨j, _, rfl⟩ := hu; rfl) (by unfold maxLen; omega) (by omega) (by simp) ?_; intro A2 c2 w2 hown hbel hgrow hfr; (have hb2 : Below w1.heap.size w1 w2 := ((Below.refl _ _).alloc (Nat.le_refl _) _).trans hbel); (have y0' := (HPC.out _ (HB1.out.trans (hb2.mono (by omega)))).1)) | fail)
    simp only [Nat.zero_add, List.nil_append] at hown hfr
    have own : OwB w2 w1.heap.size A2 c2 c.nd (EN 0) := by rw [H1.out]; exact hown
    obtain ⟨ge, rfl, hge, hgl4⟩ := own.head hn1
    have HO := Lib.hid own
    have HB2 := Lib.hid hb2
    have hz2 := hb2.size
    clear hown hbel hgrow hfr own hb2 y0 y2 y3 oac oaf HDS
    go_wp2
    go_loopw [20] (fun i wr => ∃ r : Nat, r ≤ c.nd ∧ i = .int .i64 (r : Int) ∧ OwB wr w1.heap.size (some ⟨ge, 0, none⟩) c2 c.nd (EN r) ∧ Below w1.heap.size w1 wr) (fun i _ => c.nd - (intOf i).toNat)
    case atStart => exact ⟨0, Nat.zero_le _, rfl, HO.out, HB2.out⟩
    case round =>
      obtain ⟨r, hr, rfl, own, hb⟩ := hrel
      clear HB2 HO y0'
      have HO := Lib.hid own
      clear own
      by_cases hrl : r < c.nd
      · obtain ⟨-, -, y2, -⟩ := HPC.out _ (HB1.out.trans (hb.mono (by omega)))
        obtain ⟨wo, hwo⟩ : ∃ wo, wo = wr := ⟨_, rfl⟩
        subst hwo
        have hri : (r : Int) < (c.nd : Int) := by omega
        go_wp2
        go_loopw [25] (fun i wr => ∃ k : Nat, k ≤ c.nm ∧ i = .int .i64 (k : Int) ∧ OwB wr w1.heap.size (some ⟨ge, 0, none⟩) c2 c.nd (SE (EN r) k) ∧ Below w1.heap.size w1 wr) (fun i _ => c.nm - (intOf i).toNat)
        case atStart => exact ⟨0, Nat.zero_le _, rfl, by rw [HEP0'.out]; exact HO.out, hb⟩
        case round =>
          clear HO hb y2
          obtain ⟨k, hk, rfl, own, hb⟩ := hrel
          have hz := hb.size
          by_cases hlt : k < c.nm
          · obtain ⟨bm, om, s1, A1, n1, c1, B1, m1, d1, rfl, hbm, g0, g1, g2, g3, g4, -, hfn, htn, hft⟩ := HMV.out wr (HPB.out _ (HB1.out.trans (hb.mono (by omega)))) k hlt
            have za := own.at_ hfn
            have zb := own.at_ htn
            have hfz := own.frozen
            have hgw : ge < wr.heap.size := (World.ownsRow.lt own ge rfl).2
            have hSK := HEPK'.out (EN r) k
            obtain ⟨f, hf⟩ : ∃ f, f = c.f k := ⟨_, rfl⟩
            obtain ⟨tt, ht⟩ : ∃ tt, tt = c.t k := ⟨_, rfl⟩
            rw [← hf] at za g0 hfn hSK
            rw [← ht] at zb g1 htn hSK
            clear hf ht hft
            have hki : (k : Int) < (c.nm : Int) := by omega
            have hk0 : (0 : Int) ≤ (k : Int) := by omega
            have hfi : (f : Int) < (c.nd : Int) := by omega
            have hf0 : (0 : Int) ≤ (f : Int) := by omega
            have hti : (tt : Int) < (c.nd : Int) := by omega
            have ht0 : (0 : Int) ≤ (tt : Int) := by omega
            have HO := Lib.hid own
            have HB := Lib.hid hb
            clear own hb
            (have obc := fun o i => below_at ((Below.refl wr.heap.size wr).alloc (Nat.le_refl _) o) (ge) i (by omega)); (have obf := fun o i => below_fr ((Below.refl wr.heap.size wr).alloc (Nat.le_refl _) o) (ge) i (by omega))
            have hal : Below wr.heap.size wr (wr.alloc (.cells #[.int .i64 (f : Int), .int .i64 (tt : Int), .bool s1, .slice A1 n1 c1, .slice B1 m1 d1] 65)) := (Below.refl _ _).alloc (Nat.le_refl _) _
            have HAL := Lib.hid hal
            clear hal
            cases hA : SE (EN r) k tt
            · rw [hA] at zb hSK
              have HE := Lib.hid (hSK.trans (by simp : _ = SE (EN r) k))
              clear hA hSK
              go_wp2
              go_roundw
              case rel => exact ⟨k + 1, by omega, by go_num, by rw [HE.out]; exact HO.out.below HAL.out, HB.out.trans (HAL.out.mono (by omega))⟩
              case measure => simp [intOf]; omega
            · rw [hA] at zb hSK
              have HE := Lib.hid (hSK.trans (by simp : _ = upd (SE (EN r) k) f true))
              have st := HO.out.set f true
              rw [← HE.out] at st
              have hb2 := HB.out.trans (below_of_row st.2 (fun q hq => by injection hq with hq; omega) (by omega))
              have HST := Lib.hid st.1
              have HB2 := Lib.hid hb2
              clear hA hSK st hb2
              go_wp2
              go_roundw
              case rel => exact ⟨k + 1, by omega, by go_num, HST.out.below ((Below.refl _ _).alloc (Nat.le_refl _) _), HB2.out.alloc (by simp; omega) _⟩
              case measure => simp [intOf]; omega
          · have hkm : k = c.nm := by omega
            subst hkm
            have HO := Lib.hid own
            have HB := Lib.hid hb
            clear own hb
            go_wp2
            go_roundw
            case rel => exact ⟨r + 1, by omega, by go_num, by rw [HES'.out]; exact HO.out, HB.out⟩
            case measure => simp [intOf]; omega
      · have hrn : r = c.nd := by omega
        subst hrn
        have HB := Lib.hid hb
        have hbz := hb.size
        obtain ⟨y0, y1, y2, y3⟩ := HPC.out _ (HB1.out.trans (hb.mono (by omega)))
        clear hb
        obtain ⟨wA, hwA⟩ : ∃ wA, wA = wr := ⟨_, rfl⟩
        subst hwA
        (go_wp2_with fail; (with_reducible refine (KL.out _ (HPB.out _ (HB1.out.trans (HB.out.mono (by omega))))).mono ?_); rintro e w4 ⟨⟨A4, c4, rfl, own4⟩, hb4⟩; have hb4z := Below.size hb4; (try simp only [ZA, ZS, ZD, ZN] at hb4z))
        obtain ⟨g4, rfl, hg4, hgl5⟩ := own4.head hn1
        have HO4 := Lib.hid own4
        have HB4 := Lib.hid hb4
        have hb4z := hb4.size
        clear own4 hb4 y0 y1 y2 y3
        go_wp2
        go_loopw [43] (fun i wr => ∃ k : Nat, k ≤ c.nd ∧ i = .int .i64 (k : Int) ∧ (∀ s, s < k → LV s = true → EN c.nd s = true) ∧ wr = w4) (fun i _ => c.nd - (intOf i).toNat)
        case atStart => exact ⟨0, Nat.zero_le _, rfl, fun s hs => by omega, rfl⟩
        case round =>
          obtain ⟨k, hk, rfl, hall, hw⟩ := hrel
          subst hw
          have HALL := Lib.hid hall
          clear hall
          by_cases hlt : k < c.nd
          · have za := HO4.out.at_ hlt
            have zb := (HO.out.below HB4.out).at_ hlt
            have hki : (k : Int) < (c.nd : Int) := by omega
            have hk0 : (0 : Int) ≤ (k : Int) := by omega
            cases hA : LV k
            · rw [hA] at za
              have HA := Lib.hid hA
              clear hA
              go_wp2
              go_roundw
              case rel =>
                refine ⟨k + 1, by omega, by go_num, fun s hs hl => ?_, trivial⟩
                by_cases e : s = k
                · rw [e, HA.out] at hl; cases hl
                · exact HALL.out s (by omega) hl
              case measure => simp [intOf]; omega
            · cases hE : EN c.nd k
              · rw [hA] at za
                rw [hE] at zb
                have hna : ¬ c.allE := fun h => by
                  have := HAE.out.1 h k hlt hA
                  rw [hE] at this
                  cases this
                have H17 := Lib.hid (HA1.out hna)
                clear hA hE hna
                go_wp2
                go_ret
                exact ⟨by rw [H17.out]; rfl, HPB.out _ (HB1.out.trans ((HB.out.trans (HB4.out.mono hbz)).mono (by omega)))⟩
              · rw [hA] at za
                rw [hE] at zb
                have HE := Lib.hid hE
                clear hA hE
                go_wp2
                go_roundw
                case rel =>
                  refine ⟨k + 1, by omega, by go_num, fun s hs hl => ?_, trivial⟩
                  by_cases e : s = k
                  · rw [e]; exact HE.out
                  · exact HALL.out s (by omega) hl
                case measure => simp [intOf]; omega
          · have hkn : k = c.nd := by omega
            subst hkn
            have H9 := Lib.hid (HA0.out (HAE.out.2 HALL.out))
            go_wp2
            go_ret
            exact ⟨by rw [H9.out]; rfl, HPB.out _ (HB1.out.trans ((HB.out.trans (HB4.out.mono hbz)).mono (by omega)))⟩
  · have HC := Lib.hid hc0
    have HCA := Lib.hid (Chn.codeA_n hc0)
    rw [HCA.out]
    obtain ⟨cc, hcc⟩ : ∃ cc, cc = c.code := ⟨_, rfl⟩
    rw [← hcc] at K1 hc0 ⊢
    have e5 : (cc != 0) = true := by simpa using hc0
    have e6 : (cc == 0) = false := by simpa using hc0
    clear hc0 h hs hcc HC HCA
    go_enter Tryz.func41, Tryz.ntmps41
    (go_wp2_with fail; (with_reducible refine (K1.out _ (by (skip); repeat' (first | (with_reducible exact Below.refl _ _) | (with_reducible assumption) | (with_reducible refine Below.alloc ?_ ?_ _) | (with_reducible refine Below.drew ?_) | (with_reducible refine below_drewN ?_ _) | (with_reducible refine Below.setCell ?_ ?_ _) | (with_reducible refine Below.trans ?_ (Below.mono (by with_reducible assumption) ?_)) | omega | (simp only [ZA, ZS, ZD, ZN]; omega) | go_size))).mono ?_); rintro e w1 ⟨rfl, hb1⟩; have hb1z := Below.size hb1; (try simp only [ZA, ZS, ZD, ZN] at hb1z))
    go_wp2
    go_ret
    exact ⟨rfl, (by have z0 := Below.size hb1; (try simp only [ZA, ZS, ZD, ZN] at z0 ⊢; skip); repeat' (first | (with_reducible exact Below.refl _ _) | (with_reducible assumption) | (with_reducible refine Below.alloc ?_ ?_ _) | (with_reducible refine Below.drew ?_) | (with_reducible refine below_drewN ?_ _) | (with_reducible refine Below.setCell ?_ ?_ _) | (with_reducible refine Below.trans ?_ (Below.mono (by with_reducible assumption) ?_)) | omega | (simp only [ZA, ZS, ZD, ZN]; omega) | go_size))⟩
end Go.Proofs.YtomkdgcpmpbfhaaGreatDoor
