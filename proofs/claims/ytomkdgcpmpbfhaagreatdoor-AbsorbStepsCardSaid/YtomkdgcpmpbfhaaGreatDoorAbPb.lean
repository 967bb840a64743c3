/- Contracts of functions and lemmas, used by the proofs of the given statements. No condition beyond those that each lemma names. -/
import Derived.Test.YtomkdgcpmpbfhaaGreatDoorJAbRa
namespace Go.Proofs.YtomkdgcpmpbfhaaGreatDoor
open Go.RowKit
set_option linter.unusedSimpArgs false
set_option linter.unusedVariables false
set_option maxRecDepth 20000
attribute [local irreducible] nv wp win plainB validR valR canR mvE chkM codeC spr sprN chg cnt
/-! ## package absorb: live -/
/-- bools, and an error's number -/
def RetB4 (n : Nat) (f : Nat → Bool) (code : Int) (base : Nat) (e : Ending) (w' : World) : Prop := if code = 0 then ∃ A c', e = .returned (.tuple #[.slice A n c', .nilIface]) ∧ OwB w' base A c' n f else e = .returned (.tuple #[.slice none 0 0, errM code])
theorem retB4_0 {n : Nat} {f : Nat → Bool} {code : Int} {base : Nat} {w' : World} {A : Option Addr} {c' : Nat} (h : code = 0) (ho : OwB w' base A c' n f) : RetB4 n f code base (.returned (.tuple #[.slice A n c', .nilIface])) w' := by
  unfold RetB4; rw [if_pos h]; exact ⟨A, c', rfl, ho⟩
theorem retB4_n {n : Nat} {f : Nat → Bool} {code : Int} {base : Nat} {w' : World} {z : Value} (h : code ≠ 0) (hz : errM code = z) : RetB4 n f code base (.returned (.tuple #[.slice none 0 0, z])) w' := by
  unfold RetB4; rw [if_neg h, hz]
set_option maxHeartbeats 16000000 in
theorem live_any {w : World} {AM AD : Option Addr} {cm cd : Nat} {c : Chn} (h : ChI w w.heap.size AM cm AD cd c) (hs : ChS c 400) :
    Calls Tryz.prog 39 #[cv c.st c.sr AM c.nm cm AD c.nd cd] w fun e w' => RetB4 c.nd c.lv c.codeA w.heap.size e w' ∧ Below w.heap.size w w' := by
  have K1 := Lib.hid (fun W (hb : Below w.heap.size w W) => chCheck (h.below hb) hs.nm hs.short)
  have hnm := hs.nm
  by_cases hc0 : c.code = 0
  · have ok := Chn.ok_iff.1 hc0
    have KCl := Lib.hid (fun W (hb : Below w.heap.size w W) => cloneB_any (c := cd) (h.below hb).dn (by have := ok.hi; omega))
    rw [hc0, errM_0] at K1
    have HMV := Lib.hid (fun W hb k hk => h.mv_later (W := W) ok hb (k := k) hk)
    have HDN := Lib.hid (fun W hb s hs => h.dn_later (W := W) hb (s := s) hs)
    have hst := ok.st
    have hn1 := ok.lo
    have hn2 := ok.hi
    obtain ⟨sr, hsr⟩ : ∃ sr : Nat, c.sr = (sr : Int) := ⟨c.sr.toNat, by have := ok.s0; omega⟩
    have hsn : sr < c.nd := by have := ok.s1; omega
    have HA0 := Lib.hid (fun ha : c.allE => Chn.codeA_z hc0 ha)
    have HA1 := Lib.hid (fun ha : ¬ c.allE => Chn.codeA_17 hc0 ha)
    have HAE : Hid (c.allE ↔ ∀ s, s < c.nd → c.lv s = true → c.en s = true) := Iff.refl _
    -- the live states
    obtain ⟨SP, hSP⟩ : ∃ SP : (Nat → Bool) → Nat → Nat → Bool, SP = fun l k => spr (fun s => !c.D s) c.f c.t l k := ⟨_, rfl⟩
    obtain ⟨CH, hCH⟩ : ∃ CH : (Nat → Bool) → Nat → Bool, CH = fun l k => chg (fun s => !c.D s) c.f c.t l k := ⟨_, rfl⟩
    have h0 : c.lvN 0 = upd (fun _ => false) sr (!c.D sr) := by unfold Chn.lvN Chn.lv0; rw [hsr]; unfold sprN; rfl
    have HS' : Hid (∀ r, c.lvN (r + 1) = SP (c.lvN r) c.nm) := fun r => by rw [hSP]; unfold Chn.lvN; conv => lhs; unfold sprN
    have HP0' : Hid (∀ l, SP l 0 = l) := fun l => by rw [hSP]; unfold spr; rfl
    have HC0' : Hid (∀ l, CH l 0 = false) := fun l => by rw [hCH]; unfold chg; rfl
    have HSK : Hid (∀ l k, (SP l k (c.f k) && !c.D (c.t k) && !SP l k (c.t k)) = false → SP l (k + 1) = SP l k ∧ CH l (k + 1) = CH l k) := fun l k h => by rw [hSP] at h ⊢; rw [hCH]; exact spr_skip h
    have HSO : Hid (∀ l k, (SP l k (c.f k) && !c.D (c.t k) && !SP l k (c.t k)) = true → SP l (k + 1) = upd (SP l k) (c.t k) true ∧ CH l (k + 1) = true) := fun l k h => by rw [hSP] at h ⊢; rw [hCH]; exact spr_store h
    have HSH : Hid (∀ r, CH (c.lvN r) c.nm = false → c.lvN r = c.lv ∧ SP (c.lvN r) c.nm = c.lvN r) := fun r hr => by
      rw [hCH] at hr
      exact ⟨sprN_stop (Chn.lt_t ok) (chg_shut hr), by rw [hSP]; exact chg_no hr⟩
    have HCN : Hid (∀ r, CH (c.lvN r) c.nm = true → cnt (c.lvN r) c.nd < cnt (SP (c.lvN r) c.nm) c.nd) := fun r hr => by
      rw [hCH] at hr
      rw [hSP]
      exact chg_yes (Chn.lt_t ok) hr
    have HCL := Lib.hid (fun l => cnt_le l c.nd)
    have H0 := Lib.hid h0
    obtain ⟨LN, hLN⟩ : ∃ LN, LN = c.lvN := ⟨_, rfl⟩
    obtain ⟨LV, hLV⟩ : ∃ LV, LV = c.lv := ⟨_, rfl⟩
    -- the states from which a run can end
    obtain ⟨SE, hSE⟩ : ∃ SE : (Nat → Bool) → Nat → Nat → Bool, SE = fun l k => spr (fun _ => true) c.t c.f l k := ⟨_, rfl⟩
    obtain ⟨CE, hCE⟩ : ∃ CE : (Nat → Bool) → Nat → Bool, CE = fun l k => chg (fun _ => true) c.t c.f l k := ⟨_, rfl⟩
    have h1 : c.enN 0 = c.D := by unfold Chn.enN sprN; rfl
    have HES' : Hid (∀ r, c.enN (r + 1) = SE (c.enN r) c.nm) := fun r => by rw [hSE]; unfold Chn.enN; conv => lhs; unfold sprN
    have HEP0' : Hid (∀ l, SE l 0 = l) := fun l => by rw [hSE]; unfold spr; rfl
    have HEC0' : Hid (∀ l, CE l 0 = false) := fun l => by rw [hCE]; unfold chg; rfl
    have HESK : Hid (∀ l k, (SE l k (c.t k) && true && !SE l k (c.f k)) = false → SE l (k + 1) = SE l k ∧ CE l (k + 1) = CE l k) := fun l k h => by rw [hSE] at h ⊢; rw [hCE]; exact spr_skip (G := fun _ => true) h
    have HESO : Hid (∀ l k, (SE l k (c.t k) && true && !SE l k (c.f k)) = true → SE l (k + 1) = upd (SE l k) (c.f k) true ∧ CE l (k + 1) = true) := fun l k h => by rw [hSE] at h ⊢; rw [hCE]; exact spr_store (G := fun _ => true) h
    have HESH : Hid (∀ r, CE (c.enN r) c.nm = false → c.enN r = c.en ∧ SE (c.enN r) c.nm = c.enN r) := fun r hr => by
      rw [hCE] at hr
      exact ⟨sprN_stop (Chn.lt_f ok) (chg_shut hr), by rw [hSE]; exact chg_no hr⟩
    have HECN : Hid (∀ r, CE (c.enN r) c.nm = true → cnt (c.enN r) c.nd < cnt (SE (c.enN r) c.nm) c.nd) := fun r hr => by
      rw [hCE] at hr
      rw [hSE]
      exact chg_yes (Chn.lt_f ok) hr
    have H1 := Lib.hid h1
    obtain ⟨EN, hEN⟩ : ∃ EN, EN = c.enN := ⟨_, rfl⟩
    obtain ⟨EV, hEV⟩ : ∃ EV, EV = c.en := ⟨_, rfl⟩
    rw [← hLN, ← hLV] at HSH
    rw [← hLN] at H0 HS' HCN
    rw [← hEN, ← hEV] at HESH
    rw [← hEN] at H1 HES' HECN
    rw [← hLV, ← hEV] at HAE
    rw [← hLV]
    obtain ⟨ca, hca⟩ : ∃ ca, ca = c.codeA := ⟨_, rfl⟩
    rw [← hca] at HA0 HA1 ⊢
    rw [hst, hsr] at K1
    rw [hst, hsr]
    clear hSP hCH h0 h1 hLN hLV hSE hCE hEN hEV hca h hs ok hst hsr hc0
    obtain ⟨bs, os, rfl, hbs, -⟩ := HDN.out w (Below.refl _ _) sr hsn
    have hd0 := fun W (hb : Below w.heap.size w W) => (by
      obtain ⟨bd, od, e, -, p⟩ := HDN.out W hb sr hsn
      cases e
      exact p : W.cell? ⟨bs, os + sr, none⟩ = some (.bool (c.D sr)))
    have HD0 := Lib.hid hd0
    clear hd0
    have hsi : (sr : Int) < (c.nd : Int) := by omega
    have hs0 : (0 : Int) ≤ (sr : Int) := by omega
    go_enter Tryz.func39, Tryz.ntmps39
    (go_wp2_with fail; (with_reducible refine (K1.out _ (by (skip); repeat' (first | (with_reducible exact Below.refl _ _) | (with_reducible assumption) | (with_reducible refine Below.alloc ?_ ?_ _) | (with_reducible refine Below.drew ?_) | (with_reducible refine below_drewN ?_ _) | (with_reducible refine Below.setCell ?_ ?_ _) | (with_reducible refine Below.trans ?_ (Below.mono (by with_reducible assumption) ?_)) | omega | (simp only [ZA, ZS, ZD, ZN]; omega) | go_size))).mono ?_); rintro e w1 ⟨rfl, hb1⟩; have hb1z := Below.size hb1; (try simp only [ZA, ZS, ZD, ZN] at hb1z))
    have hb1' : Below (w.heap.size + 1) (w.alloc (.cells #[.int .i64 (c.nd : Int), .int .i64 (sr : Int), .slice AM c.nm cm, .slice (some ⟨bs, os, none⟩) c.nd cd] 25)) w1 := by simpa using hb1
    have hz1 := hb1'.size
    simp only [World.size_alloc] at hz1
    have y0 := par_cell hb1' 0
    have HB1 := Lib.hid hb1'
    clear hb1 hb1'
    go_wp2_with (first | (at_make; refine wpList_makeB rfl (.tmp 21) (.tmp 21) rfl (w.heap.size + 1) c.nd (c.nd : Int) (c.nd : Int) (by simp [Act.eval]) (by simp [Act.eval]) rfl rfl (by omega) (by omega) ?_; intro w2 own2 hb2; have hb2' := HB1.out.trans (hb2.mono (by omega)); have y1 := par_cell hb2' 1; have y3 := par_cell hb2' 3; have hd1 := HD0.out w2 (par_below hb2'); have hg0 := own2.at_ hsn; have hfz := own2.frozen) | fail)
    have st := own2.set sr (!c.D sr)
    rw [← H0.out] at st
    have hb3 := hb2'.trans (below_of_row st.2 (fun q hq => by injection hq with hq; omega) (by have := hb2'.size; simp at this; omega))
    have HST := Lib.hid st.1
    have HB3 := Lib.hid hb3
    have hgl : w.heap.size + 1 ≤ w1.heap.size := by omega
    clear st hb3 own2 hb2 hb2' hz1 y0
    have HPC := Lib.hid (fun W hb => par_cells (W := W) (w := w) (a := .int .i64 (c.nd : Int)) (b := .int .i64 (sr : Int)) (d := .slice AM c.nm cm) (e := .slice (some ⟨bs, os, none⟩) c.nd cd) (t := 25) hb)
    have HPB := Lib.hid (fun W hb => par_below (W := W) (w := w) (o := .cells #[.int .i64 (c.nd : Int), .int .i64 (sr : Int), .slice AM c.nm cm, .slice (some ⟨bs, os, none⟩) c.nd cd] 25) hb)
    have hW0z : (w.alloc (.cells #[.int .i64 (c.nd : Int), .int .i64 (sr : Int), .slice AM c.nm cm, .slice (some ⟨bs, os, none⟩) c.nd cd] 25)).heap.size = w.heap.size + 1 := by simp
    have HW0z := Lib.hid hW0z
    clear hW0z
    go_region
    clear y1 y3 hd1 hg0 hfz HD0 HB1 K1
    generalize w1.heap.size = g at *
    generalize w.alloc (.cells #[.int .i64 (c.nd : Int), .int .i64 (sr : Int), .slice AM c.nm cm, .slice (some ⟨bs, os, none⟩) c.nd cd] 25) = W0 at HPC HPB HB3 HW0z
    go_wp2
    go_loopw [6] (fun fl wr => ∃ (r : Nat) (b : Bool), fl = .bool b ∧ (b = false → LN r = LV) ∧ OwB wr (w.heap.size + 1) (some ⟨g, 0, none⟩) c.nd c.nd (LN r) ∧ Below (w.heap.size + 1) W0 wr) (fun fl wr => 2 * (c.nd - memC wr (.slice (some ⟨g, 0, none⟩) c.nd c.nd) c.nd) + flagN fl)
    case atStart => exact ⟨0, true, rfl, (fun h => nomatch h), HST.out, HB3.out.drew⟩
    case round =>
      obtain ⟨r, b, rfl, hbf, own, hb⟩ := hrel
      clear HB3 HST
      have HO := Lib.hid own
      clear own
      cases b
      · have hLN := hbf rfl
        rw [hLN] at HO
        clear hbf hLN
        obtain ⟨-, -, -, y3⟩ := HPC.out _ hb
        have hbz := hb.size
        rw [HW0z.out] at hbz
        have HB := Lib.hid hb
        obtain ⟨wA, hwA⟩ : ∃ wA, wA = wr := ⟨_, rfl⟩
        subst hwA
        clear hb
        (go_wp2_with fail; (with_reducible refine (KCl.out _ (HPB.out _ HB.out)).mono ?_); rintro e w4 ⟨⟨A4, c4, rfl, own4⟩, hb4⟩; have hb4z := Below.size hb4; (try simp only [ZA, ZS, ZD, ZN] at hb4z))
        obtain ⟨ge, rfl, hge, hgl4⟩ := own4.head hn1
        have hb4z := hb4.size
        obtain ⟨-, -, -, y3⟩ := HPC.out _ (HB.out.trans (hb4.mono hbz))
        rw [← H1.out] at own4
        have HO4 := Lib.hid own4
        have HB4 := Lib.hid hb4
        clear own4 hb4 y3
        go_wp2
        go_loopw [10] (fun fl wr => ∃ (r : Nat) (b : Bool), fl = .bool b ∧ (b = false → EN r = EV) ∧ OwB wr wA.heap.size (some ⟨ge, 0, none⟩) c4 c.nd (EN r) ∧ Below wA.heap.size wA wr) (fun fl wr => 2 * (c.nd - memC wr (.slice (some ⟨ge, 0, none⟩) c.nd c4) c.nd) + flagN fl)
        case atStart => exact ⟨0, true, rfl, (fun h => nomatch h), HO4.out, HB4.out⟩
        case round =>
          obtain ⟨r2, b, rfl, hbf, own, hb⟩ := hrel
          clear HB4 HO4
          have HO4 := Lib.hid own
          clear own
          cases b
          · have hEN := hbf rfl
            rw [hEN] at HO4
            clear hbf hEN
            have HB5 := Lib.hid hb
            obtain ⟨wC, hwC⟩ : ∃ wC, wC = wr := ⟨_, rfl⟩
            subst hwC
            have hCz := hb.size
            clear hb
            go_wp2
            go_loopw [100] (fun i wr => ∃ k : Nat, k ≤ c.nd ∧ i = .int .i64 (k : Int) ∧ (∀ s, s < k → LV s = true → EV s = true) ∧ wr = wC) (fun i _ => c.nd - (intOf i).toNat)
            case atStart => exact ⟨0, Nat.zero_le _, rfl, fun s hs => by omega, rfl⟩
            case round =>
              obtain ⟨k, hk, rfl, hall, hw⟩ := hrel
              subst hw
              have HALL := Lib.hid hall
              clear hall
              by_cases hlt : k < c.nd
              · have za := (HO.out.below HB5.out).at_ hlt
                have zb := HO4.out.at_ hlt
                have hki : (k : Int) < (c.nd : Int) := by omega
                have hk0 : (0 : Int) ≤ (k : Int) := by omega
                cases hA : LV k
                · rw [hA] at za
                  have HA := Lib.hid hA
                  clear hA
                  go_wp2
                  go_roundw
                  case rel =>
                    refine ⟨k + 1, by omega, by go_num, fun s hs hl => ?_, trivial⟩
                    by_cases e : s = k
                    · rw [e, HA.out] at hl; cases hl
                    · exact HALL.out s (by omega) hl
                  case measure => simp [intOf]; omega
                · cases hE : EV k
                  · rw [hA] at za
                    rw [hE] at zb
                    have hna : ¬ c.allE := fun h => by
                      have := HAE.out.1 h k hlt hA
                      rw [hE] at this
                      cases this
                    have H17 := Lib.hid (HA1.out hna)
                    clear hA hE hna
                    go_wp2
                    go_ret2
                    exact ⟨retB4_n (by rw [H17.out]; decide) (by rw [H17.out]; rfl), HPB.out _ (HB.out.trans (HB5.out.mono hbz))⟩
                  · rw [hA] at za
                    rw [hE] at zb
                    have HE := Lib.hid hE
                    clear hA hE
                    go_wp2
                    go_roundw
                    case rel =>
                      refine ⟨k + 1, by omega, by go_num, fun s hs hl => ?_, trivial⟩
                      by_cases e : s = k
                      · rw [e]; exact HE.out
                      · exact HALL.out s (by omega) hl
                    case measure => simp [intOf]; omega
              · have hkn : k = c.nd := by omega
                subst hkn
                have H9 := Lib.hid (HA0.out (HAE.out.2 HALL.out))
                go_wp2
                go_ret2
                exact ⟨retB4_0 H9.out (own_base (HO.out.below HB5.out) (by omega)), HPB.out _ (HB.out.trans (HB5.out.mono hbz))⟩
          · obtain ⟨-, -, y2, -⟩ := HPC.out _ (HB.out.trans (hb.mono hbz))
            obtain ⟨wo, hwo⟩ : ∃ wo, wo = wr := ⟨_, rfl⟩
            subst hwo
            clear hbf
            go_wp2
            go_loopw [76, 10] (fun i fl wr => ∃ k : Nat, k ≤ c.nm ∧ i = .int .i64 (k : Int) ∧ fl = .bool (CE (EN r2) k) ∧ OwB wr wA.heap.size (some ⟨ge, 0, none⟩) c4 c.nd (SE (EN r2) k) ∧ Below wA.heap.size wA wr) (fun i _ _ => c.nm - (intOf i).toNat)
            case atStart => exact ⟨0, Nat.zero_le _, rfl, by rw [HEC0'.out], by rw [HEP0'.out]; exact HO4.out, hb⟩
            case round =>
              clear hb y2
              obtain ⟨k, hk, rfl, rfl, own, hb⟩ := hrel
              have hz := hb.size
              by_cases hlt : k < c.nm
              · obtain ⟨bm, om, s1, A1, n1, c1, B1, m1, d1, rfl, hbm, g0, g1, g2, g3, g4, -, hfn, htn, hft⟩ := HMV.out wr (HPB.out _ (HB.out.trans (hb.mono hbz))) k hlt
                have za := own.at_ hfn
                have zb := own.at_ htn
                have hfz := own.frozen
                have hgw : ge < wr.heap.size := (World.ownsRow.lt own ge rfl).2
                have hSK := HESK.out (EN r2) k
                have hSO := HESO.out (EN r2) k
                obtain ⟨f, hf⟩ : ∃ f, f = c.f k := ⟨_, rfl⟩
                obtain ⟨tt, ht⟩ : ∃ tt, tt = c.t k := ⟨_, rfl⟩
                rw [← hf] at za g0 hfn hSK hSO
                rw [← ht] at zb g1 htn hSK hSO
                clear hf ht hft
                have hki : (k : Int) < (c.nm : Int) := by omega
                have hk0 : (0 : Int) ≤ (k : Int) := by omega
                have hfi : (f : Int) < (c.nd : Int) := by omega
                have hf0 : (0 : Int) ≤ (f : Int) := by omega
                have hti : (tt : Int) < (c.nd : Int) := by omega
                have ht0 : (0 : Int) ≤ (tt : Int) := by omega
                have hO := Lib.hid own
                have hB' := Lib.hid hb
                clear own hb
                (have obc := fun o i => below_at ((Below.refl wr.heap.size wr).alloc (Nat.le_refl _) o) (ge) i (by omega)); (have obf := fun o i => below_fr ((Below.refl wr.heap.size wr).alloc (Nat.le_refl _) o) (ge) i (by omega))
                have hal : Below wr.heap.size wr (wr.alloc (.cells #[.int .i64 (f : Int), .int .i64 (tt : Int), .bool s1, .slice A1 n1 c1, .slice B1 m1 d1] 65)) := (Below.refl _ _).alloc (Nat.le_refl _) _
                have HAL := Lib.hid hal
                clear hal
                cases hA : SE (EN r2) k tt
                · rw [hA] at zb hSK
                  have HE := Lib.hid (hSK rfl)
                  clear hA hSK hSO
                  go_wp2
                  go_roundw
                  case rel => exact ⟨k + 1, by omega, by go_num, by rw [HE.out.2], by rw [HE.out.1]; exact hO.out.below HAL.out, hB'.out.trans (HAL.out.mono (by omega))⟩
                  case measure => simp [intOf]; omega
                · cases hB : SE (EN r2) k f
                  · rw [hA, hB] at hSO
                    rw [hA] at zb
                    rw [hB] at za
                    have HE := Lib.hid (hSO rfl)
                    have st := hO.out.set f true
                    rw [← HE.out.1] at st
                    have hb2 := hB'.out.trans (below_of_row st.2 (fun q hq => by injection hq with hq; omega) (by omega))
                    have HST := Lib.hid st.1
                    have HB2 := Lib.hid hb2
                    clear hA hB hSK hSO st hb2
                    go_wp2
                    go_roundw
                    case rel => exact ⟨k + 1, by omega, by go_num, by rw [HE.out.2], HST.out.below ((Below.refl _ _).alloc (Nat.le_refl _) _), HB2.out.alloc (by simp; omega) _⟩
                    case measure => simp [intOf]; omega
                  · rw [hA, hB] at hSK
                    rw [hA] at zb
                    rw [hB] at za
                    have HE := Lib.hid (hSK rfl)
                    clear hA hB hSK hSO
                    go_wp2
                    go_roundw
                    case rel => exact ⟨k + 1, by omega, by go_num, by rw [HE.out.2], by rw [HE.out.1]; exact hO.out.below HAL.out, hB'.out.trans (HAL.out.mono (by omega))⟩
                    case measure => simp [intOf]; omega
              · have hkm : k = c.nm := by omega
                subst hkm
                have hm0 := HO4.out.memC (by omega)
                have hm1 := own.memC (by omega)
                have hl0 := HCL.out (EN r2)
                have hl1 := HCL.out (SE (EN r2) c.nm)
                have HO2 := Lib.hid own
                have HB9 := Lib.hid hb
                clear own hb
                go_wp2
                go_roundw
                case rel => exact ⟨r2 + 1, _, rfl, fun h => by rw [HES'.out, (HESH.out r2 h).2]; exact (HESH.out r2 h).1, by rw [HES'.out]; exact HO2.out, HB9.out⟩
                case measure =>
                  rw [hm0, hm1]
                  cases hc : CE (EN r2) c.nm
                  · have := (HESH.out r2 hc).2
                    rw [this]
                    simp [flagN]
                  · have := HECN.out r2 hc
                    simp [flagN]; omega
      · obtain ⟨-, -, y2, -⟩ := HPC.out _ hb
        obtain ⟨wo, hwo⟩ : ∃ wo, wo = wr := ⟨_, rfl⟩
        subst hwo
        clear hbf
        go_wp2
        go_loopw [38, 6] (fun i fl wr => ∃ k : Nat, k ≤ c.nm ∧ i = .int .i64 (k : Int) ∧ fl = .bool (CH (LN r) k) ∧ OwB wr (w.heap.size + 1) (some ⟨g, 0, none⟩) c.nd c.nd (SP (LN r) k) ∧ Below (w.heap.size + 1) W0 wr) (fun i _ _ => c.nm - (intOf i).toNat)
        case atStart => exact ⟨0, Nat.zero_le _, rfl, by rw [HC0'.out], by rw [HP0'.out]; exact HO.out, hb⟩
        case round =>
          clear hb y2
          obtain ⟨k, hk, rfl, rfl, own, hb⟩ := hrel
          have hz := hb.size
          by_cases hlt : k < c.nm
          · obtain ⟨bm, om, s1, A1, n1, c1, B1, m1, d1, rfl, hbm, g0, g1, g2, g3, g4, -, hfn, htn, hft⟩ := HMV.out wr (HPB.out _ hb) k hlt
            obtain ⟨bd, od, e, -, gd⟩ := HDN.out wr (HPB.out _ hb) _ htn
            cases e
            obtain ⟨-, -, -, y3⟩ := HPC.out _ hb
            have za := own.at_ hfn
            have zb := own.at_ htn
            have hfz := own.frozen
            have hgw : g < wr.heap.size := (World.ownsRow.lt own g rfl).2
            have hSK := HSK.out (LN r) k
            have hSO := HSO.out (LN r) k
            obtain ⟨f, hf⟩ : ∃ f, f = c.f k := ⟨_, rfl⟩
            obtain ⟨tt, ht⟩ : ∃ tt, tt = c.t k := ⟨_, rfl⟩
            rw [← hf] at za g0 hfn hSK hSO
            rw [← ht] at zb gd g1 htn hSK hSO
            clear hf ht hft
            have hki : (k : Int) < (c.nm : Int) := by omega
            have hk0 : (0 : Int) ≤ (k : Int) := by omega
            have hfi : (f : Int) < (c.nd : Int) := by omega
            have hf0 : (0 : Int) ≤ (f : Int) := by omega
            have hti : (tt : Int) < (c.nd : Int) := by omega
            have ht0 : (0 : Int) ≤ (tt : Int) := by omega
            have hbw : bs < wr.heap.size := by omega
            have hwr : w.heap.size < wr.heap.size := by omega
            have HO := Lib.hid own
            have HB := Lib.hid hb
            clear own hb
            (have oac := fun o i => below_at ((Below.refl wr.heap.size wr).alloc (Nat.le_refl _) o) (w.heap.size) i (by omega)); (have oaf := fun o i => below_fr ((Below.refl wr.heap.size wr).alloc (Nat.le_refl _) o) (w.heap.size) i (by omega))
            (have obc := fun o i => below_at ((Below.refl wr.heap.size wr).alloc (Nat.le_refl _) o) (g) i (by omega)); (have obf := fun o i => below_fr ((Below.refl wr.heap.size wr).alloc (Nat.le_refl _) o) (g) i (by omega))
            (have occ := fun o i => below_at ((Below.refl wr.heap.size wr).alloc (Nat.le_refl _) o) (bs) i (by omega)); (have ocf := fun o i => below_fr ((Below.refl wr.heap.size wr).alloc (Nat.le_refl _) o) (bs) i (by omega))
            have hal : Below wr.heap.size wr (wr.alloc (.cells #[.int .i64 (f : Int), .int .i64 (tt : Int), .bool s1, .slice A1 n1 c1, .slice B1 m1 d1] 65)) := (Below.refl _ _).alloc (Nat.le_refl _) _
            have HAL := Lib.hid hal
            clear hal
            cases hA : SP (LN r) k f
            · rw [hA] at za hSK
              have HE := Lib.hid (hSK (by simp))
              clear hA hSK hSO
              go_wp2
              go_roundw
              case rel => exact ⟨k + 1, by omega, by go_num, by rw [HE.out.2], by rw [HE.out.1]; exact HO.out.below HAL.out, HB.out.trans (HAL.out.mono (by omega))⟩
              case measure => simp [intOf]; omega
            · cases hB : SP (LN r) k tt
              · cases hD : c.D tt
                · rw [hA, hB, hD] at hSO
                  rw [hA] at za
                  rw [hB] at zb
                  rw [hD] at gd
                  have HE := Lib.hid (hSO rfl)
                  have st := HO.out.set tt true
                  rw [← HE.out.1] at st
                  have hb2 := HB.out.trans (below_of_row st.2 (fun q hq => by injection hq with hq; omega) (by omega))
                  have HST := Lib.hid st.1
                  have HB2 := Lib.hid hb2
                  clear hA hB hD hSK hSO st hb2
                  go_wp2
                  go_roundw
                  case rel => exact ⟨k + 1, by omega, by go_num, by rw [HE.out.2], HST.out.below ((Below.refl _ _).alloc (Nat.le_refl _) _), HB2.out.alloc (by simp; omega) _⟩
                  case measure => simp [intOf]; omega
                · rw [hA, hB, hD] at hSK
                  rw [hA] at za
                  rw [hB] at zb
                  rw [hD] at gd
                  have HE := Lib.hid (hSK rfl)
                  clear hA hB hD hSK hSO
                  go_wp2
                  go_roundw
                  case rel => exact ⟨k + 1, by omega, by go_num, by rw [HE.out.2], by rw [HE.out.1]; exact HO.out.below HAL.out, HB.out.trans (HAL.out.mono (by omega))⟩
                  case measure => simp [intOf]; omega
              · rw [hA] at za
                rw [hB] at zb hSK
                have HE := Lib.hid (hSK (by simp))
                clear hA hB hSK hSO
                go_wp2
                go_roundw
                case rel => exact ⟨k + 1, by omega, by go_num, by rw [HE.out.2], by rw [HE.out.1]; exact HO.out.below HAL.out, HB.out.trans (HAL.out.mono (by omega))⟩
                case measure => simp [intOf]; omega
          · have hkm : k = c.nm := by omega
            subst hkm
            have hm0 := HO.out.memC (by omega)
            have hm1 := own.memC (by omega)
            have hl0 := HCL.out (LN r)
            have hl1 := HCL.out (SP (LN r) c.nm)
            have HO2 := Lib.hid own
            have HB := Lib.hid hb
            clear own hb
            go_wp2
            go_roundw
            case rel => exact ⟨r + 1, _, rfl, fun h => by rw [HS'.out, (HSH.out r h).2]; exact (HSH.out r h).1, by rw [HS'.out]; exact HO2.out, HB.out⟩
            case measure =>
              rw [hm0, hm1]
              cases hc : CH (LN r) c.nm
              · have := (HSH.out r hc).2
                rw [this]
                simp [flagN]
              · have := HCN.out r hc
                simp [flagN]; omega
  · have HC := Lib.hid hc0
    have HCA := Lib.hid (Chn.codeA_n hc0)
    have hE := errM_n hc0
    have HE := Lib.hid hE
    rw [hE] at K1
    rw [HCA.out]
    clear hc0 hE h hs
    go_enter Tryz.func39, Tryz.ntmps39
    (go_wp2_with fail; (with_reducible refine (K1.out _ (by (skip); repeat' (first | (with_reducible exact Below.refl _ _) | (with_reducible assumption) | (with_reducible refine Below.alloc ?_ ?_ _) | (with_reducible refine Below.drew ?_) | (with_reducible refine below_drewN ?_ _) | (with_reducible refine Below.setCell ?_ ?_ _) | (with_reducible refine Below.trans ?_ (Below.mono (by with_reducible assumption) ?_)) | omega | (simp only [ZA, ZS, ZD, ZN]; omega) | go_size))).mono ?_); rintro e w1 ⟨rfl, hb1⟩; have hb1z := Below.size hb1; (try simp only [ZA, ZS, ZD, ZN] at hb1z))
    go_wp2
    go_ret2
    exact ⟨retB4_n HC.out HE.out, (by have z0 := Below.size hb1; (try simp only [ZA, ZS, ZD, ZN] at z0 ⊢; skip); repeat' (first | (with_reducible exact Below.refl _ _) | (with_reducible assumption) | (with_reducible refine Below.alloc ?_ ?_ _) | (with_reducible refine Below.drew ?_) | (with_reducible refine below_drewN ?_ _) | (with_reducible refine Below.setCell ?_ ?_ _) | (with_reducible refine Below.trans ?_ (Below.mono (by with_reducible assumption) ?_)) | omega | (simp only [ZA, ZS, ZD, ZN]; omega) | go_size))⟩
end Go.Proofs.YtomkdgcpmpbfhaaGreatDoor
