/- Contracts of functions and lemmas, used by the proofs of the given statements. No condition beyond those that each lemma names. -/
import Derived.Test.YtmebdlilbnadgaaGreatDoorJLinY
namespace Go.Proofs.YtmebdlilbnadgaaGreatDoor
open Go.RowKit
set_option linter.unusedSimpArgs false
set_option linter.unusedVariables false
set_option maxRecDepth 20000
attribute [local irreducible] nv wp win plainB validR valR canR mvE chkM codeC spr sprN
/-! ## reference: reach -/
set_option maxHeartbeats 8000000 in
theorem rreach_any {w : World} {AM AD : Option Addr} {cm cd a : Nat} {c : Chn} (h : ChI w w.heap.size AM cm AD cd c) (ok : c.Ok) (hnm : c.nm ≤ 1000000) (ha : a < c.nd) :
    Calls Tryz.prog 94 #[cv c.st c.sr AM c.nm cm AD c.nd cd, .int .i64 (a : Int)] w fun e w' => (∃ A' c', e = .returned (.slice A' c.nd c') ∧ OwB w' w.heap.size A' c' c.nd (rsF c.f c.t c.nm c.nd a)) ∧ Below w.heap.size w w' := by
  have HMV := Lib.hid (fun W hb k hk => h.mv_later (W := W) ok hb (k := k) hk)
  have hst := ok.st
  have hn1 := ok.lo
  have hn2 := ok.hi
  obtain ⟨sr, hsr⟩ : ∃ sr : Int, sr = c.sr := ⟨c.sr, rfl⟩
  have hL : rsF c.f c.t c.nm c.nd a = sprN (fun _ => true) c.f c.t c.nm (upd (fun _ => false) a true) c.nd := rfl
  have h0 : sprN (fun _ => true) c.f c.t c.nm (upd (fun _ => false) a true) 0 = upd (fun _ => false) a true := by unfold sprN; rfl
  have hS : ∀ r, sprN (fun _ => true) c.f c.t c.nm (upd (fun _ => false) a true) (r + 1) = spr (fun _ => true) c.f c.t (sprN (fun _ => true) c.f c.t c.nm (upd (fun _ => false) a true) r) c.nm := fun r => by conv => lhs; unfold sprN
  have HP0 := Lib.hid (fun l => (by unfold spr; rfl : spr (fun _ => true) c.f c.t l 0 = l))
  have HPK := Lib.hid (fun l k => (by conv => lhs; unfold spr : spr (fun _ => true) c.f c.t l (k + 1) = if spr (fun _ => true) c.f c.t l k (c.f k) && true then upd (spr (fun _ => true) c.f c.t l k) (c.t k) true else spr (fun _ => true) c.f c.t l k))
  obtain ⟨LN, hLN⟩ : ∃ LN : Nat → Nat → Bool, LN = fun r => sprN (fun _ => true) c.f c.t c.nm (upd (fun _ => false) a true) r := ⟨_, rfl⟩
  obtain ⟨SP, hSP⟩ : ∃ SP : (Nat → Bool) → Nat → Nat → Bool, SP = fun l k => spr (fun _ => true) c.f c.t l k := ⟨_, rfl⟩
  have H0 : Hid (LN 0 = upd (fun _ => false) a true) := by rw [hLN]; exact h0
  have HS' : Hid (∀ r, LN (r + 1) = SP (LN r) c.nm) := fun r => by rw [hSP, hLN]; exact hS r
  have HP0' : Hid (∀ l, SP l 0 = l) := fun l => by rw [hSP]; exact HP0.out l
  have HPK' : Hid (∀ l k, SP l (k + 1) = if SP l k (c.f k) && true then upd (SP l k) (c.t k) true else SP l k) := fun l k => by rw [hSP]; exact HPK.out l k
  have hE : rsF c.f c.t c.nm c.nd a = LN c.nd := by rw [hL, hLN]
  rw [hst, ← hsr, hE]
  clear HP0 HPK hSP hLN hL hS h0 h ok hst hsr hE
  have hai : (a : Int) < (c.nd : Int) := by omega
  have ha0 : (0 : Int) ≤ (a : Int) := by omega
  have HPC := Lib.hid (fun W hb => par_cells (W := W) (w := w) (a := .int .i64 (c.nd : Int)) (b := .int .i64 sr) (d := .slice AM c.nm cm) (e := .slice AD c.nd cd) (t := 25) hb)
  have HPB := Lib.hid (fun W hb => par_below (W := W) (w := w) (o := .cells #[.int .i64 (c.nd : Int), .int .i64 sr, .slice AM c.nm cm, .slice AD c.nd cd] 25) hb)
  go_enter Tryz.func94, Tryz.ntmps94
  have hW0 : Below (w.heap.size + 1) (w.alloc (.cells #[.int .i64 (c.nd : Int), .int .i64 sr, .slice AM c.nm cm, .slice AD c.nd cd] 25)) (w.alloc (.cells #[.int .i64 (c.nd : Int), .int .i64 sr, .slice AM c.nm cm, .slice AD c.nd cd] 25)) := Below.refl _ _
  go_wp2_with (first | (at_make; refine wpList_makeB rfl (.tmp 9) (.tmp 9) rfl (w.heap.size + 1) c.nd (c.nd : Int) (c.nd : Int) (by simp [Act.eval]) (by simp [Act.eval]) rfl rfl (by omega) (by simp) ?_; intro w1 own1 hb1; (have hb1' : Below (w.heap.size + 1) (w.alloc (.cells #[.int .i64 (c.nd : Int), .int .i64 sr, .slice AM c.nm cm, .slice AD c.nd cd] 25)) w1 := (by simpa using hb1)); (have hg0 := own1.at_ ha); (have hfz := own1.frozen); (simp only [World.size_alloc] at hg0 hfz); (obtain ⟨y0, -, -, -⟩ := HPC.out _ hb1')) | fail)
  have st := own1.set a true
  have e0 : (w.alloc (.cells #[.int .i64 (c.nd : Int), .int .i64 sr, .slice AM c.nm cm, .slice AD c.nd cd] 25)).heap.size = w.heap.size + 1 := by simp
  rw [e0] at st
  rw [← H0.out] at st
  have hb2 := hb1'.trans (below_of_row st.2 (fun q hq => by injection hq with hq; omega) (by have := hb1'.size; omega))
  have HST := Lib.hid st.1
  have HB2 := Lib.hid hb2
  clear st hb2 own1 hb1 e0 hW0
  generalize w.alloc (.cells #[.int .i64 (c.nd : Int), .int .i64 sr, .slice AM c.nm cm, .slice AD c.nd cd] 25) = W0 at *
  go_loopw [16] (fun i wr => ∃ r : Nat, r ≤ c.nd ∧ i = .int .i64 (r : Int) ∧ OwB wr (w.heap.size + 1) (some ⟨w.heap.size + 1, 0, none⟩) c.nd c.nd (LN r) ∧ Below (w.heap.size + 1) W0 wr) (fun i _ => c.nd - (intOf i).toNat)
  case atStart => exact ⟨0, Nat.zero_le _, rfl, HST.out, HB2.out⟩
  case round =>
    obtain ⟨r, hr, rfl, own, hb⟩ := hrel
    clear y0 HB2 HST
    have HO := Lib.hid own
    clear own
    by_cases hrl : r < c.nd
    · obtain ⟨-, -, y2, -⟩ := HPC.out _ hb
      obtain ⟨wo, hwo⟩ : ∃ wo, wo = wr := ⟨_, rfl⟩
      subst hwo
      have hri : (r : Int) < (c.nd : Int) := by omega
      go_wp2
      go_loopw [21] (fun i wr => ∃ k : Nat, k ≤ c.nm ∧ i = .int .i64 (k : Int) ∧ OwB wr (w.heap.size + 1) (some ⟨w.heap.size + 1, 0, none⟩) c.nd c.nd (SP (LN r) k) ∧ Below (w.heap.size + 1) W0 wr) (fun i _ => c.nm - (intOf i).toNat)
      case atStart => exact ⟨0, Nat.zero_le _, rfl, by rw [HP0'.out]; exact HO.out, hb⟩
      case round =>
        clear HO hb y2
        obtain ⟨k, hk, rfl, own, hb⟩ := hrel
        have hz := hb.size
        by_cases hlt : k < c.nm
        · obtain ⟨bm, om, s1, A1, n1, c1, B1, m1, d1, rfl, hbm, g0, g1, g2, g3, g4, -, hfn, htn, hft⟩ := HMV.out wr (HPB.out _ hb) k hlt
          have za := own.at_ hfn
          have zb := own.at_ htn
          have hfz := own.frozen
          have hgw : w.heap.size + 1 < wr.heap.size := by
            have := World.ownsRow.lt own (w.heap.size + 1) rfl
            exact this.2
          have HSK := HPK'.out (LN r) k
          obtain ⟨f, hf⟩ : ∃ f, f = c.f k := ⟨_, rfl⟩
          obtain ⟨tt, ht⟩ : ∃ tt, tt = c.t k := ⟨_, rfl⟩
          rw [← hf] at za g0 hfn HSK
          rw [← ht] at g1 htn HSK zb
          clear hf ht hft
          have hki : (k : Int) < (c.nm : Int) := by omega
          have hk0 : (0 : Int) ≤ (k : Int) := by omega
          have hfi : (f : Int) < (c.nd : Int) := by omega
          have hf0 : (0 : Int) ≤ (f : Int) := by omega
          have hti : (tt : Int) < (c.nd : Int) := by omega
          have ht0 : (0 : Int) ≤ (tt : Int) := by omega
          have HO := Lib.hid own
          have HB := Lib.hid hb
          clear own hb
          (have obc := fun o i => below_at ((Below.refl wr.heap.size wr).alloc (Nat.le_refl _) o) (w.heap.size + 1) i (by omega)); (have obf := fun o i => below_fr ((Below.refl wr.heap.size wr).alloc (Nat.le_refl _) o) (w.heap.size + 1) i (by omega))
          have hal : Below wr.heap.size wr (wr.alloc (.cells #[.int .i64 (f : Int), .int .i64 (tt : Int), .bool s1, .slice A1 n1 c1, .slice B1 m1 d1] 33)) := (Below.refl _ _).alloc (Nat.le_refl _) _
          have HAL := Lib.hid hal
          clear hal
          cases hA : SP (LN r) k f
          · rw [hA] at za HSK
            have HE := Lib.hid (HSK.trans (by simp : _ = SP (LN r) k))
            clear hA HSK
            go_wp2
            go_roundw
            case rel => exact ⟨k + 1, by omega, by go_num, by rw [HE.out]; exact HO.out.below HAL.out, HB.out.trans (HAL.out.mono (by omega))⟩
            case measure => simp [intOf]; omega
          · rw [hA] at HSK
            rw [hA] at za
            have HE := Lib.hid (HSK.trans (by simp : _ = upd (SP (LN r) k) tt true))
            have st := HO.out.set tt true
            rw [← HE.out] at st
            have hb2 := HB.out.trans (below_of_row st.2 (fun q hq => by injection hq with hq; omega) (by omega))
            have HST := Lib.hid st.1
            have HB2 := Lib.hid hb2
            clear hA HSK st hb2
            go_wp2
            go_roundw
            case rel => exact ⟨k + 1, by omega, by go_num, HST.out.below ((Below.refl _ _).alloc (Nat.le_refl _) _), HB2.out.alloc (by simp; omega) _⟩
            case measure => simp [intOf]; omega
        · have hkm : k = c.nm := by omega
          subst hkm
          have HO := Lib.hid own
          have HB := Lib.hid hb
          clear own hb
          go_wp2
          go_roundw
          case rel => exact ⟨r + 1, by omega, by go_num, by rw [HS'.out]; exact HO.out, HB.out⟩
          case measure => simp [intOf]; omega
    · have hrn : r = c.nd := by omega
      subst hrn
      have HB := Lib.hid hb
      clear hb
      go_wp2
      go_ret
      exact ⟨⟨_, _, rfl, own_base HO.out (by omega)⟩, HPB.out _ HB.out⟩
end Go.Proofs.YtmebdlilbnadgaaGreatDoor
