/- Contracts of functions and lemmas, used by the proofs of the given statements. No condition beyond those that each lemma names. -/
import Derived.Test.YtomkdgcpmpbfhaaGreatDoorJLinY
namespace Go.Proofs.YtomkdgcpmpbfhaaGreatDoor
open Go.RowKit
set_option linter.unusedSimpArgs false
set_option linter.unusedVariables false
set_option maxRecDepth 20000
attribute [local irreducible] nv wp win plainB validR valR canR mvE chkM codeC spr sprN
/-! ## reference: live -/
set_option maxHeartbeats 8000000 in
theorem rlive_any {w : World} {AM AD : Option Addr} {cm cd : Nat} {c : Chn} (h : ChI w w.heap.size AM cm AD cd c) (ok : c.Ok) (hnm : c.nm ≤ 1000000) :
    Calls Tryz.prog 42 #[cv c.st c.sr AM c.nm cm AD c.nd cd] w fun e w' => (∃ A' c', e = .returned (.slice A' c.nd c') ∧ OwB w' w.heap.size A' c' c.nd c.lv) ∧ Below w.heap.size w w' := by
  have HMV := Lib.hid (fun W hb k hk => h.mv_later (W := W) ok hb (k := k) hk)
  have HDN := Lib.hid (fun W hb s hs => h.dn_later (W := W) hb (s := s) hs)
  have hst := ok.st
  have hn1 := ok.lo
  have hn2 := ok.hi
  obtain ⟨sr, hsr⟩ : ∃ sr : Nat, c.sr = (sr : Int) := ⟨c.sr.toNat, by have := ok.s0; omega⟩
  have hsn : sr < c.nd := by have := ok.s1; omega
  have h0 : c.lvN 0 = upd (fun _ => false) sr (!c.D sr) := by unfold Chn.lvN Chn.lv0; rw [hsr]; unfold sprN; rfl
  have hS : ∀ r, c.lvN (r + 1) = spr (fun s => !c.D s) c.f c.t (c.lvN r) c.nm := fun r => by unfold Chn.lvN; conv => lhs; unfold sprN
  have hL : c.lv = c.lvN c.nd := rfl
  have H0 := Lib.hid h0
  have HS := Lib.hid hS
  have HP0 := Lib.hid (fun l => (by unfold spr; rfl : spr (fun s => !c.D s) c.f c.t l 0 = l))
  have HPK := Lib.hid (fun l k => (by conv => lhs; unfold spr : spr (fun s => !c.D s) c.f c.t l (k + 1) = if spr (fun s => !c.D s) c.f c.t l k (c.f k) && !c.D (c.t k) then upd (spr (fun s => !c.D s) c.f c.t l k) (c.t k) true else spr (fun s => !c.D s) c.f c.t l k))
  obtain ⟨LN, hLN⟩ : ∃ LN, LN = c.lvN := ⟨_, rfl⟩
  obtain ⟨SP, hSP⟩ : ∃ SP : (Nat → Bool) → Nat → Nat → Bool, SP = fun l k => spr (fun s => !c.D s) c.f c.t l k := ⟨_, rfl⟩
  rw [hL]
  rw [← hLN] at H0 HS ⊢
  have HS' : Hid (∀ r, LN (r + 1) = SP (LN r) c.nm) := fun r => by rw [hSP]; exact HS.out r
  have HP0' : Hid (∀ l, SP l 0 = l) := fun l => by rw [hSP]; exact HP0.out l
  have HPK' : Hid (∀ l k, SP l (k + 1) = if SP l k (c.f k) && !c.D (c.t k) then upd (SP l k) (c.t k) true else SP l k) := fun l k => by rw [hSP]; exact HPK.out l k
  rw [hst, hsr]
  clear HS HP0 HPK hSP hLN hL hS h0 h ok hst hsr
  obtain ⟨bs, os, rfl, hbs, -⟩ := HDN.out w (Below.refl _ _) sr hsn
  have hd0 := fun W (hb : Below w.heap.size w W) => (by
    obtain ⟨bd, od, e, -, p⟩ := HDN.out W hb sr hsn
    cases e
    exact p : W.cell? ⟨bs, os + sr, none⟩ = some (.bool (c.D sr)))
  have HD0 := Lib.hid hd0
  clear hd0
  have hsi : (sr : Int) < (c.nd : Int) := by omega
  have hs0 : (0 : Int) ≤ (sr : Int) := by omega
  go_enter Tryz.func42, Tryz.ntmps42
  have hW0 : Below (w.heap.size + 1) (w.alloc (.cells #[.int .i64 (c.nd : Int), .int .i64 (sr : Int), .slice AM c.nm cm, .slice (some ⟨bs, os, none⟩) c.nd cd] 25)) (w.alloc (.cells #[.int .i64 (c.nd : Int), .int .i64 (sr : Int), .slice AM c.nm cm, .slice (some ⟨bs, os, none⟩) c.nd cd] 25)) := Below.refl _ _
  go_wp2_with (first | (at_make; refine wpList_makeB rfl (.tmp 7) (.tmp 7) rfl (w.heap.size + 1) c.nd (c.nd : Int) (c.nd : Int) (by simp [Act.eval]) (by simp [Act.eval]) rfl rfl (by omega) (by simp) ?_; intro w1 own1 hb1; (have hb1' : Below (w.heap.size + 1) (w.alloc (.cells #[.int .i64 (c.nd : Int), .int .i64 (sr : Int), .slice AM c.nm cm, .slice (some ⟨bs, os, none⟩) c.nd cd] 25)) w1 := (by simpa using hb1)); (have y1 : w1.cell? ⟨w.heap.size, 1, none⟩ = some (.int .i64 (sr : Int)) := par_cell hb1' 1); (have y3 : w1.cell? ⟨w.heap.size, 3, none⟩ = some (.slice (some ⟨bs, os, none⟩) c.nd cd) := par_cell hb1' 3); (have y0 : w1.cell? ⟨w.heap.size, 0, none⟩ = some (.int .i64 (c.nd : Int)) := par_cell hb1' 0); (have y2 : w1.cell? ⟨w.heap.size, 2, none⟩ = some (.slice AM c.nm cm) := par_cell hb1' 2)) | fail)
  have hd1 := HD0.out w1 (par_below hb1')
  have hg0 := own1.at_ hsn
  have hfz := own1.frozen
  have st := own1.set sr (!c.D sr)
  have e0 : (w.alloc (.cells #[.int .i64 (c.nd : Int), .int .i64 (sr : Int), .slice AM c.nm cm, .slice (some ⟨bs, os, none⟩) c.nd cd] 25)).heap.size = w.heap.size + 1 := by simp
  rw [e0] at hg0 hfz st
  rw [← H0.out] at st
  have hb2 := hb1'.trans (below_of_row st.2 (fun q hq => by injection hq with hq; omega) (by have := hb1'.size; omega))
  have HST := Lib.hid st.1
  have HB2 := Lib.hid hb2
  clear st hb2 own1 hb1 e0 hW0
  have HPC := Lib.hid (fun W hb => par_cells (W := W) (w := w) (a := .int .i64 (c.nd : Int)) (b := .int .i64 (sr : Int)) (d := .slice AM c.nm cm) (e := .slice (some ⟨bs, os, none⟩) c.nd cd) (t := 25) hb)
  have HPB := Lib.hid (fun W hb => par_below (W := W) (w := w) (o := .cells #[.int .i64 (c.nd : Int), .int .i64 (sr : Int), .slice AM c.nm cm, .slice (some ⟨bs, os, none⟩) c.nd cd] 25) hb)
  go_region
  clear hb1' y0 y1 y2 y3 hd1 hg0 hfz HD0
  generalize w.alloc (.cells #[.int .i64 (c.nd : Int), .int .i64 (sr : Int), .slice AM c.nm cm, .slice (some ⟨bs, os, none⟩) c.nd cd] 25) = W0 at HPC HPB HB2
  have y0 := (HPC.out _ HB2.out).1
  go_wp2
  go_loopw [22] (fun i wr => ∃ r : Nat, r ≤ c.nd ∧ i = .int .i64 (r : Int) ∧ OwB wr (w.heap.size + 1) (some ⟨w.heap.size + 1, 0, none⟩) c.nd c.nd (LN r) ∧ Below (w.heap.size + 1) W0 wr) (fun i _ => c.nd - (intOf i).toNat)
  case atStart => exact ⟨0, Nat.zero_le _, rfl, HST.out, HB2.out.drew⟩
  case round =>
    obtain ⟨r, hr, rfl, own, hb⟩ := hrel
    clear y0 HB2 HST
    have HO := Lib.hid own
    clear own
    by_cases hrl : r < c.nd
    · obtain ⟨-, -, y2, -⟩ := HPC.out _ hb
      obtain ⟨wo, hwo⟩ : ∃ wo, wo = wr := ⟨_, rfl⟩
      subst hwo
      have hri : (r : Int) < (c.nd : Int) := by omega
      go_wp2
      go_loopw [27] (fun i wr => ∃ k : Nat, k ≤ c.nm ∧ i = .int .i64 (k : Int) ∧ OwB wr (w.heap.size + 1) (some ⟨w.heap.size + 1, 0, none⟩) c.nd c.nd (SP (LN r) k) ∧ Below (w.heap.size + 1) W0 wr) (fun i _ => c.nm - (intOf i).toNat)
      case atStart => exact ⟨0, Nat.zero_le _, rfl, by rw [HP0'.out]; exact HO.out, hb⟩
      case round =>
        clear HO hb y2
        obtain ⟨k, hk, rfl, own, hb⟩ := hrel
        have hz := hb.size
        by_cases hlt : k < c.nm
        · obtain ⟨bm, om, s1, A1, n1, c1, B1, m1, d1, rfl, hbm, g0, g1, g2, g3, g4, -, hfn, htn, hft⟩ := HMV.out wr (HPB.out _ hb) k hlt
          obtain ⟨bd, od, e, -, gd⟩ := HDN.out wr (HPB.out _ hb) _ htn
          cases e
          obtain ⟨-, -, -, y3⟩ := HPC.out _ hb
          have za := own.at_ hfn
          have hfz := own.frozen
          have hgw : w.heap.size + 1 < wr.heap.size := by
            have := World.ownsRow.lt own (w.heap.size + 1) rfl
            exact this.2
          have HSK := HPK'.out (LN r) k
          obtain ⟨f, hf⟩ : ∃ f, f = c.f k := ⟨_, rfl⟩
          obtain ⟨tt, ht⟩ : ∃ tt, tt = c.t k := ⟨_, rfl⟩
          rw [← hf] at za g0 hfn HSK
          rw [← ht] at gd g1 htn HSK
          clear hf ht hft
          have hki : (k : Int) < (c.nm : Int) := by omega
          have hk0 : (0 : Int) ≤ (k : Int) := by omega
          have hfi : (f : Int) < (c.nd : Int) := by omega
          have hf0 : (0 : Int) ≤ (f : Int) := by omega
          have hti : (tt : Int) < (c.nd : Int) := by omega
          have ht0 : (0 : Int) ≤ (tt : Int) := by omega
          have hbw : bs < wr.heap.size := by omega
          have hwr : w.heap.size < wr.heap.size := by omega
          have HO := Lib.hid own
          have HB := Lib.hid hb
          clear own hb
          (have oac := fun o i => below_at ((Below.refl wr.heap.size wr).alloc (Nat.le_refl _) o) (w.heap.size) i (by omega)); (have oaf := fun o i => below_fr ((Below.refl wr.heap.size wr).alloc (Nat.le_refl _) o) (w.heap.size) i (by omega))
          (have obc := fun o i => below_at ((Below.refl wr.heap.size wr).alloc (Nat.le_refl _) o) (w.heap.size + 1) i (by omega)); (have obf := fun o i => below_fr ((Below.refl wr.heap.size wr).alloc (Nat.le_refl _) o) (w.heap.size + 1) i (by omega))
          (have occ := fun o i => below_at ((Below.refl wr.heap.size wr).alloc (Nat.le_refl _) o) (bs) i (by omega)); (have ocf := fun o i => below_fr ((Below.refl wr.heap.size wr).alloc (Nat.le_refl _) o) (bs) i (by omega))
          have hal : Below wr.heap.size wr (wr.alloc (.cells #[.int .i64 (f : Int), .int .i64 (tt : Int), .bool s1, .slice A1 n1 c1, .slice B1 m1 d1] 65)) := (Below.refl _ _).alloc (Nat.le_refl _) _
          have HAL := Lib.hid hal
          clear hal
          cases hA : SP (LN r) k f
          · rw [hA] at za HSK
            have HE := Lib.hid (HSK.trans (by simp : _ = SP (LN r) k))
            clear hA HSK
            go_wp2
            go_roundw
            case rel => exact ⟨k + 1, by omega, by go_num, by rw [HE.out]; exact HO.out.below HAL.out, HB.out.trans (HAL.out.mono (by omega))⟩
            case measure => simp [intOf]; omega
          · cases hD : c.D tt
            · rw [hA, hD] at HSK
              rw [hA] at za
              rw [hD] at gd
              have HE := Lib.hid (HSK.trans (by simp : _ = upd (SP (LN r) k) tt true))
              have st := HO.out.set tt true
              rw [← HE.out] at st
              have hb2 := HB.out.trans (below_of_row st.2 (fun q hq => by injection hq with hq; omega) (by omega))
              have zb := HO.out.at_ htn
              have HST := Lib.hid st.1
              have HB2 := Lib.hid hb2
              clear hA hD HSK st hb2
              go_wp2
              go_roundw
              case rel => exact ⟨k + 1, by omega, by go_num, HST.out.below ((Below.refl _ _).alloc (Nat.le_refl _) _), HB2.out.alloc (by simp; omega) _⟩
              case measure => simp [intOf]; omega
            · rw [hA, hD] at HSK
              rw [hA] at za
              rw [hD] at gd
              have HE := Lib.hid (HSK.trans (by simp : _ = SP (LN r) k))
              clear hA hD HSK
              go_wp2
              go_roundw
              case rel => exact ⟨k + 1, by omega, by go_num, by rw [HE.out]; exact HO.out.below HAL.out, HB.out.trans (HAL.out.mono (by omega))⟩
              case measure => simp [intOf]; omega
        · have hkm : k = c.nm := by omega
          subst hkm
          have HO := Lib.hid own
          have HB := Lib.hid hb
          clear own hb
          go_wp2
          go_roundw
          case rel => exact ⟨r + 1, by omega, by go_num, by rw [HS'.out]; exact HO.out, HB.out⟩
          case measure => simp [intOf]; omega
    · have hrn : r = c.nd := by omega
      subst hrn
      have HB := Lib.hid hb
      clear hb
      go_wp2
      go_ret
      exact ⟨⟨_, _, rfl, own_base HO.out (by omega)⟩, HPB.out _ HB.out⟩
end Go.Proofs.YtomkdgcpmpbfhaaGreatDoor
namespace Go.Proofs.YtomkdgcpmpbfhaaGreatDoor
open Go.RowKit
set_option linter.unusedSimpArgs false
set_option linter.unusedVariables false
set_option maxRecDepth 20000
attribute [local irreducible] nv wp win plainB validR valR canR mvE chkM codeC spr sprN
/-! ## slices.Clone of bools -/
theorem Rds.head {w : World} {B s n : Nat} {A : Option Addr} {xs : List Value} (h : Rds w B s A n xs) (hA : A = none) : n = 0 := by
  rcases Nat.eq_zero_or_pos n with h0 | h0
  · exact h0
  · obtain ⟨b, off, e, _⟩ := h.2 h0
    rw [hA] at e
    cases e
set_option maxHeartbeats 4000000 in
theorem cloneB_any {w : World} {n c : Nat} {A : Option Addr} {f : Nat → Bool} (h : Rds w w.heap.size 1 A n (bools n f)) (hn : n ≤ 1000000) :
    Calls Tryz.prog 69 #[.slice A n c] w fun e w' => (∃ A' c', e = .returned (.slice A' n c') ∧ OwB w' w.heap.size A' c' n f) ∧ Below w.heap.size w w' := by
  have hs := fun w => Lib.run_eql_slice_nil (P := Tryz.prog) w 23 4 A n c 0 0 Tryz.underlying23
  cases A with
  | none =>
    obtain rfl : n = 0 := h.head rfl
    go_enter Tryz.func69, Tryz.ntmps69
    go_wp2
    go_ret
    exact ⟨⟨_, _, rfl, own_nil _ _ _ _⟩, Below.refl _ _⟩
  | some a =>
    have HR := Lib.hid h
    clear h
    go_enter Tryz.func69, Tryz.ntmps69
    go_wp2_with (at_builtin; refine wpList_app rfl (.tmp 5) (.tmp 6) 23 rfl w.heap.size 4 _ 1 1 Tryz.underlying23 boolInfo rfl (by decide) (some ⟨w.heap.size, 0, none⟩) 0 0 [] rfl (World.ownsRow_lit w #[] 0 (Nat.le_refl _) (by unfold maxLen; omega) (by simp)) w.heap.size (some a) n c (bools n f) rfl (Rds.alloc HR.out (Nat.le_refl _) _) (by intro u hu; simp [bools] at hu; obtain ⟨j, _, rfl⟩ := hu; rfl) (by unfold maxLen; omega) (by omega) (by simp) ?_; intro A' c' w1 hown hbel hgrow hfr)
    simp only [Nat.zero_add, List.nil_append] at hown hfr
    have hb1 : Below w.heap.size w w1 := ((Below.refl _ _).alloc (Nat.le_refl _) _).trans hbel
    have HO := Lib.hid hown
    clear hown
    go_wp2
    go_ret
    exact ⟨⟨_, _, rfl, HO.out⟩, hb1⟩
/-! ## the marks as memory has them -/
def memB (w : World) (g j : Nat) : Bool := match w.cell? ⟨g, j, none⟩ with | some (.bool b) => b | _ => false
def memC (w : World) (A : Value) (n : Nat) : Nat := match A with | .slice (some a) _ _ => cnt (memB w a.block) n | _ => 0
theorem OwB.memC {w : World} {base c n : Nat} {A : Option Addr} {f : Nat → Bool} (h : OwB w base A c n f) (hn : 0 < n) : memC w (.slice A n c) n = cnt f n := by
  obtain ⟨g, rfl⟩ : ∃ g, A = some ⟨g, 0, none⟩ := by
    obtain ⟨g, cap, hv, _, _⟩ := World.ownsRow.form h hn
    exact ⟨g, by injection hv⟩
  show cnt (memB w g) n = cnt f n
  have : ∀ k, k ≤ n → cnt (memB w g) k = cnt f k := by
    intro k
    induction k with
    | zero => intro _; rfl
    | succ k ih =>
      intro hk
      have e : memB w g k = f k := by unfold memB; rw [h.at_ (by omega)]
      unfold cnt
      rw [ih (by omega), e]
  exact this n (Nat.le_refl _)
theorem OwB.head {w : World} {base c n : Nat} {A : Option Addr} {f : Nat → Bool} (h : OwB w base A c n f) (hn : 0 < n) : ∃ g, A = some ⟨g, 0, none⟩ ∧ base ≤ g ∧ g < w.heap.size := by
  obtain ⟨g, cap, hv, _, _⟩ := World.ownsRow.form h hn
  have hA : A = some ⟨g, 0, none⟩ := by injection hv
  subst hA
  have := World.ownsRow.lt h g rfl
  exact ⟨g, rfl, this.1, this.2⟩
/-- a step of the spreading, in the two forms that the walks meet -/
theorem spr_skip {G : Nat → Bool} {F T : Nat → Nat} {l : Nat → Bool} {k : Nat} (h : (spr G F T l k (F k) && G (T k) && !spr G F T l k (T k)) = false) : spr G F T l (k + 1) = spr G F T l k ∧ chg G F T l (k + 1) = chg G F T l k := by
  refine ⟨?_, ?_⟩
  · rw [spr]
    split
    · rename_i h1
      rw [h1] at h
      exact upd_id (by simpa using h)
    · rfl
  · rw [chg, h, Bool.or_false]
theorem spr_store {G : Nat → Bool} {F T : Nat → Nat} {l : Nat → Bool} {k : Nat} (h : (spr G F T l k (F k) && G (T k) && !spr G F T l k (T k)) = true) : spr G F T l (k + 1) = upd (spr G F T l k) (T k) true ∧ chg G F T l (k + 1) = true := by
  have h1 := h
  rw [Bool.and_eq_true] at h1
  refine ⟨?_, ?_⟩
  · rw [spr, if_pos h1.1]
  · rw [chg, h, Bool.or_true]
def flagN : Value → Nat
  | .bool true => 1
  | _ => 0
end Go.Proofs.YtomkdgcpmpbfhaaGreatDoor
