/- Contracts of functions and lemmas, used by the proofs of the given statements. No condition beyond those that each lemma names. -/
import Derived.Test.YtoiopnmphbnjaaaGreatDoorJSumB
import Derived.Test.YtoiopnmphbnjaaaGreatDoorRowB
namespace Go.Proofs.YtoiopnmphbnjaaaGreatDoor
open Go.RowKit
set_option linter.unusedSimpArgs false
set_option linter.unusedVariables false
set_option maxRecDepth 20000
attribute [local irreducible] nv wp win plainB validR valR canR mvE chkM codeC
/-! ## chain.Reach -/
/-- the states that can be reached -/
inductive Rch (c : Chn) (s : Nat) : Nat → Prop
  | base : Rch c s s
  | step {k : Nat} : k < c.nm → Rch c s (c.f k) → Rch c s (c.t k)
/-- how many are not marked -/
def cntF (o : Nat → Bool) : Nat → Nat
  | 0 => 0
  | n + 1 => cntF o n + (if o n then 0 else 1)
theorem cntF_congr {o p : Nat → Bool} : ∀ {n : Nat}, (∀ i, i < n → o i = p i) → cntF o n = cntF p n
  | 0, _ => rfl
  | n + 1, h => by rw [cntF, cntF, cntF_congr fun i hi => h i (by omega), h n (by omega)]
theorem cntF_set {o : Nat → Bool} {t : Nat} (ht : o t = false) : ∀ {n : Nat}, cntF (fun j => if j = t then true else o j) n + (if t < n then 1 else 0) = cntF o n
  | 0 => rfl
  | n + 1 => by
    have ih := cntF_set (o := o) (t := t) ht (n := n)
    show cntF _ n + (if (if n = t then true else o n) = true then 0 else 1) + _ = cntF o n + (if o n = true then 0 else 1)
    by_cases e : n = t
    · subst e
      rw [if_neg (Nat.lt_irrefl n)] at ih
      rw [if_pos (Nat.lt_succ_self n), if_pos rfl, ht, if_pos rfl, if_neg (by decide)]
      omega
    · rw [if_neg e]
      by_cases h : t < n
      · rw [if_pos h] at ih
        rw [if_pos (show t < n + 1 by omega)]
        omega
      · rw [if_neg h] at ih
        rw [if_neg (show ¬ t < n + 1 by omega)]
        omega
/-- the marks in memory -/
def memB (w : World) (g : Nat) (i : Nat) : Bool := match w.cell? ⟨g, i, none⟩ with | some (.bool b) => b | _ => false
theorem memB_of {w : World} {base g c n : Nat} {o : Nat → Bool} (h : OwVb w base (some ⟨g, 0, none⟩) c n o) : cntF (memB w g) n = cntF o n := cntF_congr fun i hi => by
  unfold memB
  rw [h.at_ hi]
def boolOf (v : Value) : Nat := match v with | .bool true => 1 | _ => 0
structure RcI (c : Chn) (s : Nat) (o : Nat → Bool) : Prop where
  hs : o s = true
  snd : ∀ i, o i = true → Rch c s i
theorem RcI.set {c : Chn} {s k : Nat} {o : Nat → Bool} (h : RcI c s o) (hk : k < c.nm) (hf : o (c.f k) = true) : RcI c s (fun j => if j = c.t k then true else o j) := by
  refine ⟨?_, fun i hi => ?_⟩
  · split
    · rfl
    · exact h.hs
  · by_cases e : i = c.t k
    · rw [e]; exact .step hk (h.snd _ hf)
    · rw [if_neg e] at hi; exact h.snd i hi
/-- what Reach answers -/
def RetRc (b0 : Nat) (c : Chn) (s : Int) (e : Ending) (w' : World) : Prop :=
  if c.code ≠ 0 then e = .returned (.tuple #[.slice none 0 0, errM c.code]) else
  if s < 0 ∨ c.st ≤ s then e = .returned (.tuple #[.slice none 0 0, .iface 80 (.int .i64 10)]) else
  ∃ g o, e = .returned (.tuple #[.slice (some ⟨g, 0, none⟩) c.nd c.nd, .nilIface]) ∧ OwVb w' b0 (some ⟨g, 0, none⟩) c.nd c.nd o ∧ ∀ i, i < c.nd → (o i = true ↔ Rch c s.toNat i)
set_option maxHeartbeats 16000000 in
theorem reach_any {w : World} {AM AD : Option Addr} {cm cd : Nat} {c : Chn} {s : Int} (h : ChI w w.heap.size AM cm AD cd c) (hn : c.nm ≤ 1000000) (hz : Short c.nm c.R) :
    Calls Tryz.prog 17 #[cv c.st c.sr AM c.nm cm AD c.nd cd, .int .i64 s] w fun e w' => RetRc w.heap.size c s e w' ∧ Below w.heap.size w w' := by
  have K1 := Lib.hid (fun W (hb : Below w.heap.size w W) => chCheck (h.below hb) hn hz)
  have hok := Chn.ok_iff (c := c)
  have HR : Hid (∀ e w', RetRc w.heap.size c s e w' ↔ if c.code ≠ 0 then e = .returned (.tuple #[.slice none 0 0, errM c.code]) else
      if s < 0 ∨ c.st ≤ s then e = .returned (.tuple #[.slice none 0 0, .iface 80 (.int .i64 10)]) else
      ∃ g o, e = .returned (.tuple #[.slice (some ⟨g, 0, none⟩) c.nd c.nd, .nilIface]) ∧ OwVb w' w.heap.size (some ⟨g, 0, none⟩) c.nd c.nd o ∧ ∀ i, i < c.nd → (o i = true ↔ Rch c s.toNat i)) := fun e w' => Iff.rfl
  generalize RetRc w.heap.size c s = RM at *
  obtain ⟨cc, hcc⟩ : ∃ cc, cc = c.code := ⟨_, rfl⟩
  rw [← hcc] at K1 hok HR
  clear hcc
  by_cases h0 : cc = 0
  · have ok := hok.1 h0
    rw [h0, errM_0] at K1
    by_cases hs : s < 0 ∨ c.st ≤ s
    · have HE : Hid (∀ w', RM (.returned (.tuple #[.slice none 0 0, .iface 80 (.int .i64 10)])) w') := fun w' => (HR.out _ _).2 (by rw [if_neg (by omega), if_pos hs])
      have KS := Lib.hid (fun W => state_no (sr := c.sr) (AM := AM) (nm := c.nm) (cm := cm) (AD := AD) (nd := c.nd) (cd := cd) W hs)
      clear h0 HR ok h hn hz hok hs
      obtain ⟨st, sr, nm, F, T, R, nd, D⟩ := c
      simp only at *
      go_enter Tryz.func17, Tryz.ntmps17
      (go_wp2_with fail; (with_reducible refine (K1.out _ (by (skip); repeat' (first | (with_reducible exact Below.refl _ _) | (with_reducible assumption) | (with_reducible refine Below.alloc ?_ ?_ _) | (with_reducible refine Below.drew ?_) | (with_reducible refine below_drewN ?_ _) | (with_reducible refine Below.setCell ?_ ?_ _) | (with_reducible refine Below.trans ?_ (Below.mono (by with_reducible assumption) ?_)) | omega | (simp only [ZA, ZS, ZD, ZN]; omega) | go_size))).mono ?_); rintro e w1 ⟨rfl, hb1⟩; have hb1z := Below.size hb1; (try simp only [ZA, ZS, ZD, ZN] at hb1z); have hb1c0 := fun o => below_at hb1 (w.heap.size) o (by first | omega | (simp only [ZA, ZS, ZD, ZN]; omega)); have hb1f0 := fun o => below_fr hb1 (w.heap.size) o (by first | omega | (simp only [ZA, ZS, ZD, ZN]; omega)))
      (go_wp2_with fail; (with_reducible refine (KS.out _).mono ?_); rintro e w2 ⟨rfl, hb2⟩; have hb2z := Below.size hb2; (try simp only [ZA, ZS, ZD, ZN] at hb2z); have hb2c0 := fun o => below_at hb2 (w.heap.size) o (by first | omega | (simp only [ZA, ZS, ZD, ZN]; omega)); have hb2f0 := fun o => below_fr hb2 (w.heap.size) o (by first | omega | (simp only [ZA, ZS, ZD, ZN]; omega)))
      go_wp2
      go_ret2
      exact ⟨HE.out _, (by have z0 := Below.size hb1; have z1 := Below.size hb2; (try simp only [ZA, ZS, ZD, ZN] at z0 z1 ⊢; skip); repeat' (first | (with_reducible exact Below.refl _ _) | (with_reducible assumption) | (with_reducible refine Below.alloc ?_ ?_ _) | (with_reducible refine Below.drew ?_) | (with_reducible refine below_drewN ?_ _) | (with_reducible refine Below.setCell ?_ ?_ _) | (with_reducible refine Below.trans ?_ (Below.mono (by with_reducible assumption) ?_)) | omega | (simp only [ZA, ZS, ZD, ZN]; omega) | go_size))⟩
    · have hs0 : 0 ≤ s := by omega
      have hs1 : s < c.st := by omega
      obtain ⟨u, hu⟩ : ∃ u : Nat, (u : Int) = s := ⟨s.toNat, by omega⟩
      subst hu
      have hn1 := ok.lo
      have hn2 := ok.hi
      have hst := ok.st
      have HE : Hid (∀ g o w', OwVb w' w.heap.size (some ⟨g, 0, none⟩) c.nd c.nd o → RcI c u o → (∀ k, k < c.nm → o (c.f k) = true → o (c.t k) = true) → RM (.returned (.tuple #[.slice (some ⟨g, 0, none⟩) c.nd c.nd, .nilIface])) w') := fun g o w' ho hi hc => (HR.out _ _).2 (by
        rw [if_neg (by omega), if_neg hs]
        have key : ∀ i, Rch c u i → o i = true := fun i hr => by
          induction hr with
          | base => exact hi.hs
          | step hk _ ih => exact hc _ hk ih
        exact ⟨g, o, rfl, ho, fun i _ => ⟨hi.snd i, key i⟩⟩)
      have KS := Lib.hid (fun W => state_yes (sr := c.sr) (AM := AM) (nm := c.nm) (cm := cm) (AD := AD) (nd := c.nd) (cd := cd) W hs0 hs1)
      have HMV := Lib.hid (fun W hb k hk => h.mvLater (W := W) ok hb (k := k) hk)
      rw [hst] at K1 KS hs1 ⊢
      clear h0 HR ok h hz hok hs hst
      have HPC := Lib.hid (fun W hb => pc4 (W := W) (w := w) (a := .int .i64 (c.nd : Int)) (b := .int .i64 c.sr) (d := .slice AM c.nm cm) (e := .slice AD c.nd cd) (t := 32) hb)
      have HPB := Lib.hid (fun W hb => pb4 (W := W) (w := w) (o := .cells #[.int .i64 (c.nd : Int), .int .i64 c.sr, .slice AM c.nm cm, .slice AD c.nd cd] 32) hb)
      have hW0z : (w.alloc (.cells #[.int .i64 (c.nd : Int), .int .i64 c.sr, .slice AM c.nm cm, .slice AD c.nd cd] 32)).heap.size = w.heap.size + 1 := by simp
      have hun : u < c.nd := by omega
      go_enter Tryz.func17, Tryz.ntmps17
      (go_wp2_with fail; (with_reducible refine (K1.out _ (by (skip); repeat' (first | (with_reducible exact Below.refl _ _) | (with_reducible assumption) | (with_reducible refine Below.alloc ?_ ?_ _) | (with_reducible refine Below.drew ?_) | (with_reducible refine below_drewN ?_ _) | (with_reducible refine Below.setCell ?_ ?_ _) | (with_reducible refine Below.trans ?_ (Below.mono (by with_reducible assumption) ?_)) | omega | (simp only [ZA, ZS, ZD, ZN]; omega) | go_size))).mono ?_); rintro e w1 ⟨rfl, hb1⟩; have hb1z := Below.size hb1; (try simp only [ZA, ZS, ZD, ZN] at hb1z); have hb1c0 := fun o => below_at hb1 (w.heap.size) o (by first | omega | (simp only [ZA, ZS, ZD, ZN]; omega)); have hb1f0 := fun o => below_fr hb1 (w.heap.size) o (by first | omega | (simp only [ZA, ZS, ZD, ZN]; omega)))
      (go_wp2_with fail; (with_reducible refine (KS.out _).mono ?_); rintro e w2 ⟨rfl, hb2⟩; have hb2z := Below.size hb2; (try simp only [ZA, ZS, ZD, ZN] at hb2z); have hb2c0 := fun o => below_at hb2 (w.heap.size) o (by first | omega | (simp only [ZA, ZS, ZD, ZN]; omega)); have hb2f0 := fun o => below_fr hb2 (w.heap.size) o (by first | omega | (simp only [ZA, ZS, ZD, ZN]; omega)))
      have HB2 : Hid (Below (w.heap.size + 1) (w.alloc (.cells #[.int .i64 (c.nd : Int), .int .i64 c.sr, .slice AM c.nm cm, .slice AD c.nd cd] 32)) w2) := by
        show Below _ _ _
        have h1 := hb1
        have h2 := hb2.size
        simp only [World.size_alloc] at h1
        exact h1.trans (hb2.mono (by have := hb1.size; simp only [World.size_alloc] at this; omega))
      have hz2 := HB2.out.size
      rw [hW0z] at hz2
      clear hb1 hb1c0 hb1f0 hb2 hb2c0 hb2f0 K1 KS
      generalize w.alloc (.cells #[.int .i64 (c.nd : Int), .int .i64 c.sr, .slice AM c.nm cm, .slice AD c.nd cd] 32) = W0 at *
      obtain ⟨y0, y1, y2, y3⟩ := HPC.out _ HB2.out
      obtain ⟨wM, hwM⟩ : ∃ wM, wM = w2 := ⟨_, rfl⟩
      subst hwM
      have hu1 : (u : Int) < (c.nd : Int) := by omega
      go_wp2_with (first | (at_make; refine wpList_makeV rfl (.tmp 22) (.tmp 22) rfl wM.heap.size c.nd (c.nd : Int) (c.nd : Int) (by first | rfl | simp [Act.eval]) (by first | rfl | simp [Act.eval]) rfl rfl (by omega) (Nat.le_refl _) ?_; intro w5 own5 hb5; (have c5 := own5.at_ hun); (have f5 := own5.frozen)) | fail)
      have hs5 := own5.set u true
      have HO5 := Lib.hid hs5.1
      have HB5 := Lib.hid ((HB2.out.trans (hb5.mono (by omega))).trans (below_of_row hs5.2 (fun q hq => by injection hq with hq; omega) (by have := hb5.size; have := HB2.out.size; omega) : Below (w.heap.size + 1) w5 _))
      have HI5 : Hid (RcI c u (fun j => if j = u then true else false)) := ⟨if_pos rfl, fun i hi => by
        by_cases e : i = u
        · rw [e]; exact .base
        · rw [if_neg e] at hi; cases hi⟩
      obtain ⟨g, hg⟩ : ∃ g, g = wM.heap.size := ⟨_, rfl⟩
      rw [← hg] at HO5 HB5 hz2 ⊢
      clear hg own5 hb5 hs5 c5 f5 y0 y1 y2 y3 HB2
      go_wp2_with fail
      go_loopw [8] (fun ag wr => ∃ (b : Bool) (o : Nat → Bool), ag = .bool b ∧ OwVb wr g (some ⟨g, 0, none⟩) c.nd c.nd o ∧ RcI c u o ∧ (b = false → ∀ k, k < c.nm → o (c.f k) = true → o (c.t k) = true) ∧ Below (w.heap.size + 1) W0 wr) (fun ag wr => 2 * cntF (memB wr g) c.nd + boolOf ag)
      case atStart => exact ⟨true, _, rfl, HO5.out, HI5.out, (fun h => nomatch h), HB5.out⟩
      case round =>
        clear HO5 HB5 HI5
        obtain ⟨b, o, rfl, own, hi, hc, hb⟩ := hrel
        have hbW := HPB.out _ hb
        cases b with
        | false =>
          have HF := Lib.hid (HE.out g o wr (own.base_ (by omega)) hi (hc rfl))
          clear own hi hc hb
          go_wp2_with fail
          go_ret2
          exact ⟨HF.out, hbW⟩
        | true =>
          obtain ⟨-, -, y2, -⟩ := HPC.out _ hb
          obtain ⟨wo, rfl⟩ : ∃ wo : World, wo = wr := ⟨_, rfl⟩
          have hC0 := memB_of own
          obtain ⟨C0, hCe⟩ : ∃ C0, C0 = cntF o c.nd := ⟨_, rfl⟩
          rw [← hCe] at hC0
          have HC0 := Lib.hid hC0
          have HO := Lib.hid own
          have HI := Lib.hid hi
          have HB := Lib.hid hb
          have HCe := Lib.hid hCe
          clear own hi hc hb hC0 hCe hbW
          go_wp2_with fail
          go_loopw [8, 31] (fun ag i wr => ∃ (b : Bool) (k : Nat) (o : Nat → Bool), ag = .bool b ∧ k ≤ c.nm ∧ i = .int .i64 (k : Int) ∧ OwVb wr g (some ⟨g, 0, none⟩) c.nd c.nd o ∧ RcI c u o ∧ (b = false → ∀ j, j < k → o (c.f j) = true → o (c.t j) = true) ∧ cntF o c.nd + (if b then 1 else 0) ≤ C0 ∧ Below (w.heap.size + 1) W0 wr) (fun _ i _ => c.nm - (intOf i).toNat)
          case atStart => exact ⟨false, 0, o, rfl, Nat.zero_le _, rfl, HO.out, HI.out, (fun _ j hj => absurd hj (Nat.not_lt_zero _)), by rw [HCe.out]; exact Nat.le_refl _, HB.out⟩
          case round =>
            obtain ⟨b, k, o', rfl, hk, rfl, own, hi, hc, hcn, hb⟩ := hrel
            have hbW := HPB.out _ hb
            have hz := hb.size
            by_cases hlt : k < c.nm
            · obtain ⟨bm, om, s1, A1, n1, c1, B1, m1, d1, rfl, hbm, g0, g1, g2, g3, g4, -, hfn, htn, hft⟩ := HMV.out wr hbW k hlt
              obtain ⟨f, hf⟩ : ∃ f, f = c.f k := ⟨_, rfl⟩
              obtain ⟨tt, ht⟩ : ∃ tt, tt = c.t k := ⟨_, rfl⟩
              rw [← hf] at g0 hfn
              rw [← ht] at g1 htn
              have cf := own.at_ hfn
              have ct := own.at_ htn
              have hfz := own.frozen
              have hgl : g < wr.heap.size := lt_of_cell cf
              have HFk := Lib.hid hf
              have HTk := Lib.hid ht
              have HO2 := Lib.hid own
              have HI2 := Lib.hid hi
              have HC2 := Lib.hid hc
              have HB2 := Lib.hid hb
              have hki : (k : Int) < (c.nm : Int) := by omega
              have hk0 : (0 : Int) ≤ (k : Int) := by omega
              have hfi : (f : Int) < (c.nd : Int) := by omega
              have hf0 : (0 : Int) ≤ (f : Int) := by omega
              have hti : (tt : Int) < (c.nd : Int) := by omega
              have ht0 : (0 : Int) ≤ (tt : Int) := by omega
              have ne1 : ¬ (g = wr.heap.size) := by omega
              have ne2 : ¬ (wr.heap.size = g) := by omega
              have hAL : ∀ ob, Below wr.heap.size wr (wr.alloc ob) := fun ob => (Below.refl _ _).alloc (Nat.le_refl _) ob
              clear own hi hc hb hf ht
              have HSAME : Hid ((o' f = true → o' tt = true) → ∀ W, Below wr.heap.size wr W → b = b ∧ OwVb W g (some ⟨g, 0, none⟩) c.nd c.nd o' ∧ (b = false → ∀ j, j < k + 1 → o' (c.f j) = true → o' (c.t j) = true) ∧ Below (w.heap.size + 1) W0 W) := fun hh W hW => ⟨rfl, HO2.out.below hW, fun hb j hj => by
                by_cases e : j = k
                · rw [e, ← HFk.out, ← HTk.out]; exact hh
                · exact HC2.out hb j (by omega), HB2.out.trans (hW.mono (by omega))⟩
              cases hbf : o' f with
              | false =>
                rw [hbf] at cf
                have hS := Lib.hid (HSAME.out (fun h => by rw [hbf] at h; cases h))
                clear hbf
                go_wp2_with fail
                go_roundw
                case rel =>
                  obtain ⟨-, h2, h3, h4⟩ := hS.out _ (hAL _)
                  exact ⟨b, k + 1, o', rfl, by omega, by go_num, h2, HI2.out, h3, hcn, h4⟩
                case measure => simp [intOf]; omega
              | true =>
                rw [hbf] at cf
                cases hbt : o' tt with
                | true =>
                  rw [hbt] at ct
                  have hS := Lib.hid (HSAME.out (fun _ => hbt))
                  clear hbt hbf
                  go_wp2_with fail
                  go_roundw
                  case rel =>
                    obtain ⟨-, h2, h3, h4⟩ := hS.out _ (hAL _)
                    exact ⟨b, k + 1, o', rfl, by omega, by go_num, h2, HI2.out, h3, hcn, h4⟩
                  case measure => simp [intOf]; omega
                | false =>
                  rw [hbt] at ct
                  have hcs := cntF_set hbt (n := c.nd)
                  rw [if_pos htn] at hcs
                  have HIN : Hid (RcI c u (fun j => if j = tt then true else o' j)) := by
                    have := HI2.out.set hlt (by rw [← HFk.out]; exact hbf)
                    rw [← HTk.out] at this
                    exact this
                  have HCN : Hid (cntF (fun j => if j = tt then true else o' j) c.nd + 1 ≤ C0) := by
                    show _ ≤ _
                    omega
                  clear hbt hbf hcs
                  go_wp2_with fail
                  go_roundw
                  case rel =>
                    have h2 := HO2.out.set tt true
                    have hA2 : Below (wr.setCell ⟨g, tt, none⟩ (.bool true)).heap.size (wr.setCell ⟨g, tt, none⟩ (.bool true)) ((wr.setCell ⟨g, tt, none⟩ (.bool true)).alloc (.cells #[.int .i64 (f : Int), .int .i64 (tt : Int), .bool s1, .slice A1 n1 c1, .slice B1 m1 d1] 65)) := (Below.refl _ _).alloc (Nat.le_refl _) _
                    exact ⟨true, k + 1, _, rfl, by omega, by go_num, h2.1.below hA2, HIN.out, (fun h => nomatch h), HCN.out, (HB2.out.trans (below_of_row h2.2 (fun q hq => by injection hq with hq; omega) (by omega) : Below (w.heap.size + 1) wr _)).trans (hA2.mono (by simp; omega))⟩
                  case measure => simp [intOf]; omega
            · obtain rfl : k = c.nm := by omega
              go_wp2_with fail
              go_roundw
              case rel => exact ⟨b, o', rfl, own, hi, hc, hb⟩
              case measure =>
                have h1 := memB_of own
                have h2 := HC0.out
                rw [h1, h2]
                cases b with
                | false => simp at hcn; show 2 * _ + 0 < 2 * _ + 1; omega
                | true => simp at hcn; show 2 * _ + 1 < 2 * _ + 1; omega
  · have hE := errM_n h0
    have HE : Hid (∀ w', RM (.returned (.tuple #[.slice none 0 0, errM cc])) w') := fun w' => (HR.out _ _).2 (by rw [if_pos h0])
    rw [hE] at K1 HE
    have H0 := Lib.hid h0
    clear h0 h hz hE hok HR
    obtain ⟨st, sr, nm, F, T, R, nd, D⟩ := c
    simp only at *
    go_enter Tryz.func17, Tryz.ntmps17
    (go_wp2_with fail; (with_reducible refine (K1.out _ (by (skip); repeat' (first | (with_reducible exact Below.refl _ _) | (with_reducible assumption) | (with_reducible refine Below.alloc ?_ ?_ _) | (with_reducible refine Below.drew ?_) | (with_reducible refine below_drewN ?_ _) | (with_reducible refine Below.setCell ?_ ?_ _) | (with_reducible refine Below.trans ?_ (Below.mono (by with_reducible assumption) ?_)) | omega | (simp only [ZA, ZS, ZD, ZN]; omega) | go_size))).mono ?_); rintro e w1 ⟨rfl, hb1⟩; have hb1z := Below.size hb1; (try simp only [ZA, ZS, ZD, ZN] at hb1z); have hb1c0 := fun o => below_at hb1 (w.heap.size) o (by first | omega | (simp only [ZA, ZS, ZD, ZN]; omega)); have hb1f0 := fun o => below_fr hb1 (w.heap.size) o (by first | omega | (simp only [ZA, ZS, ZD, ZN]; omega)))
    go_wp2
    go_ret2
    exact ⟨HE.out _, (by have z0 := Below.size hb1; (try simp only [ZA, ZS, ZD, ZN] at z0 ⊢; skip); repeat' (first | (with_reducible exact Below.refl _ _) | (with_reducible assumption) | (with_reducible refine Below.alloc ?_ ?_ _) | (with_reducible refine Below.drew ?_) | (with_reducible refine below_drewN ?_ _) | (with_reducible refine Below.setCell ?_ ?_ _) | (with_reducible refine Below.trans ?_ (Below.mono (by with_reducible assumption) ?_)) | omega | (simp only [ZA, ZS, ZD, ZN]; omega) | go_size))⟩
end Go.Proofs.YtoiopnmphbnjaaaGreatDoor
