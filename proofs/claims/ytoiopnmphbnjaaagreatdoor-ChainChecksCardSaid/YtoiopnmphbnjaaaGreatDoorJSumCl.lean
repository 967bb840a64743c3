/- Contracts of functions and lemmas, used by the proofs of the given statements. No condition beyond those that each lemma names. -/
import Derived.Test.YtoiopnmphbnjaaaGreatDoorChX
import Derived.Test.YtoiopnmphbnjaaaGreatDoorDynW17
import Derived.Test.YtoiopnmphbnjaaaGreatDoorJSumP
namespace Go.Proofs.YtoiopnmphbnjaaaGreatDoor
open Go.RowKit
set_option linter.unusedSimpArgs false
set_option linter.unusedVariables false
set_option maxRecDepth 20000
/-! ## chain.clone -/
theorem ofar3c {w : World} {b0 b c : Nat} {A : Option Addr} {l : List Nat} (h : OwW w b0 A c l) (hb : b < b0) (u0 u1 u2 : Value) : OwW (((w.setCell ⟨b, 0, none⟩ u0).setCell ⟨b, 1, none⟩ u1).setCell ⟨b, 2, none⟩ u2) b0 A c l := ofar _ (ofar _ (ofar _ h hb) hb) hb
set_option maxHeartbeats 16000000 in
theorem cloneS {w : World} {b0 : Nat} {v : Value} {r : Rw} (h : RdS w b0 v r) (hv : validR r = true) (h1 : r.2.1.length ≤ 1000) (h2 : r.2.2.length ≤ 1000) :
    Calls Tryz.prog 74 #[v] w fun e w' => RetQ w.heap.size (valR r) e w' ∧ Below w.heap.size w w' := by
  obtain ⟨A, c, B, d, rfl, c1, c2, ok, rA, rB, _, _⟩ := h
  have hcan := canR_valR ok hv
  obtain ⟨s, l, m⟩ := r
  dsimp only at *
  have K1 := Lib.hid (fun X (hX : Below w.heap.size w X) => dclW_any (w := X) (c := c) (A := A) (l := l) (rA.on hX hX.size) (by omega))
  have K2 := Lib.hid (fun X (hX : Below w.heap.size w X) => dclW_any (w := X) (c := d) (A := B) (l := m) (rB.on hX hX.size) (by omega))
  have HR : Hid (∀ A' c' B' d' w', OwW w' w.heap.size A' c' l → OwW w' w.heap.size B' d' m → RetQ w.heap.size (valR (s, l, m)) (.returned (rv s A' l.length c' B' m.length d')) w') := fun A' c' B' d' w' o1 o2 => ⟨_, rfl, A', c', B', d', by rw [hcan], by rw [hcan]; exact o1, by rw [hcan]; exact o2⟩
  generalize valR (s, l, m) = q at *
  have hc0 : c1 = c1 := rfl
  clear rA rB hcan hv ok hc0
  go_enter Tryz.func74, Tryz.ntmps74
  go_wp2_with fail
  have t0 : ((w.alloc (.cells #[.bool s, .slice A l.length c, .slice B m.length d] 56)).alloc (.cells #[.bool false, .slice none 0 0, .slice none 0 0] 56)).drew.cell? ⟨w.heap.size + 1, 0, none⟩ = some (.bool false) := by simp [go_sem]
  go_region_with (first | (go_at_call 112; (with_reducible refine (K1.out _ (by (skip); repeat' (first | (with_reducible exact Below.refl _ _) | (with_reducible assumption) | (with_reducible refine Below.alloc ?_ ?_ _) | (with_reducible refine Below.drew ?_) | (with_reducible refine below_drewN ?_ _) | (with_reducible refine Below.setCell ?_ ?_ _) | (with_reducible refine Below.trans ?_ (Below.mono (by with_reducible assumption) ?_)) | omega | (simp only [ZA, ZS, ZD, ZN]; omega) | go_size))).mono ?_); rintro e w4 ⟨⟨A4, c4, rfl, own4⟩, hb4⟩; have hb4z := Below.size hb4; (try simp only [ZA, ZS, ZD] at hb4z); have hb4c0 := fun o => below_at hb4 (w.heap.size) o (by first | omega | (simp only [ZA, ZS, ZD]; omega)); have hb4f0 := fun o => below_fr hb4 (w.heap.size) o (by first | omega | (simp only [ZA, ZS, ZD]; omega)); have hb4l0 : w.heap.size < (w4).heap.size := (by omega); have hb4c1 := fun o => below_at hb4 (w.heap.size + 1) o (by first | omega | (simp only [ZA, ZS, ZD]; omega)); have hb4f1 := fun o => below_fr hb4 (w.heap.size + 1) o (by first | omega | (simp only [ZA, ZS, ZD]; omega)); have hb4l1 : w.heap.size + 1 < (w4).heap.size := (by omega)) | (go_at_call 112; (with_reducible refine (K2.out _ (by (skip); repeat' (first | (with_reducible exact Below.refl _ _) | (with_reducible assumption) | (with_reducible refine Below.alloc ?_ ?_ _) | (with_reducible refine Below.drew ?_) | (with_reducible refine below_drewN ?_ _) | (with_reducible refine Below.setCell ?_ ?_ _) | (with_reducible refine Below.trans ?_ (Below.mono (by with_reducible assumption) ?_)) | omega | (simp only [ZA, ZS, ZD, ZN]; omega) | go_size))).mono ?_); rintro e w5 ⟨⟨A5, c5, rfl, own5⟩, hb5⟩; have hb5z := Below.size hb5; (try simp only [ZA, ZS, ZD] at hb5z); have hb5c0 := fun o => below_at hb5 (w.heap.size) o (by first | omega | (simp only [ZA, ZS, ZD]; omega)); have hb5f0 := fun o => below_fr hb5 (w.heap.size) o (by first | omega | (simp only [ZA, ZS, ZD]; omega)); have hb5l0 : w.heap.size < (w5).heap.size := (by omega); have hb5c1 := fun o => below_at hb5 (w.heap.size + 1) o (by first | omega | (simp only [ZA, ZS, ZD]; omega)); have hb5f1 := fun o => below_fr hb5 (w.heap.size + 1) o (by first | omega | (simp only [ZA, ZS, ZD]; omega)); have hb5l1 : w.heap.size + 1 < (w5).heap.size := (by omega)))
  all_goals clear K1 K2
  all_goals first
    | (have o4 : OwW w5 (w.heap.size + 2) A4 c4 l := own_base (own4.below hb5) (by first | omega | (simp only [World.size_alloc, World.size_drew]; omega))
       have o5 : OwW w5 (w.heap.size + 2) A5 c5 m := own_base own5 (by first | omega | (simp only [World.size_alloc, World.size_drew]; omega))
       have e := fun o => (hb5c1 o).trans (hb4c1 o)
       have g0 : w5.cell? ⟨w.heap.size + 1, 0, none⟩ = some (.bool false) := (e 0).trans (by simp [go_sem])
       have g1 : w5.cell? ⟨w.heap.size + 1, 1, none⟩ = some (.slice none 0 0) := (e 1).trans (by simp [go_sem])
       have g2 : w5.cell? ⟨w.heap.size + 1, 2, none⟩ = some (.slice none 0 0) := (e 2).trans (by simp [go_sem])
       have hbF : Below w.heap.size w w5 := (by have z0 := Below.size hb4; have z1 := Below.size hb5; (try simp only [ZA, ZS, ZD, ZN] at z0 z1 ⊢; skip); repeat' (first | (with_reducible exact Below.refl _ _) | (with_reducible assumption) | (with_reducible refine Below.alloc ?_ ?_ _) | (with_reducible refine Below.drew ?_) | (with_reducible refine below_drewN ?_ _) | (with_reducible refine Below.setCell ?_ ?_ _) | (with_reducible refine Below.trans ?_ (Below.mono (by with_reducible assumption) ?_)) | omega | (simp only [ZA, ZS, ZD, ZN]; omega) | go_size))
       have HF := Lib.hid (HR.out A4 c4 A5 c5 _ (own_base (ofar3c (b := w.heap.size + 1) o4 (by omega) (.bool s) (.slice A4 l.length c4) (.slice A5 m.length c5)) (by omega)) (own_base (ofar3c (b := w.heap.size + 1) o5 (by omega) (.bool s) (.slice A4 l.length c4) (.slice A5 m.length c5)) (by omega)))
       have hbG : Below w.heap.size w (((w5.setCell ⟨w.heap.size + 1, 0, none⟩ (.bool s)).setCell ⟨w.heap.size + 1, 1, none⟩ (.slice A4 l.length c4)).setCell ⟨w.heap.size + 1, 2, none⟩ (.slice A5 m.length c5)) := (by have z0 := Below.size hbF; (try simp only [ZA, ZS, ZD, ZN] at z0 ⊢; skip); repeat' (first | (with_reducible exact Below.refl _ _) | (with_reducible assumption) | (with_reducible refine Below.alloc ?_ ?_ _) | (with_reducible refine Below.drew ?_) | (with_reducible refine below_drewN ?_ _) | (with_reducible refine Below.setCell ?_ ?_ _) | (with_reducible refine Below.trans ?_ (Below.mono (by with_reducible assumption) ?_)) | omega | (simp only [ZA, ZS, ZD, ZN]; omega) | go_size))
       clear o4 o5 e own4 own5 HR
       go_wp2_with fail
       (try simp only [Exit.inBlock, Exit.then])
       refine bodyPost_ret (v := rv s A4 l.length c4 A5 m.length c5) ?_ rfl ⟨HF.out, hbG⟩
       rw [results_cell1 rfl]
       go_simp)
    | (have o4 : OwW w4 (w.heap.size + 2) A4 c4 l := own_base own4 (by first | omega | (simp only [World.size_alloc, World.size_drew]; omega))
       have o5 : OwW w4 (w.heap.size + 2) A5 c5 m := own_base (own5.below hb4) (by first | omega | (simp only [World.size_alloc, World.size_drew]; omega))
       have e := fun o => (hb4c1 o).trans (hb5c1 o)
       have g0 : w4.cell? ⟨w.heap.size + 1, 0, none⟩ = some (.bool false) := (e 0).trans (by simp [go_sem])
       have g1 : w4.cell? ⟨w.heap.size + 1, 1, none⟩ = some (.slice none 0 0) := (e 1).trans (by simp [go_sem])
       have g2 : w4.cell? ⟨w.heap.size + 1, 2, none⟩ = some (.slice none 0 0) := (e 2).trans (by simp [go_sem])
       have hbF : Below w.heap.size w w4 := (by have z0 := Below.size hb5; have z1 := Below.size hb4; (try simp only [ZA, ZS, ZD, ZN] at z0 z1 ⊢; skip); repeat' (first | (with_reducible exact Below.refl _ _) | (with_reducible assumption) | (with_reducible refine Below.alloc ?_ ?_ _) | (with_reducible refine Below.drew ?_) | (with_reducible refine below_drewN ?_ _) | (with_reducible refine Below.setCell ?_ ?_ _) | (with_reducible refine Below.trans ?_ (Below.mono (by with_reducible assumption) ?_)) | omega | (simp only [ZA, ZS, ZD, ZN]; omega) | go_size))
       have HF := Lib.hid (HR.out A4 c4 A5 c5 _ (own_base (ofar3c (b := w.heap.size + 1) o4 (by omega) (.bool s) (.slice A4 l.length c4) (.slice A5 m.length c5)) (by omega)) (own_base (ofar3c (b := w.heap.size + 1) o5 (by omega) (.bool s) (.slice A4 l.length c4) (.slice A5 m.length c5)) (by omega)))
       have hbG : Below w.heap.size w (((w4.setCell ⟨w.heap.size + 1, 0, none⟩ (.bool s)).setCell ⟨w.heap.size + 1, 1, none⟩ (.slice A4 l.length c4)).setCell ⟨w.heap.size + 1, 2, none⟩ (.slice A5 m.length c5)) := (by have z0 := Below.size hbF; (try simp only [ZA, ZS, ZD, ZN] at z0 ⊢; skip); repeat' (first | (with_reducible exact Below.refl _ _) | (with_reducible assumption) | (with_reducible refine Below.alloc ?_ ?_ _) | (with_reducible refine Below.drew ?_) | (with_reducible refine below_drewN ?_ _) | (with_reducible refine Below.setCell ?_ ?_ _) | (with_reducible refine Below.trans ?_ (Below.mono (by with_reducible assumption) ?_)) | omega | (simp only [ZA, ZS, ZD, ZN]; omega) | go_size))
       clear o4 o5 e own4 own5 HR
       go_wp2_with fail
       (try simp only [Exit.inBlock, Exit.then])
       refine bodyPost_ret (v := rv s A4 l.length c4 A5 m.length c5) ?_ rfl ⟨HF.out, hbG⟩
       rw [results_cell1 rfl]
       go_simp)
end Go.Proofs.YtoiopnmphbnjaaaGreatDoor
namespace Go.Proofs.YtoiopnmphbnjaaaGreatDoor
open Go.RowKit
set_option linter.unusedSimpArgs false
set_option linter.unusedVariables false
set_option maxRecDepth 20000
attribute [local irreducible] nv wp win plainB validR valR canR mvE chkM codeC exK
/-! ## chain.Moves -/
/-- the moves of a state: where they lead, their rates -/
def Chn.mvs (c : Chn) (s : Nat) : Nat → List (Nat × Rat)
  | 0 => []
  | k + 1 => if c.f k = s then c.mvs s k ++ [(c.t k, c.q k)] else c.mvs s k
theorem Chn.mvs_len (c : Chn) (s : Nat) : ∀ k, (c.mvs s k).length ≤ k
  | 0 => Nat.le_refl _
  | k + 1 => by
    have := c.mvs_len s k
    unfold Chn.mvs
    split
    · simp; omega
    · omega
/-- moves out of one state, in a row of the call's own -/
def OwT (w : World) (b0 : Nat) (A : Option Addr) (c s : Nat) (L : List (Nat × Rat)) : Prop :=
  OwM w b0 A c L.length (fun _ => (s : Int)) (fun k => ((L.getD k (0, 0)).1 : Nat)) (fun k => canR (L.getD k (0, 0)).2)
theorem OwT.nil_ (w : World) (b0 s : Nat) : OwT w b0 none 0 s [] := OwM.nil_ _ _ _ _ _
theorem OwT.snoc {w : World} {b0 c s t : Nat} {q : Rat} {A : Option Addr} {L : List (Nat × Rat)} (h : OwM w b0 A c (L.length + 1) (upd (fun _ => (s : Int)) L.length (s : Int)) (upd (fun k => (((L.getD k (0, 0)).1 : Nat) : Int)) L.length (t : Int)) (upd (fun k => canR (L.getD k (0, 0)).2) L.length (canR q))) : OwT w b0 A c s (L ++ [(t, q)]) := by
  have e : (L ++ [(t, q)]).length = L.length + 1 := by simp
  unfold OwT
  rw [e]
  refine h.congr fun k hk => ?_
  by_cases hkl : k = L.length
  · subst hkl
    rw [upd_same, upd_same, upd_same]
    simp [List.getD_eq_getElem?_getD]
  · rw [upd_ne _ _ hkl, upd_ne _ _ hkl, upd_ne _ _ hkl]
    have : (L ++ [(t, q)]).getD k (0, 0) = L.getD k (0, 0) := by
      rw [List.getD_eq_getElem?_getD, List.getD_eq_getElem?_getD, List.getElem?_append_left (by omega)]
    rw [this]
    exact ⟨rfl, rfl, rfl⟩
theorem OwM.gr9 {w w' : World} {b0 c n B : Nat} {A : Option Addr} {F T : Nat → Int} {R : Nat → Rw} (h : OwM w b0 A c n F T R) (hg : w.grownBy w' (Value.slice A n c).ownBlock) (hb : B ≤ w.heap.size) (hB : B ≤ b0) : Below B w w' := by
  refine (Below.refl _ _).grown hg hb fun k hk => ?_
  cases e : A with
  | none => rw [e] at hk; cases hk
  | some a =>
    rw [e] at hk
    injection hk with hk
    subst hk
    exact Nat.le_trans hB (h.blockA e).1
/-- what Moves answers -/
def RetMv (b0 : Nat) (c : Chn) (s : Int) (e : Ending) (w' : World) : Prop :=
  if c.code ≠ 0 then e = .returned (.tuple #[.slice none 0 0, errM c.code]) else
  if s < 0 ∨ c.st ≤ s then e = .returned (.tuple #[.slice none 0 0, .iface 80 (.int .i64 10)]) else
  ∃ A cp, e = .returned (.tuple #[.slice A (c.mvs s.toNat c.nm).length cp, .nilIface]) ∧ OwT w' b0 A cp s.toNat (c.mvs s.toNat c.nm)
set_option maxHeartbeats 16000000 in
theorem moves_any {w : World} {AM AD : Option Addr} {cm cd : Nat} {c : Chn} {s : Int} (h : ChI w w.heap.size AM cm AD cd c) (hn : c.nm ≤ 1000000) (hz : Short c.nm c.R) :
    Calls Tryz.prog 26 #[cv c.st c.sr AM c.nm cm AD c.nd cd, .int .i64 s] w fun e w' => RetMv w.heap.size c s e w' ∧ Below w.heap.size w w' := by
  have K1 := Lib.hid (fun W (hb : Below w.heap.size w W) => chCheck (h.below hb) hn hz)
  have hok := Chn.ok_iff (c := c)
  have hR : ∀ e w', RetMv w.heap.size c s e w' ↔ if c.code ≠ 0 then e = .returned (.tuple #[.slice none 0 0, errM c.code]) else
      if s < 0 ∨ c.st ≤ s then e = .returned (.tuple #[.slice none 0 0, .iface 80 (.int .i64 10)]) else
      ∃ A cp, e = .returned (.tuple #[.slice A (c.mvs s.toNat c.nm).length cp, .nilIface]) ∧ OwT w' w.heap.size A cp s.toNat (c.mvs s.toNat c.nm) := fun e w' => Iff.rfl
  have HR := Lib.hid hR
  clear hR
  generalize RetMv w.heap.size c s = RM at *
  obtain ⟨cc, hcc⟩ : ∃ cc, cc = c.code := ⟨_, rfl⟩
  rw [← hcc] at K1 hok HR
  clear hcc
  by_cases h0 : cc = 0
  · have ok := hok.1 h0
    rw [h0, errM_0] at K1
    by_cases hs : s < 0 ∨ c.st ≤ s
    · have HE : Hid (∀ w', RM (.returned (.tuple #[.slice none 0 0, .iface 80 (.int .i64 10)])) w') := fun w' => (HR.out _ _).2 (by rw [if_neg (by omega), if_pos hs])
      have KS := Lib.hid (fun W => state_no (sr := c.sr) (AM := AM) (nm := c.nm) (cm := cm) (AD := AD) (nd := c.nd) (cd := cd) W hs)
      clear h0 HR ok h hn hz hok hs
      obtain ⟨st, sr, nm, F, T, R, nd, D⟩ := c
      simp only at *
      go_enter Tryz.func26, Tryz.ntmps26
      (go_wp2_with fail; (with_reducible refine (K1.out _ (by (skip); repeat' (first | (with_reducible exact Below.refl _ _) | (with_reducible assumption) | (with_reducible refine Below.alloc ?_ ?_ _) | (with_reducible refine Below.drew ?_) | (with_reducible refine below_drewN ?_ _) | (with_reducible refine Below.setCell ?_ ?_ _) | (with_reducible refine Below.trans ?_ (Below.mono (by with_reducible assumption) ?_)) | omega | (simp only [ZA, ZS, ZD, ZN]; omega) | go_size))).mono ?_); rintro e w1 ⟨rfl, hb1⟩; have hb1z := Below.size hb1; (try simp only [ZA, ZS, ZD, ZN] at hb1z); have hb1c0 := fun o => below_at hb1 (w.heap.size) o (by first | omega | (simp only [ZA, ZS, ZD, ZN]; omega)); have hb1f0 := fun o => below_fr hb1 (w.heap.size) o (by first | omega | (simp only [ZA, ZS, ZD, ZN]; omega)))
      (go_wp2_with fail; (with_reducible refine (KS.out _).mono ?_); rintro e w2 ⟨rfl, hb2⟩; have hb2z := Below.size hb2; (try simp only [ZA, ZS, ZD, ZN] at hb2z); have hb2c0 := fun o => below_at hb2 (w.heap.size) o (by first | omega | (simp only [ZA, ZS, ZD, ZN]; omega)); have hb2f0 := fun o => below_fr hb2 (w.heap.size) o (by first | omega | (simp only [ZA, ZS, ZD, ZN]; omega)))
      go_wp2
      go_ret2
      exact ⟨HE.out _, (by have z0 := Below.size hb1; have z1 := Below.size hb2; (try simp only [ZA, ZS, ZD, ZN] at z0 z1 ⊢; skip); repeat' (first | (with_reducible exact Below.refl _ _) | (with_reducible assumption) | (with_reducible refine Below.alloc ?_ ?_ _) | (with_reducible refine Below.drew ?_) | (with_reducible refine below_drewN ?_ _) | (with_reducible refine Below.setCell ?_ ?_ _) | (with_reducible refine Below.trans ?_ (Below.mono (by with_reducible assumption) ?_)) | omega | (simp only [ZA, ZS, ZD, ZN]; omega) | go_size))⟩
    · have hs0 : 0 ≤ s := by omega
      have hs1 : s < c.st := by omega
      obtain ⟨u, hu⟩ : ∃ u : Nat, (u : Int) = s := ⟨s.toNat, by omega⟩
      subst hu
      have HE : Hid (∀ A cp w', OwT w' w.heap.size A cp u (c.mvs u c.nm) → RM (.returned (.tuple #[.slice A (c.mvs u c.nm).length cp, .nilIface])) w') := fun A cp w' ho => (HR.out _ _).2 (by rw [if_neg (by omega), if_neg hs]; exact ⟨A, cp, rfl, ho⟩)
      have KS := Lib.hid (fun W => state_yes (sr := c.sr) (AM := AM) (nm := c.nm) (cm := cm) (AD := AD) (nd := c.nd) (cd := cd) W hs0 hs1)
      have HLn := Lib.hid (c.mvs_len u)
      have HL0 : Hid (c.mvs u 0 = []) := rfl
      have HLS : Hid (∀ k, c.mvs u (k + 1) = if c.f k = u then c.mvs u k ++ [(c.t k, valR (c.R k))] else c.mvs u k) := fun k => rfl
      have HMV : Hid (∀ k, k < c.nm → c.F k = (c.f k : Int) ∧ c.T k = (c.t k : Int) ∧ validR (c.R k) = true) := fun k hk => by
        have := ok.mv k hk
        refine ⟨?_, ?_, ?_⟩
        · unfold Chn.f; omega
        · unfold Chn.t; omega
        · cases e : validR (c.R k) with
          | true => rfl
          | false =>
            have h1 : 0 < valR (c.R k) := this.2.2.2.2.2.1
            exact absurd h1 (valR_no e)
      have HZ := Lib.hid hz
      have HM := Lib.hid h.mv.1
      generalize c.mvs u = L at *
      generalize c.f = f at *
      generalize c.t = t at *
      clear h0 HR ok h hz hok hs
      obtain ⟨st, sr, nm, F, T, R, nd, D⟩ := c
      simp only at *
      go_enter Tryz.func26, Tryz.ntmps26
      (go_wp2_with fail; (with_reducible refine (K1.out _ (by (skip); repeat' (first | (with_reducible exact Below.refl _ _) | (with_reducible assumption) | (with_reducible refine Below.alloc ?_ ?_ _) | (with_reducible refine Below.drew ?_) | (with_reducible refine below_drewN ?_ _) | (with_reducible refine Below.setCell ?_ ?_ _) | (with_reducible refine Below.trans ?_ (Below.mono (by with_reducible assumption) ?_)) | omega | (simp only [ZA, ZS, ZD, ZN]; omega) | go_size))).mono ?_); rintro e w1 ⟨rfl, hb1⟩; have hb1z := Below.size hb1; (try simp only [ZA, ZS, ZD, ZN] at hb1z); have hb1c0 := fun o => below_at hb1 (w.heap.size) o (by first | omega | (simp only [ZA, ZS, ZD, ZN]; omega)); have hb1f0 := fun o => below_fr hb1 (w.heap.size) o (by first | omega | (simp only [ZA, ZS, ZD, ZN]; omega)))
      (go_wp2_with fail; (with_reducible refine (KS.out _).mono ?_); rintro e w2 ⟨rfl, hb2⟩; have hb2z := Below.size hb2; (try simp only [ZA, ZS, ZD, ZN] at hb2z); have hb2c0 := fun o => below_at hb2 (w.heap.size) o (by first | omega | (simp only [ZA, ZS, ZD, ZN]; omega)); have hb2f0 := fun o => below_fr hb2 (w.heap.size) o (by first | omega | (simp only [ZA, ZS, ZD, ZN]; omega)))
      have hbA : Below w.heap.size w w2 := (by have z0 := Below.size hb1; have z1 := Below.size hb2; (try simp only [ZA, ZS, ZD, ZN] at z0 z1 ⊢; skip); repeat' (first | (with_reducible exact Below.refl _ _) | (with_reducible assumption) | (with_reducible refine Below.alloc ?_ ?_ _) | (with_reducible refine Below.drew ?_) | (with_reducible refine below_drewN ?_ _) | (with_reducible refine Below.setCell ?_ ?_ _) | (with_reducible refine Below.trans ?_ (Below.mono (by with_reducible assumption) ?_)) | omega | (simp only [ZA, ZS, ZD, ZN]; omega) | go_size))
      have hz2 : w.heap.size + 1 ≤ w2.heap.size := by have h1 := hb1.size; have h2 := hb2.size; simp at h1; omega
      clear K1 KS
      go_wp2_with fail
      go_loopw [7, 23] (fun vs i wr => ∃ (k : Nat) (A : Option Addr) (cp : Nat), k ≤ nm ∧ vs = .slice A (L k).length cp ∧ i = .int .i64 (k : Int) ∧ OwT wr w.heap.size A cp u (L k) ∧ Below w.heap.size w wr) (fun _ i _ => nm - (intOf i).toNat)
      case atStart => exact ⟨0, none, 0, Nat.zero_le _, by rw [HL0.out]; rfl, rfl, by rw [HL0.out]; exact OwT.nil_ _ _ _, hbA⟩
      case round =>
        obtain ⟨k, A, cp, hk, rfl, rfl, own, hb⟩ := hrel
        obtain ⟨wo, rfl⟩ : ∃ wo : World, wo = wr := ⟨_, rfl⟩
        clear hbA hz2 hb1 hb2
        by_cases hlt : k < nm
        · obtain ⟨b, off, sg, A1, n1, c1, B1, m1, d1, rfl, hbb, f0, f1, f2, f3, f4, r0⟩ := HM.out.at_ hlt
          obtain ⟨hFk, hTk, hvk⟩ := HMV.out k hlt
          rw [hFk] at f0
          rw [hTk] at f1
          have hsh := HZ.out k hlt
          have hls := HLS.out k
          have hln := HLn.out k
          generalize f k = fk at *
          generalize t k = tk at *
          generalize R k = rk at *
          generalize hLk : L k = Lk at *
          have x0 := (hb.cell (lt_of_cell f0)).trans f0
          have x1 := (hb.cell (lt_of_cell f1)).trans f1
          have x2 := (hb.cell (lt_of_cell f2)).trans f2
          have x3 := (hb.cell (lt_of_cell f3)).trans f3
          have x4 := (hb.cell (lt_of_cell f4)).trans f4
          have r1 := r0.kp (Kp.of_below hb)
          have HC := Lib.hid (fun W (hX : Below wo.heap.size wo W) => cloneS ((r1.kp (Kp.of_below hX)).base (b1 := W.heap.size) (by have := hX.size; have := hb.size; omega)) hvk (by omega) (by omega))
          have hk0 : (0 : Int) ≤ (k : Int) := by omega
          have hki : (k : Int) < (nm : Int) := by omega
          obtain ⟨W, hW⟩ : ∃ W, W = wo.alloc (.cells #[.int .i64 (fk : Int), .int .i64 (tk : Int), .bool sg, .slice A1 n1 c1, .slice B1 m1 d1] 65) := ⟨_, rfl⟩
          have q0 : W.cell? ⟨wo.heap.size, 0, none⟩ = some (.int .i64 (fk : Int)) := by rw [hW]; simp [go_sem]
          have q1 : W.cell? ⟨wo.heap.size, 1, none⟩ = some (.int .i64 (tk : Int)) := by rw [hW]; simp [go_sem]
          have q2 : W.cell? ⟨wo.heap.size, 2, none⟩ = some (.bool sg) := by rw [hW]; simp [go_sem]
          have q3 : W.cell? ⟨wo.heap.size, 3, none⟩ = some (.slice A1 n1 c1) := by rw [hW]; simp [go_sem]
          have q4 : W.cell? ⟨wo.heap.size, 4, none⟩ = some (.slice B1 m1 d1) := by rw [hW]; simp [go_sem]
          have hbo2 : Below wo.heap.size wo W := by rw [hW]; exact (Below.refl _ _).alloc (Nat.le_refl _) _
          have hWz : wo.heap.size < W.heap.size := by rw [hW]; simp
          have ownW := own.below hbo2
          have hbW : Below w.heap.size w W := hb.trans (hbo2.mono hb.size)
          have KC := Lib.hid (HC.out W.drew (hbo2.trans (Below.refl _ _).drew))
          have HW := Lib.hid hW
          have hwz := hb.size
          have HB := Lib.hid hbo2
          clear f0 f1 f2 f3 f4 r0 r1 hvk hsh HC hW hFk hTk own
          by_cases e : fk = u
          · subst e
            have e1 : ((fk : Int) == (fk : Int)) = true := by simp
            rw [if_pos rfl] at hls
            go_wp2_with fail
            rw [← HW.out]
            go_region_law (first | (refine step_appM rfl (.tmp 31) (.tmp 40) rfl w.heap.size A cp Lk.length (fun _ => (fk : Int)) (fun k => ((Lk.getD k (0, 0)).1 : Nat)) (fun k => canR (Lk.getD k (0, 0)).2) (by simp [Act.eval]; done) ((ownW.below (Below.refl _ _).drew).below (hb5.alloc hb5.size _)) w5.heap.size (fk : Int) (tk : Int) s5 A5 n5 c5 B5 m5 d5 (canR (valR rk)) (by simp [Act.eval]; done) (by simp [go_sem]; done) (by simp [go_sem]; done) (by simp [go_sem]; done) (by simp [go_sem]; done) (by simp [go_sem]; done) (own5.alloc _).rs (by omega) (by simp; omega) ?_; intro g6 c6 w6 own6 hg6 hfr6 hlt6) | (go_simp; (go_at_call 74; (with_reducible refine (KC.out).mono ?_); rintro e w5 ⟨⟨v5, rfl, own5⟩, hb5⟩; have hb5z := Below.size hb5; (try simp only [ZA, ZS, ZD] at hb5z); have hb5c0 := fun o => below_at hb5 (wo.heap.size) o (by first | omega | (simp only [ZA, ZS, ZD]; omega)); have hb5f0 := fun o => below_fr hb5 (wo.heap.size) o (by first | omega | (simp only [ZA, ZS, ZD]; omega)); have hb5l0 : wo.heap.size < (w5).heap.size := (by omega)); obtain ⟨s5, A5, n5, c5, B5, m5, d5, rfl⟩ := own5.form))
            all_goals
              have hb5' : Below W.heap.size W w5 := (Below.refl _ _).drew.trans hb5
              have hA := (ownW.below hb5').below ((Below.refl w5.heap.size w5).alloc (Nat.le_refl _) (.cells (cellM (fk : Int) (tk : Int) (rv s5 A5 n5 c5 B5 m5 d5)).toArray 65))
              have hG := OwM.gr9 hA hg6 (B := w.heap.size) (by have := hb5'.size; simp; omega) (Nat.le_refl _)
              have hbF : Below w.heap.size w w6 := (hbW.trans (hb5'.mono (by omega))).trans ((((Below.refl w5.heap.size w5).alloc (Nat.le_refl _) _).mono (by have := hb5'.size; omega)).trans hG)
              have HN := Lib.hid (OwT.snoc own6)
              clear own6 hg6 hA hG own5 hb5' ownW
              go_wp2_with fail
              go_roundw
              case rel => exact ⟨k + 1, some ⟨g6, 0, none⟩, c6, by omega, by rw [hls]; simp; done, by go_num, by rw [hls]; exact HN.out, hbF⟩
              case measure => simp [intOf]; omega
          · have e1 : ((fk : Int) == (u : Int)) = false := by (cases e9 : ((fk : Int) == (u : Int)) with | false => rfl | true => (have := eq_of_beq e9; omega))
            rw [if_neg e] at hls
            go_wp2_with fail
            rw [← HW.out]
            go_roundw
            case rel => exact ⟨k + 1, _, _, by omega, by rw [hls], by go_num, by rw [hls]; exact ownW, hbW⟩
            case measure => simp [intOf]; omega
        · obtain rfl : k = nm := by omega
          go_wp2_with fail
          go_ret2
          exact ⟨HE.out _ _ _ own, hb⟩
  · have hE := errM_n h0
    have HE : Hid (∀ w', RM (.returned (.tuple #[.slice none 0 0, errM cc])) w') := fun w' => (HR.out _ _).2 (by rw [if_pos h0])
    rw [hE] at K1 HE
    have H0 := Lib.hid h0
    clear h0 h hz hE hok HR
    obtain ⟨st, sr, nm, F, T, R, nd, D⟩ := c
    simp only at *
    go_enter Tryz.func26, Tryz.ntmps26
    (go_wp2_with fail; (with_reducible refine (K1.out _ (by (skip); repeat' (first | (with_reducible exact Below.refl _ _) | (with_reducible assumption) | (with_reducible refine Below.alloc ?_ ?_ _) | (with_reducible refine Below.drew ?_) | (with_reducible refine below_drewN ?_ _) | (with_reducible refine Below.setCell ?_ ?_ _) | (with_reducible refine Below.trans ?_ (Below.mono (by with_reducible assumption) ?_)) | omega | (simp only [ZA, ZS, ZD, ZN]; omega) | go_size))).mono ?_); rintro e w1 ⟨rfl, hb1⟩; have hb1z := Below.size hb1; (try simp only [ZA, ZS, ZD, ZN] at hb1z); have hb1c0 := fun o => below_at hb1 (w.heap.size) o (by first | omega | (simp only [ZA, ZS, ZD, ZN]; omega)); have hb1f0 := fun o => below_fr hb1 (w.heap.size) o (by first | omega | (simp only [ZA, ZS, ZD, ZN]; omega)))
    go_wp2
    go_ret2
    exact ⟨HE.out _, (by have z0 := Below.size hb1; (try simp only [ZA, ZS, ZD, ZN] at z0 ⊢; skip); repeat' (first | (with_reducible exact Below.refl _ _) | (with_reducible assumption) | (with_reducible refine Below.alloc ?_ ?_ _) | (with_reducible refine Below.drew ?_) | (with_reducible refine below_drewN ?_ _) | (with_reducible refine Below.setCell ?_ ?_ _) | (with_reducible refine Below.trans ?_ (Below.mono (by with_reducible assumption) ?_)) | omega | (simp only [ZA, ZS, ZD, ZN]; omega) | go_size))⟩
end Go.Proofs.YtoiopnmphbnjaaaGreatDoor
