/- Contracts of functions and lemmas, used by the proofs of the given statements. No condition beyond those that each lemma names. -/
import Derived.Test.YtomkdgcpmpbfhaaGreatDoorJAbZ
import Derived.Test.YtomkdgcpmpbfhaaGreatDoorAcW
import Derived.Test.YtomkdgcpmpbfhaaGreatDoorAbRb
import Derived.Test.YtomkdgcpmpbfhaaGreatDoorJLinF
namespace Go.Proofs.YtomkdgcpmpbfhaaGreatDoor
open Go.RowKit
set_option linter.unusedSimpArgs false
set_option linter.unusedVariables false
set_option maxRecDepth 20000
attribute [local irreducible] nv wp win plainB validR valR canR mvE chkM codeC spr sprN chg cnt cntB ixB kept sysK plB parM outK gj accL totL floL
/-! ## reference: Accepts -/
/-- a variable that holds a fraction -/
def VarR (g : Nat) (q : Rat) (w : World) : Prop := SumR g q w ∧ RatB w g ∧ g < w.heap.size ∧ ∀ i, w.frozen? ⟨g, i, none⟩ = false
section
variable {g g' : Nat} {q q' : Rat} {w w' : World}
theorem VarR.below (h : VarR g q w) (hb : Below w.heap.size w w') : VarR g q w' := by
  obtain ⟨⟨s, A, n, c, B, m, d, h0, h1, h2, r⟩, hB, hz, hf⟩ := h
  exact ⟨⟨s, A, n, c, B, m, d, (hb.cell (p := ⟨g, 0, none⟩) hz).trans h0, (hb.cell (p := ⟨g, 1, none⟩) hz).trans h1, (hb.cell (p := ⟨g, 2, none⟩) hz).trans h2, r.kp (Kp.of_below hb)⟩, hB.below hb hz, Nat.lt_of_lt_of_le hz hb.size, fun i => (hb.frozen (p := ⟨g, i, none⟩) hz).trans (hf i)⟩
theorem VarR.new (w : World) : VarR w.heap.size 0 (w.alloc (.cells #[.bool false, .slice none 0 0, .slice none 0 0] 50)) :=
  ⟨⟨false, none, 0, 0, none, 0, 0, (World.cell?_alloc_at _ _ _ _ rfl).trans rfl, (World.cell?_alloc_at _ _ _ _ rfl).trans rfl, (World.cell?_alloc_at _ _ _ _ rfl).trans rfl, (OwQ.zero _ 0).rs⟩, RatB.new _ _, by simp, fun i => World.frozen?_alloc_at _ _ _ _ rfl⟩
theorem VarR.newv {s : Bool} {A B : Option Addr} {n c m d : Nat} (hv : RdS w 0 (rv s A n c B m d) (canR q)) : VarR w.heap.size q (w.alloc (.cells #[.bool s, .slice A n c, .slice B m d] 50)) :=
  ⟨⟨s, A, n, c, B, m, d, (World.cell?_alloc_at _ _ _ _ rfl).trans rfl, (World.cell?_alloc_at _ _ _ _ rfl).trans rfl, (World.cell?_alloc_at _ _ _ _ rfl).trans rfl, hv.kp (Kp.of_below ((Below.refl _ _).alloc (Nat.le_refl _) _))⟩, RatB.new _ _, by simp, fun i => World.frozen?_alloc_at _ _ _ _ rfl⟩
theorem VarR.put (h : VarR g q w) {s : Bool} {A B : Option Addr} {n c m d : Nat} (hv : RdS w 0 (rv s A n c B m d) (canR q')) : VarR g q' (((w.setCell ⟨g, 0, none⟩ (.bool s)).setCell ⟨g, 1, none⟩ (.slice A n c)).setCell ⟨g, 2, none⟩ (.slice B m d)) := by
  obtain ⟨⟨s1, A1, n1, c1, B1, m1, d1, h0, h1, h2, r⟩, hB, hz, hf⟩ := h
  have s9 := set3 (w := w) (g := g) (o := 0) (a := .bool s) (b := .slice A n c) (d := .slice B m d) h0 h1 h2
  exact ⟨⟨s, A, n, c, B, m, d, s9.1, s9.2.1, s9.2.2, hv.kp (Kp.store3 hB (Nat.zero_le _) _ _ _)⟩, ((hB.set _ _).set _ _).set _ _, by simpa using hz, fun i => by rw [World.frozen?_setCell, World.frozen?_setCell, World.frozen?_setCell]; exact hf i⟩
theorem VarR.far (h : VarR g q w) (hg : RatB w g') (hne : g' ≠ g) (a b d : Value) : VarR g q (((w.setCell ⟨g', 0, none⟩ a).setCell ⟨g', 1, none⟩ b).setCell ⟨g', 2, none⟩ d) := by
  obtain ⟨⟨s1, A1, n1, c1, B1, m1, d1, h0, h1, h2, r⟩, hB, hz, hf⟩ := h
  have hc : ∀ i, (((w.setCell ⟨g', 0, none⟩ a).setCell ⟨g', 1, none⟩ b).setCell ⟨g', 2, none⟩ d).cell? ⟨g, i, none⟩ = w.cell? ⟨g, i, none⟩ := fun i => by
    rw [World.cell?_setCell_far _ _ _ _ hne, World.cell?_setCell_far _ _ _ _ hne, World.cell?_setCell_far _ _ _ _ hne]
  refine ⟨⟨s1, A1, n1, c1, B1, m1, d1, (hc 0).trans h0, (hc 1).trans h1, (hc 2).trans h2, r.kp (Kp.store3 hg (Nat.zero_le _) _ _ _)⟩, ?_, by simpa using hz, fun i => by rw [World.frozen?_setCell, World.frozen?_setCell, World.frozen?_setCell]; exact hf i⟩
  obtain ⟨cur, fz, e⟩ := hB
  refine ⟨cur, fz, ?_⟩
  rw [Below.heap_setCell _ _ _ _ (Ne.symm hne), Below.heap_setCell _ _ _ _ (Ne.symm hne), Below.heap_setCell _ _ _ _ (Ne.symm hne)]
  exact e
end
theorem below_set3 {B g : Nat} {w w' : World} (h : Below B w w') (hg : B ≤ g) (a b d : Value) : Below B w (((w'.setCell ⟨g, 0, none⟩ a).setCell ⟨g, 1, none⟩ b).setCell ⟨g, 2, none⟩ d) :=
  ((h.setCell hg _).setCell hg _).setCell hg _
theorem far_set3 {g g' : Nat} {w : World} (hne : g' ≠ g) (a b d : Value) (i : Nat) : (((w.setCell ⟨g', 0, none⟩ a).setCell ⟨g', 1, none⟩ b).setCell ⟨g', 2, none⟩ d).cell? ⟨g, i, none⟩ = w.cell? ⟨g, i, none⟩ := by
  rw [World.cell?_setCell_far _ _ _ _ hne, World.cell?_setCell_far _ _ _ _ hne, World.cell?_setCell_far _ _ _ _ hne]
set_option maxHeartbeats 16000000 in
theorem rAccepts_any {w : World} {AM AD AV : Option Addr} {cm cd n ca L : Nat} {c : Chn} {R : Nat → Rw} (h : ChI w w.heap.size AM cm AD cd c) (hS : Small c) (hv : RowA w w.heap.size AV n R) (hz : BigS n R) (hn : n ≤ 1000000) (hL : L ≤ 220000000) (hfz : c.codeX n R = 0 → FzL L (vecQ n R)) :
    Calls Tryz.prog 22 #[cv c.st c.sr AM c.nm cm AD c.nd cd, .slice AV n ca] w fun e w' => e = .returned (.tuple #[.bool (c.accB n R), .int .i64 (c.codeX n R)]) ∧ Below w.heap.size w w' := by
  have hs := hS.chS
  have K1 := Lib.hid (fun W (hb : Below w.heap.size w W) => rerror_any (h.below hb) hs)
  have HPB := Lib.hid (fun W hb => par_below (W := W) (w := w) (o := .cells #[.int .i64 c.st, .int .i64 c.sr, .slice AM c.nm cm, .slice AD c.nd cd] 25) hb)
  have HPC := Lib.hid (fun W hb => par_cells (W := W) (w := w) (a := .int .i64 c.st) (b := .int .i64 c.sr) (d := .slice AM c.nm cm) (e := .slice AD c.nd cd) (t := 25) hb)
  have hW0z : (w.alloc (.cells #[.int .i64 c.st, .int .i64 c.sr, .slice AM c.nm cm, .slice AD c.nd cd] 25)).heap.size = w.heap.size + 1 := by simp
  by_cases h0 : c.codeA = 0
  · have ok := Chn.codeA_ok h0
    have hst := ok.st
    by_cases hnn : n = c.nd
    · have K2 := Lib.hid (fun W (hb : Below w.heap.size w W) => rlive_any (h.below hb) ok hs.nm)
      have HXV : Hid (allV n R = false → c.codeX n R = 2 ∧ c.accB n R = false) := fun hv0 => Chn.codeX_v h0 hnn hv0
      have HX0 : Hid (allV n R = true → c.codeX n R = 0) := fun hv0 => Chn.codeX_z h0 hnn hv0
      have HY : Hid (c.codeX n R = 0 → (∀ s, s < c.nd → c.okX (vecQ n R) s) → c.accB n R = true) := fun hx h => Chn.acc_yes hx h
      have HN : Hid (∀ s, s < c.nd → ¬ c.okX (vecQ n R) s → c.accB n R = false) := fun s hs h => Chn.acc_no hs h
      have HFZ := Lib.hid hfz
      have HVc : Hid (allV n R = true → RowA w w.heap.size AV n (can (vecQ n R))) := fun hv0 => hv.can_ hv0
      obtain ⟨M, hM⟩ : ∃ M, M = 220000100 := ⟨_, rfl⟩
      have HAC : Hid (c.codeX n R = 0 → (∀ k, k ≤ c.nm → ∀ s, Sz M (totL c.f c.q (vecQ n R) s k)) ∧ (∀ k, k ≤ c.nm → ∀ s, Sz M (floL c.lv c.f c.t c.q (vecQ n R) s k)) ∧ (∀ k, k < c.nm → ∀ s, Sz M (c.q k * vecQ n R s)) ∧ ∀ s, Sz M (vecQ n R s)) := fun hx => by
        have hF := hfz hx
        have hac := hF.accs (l := c.lv) (F := c.f) (T := c.t) (hS.rts ok)
        exact ⟨fun k hk s => (hac.2.2.1 k hk s).more (by omega), fun k hk s => (hac.2.2.2 k hk s).more (by omega), fun k hk s => (hF.prod (hS.rts ok) hk s).more (by omega), fun s => ((hF.more (show L ≤ L + 1 by omega)).sz (by omega) s).more (by omega)⟩
      have HOK : Hid (∀ s, c.okX (vecQ n R) s ↔ (c.lv s = true → totL c.f c.q (vecQ n R) s c.nm - floL c.lv c.f c.t c.q (vecQ n R) s c.nm = 0) ∧ (c.lv s = false → vecQ n R s = 0)) := fun s => by
        unfold Chn.okX
        rw [accL_two]
        constructor
        · rintro ⟨h1, h2⟩; exact ⟨fun h => by have := h1 h; grind, h2⟩
        · rintro ⟨h1, h2⟩; exact ⟨fun h => by have := h1 h; grind, h2⟩
      obtain ⟨X, hX⟩ : ∃ X, X = vecQ n R := ⟨_, rfl⟩
      obtain ⟨bA, hbA⟩ : ∃ bA, bA = c.accB n R := ⟨_, rfl⟩
      obtain ⟨cX, hcX⟩ : ∃ cX, cX = c.codeX n R := ⟨_, rfl⟩
      obtain ⟨LV, hLV⟩ : ∃ LV, LV = c.lv := ⟨_, rfl⟩
      rw [← hX, ← hcX, ← hbA] at HY
      rw [← hX, ← hbA] at HN
      rw [← hX] at HVc HOK
      rw [← hX, ← hcX, ← hLV] at HAC
      rw [← hLV] at HOK K2
      rw [← hcX, ← hbA] at HXV
      rw [← hcX] at HX0
      rw [← hbA, ← hcX]
      obtain ⟨TL, hTL⟩ : ∃ TL : Nat → Nat → Rat, TL = totL c.f c.q X := ⟨_, rfl⟩
      obtain ⟨FL, hFL⟩ : ∃ FL : Nat → Nat → Rat, FL = floL LV c.f c.t c.q X := ⟨_, rfl⟩
      rw [← hTL, ← hFL] at HAC
      rw [← hTL, ← hFL] at HOK
      have HT0 : Hid (∀ s, TL s 0 = 0) := fun s => by rw [hTL]; unfold totL; rfl
      have HF0 : Hid (∀ s, FL s 0 = 1) := fun s => by rw [hFL]; unfold floL; rfl
      have HTn : Hid (∀ s k, c.f k ≠ s → TL s (k + 1) = TL s k ∧ FL s (k + 1) = FL s k) := fun s k hk => by
        rw [hTL, hFL]
        constructor
        · conv => (lhs; unfold totL); rw [if_neg hk]
        · conv => (lhs; unfold floL); rw [if_neg hk]
      have HTy : Hid (∀ s k, c.f k = s → TL s (k + 1) = TL s k + c.q k * X s) := fun s k hk => by rw [hTL]; conv => (lhs; unfold totL); rw [if_pos hk]
      have HFy : Hid (∀ s k, c.f k = s → LV (c.t k) = true → FL s (k + 1) = FL s k + c.q k * X (c.t k)) := fun s k hk hl => by rw [hFL]; conv => (lhs; unfold floL); rw [if_pos hk, if_pos hl]
      have HFn : Hid (∀ s k, c.f k = s → LV (c.t k) = false → FL s (k + 1) = FL s k) := fun s k hk hl => by rw [hFL]; conv => (lhs; unfold floL); rw [if_pos hk, if_neg (by rw [hl]; simp)]
      have HMV := Lib.hid (fun W hb k hk => h.mv_later (W := W) ok hb (k := k) hk)
      have HSQ := Lib.hid (fun k hk => (hs.siz ok).raw k hk)
      have HRV := Lib.hid hv
      have HZ := Lib.hid hz
      have hnm := hs.nm
      have hn1 := ok.lo
      have hn9 := hS.nd ok
      have hML : 400 ≤ M ∧ M ≤ 1000000000 := by omega
      subst hnn
      rw [h0, hst] at K1
      rw [hst] at K2 HPC HPB hW0z
      rw [hst]
      have e1 : ((c.nd : Int) != (c.nd : Int)) = false := by simp
      clear h hS hv hz hfz ok hst hs hX hbA hcX hM hLV hTL hFL h0 HFZ
      go_enter Tryz.func22, Tryz.ntmps22
      (go_wp2_with fail; (with_reducible refine (K1.out _ (by (skip); repeat' (first | (with_reducible exact Below.refl _ _) | (with_reducible assumption) | (with_reducible refine Below.alloc ?_ ?_ _) | (with_reducible refine Below.drew ?_) | (with_reducible refine below_drewN ?_ _) | (with_reducible refine Below.setCell ?_ ?_ _) | (with_reducible refine Below.trans ?_ (Below.mono (by with_reducible assumption) ?_)) | omega | (simp only [World.size_alloc, World.size_setCell, World.size_drew, size_drewN']; omega) | go_size))).mono ?_); rintro e w1 ⟨rfl, hb1⟩; have hb1z := Below.size hb1; (try simp only [World.size_alloc, World.size_setCell, World.size_drew, size_drewN'] at hb1z); have hb1c0 := fun o => below_at hb1 (w.heap.size) o (by first | omega | (simp only [World.size_alloc, World.size_setCell, World.size_drew, size_drewN']; omega)); have hb1f0 := fun o => below_fr hb1 (w.heap.size) o (by first | omega | (simp only [World.size_alloc, World.size_setCell, World.size_drew, size_drewN']; omega)))
      have HB1 : Hid (Below (w.heap.size + 1) (w.alloc (.cells #[.int .i64 (c.nd : Int), .int .i64 c.sr, .slice AM c.nm cm, .slice AD c.nd cd] 25)) w1) := by show Below _ _ _; simpa using hb1
      have hz1 := HB1.out.size
      rw [hW0z] at hz1
      clear hb1 hb1c0 hb1f0 hW0z
      generalize w.alloc (.cells #[.int .i64 (c.nd : Int), .int .i64 c.sr, .slice AM c.nm cm, .slice AD c.nd cd] 25) = W0 at *
      obtain ⟨y0, -, -, -⟩ := HPC.out _ HB1.out
      go_wp2
      go_loopw [28] (fun i wr => ∃ k : Nat, k ≤ c.nd ∧ i = .int .i64 (k : Int) ∧ (∀ s, s < k → validR (R s) = true) ∧ Below w1.heap.size w1 wr) (fun i _ => c.nd - (intOf i).toNat)
      case atStart => exact ⟨0, Nat.zero_le _, rfl, fun s hs => by omega, Below.refl _ _⟩
      case round =>
        clear y0
        obtain ⟨k, hk, rfl, hvv, hb⟩ := hrel
        have hzr := hb.size
        have hbr : Below (w.heap.size + 1) W0 wr := HB1.out.trans (hb.mono (by omega))
        have hbW := HPB.out _ hbr
        have HVV := Lib.hid hvv
        clear hvv
        by_cases hlt : k < c.nd
        · obtain ⟨bx, ox, s2, A2', n2, c2', B2, m2, d2, rfl, hbx, v0, v1, v2, r2⟩ := HRV.out.at_ hlt
          obtain ⟨q1, q2⟩ := HZ.out k hlt
          have x0 := (hbW.cell (lt_of_cell v0)).trans v0
          have x1 := (hbW.cell (lt_of_cell v1)).trans v1
          have x2 := (hbW.cell (lt_of_cell v2)).trans v2
          have KV := Lib.hid (fun W (hb' : Below w.heap.size w W) => rvalidSB (r2.kp (Kp.of_below hb')) q1 q2)
          have hki : (k : Int) < (c.nd : Int) := by omega
          have hk0 : (0 : Int) ≤ (k : Int) := by omega
          have HB := Lib.hid hb
          clear v0 v1 v2 r2 q1 q2 hb
          cases hvk : validR (R k)
          · rw [hvk] at KV
            have HX := Lib.hid (HXV.out (allV_no hlt hvk))
            clear hvk
            (go_wp2_with fail; (with_reducible refine (KV.out _ (by (skip); repeat' (first | (with_reducible exact Below.refl _ _) | (with_reducible assumption) | (with_reducible refine Below.alloc ?_ ?_ _) | (with_reducible refine Below.drew ?_) | (with_reducible refine below_drewN ?_ _) | (with_reducible refine Below.setCell ?_ ?_ _) | (with_reducible refine Below.trans ?_ (Below.mono (by with_reducible assumption) ?_)) | omega | (simp only [World.size_alloc, World.size_setCell, World.size_drew, size_drewN']; omega) | go_size))).mono ?_); rintro e w3 ⟨rfl, hb3⟩; have hb3z := Below.size hb3; (try simp only [World.size_alloc, World.size_setCell, World.size_drew, size_drewN'] at hb3z))
            have hB3 : Below w.heap.size w w3 := (by have z0 := Below.size hb3; (try simp only [World.size_alloc, World.size_setCell, World.size_drew, size_drewN'] at z0 ⊢; skip); repeat' (first | (with_reducible exact Below.refl _ _) | (with_reducible assumption) | (with_reducible refine Below.alloc ?_ ?_ _) | (with_reducible refine Below.drew ?_) | (with_reducible refine below_drewN ?_ _) | (with_reducible refine Below.setCell ?_ ?_ _) | (with_reducible refine Below.trans ?_ (Below.mono (by with_reducible assumption) ?_)) | omega | (simp only [World.size_alloc, World.size_setCell, World.size_drew, size_drewN']; omega) | go_size))
            go_wp2
            go_ret2
            exact ⟨by rw [HX.out.1, HX.out.2]; rfl, hB3⟩
          · rw [hvk] at KV
            have HVK := Lib.hid hvk
            clear hvk
            (go_wp2_with fail; (with_reducible refine (KV.out _ (by (skip); repeat' (first | (with_reducible exact Below.refl _ _) | (with_reducible assumption) | (with_reducible refine Below.alloc ?_ ?_ _) | (with_reducible refine Below.drew ?_) | (with_reducible refine below_drewN ?_ _) | (with_reducible refine Below.setCell ?_ ?_ _) | (with_reducible refine Below.trans ?_ (Below.mono (by with_reducible assumption) ?_)) | omega | (simp only [World.size_alloc, World.size_setCell, World.size_drew, size_drewN']; omega) | go_size))).mono ?_); rintro e w3 ⟨rfl, hb3⟩; have hb3z := Below.size hb3; (try simp only [World.size_alloc, World.size_setCell, World.size_drew, size_drewN'] at hb3z))
            have hB3 : Below wr.heap.size wr w3 := ((Below.refl _ _).alloc (Nat.le_refl _) _).trans (hb3.mono (by simp))
            have HB3 := Lib.hid (HB.out.trans (hB3.mono hzr))
            clear hB3
            go_wp2
            go_roundw
            case rel =>
              refine ⟨k + 1, by omega, by go_num, fun s hs => ?_, HB3.out⟩
              by_cases e : s = k
              · rw [e]; exact HVK.out
              · exact HVV.out s (by omega)
            case measure => simp [intOf]; omega
        · have hkn : k = c.nd := by omega
          subst hkn
          have hall := allV_yes (n := c.nd) HVV.out
          have hx0 := HX0.out hall
          have hVc := HVc.out hall
          obtain ⟨hac1, hac2, hac3, hac4⟩ := HAC.out hx0
          have HYY := Lib.hid (HY.out hx0)
          have HX00 := Lib.hid hx0
          have HV := Lib.hid hVc
          have HS1 := Lib.hid hac1
          have HS2 := Lib.hid hac2
          have HS3 := Lib.hid hac3
          have HS4 := Lib.hid hac4
          obtain ⟨y0, y1, y2, y3⟩ := HPC.out _ hbr
          have hbN : Below w.heap.size w wr := hbW
          clear hall hx0 hVc hac1 hac2 hac3 hac4 HXV HX0 HY HVc HAC HRV HZ HVV hbW
          (go_wp2_with fail; (with_reducible refine (K2.out _ hbN).mono ?_); rintro e w2 ⟨⟨A2, c2, rfl, ow2⟩, hb2⟩; have hb2z := Below.size hb2; (try simp only [World.size_alloc, World.size_setCell, World.size_drew, size_drewN'] at hb2z); have hb2c0 := fun o => below_at hb2 (w.heap.size) o (by first | omega | (simp only [World.size_alloc, World.size_setCell, World.size_drew, size_drewN']; omega)); have hb2f0 := fun o => below_fr hb2 (w.heap.size) o (by first | omega | (simp only [World.size_alloc, World.size_setCell, World.size_drew, size_drewN']; omega)))
          have HMK := Lib.hid ow2.mk
          have HB2 : Hid (Below (w.heap.size + 1) W0 w2) := hbr.trans (hb2.mono (by omega))
          have hz2 := hb2.size
          clear hb2 hb2c0 hb2f0 ow2 y0 y1 y2 y3 hb hbr hbN
          go_wp2
          go_loopw [40] (fun i wr => ∃ s : Nat, s ≤ c.nd ∧ i = .int .i64 (s : Int) ∧ (∀ j, j < s → (LV j = true → TL j c.nm - FL j c.nm = 0) ∧ (LV j = false → X j = 0)) ∧ Below w2.heap.size w2 wr) (fun i _ => c.nd - (intOf i).toNat)
          case atStart => exact ⟨0, Nat.zero_le _, rfl, fun s hs => by omega, Below.refl _ _⟩
          case round =>
            obtain ⟨s, hs, rfl, hall, hb⟩ := hrel
            have hzr2 := hb.size
            have hbr : Below (w.heap.size + 1) W0 wr := HB2.out.trans (hb.mono (by omega))
            have hbW := HPB.out _ hbr
            have HAll := Lib.hid hall
            clear hall
            by_cases hlt : s < c.nd
            · obtain ⟨b1, ol, rfl, hbl, mt⟩ := (HMK.out).later hb hlt
              obtain ⟨bx, ox, sx, Ax, nx, cx, Bx, mx, dx, rfl, hbx9, u0, u1, u2, rx⟩ := HV.out.at_ hlt
              have x0 := (hbW.cell (lt_of_cell u0)).trans u0
              have x1 := (hbW.cell (lt_of_cell u1)).trans u1
              have x2 := (hbW.cell (lt_of_cell u2)).trans u2
              have qx := rx.canQ (HS4.out s)
              have hsi : (s : Int) < (c.nd : Int) := by omega
              have hs0 : (0 : Int) ≤ (s : Int) := by omega
              have hbl2 : b1 < wr.heap.size := by omega
              have hwr : w.heap.size < wr.heap.size := by omega
              have KSg := Lib.hid (fun W (hb : Below w.heap.size w W) => rsignQ (qx.below hb) (by omega) (by omega))
              have HB := Lib.hid hb
              have HBW := Lib.hid hbW
              have HBR := Lib.hid hbr
              have HQX := Lib.hid qx
              have HMT := Lib.hid mt
              clear u0 u1 u2 rx qx hb hbr
              have oa := fun o => (World.cell?_alloc_lt wr o ⟨b1, ol + s, none⟩ hbl2).trans mt
              cases hLk : LV s
              · rw [hLk] at mt
                simp only [hLk] at oa
                by_cases hX0 : X s = 0
                · have ez : sgnQ (X s) = 0 := sgnQ_zero.2 hX0
                  rw [ez] at KSg
                  have hokk : (LV s = true → TL s c.nm - FL s c.nm = 0) ∧ (LV s = false → X s = 0) := ⟨fun h => by (rw [hLk] at h; cases h), fun _ => hX0⟩
                  have HOKs := Lib.hid hokk
                  clear hLk hX0 ez hokk
                  (go_wp2_with fail; (with_reducible refine (KSg.out _ (by (skip); repeat' (first | (with_reducible exact Below.refl _ _) | (with_reducible assumption) | (with_reducible refine Below.alloc ?_ ?_ _) | (with_reducible refine Below.drew ?_) | (with_reducible refine below_drewN ?_ _) | (with_reducible refine Below.setCell ?_ ?_ _) | (with_reducible refine Below.trans ?_ (Below.mono (by with_reducible assumption) ?_)) | omega | (simp only [World.size_alloc, World.size_setCell, World.size_drew, size_drewN']; omega) | go_size))).mono ?_); rintro e w3 ⟨rfl, hb3⟩; have hb3z := Below.size hb3; (try simp only [World.size_alloc, World.size_setCell, World.size_drew, size_drewN'] at hb3z))
                  have hB3 : Below wr.heap.size wr w3 := ((Below.refl _ _).alloc (Nat.le_refl _) _).trans (hb3.mono (by simp))
                  have HB3 := Lib.hid (HB.out.trans (hB3.mono hzr2))
                  clear hB3
                  go_wp2
                  go_roundw
                  case rel =>
                    refine ⟨s + 1, by omega, by go_num, fun j hj => ?_, HB3.out⟩
                    by_cases e : j = s
                    · rw [e]; exact HOKs.out
                    · exact HAll.out j (by omega)
                  case measure => simp [intOf]; omega
                · obtain ⟨z, hz⟩ : ∃ z, z = sgnQ (X s) := ⟨_, rfl⟩
                  have ez : (z != 0) = true := by rw [hz]; exact sgn_ne hX0
                  rw [← hz] at KSg
                  have HNO := Lib.hid (HN.out s hlt (fun h => hX0 (((HOK.out s).1 h).2 hLk)))
                  clear hLk hX0 hz
                  (go_wp2_with fail; (with_reducible refine (KSg.out _ (by (skip); repeat' (first | (with_reducible exact Below.refl _ _) | (with_reducible assumption) | (with_reducible refine Below.alloc ?_ ?_ _) | (with_reducible refine Below.drew ?_) | (with_reducible refine below_drewN ?_ _) | (with_reducible refine Below.setCell ?_ ?_ _) | (with_reducible refine Below.trans ?_ (Below.mono (by with_reducible assumption) ?_)) | omega | (simp only [World.size_alloc, World.size_setCell, World.size_drew, size_drewN']; omega) | go_size))).mono ?_); rintro e w3 ⟨rfl, hb3⟩; have hb3z := Below.size hb3; (try simp only [World.size_alloc, World.size_setCell, World.size_drew, size_drewN'] at hb3z))
                  have hB3 : Below w.heap.size w w3 := (by have z0 := Below.size hb3; (try simp only [World.size_alloc, World.size_setCell, World.size_drew, size_drewN'] at z0 ⊢; skip); repeat' (first | (with_reducible exact Below.refl _ _) | (with_reducible assumption) | (with_reducible refine Below.alloc ?_ ?_ _) | (with_reducible refine Below.drew ?_) | (with_reducible refine below_drewN ?_ _) | (with_reducible refine Below.setCell ?_ ?_ _) | (with_reducible refine Below.trans ?_ (Below.mono (by with_reducible assumption) ?_)) | omega | (simp only [World.size_alloc, World.size_setCell, World.size_drew, size_drewN']; omega) | go_size))
                  go_wp2
                  go_ret2
                  exact ⟨by rw [HNO.out, HX00.out]; rfl, hB3⟩
              · rw [hLk] at mt
                simp only [hLk] at oa
                (go_wp2_with fail; (with_reducible refine (rofOne _).mono ?_); rintro e w5 ⟨⟨v5, rfl, own5⟩, hb5⟩; have hb5z := Below.size hb5; (try simp only [World.size_alloc, World.size_setCell, World.size_drew, size_drewN'] at hb5z); have hb5c0 := fun o => below_at hb5 (w.heap.size) o (by first | omega | (simp only [World.size_alloc, World.size_setCell, World.size_drew, size_drewN']; omega)); have hb5f0 := fun o => below_fr hb5 (w.heap.size) o (by first | omega | (simp only [World.size_alloc, World.size_setCell, World.size_drew, size_drewN']; omega)); have hb5c1 := fun o => below_at hb5 (wr.heap.size) o (by first | omega | (simp only [World.size_alloc, World.size_setCell, World.size_drew, size_drewN']; omega)); have hb5f1 := fun o => below_fr hb5 (wr.heap.size) o (by first | omega | (simp only [World.size_alloc, World.size_setCell, World.size_drew, size_drewN']; omega)))
                obtain ⟨s5, A5, n5, c5, B5, m5, d5, rfl⟩ := own5.form
                have hB5 : Below wr.heap.size wr w5 := ((Below.refl _ _).alloc (Nat.le_refl _) _).trans (hb5.mono (by simp))
                have hz5 : wr.heap.size < w5.heap.size := by have := hb5.size; simp at this; omega
                have t0 : w5.cell? ⟨wr.heap.size, 0, none⟩ = some (.bool sx) := by rw [hb5c1]; simp
                have t1 : w5.cell? ⟨wr.heap.size, 1, none⟩ = some (.slice Ax nx cx) := by rw [hb5c1]; simp
                have t2 : w5.cell? ⟨wr.heap.size, 2, none⟩ = some (.slice Bx mx dx) := by rw [hb5c1]; simp
                have hb5r : Below (w.heap.size + 1) W0 w5 := HBR.out.trans (hB5.mono (by omega))
                obtain ⟨y0, y1, y2, y3⟩ := HPC.out _ hb5r
                have HB5 := Lib.hid hB5
                have HB5R := Lib.hid hb5r
                have HO5 := Lib.hid own5
                have hLS := hLk
                clear hb5 hb5c0 hb5c1 hb5f0 hb5f1 hB5 hb5r own5 mt oa x0 x1 x2 hbW hLk
                obtain ⟨wo, hwo⟩ : ∃ wo, wo = wr := ⟨_, rfl⟩
                subst hwo
                have y2' := fun o1 o2 => Lib.cell?_alloc_some o2 (Lib.cell?_alloc_some o1 y2)
                go_wp2
                go_loopw [58] (fun i wx => ∃ j : Nat, j ≤ c.nm ∧ i = .int .i64 (j : Int) ∧ VarR w5.heap.size (TL s j) wx ∧ VarR (w5.heap.size + 1) (FL s j) wx ∧ Below w5.heap.size w5 wx) (fun i _ => c.nm - (intOf i).toNat)
                case atStart =>
                  have sA : (w5.alloc (.cells #[.bool false, .slice none 0 0, .slice none 0 0] 50)).heap.size = w5.heap.size + 1 := by simp
                  have a1 := (VarR.new w5).below (w' := (w5.alloc (.cells #[.bool false, .slice none 0 0, .slice none 0 0] 50)).alloc (.cells #[.bool s5, .slice A5 n5 c5, .slice B5 m5 d5] 50)) ((Below.refl _ _).alloc (Nat.le_refl _) _)
                  have b2 := VarR.newv (w := w5.alloc (.cells #[.bool false, .slice none 0 0, .slice none 0 0] 50)) ((HO5.out.rs (b0 := 0)).kp (Kp.of_below ((Below.refl _ _).alloc (Nat.le_refl _) _)))
                  rw [sA] at b2
                  exact ⟨0, Nat.zero_le _, rfl, by rw [HT0.out]; exact a1, by rw [HF0.out]; exact b2, ((Below.refl _ _).alloc (Nat.le_refl _) _).alloc (by simp) _⟩
                case round =>
                  clear y0 y1 y2 y3 y2'
                  obtain ⟨j, hj, rfl, vT, vF, hbx⟩ := hrel
                  have hzx := hbx.size
                  have hbWx : Below w.heap.size w wr := HPB.out _ (HB5R.out.trans (hbx.mono (by omega)))
                  have hb2x : Below w2.heap.size w2 wr := HB.out.trans ((HB5.out.trans (hbx.mono (by omega))).mono (by omega))
                  have V0 := (hbx.cell (p := ⟨wo.heap.size, 0, none⟩) hz5).trans t0
                  have V1 := (hbx.cell (p := ⟨wo.heap.size, 1, none⟩) hz5).trans t1
                  have V2 := (hbx.cell (p := ⟨wo.heap.size, 2, none⟩) hz5).trans t2
                  by_cases hjl : j < c.nm
                  · obtain ⟨bm, om, s1, A1', n1, c1', B1, m1, d1, rfl, hbm, G0, G1, G2, G3, G4, r1, hfn, htn, hft⟩ := HMV.out w (Below.refl _ _) j hjl
                    have g0 := (hbWx.cell (lt_of_cell G0)).trans G0
                    have g1 := (hbWx.cell (lt_of_cell G1)).trans G1
                    have g2 := (hbWx.cell (lt_of_cell G2)).trans G2
                    have g3 := (hbWx.cell (lt_of_cell G3)).trans G3
                    have g4 := (hbWx.cell (lt_of_cell G4)).trans G4
                    obtain ⟨b1', ol', ex, -, mt⟩ := (HMK.out).later hb2x htn
                    injection ex with ex
                    injection ex with ex exo
                    subst ex exo
                    obtain ⟨bx', ox', s3, A3', n3, c3', B3, m3, d3, ex, -, u0, u1, u2, rt2⟩ := HV.out.at_ htn
                    injection ex with ex
                    injection ex with ex exo
                    subst ex exo
                    have hTn := HTn.out s j
                    have hTy := HTy.out s j
                    have hFy := HFy.out s j
                    have hFn := HFn.out s j
                    have hT := HS1.out j (by omega) s
                    have hF := HS2.out j (by omega) s
                    have hP := HS3.out j hjl s
                    have hPT := HS3.out j hjl (c.t j)
                    obtain ⟨q1, q2⟩ := HSQ.out j hjl
                    have hqv : valR (c.R j) = c.q j := rfl
                    have qm := r1.rdq (L := M) (by omega) (by omega)
                    rw [hqv] at qm
                    have qt := rt2.canQ (HS4.out (c.t j))
                    obtain ⟨f, hf⟩ : ∃ f, f = c.f j := ⟨_, rfl⟩
                    obtain ⟨tt, ht⟩ : ∃ tt, tt = c.t j := ⟨_, rfl⟩
                    obtain ⟨q, hq⟩ : ∃ q, q = c.q j := ⟨_, rfl⟩
                    rw [← hf] at g0 hfn hTn hTy hFy hFn hft
                    rw [← ht] at g1 mt htn hFy hFn hPT hft qt u0 u1 u2
                    rw [← hq] at hTy hFy hP hPT qm
                    have KM := Lib.hid (fun W (hb : Below w.heap.size w W) => rmulQ (qm.below hb) (HQX.out.below hb) (by omega) (by omega))
                    have KM2 := Lib.hid (fun W (hb : Below w.heap.size w W) => rmulQ (qm.below hb) (qt.below hb) (by omega) (by omega))
                    have HU := Lib.hid (fun W (hb : Below w.heap.size w W) => And.intro ((hb.cell (lt_of_cell u0)).trans u0) (And.intro ((hb.cell (lt_of_cell u1)).trans u1) ((hb.cell (lt_of_cell u2)).trans u2)))
                    have HMT := Lib.hid mt
                    clear hf ht hq hqv q1 q2 rt2 u0 u1 u2 r1 G0 G1 G2 G3 G4 qm qt mt
                    have hji : (j : Int) < (c.nm : Int) := by omega
                    have hj0 : (0 : Int) ≤ (j : Int) := by omega
                    have hfi : (f : Int) < (c.nd : Int) := by omega
                    have hf0 : (0 : Int) ≤ (f : Int) := by omega
                    have hti : (tt : Int) < (c.nd : Int) := by omega
                    have ht0 : (0 : Int) ≤ (tt : Int) := by omega
                    have hal : Below wr.heap.size wr (wr.alloc (.cells #[.int .i64 (f : Int), .int .i64 (tt : Int), .bool s1, .slice A1' n1 c1', .slice B1 m1 d1] 65)) := (Below.refl _ _).alloc (Nat.le_refl _) _
                    by_cases hfs : s = f
                    · subst hfs
                      have hTE := hTy rfl
                      have e3 : ((s : Int) == (s : Int)) = true := by simp
                      have HFY := Lib.hid (hFy rfl)
                      have HFN := Lib.hid (hFn rfl)
                      have HVT := Lib.hid vT
                      have HVF := Lib.hid vF
                      have HAL := Lib.hid hal
                      have HTE := Lib.hid hTE
                      have HBX := Lib.hid hbx
                      clear hTn hTy hFy hFn hTE vT vF hal hbx hb2x
                      go_wp2
                      generalize hwq : wr.alloc (.cells #[.int .i64 (s : Int), .int .i64 (tt : Int), .bool s1, .slice A1' n1 c1', .slice B1 m1 d1] 65) = wq at *
                      have hAL := HAL.out
                      have z0 : wq.cell? ⟨wr.heap.size, 0, none⟩ = some (.int .i64 (s : Int)) := by rw [← hwq]; simp
                      have z1 : wq.cell? ⟨wr.heap.size, 1, none⟩ = some (.int .i64 (tt : Int)) := by rw [← hwq]; simp
                      have z2 : wq.cell? ⟨wr.heap.size, 2, none⟩ = some (.bool s1) := by rw [← hwq]; simp
                      have z3 : wq.cell? ⟨wr.heap.size, 3, none⟩ = some (.slice A1' n1 c1') := by rw [← hwq]; simp
                      have z4 : wq.cell? ⟨wr.heap.size, 4, none⟩ = some (.slice B1 m1 d1) := by rw [← hwq]; simp
                      have hwz : wq.heap.size = wr.heap.size + 1 := by rw [← hwq]; simp
                      have v0 := (hAL.cell (p := ⟨wo.heap.size, 0, none⟩) (by show wo.heap.size < _; omega)).trans V0
                      have v1 := (hAL.cell (p := ⟨wo.heap.size, 1, none⟩) (by show wo.heap.size < _; omega)).trans V1
                      have v2 := (hAL.cell (p := ⟨wo.heap.size, 2, none⟩) (by show wo.heap.size < _; omega)).trans V2
                      have hbWq : Below w.heap.size w wq := hbWx.trans (hAL.mono (by omega))
                      have vq := HVT.out.below hAL
                      have vqF := HVF.out.below hAL
                      have HVQ := Lib.hid vq
                      have HVQF := Lib.hid vqF
                      obtain ⟨⟨s8, A8, n8, c8, B8, m8, d8, o0, o1, o2, r0⟩, hRB, hgz, hgf⟩ := vq
                      have qd := r0.canQ hT
                      have KA := Lib.hid (fun W base v1 (hb : Below wq.heap.size wq W) (hv : OwQ W base v1 (q * X s)) => raddQ (qd.below hb) (hv.rq hP) (by omega) (by omega))
                      clear r0 qd vqF hAL hwq hRB g0 g1 g2 g3 g4 V0 V1 V2
                      have ne1 : ¬ (wr.heap.size = w5.heap.size) := by have := HVF.out.2.2.1; omega
                      have ne2 : ¬ (w5.heap.size = wr.heap.size) := by omega
                      have ne3 : ¬ (wo.heap.size = w5.heap.size) := by omega
                      have ne4 : ¬ (w5.heap.size = wo.heap.size) := by omega
                      rw [ld_later 50 (.tmp 12)]
                      go_region_held3 (fun W => W.cell? ⟨wr.heap.size, 0, none⟩ = some (.int .i64 (s : Int)) ∧ W.cell? ⟨wr.heap.size, 1, none⟩ = some (.int .i64 (tt : Int)) ∧ W.cell? ⟨wr.heap.size, 2, none⟩ = some (.bool s1) ∧ W.cell? ⟨wr.heap.size, 3, none⟩ = some (.slice A1' n1 c1') ∧ W.cell? ⟨wr.heap.size, 4, none⟩ = some (.slice B1 m1 d1) ∧ W.cell? ⟨wo.heap.size, 0, none⟩ = some (.bool sx) ∧ W.cell? ⟨wo.heap.size, 1, none⟩ = some (.slice Ax nx cx) ∧ W.cell? ⟨wo.heap.size, 2, none⟩ = some (.slice Bx mx dx)) (go_keep)
                        (first | ((go_at_call 46; (with_reducible refine (KM.out _ (by (skip); repeat' (first | (with_reducible exact Below.refl _ _) | (with_reducible assumption) | (with_reducible refine Below.alloc ?_ ?_ _) | (with_reducible refine Below.drew ?_) | (with_reducible refine below_drewN ?_ _) | (with_reducible refine Below.setCell ?_ ?_ _) | (with_reducible refine Below.trans ?_ (Below.mono (by with_reducible assumption) ?_)) | omega | (simp only [World.size_alloc, World.size_setCell, World.size_drew, size_drewN']; omega) | go_size))).mono ?_); rintro e w6 ⟨⟨v6, rfl, own6⟩, hb6⟩; have hb6z := Below.size hb6; (try simp only [World.size_alloc, World.size_setCell, World.size_drew] at hb6z); have hb6c0 := fun o => below_at hb6 (w5.heap.size) o (by first | omega | (simp only [World.size_alloc, World.size_setCell, World.size_drew]; omega)); have hb6f0 := fun o => below_fr hb6 (w5.heap.size) o (by first | omega | (simp only [World.size_alloc, World.size_setCell, World.size_drew]; omega)); have hb6l0 : w5.heap.size < (w6).heap.size := (by omega); have hb6c1 := fun o => below_at hb6 (wr.heap.size) o (by first | omega | (simp only [World.size_alloc, World.size_setCell, World.size_drew]; omega)); have hb6f1 := fun o => below_fr hb6 (wr.heap.size) o (by first | omega | (simp only [World.size_alloc, World.size_setCell, World.size_drew]; omega)); have hb6l1 : wr.heap.size < (w6).heap.size := (by omega); have hb6c2 := fun o => below_at hb6 (wo.heap.size) o (by first | omega | (simp only [World.size_alloc, World.size_setCell, World.size_drew]; omega)); have hb6f2 := fun o => below_fr hb6 (wo.heap.size) o (by first | omega | (simp only [World.size_alloc, World.size_setCell, World.size_drew]; omega)); have hb6l2 : wo.heap.size < (w6).heap.size := (by omega)); obtain ⟨s4, A4, n4, c4, B4, m4, d4, rfl⟩ := own6.form) | ((go_at_call 45; (with_reducible refine (KA.out _ _ _ (by have z0 := Below.size hb6; (try simp only [World.size_alloc, World.size_setCell, World.size_drew, size_drewN'] at z0 ⊢; skip); repeat' (first | (with_reducible exact Below.refl _ _) | (with_reducible assumption) | (with_reducible refine Below.alloc ?_ ?_ _) | (with_reducible refine Below.drew ?_) | (with_reducible refine below_drewN ?_ _) | (with_reducible refine Below.setCell ?_ ?_ _) | (with_reducible refine Below.trans ?_ (Below.mono (by with_reducible assumption) ?_)) | omega | (simp only [World.size_alloc, World.size_setCell, World.size_drew, size_drewN']; omega) | go_size)) own6).mono ?_); rintro e w7 ⟨⟨v7, rfl, own7⟩, hb7⟩; have hb7z := Below.size hb7; (try simp only [World.size_alloc, World.size_setCell, World.size_drew] at hb7z); have hb7c0 := fun o => below_at hb7 (w5.heap.size) o (by first | omega | (simp only [World.size_alloc, World.size_setCell, World.size_drew]; omega)); have hb7f0 := fun o => below_fr hb7 (w5.heap.size) o (by first | omega | (simp only [World.size_alloc, World.size_setCell, World.size_drew]; omega)); have hb7l0 : w5.heap.size < (w7).heap.size := (by omega); have hb7c1 := fun o => below_at hb7 (wr.heap.size) o (by first | omega | (simp only [World.size_alloc, World.size_setCell, World.size_drew]; omega)); have hb7f1 := fun o => below_fr hb7 (wr.heap.size) o (by first | omega | (simp only [World.size_alloc, World.size_setCell, World.size_drew]; omega)); have hb7l1 : wr.heap.size < (w7).heap.size := (by omega); have hb7c2 := fun o => below_at hb7 (wo.heap.size) o (by first | omega | (simp only [World.size_alloc, World.size_setCell, World.size_drew]; omega)); have hb7f2 := fun o => below_fr hb7 (wo.heap.size) o (by first | omega | (simp only [World.size_alloc, World.size_setCell, World.size_drew]; omega)); have hb7l2 : wo.heap.size < (w7).heap.size := (by omega)); obtain ⟨s9, A9, n9, c9, B9, m9, d9, rfl⟩ := own7.form) | fail)
                      all_goals
                        have hb9 : Below wq.heap.size wq w7 := (by have z0 := Below.size hb6; have z1 := Below.size hb7; (try simp only [World.size_alloc, World.size_setCell, World.size_drew, size_drewN'] at z0 z1 ⊢; skip); repeat' (first | (with_reducible exact Below.refl _ _) | (with_reducible assumption) | (with_reducible refine Below.alloc ?_ ?_ _) | (with_reducible refine Below.drew ?_) | (with_reducible refine below_drewN ?_ _) | (with_reducible refine Below.setCell ?_ ?_ _) | (with_reducible refine Below.trans ?_ (Below.mono (by with_reducible assumption) ?_)) | omega | (simp only [World.size_alloc, World.size_setCell, World.size_drew, size_drewN']; omega) | go_size))
                        have p1 := HVQ.out.below hb9
                        have p2 := HVQF.out.below hb9
                        have nT := p1.put (own7.rs (b0 := 0))
                        have nF := p2.far p1.2.1 (by omega) (.bool s9) (.slice A9 n9 c9) (.slice B9 m9 d9)
                        rw [← HTE.out] at nT
                        have hb57 : Below w5.heap.size w5 w7 := HBX.out.trans ((HAL.out.trans (hb9.mono (by omega))).mono hzx)
                        have nb := below_set3 hb57 (Nat.le_refl _) (.bool s9) (.slice A9 n9 c9) (.slice B9 m9 d9)
                        have Z1 := (hb7c1 1).trans ((hb6c1 1).trans z1)
                        have Z2 := (hb7c1 2).trans ((hb6c1 2).trans z2)
                        have Z3 := (hb7c1 3).trans ((hb6c1 3).trans z3)
                        have Z4 := (hb7c1 4).trans ((hb6c1 4).trans z4)
                        have hfar := fun i => far_set3 (g := wr.heap.size) (w := w7) ne2 (.bool s9) (.slice A9 n9 c9) (.slice B9 m9 d9) i
                        obtain ⟨wy, hwy⟩ : ∃ wy, wy = (((w7.setCell ⟨w5.heap.size, 0, none⟩ (.bool s9)).setCell ⟨w5.heap.size, 1, none⟩ (.slice A9 n9 c9)).setCell ⟨w5.heap.size, 2, none⟩ (.slice B9 m9 d9)) := ⟨_, rfl⟩
                        have hyz : wr.heap.size < wy.heap.size := by have := hb9.size; rw [hwy]; simp; omega
                        rw [← hwy] at nT nF nb ⊢
                        rw [← hwy] at hfar
                        have Y1 := (hfar 1).trans Z1
                        have Y2 := (hfar 2).trans Z2
                        have Y3 := (hfar 3).trans Z3
                        have Y4 := (hfar 4).trans Z4
                        have Y0 := (hfar 0).trans ((hb7c1 0).trans ((hb6c1 0).trans z0))
                        have hb2y : Below w2.heap.size w2 wy := HB.out.trans ((HB5.out.trans (nb.mono (by omega))).mono hzr2)
                        have hbWy : Below w.heap.size w wy := HPB.out _ (HB5R.out.trans (nb.mono (by omega)))
                        obtain ⟨b9, ol9, ex, -, mty⟩ := (HMK.out).later hb2y htn
                        injection ex with ex
                        injection ex with ex exo
                        subst ex exo
                        obtain ⟨U0, U1, U2⟩ := HU.out wy hbWy
                        have HNT := Lib.hid nT
                        have HNF := Lib.hid nF
                        have HNB := Lib.hid nb
                        have hzy := nb.size
                        clear nT nF nb hb57 p1 p2 hb9 own6 own7 hb6 hb7 hb6c0 hb6c1 hb6c2 hb7c0 hb7c1 hb7c2 hb6f0 hb6f1 hb6f2 hb7f0 hb7f1 hb7f2 Z1 Z2 Z3 Z4 z0 z1 z2 z3 z4 hfar hwy v0 v1 v2 o0 o1 o2 hb2y hgf hgz
                        cases hLt : LV tt
                        · rw [hLt] at mty
                          have HE := Lib.hid (HFN.out hLt)
                          clear hLt U0 U1 U2 Y0 Y2 Y3 Y4
                          go_wp2
                          go_roundw
                          case rel => exact ⟨j + 1, by omega, by go_num, HNT.out, by rw [HE.out]; exact HNF.out, HNB.out⟩
                          case measure => simp [intOf]; omega
                        · rw [hLt] at mty
                          have HE := Lib.hid (HFY.out hLt)
                          clear hLt
                          obtain ⟨⟨s10, A10, n10, c10, B10, m10, d10, o0, o1, o2, r0⟩, hRB, hgz, hgf⟩ := HNF.out
                          have qd2 := r0.canQ hF
                          have KA2 := Lib.hid (fun W base v1 (hb : Below wy.heap.size wy W) (hv : OwQ W base v1 (q * X tt)) => raddQ (qd2.below hb) (hv.rq hPT) (by omega) (by omega))
                          have ne5 : ¬ (wr.heap.size = w5.heap.size + 1) := by have := HVF.out.2.2.1; omega
                          have ne6 : ¬ (w5.heap.size + 1 = wr.heap.size) := by omega
                          have hbxw : bx < w.heap.size := hbx9
                          have ne7 : ¬ (bx = w5.heap.size + 1) := by omega
                          have ne8 : ¬ (w5.heap.size + 1 = bx) := by omega
                          have hbxy : bx < wy.heap.size := by omega
                          clear r0 qd2 hRB
                          go_wp2
                          rw [ld_later 50 (.tmp 13)]
                          go_region_held3 (fun W => W.cell? ⟨wr.heap.size, 0, none⟩ = some (.int .i64 (s : Int)) ∧ W.cell? ⟨wr.heap.size, 1, none⟩ = some (.int .i64 (tt : Int)) ∧ W.cell? ⟨wr.heap.size, 2, none⟩ = some (.bool s1) ∧ W.cell? ⟨wr.heap.size, 3, none⟩ = some (.slice A1' n1 c1') ∧ W.cell? ⟨wr.heap.size, 4, none⟩ = some (.slice B1 m1 d1) ∧ W.cell? ⟨bx, ox + tt * 3, none⟩ = some (.bool s3) ∧ W.cell? ⟨bx, ox + tt * 3 + 1, none⟩ = some (.slice A3' n3 c3') ∧ W.cell? ⟨bx, ox + tt * 3 + 2, none⟩ = some (.slice B3 m3 d3)) (go_keep)
                            (first | ((go_at_call 46; (with_reducible refine (KM2.out _ (by (skip); repeat' (first | (with_reducible exact Below.refl _ _) | (with_reducible assumption) | (with_reducible refine Below.alloc ?_ ?_ _) | (with_reducible refine Below.drew ?_) | (with_reducible refine below_drewN ?_ _) | (with_reducible refine Below.setCell ?_ ?_ _) | (with_reducible refine Below.trans ?_ (Below.mono (by with_reducible assumption) ?_)) | omega | (simp only [World.size_alloc, World.size_setCell, World.size_drew, size_drewN']; omega) | go_size))).mono ?_); rintro e w8 ⟨⟨v8, rfl, own8⟩, hb10⟩; have hb10z := Below.size hb10; (try simp only [World.size_alloc, World.size_setCell, World.size_drew] at hb10z); have hb10c0 := fun o => below_at hb10 (w5.heap.size + 1) o (by first | omega | (simp only [World.size_alloc, World.size_setCell, World.size_drew]; omega)); have hb10f0 := fun o => below_fr hb10 (w5.heap.size + 1) o (by first | omega | (simp only [World.size_alloc, World.size_setCell, World.size_drew]; omega)); have hb10l0 : w5.heap.size + 1 < (w8).heap.size := (by omega); have hb10c1 := fun o => below_at hb10 (wr.heap.size) o (by first | omega | (simp only [World.size_alloc, World.size_setCell, World.size_drew]; omega)); have hb10f1 := fun o => below_fr hb10 (wr.heap.size) o (by first | omega | (simp only [World.size_alloc, World.size_setCell, World.size_drew]; omega)); have hb10l1 : wr.heap.size < (w8).heap.size := (by omega); have hb10c2 := fun o => below_at hb10 (bx) o (by first | omega | (simp only [World.size_alloc, World.size_setCell, World.size_drew]; omega)); have hb10f2 := fun o => below_fr hb10 (bx) o (by first | omega | (simp only [World.size_alloc, World.size_setCell, World.size_drew]; omega)); have hb10l2 : bx < (w8).heap.size := (by omega)); obtain ⟨s4, A4, n4, c4, B4, m4, d4, rfl⟩ := own8.form) | ((go_at_call 45; (with_reducible refine (KA2.out _ _ _ (by have z0 := Below.size hb10; (try simp only [World.size_alloc, World.size_setCell, World.size_drew, size_drewN'] at z0 ⊢; skip); repeat' (first | (with_reducible exact Below.refl _ _) | (with_reducible assumption) | (with_reducible refine Below.alloc ?_ ?_ _) | (with_reducible refine Below.drew ?_) | (with_reducible refine below_drewN ?_ _) | (with_reducible refine Below.setCell ?_ ?_ _) | (with_reducible refine Below.trans ?_ (Below.mono (by with_reducible assumption) ?_)) | omega | (simp only [World.size_alloc, World.size_setCell, World.size_drew, size_drewN']; omega) | go_size)) own8).mono ?_); rintro e w9 ⟨⟨v9, rfl, own9⟩, hb11⟩; have hb11z := Below.size hb11; (try simp only [World.size_alloc, World.size_setCell, World.size_drew] at hb11z); have hb11c0 := fun o => below_at hb11 (w5.heap.size + 1) o (by first | omega | (simp only [World.size_alloc, World.size_setCell, World.size_drew]; omega)); have hb11f0 := fun o => below_fr hb11 (w5.heap.size + 1) o (by first | omega | (simp only [World.size_alloc, World.size_setCell, World.size_drew]; omega)); have hb11l0 : w5.heap.size + 1 < (w9).heap.size := (by omega); have hb11c1 := fun o => below_at hb11 (wr.heap.size) o (by first | omega | (simp only [World.size_alloc, World.size_setCell, World.size_drew]; omega)); have hb11f1 := fun o => below_fr hb11 (wr.heap.size) o (by first | omega | (simp only [World.size_alloc, World.size_setCell, World.size_drew]; omega)); have hb11l1 : wr.heap.size < (w9).heap.size := (by omega); have hb11c2 := fun o => below_at hb11 (bx) o (by first | omega | (simp only [World.size_alloc, World.size_setCell, World.size_drew]; omega)); have hb11f2 := fun o => below_fr hb11 (bx) o (by first | omega | (simp only [World.size_alloc, World.size_setCell, World.size_drew]; omega)); have hb11l2 : bx < (w9).heap.size := (by omega)); obtain ⟨s11, A11, n11, c11, B11, m11, d11, rfl⟩ := own9.form) | fail)
                          all_goals
                            have hb12 : Below wy.heap.size wy w9 := (by have z0 := Below.size hb10; have z1 := Below.size hb11; (try simp only [World.size_alloc, World.size_setCell, World.size_drew, size_drewN'] at z0 z1 ⊢; skip); repeat' (first | (with_reducible exact Below.refl _ _) | (with_reducible assumption) | (with_reducible refine Below.alloc ?_ ?_ _) | (with_reducible refine Below.drew ?_) | (with_reducible refine below_drewN ?_ _) | (with_reducible refine Below.setCell ?_ ?_ _) | (with_reducible refine Below.trans ?_ (Below.mono (by with_reducible assumption) ?_)) | omega | (simp only [World.size_alloc, World.size_setCell, World.size_drew, size_drewN']; omega) | go_size))
                            have p1 := HNF.out.below hb12
                            have p2 := HNT.out.below hb12
                            have nF := p1.put (own9.rs (b0 := 0))
                            have nT := p2.far p1.2.1 (by omega) (.bool s11) (.slice A11 n11 c11) (.slice B11 m11 d11)
                            rw [← HE.out] at nF
                            have nb := below_set3 (HNB.out.trans (hb12.mono hzy)) (show w5.heap.size ≤ w5.heap.size + 1 by omega) (.bool s11) (.slice A11 n11 c11) (.slice B11 m11 d11)
                            have HNF2 := Lib.hid nF
                            have HNT2 := Lib.hid nT
                            have HNB2 := Lib.hid nb
                            clear nF nT nb p1 p2 hb12 own8 own9 hb10 hb11
                            go_wp2
                            go_roundw
                            case rel => exact ⟨j + 1, by omega, by go_num, HNT2.out, HNF2.out, HNB2.out⟩
                            case measure => simp [intOf]; omega
                    · have hTE := hTn (fun e => hfs e.symm)
                      have e3 : ((f : Int) == (s : Int)) = false := by simp; omega
                      have HTE := Lib.hid hTE
                      have HVT := Lib.hid (vT.below hal)
                      have HVF := Lib.hid (vF.below hal)
                      have HBX := Lib.hid (hbx.trans (hal.mono hzx))
                      clear hTn hTy hFy hFn hTE vT vF hal hbx hb2x V0 V1 V2
                      go_wp2
                      go_roundw
                      case rel => exact ⟨j + 1, by omega, by go_num, by rw [HTE.out.1]; exact HVT.out, by rw [HTE.out.2]; exact HVF.out, HBX.out⟩
                      case measure => simp [intOf]; omega
                  · have hjm : j = c.nm := by omega
                    subst hjm
                    have HB9 := Lib.hid hb2x
                    have HW9 := Lib.hid hbWx
                    obtain ⟨⟨s8, A8, n8, c8, B8, m8, d8, o0, o1, o2, r0⟩, -, hgz, -⟩ := vT
                    obtain ⟨⟨s9, A9, n9, c9, B9, m9, d9, p0, p1, p2, r1⟩, -, hgz2, -⟩ := vF
                    have q0 := r0.canQ (HS1.out c.nm (Nat.le_refl _) s)
                    have q1 := r1.canQ (HS2.out c.nm (Nat.le_refl _) s)
                    have KC := Lib.hid (fun W (hb : Below wr.heap.size wr W) => rcmpQ (q0.below hb) (q1.below hb) (by omega) (by omega))
                    have hzs := hb2x.size
                    clear r0 r1 q0 q1 hbx hb2x
                    by_cases hX0 : TL s c.nm - FL s c.nm = 0
                    · have ez : sgnQ (TL s c.nm - FL s c.nm) = 0 := sgnQ_zero.2 hX0
                      rw [ez] at KC
                      have hokk : (LV s = true → TL s c.nm - FL s c.nm = 0) ∧ (LV s = false → X s = 0) := ⟨fun _ => hX0, fun h => by (rw [hLS] at h; cases h)⟩
                      have HOKs := Lib.hid hokk
                      clear hX0 ez hokk
                      (go_wp2_with fail; (with_reducible refine (KC.out _ (by (skip); repeat' (first | (with_reducible exact Below.refl _ _) | (with_reducible assumption) | (with_reducible refine Below.alloc ?_ ?_ _) | (with_reducible refine Below.drew ?_) | (with_reducible refine below_drewN ?_ _) | (with_reducible refine Below.setCell ?_ ?_ _) | (with_reducible refine Below.trans ?_ (Below.mono (by with_reducible assumption) ?_)) | omega | (simp only [World.size_alloc, World.size_setCell, World.size_drew, size_drewN']; omega) | go_size))).mono ?_); rintro e w8 ⟨rfl, hb8⟩; have hb8z := Below.size hb8; (try simp only [World.size_alloc, World.size_setCell, World.size_drew, size_drewN'] at hb8z))
                      have HB8 := Lib.hid (HB9.out.trans (((by have z0 := Below.size hb8; (try simp only [World.size_alloc, World.size_setCell, World.size_drew, size_drewN'] at z0 ⊢; skip); repeat' (first | (with_reducible exact Below.refl _ _) | (with_reducible assumption) | (with_reducible refine Below.alloc ?_ ?_ _) | (with_reducible refine Below.drew ?_) | (with_reducible refine below_drewN ?_ _) | (with_reducible refine Below.setCell ?_ ?_ _) | (with_reducible refine Below.trans ?_ (Below.mono (by with_reducible assumption) ?_)) | omega | (simp only [World.size_alloc, World.size_setCell, World.size_drew, size_drewN']; omega) | go_size)) : Below wr.heap.size wr w8).mono hzs))
                      go_wp2
                      go_roundw
                      case rel =>
                        refine ⟨s + 1, by omega, by go_num, fun j hj => ?_, HB8.out⟩
                        by_cases e : j = s
                        · rw [e]; exact HOKs.out
                        · exact HAll.out j (by omega)
                      case measure => simp [intOf]; omega
                    · obtain ⟨z, hz⟩ : ∃ z, z = sgnQ (TL s c.nm - FL s c.nm) := ⟨_, rfl⟩
                      have ez : (z != 0) = true := by rw [hz]; exact sgn_ne hX0
                      rw [← hz] at KC
                      have HNO := Lib.hid (HN.out s hlt (fun h => hX0 (((HOK.out s).1 h).1 hLS)))
                      clear hX0 hz
                      (go_wp2_with fail; (with_reducible refine (KC.out _ (by (skip); repeat' (first | (with_reducible exact Below.refl _ _) | (with_reducible assumption) | (with_reducible refine Below.alloc ?_ ?_ _) | (with_reducible refine Below.drew ?_) | (with_reducible refine below_drewN ?_ _) | (with_reducible refine Below.setCell ?_ ?_ _) | (with_reducible refine Below.trans ?_ (Below.mono (by with_reducible assumption) ?_)) | omega | (simp only [World.size_alloc, World.size_setCell, World.size_drew, size_drewN']; omega) | go_size))).mono ?_); rintro e w8 ⟨rfl, hb8⟩; have hb8z := Below.size hb8; (try simp only [World.size_alloc, World.size_setCell, World.size_drew, size_drewN'] at hb8z))
                      have hB8 : Below w.heap.size w w8 := HW9.out.trans (((by have z0 := Below.size hb8; (try simp only [World.size_alloc, World.size_setCell, World.size_drew, size_drewN'] at z0 ⊢; skip); repeat' (first | (with_reducible exact Below.refl _ _) | (with_reducible assumption) | (with_reducible refine Below.alloc ?_ ?_ _) | (with_reducible refine Below.drew ?_) | (with_reducible refine below_drewN ?_ _) | (with_reducible refine Below.setCell ?_ ?_ _) | (with_reducible refine Below.trans ?_ (Below.mono (by with_reducible assumption) ?_)) | omega | (simp only [World.size_alloc, World.size_setCell, World.size_drew, size_drewN']; omega) | go_size)) : Below wr.heap.size wr w8).mono (by have := HW9.out.size; omega))
                      go_wp2
                      go_ret2
                      exact ⟨by rw [HNO.out, HX00.out]; rfl, hB8⟩
            · have hkn : s = c.nd := by omega
              subst hkn
              have HT := Lib.hid (HYY.out (fun j hj => (HOK.out j).2 (HAll.out j hj)))
              go_wp2
              go_ret2
              exact ⟨by rw [HT.out, HX00.out]; rfl, hbW⟩
    · have HX := Lib.hid (Chn.codeX_n (R := R) h0 hnn)
      have e1 : ((n : Int) != c.st) = true := by rw [hst]; simp; omega
      rw [h0] at K1
      clear h hS hv hz hfz ok hst hs
      go_enter Tryz.func22, Tryz.ntmps22
      (go_wp2_with fail; (with_reducible refine (K1.out _ (by (skip); repeat' (first | (with_reducible exact Below.refl _ _) | (with_reducible assumption) | (with_reducible refine Below.alloc ?_ ?_ _) | (with_reducible refine Below.drew ?_) | (with_reducible refine below_drewN ?_ _) | (with_reducible refine Below.setCell ?_ ?_ _) | (with_reducible refine Below.trans ?_ (Below.mono (by with_reducible assumption) ?_)) | omega | (simp only [World.size_alloc, World.size_setCell, World.size_drew, size_drewN']; omega) | go_size))).mono ?_); rintro e w1 ⟨rfl, hb1⟩; have hb1z := Below.size hb1; (try simp only [World.size_alloc, World.size_setCell, World.size_drew, size_drewN'] at hb1z); have hb1c0 := fun o => below_at hb1 (w.heap.size) o (by first | omega | (simp only [World.size_alloc, World.size_setCell, World.size_drew, size_drewN']; omega)); have hb1f0 := fun o => below_fr hb1 (w.heap.size) o (by first | omega | (simp only [World.size_alloc, World.size_setCell, World.size_drew, size_drewN']; omega)))
      have hB1 := HPB.out w1 (by rw [← hW0z]; exact hb1)
      go_wp2
      go_ret2
      exact ⟨by rw [HX.out.1, HX.out.2]; rfl, hB1⟩
  · have HX := Lib.hid (Chn.codeX_a (n := n) (R := R) h0)
    obtain ⟨ct, hct⟩ : ∃ ct, ct = c.codeA := ⟨_, rfl⟩
    rw [← hct] at K1 h0
    have HCT := Lib.hid hct
    have e1 : (ct != 0) = true := by simpa using h0
    clear h hS hv hz hfz hs hct
    go_enter Tryz.func22, Tryz.ntmps22
    (go_wp2_with fail; (with_reducible refine (K1.out _ (by (skip); repeat' (first | (with_reducible exact Below.refl _ _) | (with_reducible assumption) | (with_reducible refine Below.alloc ?_ ?_ _) | (with_reducible refine Below.drew ?_) | (with_reducible refine below_drewN ?_ _) | (with_reducible refine Below.setCell ?_ ?_ _) | (with_reducible refine Below.trans ?_ (Below.mono (by with_reducible assumption) ?_)) | omega | (simp only [World.size_alloc, World.size_setCell, World.size_drew, size_drewN']; omega) | go_size))).mono ?_); rintro e w1 ⟨rfl, hb1⟩; have hb1z := Below.size hb1; (try simp only [World.size_alloc, World.size_setCell, World.size_drew, size_drewN'] at hb1z); have hb1c0 := fun o => below_at hb1 (w.heap.size) o (by first | omega | (simp only [World.size_alloc, World.size_setCell, World.size_drew, size_drewN']; omega)); have hb1f0 := fun o => below_fr hb1 (w.heap.size) o (by first | omega | (simp only [World.size_alloc, World.size_setCell, World.size_drew, size_drewN']; omega)))
    have hB1 := HPB.out w1 (by rw [← hW0z]; exact hb1)
    go_wp2
    go_ret2
    exact ⟨by rw [HX.out.1, HX.out.2, ← HCT.out]; rfl, hB1⟩
end Go.Proofs.YtomkdgcpmpbfhaaGreatDoor
