/- Contracts of functions and lemmas, used by the proofs of the given statements. No condition beyond those that each lemma names. -/
import Derived.Test.YtnljncncnohncaaDoorJLawF
import Derived.Test.YtnljncncnohncaaDoorLawC
namespace Go.Proofs.YtnljncncnohncaaDoor
open Go.RowKit
set_option linter.unusedSimpArgs false
set_option linter.unusedVariables false
set_option maxRecDepth 20000
attribute [local irreducible] nv wp win plainB validR valR canR
/-! ## LinearMaps -/
theorem large2 {w W : World} {g n n' cm : Nat} {A A' : Option Addr} {ca ca' : Nat} {len len' : Nat → Nat} {R R' : Nat → Nat → Rw} (h : MatI w w.heap.size A n len R) (h' : MatI w w.heap.size A' n' len' R') (hb : Below w.heap.size w W) (hc : W.cell? ⟨g, 0, none⟩ = some (.slice A n ca)) (hc' : W.cell? ⟨g, 1, none⟩ = some (.slice A' n' ca')) :
    Calls Tryd.prog 12 #[.slice (some ⟨g, 0, none⟩) 2 cm] W fun e w' => (∃ b : Bool, e = .returned (.bool b) ∧ (b = false → SmallM n len R ∧ SmallM n' len' R')) ∧ Below W.heap.size W w' :=
  (large_any (b0 := w.heap.size) (n := fun t => if t = 0 then n else n') (len := fun t => if t = 0 then len else len') (R := fun t => if t = 0 then R else R') (fun t ht => by
    rcases (by omega : t = 0 ∨ t = 1) with rfl | rfl
    · exact ⟨A, ca, hc, h.kp (Kp.of_below hb)⟩
    · exact ⟨A', ca', hc', h'.kp (Kp.of_below hb)⟩) (by omega)).mono fun e w' ⟨⟨b, e1, e2⟩, hb'⟩ => ⟨⟨b, e1, fun h => ⟨e2 h 0 (by omega), e2 h 1 (by omega)⟩⟩, hb'⟩
/-- Same, at two vectors of one's own that count as the same numbers -/
theorem same_vec {w W : World} {b b' n d d' g g' L : Nat} {A B : Option Addr} {f : Nat → Rat} (h : OwR w b A d n (can f)) (h' : OwR w b' B d' n (can f)) (hb1 : b ≤ w.heap.size) (hb2 : b' ≤ w.heap.size) (hb : Below w.heap.size w W) (hc : W.cell? ⟨g, 0, none⟩ = some (.slice A n d)) (hc' : W.cell? ⟨g', 0, none⟩ = some (.slice B n d'))
    (hg : g < W.heap.size) (hg' : g' < W.heap.size) (hn : n ≤ 1000) (hs : ∀ i, i < n → Sz L (f i)) (hL : 1 ≤ L) (hL2 : L ≤ 1000000000) :
    Calls Tryd.prog 17 #[.slice (some ⟨g, 0, none⟩) 1 1, .slice (some ⟨g', 0, none⟩) 1 1] W fun e w' => e = .returned (.bool true) ∧ Below W.heap.size W w' :=
  same_any (M := fun _ => f) (len := fun _ => n) (L := L) (MatI.one hc h.cap hg ((h.ri hb1).at_below hb)) (MatI.one hc' h'.cap hg' ((h'.ri hb2).at_below hb)) (by omega) (fun _ _ => hn) (fun i k _ hk => hs k hk) hL hL2
theorem same_mat {w W : World} {b b' n d d' L : Nat} {A B : Option Addr} {len : Nat → Nat} {M : Mf} (h : MatO w b A d n len M) (h' : MatO w b' B d' n len M) (hb1 : b ≤ w.heap.size) (hb2 : b' ≤ w.heap.size) (hb : Below w.heap.size w W) (hn : n ≤ 1000) (hl : ∀ i, i < n → len i ≤ 1000) (hs : ∀ i k, i < n → k < len i → Sz L (M i k)) (hL : 1 ≤ L) (hL2 : L ≤ 1000000000) :
    Calls Tryd.prog 17 #[.slice A n d, .slice B n d'] W fun e w' => e = .returned (.bool true) ∧ Below W.heap.size W w' :=
  same_any (L := L) ((h.mi hb1).at_below hb) ((h'.mi hb2).at_below hb) hn hl hs hL hL2
theorem MatI.sz {w : World} {b0 n m : Nat} {A : Option Addr} {len : Nat → Nat} {R : Nat → Nat → Rw} (h : MatI w b0 A n len R) (hs : SmallM n len R) {i k : Nat} (hi : i < n) (hk : k < len i) : Sz 3 (valR (R i k)) :=
  Sz_valR (h.ok hi hk) (by omega) ((hs.2 i hi).2 k hk).1 ((hs.2 i hi).2 k hk).2
theorem RowI.sz {w : World} {b0 m : Nat} {A : Option Addr} {R : Nat → Rw} (h : RowI w b0 A m R) (hs : SmallR m R) {k : Nat} (hk : k < m) : Sz 3 (valR (R k)) :=
  Sz_valR (h.ra.ok hk) (by omega) (hs.2 k hk).1 (hs.2 k hk).2
theorem outN_le {c : Int} {n : Nat} : outN c n ≤ n := by unfold outN; split <;> omega
theorem outN_pos {c : Int} {n i : Nat} (h : i < outN c n) : c = 0 ∧ i < n := by
  unfold outN at h
  split at h
  · exact ⟨by assumption, h⟩
  · omega
theorem codeA_0 {n m : Nat} {len : Nat → Nat} (h : codeA n m len = 0) : codeM n len = 0 ∧ m = len 0 := by
  unfold codeA at h
  split at h
  · refine ⟨by assumption, ?_⟩
    split at h
    · assumption
    · omega
  · contradiction
theorem codeB_0 {n m : Nat} {len len' : Nat → Nat} (h : codeB n m len len' = 0) : codeM n len = 0 ∧ codeM m len' = 0 ∧ m = len 0 := by
  unfold codeB at h
  split at h
  · split at h
    · refine ⟨by assumption, by assumption, ?_⟩
      split at h
      · assumption
      · omega
    · contradiction
  · contradiction
section
variable {w : World} {n m ca cb : Nat} {A B : Option Addr} {len len' : Nat → Nat} {R R' : Nat → Nat → Rw} {Rx : Nat → Rw} {c : Int} {f : Nat → Rat} {F : Mf} {p : Nat}
theorem apply_E (hc : c = codeA n m len) (hf : f = fun i => dotS (fun k => valR (R i k)) (fun k => valR (Rx k)) (len 0)) (h : MatI w w.heap.size A n len R) (hB : RowI w w.heap.size B m Rx) (hs : SmallM n len R) (hv : SmallR m Rx) :
    Calls Tryd.prog 34 #[.slice A n ca, .slice B m cb] w fun e w' => RetAe w.heap.size n c f (errM c) e w' ∧ Below w.heap.size w w' := by
  subst hc hf; exact apply_all h hB hs hv
theorem rapply_E (hc : c = codeA n m len) (hf : f = fun i => dotS (fun k => valR (R i k)) (fun k => valR (Rx k)) (len 0)) (h : MatI w w.heap.size A n len R) (hB : RowI w w.heap.size B m Rx) (hs : SmallM n len R) (hv : SmallR m Rx) :
    Calls Tryd.prog 35 #[.slice A n ca, .slice B m cb] w fun e w' => RetAe w.heap.size n c f (.int .i64 c) e w' ∧ Below w.heap.size w w' := by
  subst hc hf; exact rapply_all h hB hs hv
theorem mul_E (hc : c = codeB n m len len') (hF : F = mulF (fun i k => valR (R i k)) (fun i k => valR (R' i k)) m) (hp : p = len' 0) (h : MatI w w.heap.size A n len R) (h' : MatI w w.heap.size B m len' R') (hs : SmallM n len R) (hs' : SmallM m len' R') :
    Calls Tryd.prog 29 #[.slice A n ca, .slice B m cb] w fun e w' => RetMe w.heap.size n p c F (errM c) e w' ∧ Below w.heap.size w w' := by
  subst hc hF hp; exact mul_all h h' hs hs'
theorem rmul_E (hc : c = codeB n m len len') (hF : F = mulF (fun i k => valR (R i k)) (fun i k => valR (R' i k)) m) (hp : p = len' 0) (h : MatI w w.heap.size A n len R) (h' : MatI w w.heap.size B m len' R') (hs : SmallM n len R) (hs' : SmallM m len' R') :
    Calls Tryd.prog 36 #[.slice A n ca, .slice B m cb] w fun e w' => RetMe w.heap.size n p c F (.int .i64 c) e w' ∧ Below w.heap.size w w' := by
  subst hc hF hp; exact rmul_all h h' hs hs'
end
set_option maxHeartbeats 8000000 in
theorem linearMaps_law {w : World} {n ca n' ca' m cb : Nat} {A A' B : Option Addr} {len len' : Nat → Nat} {R R' : Nat → Nat → Rw} {Rx : Nat → Rw} (h : MatI w w.heap.size A n len R) (h' : MatI w w.heap.size A' n' len' R') (hB : RowI w w.heap.size B m Rx) (hcb : m ≤ cb) :
    Calls Tryd.prog 7 #[.slice A n ca, .slice A' n' ca', .slice B m cb] w fun e w' => e = .returned (.bool true) ∧ Below w.heap.size w w' := by
  have KL := Lib.hid (fun (W : World) (g : Nat) (hb : Below w.heap.size w W) (hc : W.cell? ⟨g, 0, none⟩ = some (.slice A n ca)) (hc' : W.cell? ⟨g, 1, none⟩ = some (.slice A' n' ca')) => large2 (cm := 2) h h' hb hc hc')
  have KV := Lib.hid (fun (W : World) (hb : Below w.heap.size w W) => vector_any (hB.kp (Kp.of_below hb)) hb.size hcb)
  have HA := Lib.hid h
  have HA' := Lib.hid h'
  have HB := Lib.hid hB
  clear h h' hB
  go_enter Tryd.func7, Tryd.ntmps7
  go_wp2_with (first | (go_at_call 11; (with_reducible refine (awake_any _).mono ?_); rintro e w1 ⟨rfl, hb1⟩; have hb1z := Below.size hb1; (try simp only [World.size_alloc, World.size_setCell, World.size_drew] at hb1z)) | fail)
  have hw1 : Below w.heap.size w (w1.alloc (.cells #[.slice A n ca, .slice A' n' ca'] 22)) := hb1.alloc hb1.size _
  ((go_at_call 12; (with_reducible refine (KL.out _ _ hw1 (cell_new' rfl rfl) (cell_new' rfl rfl)).mono ?_); rintro e w2 ⟨⟨bb, rfl, hbb⟩, hb2⟩; have hb2z := Below.size hb2; (try simp only [World.size_alloc, World.size_setCell, World.size_drew] at hb2z)))
  have hb12 : Below w.heap.size w w2 := hw1.trans (hb2.mono (by simp; omega))
  clear hw1 KL
  cases bb with
  | true =>
    clear hbb
    go_wp2_with (first | (go_at_call 11; (with_reducible refine (awake_any _).mono ?_); rintro e w3 ⟨rfl, hb3⟩; have hb3z := Below.size hb3; (try simp only [World.size_alloc, World.size_setCell, World.size_drew] at hb3z)) | fail)
    have hb13 := hb12.trans (hb3.mono hb12.size)
    go_ret
    exact ⟨rfl, hb13⟩
  | false =>
    have HS := Lib.hid (hbb rfl)
    clear hbb
    go_wp2_with fail
    ((go_at_call 13; (with_reducible refine (KV.out _ hb12).mono ?_); rintro e w3 ⟨⟨bv, rfl, hbv⟩, hb3⟩; have hb3z := Below.size hb3; (try simp only [World.size_alloc, World.size_setCell, World.size_drew] at hb3z)))
    have hb13 := hb12.trans (hb3.mono hb12.size)
    clear KV
    cases bv with
    | false =>
      clear hbv
      go_wp2_with (first | (go_at_call 11; (with_reducible refine (awake_any _).mono ?_); rintro e w4 ⟨rfl, hb4⟩; have hb4z := Below.size hb4; (try simp only [World.size_alloc, World.size_setCell, World.size_drew] at hb4z)) | fail)
      have hb14 := hb13.trans (hb4.mono hb13.size)
      go_ret
      exact ⟨rfl, hb14⟩
    | true =>
      have HV := Lib.hid (hbv rfl)
      clear hbv
      obtain ⟨c, hc⟩ : ∃ c, c = codeA n m len := ⟨_, rfl⟩
      obtain ⟨c', hc'⟩ : ∃ c', c' = codeB n n' len len' := ⟨_, rfl⟩
      obtain ⟨f, hf⟩ : ∃ f : Nat → Rat, f = fun i => dotS (fun k => valR (R i k)) (fun k => valR (Rx k)) (len 0) := ⟨_, rfl⟩
      obtain ⟨F, hF⟩ : ∃ F : Mf, F = mulF (fun i k => valR (R i k)) (fun i k => valR (R' i k)) n' := ⟨_, rfl⟩
      obtain ⟨p, hp⟩ : ∃ p, p = len' 0 := ⟨_, rfl⟩
      have K1 := Lib.hid (fun W (hb : Below w.heap.size w W) => apply_E (ca := ca) (cb := cb) hc hf (HA.out.at_below hb) (HB.out.at_below hb) HS.out.1 HV.out)
      have K2 := Lib.hid (fun W (hb : Below w.heap.size w W) => rapply_E (ca := ca) (cb := cb) hc hf (HA.out.at_below hb) (HB.out.at_below hb) HS.out.1 HV.out)
      have K3 := Lib.hid (fun W (hb : Below w.heap.size w W) => mul_E (ca := ca) (cb := ca') hc' hF hp (HA.out.at_below hb) (HA'.out.at_below hb) HS.out.1 HS.out.2)
      have K4 := Lib.hid (fun W (hb : Below w.heap.size w W) => rmul_E (ca := ca) (cb := ca') hc' hF hp (HA.out.at_below hb) (HA'.out.at_below hb) HS.out.1 HS.out.2)
      have Z1 : Hid (outN c n ≤ 1000 ∧ outN c' n ≤ 1000) := ⟨Nat.le_trans outN_le HS.out.1.le.1, Nat.le_trans outN_le HS.out.1.le.1⟩
      have Z2 : Hid (∀ i, i < outN c n → Sz 100 (f i)) := fun i hi => by
        obtain ⟨h0, hi⟩ := outN_pos hi
        obtain ⟨h1, h2⟩ := codeA_0 (hc ▸ h0)
        obtain ⟨g1, g2, g3, g4, g5, g6⟩ := HS.out.1.acc h1
        rw [hf]
        exact (dotS_sz (L := 3) (m := len 0) (by omega) (fun k hk => HA.out.sz (m := 0) HS.out.1 hi (by rw [g5 i hi]; exact hk)) (fun k hk => HB.out.sz HV.out (by omega)) _ (Nat.le_refl _)).more (by omega)
      have Z3 : Hid (∀ i, i < outN c' n → p ≤ 1000) := fun i hi => by
        obtain ⟨h0, hi⟩ := outN_pos hi
        obtain ⟨h1, h2, h3⟩ := codeB_0 (hc' ▸ h0)
        have := (HS.out.2.acc h2).2.1
        omega
      have Z4 : Hid (∀ i k, i < outN c' n → k < p → Sz 100 (F i k)) := fun i k hi hk => by
        obtain ⟨h0, hi⟩ := outN_pos hi
        obtain ⟨h1, h2, h3⟩ := codeB_0 (hc' ▸ h0)
        obtain ⟨g1, g2, g3, g4, g5, g6⟩ := HS.out.1.acc h1
        obtain ⟨e1, e2, e3, e4, e5, e6⟩ := HS.out.2.acc h2
        rw [hF]
        exact (dotS_sz (L := 3) (m := n') (by omega) (fun t ht => HA.out.sz (m := 0) HS.out.1 hi (by rw [g5 i hi]; omega)) (fun t ht => HA'.out.sz (m := 0) HS.out.2 ht (by rw [e5 t ht]; omega)) _ (Nat.le_refl _)).more (by omega)
      clear hc hc' hf hF hp HA HA' HB HS HV
      go_wp2_with fail
      ((go_at_call 34; (with_reducible refine (K1.out _ hb13).mono ?_); rintro e w4 ⟨⟨A4, d4, rfl, own4⟩, hb4⟩; have hb4z := Below.size hb4; (try simp only [World.size_alloc, World.size_setCell, World.size_drew] at hb4z)))
      have hb14 := hb13.trans (hb4.mono hb13.size)
      clear K1
      go_wp2_with fail
      ((go_at_call 35; (with_reducible refine (K2.out _ hb14).mono ?_); rintro e w5 ⟨⟨A5, d5, rfl, own5⟩, hb5⟩; have hb5z := Below.size hb5; (try simp only [World.size_alloc, World.size_setCell, World.size_drew] at hb5z)))
      have hb15 := hb14.trans (hb5.mono hb14.size)
      clear K2
      go_wp2_with fail
      ((go_at_call 29; (with_reducible refine (K3.out _ hb15).mono ?_); rintro e w6 ⟨⟨A6, d6, rfl, own6⟩, hb6⟩; have hb6z := Below.size hb6; (try simp only [World.size_alloc, World.size_setCell, World.size_drew] at hb6z)))
      have hb16 := hb15.trans (hb6.mono hb15.size)
      clear K3
      go_wp2_with fail
      ((go_at_call 36; (with_reducible refine (K4.out _ hb16).mono ?_); rintro e w7 ⟨⟨A7, d7, rfl, own7⟩, hb7⟩; have hb7z := Below.size hb7; (try simp only [World.size_alloc, World.size_setCell, World.size_drew] at hb7z)))
      have hb17 := hb16.trans (hb7.mono hb16.size)
      clear K4
      have X4 := ((own4.below hb5).below hb6).below hb7
      have X5 := (own5.below hb6).below hb7
      have X6 := own6.below hb7
      have KS1 := Lib.hid (fun W (hb : Below w7.heap.size w7 W) g g' hg hg' hc hc' => same_vec (W := W) (g := g) (g' := g') X4 X5 (by omega) (by omega) hb hc hc' hg hg' Z1.out.1 Z2.out (by omega) (by omega))
      have KS2 := Lib.hid (fun W (hb : Below w7.heap.size w7 W) => same_mat (W := W) X6 own7 (by omega) (by omega) hb Z1.out.2 Z3.out Z4.out (by omega) (by omega))
      clear own4 own5 own6 own7 X4 X5 X6 Z1 Z2 Z3 Z4
      go_wp2_with (first | (go_at_call 16; (with_reducible refine (num_e _ _).mono ?_); rintro e _ ⟨rfl, rfl⟩) | (go_at_call 17; (with_reducible refine (KS1.out _ (((Below.refl _ _).alloc (Nat.le_refl _) _).alloc (by simp) _) w7.heap.size (w7.heap.size + 1) (by simp; omega) (by simp) (Lib.cell?_alloc_some _ (cell_new' rfl rfl)) (cell_new' (by simp) rfl)).mono ?_); rintro e w8 ⟨rfl, hb8⟩; have hb8z := Below.size hb8; (try simp only [World.size_alloc, World.size_setCell, World.size_drew] at hb8z)) | (go_at_call 17; (with_reducible refine (KS2.out _ (by have z0 := Below.size hb8; (try simp only [World.size_alloc, World.size_setCell, World.size_drew, size_drewN'] at z0 ⊢; skip); repeat' (first | (with_reducible exact Below.refl _ _) | (with_reducible assumption) | (with_reducible refine Below.alloc ?_ ?_ _) | (with_reducible refine Below.drew ?_) | (with_reducible refine below_drewN ?_ _) | (with_reducible refine Below.setCell ?_ ?_ _) | (with_reducible refine Below.trans ?_ (Below.mono (by with_reducible assumption) ?_)) | omega | (simp only [World.size_alloc, World.size_setCell, World.size_drew, size_drewN']; omega) | go_size))).mono ?_); rintro e w9 ⟨rfl, hb9⟩; have hb9z := Below.size hb9; (try simp only [World.size_alloc, World.size_setCell, World.size_drew] at hb9z)) | fail)
      have hb18 : Below w.heap.size w w9 := hb17.trans (show Below w.heap.size w7 w9 from (by have z0 := Below.size hb8; have z1 := Below.size hb9; (try simp only [World.size_alloc, World.size_setCell, World.size_drew, size_drewN'] at z0 z1 ⊢; skip); repeat' (first | (with_reducible exact Below.refl _ _) | (with_reducible assumption) | (with_reducible refine Below.alloc ?_ ?_ _) | (with_reducible refine Below.drew ?_) | (with_reducible refine below_drewN ?_ _) | (with_reducible refine Below.setCell ?_ ?_ _) | (with_reducible refine Below.trans ?_ (Below.mono (by with_reducible assumption) ?_)) | omega | (simp only [World.size_alloc, World.size_setCell, World.size_drew, size_drewN']; omega) | go_size)))
      go_ret
      exact ⟨rfl, hb18⟩
end Go.Proofs.YtnljncncnohncaaDoor
