/- Contracts of functions and lemmas, used by the proofs of the given statements. No condition beyond those that each lemma names. -/
import Derived.Test.YtedopalmfakeaaaPrW9
namespace Go.Proofs.Ytedopalmfakeaaa
open Go.RowKit Go.Sort
set_option linter.unusedSimpArgs false
set_option linter.unusedVariables false
set_option maxRecDepth 20000
/-! ## package prime: Essential -/
/-- the first k of the list that are essential -/
def essK (l : List Cn) (k : Nat) : List Cn := ((List.range k).filter fun i => !covB (l.eraseIdx i) (atN l i)).map (atN l)
theorem essK_succ (l : List Cn) (k : Nat) : essK l (k + 1) = essK l k ++ (if covB (l.eraseIdx k) (atN l k) then [] else [atN l k]) := by
  unfold essK
  rw [List.range_succ, List.filter_append, List.map_append]
  cases h : covB (l.eraseIdx k) (atN l k) <;> simp [h]
theorem essK_len (l : List Cn) (k : Nat) : (essK l k).length ≤ k := by
  unfold essK
  rw [List.length_map]
  exact Nat.le_trans (List.length_filter_le _ _) (by simp)
section
variable {w : World} {A : Option Addr} {c : Nat} {f : FrR}
set_option maxHeartbeats 8000000 in
theorem Essential_ok {v : Nat} (h : FrI w A f) (ok : FrOk f) (hv : f.vars = v) (h7 : popc (supF f.fr) ≤ 12) :
    Calls Try.prog 58 #[fv (v : Int) A f.nn c f.top] w fun e w' => (∃ s, PrmS (supF f.fr) f.fr.val s ∧ ((1024 < s.length ∧ e = .returned (.tuple #[.slice none 0 0, .iface 58 (.int .i64 4)])) ∨ (s.length ≤ 1024 ∧ ∃ A c, e = .returned (.tuple #[.slice A (essN s).length c, .nilIface]) ∧ OwC w' w.heap.size A c ((essN s).map zc)))) ∧ Below w.heap.size w w' := by
  have hS : supF f.fr < 16777216 := (supF_lt ok hv).2
  have K1 := Lib.hid (fun W (hW : Below w.heap.size w W) => counted_ok (c := c) (h.below hW) ok hv h7)
  have HE := Lib.hid (evL_evs hS)
  have hn12 : (evL (supF f.fr) 24).length ≤ 12 := by rw [evL_pop]; exact h7
  generalize (evL (supF f.fr) 24).length = n at *
  generalize evF (supF f.fr) = ev at *
  generalize supF f.fr = S at *
  generalize f.fr.val = V at *
  generalize f.nn = nn at *
  generalize f.top = tp at *
  clear ok hv h h7
  go_enter Try.func58, Try.ntmps58
  go_wp2_with fail
  refine (K1.out _ (by (skip); repeat' (first | (with_reducible exact Below.refl _ _) | (with_reducible assumption) | (with_reducible refine Below.alloc ?_ ?_ _) | (with_reducible refine Below.drew ?_) | (with_reducible refine below_drewN ?_ _) | (with_reducible refine Below.setCell ?_ ?_ _) | (with_reducible refine Below.trans ?_ (Below.mono (by with_reducible assumption) ?_)) | omega | (simp only [World.size_alloc, World.size_setCell, World.size_drew, size_drewN']; omega) | go_size))).mono ?_
  rintro e w1 ⟨⟨s, hs, ⟨h1, rfl⟩ | ⟨h1, p, A2, c2, g, M, f0, hM, rfl, hC, hF0⟩⟩, hb1⟩
  · have hbz := hb1.size
    simp only [World.size_alloc] at hbz
    have HS := Lib.hid hs
    have HL := Lib.hid h1
    clear hs h1
    go_wp2_with fail
    go_returns
    exact ⟨⟨s, HS.out, .inl ⟨HL.out, rfl⟩⟩, (by have z0 := Below.size hb1; (try simp only [World.size_alloc, World.size_setCell, World.size_drew, size_drewN'] at z0 ⊢; skip); repeat' (first | (with_reducible exact Below.refl _ _) | (with_reducible assumption) | (with_reducible refine Below.alloc ?_ ?_ _) | (with_reducible refine Below.drew ?_) | (with_reducible refine below_drewN ?_ _) | (with_reducible refine Below.setCell ?_ ?_ _) | (with_reducible refine Below.trans ?_ (Below.mono (by with_reducible assumption) ?_)) | omega | (simp only [World.size_alloc, World.size_setCell, World.size_drew, size_drewN']; omega) | go_size))⟩
  · have hbz := hb1.size
    simp only [World.size_alloc] at hbz
    have HS := Lib.hid hs
    have HC := Lib.hid hC
    have HF0 := Lib.hid hF0
    have HM := Lib.hid hM.symm
    clear hs hC hF0 hM
    go_wp2_with fail
    obtain ⟨Bt, Bi, hB0, hBti, hBi, hTab, ownC, hAl, ownF, hBg⟩ := HC.out
    rw [HM.out] at ownF
    simp only [World.size_alloc] at hB0
    have hM0 : 0 < M := by have := Nat.two_pow_pos n; rw [HM.out] at this; exact this
    have hgl := ownF.form0 hM0
    have x5 : (w1.alloc (.cells #[.slice (some ⟨g, 0, none⟩) M M] 71)).cell? ⟨w1.heap.size, 0, none⟩ = some (.slice (some ⟨g, 0, none⟩) M M) := by simp [go_sem]
    have hbe : Below w1.heap.size w1 (w1.alloc (.cells #[.slice (some ⟨g, 0, none⟩) M M] 71)) := (Below.refl _ _).alloc (Nat.le_refl _) _
    have ownF5 := ownF.below hbe
    have rds5 := (ownC.below hbe).rd
    have HTab : Hid (∀ W, Below Bt (w1.alloc (.cells #[.slice (some ⟨g, 0, none⟩) M M] 71)) W → TabI W p n ev (fun t => V (widN n ev t))) := fun W hW => hTab W ((hbe.mono (by omega)).trans hW)
    have hbF : Below w.heap.size w (w1.alloc (.cells #[.slice (some ⟨g, 0, none⟩) M M] 71)) := (by have z0 := Below.size hb1; (try simp only [World.size_alloc, World.size_setCell, World.size_drew, size_drewN'] at z0 ⊢; skip); repeat' (first | (with_reducible exact Below.refl _ _) | (with_reducible assumption) | (with_reducible refine Below.alloc ?_ ?_ _) | (with_reducible refine Below.drew ?_) | (with_reducible refine below_drewN ?_ _) | (with_reducible refine Below.setCell ?_ ?_ _) | (with_reducible refine Below.trans ?_ (Below.mono (by with_reducible assumption) ?_)) | omega | (simp only [World.size_alloc, World.size_setCell, World.size_drew, size_drewN']; omega) | go_size))
    have hok : ∀ d, d ∈ s → okN d ∧ inS S d := fun d hd => HS.out.ok hd
    have HOK := Lib.hid hok
    obtain ⟨w5, hw5⟩ : ∃ w5, w5 = w1.alloc (.cells #[.slice (some ⟨g, 0, none⟩) M M] 71) := ⟨_, rfl⟩
    rw [← hw5] at x5 ownF5 rds5 HTab hbF ⊢
    have hz5 : w1.heap.size < w5.heap.size := lt_of_cell x5
    clear hw5 hbe ownF ownC hTab hAl hb1 HC hok
    generalize w1.heap.size = x at *
    clear w1
    go_loopw [8, 23] (fun o i wr => ∃ (k : Nat) (A' : Option Addr) (c' : Nat), k ≤ s.length ∧ o = .slice A' (essK s k).length c' ∧ i = .int .i64 k ∧ OwC wr w5.heap.size A' c' ((essK s k).map zc) ∧ Below w5.heap.size w5 wr) (fun _ i _ => s.length - (intOf i).toNat)
    case atStart => exact ⟨0, none, 0, Nat.zero_le _, rfl, rfl, OwC.nil_ _ _, Below.refl _ _⟩
    case round =>
      obtain ⟨k, A', c', hk, rfl, rfl, own, hb⟩ := hrel
      have hlen := essK_len s k
      obtain ⟨wo, rfl⟩ : ∃ wo : World, wo = wr := ⟨_, rfl⟩
      have hbz2 := hb.size
      have hbW : Below w.heap.size w wo := hbF.trans (hb.mono (by omega))
      by_cases hlt : k < s.length
      · obtain ⟨b, off, rfl, hbb, y1, y2⟩ := (rds5.below hb).at_ (k := k) (c := zc (atN s k)) (by simp [atN_lt hlt, hlt])
        have hd := HOK.out _ (atN_mem hlt)
        have hcd := hd.1
        have HCV := Lib.hid (cov_rows HE.out HOK.out hlt (f := f0) (fun r hr => HF0.out r (by rw [← HM.out]; exact hr)))
        have HES := Lib.hid (essK_succ s k)
        generalize hcd' : atN s k = cd at *
        clear hcd'
        obtain ⟨d1, d2⟩ := cd
        have KM := Lib.hid (fun W (hW : Below wo.heap.size wo W) => rows_more (w := W) (B := Bi) (f := f0) 96 (HTab.out W ((hb.mono (by omega)).trans (hW.mono (by omega)))) hn12 HE.out.lt hcd ((below_at (hb.trans (hW.mono (by omega))) x 0 hz5).trans x5) (ownF5.below (hb.trans (hW.mono (by omega)))) HM.out (fun _ _ => rfl) (fun W r v h1 h2 h3 => ess1_any h1 h2 h3))
        clear hd hcd
        go_wp2_with fail
        refine (KM.out _ (by (skip); repeat' (first | (with_reducible exact Below.refl _ _) | (with_reducible assumption) | (with_reducible refine Below.alloc ?_ ?_ _) | (with_reducible refine Below.drew ?_) | (with_reducible refine below_drewN ?_ _) | (with_reducible refine Below.setCell ?_ ?_ _) | (with_reducible refine Below.trans ?_ (Below.mono (by with_reducible assumption) ?_)) | omega | (simp only [World.size_alloc, World.size_setCell, World.size_drew, size_drewN']; omega) | go_size))).mono ?_
        rintro e w7 ⟨⟨bv, rfl, hbv⟩, hb7⟩
        have hb7z := hb7.size
        simp only [World.size_alloc] at hb7z
        have hb7o : Below wo.heap.size wo w7 := (by have z0 := Below.size hb7; (try simp only [World.size_alloc, World.size_setCell, World.size_drew, size_drewN'] at z0 ⊢; skip); repeat' (first | (with_reducible exact Below.refl _ _) | (with_reducible assumption) | (with_reducible refine Below.alloc ?_ ?_ _) | (with_reducible refine Below.drew ?_) | (with_reducible refine below_drewN ?_ _) | (with_reducible refine Below.setCell ?_ ?_ _) | (with_reducible refine Below.trans ?_ (Below.mono (by with_reducible assumption) ?_)) | omega | (simp only [World.size_alloc, World.size_setCell, World.size_drew, size_drewN']; omega) | go_size))
        have e8 : Hid (bv = covB (s.eraseIdx k) (d1, d2)) := by
          show _ = _
          rw [Bool.eq_iff_iff, hbv, HCV.out]
        have z1 := (below_at hb7 wo.heap.size 0 (by simp)).trans (show (wo.alloc (.cells #[.int .i64 (d1 : Int), .int .i64 (d2 : Int)] 23)).cell? ⟨wo.heap.size, 0, none⟩ = some (.int .i64 (d1 : Int)) by simp [go_sem])
        have z2 := (below_at hb7 wo.heap.size 1 (by simp)).trans (show (wo.alloc (.cells #[.int .i64 (d1 : Int), .int .i64 (d2 : Int)] 23)).cell? ⟨wo.heap.size, 1, none⟩ = some (.int .i64 (d2 : Int)) by simp [go_sem])
        have own7 := own.below hb7o
        clear hbv HCV own KM
        cases bv
        · have HE2 : Hid (essK s (k + 1) = essK s k ++ [(d1, d2)]) := by
            show _ = _
            rw [HES.out, ← e8.out]
            simp
          have HL2 : Hid ((essK s (k + 1)).length = (essK s k).length + 1) := by show _ = _; rw [HE2.out, List.length_append]; rfl
          clear e8 HES
          obtain ⟨L, hL⟩ : ∃ L, L = essK s k := ⟨_, rfl⟩
          rw [← hL] at HE2 HL2 hlen own7 ⊢
          clear hL
          go_wp2_with (at_builtin; refine wpList_appC1 rfl (.tmp 32) (.tmp 34) rfl w5.heap.size A' c' (L.map zc) (by simp [Act.eval]) (own7.alloc _) (zc (d1, d2)) w7.heap.size rfl (by simp [go_sem]) (by simp [go_sem]) (by simp; omega) (by simp; omega) ?_; intro A3 c3 w9 own9 hb9 hg9)
          have ownF9 : OwC w9 w5.heap.size A3 c3 ((essK s (k + 1)).map zc) := by
            rw [HE2.out, List.map_append]
            exact own9
          go_roundw
          case rel => exact ⟨k + 1, A3, c3, by omega, by rw [HL2.out], by go_num, ownF9, (by have z0 := Below.size hb; have z1 := Below.size hb7o; have z2 := Below.size hb9; (try simp only [World.size_alloc, World.size_setCell, World.size_drew, size_drewN'] at z0 z1 z2 ⊢; skip); repeat' (first | (with_reducible exact Below.refl _ _) | (with_reducible assumption) | (with_reducible refine Below.alloc ?_ ?_ _) | (with_reducible refine Below.drew ?_) | (with_reducible refine below_drewN ?_ _) | (with_reducible refine Below.setCell ?_ ?_ _) | (with_reducible refine Below.trans ?_ (Below.mono (by with_reducible assumption) ?_)) | omega | (simp only [World.size_alloc, World.size_setCell, World.size_drew, size_drewN']; omega) | go_size))⟩
          case measure => simp [intOf]; omega
        · have HE2 : Hid (essK s (k + 1) = essK s k) := by
            show _ = _
            rw [HES.out, ← e8.out]
            simp
          clear e8 HES
          go_wp2_with fail
          go_roundw
          case rel => exact ⟨k + 1, A', c', by omega, by rw [HE2.out], by go_num, by rw [HE2.out]; exact own7, hb.trans (hb7o.mono hbz2)⟩
          case measure => simp [intOf]; omega
      · have HK : Hid (essN s = essK s k) := by
          have : k = s.length := by omega
          subst this; rfl
        go_wp2
        go_returns
        exact ⟨⟨s, HS.out, .inr ⟨h1, A', c', by rw [HK.out]; rfl, by rw [HK.out]; exact own.base_ (by omega)⟩⟩, hbW⟩
end
end Go.Proofs.Ytedopalmfakeaaa
