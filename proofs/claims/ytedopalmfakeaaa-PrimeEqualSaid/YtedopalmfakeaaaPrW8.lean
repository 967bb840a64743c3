/- Contracts of functions and lemmas, used by the proofs of the given statements. No condition beyond those that each lemma names. -/
import Derived.Test.YtedopalmfakeaaaPrW7
import Derived.Test.YtedopalmfakeaaaPrW4
import Derived.Deep.QuietTactic
import Derived.BigQuiet
namespace Go.Proofs.Ytedopalmfakeaaa
open Go.RowKit Go.Sort
set_option linter.unusedSimpArgs false
set_option linter.unusedVariables false
set_option maxRecDepth 20000
/-! ## package prime: counted -/
theorem row_hold {S n : Nat} {ev : Nat → Nat} {c : Cn} (he : Evs S n ev) (hc : inS S c) {r : Nat} : RowC n ev c r ↔ r < 2 ^ n ∧ hoN c (widN n ev r) = true := by
  unfold RowC CR
  constructor
  · rintro ⟨h1, h2⟩
    refine ⟨h1, (row_in he hc h1).2 ?_⟩
    have := (hoN_iff _ _).1 h2
    exact ⟨fun k => (this k).1, fun k => (this k).2⟩
  · rintro ⟨h1, h2⟩
    refine ⟨h1, (hoN_iff _ _).2 fun k => ?_⟩
    have := (row_in he hc h1).1 h2
    exact ⟨this.1 k, this.2 k⟩
theorem OwJ.form0 {w : World} {base c n g : Nat} {f : Nat → Int} (h : OwJ w base (some ⟨g, 0, none⟩) c n f) (hn : 0 < n) : g < w.heap.size := by
  obtain ⟨g', e, _, h2⟩ := h.form hn
  injection e with e
  injection e with e
  omega
/-- what counted hands over -/
def CntI (w : World) (B0 p n : Nat) (ev : Nat → Nat) (T : Nat → Bool) (A : Option Addr) (c : Nat) (s : List Cn) (g : Nat) (f : Nat → Int) : Prop :=
  ∃ Bt Bi, B0 ≤ Bt ∧ Bt ≤ Bi ∧ Bi ≤ w.heap.size ∧ (∀ W, Below Bt w W → TabI W p n ev T) ∧ OwC w Bt A c (s.map zc) ∧ (∀ k, (Value.slice A s.length c).ownBlock = some k → k < Bi) ∧ OwJ w Bi (some ⟨g, 0, none⟩) (2 ^ n) (2 ^ n) f ∧ Bi ≤ g
section
variable {w : World} {A : Option Addr} {c : Nat} {f : FrR}
set_option maxHeartbeats 8000000 in
theorem counted_ok {v : Nat} (h : FrI w A f) (ok : FrOk f) (hv : f.vars = v) (h7 : popc (supF f.fr) ≤ 12) :
    Calls Try.prog 88 #[fv (v : Int) A f.nn c f.top] w fun e w' => (∃ s, PrmS (supF f.fr) f.fr.val s ∧ ((1024 < s.length ∧ e = .returned (.tuple #[.pointer none, .slice none 0 0, .slice none 0 0, .iface 58 (.int .i64 4)])) ∨ (s.length ≤ 1024 ∧ ∃ p A c g m fc, m = 2 ^ (evL (supF f.fr) 24).length ∧ e = .returned (.tuple #[.pointer (some ⟨p, 0, none⟩), .slice A s.length c, .slice (some ⟨g, 0, none⟩) m m, .nilIface]) ∧ CntI w' w.heap.size p (evL (supF f.fr) 24).length (evF (supF f.fr)) (fun t => f.fr.val (widN (evL (supF f.fr) 24).length (evF (supF f.fr)) t)) A c s g fc ∧ ∀ r, r < m → fc r = (inN s (widN (evL (supF f.fr) 24).length (evF (supF f.fr)) r) : Nat)))) ∧ Below w.heap.size w w' := by
  have v1 : v ≤ 24 := by have := ok.v1; omega
  have hS : supF f.fr < 16777216 := (supF_lt ok hv).2
  have K1 := Lib.hid (fun W (hW : Below w.heap.size w W) => tableOf_ok (c := c) (h.below hW) ok hv h7)
  have K2 := Lib.hid (fun W p (ht : TabI W p (evL (supF f.fr) 24).length (evF (supF f.fr)) (fun s => f.fr.val (widN (evL (supF f.fr) 24).length (evF (supF f.fr)) s))) => primes_S (V := f.fr.val) ht (by rw [evL_pop]; exact h7) (evL_evs hS) fun s _ => rfl)
  have HE := Lib.hid (evL_evs hS)
  have hn12 : (evL (supF f.fr) 24).length ≤ 12 := by rw [evL_pop]; exact h7
  generalize (evL (supF f.fr) 24).length = n at *
  generalize evF (supF f.fr) = ev at *
  generalize supF f.fr = S at *
  generalize f.fr.val = V at *
  generalize f.nn = nn at *
  generalize f.top = tp at *
  clear ok hv h h7
  go_enter Try.func88, Try.ntmps88
  go_wp2_with fail
  refine (K1.out _ (by (skip); repeat' (first | (with_reducible exact Below.refl _ _) | (with_reducible assumption) | (with_reducible refine Below.alloc ?_ ?_ _) | (with_reducible refine Below.drew ?_) | (with_reducible refine below_drewN ?_ _) | (with_reducible refine Below.setCell ?_ ?_ _) | (with_reducible refine Below.trans ?_ (Below.mono (by with_reducible assumption) ?_)) | omega | (simp only [World.size_alloc, World.size_setCell, World.size_drew, size_drewN']; omega) | go_size))).mono ?_
  rintro e w1 ⟨⟨p, rfl, ht⟩, hb1⟩
  have hbz := hb1.size
  simp only [World.size_alloc] at hbz
  have hbA : Below w.heap.size w w1 := (by have z0 := Below.size hb1; (try simp only [World.size_alloc, World.size_setCell, World.size_drew, size_drewN'] at z0 ⊢; skip); repeat' (first | (with_reducible exact Below.refl _ _) | (with_reducible assumption) | (with_reducible refine Below.alloc ?_ ?_ _) | (with_reducible refine Below.drew ?_) | (with_reducible refine below_drewN ?_ _) | (with_reducible refine Below.setCell ?_ ?_ _) | (with_reducible refine Below.trans ?_ (Below.mono (by with_reducible assumption) ?_)) | omega | (simp only [World.size_alloc, World.size_setCell, World.size_drew, size_drewN']; omega) | go_size))
  clear hb1
  go_wp2_with fail
  refine (K2.out _ _ ht).mono ?_
  rintro e w2 ⟨⟨s, hs, ⟨h1, rfl⟩ | ⟨h1, A2, c2, rfl, own⟩⟩, hb2⟩
  · have HS := Lib.hid hs
    have HL := Lib.hid h1
    clear hs h1 ht
    go_wp2_with fail
    go_returns
    exact ⟨⟨s, HS.out, .inl ⟨HL.out, rfl⟩⟩, (by have z0 := Below.size hbA; have z1 := Below.size hb2; (try simp only [World.size_alloc, World.size_setCell, World.size_drew, size_drewN'] at z0 z1 ⊢; skip); repeat' (first | (with_reducible exact Below.refl _ _) | (with_reducible assumption) | (with_reducible refine Below.alloc ?_ ?_ _) | (with_reducible refine Below.drew ?_) | (with_reducible refine below_drewN ?_ _) | (with_reducible refine Below.setCell ?_ ?_ _) | (with_reducible refine Below.trans ?_ (Below.mono (by with_reducible assumption) ?_)) | omega | (simp only [World.size_alloc, World.size_setCell, World.size_drew, size_drewN']; omega) | go_size))⟩
  · have HS := Lib.hid hs
    have hb2z := hb2.size
    have HT := Lib.hid (fun W (hW : Below w1.heap.size w1 W) => ht.below hW)
    have rds := own.rd
    have HO := Lib.hid own
    have hAl : Hid (∀ k, (Value.slice A2 s.length c2).ownBlock = some k → k < w2.heap.size) := fun k e => by
      have h0 := own
      unfold OwC at h0
      rw [List.length_map] at h0
      exact (World.ownsRow.lt h0 k e).2
    obtain ⟨⟨Ae, ce, ce0, -⟩, At, ct, ct1, -⟩ := ht
    have hpl := lt_of_cell ct1
    have ct2 := (below_at hb2 p 1 hpl).trans ct1
    have hP : 2 ^ n ≤ 4096 := Nat.pow_le_pow_right (n := 2) (by omega) hn12
    obtain ⟨M, hM⟩ : ∃ M, 2 ^ n = M := ⟨_, rfl⟩
    rw [hM] at ct1 ct2 hP
    have HM := Lib.hid hM
    clear hM hs own ce0 ct1
    go_wp2_with (first | (at_make; refine wpList_makeJ rfl (.tmp 32) (.tmp 32) rfl w2.heap.size M (M : Int) (M : Int) (by first | rfl | simp [Act.eval]) (by first | rfl | simp [Act.eval]) rfl rfl (by omega) (by omega) ?_; intro w4 own4 hb4) | fail)
    have x5 : (w4.alloc (.cells #[.slice (some ⟨w2.heap.size, 0, none⟩) M M] 71)).cell? ⟨w4.heap.size, 0, none⟩ = some (.slice (some ⟨w2.heap.size, 0, none⟩) M M) := by simp [go_sem]
    have own5 := own4.below ((Below.refl w4.heap.size w4).alloc (Nat.le_refl _) (.cells #[.slice (some ⟨w2.heap.size, 0, none⟩) M M] 71))
    have hb5 : Below w2.heap.size w2 (w4.alloc (.cells #[.slice (some ⟨w2.heap.size, 0, none⟩) M M] 71)) := (by have z0 := Below.size hb4; (try simp only [World.size_alloc, World.size_setCell, World.size_drew, size_drewN'] at z0 ⊢; skip); repeat' (first | (with_reducible exact Below.refl _ _) | (with_reducible assumption) | (with_reducible refine Below.alloc ?_ ?_ _) | (with_reducible refine Below.drew ?_) | (with_reducible refine below_drewN ?_ _) | (with_reducible refine Below.setCell ?_ ?_ _) | (with_reducible refine Below.trans ?_ (Below.mono (by with_reducible assumption) ?_)) | omega | (simp only [World.size_alloc, World.size_setCell, World.size_drew, size_drewN']; omega) | go_size))
    have hgx : w2.heap.size < w4.heap.size := own4.form0 (by have := Nat.two_pow_pos n; rw [HM.out] at this; exact this)
    obtain ⟨w5, hw5⟩ : ∃ w5, w5 = w4.alloc (.cells #[.slice (some ⟨w2.heap.size, 0, none⟩) M M] 71) := ⟨_, rfl⟩
    rw [← hw5] at x5 own5 hb5 ⊢
    clear hw5 hb4 own4 ct2
    generalize w4.heap.size = x at *
    go_loopw [36] (fun i wr => ∃ (k : Nat) (fc : Nat → Int), k ≤ s.length ∧ i = .int .i64 k ∧ OwJ wr w2.heap.size (some ⟨w2.heap.size, 0, none⟩) M M fc ∧ wr.cell? ⟨x, 0, none⟩ = some (.slice (some ⟨w2.heap.size, 0, none⟩) M M) ∧ Below w2.heap.size w2 wr ∧ ∀ r, r < M → fc r = (inN (s.take k) (widN n ev r) : Nat)) (fun i _ => s.length - (intOf i).toNat)
    case atStart => exact ⟨0, _, Nat.zero_le _, rfl, own5, x5, hb5, fun r _ => rfl⟩
    case round =>
      obtain ⟨k, fc, hk, rfl, own, x6, hb, hf⟩ := hrel
      clear own5 x5 hb5
      have HF := Lib.hid hf
      clear hf
      have hbz2 := hb.size
      obtain ⟨wo, rfl⟩ : ∃ wo : World, wo = wr := ⟨_, rfl⟩
      by_cases hlt : k < s.length
      · obtain ⟨b, off, rfl, hbb, y1, y2⟩ := (rds.below hb).at_ (k := k) (c := zc s[k]) (by simp [hlt])
        have hok := HS.out.ok (List.getElem_mem hlt)
        have HIN := Lib.hid (fun t => inN_succ s t k hlt)
        have HIK := Lib.hid (fun t => Nat.le_trans (inN_le (s.take k) t) (List.length_take_le k s))
        have HRH := Lib.hid (fun r => row_hold (r := r) HE.out hok.2)
        have hok1 := hok.1
        generalize s[k] = g at *
        obtain ⟨g1, g2⟩ := g
        have KR := Lib.hid (fun W (hW : Below wo.heap.size wo W) => rows_chg (w := W) (p := p) (ev := ev) (T := fun s => V (widN n ev s)) (B := w2.heap.size) (x := x) (g := w2.heap.size) (f := fc) (m := M) 1 121 (HT.out W ((hb2.trans (hb.mono hb2z)).trans (hW.mono (by omega)))) hn12 HE.out.lt hok1 ((below_at hW x 0 (lt_of_cell x6)).trans x6) (own.below hW) HM.out (by omega) (fun r hr => by
          have h0 := HF.out r (by rw [← HM.out]; exact hr.1)
          have h1 := HIK.out (widN n ev r)
          omega) (by have := hW.size; omega) (fun _ _ => rfl) (fun W r f h1 h2 h3 h4 => cnt1_any h1 h2 h3 (by omega) (Nat.le_refl _) h4))
        have hxl := lt_of_cell x6
        clear own rds hok hok1
        go_wp2_with fail
        refine (KR.out _ (by (skip); repeat' (first | (with_reducible exact Below.refl _ _) | (with_reducible assumption) | (with_reducible refine Below.alloc ?_ ?_ _) | (with_reducible refine Below.drew ?_) | (with_reducible refine below_drewN ?_ _) | (with_reducible refine Below.setCell ?_ ?_ _) | (with_reducible refine Below.trans ?_ (Below.mono (by with_reducible assumption) ?_)) | omega | (simp only [World.size_alloc, World.size_setCell, World.size_drew, size_drewN']; omega) | go_size))).mono ?_
        rintro e w7 ⟨⟨rfl, fd, own7, x7, he⟩, hb7⟩
        have HFD : Hid (∀ r, r < M → fd r = (inN (s.take (k + 1)) (widN n ev r) : Nat)) := fun r hr => by
          have h0 := HF.out r hr
          have h1 := HIN.out (widN n ev r)
          rw [h1]
          by_cases hrr : hoN (g1, g2) (widN n ev r) = true
          · rw [(he r).1 ((HRH.out r).2 ⟨by rw [HM.out]; exact hr, hrr⟩), h0, hrr]; simp
          · rw [(he r).2 (fun hh => hrr ((HRH.out r).1 hh).2), h0, if_neg hrr]; simp
        clear he
        go_wp2_with fail
        go_roundw
        case rel => exact ⟨k + 1, fd, by omega, by go_num, own7, x7, (by have z0 := Below.size hb; have z1 := Below.size hb7; (try simp only [World.size_alloc, World.size_setCell, World.size_drew, size_drewN'] at z0 z1 ⊢; skip); repeat' (first | (with_reducible exact Below.refl _ _) | (with_reducible assumption) | (with_reducible refine Below.alloc ?_ ?_ _) | (with_reducible refine Below.drew ?_) | (with_reducible refine below_drewN ?_ _) | (with_reducible refine Below.setCell ?_ ?_ _) | (with_reducible refine Below.trans ?_ (Below.mono (by with_reducible assumption) ?_)) | omega | (simp only [World.size_alloc, World.size_setCell, World.size_drew, size_drewN']; omega) | go_size)), HFD.out⟩
        case measure => simp [intOf]; omega
      · have HK : Hid (k = s.length) := by show _ = _; omega
        have HOC : Hid (OwC wo w1.heap.size A2 c2 (s.map zc)) := by
          have h0 := HO.out
          unfold OwC at h0 ⊢
          refine own_belowB h0 (fun k e => ?_) hb
          rw [List.length_map] at e
          exact hAl.out k e
        have HFI : Hid (∀ W, wo.heap.size ≤ W.heap.size → Below wo.heap.size wo W → CntI W w.heap.size p n ev (fun t => V (widN n ev t)) A2 c2 s w2.heap.size fc) := fun W hz hW => by
          refine ⟨w1.heap.size, w2.heap.size, by omega, hb2z, by omega, fun W2 hW2 => HT.out W2 (((hb2.trans (hb.mono hb2z)).trans (hW.mono (by omega))).trans hW2), HOC.out.below hW, hAl.out, ?_, Nat.le_refl _⟩
          rw [HM.out]
          exact own.below hW
        have HFF : Hid (∀ r, r < M → fc r = (inN s (widN n ev r) : Nat)) := fun r hr => by
          rw [HF.out r hr, HK.out, List.take_length]
        have hbF : Below w.heap.size w wo := (by have z0 := Below.size hbA; have z1 := Below.size hb2; have z2 := Below.size hb; (try simp only [World.size_alloc, World.size_setCell, World.size_drew, size_drewN'] at z0 z1 z2 ⊢; skip); repeat' (first | (with_reducible exact Below.refl _ _) | (with_reducible assumption) | (with_reducible refine Below.alloc ?_ ?_ _) | (with_reducible refine Below.drew ?_) | (with_reducible refine below_drewN ?_ _) | (with_reducible refine Below.setCell ?_ ?_ _) | (with_reducible refine Below.trans ?_ (Below.mono (by with_reducible assumption) ?_)) | omega | (simp only [World.size_alloc, World.size_setCell, World.size_drew, size_drewN']; omega) | go_size))
        have hxl := lt_of_cell x6
        clear rds HO own
        go_wp2
        go_quiet (fail)
        go_wp2
        go_returns
        exact ⟨⟨s, HS.out, .inr ⟨h1, p, A2, c2, w2.heap.size, M, fc, HM.out.symm, rfl, HFI.out _ (Nat.le_refl _) (below_drewN (Below.refl _ _) _), HFF.out⟩⟩, below_drewN hbF _⟩
end
end Go.Proofs.Ytedopalmfakeaaa
