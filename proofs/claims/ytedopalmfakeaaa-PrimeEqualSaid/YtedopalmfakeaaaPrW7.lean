/- Contracts of functions and lemmas, used by the proofs of the given statements. No condition beyond those that each lemma names. -/
import Derived.Test.YtedopalmfakeaaaPrW6
import Derived.Test.YtedopalmfakeaaaJCubeCnt
namespace Go.Proofs.Ytedopalmfakeaaa
open Go.RowKit Go.Sort
set_option linter.unusedSimpArgs false
set_option linter.unusedVariables false
set_option maxRecDepth 20000
/-! ## package prime: All, counted -/
/-- all primes, sorted -/
def PrmS (S : Nat) (V : Nat → Bool) (s : List Cn) : Prop := s.Pairwise (fun a b => ltN a b = true) ∧ ∀ x, x ∈ s ↔ prmN S V x
theorem PrmS.uniq {S : Nat} {V : Nat → Bool} {s t : List Cn} (h : PrmS S V s) (h2 : PrmS S V t) : s = t := LtO.uniq ltN_o _ _ h.1 h2.1 fun x => by rw [h.2, h2.2]
theorem PrmS.ok {S : Nat} {V : Nat → Bool} {s : List Cn} (h : PrmS S V s) {d : Cn} (hd : d ∈ s) : okN d ∧ inS S d := ⟨((h.2 d).1 hd).1, ((h.2 d).1 hd).2.1⟩
theorem srtC_strict {l s : List Cn} (hn : l.Nodup) (h : srtC l s) : s.Pairwise fun a b => ltN a b = true := by
  have hs : s.Nodup := h.1.nodup_iff.2 hn
  refine List.Pairwise.imp₂ (R := fun a b : Cn => a ≠ b) (S := fun a b => ltN b a = false) (T := fun a b => ltN a b = true) (fun {a b} hne h2 => ?_) hs h.2
  rcases ltN_o.tot _ _ hne with h3 | h3
  · exact h3
  · rw [h2] at h3; cases h3
theorem own_belowB {w w' : World} {base B : Nat} {e : TypeId} {size n : Nat} {v : Value} {xs : List Value} (h : w.ownsRow base e size v n xs) (hlt : ∀ k, v.ownBlock = some k → k < B) (hb : Below B w w') : w'.ownsRow base e size v n xs := by
  refine ⟨h.1, ?_⟩
  rcases h.2 with hn | ⟨g, cap, cur, rfl, hbb, hgg, rest⟩
  · exact .inl hn
  · refine .inr ⟨g, cap, cur, rfl, hbb, ?_, rest⟩
    rw [hb.block g (hlt g rfl)]
    exact hgg
section
variable {w : World} {p n S : Nat} {ev : Nat → Nat} {T V : Nat → Bool}
theorem primes_S (ht : TabI w p n ev T) (hn : n ≤ 12) (he : Evs S n ev) (hT : ∀ s, s < 2 ^ n → T s = V (widN n ev s)) :
    Calls Try.prog 87 #[.pointer (some ⟨p, 0, none⟩)] w fun e w' => (∃ s, PrmS S V s ∧ ((1024 < s.length ∧ e = .returned (.tuple #[.slice none 0 0, .iface 58 (.int .i64 4)])) ∨ (s.length ≤ 1024 ∧ ∃ A c, e = .returned (.tuple #[.slice A s.length c, .nilIface]) ∧ OwC w' w.heap.size A c (s.map zc)))) ∧ Below w.heap.size w w' := by
  obtain ⟨I, hI⟩ := isI_ex S n ev V
  refine (primes_any ht hn he hT hI).mono ?_
  have hnd := outP_nodup (I := I) he
  have hmem := fun x => outP_mem hI he x
  rintro e w' ⟨⟨h1, rfl⟩ | ⟨h1, A, c, s, rfl, hs, own⟩, hb⟩
  · have hm2 : ∀ x, x ∈ srtD ltN (outP I n ev (3 ^ n)) ↔ prmN S V x := fun x => by rw [srtD_mem ltN_o, hmem]
    refine ⟨⟨srtD ltN (outP I n ev (3 ^ n)), ⟨srtD_sorted ltN_o _, hm2⟩, .inl ⟨?_, rfl⟩⟩, hb⟩
    have := ((List.perm_ext_iff_of_nodup (sorted_nodup (srtD_sorted ltN_o (outP I n ev (3 ^ n)))) hnd).2 fun x => srtD_mem ltN_o _ _).length_eq
    omega
  · have e1 := hs.1.length_eq
    refine ⟨⟨s, ⟨srtC_strict hnd hs, fun x => by rw [hs.1.mem_iff, hmem]⟩, .inr ⟨by omega, A, c, by rw [e1], own⟩⟩, hb⟩
end
theorem supF_lt {f : FrR} {v : Nat} (ok : FrOk f) (hv : f.vars = v) : supF f.fr < 2 ^ v ∧ supF f.fr < 16777216 := by
  have v1 : v ≤ 24 := by have := ok.v1; omega
  have hSv : supF f.fr < 2 ^ v := by
    have := msk_lt f.fr.mark v
    unfold supF
    rw [vlF_nat f hv]
    exact this
  exact ⟨hSv, Nat.lt_of_lt_of_le hSv (Nat.pow_le_pow_right (n := 2) (by omega) v1)⟩
section
variable {w : World} {A : Option Addr} {c : Nat} {f : FrR}
set_option maxHeartbeats 4000000 in
theorem All_ok {v : Nat} (h : FrI w A f) (ok : FrOk f) (hv : f.vars = v) (h7 : popc (supF f.fr) ≤ 12) :
    Calls Try.prog 53 #[fv (v : Int) A f.nn c f.top] w fun e w' => (∃ s, PrmS (supF f.fr) f.fr.val s ∧ ((1024 < s.length ∧ e = .returned (.tuple #[.slice none 0 0, .iface 58 (.int .i64 4)])) ∨ (s.length ≤ 1024 ∧ ∃ A c, e = .returned (.tuple #[.slice A s.length c, .nilIface]) ∧ OwC w' w.heap.size A c (s.map zc)))) ∧ Below w.heap.size w w' := by
  have v1 : v ≤ 24 := by have := ok.v1; omega
  have hS : supF f.fr < 16777216 := (supF_lt ok hv).2
  have K1 := Lib.hid (fun W (hW : Below w.heap.size w W) => tableOf_ok (c := c) (h.below hW) ok hv h7)
  have K2 := Lib.hid (fun W p (ht : TabI W p (evL (supF f.fr) 24).length (evF (supF f.fr)) (fun s => f.fr.val (widN (evL (supF f.fr) 24).length (evF (supF f.fr)) s))) => primes_S (V := f.fr.val) ht (by rw [evL_pop]; exact h7) (evL_evs hS) fun s _ => rfl)
  generalize (evL (supF f.fr) 24).length = n at *
  generalize evF (supF f.fr) = ev at *
  generalize supF f.fr = S at *
  generalize f.fr.val = V at *
  generalize f.nn = nn at *
  generalize f.top = tp at *
  clear ok hv h h7
  go_enter Try.func53, Try.ntmps53
  go_wp2_with fail
  refine (K1.out _ (by (skip); repeat' (first | (with_reducible exact Below.refl _ _) | (with_reducible assumption) | (with_reducible refine Below.alloc ?_ ?_ _) | (with_reducible refine Below.drew ?_) | (with_reducible refine below_drewN ?_ _) | (with_reducible refine Below.setCell ?_ ?_ _) | (with_reducible refine Below.trans ?_ (Below.mono (by with_reducible assumption) ?_)) | omega | (simp only [World.size_alloc, World.size_setCell, World.size_drew, size_drewN']; omega) | go_size))).mono ?_
  rintro e w1 ⟨⟨p, rfl, ht⟩, hb1⟩
  have hbz := hb1.size
  simp only [World.size_alloc] at hbz
  have hbA : Below w.heap.size w w1 := (by have z0 := Below.size hb1; (try simp only [World.size_alloc, World.size_setCell, World.size_drew, size_drewN'] at z0 ⊢; skip); repeat' (first | (with_reducible exact Below.refl _ _) | (with_reducible assumption) | (with_reducible refine Below.alloc ?_ ?_ _) | (with_reducible refine Below.drew ?_) | (with_reducible refine below_drewN ?_ _) | (with_reducible refine Below.setCell ?_ ?_ _) | (with_reducible refine Below.trans ?_ (Below.mono (by with_reducible assumption) ?_)) | omega | (simp only [World.size_alloc, World.size_setCell, World.size_drew, size_drewN']; omega) | go_size))
  clear hb1
  go_wp2_with fail
  refine (K2.out _ _ ht).mono ?_
  rintro e w2 ⟨⟨s, hs, ⟨h1, rfl⟩ | ⟨h1, A2, c2, rfl, own⟩⟩, hb2⟩
  · have HS := Lib.hid hs
    have HL := Lib.hid h1
    clear hs h1 ht
    go_wp2_with fail
    go_returns
    exact ⟨⟨s, HS.out, .inl ⟨HL.out, rfl⟩⟩, (by have z0 := Below.size hbA; have z1 := Below.size hb2; (try simp only [World.size_alloc, World.size_setCell, World.size_drew, size_drewN'] at z0 z1 ⊢; skip); repeat' (first | (with_reducible exact Below.refl _ _) | (with_reducible assumption) | (with_reducible refine Below.alloc ?_ ?_ _) | (with_reducible refine Below.drew ?_) | (with_reducible refine below_drewN ?_ _) | (with_reducible refine Below.setCell ?_ ?_ _) | (with_reducible refine Below.trans ?_ (Below.mono (by with_reducible assumption) ?_)) | omega | (simp only [World.size_alloc, World.size_setCell, World.size_drew, size_drewN']; omega) | go_size))⟩
  · have HS := Lib.hid hs
    have HL := Lib.hid h1
    have HO := Lib.hid own
    clear hs h1 ht own
    go_wp2_with fail
    go_returns
    exact ⟨⟨s, HS.out, .inr ⟨HL.out, A2, c2, rfl, HO.out.base_ (by omega)⟩⟩, (by have z0 := Below.size hbA; have z1 := Below.size hb2; (try simp only [World.size_alloc, World.size_setCell, World.size_drew, size_drewN'] at z0 z1 ⊢; skip); repeat' (first | (with_reducible exact Below.refl _ _) | (with_reducible assumption) | (with_reducible refine Below.alloc ?_ ?_ _) | (with_reducible refine Below.drew ?_) | (with_reducible refine below_drewN ?_ _) | (with_reducible refine Below.setCell ?_ ?_ _) | (with_reducible refine Below.trans ?_ (Below.mono (by with_reducible assumption) ?_)) | omega | (simp only [World.size_alloc, World.size_setCell, World.size_drew, size_drewN']; omega) | go_size))⟩
end
end Go.Proofs.Ytedopalmfakeaaa
