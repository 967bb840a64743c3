/- Contracts of functions and lemmas, used by the proofs of the given statements. No condition beyond those that each lemma names. -/
import Derived.Test.YtedopalmfakeaaaLawPr5
import Derived.Test.YtedopalmfakeaaaPrX7
import Derived.Test.YtedopalmfakeaaaPrX8
namespace Go.Proofs.Ytedopalmfakeaaa
open Go.RowKit Go.Sort
set_option linter.unusedSimpArgs false
set_option linter.unusedVariables false
set_option maxRecDepth 20000
/-! ## law13: PrimeNeeded -/
attribute [local irreducible] pop popc
theorem has13_t {A : Option Addr} {l : List Cn} {nl q : Nat} {c : Cn} {w : World} (hl : l.length = nl) (hn : nl ≤ 1000000) (h : RdC w w.heap.size A (l.map zc)) (hm : c ∈ l) :
    Calls Try.prog 70 #[.slice A nl q, cbv (zc c)] w fun e w' => e = .returned (.bool true) ∧ Below w.heap.size w w' := by
  refine (has13_any A l nl q c w hl hn h).mono ?_
  rintro e w' ⟨⟨b, rfl, hb⟩, h⟩
  rw [hb.2 hm]
  exact ⟨rfl, h⟩
section
variable {w : World} {A : Option Addr} {c : Nat} {f : FrR}
set_option maxHeartbeats 8000000 in
theorem primeNeeded_law (h : FrI w A f) (ht : f.top ≤ 9223372036854775807) :
    Calls Try.prog 17 #[fv f.vars A f.nn c f.top] w fun e w' => e = .returned (.bool true) ∧ Below w.heap.size w w' := by
  have K1 := Lib.hid (fun W (hW : Below w.heap.size w W) => valid13_any (c := c) (h.below hW) ht)
  by_cases hvd : codeP f = 0 ∧ popc (supF f.fr) ≤ 7
  · have ok := (codeP_ok hvd.1).1
    obtain ⟨v, hv⟩ := ok.nat
    rw [decide_eq_true hvd] at K1
    have K2 := Lib.hid (fun W (hW : Below w.heap.size w W) => all13_7 (c := c) (h.below hW) ok hv hvd.2)
    have K3 := Lib.hid (fun W (hW : Below w.heap.size w W) => ess13_7 (c := c) (h.below hW) ok hv hvd.2)
    have K4 := Lib.hid (fun W (hW : Below w.heap.size w W) => irr13_7 (c := c) (h.below hW) ok hv hvd.2)
    rw [hv] at K1 ⊢
    generalize supF f.fr = S at *
    generalize f.fr.val = V at *
    generalize f.nn = nn at *
    generalize f.top = tp at *
    clear ok hv h hvd ht
    go_enter Try.func17, Try.ntmps17
    go_wp2_with fail
    refine (awake13_any _).mono ?_
    rintro e w1 ⟨rfl, hb1⟩
    have hb1z := hb1.size
    simp only [World.size_alloc] at hb1z
    have x1_0 : w1.cell? ⟨w.heap.size, 0, none⟩ = some (.int .i64 (v : Int)) := (below_at hb1 (w.heap.size) 0 (by first | (simp; done) | (simp; omega))).trans (by simp [go_sem])
    have x1_1 : w1.cell? ⟨w.heap.size, 1, none⟩ = some (.slice A nn c) := (below_at hb1 (w.heap.size) 1 (by first | (simp; done) | (simp; omega))).trans (by simp [go_sem])
    have x1_2 : w1.cell? ⟨w.heap.size, 2, none⟩ = some (.int .i64 tp) := (below_at hb1 (w.heap.size) 2 (by first | (simp; done) | (simp; omega))).trans (by simp [go_sem])
    have hbA1 : Below w.heap.size w w1 := (by have z0 := Below.size hb1; (try simp only [World.size_alloc, World.size_setCell, World.size_drew, size_drewN'] at z0 ⊢; skip); repeat' (first | (with_reducible exact Below.refl _ _) | (with_reducible assumption) | (with_reducible refine Below.alloc ?_ ?_ _) | (with_reducible refine Below.drew ?_) | (with_reducible refine below_drewN ?_ _) | (with_reducible refine Below.setCell ?_ ?_ _) | (with_reducible refine Below.trans ?_ (Below.mono (by with_reducible assumption) ?_)) | omega | (simp only [World.size_alloc, World.size_setCell, World.size_drew, size_drewN']; omega) | go_size))
    clear hb1
    go_wp2_with fail
    refine (K1.out _ hbA1).mono ?_
    rintro e w2 ⟨rfl, hb2⟩
    have hb2z := hb2.size
    have x2_0 := (below_at hb2 (w.heap.size) 0 (by omega)).trans x1_0
    have x2_1 := (below_at hb2 (w.heap.size) 1 (by omega)).trans x1_1
    have x2_2 := (below_at hb2 (w.heap.size) 2 (by omega)).trans x1_2
    have hbA2 : Below w.heap.size w w2 := (by have z0 := Below.size hbA1; have z1 := Below.size hb2; (try simp only [World.size_alloc, World.size_setCell, World.size_drew, size_drewN'] at z0 z1 ⊢; skip); repeat' (first | (with_reducible exact Below.refl _ _) | (with_reducible assumption) | (with_reducible refine Below.alloc ?_ ?_ _) | (with_reducible refine Below.drew ?_) | (with_reducible refine below_drewN ?_ _) | (with_reducible refine Below.setCell ?_ ?_ _) | (with_reducible refine Below.trans ?_ (Below.mono (by with_reducible assumption) ?_)) | omega | (simp only [World.size_alloc, World.size_setCell, World.size_drew, size_drewN']; omega) | go_size))
    clear x1_0 x1_1 x1_2 hb2 hbA1
    go_wp2_with fail
    refine (K2.out _ hbA2).mono ?_
    rintro e w3 ⟨⟨s1, hs1, hl1, A1, c1, rfl, own1⟩, hb3⟩
    have hb3z := hb3.size
    have x3_0 := (below_at hb3 (w.heap.size) 0 (by omega)).trans x2_0
    have x3_1 := (below_at hb3 (w.heap.size) 1 (by omega)).trans x2_1
    have x3_2 := (below_at hb3 (w.heap.size) 2 (by omega)).trans x2_2
    have hbA3 : Below w.heap.size w w3 := (by have z0 := Below.size hbA2; have z1 := Below.size hb3; (try simp only [World.size_alloc, World.size_setCell, World.size_drew, size_drewN'] at z0 z1 ⊢; skip); repeat' (first | (with_reducible exact Below.refl _ _) | (with_reducible assumption) | (with_reducible refine Below.alloc ?_ ?_ _) | (with_reducible refine Below.drew ?_) | (with_reducible refine below_drewN ?_ _) | (with_reducible refine Below.setCell ?_ ?_ _) | (with_reducible refine Below.trans ?_ (Below.mono (by with_reducible assumption) ?_)) | omega | (simp only [World.size_alloc, World.size_setCell, World.size_drew, size_drewN']; omega) | go_size))
    clear x2_0 x2_1 x2_2 hb3 hbA2
    have HS := Lib.hid hs1
    clear hs1
    go_wp2_with fail
    refine (K3.out _ hbA3).mono ?_
    rintro e w4 ⟨⟨s2, hs2, hl2, A2, c2, rfl, own2⟩, hb4⟩
    have hb4z := hb4.size
    have x4_0 := (below_at hb4 (w.heap.size) 0 (by omega)).trans x3_0
    have x4_1 := (below_at hb4 (w.heap.size) 1 (by omega)).trans x3_1
    have x4_2 := (below_at hb4 (w.heap.size) 2 (by omega)).trans x3_2
    have oa4 := own1.below hb4
    have hbA4 : Below w.heap.size w w4 := (by have z0 := Below.size hbA3; have z1 := Below.size hb4; (try simp only [World.size_alloc, World.size_setCell, World.size_drew, size_drewN'] at z0 z1 ⊢; skip); repeat' (first | (with_reducible exact Below.refl _ _) | (with_reducible assumption) | (with_reducible refine Below.alloc ?_ ?_ _) | (with_reducible refine Below.drew ?_) | (with_reducible refine below_drewN ?_ _) | (with_reducible refine Below.setCell ?_ ?_ _) | (with_reducible refine Below.trans ?_ (Below.mono (by with_reducible assumption) ?_)) | omega | (simp only [World.size_alloc, World.size_setCell, World.size_drew, size_drewN']; omega) | go_size))
    clear x3_0 x3_1 x3_2 hb4 hbA3
    obtain rfl : s2 = s1 := hs2.uniq HS.out
    clear hs2
    go_wp2_with fail
    refine (K4.out _ hbA4).mono ?_
    rintro e w5 ⟨⟨s3, hs3, hl3, A3, c3, rfl, own3⟩, hb5⟩
    have hb5z := hb5.size
    have oa5 := oa4.below hb5
    have ob5 := own2.below hb5
    have hbA5 : Below w.heap.size w w5 := (by have z0 := Below.size hbA4; have z1 := Below.size hb5; (try simp only [World.size_alloc, World.size_setCell, World.size_drew, size_drewN'] at z0 z1 ⊢; skip); repeat' (first | (with_reducible exact Below.refl _ _) | (with_reducible assumption) | (with_reducible refine Below.alloc ?_ ?_ _) | (with_reducible refine Below.drew ?_) | (with_reducible refine below_drewN ?_ _) | (with_reducible refine Below.setCell ?_ ?_ _) | (with_reducible refine Below.trans ?_ (Below.mono (by with_reducible assumption) ?_)) | omega | (simp only [World.size_alloc, World.size_setCell, World.size_drew, size_drewN']; omega) | go_size))
    clear hb5 hbA4
    obtain rfl : s3 = s2 := hs3.uniq HS.out
    clear hs3
    have hok : ∀ d, d ∈ s3 → okN d := fun d hd => (HS.out.ok hd).1
    have hnd := sorted_nodup HS.out.1
    have le1 := essN_len s3
    have le2 := irrN_len s3.length s3
    have HEI : Hid (∀ d, d ∈ essN s3 → d ∈ irrN s3.length s3) := fun d hd => ess_irr hok hnd hd
    have HIO : Hid (∀ d, d ∈ irrN s3.length s3 → okN d) := fun d hd => hok d (irrN_mem hd)
    have HIA : Hid (∀ d, d ∈ irrN s3.length s3 → d ∈ s3) := fun d hd => irrN_mem hd
    have HIN : Hid (∀ j, j < (irrN s3.length s3).length → covB ((irrN s3.length s3).eraseIdx j) (atN (irrN s3.length s3) j) = false) := irr_none hok
    have RA := Lib.hid oa5
    have RB := Lib.hid ob5
    have RC := Lib.hid own3
    have HB := Lib.hid hbA5
    generalize irrN s3.length s3 = I at *
    generalize essN s3 = E at *
    clear hok hnd oa5 ob5 own3 hbA5 K1 K2 K3 K4
    go_wp2_with fail
    go_loopw [9] (fun i wr => ∃ k : Nat, k ≤ E.length ∧ i = .int .i64 k ∧ Below w5.heap.size w5 wr) (fun i _ => E.length - (intOf i).toNat)
    case atStart => exact ⟨0, Nat.zero_le _, rfl, Below.refl _ _⟩
    case round =>
      obtain ⟨k, hk, rfl, hb⟩ := hrel
      obtain ⟨wo, rfl⟩ : ∃ wo : World, wo = wr := ⟨_, rfl⟩
      have hbz := hb.size
      by_cases hlt : k < E.length
      · obtain ⟨b, off, rfl, hbb, y1, y2⟩ := (RB.out.below hb).rd.at_ (k := k) (c := zc (atN E k)) (by rw [List.getElem?_map, List.getElem?_eq_getElem hlt, atN_lt hlt]; rfl)
        have KH := Lib.hid (has13_t (q := c3) rfl (by omega) (RC.out.below hb).rd (HEI.out _ (atN_mem hlt)))
        generalize atN E k = d at *
        obtain ⟨d1, d2⟩ := d
        have i1 : (0 : Int) ≤ (k : Int) := by omega
        have i2 : (k : Int) < (E.length : Int) := by omega
        go_wp2_with fail
        refine KH.out.mono ?_
        rintro e w7 ⟨rfl, hb7⟩
        go_wp2_with fail
        go_roundw
        case rel => exact ⟨k + 1, by omega, by go_num, (by have z0 := Below.size hb; have z1 := Below.size hb7; (try simp only [World.size_alloc, World.size_setCell, World.size_drew, size_drewN'] at z0 z1 ⊢; skip); repeat' (first | (with_reducible exact Below.refl _ _) | (with_reducible assumption) | (with_reducible refine Below.alloc ?_ ?_ _) | (with_reducible refine Below.drew ?_) | (with_reducible refine below_drewN ?_ _) | (with_reducible refine Below.setCell ?_ ?_ _) | (with_reducible refine Below.trans ?_ (Below.mono (by with_reducible assumption) ?_)) | omega | (simp only [World.size_alloc, World.size_setCell, World.size_drew, size_drewN']; omega) | go_size))⟩
        case measure => simp [intOf]; omega
      · obtain rfl : k = E.length := by omega
        clear hlt hk
        go_wp2_with fail
        go_loopw [10] (fun i wr => ∃ k : Nat, k ≤ I.length ∧ i = .int .i64 k ∧ Below w5.heap.size w5 wr) (fun i _ => I.length - (intOf i).toNat)
        case atStart => exact ⟨0, Nat.zero_le _, rfl, hb⟩
        case round =>
          obtain ⟨j, hj, rfl, hb2⟩ := hrel
          clear hb hbz
          obtain ⟨wq, rfl⟩ : ∃ wq : World, wq = wr := ⟨_, rfl⟩
          have hb2z := hb2.size
          by_cases hjl : j < I.length
          · have HER := Lib.hid (fun k (hk : k < I.length) => erase_take (l := I) j hk)
            have HEL : Hid (∀ k, ((I.take k).eraseIdx j).length ≤ I.length) := fun k => Nat.le_trans (erase_len _ _) (by rw [List.length_take]; omega)
            have HE1 : Hid ((I.take I.length).eraseIdx j = I.eraseIdx j) := by show _ = _; rw [List.take_length]
            have HE0 : Hid ((I.take 0).eraseIdx j = []) := by show _ = _; simp
            have HCV := Lib.hid (HIN.out j hjl)
            have hdj := HIO.out _ (atN_mem hjl)
            have hmj := HIA.out _ (atN_mem hjl)
            obtain ⟨Q, hQ⟩ : ∃ Q : Nat → List Cn, ∀ k, (I.take k).eraseIdx j = Q k := ⟨fun k => (I.take k).eraseIdx j, fun _ => rfl⟩
            have HQO : Hid (∀ k, ∀ d, d ∈ Q k → okN d) := fun k d hd => HIO.out d (by rw [← hQ] at hd; exact List.mem_of_mem_take (mem_erase hd))
            simp only [hQ] at HER HEL HE1 HE0
            rw [← HE1.out] at HCV
            clear hQ HE1
            go_wp2_with fail
            go_loopw [11, 12] (fun o i wr => ∃ (k : Nat) (A' : Option Addr) (c' : Nat), k ≤ I.length ∧ o = .slice A' (Q k).length c' ∧ i = .int .i64 k ∧ OwC wr wq.heap.size A' c' ((Q k).map zc) ∧ Below wq.heap.size wq wr) (fun _ i _ => I.length - (intOf i).toNat)
            case atStart => exact ⟨0, none, 0, Nat.zero_le _, by rw [HE0.out]; rfl, rfl, by rw [HE0.out]; exact OwC.nil_ _ _, Below.refl _ _⟩
            case round =>
              obtain ⟨k, A', c', hk, rfl, rfl, own, hb3⟩ := hrel
              obtain ⟨wu, rfl⟩ : ∃ wu : World, wu = wr := ⟨_, rfl⟩
              have hlen := HEL.out k
              have hb3z := hb3.size
              have hbU : Below w5.heap.size w5 wu := hb2.trans (hb3.mono hb2z)
              by_cases hlt : k < I.length
              · by_cases hki : k = j
                · have HX : Hid (Q (k + 1) = Q k) := by show _ = _; rw [HER.out k hlt, if_pos hki, List.append_nil]
                  subst hki
                  go_wp2_with fail
                  go_roundw
                  case rel => exact ⟨k + 1, A', c', by omega, by rw [HX.out], by go_num, by rw [HX.out]; exact own, hb3⟩
                  case measure => simp [intOf]; omega
                · have HX : Hid (Q (k + 1) = Q k ++ [atN I k]) := by show _ = _; rw [HER.out k hlt, if_neg hki]
                  have e1 : ((k : Int) != (j : Int)) = true := by rw [bne_iff_ne]; omega
                  obtain ⟨b, off, rfl, hbb, y1, y2⟩ := (RC.out.below hbU).rd.at_ (k := k) (c := zc (atN I k)) (by rw [List.getElem?_map, List.getElem?_eq_getElem hlt, atN_lt hlt]; rfl)
                  generalize atN I k = d at *
                  obtain ⟨d1, d2⟩ := d
                  have HO := Lib.hid own
                  have hlm : ((Q k).map zc).length = (Q k).length := by simp
                  clear own hki
                  rw [← hlm]
                  go_wp2_with (first | (at_builtin; refine wpList_appC1 rfl (.tmp 76) (.tmp 81) rfl wq.heap.size A' c' ((Q k).map zc) (by simp [Act.eval]) (HO.out.alloc _) (zc (d1, d2)) wu.heap.size rfl (by simp [go_sem]) (by simp [go_sem]) (by simp; omega) (by simp; omega) ?_; intro A5 c5 w5 own5 hb5 hg5) | fail)
                  go_roundw
                  case rel => exact ⟨k + 1, A5, c5, by omega, by rw [HX.out]; simp, by go_num, by rw [HX.out]; simpa using own5, (by have z0 := Below.size hb3; have z1 := Below.size hb5; (try simp only [World.size_alloc, World.size_setCell, World.size_drew, size_drewN'] at z0 z1 ⊢; skip); repeat' (first | (with_reducible exact Below.refl _ _) | (with_reducible assumption) | (with_reducible refine Below.alloc ?_ ?_ _) | (with_reducible refine Below.drew ?_) | (with_reducible refine below_drewN ?_ _) | (with_reducible refine Below.setCell ?_ ?_ _) | (with_reducible refine Below.trans ?_ (Below.mono (by with_reducible assumption) ?_)) | omega | (simp only [World.size_alloc, World.size_setCell, World.size_drew, size_drewN']; omega) | go_size))⟩
                  case measure => simp [intOf]; omega
              · obtain rfl : k = I.length := by omega
                obtain ⟨b, off, eA, hbb, y1, y2⟩ := (RC.out.below hbU).rd.at_ (k := j) (c := zc (atN I j)) (by rw [List.getElem?_map, List.getElem?_eq_getElem hjl, atN_lt hjl]; rfl)
                subst eA
                have KC := Lib.hid (covers_ok A' (Q I.length) (Q I.length).length c' (atN I j) wu rfl (by omega) (HQO.out _) hdj own.rd)
                rw [HCV.out] at KC
                have KH := Lib.hid (fun W (hW : Below wu.heap.size wu W) => has13_t (q := c1) rfl (by omega) (RA.out.below (hbU.trans (hW.mono (by omega)))).rd hmj)
                generalize atN I j = d at *
                obtain ⟨d1, d2⟩ := d
                have i1 : (0 : Int) ≤ (j : Int) := by omega
                have i2 : (j : Int) < (I.length : Int) := by omega
                clear own hdj hmj HER HEL HE0 HCV HQO
                generalize (Q I.length).length = nq at *
                go_wp2_with fail
                refine KC.out.mono ?_
                rintro e w7 ⟨rfl, hb7⟩
                have z1 := (below_at hb7 b _ (by omega)).trans y1
                have z2 := (below_at hb7 b _ (by omega)).trans y2
                have KH2 := Lib.hid (KH.out w7 hb7)
                have hb7z := hb7.size
                clear KH KC y1 y2
                go_wp2_with fail
                refine KH2.out.mono ?_
                rintro e w8 ⟨rfl, hb8⟩
                go_wp2_with fail
                go_roundw
                case rel => exact ⟨j + 1, by omega, by go_num, (by have z0 := Below.size hb2; have z1 := Below.size hb3; have z2 := Below.size hb7; have z3 := Below.size hb8; (try simp only [World.size_alloc, World.size_setCell, World.size_drew, size_drewN'] at z0 z1 z2 z3 ⊢; skip); repeat' (first | (with_reducible exact Below.refl _ _) | (with_reducible assumption) | (with_reducible refine Below.alloc ?_ ?_ _) | (with_reducible refine Below.drew ?_) | (with_reducible refine below_drewN ?_ _) | (with_reducible refine Below.setCell ?_ ?_ _) | (with_reducible refine Below.trans ?_ (Below.mono (by with_reducible assumption) ?_)) | omega | (simp only [World.size_alloc, World.size_setCell, World.size_drew, size_drewN']; omega) | go_size))⟩
                case measure => simp [intOf]; omega
          · go_wp2_with fail
            go_returns
            exact ⟨rfl, HB.out.trans (hb2.mono (by have := HB.out.size; omega))⟩
  · rw [decide_eq_false hvd] at K1
    generalize f.vars = v at *
    generalize f.nn = nn at *
    generalize f.top = tp at *
    clear h hvd ht
    go_enter Try.func17, Try.ntmps17
    go_wp2_with fail
    refine (awake13_any _).mono ?_
    rintro e w1 ⟨rfl, hb1⟩
    have hb1z := hb1.size
    simp only [World.size_alloc] at hb1z
    have x1_0 : w1.cell? ⟨w.heap.size, 0, none⟩ = some (.int .i64 v) := (below_at hb1 (w.heap.size) 0 (by first | (simp; done) | (simp; omega))).trans (by simp [go_sem])
    have x1_1 : w1.cell? ⟨w.heap.size, 1, none⟩ = some (.slice A nn c) := (below_at hb1 (w.heap.size) 1 (by first | (simp; done) | (simp; omega))).trans (by simp [go_sem])
    have x1_2 : w1.cell? ⟨w.heap.size, 2, none⟩ = some (.int .i64 tp) := (below_at hb1 (w.heap.size) 2 (by first | (simp; done) | (simp; omega))).trans (by simp [go_sem])
    have hbA1 : Below w.heap.size w w1 := (by have z0 := Below.size hb1; (try simp only [World.size_alloc, World.size_setCell, World.size_drew, size_drewN'] at z0 ⊢; skip); repeat' (first | (with_reducible exact Below.refl _ _) | (with_reducible assumption) | (with_reducible refine Below.alloc ?_ ?_ _) | (with_reducible refine Below.drew ?_) | (with_reducible refine below_drewN ?_ _) | (with_reducible refine Below.setCell ?_ ?_ _) | (with_reducible refine Below.trans ?_ (Below.mono (by with_reducible assumption) ?_)) | omega | (simp only [World.size_alloc, World.size_setCell, World.size_drew, size_drewN']; omega) | go_size))
    clear hb1
    go_wp2_with fail
    refine (K1.out _ hbA1).mono ?_
    rintro e w2 ⟨rfl, hb2⟩
    have hb2z := hb2.size
    have x2_0 := (below_at hb2 (w.heap.size) 0 (by omega)).trans x1_0
    have x2_1 := (below_at hb2 (w.heap.size) 1 (by omega)).trans x1_1
    have x2_2 := (below_at hb2 (w.heap.size) 2 (by omega)).trans x1_2
    have hbA2 : Below w.heap.size w w2 := (by have z0 := Below.size hbA1; have z1 := Below.size hb2; (try simp only [World.size_alloc, World.size_setCell, World.size_drew, size_drewN'] at z0 z1 ⊢; skip); repeat' (first | (with_reducible exact Below.refl _ _) | (with_reducible assumption) | (with_reducible refine Below.alloc ?_ ?_ _) | (with_reducible refine Below.drew ?_) | (with_reducible refine below_drewN ?_ _) | (with_reducible refine Below.setCell ?_ ?_ _) | (with_reducible refine Below.trans ?_ (Below.mono (by with_reducible assumption) ?_)) | omega | (simp only [World.size_alloc, World.size_setCell, World.size_drew, size_drewN']; omega) | go_size))
    clear x1_0 x1_1 x1_2 hb2 hbA1
    go_wp2_with fail
    refine (awake13_any _).mono ?_
    rintro e w3 ⟨rfl, hb3⟩
    have hb3z := hb3.size
    have hbA3 : Below w.heap.size w w3 := (by have z0 := Below.size hbA2; have z1 := Below.size hb3; (try simp only [World.size_alloc, World.size_setCell, World.size_drew, size_drewN'] at z0 z1 ⊢; skip); repeat' (first | (with_reducible exact Below.refl _ _) | (with_reducible assumption) | (with_reducible refine Below.alloc ?_ ?_ _) | (with_reducible refine Below.drew ?_) | (with_reducible refine below_drewN ?_ _) | (with_reducible refine Below.setCell ?_ ?_ _) | (with_reducible refine Below.trans ?_ (Below.mono (by with_reducible assumption) ?_)) | omega | (simp only [World.size_alloc, World.size_setCell, World.size_drew, size_drewN']; omega) | go_size))
    clear hb3 hbA2
    go_wp2_with fail
    go_returns
    exact ⟨rfl, hbA3⟩
end
end Go.Proofs.Ytedopalmfakeaaa
