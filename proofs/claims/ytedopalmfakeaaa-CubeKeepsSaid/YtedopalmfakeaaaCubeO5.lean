/- Contracts of functions and lemmas, used by the proofs of the given statements. No condition beyond those that each lemma names. -/
import Derived.Test.YtedopalmfakeaaaCubeO3
import Derived.Test.YtedopalmfakeaaaCubeO4
import Derived.WalkMore
namespace Go.Proofs.Ytedopalmfakeaaa
open Go.RowKit
set_option linter.unusedSimpArgs false
set_option linter.unusedVariables false
set_option maxRecDepth 20000
attribute [local irreducible] pop popc ltN
/-! ## slices.SortedFunc at cubes; package cube: Absorb -/
theorem cmpC : CmpC 83 := fun a b w ha hb => compare_any a b w ha hb
set_option maxHeartbeats 1000000 in
theorem sortedC (f : FuncId) (hf : CmpC f) (eg : ∀ args w, (callFunc f args).run Try.prog w = .ok (.enter f args) w) (Bs cap : Nat) (A : Option Addr) (l : List Cn) (hn : l.length ≤ 1000000) (hok : ∀ a ∈ l, okN a) (w : World) (hBs : Bs < w.heap.size)
    (hc : w.cell? ⟨Bs, 0, none⟩ = some (.slice A l.length cap)) (hI : RdC w w.heap.size A (l.map zc)) :
    Calls Try.prog 81 #[.func (.func 113) #[] #[.pointer (some ⟨Bs, 0, none⟩)], .func (.func f) #[] #[]] w fun e w' => (∃ s A' c', srtC l s ∧ e = .returned (.slice A' l.length c') ∧ OwC w' w.heap.size A' c' (s.map zc)) ∧ Below w.heap.size w w' := by
  have HO := Lib.hid hok
  have HF := Lib.hid hf
  have HE := Lib.hid eg
  have K := collectC Bs cap A (l.map zc) (by simpa using hn) w hBs (by simpa using hc) hI
  rw [List.length_map] at K
  have HK := Lib.hid K
  clear K hok hf eg
  go_enter Try.func81, Try.ntmps81
  go_wp2_with fail
  refine HK.out.mono ?_
  rintro e w1 ⟨A1, c1, rfl, own1, hb1⟩
  go_wp2_with fail
  refine (sort_any (base := w.heap.size) f HF.out HE.out HO.out own1 hn).mono ?_
  rintro e w2 ⟨rfl, s, hs, own2, hb2⟩
  go_wp2
  go_ret
  exact ⟨⟨s, A1, c1, hs, rfl, own2⟩, hb1.trans hb2⟩
theorem grdL_take (s : List Cn) {k : Nat} (hk : k < s.length) : grdL wiN (s.take (k + 1)) = grd wiN (grdL wiN (s.take k)) s[k] := by
  unfold grdL
  rw [List.take_succ_eq_append_getElem hk, List.foldl_append]
  rfl
theorem grd_len (s : List Cn) (c : Cn) : (grd wiN s c).length ≤ s.length + 1 := by
  unfold grd
  split <;> simp
theorem grdL_len (s : List Cn) : ∀ k, k ≤ s.length → (grdL wiN (s.take k)).length ≤ k
  | 0, _ => by simp [grdL]
  | k + 1, h => by
    have h1 := grdL_len s k (by omega)
    have h2 := grd_len (grdL wiN (s.take k)) s[k]
    rw [grdL_take s (by omega)]
    omega
theorem grdL_mem (s : List Cn) : ∀ k, k ≤ s.length → ∀ a ∈ grdL wiN (s.take k), a ∈ s
  | 0, _, a, ha => by simp [grdL] at ha
  | k + 1, h, a, ha => by
    rw [grdL_take s (by omega)] at ha
    unfold grd at ha
    split at ha
    · exact grdL_mem s k (by omega) a ha
    · rcases List.mem_append.1 ha with h1 | h1
      · exact grdL_mem s k (by omega) a h1
      · have : a = s[k] := by simpa using h1
        rw [this]; exact List.getElem_mem _
set_option maxHeartbeats 4000000 in
theorem absorb_any (A : Option Addr) (l : List Cn) (nl c : Nat) (w : World) (hl : l.length = nl) (hn : nl ≤ 1024) (hok : ∀ a ∈ l, okN a) (h : RdC w w.heap.size A (l.map zc)) :
    Calls Try.prog 47 #[.slice A nl c] w fun e w' => (∃ A' c', e = .returned (.tuple #[.slice A' (absD ltN wiN l).length c', .nilIface]) ∧ OwC w' w.heap.size A' c' ((absD ltN wiN l).map zc)) ∧ Below w.heap.size w w' := by
  subst hl
  have HZ : Hid (chkLL (l.map zc) = 0) := chkLL_of_ok hok (by omega)
  have HL : Hid ((l.map zc).length = l.length) := by show (l.map zc).length = l.length; simp
  have HO := Lib.hid hok
  clear hok
  go_enter Try.func47, Try.ntmps47
  go_wp2
  go_step3
  go_wp2_with ((go_at_call 79; (with_reducible refine (ok_case (checkList_any A (l.map zc) l.length c _ HL.out (by omega) h) HZ.out).mono ?_); rintro e w1 ⟨rfl, hb1⟩))
  refine (valuesC A l.length c _).mono ?_
  rintro e w1' ⟨rfl, rfl⟩
  have hb1z := hb1.size
  go_wp2_with fail
  refine (sortedC 83 cmpC (enters_of Try.func83 (by kernel_rfl) rfl) w1.heap.size c A l (by omega) HO.out (w1.alloc (.cells #[.slice A l.length c] 35)) (by simp) (by simp [go_sem]) (h.on (by have z0 := Below.size hb1; (try simp only [World.size_alloc, World.size_setCell, World.size_drew, size_drewN'] at z0 ⊢; skip); repeat' (first | (with_reducible exact Below.refl _ _) | (with_reducible assumption) | (with_reducible refine Below.alloc ?_ ?_ _) | (with_reducible refine Below.drew ?_) | (with_reducible refine below_drewN ?_ _) | (with_reducible refine Below.setCell ?_ ?_ _) | (with_reducible refine Below.trans ?_ (Below.mono (by with_reducible assumption) ?_)) | omega | (simp only [World.size_alloc, World.size_setCell, World.size_drew, size_drewN']; omega) | go_size)) (by simp; omega))).mono ?_
  rintro e w2 ⟨⟨s, As, cs, hs, rfl, own0⟩, hb2⟩
  have hbA : Below w.heap.size w w2 := (by have z0 := Below.size hb1; have z1 := Below.size hb2; (try simp only [World.size_alloc, World.size_setCell, World.size_drew, size_drewN'] at z0 z1 ⊢; skip); repeat' (first | (with_reducible exact Below.refl _ _) | (with_reducible assumption) | (with_reducible refine Below.alloc ?_ ?_ _) | (with_reducible refine Below.drew ?_) | (with_reducible refine below_drewN ?_ _) | (with_reducible refine Below.setCell ?_ ?_ _) | (with_reducible refine Below.trans ?_ (Below.mono (by with_reducible assumption) ?_)) | omega | (simp only [World.size_alloc, World.size_setCell, World.size_drew, size_drewN']; omega) | go_size))
  have hsl : s.length = l.length := hs.1.length_eq
  have HSO : Hid (∀ a ∈ s, okN a) := fun a ha => HO.out a (hs.1.mem_iff.1 ha)
  have HG : Hid (grdL wiN s = absD ltN wiN l) := grdL_eq ltN_o wiN_o l s hs.2 (fun x => hs.1.mem_iff)
  have hsn : s.length ≤ 1024 := by omega
  rw [← hsl] at *
  obtain ⟨ws, rfl⟩ : ∃ ws : World, ws = w2 := ⟨_, rfl⟩
  have rds := own0.rd
  clear hs hb1 hb2 hb1z own0 hsl HZ HL HO
  have hws := hbA.size
  go_wp2
  go_step3
  go_wp2
  go_loopw [6, 21] (fun o i wr => ∃ (k : Nat) (A' : Option Addr) (c' : Nat) (out : List Cn), k ≤ s.length ∧ i = .int .i64 k ∧ out = grdL wiN (s.take k) ∧ o = .slice A' out.length c' ∧ OwC wr ws.heap.size A' c' (out.map zc) ∧ Below ws.heap.size ws wr) (fun _ i _ => s.length - (intOf i).toNat)
  case atStart => exact ⟨0, none, 0, [], Nat.zero_le _, by first | rfl | (simp; done), by simp [grdL], rfl, OwC.nil_ _ _, Below.refl _ _⟩
  case round =>
    obtain ⟨k, A', c', out, hk, rfl, hout, rfl, own, hb⟩ := hrel
    have hol : out.length ≤ k := by rw [hout]; exact grdL_len s k hk
    have HOO : Hid (∀ a ∈ out, okN a) := fun a ha => HSO.out a (by rw [hout] at ha; exact grdL_mem s k hk a ha)
    have HT := Lib.hid hout
    clear hout
    have hbz := hb.size
    obtain ⟨wo, rfl⟩ : ∃ wo : World, wo = wr := ⟨_, rfl⟩
    by_cases hlt : k < s.length
    · obtain ⟨b, off, rfl, hbb, y1, y2⟩ := (rds.below hb).at_ (k := k) (c := zc s[k]) (by simp [hlt])
      have hdk := HSO.out s[k] (List.getElem_mem _)
      have HN := Lib.hid (grdL_take s hlt)
      obtain ⟨g, hg⟩ : ∃ g, g = s[k] := ⟨_, rfl⟩
      rw [← hg] at y1 y2 hdk HN
      have HX : Hid (grdL wiN (s.take (k + 1)) = grd wiN out g) := by show _ = _; rw [HN.out, ← HT.out]
      clear hg HN HT
      go_wp2
      go_loopw [27] (fun j w2 => ∃ jj : Nat, jj ≤ out.length ∧ j = .int .i64 jj ∧ (∀ q (hq : q < out.length), q < jj → wiN g out[q] = false) ∧ Below wo.heap.size wo w2 ∧ wo.heap.size < w2.heap.size ∧ w2.cell? ⟨wo.heap.size, 0, none⟩ = some (.int .i64 (g.1 : Int)) ∧ w2.cell? ⟨wo.heap.size, 1, none⟩ = some (.int .i64 (g.2 : Int))) (fun j _ => out.length - (intOf j).toNat)
      case atStart => exact ⟨0, Nat.zero_le _, by first | rfl | (simp; done), fun q hq h0 => by omega, (by (skip); repeat' (first | (with_reducible exact Below.refl _ _) | (with_reducible assumption) | (with_reducible refine Below.alloc ?_ ?_ _) | (with_reducible refine Below.drew ?_) | (with_reducible refine below_drewN ?_ _) | (with_reducible refine Below.setCell ?_ ?_ _) | (with_reducible refine Below.trans ?_ (Below.mono (by with_reducible assumption) ?_)) | omega | (simp only [World.size_alloc, World.size_setCell, World.size_drew, size_drewN']; omega) | go_size)), by simp, by simp [go_sem], by simp [go_sem]⟩
      case round =>
        obtain ⟨jj, hj, rfl, hr, hb2, hz2, x1, x2⟩ := hrel
        have HR := Lib.hid hr
        clear hr y1 y2
        obtain ⟨wt, rfl⟩ : ∃ wt : World, wt = wr := ⟨_, rfl⟩
        have own2 := own.below hb2
        have hb2z := hb2.size
        by_cases hjk : jj < out.length
        · obtain ⟨gb, rfl, gb1, gb2⟩ := own2.blk (by intro e; rw [List.map_eq_nil_iff] at e; rw [e] at hjk; simp at hjk)
          obtain ⟨z1, z2⟩ := own2.cells (k := jj) (x := zc out[jj]) (by simp [hjk])
          have hd := HOO.out out[jj] (List.getElem_mem _)
          obtain ⟨d, hd0⟩ : ∃ d, d = out[jj] := ⟨_, rfl⟩
          rw [← hd0] at z1 z2 hd
          have HD0 := Lib.hid hd0
          clear hd0
          by_cases hp : wiN g d = true
          · have K := within_any g d hdk hd
            rw [hp] at K
            have HE : Hid (grd wiN out g = out) := by
              show _ = _
              unfold grd
              rw [if_pos (List.any_eq_true.2 ⟨out[jj], List.getElem_mem _, by rw [← HD0.out]; exact hp⟩)]
            clear hp HR
            go_wp2_with (go_at_call 74; (with_reducible refine (K _).mono ?_); rintro e w3 ⟨rfl, hb3⟩; have hb3z := Below.size hb3; (try simp only [World.size_alloc, World.size_setCell, World.size_drew] at hb3z); have hb3c0 := fun o => below_at hb3 (wo.heap.size) o (by first | omega | (simp only [World.size_alloc, World.size_setCell, World.size_drew]; omega)); have hb3f0 := fun o => below_fr hb3 (wo.heap.size) o (by first | omega | (simp only [World.size_alloc, World.size_setCell, World.size_drew]; omega)); have hb3l0 : wo.heap.size < (w3).heap.size := (by omega))
            go_roundw
            case rel => exact ⟨k + 1, _, c', out, by omega, by go_num, by rw [HX.out, HE.out], rfl, own2.below (by have z0 := Below.size hb3; (try simp only [World.size_alloc, World.size_setCell, World.size_drew, size_drewN'] at z0 ⊢; skip); repeat' (first | (with_reducible exact Below.refl _ _) | (with_reducible assumption) | (with_reducible refine Below.alloc ?_ ?_ _) | (with_reducible refine Below.drew ?_) | (with_reducible refine below_drewN ?_ _) | (with_reducible refine Below.setCell ?_ ?_ _) | (with_reducible refine Below.trans ?_ (Below.mono (by with_reducible assumption) ?_)) | omega | (simp only [World.size_alloc, World.size_setCell, World.size_drew, size_drewN']; omega) | go_size)), (by have z0 := Below.size hb; have z1 := Below.size hb2; have z2 := Below.size hb3; (try simp only [World.size_alloc, World.size_setCell, World.size_drew, size_drewN'] at z0 z1 z2 ⊢; skip); repeat' (first | (with_reducible exact Below.refl _ _) | (with_reducible assumption) | (with_reducible refine Below.alloc ?_ ?_ _) | (with_reducible refine Below.drew ?_) | (with_reducible refine below_drewN ?_ _) | (with_reducible refine Below.setCell ?_ ?_ _) | (with_reducible refine Below.trans ?_ (Below.mono (by with_reducible assumption) ?_)) | omega | (simp only [World.size_alloc, World.size_setCell, World.size_drew, size_drewN']; omega) | go_size))⟩
            case measure => simp [intOf]; omega
          · have hp' : wiN g d = false := by simpa using hp
            have K := within_any g d hdk hd
            rw [hp'] at K
            have HR' : Hid (∀ q (hq : q < out.length), q < jj + 1 → wiN g out[q] = false) := fun q hq h1 => by
              rcases Nat.lt_or_ge q jj with h2 | h2
              · exact HR.out q hq h2
              · have : q = jj := by omega
                subst this
                rw [← HD0.out]; exact hp'
            clear hp hp' HR
            go_wp2_with (go_at_call 74; (with_reducible refine (K _).mono ?_); rintro e w3 ⟨rfl, hb3⟩; have hb3z := Below.size hb3; (try simp only [World.size_alloc, World.size_setCell, World.size_drew] at hb3z); have hb3c0 := fun o => below_at hb3 (wo.heap.size) o (by first | omega | (simp only [World.size_alloc, World.size_setCell, World.size_drew]; omega)); have hb3f0 := fun o => below_fr hb3 (wo.heap.size) o (by first | omega | (simp only [World.size_alloc, World.size_setCell, World.size_drew]; omega)); have hb3l0 : wo.heap.size < (w3).heap.size := (by omega))
            go_roundw
            case rel => exact ⟨jj + 1, by omega, by go_num, HR'.out, (by have z0 := Below.size hb2; have z1 := Below.size hb3; (try simp only [World.size_alloc, World.size_setCell, World.size_drew, size_drewN'] at z0 z1 ⊢; skip); repeat' (first | (with_reducible exact Below.refl _ _) | (with_reducible assumption) | (with_reducible refine Below.alloc ?_ ?_ _) | (with_reducible refine Below.drew ?_) | (with_reducible refine below_drewN ?_ _) | (with_reducible refine Below.setCell ?_ ?_ _) | (with_reducible refine Below.trans ?_ (Below.mono (by with_reducible assumption) ?_)) | omega | (simp only [World.size_alloc, World.size_setCell, World.size_drew, size_drewN']; omega) | go_size)), by omega, by simp [hb3c0, go_sem, hz2, x1], by simp [hb3c0, go_sem, hz2, x2]⟩
            case measure => simp [intOf]; omega
        · have HE : Hid (grd wiN out g = out ++ [g]) := by
            show _ = _
            unfold grd
            rw [if_neg]
            intro h1
            obtain ⟨x, hx, h2⟩ := List.any_eq_true.1 h1
            obtain ⟨q, hq, rfl⟩ := List.mem_iff_getElem.1 hx
            rw [HR.out q hq (by omega)] at h2
            cases h2
          clear HR
          go_wp2_with (at_builtin; refine wpList_appC1 rfl (.tmp 35) (.tmp 37) rfl ws.heap.size A' c' (out.map zc) (by simp [Act.eval]) (own2.alloc _) (zc g) wt.heap.size rfl (by simp [go_sem]) (by simp [go_sem]) (by simp; omega) (by simp; omega) ?_; intro A3 c3 w4 own4 hb4 hg4)
          go_roundw
          case rel => exact ⟨k + 1, A3, c3, out ++ [g], by omega, by go_num, by rw [HX.out, HE.out], by simp, by simpa using own4, (by have z0 := Below.size hb; have z1 := Below.size hb2; have z2 := Below.size hb4; (try simp only [World.size_alloc, World.size_setCell, World.size_drew, size_drewN'] at z0 z1 z2 ⊢; skip); repeat' (first | (with_reducible exact Below.refl _ _) | (with_reducible assumption) | (with_reducible refine Below.alloc ?_ ?_ _) | (with_reducible refine Below.drew ?_) | (with_reducible refine below_drewN ?_ _) | (with_reducible refine Below.setCell ?_ ?_ _) | (with_reducible refine Below.trans ?_ (Below.mono (by with_reducible assumption) ?_)) | omega | (simp only [World.size_alloc, World.size_setCell, World.size_drew, size_drewN']; omega) | go_size))⟩
          case measure => simp [intOf]; omega
    · have hall : s.take k = s := List.take_of_length_le (by omega)
      have HV : Hid (out = absD ltN wiN l) := by show out = _; rw [HT.out, hall, HG.out]
      clear HT hall
      go_wp2
      (try rw [Exit.noGoto_ret])
      go_returns
      exact ⟨⟨A', c', by rw [← HV.out]; rfl, by rw [← HV.out]; exact own.base_ hws⟩, hbA.trans (hb.mono hws)⟩
/-! ### refused lists -/
set_option maxHeartbeats 1000000 in
theorem absorb_bad (A : Option Addr) (l : List Cb) (nl c : Nat) (w : World) (hl : l.length = nl) (hn : nl ≤ 9223372036854775807) (h : RdC w w.heap.size A l) (hc : chkLL l ≠ 0) :
    Calls Try.prog 47 #[.slice A nl c] w fun e w' => e = .returned (.tuple #[.slice none 0 0, erV (chkLL l)]) ∧ Below w.heap.size w w' := by
  have HH := Lib.hid hc
  have HL := Lib.hid hl
  clear hc hl
  go_enter Try.func47, Try.ntmps47
  go_wp2
  go_step3
  go_wp2_with ((go_at_call 79; (with_reducible refine (no_case (checkList_any A l nl c _ HL.out hn h) HH.out).mono ?_); rintro e w1 ⟨rfl, hb1⟩))
  (try rw [Exit.noGoto_ret])
  go_returns
  exact ⟨rfl, (by have z0 := Below.size hb1; (try simp only [World.size_alloc, World.size_setCell, World.size_drew, size_drewN'] at z0 ⊢; skip); repeat' (first | (with_reducible exact Below.refl _ _) | (with_reducible assumption) | (with_reducible refine Below.alloc ?_ ?_ _) | (with_reducible refine Below.drew ?_) | (with_reducible refine below_drewN ?_ _) | (with_reducible refine Below.setCell ?_ ?_ _) | (with_reducible refine Below.trans ?_ (Below.mono (by with_reducible assumption) ?_)) | omega | (simp only [World.size_alloc, World.size_setCell, World.size_drew, size_drewN']; omega) | go_size))⟩
set_option maxHeartbeats 1000000 in
theorem cover_bad (A : Option Addr) (l : List Cb) (nl c : Nat) (w : World) (hl : l.length = nl) (hn : nl ≤ 9223372036854775807) (h : RdC w w.heap.size A l) (hc : chkLL l ≠ 0) :
    Calls Try.prog 43 #[.slice A nl c] w fun e w' => e = .returned (.tuple #[.slice none 0 0, erV (chkLL l)]) ∧ Below w.heap.size w w' := by
  have HH := Lib.hid hc
  have HL := Lib.hid hl
  clear hc hl
  go_enter Try.func43, Try.ntmps43
  go_wp2_with ((go_at_call 79; (with_reducible refine (no_case (checkList_any A l nl c _ HL.out hn h) HH.out).mono ?_); rintro e w1 ⟨rfl, hb1⟩))
  go_returns
  exact ⟨rfl, (by have z0 := Below.size hb1; (try simp only [World.size_alloc, World.size_setCell, World.size_drew, size_drewN'] at z0 ⊢; skip); repeat' (first | (with_reducible exact Below.refl _ _) | (with_reducible assumption) | (with_reducible refine Below.alloc ?_ ?_ _) | (with_reducible refine Below.drew ?_) | (with_reducible refine below_drewN ?_ _) | (with_reducible refine Below.setCell ?_ ?_ _) | (with_reducible refine Below.trans ?_ (Below.mono (by with_reducible assumption) ?_)) | omega | (simp only [World.size_alloc, World.size_setCell, World.size_drew, size_drewN']; omega) | go_size))⟩
set_option maxHeartbeats 1000000 in
theorem disj_bad (A : Option Addr) (l : List Cb) (nl c : Nat) (w : World) (hl : l.length = nl) (hn : nl ≤ 9223372036854775807) (h : RdC w w.heap.size A l) (hc : chkLL l ≠ 0) :
    Calls Try.prog 46 #[.slice A nl c] w fun e w' => e = .returned (.tuple #[.bool false, erV (chkLL l)]) ∧ Below w.heap.size w w' := by
  have HH := Lib.hid hc
  have HL := Lib.hid hl
  clear hc hl
  go_enter Try.func46, Try.ntmps46
  go_wp2_with ((go_at_call 79; (with_reducible refine (no_case (checkList_any A l nl c _ HL.out hn h) HH.out).mono ?_); rintro e w1 ⟨rfl, hb1⟩))
  go_returns
  exact ⟨rfl, (by have z0 := Below.size hb1; (try simp only [World.size_alloc, World.size_setCell, World.size_drew, size_drewN'] at z0 ⊢; skip); repeat' (first | (with_reducible exact Below.refl _ _) | (with_reducible assumption) | (with_reducible refine Below.alloc ?_ ?_ _) | (with_reducible refine Below.drew ?_) | (with_reducible refine below_drewN ?_ _) | (with_reducible refine Below.setCell ?_ ?_ _) | (with_reducible refine Below.trans ?_ (Below.mono (by with_reducible assumption) ?_)) | omega | (simp only [World.size_alloc, World.size_setCell, World.size_drew, size_drewN']; omega) | go_size))⟩
end Go.Proofs.Ytedopalmfakeaaa
