/- Contracts of functions and lemmas, used by the proofs of the given statements. No condition beyond those that each lemma names. -/
import Derived.Test.YtedopalmfakeaaaCubeA3
namespace Go.Proofs.Ytedopalmfakeaaa
open Go.RowKit
set_option linter.unusedSimpArgs false
set_option linter.unusedVariables false
set_option maxRecDepth 20000
/-! ## the reference's Absorb -/
/-- whether c stays, of the sorted list s -/
def stayN (s : List Cn) (c : Cn) : Bool := s.all fun x => x == c || !wiN c x
theorem absD_stay (l : List Cn) : absD ltN wiN l = (srtD ltN l).filter (stayN (srtD ltN l)) := by
  unfold absD
  congr 1
  funext c
  unfold stayN
  congr 1
  funext x
  by_cases h : x = c
  · subst h; simp
  · have e1 : (@BEq.beq Cn instBEqOfDecidableEq x c) = false := by simp [h]
    have e2 : (x == c) = false := by rw [beq_eq_false_iff_ne]; exact h
    rw [e2]
    exact congrArg (· || !wiN c x) e1
theorem filter_take (s : List Cn) (f : Cn → Bool) {k : Nat} (hk : k < s.length) : (s.take (k + 1)).filter f = (s.take k).filter f ++ if f s[k] then [s[k]] else [] := by
  rw [List.take_succ_eq_append_getElem hk, List.filter_append]
  congr 1
  cases h : f s[k] <;> simp [h]
def stayR (s : List Cn) (k : Nat) (hk : k < s.length) (n : Nat) : Prop := ∀ q (hq : q < s.length), q < n → q = k ∨ wiN s[k] s[q] = false
theorem stayR_all {s : List Cn} (hs : s.Pairwise fun a b => ltN a b = true) {k : Nat} (hk : k < s.length) : stayR s k hk s.length ↔ stayN s s[k] = true := by
  unfold stayN stayR
  rw [List.all_eq_true]
  constructor
  · intro h x hx
    obtain ⟨q, hq, rfl⟩ := List.mem_iff_getElem.1 hx
    rcases h q hq hq with h1 | h1
    · subst h1; simp
    · simp [h1]
  · intro h q hq _
    have := h s[q] (List.getElem_mem _)
    rw [Bool.or_eq_true] at this
    rcases this with h1 | h1
    · refine .inl ?_
      have e : s[q] = s[k] := by simpa using h1
      rw [List.pairwise_iff_getElem] at hs
      rcases Nat.lt_trichotomy q k with h2 | h2 | h2
      · have := hs q k hq hk h2
        rw [e, ltN_o.irr] at this; cases this
      · exact h2
      · have := hs k q hk hq h2
        rw [e, ltN_o.irr] at this; cases this
    · exact .inr (by simpa using h1)
attribute [local irreducible] pop popc ltN stayN
set_option maxHeartbeats 4000000 in
theorem rabsorb_any (A : Option Addr) (l : List Cn) (nl c : Nat) (w : World) (hl : l.length = nl) (hn : nl ≤ 100000) (hok : ∀ a ∈ l, okN a) (h : RdC w w.heap.size A (l.map zc)) :
    Calls Try.prog 50 #[.slice A nl c] w fun e w' => (∃ A' c', e = .returned (.slice A' (absD ltN wiN l).length c') ∧ OwC w' w.heap.size A' c' ((absD ltN wiN l).map zc)) ∧ Below w.heap.size w w' := by
  subst hl
  have HA := Lib.hid (absD_stay l)
  have hsl := srtD_len l l.length (Nat.le_refl _)
  rw [List.take_length] at hsl
  have HSO : Hid (∀ a ∈ srtD ltN l, okN a) := fun a ha => hok a ((srtD_mem ltN_o _ _).1 ha)
  have HSS : Hid ((srtD ltN l).Pairwise fun a b => ltN a b = true) := srtD_sorted ltN_o l
  have K := rsort_any A l l.length c w rfl (by omega) hok h
  generalize srtD ltN l = s at *
  have HK := Lib.hid K
  clear hok K
  go_enter Try.func50, Try.ntmps50
  go_wp2_with fail
  refine HK.out.mono ?_
  rintro e w1 ⟨⟨As, cs, rfl, own0⟩, hbA⟩
  have rds := own0.rd
  have hws := hbA.size
  obtain ⟨ws, rfl⟩ : ∃ ws : World, ws = w1 := ⟨_, rfl⟩
  clear own0 HK
  go_wp2
  go_loopw [3, 4, 5, 6] (fun o i u5 u6 wr => ∃ (k : Nat) (A' : Option Addr) (c' : Nat) (out : List Cn), k ≤ s.length ∧ out = (s.take k).filter (stayN s) ∧ o = .slice A' out.length c' ∧ i = .int .i64 k ∧ OwC wr ws.heap.size A' c' (out.map zc) ∧ Below ws.heap.size ws wr) (fun _ i _ _ _ => s.length - (intOf i).toNat)
  case atStart => exact ⟨0, none, 0, [], Nat.zero_le _, rfl, rfl, rfl, OwC.nil_ _ _, Below.refl _ _⟩
  case round =>
    obtain ⟨k, A', c', out, hk, hout, rfl, rfl, own, hb⟩ := hrel
    have hol : out.length ≤ k := by
      rw [hout]
      refine Nat.le_trans (List.length_filter_le _ _) ?_
      simp; omega
    have HT := Lib.hid hout
    clear hout
    have hbz := hb.size
    obtain ⟨wo, rfl⟩ : ∃ wo : World, wo = wr := ⟨_, rfl⟩
    by_cases hlt : k < s.length
    · have hdk := HSO.out s[k] (List.getElem_mem _)
      have HF := Lib.hid (filter_take s (stayN s) hlt)
      have HR0 := Lib.hid (stayR_all HSS.out hlt)
      go_wp2
      go_loopw [5, 6] (fun kv j w2 => ∃ (jj : Nat) (kp : Bool), jj ≤ s.length ∧ kv = .bool kp ∧ j = .int .i64 jj ∧ (kp = true ↔ stayR s k hlt jj) ∧ Below wo.heap.size wo w2) (fun _ j _ => s.length - (intOf j).toNat)
      case atStart => exact ⟨0, true, Nat.zero_le _, rfl, rfl, ⟨fun _ q hq h0 => by omega, fun _ => rfl⟩, Below.refl _ _⟩
      case round =>
        obtain ⟨jj, kp, hj, rfl, rfl, hr, hb2⟩ := hrel
        have HR := Lib.hid hr
        clear hr
        obtain ⟨wt, rfl⟩ : ∃ wt : World, wt = wr := ⟨_, rfl⟩
        have hb2z := hb2.size
        have hbt := hb.trans (hb2.mono hbz)
        by_cases hjk : jj < s.length
        · obtain ⟨b, off, rfl, hbb, y1, y2⟩ := (rds.below hbt).at_ (k := k) (c := zc s[k]) (by simp [hlt])
          obtain ⟨z1, z2⟩ := (rds.below hbt).cells (k := jj) (c := zc s[jj]) (by simp [hjk])
          have hd := HSO.out s[jj] (List.getElem_mem _)
          have HS : Hid (stayR s k hlt (jj + 1) ↔ stayR s k hlt jj ∧ (jj = k ∨ wiN s[k] s[jj] = false)) := by
            constructor
            · exact fun h1 => ⟨fun q hq h2 => h1 q hq (by omega), h1 jj hjk (by omega)⟩
            · rintro ⟨h1, h2⟩ q hq h3
              rcases Nat.lt_or_ge q jj with h4 | h4
              · exact h1 q hq h4
              · have : q = jj := by omega
                subst this
                exact h2
          generalize s[k] = g at *
          generalize s[jj] = d at *
          have f1 := fun y : Sub wt => y.cell y1
          have f2 := fun y : Sub wt => y.cell y2
          have f3 := fun y : Sub wt => y.cell z1
          have f4 := fun y : Sub wt => y.cell z2
          cases kp
          · have HX : Hid ((false : Bool) = true ↔ stayR s k hlt (jj + 1)) := ⟨fun h1 => (by cases h1), fun h1 => absurd (HR.out.2 (HS.out.1 h1).1) (by decide)⟩
            clear HS HR
            go_wp2
            ((refine wp_region_quiet_bel (by kernel_rfl) (by kernel_rfl) ?_); (repeat (go_big_quiet_step (fail))); (refine wpQuiet_nil ?_); rintro w3 ⟨⟨_, hb3⟩, rfl⟩; (try dsimp only))
            go_wp2
            go_roundw
            case rel => exact ⟨jj + 1, false, by omega, rfl, by go_num, HX.out, (by have z0 := Below.size hb2; have z1 := Below.size hb3; (try simp only [World.size_alloc, World.size_setCell, World.size_drew, size_drewN'] at z0 z1 ⊢; skip); repeat' (first | (with_reducible exact Below.refl _ _) | (with_reducible assumption) | (with_reducible refine Below.alloc ?_ ?_ _) | (with_reducible refine Below.drew ?_) | (with_reducible refine below_drewN ?_ _) | (with_reducible refine Below.setCell ?_ ?_ _) | (with_reducible refine Below.trans ?_ (Below.mono (by with_reducible assumption) ?_)) | omega | (simp only [World.size_alloc, World.size_setCell, World.size_drew, size_drewN']; omega) | go_size))⟩
            case measure => simp [intOf]; omega
          · by_cases hjk2 : jj = k
            · have HX : Hid ((true : Bool) = true ↔ stayR s k hlt (jj + 1)) := ⟨fun _ => HS.out.2 ⟨HR.out.1 rfl, .inl hjk2⟩, fun _ => rfl⟩
              have e1 : ((jj : Int) == (k : Int)) = true := by simp [hjk2]
              have HJ := Lib.hid hjk2
              clear HS HR hjk2
              go_wp2
              ((refine wp_region_quiet_bel (by kernel_rfl) (by kernel_rfl) ?_); (repeat (go_big_quiet_step (fail))); (refine wpQuiet_nil ?_); rintro w3 ⟨⟨_, hb3⟩, rfl⟩; (try dsimp only))
              go_wp2
              go_roundw
              case rel => exact ⟨jj + 1, true, by omega, rfl, by go_num, by simpa using HX.out, (by have z0 := Below.size hb2; have z1 := Below.size hb3; (try simp only [World.size_alloc, World.size_setCell, World.size_drew, size_drewN'] at z0 z1 ⊢; skip); repeat' (first | (with_reducible exact Below.refl _ _) | (with_reducible assumption) | (with_reducible refine Below.alloc ?_ ?_ _) | (with_reducible refine Below.drew ?_) | (with_reducible refine below_drewN ?_ _) | (with_reducible refine Below.setCell ?_ ?_ _) | (with_reducible refine Below.trans ?_ (Below.mono (by with_reducible assumption) ?_)) | omega | (simp only [World.size_alloc, World.size_setCell, World.size_drew, size_drewN']; omega) | go_size))⟩
              case measure => simp [intOf]; omega
            · have e1 : ((jj : Int) == (k : Int)) = false := by simp; omega
              obtain ⟨v, hv⟩ : ∃ v, v = wiN g d := ⟨_, rfl⟩
              have K := refImplies_any g d hdk hd
              rw [← hv] at K
              have K' := Lib.hid K
              clear K
              have HX : Hid ((!v) = true ↔ stayR s k hlt (jj + 1)) := by
                show _ ↔ _
                rw [HS.out, hv]
                constructor
                · intro h1
                  exact ⟨HR.out.1 rfl, .inr (by simpa using h1)⟩
                · rintro ⟨_, h1 | h1⟩
                  · exact absurd h1 hjk2
                  · simp [h1]
              clear HS HR hv
              go_wp2
              ((refine wp_region_quiet_bel (by kernel_rfl) (by kernel_rfl) ?_); (repeat (go_big_quiet_step ((go_at_call 33; with_reducible exact Calls.quiet_bel (K'.out _))))); (refine wpQuiet_nil ?_); rintro w3 ⟨⟨_, hb3⟩, rfl⟩; (try dsimp only))
              go_wp2
              go_roundw
              case rel => exact ⟨jj + 1, !v, by omega, rfl, by go_num, HX.out, (by have z0 := Below.size hb2; have z1 := Below.size hb3; (try simp only [World.size_alloc, World.size_setCell, World.size_drew, size_drewN'] at z0 z1 ⊢; skip); repeat' (first | (with_reducible exact Below.refl _ _) | (with_reducible assumption) | (with_reducible refine Below.alloc ?_ ?_ _) | (with_reducible refine Below.drew ?_) | (with_reducible refine below_drewN ?_ _) | (with_reducible refine Below.setCell ?_ ?_ _) | (with_reducible refine Below.trans ?_ (Below.mono (by with_reducible assumption) ?_)) | omega | (simp only [World.size_alloc, World.size_setCell, World.size_drew, size_drewN']; omega) | go_size))⟩
              case measure => simp [intOf]; omega
        · have hje : jj = s.length := by omega
          have HV : Hid (kp = true ↔ stayN s s[k] = true) := by
            show _ ↔ _
            rw [HR.out, hje, HR0.out]
          clear HR HR0 hje
          obtain ⟨b, off, rfl, hbb, y1, y2⟩ := (rds.below hbt).at_ (k := k) (c := zc s[k]) (by simp [hlt])
          cases kp
          · have HE : Hid ((s.take (k + 1)).filter (stayN s) = out) := by
              show _ = _
              have : stayN s s[k] = false := by
                cases h1 : stayN s s[k]
                · rfl
                · exact absurd (HV.out.2 h1) (by decide)
              rw [HF.out, this, HT.out]
              simp
            clear HV HF HT
            go_wp2
            go_roundw
            case rel => exact ⟨k + 1, A', c', out, by omega, HE.out.symm, rfl, by go_num, own.below hb2, hbt⟩
            case measure => simp [intOf]; omega
          · have HE : Hid ((s.take (k + 1)).filter (stayN s) = out ++ [s[k]]) := by
              show _ = _
              rw [HF.out, HV.out.1 rfl, HT.out]
              simp
            clear HV HF HT
            generalize s[k] = g at *
            have own2 := own.below hb2
            go_wp2_with (at_builtin; refine wpList_appC1 rfl (.tmp 40) (.tmp 45) rfl ws.heap.size A' c' (out.map zc) (by simp [Act.eval]) (own2.alloc _) (zc g) wt.heap.size rfl (by simp [go_sem]) (by simp [go_sem]) (by simp; omega) (by simp; omega) ?_; intro A3 c3 w4 own4 hb4 hg4)
            go_roundw
            case rel => exact ⟨k + 1, A3, c3, out ++ [g], by omega, HE.out.symm, by simp, by go_num, by simpa using own4, (by have z0 := Below.size hbt; have z1 := Below.size hb4; (try simp only [World.size_alloc, World.size_setCell, World.size_drew, size_drewN'] at z0 z1 ⊢; skip); repeat' (first | (with_reducible exact Below.refl _ _) | (with_reducible assumption) | (with_reducible refine Below.alloc ?_ ?_ _) | (with_reducible refine Below.drew ?_) | (with_reducible refine below_drewN ?_ _) | (with_reducible refine Below.setCell ?_ ?_ _) | (with_reducible refine Below.trans ?_ (Below.mono (by with_reducible assumption) ?_)) | omega | (simp only [World.size_alloc, World.size_setCell, World.size_drew, size_drewN']; omega) | go_size))⟩
            case measure => simp [intOf]; omega
    · have hall : s.take k = s := List.take_of_length_le (by omega)
      have HV : Hid (out = absD ltN wiN l) := by show out = _; rw [HT.out, hall, HA.out]
      clear HT hall
      go_wp2
      go_ret
      exact ⟨⟨A', c', by rw [← HV.out]; rfl, by rw [← HV.out]; exact own.base_ hws⟩, hbA.trans (hb.mono hws)⟩
end Go.Proofs.Ytedopalmfakeaaa
