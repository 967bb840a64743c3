/- Contracts of functions and lemmas, used by the proofs of the given statements. No condition beyond those that each lemma names. -/
import Derived.Test.YtedopalmfakeaaaCubeA2
namespace Go.Proofs.Ytedopalmfakeaaa
open Go.RowKit
set_option linter.unusedSimpArgs false
set_option linter.unusedVariables false
set_option maxRecDepth 20000
attribute [local irreducible] pop popc ltN
/-! ## the reference's Sort -/
theorem srtD_take (l : List Cn) {k : Nat} (hk : k < l.length) : srtD ltN (l.take (k + 1)) = insD ltN l[k] (srtD ltN (l.take k)) := by
  unfold srtD
  rw [List.take_succ_eq_append_getElem hk, List.foldl_append]
  rfl
theorem insD_len (c : Cn) : ∀ s : List Cn, (insD ltN c s).length ≤ s.length + 1
  | [] => by simp [insD]
  | x :: s => by
    have := insD_len c s
    unfold insD
    split
    · simp; omega
    · split <;> simp
theorem srtD_len (l : List Cn) : ∀ k, k ≤ l.length → (srtD ltN (l.take k)).length ≤ k
  | 0, _ => by simp [srtD]
  | k + 1, h => by
    have h1 := srtD_len l k (by omega)
    have h2 := insD_len l[k] (srtD ltN (l.take k))
    rw [srtD_take l (by omega)]
    omega
set_option maxHeartbeats 4000000 in
theorem rsort_any (A : Option Addr) (l : List Cn) (nl c : Nat) (w : World) (hl : l.length = nl) (hn : nl ≤ 1000000) (hok : ∀ a ∈ l, okN a) (h : RdC w w.heap.size A (l.map zc)) :
    Calls Try.prog 84 #[.slice A nl c] w fun e w' => (∃ A' c', e = .returned (.slice A' (srtD ltN l).length c') ∧ OwC w' w.heap.size A' c' ((srtD ltN l).map zc)) ∧ Below w.heap.size w w' := by
  subst hl
  have HO := Lib.hid hok
  clear hok
  go_enter Try.func84, Try.ntmps84
  go_wp2
  go_loopw [3, 4] (fun o i wr => ∃ (k : Nat) (s : List Cn) (A' : Option Addr) (c' : Nat), k ≤ l.length ∧ s = srtD ltN (l.take k) ∧ o = .slice A' s.length c' ∧ i = .int .i64 k ∧ OwC wr w.heap.size A' c' (s.map zc) ∧ Below w.heap.size w wr) (fun _ i _ => l.length - (intOf i).toNat)
  case atStart => exact ⟨0, [], none, 0, Nat.zero_le _, rfl, rfl, rfl, OwC.nil_ _ _, Below.refl _ _⟩
  case round =>
    obtain ⟨k, s, A', c', hk, hs, rfl, rfl, own, hb⟩ := hrel
    have hsl : s.length ≤ k := by rw [hs]; exact srtD_len l k hk
    have hso : ∀ a ∈ s, okN a := fun a ha => by
      rw [hs] at ha
      exact HO.out a (List.mem_of_mem_take ((srtD_mem ltN_o _ _).1 ha))
    have HS := Lib.hid hs
    have HSO := Lib.hid hso
    clear hs hso
    have hbz := hb.size
    obtain ⟨wo, rfl⟩ : ∃ wo : World, wo = wr := ⟨_, rfl⟩
    by_cases hlt : k < l.length
    · have hdk := HO.out l[k] (List.getElem_mem _)
      have HN := Lib.hid (srtD_take l hlt)
      obtain ⟨g, hg⟩ : ∃ g, g = l[k] := ⟨_, rfl⟩
      have HT : Hid (srtD ltN (l.take (k + 1)) = insD ltN g s) := by show _ = _; rw [HN.out, hg, HS.out]
      have HG := Lib.hid hg
      rw [← hg] at hdk
      clear hg HN HS
      go_wp2
      go_loopw [5] (fun j w2 => ∃ t : Nat, t ≤ s.length ∧ j = .int .i64 t ∧ (∀ q (hq : q < s.length), q < t → ltN s[q] g = true) ∧ Below wo.heap.size wo w2) (fun j _ => s.length - (intOf j).toNat)
      case atStart => exact ⟨0, Nat.zero_le _, rfl, fun q hq h0 => by omega, Below.refl _ _⟩
      case round =>
        obtain ⟨t, ht, rfl, hr, hb2⟩ := hrel
        have HR := Lib.hid hr
        clear hr
        have hbt := hb.trans (hb2.mono hbz)
        have own2 := own.below hb2
        obtain ⟨wt, rfl⟩ : ∃ wt : World, wt = wr := ⟨_, rfl⟩
        have hb2z := hb2.size
        obtain ⟨b, off, rfl, hbb, y1, y2⟩ := (h.below hbt).at_ (k := k) (c := zc g) (by simp [hlt, HG.out])
        have f1 := fun y : Sub wt => y.cell y1
        have f2 := fun y : Sub wt => y.cell y2
        by_cases htl : t < s.length
        · obtain ⟨gb, rfl, gb1, gb2⟩ := own2.blk (by intro e; rw [List.map_eq_nil_iff] at e; rw [e] at htl; simp at htl)
          obtain ⟨z1, z2⟩ := own2.cells (k := t) (x := zc s[t]) (by simp [htl])
          have hd := HSO.out s[t] (List.getElem_mem _)
          obtain ⟨d, hd0⟩ : ∃ d, d = s[t] := ⟨_, rfl⟩
          rw [← hd0] at z1 z2 hd
          have HD0 := Lib.hid hd0
          clear hd0
          have f3 := fun y : Sub wt => y.cell z1
          have f4 := fun y : Sub wt => y.cell z2
          by_cases hp : ltN d g = true
          · have K := before_any d g hd hdk
            rw [hp] at K
            have K' := Lib.hid K
            have HR' : Hid (∀ q (hq : q < s.length), q < t + 1 → ltN s[q] g = true) := fun q hq h1 => by
              rcases Nat.lt_or_ge q t with h2 | h2
              · exact HR.out q hq h2
              · have : q = t := by omega
                subst this
                rw [← HD0.out]; exact hp
            clear hp HR K
            go_wp2
            ((refine wp_region_quiet_bel (by kernel_rfl) (by kernel_rfl) ?_); (repeat (go_big_quiet_step ((go_at_call 116; with_reducible exact Calls.quiet_bel (K'.out _))))); (refine wpQuiet_nil ?_); rintro w3 ⟨⟨_, hb3⟩, rfl⟩; (try dsimp only))
            go_wp2
            go_roundw
            case rel => exact ⟨t + 1, by omega, by go_num, HR'.out, (by have z0 := Below.size hb2; have z1 := Below.size hb3; (try simp only [World.size_alloc, World.size_setCell, World.size_drew, size_drewN'] at z0 z1 ⊢; skip); repeat' (first | (with_reducible exact Below.refl _ _) | (with_reducible assumption) | (with_reducible refine Below.alloc ?_ ?_ _) | (with_reducible refine Below.drew ?_) | (with_reducible refine below_drewN ?_ _) | (with_reducible refine Below.setCell ?_ ?_ _) | (with_reducible refine Below.trans ?_ (Below.mono (by with_reducible assumption) ?_)) | omega | (simp only [World.size_alloc, World.size_setCell, World.size_drew, size_drewN']; omega) | go_size))⟩
            case measure => simp [intOf]; omega
          · have hp' : ltN d g = false := by simpa using hp
            have K := before_any d g hd hdk
            rw [hp'] at K
            have K' := Lib.hid K
            clear hp K
            have HP := Lib.hid hp'
            clear hp'
            go_wp2
            ((refine wp_region_quiet_bel (by kernel_rfl) (by kernel_rfl) ?_); (repeat (go_big_quiet_step ((go_at_call 116; with_reducible exact Calls.quiet_bel (K'.out _))))); (refine wpQuiet_nil ?_); rintro w3 ⟨⟨_, hb3⟩, rfl⟩; (try dsimp only))
            have hb3z := hb3.size
            have y1' : w3.cell? ⟨b, off + k * 2, none⟩ = _ := (below_at hb3 b _ (by omega)).trans y1
            have y2' : w3.cell? ⟨b, off + k * 2 + 1, none⟩ = _ := (below_at hb3 b _ (by omega)).trans y2
            have z1' : w3.cell? ⟨gb, t * 2, none⟩ = _ := (below_at hb3 gb _ gb2).trans z1
            have z2' : w3.cell? ⟨gb, t * 2 + 1, none⟩ = _ := (below_at hb3 gb _ gb2).trans z2
            clear f1 f2 f3 f4
            have g1 := fun y : Sub w3 => y.cell y1'
            have g2 := fun y : Sub w3 => y.cell y2'
            have g3 := fun y : Sub w3 => y.cell z1'
            have g4 := fun y : Sub w3 => y.cell z2'
            by_cases hdg : d = g
            · have e1 : ((d.1 : Int) == (g.1 : Int)) = true := by simp [hdg]
              have e2 : ((d.2 : Int) == (g.2 : Int)) = true := by simp [hdg]
              have HI : Hid (insD ltN g s = s) := insD_same g s t htl (fun j hj => HR.out j (by omega) hj) (by rw [← HD0.out]; exact HP.out) (by rw [← HD0.out]; exact hdg)
              clear HR
              go_wp2
              ((refine wp_region_quiet_bel (by kernel_rfl) (by kernel_rfl) ?_); (repeat (go_big_quiet_step (fail))); (refine wpQuiet_nil ?_); rintro w4 ⟨⟨_, hb4⟩, rfl⟩; (try dsimp only))
              go_wp2
              go_roundw
              case rel => exact ⟨k + 1, s, _, c', by omega, by rw [HT.out, HI.out], rfl, by go_num, own2.below (hb3.trans (hb4.mono hb3.size)), (by have z0 := Below.size hbt; have z1 := Below.size hb3; have z2 := Below.size hb4; (try simp only [World.size_alloc, World.size_setCell, World.size_drew, size_drewN'] at z0 z1 z2 ⊢; skip); repeat' (first | (with_reducible exact Below.refl _ _) | (with_reducible assumption) | (with_reducible refine Below.alloc ?_ ?_ _) | (with_reducible refine Below.drew ?_) | (with_reducible refine below_drewN ?_ _) | (with_reducible refine Below.setCell ?_ ?_ _) | (with_reducible refine Below.trans ?_ (Below.mono (by with_reducible assumption) ?_)) | omega | (simp only [World.size_alloc, World.size_setCell, World.size_drew, size_drewN']; omega) | go_size))⟩
              case measure => simp [intOf]; omega
            · by_cases h1 : d.1 = g.1
              · have h2 : d.2 ≠ g.2 := fun e => hdg (Prod.ext h1 e)
                have e1 : ((d.1 : Int) == (g.1 : Int)) = true := by simp [h1]
                have e2 : ((d.2 : Int) == (g.2 : Int)) = false := by simp; omega
                have HI : Hid (insD ltN g s = s.take t ++ g :: s.drop t) := insD_new g s t ht (fun j hj => HR.out j (by omega) hj) (fun h1 => ⟨by rw [← HD0.out]; exact HP.out, by rw [← HD0.out]; exact hdg⟩)
                clear HR
                go_wp2
                ((refine wp_region_quiet_bel (by kernel_rfl) (by kernel_rfl) ?_); (repeat (go_big_quiet_step (fail))); (refine wpQuiet_nil ?_); rintro w4 ⟨⟨_, hb4⟩, rfl⟩; (try dsimp only))
                have hb4z := hb4.size
                replace y1' : w4.cell? ⟨b, off + k * 2, none⟩ = _ := (below_at hb4 b _ (by omega)).trans y1'
                replace y2' : w4.cell? ⟨b, off + k * 2 + 1, none⟩ = _ := (below_at hb4 b _ (by omega)).trans y2'
                clear g1 g2 g3 g4 z1 z2 z1' z2' y1 y2
                have HI0 := HI.out
                have HI' : Hid (insD ltN g s = gap s t g) := HI0
                have ownX : OwC w4 w.heap.size (some ⟨gb, 0, none⟩) c' (s.map zc) := own2.below (hb3.trans (hb4.mono hb3.size))
                have hbX : Below w.heap.size w w4 := (by have z0 := Below.size hbt; have z1 := Below.size hb3; have z2 := Below.size hb4; (try simp only [World.size_alloc, World.size_setCell, World.size_drew, size_drewN'] at z0 z1 z2 ⊢; skip); repeat' (first | (with_reducible exact Below.refl _ _) | (with_reducible assumption) | (with_reducible refine Below.alloc ?_ ?_ _) | (with_reducible refine Below.drew ?_) | (with_reducible refine below_drewN ?_ _) | (with_reducible refine Below.setCell ?_ ?_ _) | (with_reducible refine Below.trans ?_ (Below.mono (by with_reducible assumption) ?_)) | omega | (simp only [World.size_alloc, World.size_setCell, World.size_drew, size_drewN']; omega) | go_size))
                have hbXz := hbX.size
                clear HI HI0 own own2 hb hb2 hbt
                go_wp2_with (first | (at_builtin; refine wpList_appC1 rfl (.tmp 45) (.tmp 50) rfl w.heap.size (some ⟨gb, 0, none⟩) c' (s.map zc) (by simp [Act.eval]) (ownX.alloc _) (zc g) w4.heap.size rfl (by simp [go_sem]) (by simp [go_sem]) (by simp; omega) (by simp; omega) ?_; intro A2 c2 w5 own5 hb5 hg5) | fail)
                have hbY : Below w.heap.size w w5 := (by have z0 := Below.size hbX; have z1 := Below.size hb5; (try simp only [World.size_alloc, World.size_setCell, World.size_drew, size_drewN'] at z0 z1 ⊢; skip); repeat' (first | (with_reducible exact Below.refl _ _) | (with_reducible assumption) | (with_reducible refine Below.alloc ?_ ?_ _) | (with_reducible refine Below.drew ?_) | (with_reducible refine below_drewN ?_ _) | (with_reducible refine Below.setCell ?_ ?_ _) | (with_reducible refine Below.trans ?_ (Below.mono (by with_reducible assumption) ?_)) | omega | (simp only [World.size_alloc, World.size_setCell, World.size_drew, size_drewN']; omega) | go_size))
                have hbYz := hbY.size
                obtain ⟨g5, rfl, g51, g52⟩ := own5.blk (by simp)
                have own6 : OwC w5 w.heap.size (some ⟨g5, 0, none⟩) c2 ((gap s s.length g).map zc) := by rw [gap_end]; simpa using own5
                have hlen : (s.map zc).length = s.length := by simp
                clear own5 ownX hbX hb5 hg5 y1' y2'
                (try simp only [hlen])
                go_wp2
                go_loopw [6] (fun j w6 => ∃ (q : Nat) (y : Cn), t ≤ q ∧ q ≤ s.length ∧ j = .int .i64 q ∧ OwC w6 w.heap.size (some ⟨g5, 0, none⟩) c2 ((gap s q y).map zc) ∧ Below w.heap.size w w6) (fun j _ => (intOf j).toNat)
                case atStart => exact ⟨s.length, g, ht, Nat.le_refl _, by first | rfl | go_num | (simp; done), own6, hbY⟩
                case round =>
                  obtain ⟨q, y, hq1, hq2, rfl, own7, hb7⟩ := hrel
                  clear own6 hbY hbYz
                  have hb7z := hb7.size
                  obtain ⟨wz, rfl⟩ : ∃ wz : World, wz = wr := ⟨_, rfl⟩
                  by_cases htq : t < q
                  · obtain ⟨p, rfl⟩ : ∃ p, q = p + 1 := ⟨q - 1, by omega⟩
                    obtain ⟨u1, u2⟩ := own7.cells (k := p + 1) (x := zc y) (by rw [List.getElem?_map, gap_here s y (by omega)]; rfl)
                    obtain ⟨z1, z2⟩ := own7.cells (k := p) (x := zc (s[p]'(by omega))) (by rw [List.getElem?_map, gap_at s y (by omega), List.getElem?_eq_getElem (by omega)]; rfl)
                    have HV : Hid (gap s (p + 1) (s[p]'(by omega)) = gap s p (s[p]'(by omega))) := gap_move s (by omega)
                    obtain ⟨x, hx⟩ : ∃ x, x = s[p]'(by omega) := ⟨_, rfl⟩
                    rw [← hx] at z1 z2 HV
                    have fr := own7.frozen
                    obtain ⟨pt, pg⟩ := own7.put (p + 1) (zc x)
                    have HP : Hid ((((gap s (p + 1) y).map zc).set (p + 1) (zc x)) = (gap s p x).map zc) := by
                      show _ = _
                      rw [← List.map_set, gap_set s y x (by omega), HV.out]
                    have hpb : ((p + 1 : Nat) : Int) - 1 = (p : Int) := by omega
                    have hgl : (gap s (p + 1) y).length = s.length + 1 := gap_len s y (by omega)
                    clear hx HV
                    go_wp2
                    go_roundw
                    case rel => exact ⟨p, x, by omega, by omega, by go_num, by rw [← HP.out]; exact pt, (Below.setCell (Below.setCell hb7 (p := ⟨g5, _, none⟩) g51 _) (p := ⟨g5, _, none⟩) g51 _)⟩
                    case measure => first | (simp [intOf]; done) | (simp [intOf]; omega)
                  · obtain rfl : q = t := by omega
                    obtain ⟨b', off', eb, _, y1, y2⟩ := (h.below hb7).at_ (k := k) (c := zc g) (by simp [hlt, HG.out])
                    injection eb with eb
                    injection eb with eb1 eb2
                    subst eb1 eb2
                    have fr := own7.frozen
                    obtain ⟨u1, u2⟩ := own7.cells (k := q) (x := zc y) (by rw [List.getElem?_map, gap_here s y (by omega)]; rfl)
                    obtain ⟨pt, pg⟩ := own7.put q (zc g)
                    have HP : Hid ((((gap s q y).map zc).set q (zc g)) = (gap s q g).map zc) := by
                      show _ = _
                      rw [← List.map_set, gap_set s y g (by omega)]
                    have hgl : (gap s q g).length = s.length + 1 := gap_len s g (by omega)
                    go_wp2
                    go_roundw
                    case rel => exact ⟨k + 1, gap s q g, _, c2, by omega, by rw [HT.out, HI'.out], by rw [hgl], by go_num, by rw [← HP.out]; exact pt, (Below.setCell (Below.setCell hb7 (p := ⟨g5, _, none⟩) g51 _) (p := ⟨g5, _, none⟩) g51 _)⟩
                    case measure => simp [intOf]; omega
              · have e1 : ((d.1 : Int) == (g.1 : Int)) = false := by simp; omega
                have HI : Hid (insD ltN g s = s.take t ++ g :: s.drop t) := insD_new g s t ht (fun j hj => HR.out j (by omega) hj) (fun h1 => ⟨by rw [← HD0.out]; exact HP.out, by rw [← HD0.out]; exact hdg⟩)
                clear HR
                go_wp2
                ((refine wp_region_quiet_bel (by kernel_rfl) (by kernel_rfl) ?_); (repeat (go_big_quiet_step (fail))); (refine wpQuiet_nil ?_); rintro w4 ⟨⟨_, hb4⟩, rfl⟩; (try dsimp only))
                have hb4z := hb4.size
                replace y1' : w4.cell? ⟨b, off + k * 2, none⟩ = _ := (below_at hb4 b _ (by omega)).trans y1'
                replace y2' : w4.cell? ⟨b, off + k * 2 + 1, none⟩ = _ := (below_at hb4 b _ (by omega)).trans y2'
                clear g1 g2 g3 g4 z1 z2 z1' z2' y1 y2
                have HI0 := HI.out
                have HI' : Hid (insD ltN g s = gap s t g) := HI0
                have ownX : OwC w4 w.heap.size (some ⟨gb, 0, none⟩) c' (s.map zc) := own2.below (hb3.trans (hb4.mono hb3.size))
                have hbX : Below w.heap.size w w4 := (by have z0 := Below.size hbt; have z1 := Below.size hb3; have z2 := Below.size hb4; (try simp only [World.size_alloc, World.size_setCell, World.size_drew, size_drewN'] at z0 z1 z2 ⊢; skip); repeat' (first | (with_reducible exact Below.refl _ _) | (with_reducible assumption) | (with_reducible refine Below.alloc ?_ ?_ _) | (with_reducible refine Below.drew ?_) | (with_reducible refine below_drewN ?_ _) | (with_reducible refine Below.setCell ?_ ?_ _) | (with_reducible refine Below.trans ?_ (Below.mono (by with_reducible assumption) ?_)) | omega | (simp only [World.size_alloc, World.size_setCell, World.size_drew, size_drewN']; omega) | go_size))
                have hbXz := hbX.size
                clear HI HI0 own own2 hb hb2 hbt
                go_wp2_with (first | (at_builtin; refine wpList_appC1 rfl (.tmp 45) (.tmp 50) rfl w.heap.size (some ⟨gb, 0, none⟩) c' (s.map zc) (by simp [Act.eval]) (ownX.alloc _) (zc g) w4.heap.size rfl (by simp [go_sem]) (by simp [go_sem]) (by simp; omega) (by simp; omega) ?_; intro A2 c2 w5 own5 hb5 hg5) | fail)
                have hbY : Below w.heap.size w w5 := (by have z0 := Below.size hbX; have z1 := Below.size hb5; (try simp only [World.size_alloc, World.size_setCell, World.size_drew, size_drewN'] at z0 z1 ⊢; skip); repeat' (first | (with_reducible exact Below.refl _ _) | (with_reducible assumption) | (with_reducible refine Below.alloc ?_ ?_ _) | (with_reducible refine Below.drew ?_) | (with_reducible refine below_drewN ?_ _) | (with_reducible refine Below.setCell ?_ ?_ _) | (with_reducible refine Below.trans ?_ (Below.mono (by with_reducible assumption) ?_)) | omega | (simp only [World.size_alloc, World.size_setCell, World.size_drew, size_drewN']; omega) | go_size))
                have hbYz := hbY.size
                obtain ⟨g5, rfl, g51, g52⟩ := own5.blk (by simp)
                have own6 : OwC w5 w.heap.size (some ⟨g5, 0, none⟩) c2 ((gap s s.length g).map zc) := by rw [gap_end]; simpa using own5
                have hlen : (s.map zc).length = s.length := by simp
                clear own5 ownX hbX hb5 hg5 y1' y2'
                (try simp only [hlen])
                go_wp2
                go_loopw [6] (fun j w6 => ∃ (q : Nat) (y : Cn), t ≤ q ∧ q ≤ s.length ∧ j = .int .i64 q ∧ OwC w6 w.heap.size (some ⟨g5, 0, none⟩) c2 ((gap s q y).map zc) ∧ Below w.heap.size w w6) (fun j _ => (intOf j).toNat)
                case atStart => exact ⟨s.length, g, ht, Nat.le_refl _, by first | rfl | go_num | (simp; done), own6, hbY⟩
                case round =>
                  obtain ⟨q, y, hq1, hq2, rfl, own7, hb7⟩ := hrel
                  clear own6 hbY hbYz
                  have hb7z := hb7.size
                  obtain ⟨wz, rfl⟩ : ∃ wz : World, wz = wr := ⟨_, rfl⟩
                  by_cases htq : t < q
                  · obtain ⟨p, rfl⟩ : ∃ p, q = p + 1 := ⟨q - 1, by omega⟩
                    obtain ⟨u1, u2⟩ := own7.cells (k := p + 1) (x := zc y) (by rw [List.getElem?_map, gap_here s y (by omega)]; rfl)
                    obtain ⟨z1, z2⟩ := own7.cells (k := p) (x := zc (s[p]'(by omega))) (by rw [List.getElem?_map, gap_at s y (by omega), List.getElem?_eq_getElem (by omega)]; rfl)
                    have HV : Hid (gap s (p + 1) (s[p]'(by omega)) = gap s p (s[p]'(by omega))) := gap_move s (by omega)
                    obtain ⟨x, hx⟩ : ∃ x, x = s[p]'(by omega) := ⟨_, rfl⟩
                    rw [← hx] at z1 z2 HV
                    have fr := own7.frozen
                    obtain ⟨pt, pg⟩ := own7.put (p + 1) (zc x)
                    have HP : Hid ((((gap s (p + 1) y).map zc).set (p + 1) (zc x)) = (gap s p x).map zc) := by
                      show _ = _
                      rw [← List.map_set, gap_set s y x (by omega), HV.out]
                    have hpb : ((p + 1 : Nat) : Int) - 1 = (p : Int) := by omega
                    have hgl : (gap s (p + 1) y).length = s.length + 1 := gap_len s y (by omega)
                    clear hx HV
                    go_wp2
                    go_roundw
                    case rel => exact ⟨p, x, by omega, by omega, by go_num, by rw [← HP.out]; exact pt, (Below.setCell (Below.setCell hb7 (p := ⟨g5, _, none⟩) g51 _) (p := ⟨g5, _, none⟩) g51 _)⟩
                    case measure => first | (simp [intOf]; done) | (simp [intOf]; omega)
                  · obtain rfl : q = t := by omega
                    obtain ⟨b', off', eb, _, y1, y2⟩ := (h.below hb7).at_ (k := k) (c := zc g) (by simp [hlt, HG.out])
                    injection eb with eb
                    injection eb with eb1 eb2
                    subst eb1 eb2
                    have fr := own7.frozen
                    obtain ⟨u1, u2⟩ := own7.cells (k := q) (x := zc y) (by rw [List.getElem?_map, gap_here s y (by omega)]; rfl)
                    obtain ⟨pt, pg⟩ := own7.put q (zc g)
                    have HP : Hid ((((gap s q y).map zc).set q (zc g)) = (gap s q g).map zc) := by
                      show _ = _
                      rw [← List.map_set, gap_set s y g (by omega)]
                    have hgl : (gap s q g).length = s.length + 1 := gap_len s g (by omega)
                    go_wp2
                    go_roundw
                    case rel => exact ⟨k + 1, gap s q g, _, c2, by omega, by rw [HT.out, HI'.out], by rw [hgl], by go_num, by rw [← HP.out]; exact pt, (Below.setCell (Below.setCell hb7 (p := ⟨g5, _, none⟩) g51 _) (p := ⟨g5, _, none⟩) g51 _)⟩
                    case measure => simp [intOf]; omega
        · have e0 : decide (t < s.length) = false := by simp; omega
          have HI : Hid (insD ltN g s = s.take t ++ g :: s.drop t) := insD_new g s t ht (fun j hj => HR.out j (by omega) hj) (fun h1 => absurd h1 htl)
          clear HR
          go_wp2
          ((refine wp_region_quiet_bel (by kernel_rfl) (by kernel_rfl) ?_); (repeat (go_big_quiet_step (fail))); (refine wpQuiet_nil ?_); rintro w3 ⟨⟨_, hb3⟩, rfl⟩; (try dsimp only))
          go_wp2
          have hb3z := hb3.size
          have y1' : w3.cell? ⟨b, off + k * 2, none⟩ = _ := (below_at hb3 b _ (by omega)).trans y1
          have y2' : w3.cell? ⟨b, off + k * 2 + 1, none⟩ = _ := (below_at hb3 b _ (by omega)).trans y2
          have g1 := fun y : Sub w3 => y.cell y1'
          have g2 := fun y : Sub w3 => y.cell y2'
          clear f1 f2
          ((refine wp_region_quiet_bel (by kernel_rfl) (by kernel_rfl) ?_); (repeat (go_big_quiet_step (fail))); (refine wpQuiet_nil ?_); rintro w4 ⟨⟨_, hb4⟩, rfl⟩; (try dsimp only))
          have hb4z := hb4.size
          replace y1' : w4.cell? ⟨b, off + k * 2, none⟩ = _ := (below_at hb4 b _ (by omega)).trans y1'
          replace y2' : w4.cell? ⟨b, off + k * 2 + 1, none⟩ = _ := (below_at hb4 b _ (by omega)).trans y2'
          clear g1 g2 y1 y2 e0 htl
          have HI0 := HI.out
          have HI' : Hid (insD ltN g s = gap s t g) := HI0
          have ownX : OwC w4 w.heap.size A' c' (s.map zc) := own2.below (hb3.trans (hb4.mono hb3.size))
          have hbX : Below w.heap.size w w4 := (by have z0 := Below.size hbt; have z1 := Below.size hb3; have z2 := Below.size hb4; (try simp only [World.size_alloc, World.size_setCell, World.size_drew, size_drewN'] at z0 z1 z2 ⊢; skip); repeat' (first | (with_reducible exact Below.refl _ _) | (with_reducible assumption) | (with_reducible refine Below.alloc ?_ ?_ _) | (with_reducible refine Below.drew ?_) | (with_reducible refine below_drewN ?_ _) | (with_reducible refine Below.setCell ?_ ?_ _) | (with_reducible refine Below.trans ?_ (Below.mono (by with_reducible assumption) ?_)) | omega | (simp only [World.size_alloc, World.size_setCell, World.size_drew, size_drewN']; omega) | go_size))
          have hbXz := hbX.size
          clear HI HI0 own own2 hb hb2 hbt
          go_wp2_with (first | (at_builtin; refine wpList_appC1 rfl (.tmp 45) (.tmp 50) rfl w.heap.size A' c' (s.map zc) (by simp [Act.eval]) (ownX.alloc _) (zc g) w4.heap.size rfl (by simp [go_sem]) (by simp [go_sem]) (by simp; omega) (by simp; omega) ?_; intro A2 c2 w5 own5 hb5 hg5) | fail)
          have hbY : Below w.heap.size w w5 := (by have z0 := Below.size hbX; have z1 := Below.size hb5; (try simp only [World.size_alloc, World.size_setCell, World.size_drew, size_drewN'] at z0 z1 ⊢; skip); repeat' (first | (with_reducible exact Below.refl _ _) | (with_reducible assumption) | (with_reducible refine Below.alloc ?_ ?_ _) | (with_reducible refine Below.drew ?_) | (with_reducible refine below_drewN ?_ _) | (with_reducible refine Below.setCell ?_ ?_ _) | (with_reducible refine Below.trans ?_ (Below.mono (by with_reducible assumption) ?_)) | omega | (simp only [World.size_alloc, World.size_setCell, World.size_drew, size_drewN']; omega) | go_size))
          have hbYz := hbY.size
          obtain ⟨g5, rfl, g51, g52⟩ := own5.blk (by simp)
          have own6 : OwC w5 w.heap.size (some ⟨g5, 0, none⟩) c2 ((gap s s.length g).map zc) := by rw [gap_end]; simpa using own5
          have hlen : (s.map zc).length = s.length := by simp
          clear own5 ownX hbX hb5 hg5 y1' y2'
          (try simp only [hlen])
          go_wp2
          go_loopw [6] (fun j w6 => ∃ (q : Nat) (y : Cn), t ≤ q ∧ q ≤ s.length ∧ j = .int .i64 q ∧ OwC w6 w.heap.size (some ⟨g5, 0, none⟩) c2 ((gap s q y).map zc) ∧ Below w.heap.size w w6) (fun j _ => (intOf j).toNat)
          case atStart => exact ⟨s.length, g, ht, Nat.le_refl _, by first | rfl | go_num | (simp; done), own6, hbY⟩
          case round =>
            obtain ⟨q, y, hq1, hq2, rfl, own7, hb7⟩ := hrel
            clear own6 hbY hbYz
            have hb7z := hb7.size
            obtain ⟨wz, rfl⟩ : ∃ wz : World, wz = wr := ⟨_, rfl⟩
            by_cases htq : t < q
            · obtain ⟨p, rfl⟩ : ∃ p, q = p + 1 := ⟨q - 1, by omega⟩
              obtain ⟨u1, u2⟩ := own7.cells (k := p + 1) (x := zc y) (by rw [List.getElem?_map, gap_here s y (by omega)]; rfl)
              obtain ⟨z1, z2⟩ := own7.cells (k := p) (x := zc (s[p]'(by omega))) (by rw [List.getElem?_map, gap_at s y (by omega), List.getElem?_eq_getElem (by omega)]; rfl)
              have HV : Hid (gap s (p + 1) (s[p]'(by omega)) = gap s p (s[p]'(by omega))) := gap_move s (by omega)
              obtain ⟨x, hx⟩ : ∃ x, x = s[p]'(by omega) := ⟨_, rfl⟩
              rw [← hx] at z1 z2 HV
              have fr := own7.frozen
              obtain ⟨pt, pg⟩ := own7.put (p + 1) (zc x)
              have HP : Hid ((((gap s (p + 1) y).map zc).set (p + 1) (zc x)) = (gap s p x).map zc) := by
                show _ = _
                rw [← List.map_set, gap_set s y x (by omega), HV.out]
              have hpb : ((p + 1 : Nat) : Int) - 1 = (p : Int) := by omega
              have hgl : (gap s (p + 1) y).length = s.length + 1 := gap_len s y (by omega)
              clear hx HV
              go_wp2
              go_roundw
              case rel => exact ⟨p, x, by omega, by omega, by go_num, by rw [← HP.out]; exact pt, (Below.setCell (Below.setCell hb7 (p := ⟨g5, _, none⟩) g51 _) (p := ⟨g5, _, none⟩) g51 _)⟩
              case measure => first | (simp [intOf]; done) | (simp [intOf]; omega)
            · obtain rfl : q = t := by omega
              obtain ⟨b', off', eb, _, y1, y2⟩ := (h.below hb7).at_ (k := k) (c := zc g) (by simp [hlt, HG.out])
              injection eb with eb
              injection eb with eb1 eb2
              subst eb1 eb2
              have fr := own7.frozen
              obtain ⟨u1, u2⟩ := own7.cells (k := q) (x := zc y) (by rw [List.getElem?_map, gap_here s y (by omega)]; rfl)
              obtain ⟨pt, pg⟩ := own7.put q (zc g)
              have HP : Hid ((((gap s q y).map zc).set q (zc g)) = (gap s q g).map zc) := by
                show _ = _
                rw [← List.map_set, gap_set s y g (by omega)]
              have hgl : (gap s q g).length = s.length + 1 := gap_len s g (by omega)
              go_wp2
              go_roundw
              case rel => exact ⟨k + 1, gap s q g, _, c2, by omega, by rw [HT.out, HI'.out], by rw [hgl], by go_num, by rw [← HP.out]; exact pt, (Below.setCell (Below.setCell hb7 (p := ⟨g5, _, none⟩) g51 _) (p := ⟨g5, _, none⟩) g51 _)⟩
              case measure => simp [intOf]; omega
    · have hall : l.take k = l := List.take_of_length_le (by omega)
      have HV : Hid (s = srtD ltN l) := by show s = _; rw [HS.out, hall]
      clear HS hall
      go_wp2
      go_ret
      exact ⟨⟨A', c', by rw [← HV.out]; rfl, by rw [← HV.out]; exact own⟩, hb⟩
end Go.Proofs.Ytedopalmfakeaaa
