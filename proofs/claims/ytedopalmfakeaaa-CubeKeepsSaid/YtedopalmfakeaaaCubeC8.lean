/- Contracts of functions and lemmas, used by the proofs of the given statements. No condition beyond those that each lemma names. -/
import Derived.Test.YtedopalmfakeaaaCubeCv
namespace Go.Proofs.Ytedopalmfakeaaa
open Go.RowKit
set_option linter.unusedSimpArgs false
set_option linter.unusedVariables false
set_option maxRecDepth 20000
attribute [local irreducible] pop popc cntC covB coverN cvF rstN nxt
/-! ## Cover -/
/-- what Cover leaves: the disjoint cubes, or the error -/
def CvP (l : List Cn) (w : World) (e : Ending) (w' : World) : Prop :=
  ((∃ o A c, coverN l = some o ∧ e = .returned (.tuple #[.slice A o.length c, .nilIface]) ∧ OwC w' w.heap.size A c (o.map zc)) ∨ (coverN l = none ∧ e = .returned (.tuple #[.slice none 0 0, erV 4]))) ∧ Below w.heap.size w w'
theorem own_litG {W : World} {base g : Nat} {a : Cb} (hg : W.heap.size = g) (hb : base ≤ g) : OwC (W.alloc (.cells #[.int .i64 a.1, .int .i64 a.2] 23)) base (some ⟨g, 0, none⟩) 1 [a] := by
  subst hg; exact own_lit hb
theorem RdC.cells {w : World} {B b off : Nat} {l : List Cb} (h : RdC w B (some ⟨b, off, none⟩) l) {k : Nat} {c : Cb} (hk : l[k]? = some c) :
    w.cell? ⟨b, off + k * 2, none⟩ = some (.int .i64 c.1) ∧ w.cell? ⟨b, off + k * 2 + 1, none⟩ = some (.int .i64 c.2) := by
  obtain ⟨b', off', e, _, h1, h2⟩ := h.at_ hk
  injection e with e
  injection e with e1 e2
  subst e1 e2
  exact ⟨h1, h2⟩
set_option maxHeartbeats 4000000 in
theorem cover_any (A : Option Addr) (l : List Cn) (nl c : Nat) (w : World) (hl : l.length = nl) (hn : nl ≤ 1024) (hcap : nl ≤ c) (hok : ∀ a ∈ l, okN a) (h : RdC w w.heap.size A (l.map zc)) :
    Calls Try.prog 43 #[.slice A nl c] w (CvP l w) := by
  subst hl
  have HZ : Hid (chkLL (l.map zc) = 0) := chkLL_of_ok hok (by omega)
  have HL : Hid ((l.map zc).length = l.length) := by show (l.map zc).length = l.length; simp
  have HO := Lib.hid hok
  clear hok
  go_enter Try.func43, Try.ntmps43
  go_wp2_with ((go_at_call 79; (with_reducible refine (ok_case (checkList_any A (l.map zc) l.length c _ HL.out (by omega) h) HZ.out).mono ?_); rintro e w1 ⟨rfl, hb1⟩))
  go_loopw [5, 21] (fun o i wr => ∃ (k : Nat) (A' : Option Addr) (c' : Nat) (out : List Cn), k ≤ l.length ∧ i = .int .i64 k ∧ o = .slice A' out.length c' ∧ coverN l = cvF (l.take k) (l.drop k) out ∧ out.length ≤ 1024 ∧ OwC wr w.heap.size A' c' (out.map zc) ∧ Below w.heap.size w wr) (fun _ i _ => l.length - (intOf i).toNat)
  case atStart => exact ⟨0, none, 0, [], Nat.zero_le _, rfl, rfl, by unfold coverN; simp, by simp, OwC.nil_ _ _, hb1⟩
  case round =>
    obtain ⟨k, A', c', out, hk, rfl, rfl, hcv, hol, own, hb⟩ := hrel
    have HC := Lib.hid hcv
    clear hcv hb1
    have hbz := hb.size
    obtain ⟨wo, rfl⟩ : ∃ wo : World, wo = wr := ⟨_, rfl⟩
    by_cases hlt : k < l.length
    · have hA := (h.below hb).at_ (k := k) (c := zc l[k]) (by simp [hlt])
      obtain ⟨b, off, rfl, hbb, y1, y2⟩ := hA
      have hdk := HO.out l[k] (List.getElem_mem _)
      obtain ⟨g, hg⟩ : ∃ g, g = l[k] := ⟨_, rfl⟩
      rw [← hg] at y1 y2 hdk
      have HG := Lib.hid hg
      clear hg
      go_wp2
      go_loopw [8, 32] (fun r j w2 => ∃ (jj : Nat) (A2 : Option Addr) (c2 : Nat) (rest : List Cn), jj ≤ k ∧ j = .int .i64 jj ∧ r = .slice A2 rest.length c2 ∧ rstN [g] (l.take k) = rstN rest ((l.take k).drop jj) ∧ (∀ x ∈ rest, okN x) ∧ rest.length ≤ 1024 ∧ OwC w2 wo.heap.size A2 c2 (rest.map zc) ∧ Below wo.heap.size wo w2) (fun _ j _ => k - (intOf j).toNat)
      case atStart => exact ⟨0, _, _, [g], Nat.zero_le _, rfl, rfl, by simp, by simpa using hdk, by simp, own_litG (a := zc g) (by simp) (by omega), (by (skip); repeat' (first | (with_reducible exact Below.refl _ _) | (with_reducible assumption) | (with_reducible refine Below.alloc ?_ ?_ _) | (with_reducible refine Below.drew ?_) | (with_reducible refine below_drewN ?_ _) | (with_reducible refine Below.setCell ?_ ?_ _) | (with_reducible refine Below.trans ?_ (Below.mono (by with_reducible assumption) ?_)) | omega | (simp only [World.size_alloc, World.size_setCell, World.size_drew, size_drewN']; omega) | go_size))⟩
      case round =>
        obtain ⟨jj, A2, c2, rest, hj, rfl, rfl, hr, hrok, hrl, own2, hb2⟩ := hrel
        have HR := Lib.hid hr
        have HRO := Lib.hid hrok
        clear hr hrok y1 y2
        have hb2z := hb2.size
        have hbt := hb.trans (hb2.mono hbz)
        obtain ⟨wt, rfl⟩ : ∃ wt : World, wt = wr := ⟨_, rfl⟩
        by_cases hjk : jj < k
        · obtain ⟨z1, z2⟩ := (h.below hbt).cells (k := jj) (c := zc (l[jj]'(by omega))) (by simp [show jj < l.length by omega])
          have hd := HO.out (l[jj]'(by omega)) (List.getElem_mem _)
          obtain ⟨d, hdE⟩ : ∃ d, d = l[jj]'(by omega) := ⟨_, rfl⟩
          rw [← hdE] at z1 z2 hd
          have HD : Hid ((l.take k)[jj]'(by simp; omega) = d) := by show (l.take k)[jj]'(by simp; omega) = d; rw [List.getElem_take, hdE]
          clear hdE
          go_wp2
          go_loopw [11, 38] (fun nx t w3 => ∃ (tt : Nat) (A3 : Option Addr) (c3 : Nat) (m : List Cn), tt ≤ rest.length ∧ t = .int .i64 tt ∧ nx = .slice A3 m.length c3 ∧ m = nxt (rest.take tt) d ∧ OwC w3 (wt.heap.size + 1) A3 c3 (m.map zc) ∧ Below (wt.heap.size + 1) (wt.alloc (.cells #[.int .i64 (d.1 : Int), .int .i64 (d.2 : Int)] 23)) w3) (fun _ t _ => rest.length - (intOf t).toNat)
          case atStart => exact ⟨0, none, 0, [], Nat.zero_le _, rfl, rfl, by unfold nxt; simp, OwC.nil_ _ _, Below.refl _ _⟩
          case round =>
            obtain ⟨tt, A3, c3, m, ht, rfl, rfl, hm, own3, hb3⟩ := hrel
            have hml : m.length ≤ 24 * rest.length := by
              have h1 := nxt_le (rest.take tt) d
              rw [← hm] at h1
              have h2 := List.length_take_le tt rest
              have h3 : (rest.take tt).length ≤ rest.length := by simp; omega
              omega
            have HM := Lib.hid hm
            clear hm
            have hb3z := hb3.size
            simp only [World.size_alloc] at hb3z
            have hb3' : Below wt.heap.size wt wr := ((Below.refl _ _).alloc (Nat.le_refl _) _).trans (hb3.mono (by omega))
            by_cases hlt3 : tt < rest.length
            · obtain ⟨b2, off2, rfl, hbb2, u1, u2⟩ := (own2.rd.below hb3').at_ (k := tt) (c := zc rest[tt]) (by simp [hlt3])
              have hx := HRO.out rest[tt] (List.getElem_mem _)
              have HS := Lib.hid (nxt_succ rest d tt hlt3)
              generalize rest[tt] = x at *
              have v1 : wr.cell? ⟨wt.heap.size, 0, none⟩ = some (.int .i64 (d.1 : Int)) := (below_at hb3 wt.heap.size 0 (by omega)).trans (by simp)
              have v2 : wr.cell? ⟨wt.heap.size, 1, none⟩ = some (.int .i64 (d.2 : Int)) := (below_at hb3 wt.heap.size 1 (by omega)).trans (by simp)
              have hmi := miN_le x d
              have z0 : wt.heap.size < wr.heap.size := by omega
              (go_wp2_with fail; (with_reducible refine (minus_any x d hx hd _).mono ?_); rintro e w4 ⟨A4, c4, rfl, own4, hb4⟩; have hb4z := Below.size hb4; (try simp only [World.size_alloc, World.size_setCell, World.size_drew, size_drewN'] at hb4z))
              go_wp2_with (at_builtin; refine wpList_appC rfl (.tmp 42) (.tmp 45) rfl (wt.heap.size + 1) A3 c3 (m.map zc) (by simp [Act.eval]) ((own3.alloc _).below hb4) w4.heap.size A4 c4 ((miN x d).map zc) (by simp [Act.eval]) own4.rd (by simp; omega) (by omega) ?_; intro A5 c5 w5 own5 hb5 hg5)
              go_roundw
              case rel => exact ⟨tt + 1, A5, c5, m ++ miN x d, by omega, by go_num, by simp, by rw [HS.out, ← HM.out], by simpa using own5, (by have z0 := Below.size hb3; have z1 := Below.size hb4; have z2 := Below.size hb5; (try simp only [World.size_alloc, World.size_setCell, World.size_drew, size_drewN'] at z0 z1 z2 ⊢; skip); repeat' (first | (with_reducible exact Below.refl _ _) | (with_reducible assumption) | (with_reducible refine Below.alloc ?_ ?_ _) | (with_reducible refine Below.drew ?_) | (with_reducible refine below_drewN ?_ _) | (with_reducible refine Below.setCell ?_ ?_ _) | (with_reducible refine Below.trans ?_ (Below.mono (by with_reducible assumption) ?_)) | omega | (simp only [World.size_alloc, World.size_setCell, World.size_drew, size_drewN']; omega) | go_size))⟩
              case measure => simp [intOf]; omega
            · have hmE : m = nxt rest d := by have := HM.out; rwa [List.take_of_length_le (by omega)] at this
              have HN := Lib.hid hmE
              clear hmE HM
              by_cases hlong : 1024 < m.length
              · have HE : Hid (coverN l = none) := by
                  show coverN l = none
                  rw [HC.out]
                  refine cvF_none hlt ?_
                  rw [← HG.out, HR.out]
                  exact rst_long (by simp; omega) (by rw [HD.out, ← HN.out]; exact hlong)
                go_wp2
                go_returns
                exact ⟨.inr ⟨HE.out, rfl⟩, (by have z0 := Below.size hb; have z1 := Below.size hb2; have z2 := Below.size hb3; (try simp only [World.size_alloc, World.size_setCell, World.size_drew, size_drewN'] at z0 z1 z2 ⊢; skip); repeat' (first | (with_reducible exact Below.refl _ _) | (with_reducible assumption) | (with_reducible refine Below.alloc ?_ ?_ _) | (with_reducible refine Below.drew ?_) | (with_reducible refine below_drewN ?_ _) | (with_reducible refine Below.setCell ?_ ?_ _) | (with_reducible refine Below.trans ?_ (Below.mono (by with_reducible assumption) ?_)) | omega | (simp only [World.size_alloc, World.size_setCell, World.size_drew, size_drewN']; omega) | go_size))⟩
              · have HE : Hid (rstN [g] (l.take k) = rstN m ((l.take k).drop (jj + 1))) := by
                  show rstN [g] (l.take k) = rstN m ((l.take k).drop (jj + 1))
                  rw [HR.out, rst_step (by simp; omega) (by rw [HD.out, ← HN.out]; exact hlong), HD.out, ← HN.out]
                have HO2 : Hid (∀ x ∈ m, okN x) := by
                  show ∀ x ∈ m, okN x
                  rw [HN.out]; exact nxt_ok HRO.out hd
                go_wp2
                go_roundw
                case rel => exact ⟨jj + 1, A3, c3, m, by omega, by go_num, rfl, HE.out, HO2.out, by omega, own3.base_ (by omega), (by have z0 := Below.size hb2; have z1 := Below.size hb3; (try simp only [World.size_alloc, World.size_setCell, World.size_drew, size_drewN'] at z0 z1 ⊢; skip); repeat' (first | (with_reducible exact Below.refl _ _) | (with_reducible assumption) | (with_reducible refine Below.alloc ?_ ?_ _) | (with_reducible refine Below.drew ?_) | (with_reducible refine below_drewN ?_ _) | (with_reducible refine Below.setCell ?_ ?_ _) | (with_reducible refine Below.trans ?_ (Below.mono (by with_reducible assumption) ?_)) | omega | (simp only [World.size_alloc, World.size_setCell, World.size_drew, size_drewN']; omega) | go_size))⟩
                case measure => simp [intOf]; omega
        · have HE : Hid (rstN [g] (l.take k) = some rest) := by
            show rstN [g] (l.take k) = some rest
            rw [HR.out]; exact rst_end (by simp; omega)
          by_cases hlong : 1024 < (out ++ rest).length
          · have HN : Hid (coverN l = none) := by
              show coverN l = none
              rw [HC.out]
              exact cvF_long hlt (by rw [← HG.out]; exact HE.out) hlong
            have hlong' : 1024 < out.length + rest.length := by simpa using hlong
            clear hlong
            go_wp2_with (at_builtin; refine wpList_appC rfl (.tmp 54) (.tmp 55) rfl w.heap.size A' c' (out.map zc) (by simp [Act.eval]) (own.below hb2) wt.heap.size A2 c2 (rest.map zc) (by simp [Act.eval]) own2.rd (by simp; omega) (by omega) ?_; intro A6 c6 w6 own6 hb6 hg6)
            go_returns
            exact ⟨.inr ⟨HN.out, rfl⟩, (by have z0 := Below.size hb; have z1 := Below.size hb2; have z2 := Below.size hb6; (try simp only [World.size_alloc, World.size_setCell, World.size_drew, size_drewN'] at z0 z1 z2 ⊢; skip); repeat' (first | (with_reducible exact Below.refl _ _) | (with_reducible assumption) | (with_reducible refine Below.alloc ?_ ?_ _) | (with_reducible refine Below.drew ?_) | (with_reducible refine below_drewN ?_ _) | (with_reducible refine Below.setCell ?_ ?_ _) | (with_reducible refine Below.trans ?_ (Below.mono (by with_reducible assumption) ?_)) | omega | (simp only [World.size_alloc, World.size_setCell, World.size_drew, size_drewN']; omega) | go_size))⟩
          · have HN : Hid (coverN l = cvF (l.take (k + 1)) (l.drop (k + 1)) (out ++ rest)) := by
              show coverN l = cvF (l.take (k + 1)) (l.drop (k + 1)) (out ++ rest)
              rw [HC.out]
              exact cvF_step hlt (by rw [← HG.out]; exact HE.out) hlong
            have hlong' : ¬ 1024 < out.length + rest.length := by simpa using hlong
            clear hlong
            go_wp2_with (at_builtin; refine wpList_appC rfl (.tmp 54) (.tmp 55) rfl w.heap.size A' c' (out.map zc) (by simp [Act.eval]) (own.below hb2) wt.heap.size A2 c2 (rest.map zc) (by simp [Act.eval]) own2.rd (by simp; omega) (by omega) ?_; intro A6 c6 w6 own6 hb6 hg6)
            go_roundw
            case rel => exact ⟨k + 1, A6, c6, out ++ rest, by omega, by go_num, by simp, HN.out, by simp; omega, by simpa using own6, (by have z0 := Below.size hb; have z1 := Below.size hb2; have z2 := Below.size hb6; (try simp only [World.size_alloc, World.size_setCell, World.size_drew, size_drewN'] at z0 z1 z2 ⊢; skip); repeat' (first | (with_reducible exact Below.refl _ _) | (with_reducible assumption) | (with_reducible refine Below.alloc ?_ ?_ _) | (with_reducible refine Below.drew ?_) | (with_reducible refine below_drewN ?_ _) | (with_reducible refine Below.setCell ?_ ?_ _) | (with_reducible refine Below.trans ?_ (Below.mono (by with_reducible assumption) ?_)) | omega | (simp only [World.size_alloc, World.size_setCell, World.size_drew, size_drewN']; omega) | go_size))⟩
            case measure => simp [intOf]; omega
    · have HE : Hid (coverN l = some out) := by show coverN l = some out; rw [HC.out]; exact cvF_end (by omega)
      go_wp2
      go_returns
      exact ⟨.inl ⟨out, A', c', HE.out, rfl, own⟩, hb⟩
end Go.Proofs.Ytedopalmfakeaaa
