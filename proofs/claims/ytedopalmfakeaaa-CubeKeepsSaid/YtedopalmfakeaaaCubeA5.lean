/- Contracts of functions and lemmas, used by the proofs of the given statements. No condition beyond those that each lemma names. -/
import Derived.Test.YtedopalmfakeaaaCubeA4
import Derived.Deep.AppendLies
namespace Go.Proofs.Ytedopalmfakeaaa
open Go.RowKit
set_option linter.unusedSimpArgs false
set_option linter.unusedVariables false
set_option maxRecDepth 20000
attribute [local irreducible] pop popc cntC covB coverN cvF rstN nxt
/-! ## the reference's Cover -/
theorem step_appC {w : World} {ops : Array Oper} {o : Oper} {a : Act} {K : Act → World → Prop} {Q : Exit → Act → World → Prop} {E : Prop} (hgd : o.guard = none) (s x : Operand)
    (ho : o.op = .call { callee := .builtin .append, args := #[s, x], argTypes := #[35, 35] })
    (base : Nat) (A0 : Option Addr) (c0 n : Nat) (l : List Cb) (hs : a.eval s = .slice A0 n c0) (hnl : n = l.length) (hown : OwC w base A0 c0 l)
    (B : Nat) (A : Option Addr) (c k : Nat) (m : List Cb) (hx : a.eval x = .slice A k c) (hkm : k = m.length) (hr : RdC w B A m)
    (hlen : n + k ≤ 1099511627776) (hbase : base ≤ w.heap.size)
    (h : ∀ A' c' w', OwC w' base A' c' (l ++ m) → Below base w w' → K (a.put o.dst (.slice A' (n + k) c')) w') : if Region.wanted o (yielded ops a.tmps) = true then Oper.wp Try.prog o a w K Q else E := by
  subst hnl hkm
  rw [if_pos (by simp [Region.wanted, hgd])]
  refine wp_app s x 35 ho base 23 _ 2 16 Try.underlying35 cubeInfo rfl (by decide) A0 c0 l.length (cbs l) hs hown B A m.length c (cbs m) hx hr (cbs_oneCell _) (by unfold maxLen; omega) (by omega) hbase ?_
  intro A' c' w' h1 h2 h3 h4
  refine h A' c' w' ?_ h2
  unfold OwC
  rw [cbs_append, List.length_append]
  exact h1
def RCvP (l : List Cn) (w : World) (e : Ending) (w' : World) : Prop :=
  ((∃ o A c, coverN l = some o ∧ e = .returned (.tuple #[.slice A o.length c, .int .i64 0]) ∧ OwC w' w.heap.size A c (o.map zc)) ∨ (coverN l = none ∧ e = .returned (.tuple #[.slice none 0 0, .int .i64 4]))) ∧ Below w.heap.size w w'
set_option maxHeartbeats 8000000 in
theorem rcover_any (A : Option Addr) (l : List Cn) (nl c : Nat) (w : World) (hl : l.length = nl) (hn : nl ≤ 1024) (hok : ∀ a ∈ l, okN a) (h : RdC w w.heap.size A (l.map zc)) :
    Calls Try.prog 48 #[.slice A nl c] w (RCvP l w) := by
  subst hl
  have HO := Lib.hid hok
  clear hok
  go_enter Try.func48, Try.ntmps48
  go_wp2
  go_loopw [4, 5] (fun o i wr => ∃ (k : Nat) (A' : Option Addr) (c' : Nat) (out : List Cn), k ≤ l.length ∧ o = .slice A' out.length c' ∧ i = .int .i64 k ∧ coverN l = cvF (l.take k) (l.drop k) out ∧ out.length ≤ 1024 ∧ OwC wr w.heap.size A' c' (out.map zc) ∧ Below w.heap.size w wr) (fun _ i _ => l.length - (intOf i).toNat)
  case atStart => exact ⟨0, none, 0, [], Nat.zero_le _, rfl, rfl, by unfold coverN; simp, by simp, OwC.nil_ _ _, Below.refl _ _⟩
  case round =>
    obtain ⟨k, A', c', out, hk, rfl, rfl, hcv, hol, own, hb⟩ := hrel
    have HC := Lib.hid hcv
    clear hcv
    have hbz := hb.size
    obtain ⟨wo, rfl⟩ : ∃ wo : World, wo = wr := ⟨_, rfl⟩
    by_cases hlt : k < l.length
    · have hA := (h.below hb).at_ (k := k) (c := zc l[k]) (by simp [hlt])
      obtain ⟨b, off, rfl, hbb, y1, y2⟩ := hA
      have hdk := HO.out l[k] (List.getElem_mem _)
      obtain ⟨g, hg⟩ : ∃ g, g = l[k] := ⟨_, rfl⟩
      rw [← hg] at y1 y2 hdk
      have HG := Lib.hid hg
      clear hg
      go_wp2
      go_loopw [6, 7] (fun r j w2 => ∃ (jj : Nat) (A2 : Option Addr) (c2 : Nat) (rest : List Cn), jj ≤ k ∧ r = .slice A2 rest.length c2 ∧ j = .int .i64 jj ∧ rstN [g] (l.take k) = rstN rest ((l.take k).drop jj) ∧ (∀ x ∈ rest, okN x) ∧ rest.length ≤ 1024 ∧ OwC w2 wo.heap.size A2 c2 (rest.map zc) ∧ Below wo.heap.size wo w2) (fun _ j _ => k - (intOf j).toNat)
      case atStart => exact ⟨0, _, _, [g], Nat.zero_le _, rfl, rfl, by simp, by simpa using hdk, by simp, own_litG (a := zc g) (by simp) (by omega), (by (skip); repeat' (first | (with_reducible exact Below.refl _ _) | (with_reducible assumption) | (with_reducible refine Below.alloc ?_ ?_ _) | (with_reducible refine Below.drew ?_) | (with_reducible refine below_drewN ?_ _) | (with_reducible refine Below.setCell ?_ ?_ _) | (with_reducible refine Below.trans ?_ (Below.mono (by with_reducible assumption) ?_)) | omega | (simp only [World.size_alloc, World.size_setCell, World.size_drew, size_drewN']; omega) | go_size))⟩
      case round =>
        obtain ⟨jj, A2, c2, rest, hj, rfl, rfl, hr, hrok, hrl, own2, hb2⟩ := hrel
        have HR := Lib.hid hr
        have HRO := Lib.hid hrok
        clear hr hrok y1 y2
        have hb2z := hb2.size
        have hbt := hb.trans (hb2.mono hbz)
        obtain ⟨wt, rfl⟩ : ∃ wt : World, wt = wr := ⟨_, rfl⟩
        by_cases hjk : jj < k
        · obtain ⟨d, hdE⟩ : ∃ d, d = l[jj]'(by omega) := ⟨_, rfl⟩
          have hd := HO.out (l[jj]'(by omega)) (List.getElem_mem _)
          rw [← hdE] at hd
          have HDE := Lib.hid hdE
          have HD : Hid ((l.take k)[jj]'(by simp; omega) = d) := by show (l.take k)[jj]'(by simp; omega) = d; rw [List.getElem_take, hdE]
          clear hdE
          go_wp2
          go_loopw [8, 9] (fun nx t w3 => ∃ (tt : Nat) (A3 : Option Addr) (c3 : Nat) (m : List Cn), tt ≤ rest.length ∧ nx = .slice A3 m.length c3 ∧ t = .int .i64 tt ∧ m = nxt (rest.take tt) d ∧ m.length ≤ 1024 ∧ OwC w3 wt.heap.size A3 c3 (m.map zc) ∧ Below wt.heap.size wt w3) (fun _ t _ => rest.length - (intOf t).toNat)
          case atStart => exact ⟨0, none, 0, [], Nat.zero_le _, rfl, rfl, by unfold nxt; simp, by simp, OwC.nil_ _ _, Below.refl _ _⟩
          case round =>
            obtain ⟨tt, A3, c3, m, ht, rfl, rfl, hm, hml, own3, hb3⟩ := hrel
            have HM := Lib.hid hm
            clear hm
            have hb3z := hb3.size
            obtain ⟨wu, rfl⟩ : ∃ wu : World, wu = wr := ⟨_, rfl⟩
            by_cases hlt3 : tt < rest.length
            · obtain ⟨b2, off2, rfl, hbb2, u1, u2⟩ := (own2.rd.below hb3).at_ (k := tt) (c := zc rest[tt]) (by simp [hlt3])
              obtain ⟨z1, z2⟩ := (h.below (hbt.trans (hb3.mono (by omega)))).cells (k := jj) (c := zc d) (by simp [show jj < l.length by omega, HDE.out])
              have hx := HRO.out rest[tt] (List.getElem_mem _)
              have HS := Lib.hid (nxt_succ rest d tt hlt3)
              have HNL := Lib.hid (nxt_take_le rest d (tt + 1))
              generalize rest[tt] = x at *
              have hmi := miN_le x d
              have K := Lib.hid (refMinus_any x d hx hd)
              have bl : b < w.heap.size := hbb
              have hjl : jj < l.length := by omega
              have own3h := Lib.hid own3
              obtain ⟨mm, hmm⟩ : ∃ mm, mm = miN x d := ⟨_, rfl⟩
              have HMM := Lib.hid hmm
              rw [← hmm] at hmi
              change Hid (∀ W, Calls Try.prog 35 #[cbv (zc x), cbv (zc d)] W fun e w' => ∃ A c, e = .returned (.slice A (miN x d).length c) ∧ OwC w' W.heap.size A c ((miN x d).map zc) ∧ Below W.heap.size W w') at K
              rw [← hmm] at K
              clear hmm own3
              go_wp2
              go_region_held3 (fun W => W.cell? ⟨b2, off2 + tt * 2, none⟩ = some (.int .i64 (x.1 : Int)) ∧ W.cell? ⟨b2, off2 + tt * 2 + 1, none⟩ = some (.int .i64 (x.2 : Int)) ∧ W.cell? ⟨b, off + jj * 2, none⟩ = some (.int .i64 (d.1 : Int)) ∧ W.cell? ⟨b, off + jj * 2 + 1, none⟩ = some (.int .i64 (d.2 : Int))) (go_keep)
                (first | ((go_at_call 35; (with_reducible refine (K.out _).mono ?_); rintro e w4 ⟨A4, c4, rfl, own4, hb4⟩; have hb4z := Below.size hb4; (try simp only [World.size_alloc, World.size_setCell, World.size_drew] at hb4z); have hb4c0 := fun o => below_at hb4 (b2) o (by first | omega | (simp only [World.size_alloc, World.size_setCell, World.size_drew]; omega)); have hb4f0 := fun o => below_fr hb4 (b2) o (by first | omega | (simp only [World.size_alloc, World.size_setCell, World.size_drew]; omega)); have hb4l0 : b2 < (w4).heap.size := (by omega); have hb4c1 := fun o => below_at hb4 (b) o (by first | omega | (simp only [World.size_alloc, World.size_setCell, World.size_drew]; omega)); have hb4f1 := fun o => below_fr hb4 (b) o (by first | omega | (simp only [World.size_alloc, World.size_setCell, World.size_drew]; omega)); have hb4l1 : b < (w4).heap.size := (by omega))) | (refine step_appC (by rfl) (.tmp 32) (.tmp 41) (by rfl) wt.heap.size A3 c3 m.length (m.map zc) (by rfl) (by simp) (by exact own3h.out.below (by have z0 := Below.size hb4; (try simp only [World.size_alloc, World.size_setCell, World.size_drew, size_drewN'] at z0 ⊢; skip); repeat' (first | (with_reducible exact Below.refl _ _) | (with_reducible assumption) | (with_reducible refine Below.alloc ?_ ?_ _) | (with_reducible refine Below.drew ?_) | (with_reducible refine below_drewN ?_ _) | (with_reducible refine Below.setCell ?_ ?_ _) | (with_reducible refine Below.trans ?_ (Below.mono (by with_reducible assumption) ?_)) | omega | (simp only [World.size_alloc, World.size_setCell, World.size_drew, size_drewN']; omega) | go_size))) w4.heap.size A4 c4 mm.length (mm.map zc) (by rfl) (by simp) (by exact own4.rd) (by omega) (by omega) ?_; intro A5 c5 w5 own5 hb5; have hq5 := fun o => below_at hb5 b2 o (by omega); have hr5 := fun o => below_at hb5 b o (by omega)) | fail)
              all_goals
                have hbX : Below wt.heap.size wt w5 := (by have z0 := Below.size hb3; have z1 := Below.size hb4; have z2 := Below.size hb5; (try simp only [World.size_alloc, World.size_setCell, World.size_drew, size_drewN'] at z0 z1 z2 ⊢; skip); repeat' (first | (with_reducible exact Below.refl _ _) | (with_reducible assumption) | (with_reducible refine Below.alloc ?_ ?_ _) | (with_reducible refine Below.drew ?_) | (with_reducible refine below_drewN ?_ _) | (with_reducible refine Below.setCell ?_ ?_ _) | (with_reducible refine Below.trans ?_ (Below.mono (by with_reducible assumption) ?_)) | omega | (simp only [World.size_alloc, World.size_setCell, World.size_drew, size_drewN']; omega) | go_size))
                have hmle : (m ++ mm).length = m.length + mm.length := by simp
                have hown5 : OwC w5 wt.heap.size A5 c5 ((m ++ mm).map zc) := by rw [List.map_append]; exact own5
                by_cases hlong : 1024 < m.length + mm.length
                · have HE : Hid (coverN l = none) := by
                    show coverN l = none
                    rw [HC.out]
                    refine cvF_none hlt ?_
                    rw [← HG.out, HR.out]
                    refine rst_long (by simp; omega) ?_
                    rw [HD.out]
                    have h1 := HNL.out
                    rw [HS.out, ← HM.out, ← HMM.out, hmle] at h1
                    omega
                  go_wp2
                  go_returns
                  exact ⟨.inr ⟨HE.out, rfl⟩, hbt.trans (hbX.mono (by omega))⟩
                · go_wp2
                  go_roundw
                  case rel => exact ⟨tt + 1, A5, c5, m ++ mm, by omega, by rw [hmle], by go_num, by rw [HS.out, ← HM.out, ← HMM.out], by omega, hown5, hbX⟩
                  case measure => simp [intOf]; omega
            · have hmE : m = nxt rest d := by have := HM.out; rwa [List.take_of_length_le (by omega)] at this
              have HN := Lib.hid hmE
              clear hmE HM
              have HE : Hid (rstN [g] (l.take k) = rstN m ((l.take k).drop (jj + 1))) := by
                show rstN [g] (l.take k) = rstN m ((l.take k).drop (jj + 1))
                rw [HR.out, rst_step (by simp; omega) (by rw [HD.out, ← HN.out]; omega), HD.out, ← HN.out]
              have HO2 : Hid (∀ x ∈ m, okN x) := by
                show ∀ x ∈ m, okN x
                rw [HN.out]; exact nxt_ok HRO.out hd
              go_wp2
              go_roundw
              case rel => exact ⟨jj + 1, A3, c3, m, by omega, rfl, by go_num, HE.out, HO2.out, by omega, own3.base_ (by omega), (by have z0 := Below.size hb2; have z1 := Below.size hb3; (try simp only [World.size_alloc, World.size_setCell, World.size_drew, size_drewN'] at z0 z1 ⊢; skip); repeat' (first | (with_reducible exact Below.refl _ _) | (with_reducible assumption) | (with_reducible refine Below.alloc ?_ ?_ _) | (with_reducible refine Below.drew ?_) | (with_reducible refine below_drewN ?_ _) | (with_reducible refine Below.setCell ?_ ?_ _) | (with_reducible refine Below.trans ?_ (Below.mono (by with_reducible assumption) ?_)) | omega | (simp only [World.size_alloc, World.size_setCell, World.size_drew, size_drewN']; omega) | go_size))⟩
              case measure => simp [intOf]; omega
        · have HE : Hid (rstN [g] (l.take k) = some rest) := by
            show rstN [g] (l.take k) = some rest
            rw [HR.out]; exact rst_end (by simp; omega)
          by_cases hlong : 1024 < (out ++ rest).length
          · have HN : Hid (coverN l = none) := by
              show coverN l = none
              rw [HC.out]
              exact cvF_long hlt (by rw [← HG.out]; exact HE.out) hlong
            have hlong' : 1024 < out.length + rest.length := by simpa using hlong
            clear hlong
            go_wp2_with (at_builtin; refine wpList_appC rfl (.tmp 47) (.tmp 48) rfl w.heap.size A' c' (out.map zc) (by simp [Act.eval]) (own.below hb2) wt.heap.size A2 c2 (rest.map zc) (by simp [Act.eval]) own2.rd (by simp; omega) (by omega) ?_; intro A6 c6 w6 own6 hb6 hg6)
            go_returns
            exact ⟨.inr ⟨HN.out, rfl⟩, (by have z0 := Below.size hb; have z1 := Below.size hb2; have z2 := Below.size hb6; (try simp only [World.size_alloc, World.size_setCell, World.size_drew, size_drewN'] at z0 z1 z2 ⊢; skip); repeat' (first | (with_reducible exact Below.refl _ _) | (with_reducible assumption) | (with_reducible refine Below.alloc ?_ ?_ _) | (with_reducible refine Below.drew ?_) | (with_reducible refine below_drewN ?_ _) | (with_reducible refine Below.setCell ?_ ?_ _) | (with_reducible refine Below.trans ?_ (Below.mono (by with_reducible assumption) ?_)) | omega | (simp only [World.size_alloc, World.size_setCell, World.size_drew, size_drewN']; omega) | go_size))⟩
          · have HN : Hid (coverN l = cvF (l.take (k + 1)) (l.drop (k + 1)) (out ++ rest)) := by
              show coverN l = cvF (l.take (k + 1)) (l.drop (k + 1)) (out ++ rest)
              rw [HC.out]
              exact cvF_step hlt (by rw [← HG.out]; exact HE.out) hlong
            have hlong' : ¬ 1024 < out.length + rest.length := by simpa using hlong
            clear hlong
            go_wp2_with (at_builtin; refine wpList_appC rfl (.tmp 47) (.tmp 48) rfl w.heap.size A' c' (out.map zc) (by simp [Act.eval]) (own.below hb2) wt.heap.size A2 c2 (rest.map zc) (by simp [Act.eval]) own2.rd (by simp; omega) (by omega) ?_; intro A6 c6 w6 own6 hb6 hg6)
            go_roundw
            case rel => exact ⟨k + 1, A6, c6, out ++ rest, by omega, by simp, by go_num, HN.out, by simp; omega, by simpa using own6, (by have z0 := Below.size hb; have z1 := Below.size hb2; have z2 := Below.size hb6; (try simp only [World.size_alloc, World.size_setCell, World.size_drew, size_drewN'] at z0 z1 z2 ⊢; skip); repeat' (first | (with_reducible exact Below.refl _ _) | (with_reducible assumption) | (with_reducible refine Below.alloc ?_ ?_ _) | (with_reducible refine Below.drew ?_) | (with_reducible refine below_drewN ?_ _) | (with_reducible refine Below.setCell ?_ ?_ _) | (with_reducible refine Below.trans ?_ (Below.mono (by with_reducible assumption) ?_)) | omega | (simp only [World.size_alloc, World.size_setCell, World.size_drew, size_drewN']; omega) | go_size))⟩
            case measure => simp [intOf]; omega
    · have HE : Hid (coverN l = some out) := by show coverN l = some out; rw [HC.out]; exact cvF_end (by omega)
      go_wp2
      go_returns
      exact ⟨.inl ⟨out, A', c', HE.out, rfl, own⟩, hb⟩
end Go.Proofs.Ytedopalmfakeaaa
