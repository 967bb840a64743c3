/- Contracts of functions and lemmas, used by the proofs of the given statements. No condition beyond those that each lemma names. -/
import Derived.Test.YtmebdlilbnadgaaGreatDoorJLinY
namespace Go.Proofs.YtmebdlilbnadgaaGreatDoor
open Go.RowKit
set_option linter.unusedSimpArgs false
set_option linter.unusedVariables false
set_option maxRecDepth 20000
attribute [local irreducible] nv wp win plainB validR valR canR gj findR elim swp gl rdF
/-! ## reference: Reduce -/
theorem swp_comm (M : Mf) (i j : Nat) : swp M i j = swp M j i := by
  funext a
  unfold swp
  by_cases h1 : a = i
  · by_cases h2 : a = j
    · rw [if_pos h1, if_pos h2, ← h1, ← h2]
    · rw [if_pos h1, if_neg h2, if_pos h1]
  · by_cases h2 : a = j
    · rw [if_neg h1, if_pos h2, if_pos h2]
    · rw [if_neg h1, if_neg h2, if_neg h2, if_neg h1]
def RetRR (b n c : Nat) (M : Mf) (e : Ending) (w : World) : Prop := ∃ bo co P cp v, e = .returned (.tuple #[.slice (some ⟨bo, 0, none⟩) (gj n M c).2.length co, .slice P (gj n M c).2.length cp, v]) ∧
  MatG w b bo co n (fun _ => c) (gj n M c).1 ∧ OwI w b P cp (gj n M c).2 ∧ RdS w b v (canR (rdF n M c))
/-- where the search for a pivot stands: rows na + t .. n have been looked at -/
def FR (S : Mf) (k na n t : Nat) (F : Int) : Prop := (F = -1 ∧ ∀ x, na + t ≤ x → x < n → S x k = 0) ∨ ∃ r : Nat, F = (r : Int) ∧ na + t ≤ r ∧ r < n ∧ S r k ≠ 0 ∧ ∀ x, na + t ≤ x → x < r → S x k = 0
theorem FR.zero {S : Mf} {k na n t : Nat} {F : Int} (h : FR S k na n (t + 1) F) (hp : S (na + t) k = 0) : FR S k na n t F := by
  rcases h with ⟨h1, h2⟩ | ⟨r, h1, h2, h3, h4, h5⟩
  · refine .inl ⟨h1, fun x hx hn => ?_⟩
    by_cases e : x = na + t
    · rw [e]; exact hp
    · exact h2 x (by omega) hn
  · refine .inr ⟨r, h1, by omega, h3, h4, fun x hx hr => ?_⟩
    by_cases e : x = na + t
    · rw [e]; exact hp
    · exact h5 x (by omega) hr
theorem FR.here {S : Mf} {k na n t : Nat} (hn : na + t < n) (hp : S (na + t) k ≠ 0) : FR S k na n t ((na + t : Nat) : Int) :=
  .inr ⟨na + t, rfl, Nat.le_refl _, hn, hp, fun x h1 h2 => by omega⟩
set_option maxHeartbeats 16000000 in
theorem rreduce_any {w : World} {n c ca L : Nat} {A : Option Addr} {len : Nat → Nat} {R : Nat → Nat → Rw} (h : MatI w w.heap.size A n len R) (hn0 : 0 < n) (hc0 : 0 < c) (hn : n ≤ 1000) (hc : c ≤ 1000) (hlen : ∀ i, i < n → len i = c)
    (hz : ∀ i k, i < n → k < c → (R i k).2.1.length ≤ L ∧ (R i k).2.2.length ≤ L) (hL : 1 ≤ L) (hg : gl L c ≤ 1000000000) :
    Calls Tryz.prog 103 #[.slice A n ca] w fun e w' => RetRR w.heap.size n c (fun i k => valR (R i k)) e w' ∧ Below w.heap.size w w' := by
  obtain ⟨M, hM⟩ : ∃ M : Mf, M = fun i k => valR (R i k) := ⟨_, rfl⟩
  have hsz0 : ∀ a b, a < n → b < c → Sz L (M a b) := fun a b ha hb => by
    rw [hM]; exact Sz_valR (h.ok' ha (by rw [hlen a ha]; exact hb)) hL (hz a b ha hb).1 (hz a b ha hb).2
  have HSZ := Lib.hid (gj_sz hL hsz0)
  have HRZ := Lib.hid (rdF_sz hL hsz0)
  have HGL := Lib.hid (fun k (hk : k ≤ c) => Nat.le_trans (gl_mono (L := L) hk) hg)
  have HGP := Lib.hid (gl_pos hL)
  have hL2 : L ≤ 1000000000 := by have := HGL.out 0 (by omega); rwa [gl_0] at this
  have HA := Lib.hid h
  have HLEN := Lib.hid hlen
  have HZ := Lib.hid hz
  have HMV := Lib.hid (fun i k => (by rw [hM] : valR (R i k) = M i k))
  rw [← hM]
  obtain ⟨b, off, A0, c0, rfl, hd0, -⟩ := h.at0 hn0
  rw [hlen 0 hn0] at hd0
  have HD0 := Lib.hid hd0
  have K10 : ∀ W, Calls Tryz.prog 42 #[.int .i64 1] W fun e w' => RetQ W.heap.size ((1 : Nat) : Rat) e w' ∧ Below W.heap.size W w' := fun W => rofQ 1 W (by omega)
  have K1 := Lib.hid K10
  clear K10 hM hsz0 h hlen hz hg
  obtain ⟨W0, hW0⟩ : ∃ W0, W0 = w.alloc (.cells #[.bool false, .slice none 0 0, .slice none 0 0] 30) := ⟨_, rfl⟩
  have hWb : Below w.heap.size w W0 := by rw [hW0]; exact (Below.refl _ _).alloc (Nat.le_refl _) _
  have hWz : W0.heap.size = w.heap.size + 1 := by rw [hW0]; simp
  have hres : OwR W0 w.heap.size (some ⟨w.heap.size, 0, none⟩) 1 1 (fun _ => canR 0) := by rw [hW0]; exact OwR.lit (Nat.le_refl _) (RdS.zero w _)
  have hres0 : W0.heap[w.heap.size]? = some (.cells #[.bool false, .slice none 0 0, .slice none 0 0] 30) := by rw [hW0]; exact heap_alloc_new w _
  have HW := Lib.hid hW0
  have HRES := Lib.hid hres
  have HRES0 := Lib.hid hres0
  clear hW0 hres hres0
  have hd1 := (hWb.cell (lt_of_cell HD0.out)).trans HD0.out
  rw [HW.out] at hd1
  go_enter Tryz.func103, Tryz.ntmps103
  go_wp2_with (first | (at_make; refine wpList_makeR1 rfl (.tmp 21) (.tmp 21) rfl (w.heap.size + 1) c (c : Int) (c : Int) (by simp [Act.eval]) (by simp [Act.eval]) rfl rfl (by omega) (by simp) ?_; intro w1 own1 hb1 hs1) | fail)
  simp only [World.size_alloc] at own1
  rw [← HW.out] at hb1
  simp only [World.size_alloc] at hs1
  have hb1z := hb1.size
  have hb01 : Below w.heap.size w w1 := hWb.trans (hb1.mono (by omega))
  have HZR := Lib.hid own1
  have hzl := own1.lt
  clear own1 hd0 hd1
  go_loopw [5, 25] (fun a i wr => ∃ k A d, k ≤ n ∧ i = .int .i64 (k : Int) ∧ a = .slice A k d ∧ MatP wr w1.heap.size A d k (fun _ => c) M ∧ Below w1.heap.size w1 wr) (fun _ i _ => n - (intOf i).toNat)
  case atStart => exact ⟨0, none, 0, Nat.zero_le _, rfl, rfl, MatP.nil_ _ _ _ _, Below.refl _ _⟩
  case round =>
    obtain ⟨k, A2, d2, hk, rfl, rfl, own, hb⟩ := hrel
    have hbz := hb.size
    have hbw : Below w.heap.size w wr := hb01.trans (hb.mono hb01.size)
    by_cases hlt : k < n
    · obtain ⟨x1, x2, Ai, ci, e1, _, ha0, hlc, hrow⟩ := HA.out.at_ hlt
      obtain ⟨rfl, rfl⟩ : x1 = b ∧ x2 = off := by injection e1 with e1; injection e1 with e1 e2; exact ⟨e1.symm, e2.symm⟩
      rw [HLEN.out k hlt] at ha0 hlc hrow
      have ha1 := (hbw.cell (lt_of_cell ha0)).trans ha0
      have KL := Lib.hid (by
        have := rless_any (ca := ci) (cb := c) (L := L) (hrow.kp (Kp.of_below hbw)).ra (HZR.out.below hb).ra (RdS.zero wr 0) (Nat.le_refl _) hc (fun j hj => HZ.out k j hlt hj) (fun j hj => Sz_canR (Sz.zero hL)) (Sz_canR (Sz.zero hL)) hL (by omega)
        rw [show (fun j => valR (R k j) - valR (canR 0) * valR (can (fun _ => 0) j)) = M k by
          funext j
          rw [HMV.out k j, valR_canR]
          grind] at this
        exact this : Calls Tryz.prog 135 #[.slice Ai c ci, zr, .slice (some ⟨w.heap.size + 1, 0, none⟩) c c] wr fun e w' => RetW wr.heap.size c (M k) e w' ∧ Below wr.heap.size wr w')
      have HO := Lib.hid own
      clear ha0 hrow own e1
      go_wp2_with (first | ((go_at_call 135; (with_reducible refine (KL.out).mono ?_); rintro e w3 ⟨⟨A3, c3', rfl, own3, far3⟩, hb3⟩; have hb3z := Below.size hb3; (try simp only [ZA, ZS, ZD] at hb3z))) | (at_builtin; refine wpList_appP rfl (.tmp 29) (.tmp 34) rfl wr w1.heap.size A2 d2 k (fun _ => c) M (by simp [Act.eval]) HO.out (hb3.alloc hb3.size _) w3.heap.size (by simp [Act.eval]) A3 c3' (by simp) (own3.below ((Below.refl _ _).alloc (Nat.le_refl _) _)) far3 (by omega) (by omega) ?_; intro A5 c5 w5 own5 hb5) | fail)
      exact ⟨⟨k + 1, A5, c5, by omega, by go_num, rfl, own5, hb.trans (((hb3.mono hbz).alloc (by have := hb3.size; omega) _).trans hb5)⟩, by simp [intOf]; omega⟩
    · have hkn : n = k := by omega
      subst hkn
      obtain ⟨bo, rfl, own1⟩ := own.mg hn0
      have hw0 : NWB w1 w.heap.size := (NWB.bool HRES0.out).below hb1 (by omega)
      have hw1 : NWB w1 (w.heap.size + 1) := HZR.out.nwb
      have HNW : Hid (∀ k, w.heap.size ≤ k → k < w1.heap.size → NWB w1 k) := fun k h1 h2 => by
        by_cases e : k = w.heap.size
        · rw [e]; exact hw0
        · rw [show k = w.heap.size + 1 by omega]; exact hw1
      have HRV := Lib.hid (HRES.out.below (hb1.mono (by omega)))
      clear hw0 hw1 HRES HRES0 HZR own HMV HZ HLEN hlt
      have hdr := (hbw.cell (lt_of_cell HD0.out)).trans HD0.out
      go_wp2_with (first | ((go_at_call 42; (with_reducible refine (K1.out _).mono ?_); rintro e w2 ⟨⟨v2, rfl, own2⟩, hb2⟩; have hb2z := Below.size hb2; (try simp only [ZA, ZS, ZD] at hb2z)); obtain ⟨s2, A2, n2, c2, B2, m2, d2', rfl⟩ := own2.form; have hdD := Lib.cell?_alloc_some (.cells #[.bool s2, .slice A2 n2 c2, .slice B2 m2 d2'] 30) ((hb2.cell (lt_of_cell hdr)).trans hdr)) | fail)
      have hb2z := hb2.size
      have own3 := own1.below hb2
      have hnb0 := own3.nb
      have hal : Below w2.heap.size w2 (w2.alloc (.cells #[.bool s2, .slice A2 n2 c2, .slice B2 m2 d2'] 30)) := (Below.refl _ _).alloc (Nat.le_refl _) _
      have hnb := hnb0.below hal own3.lt
      have own4 := own3.below hal
      have hv0 := OwR.lit (b0 := w1.heap.size) (w := w2) (by omega) (own2.rs (b0 := w1.heap.size))
      have e1 : ((1 : Nat) : Rat) = 1 := rfl
      rw [e1] at hv0
      have hb4 : Below w1.heap.size w1 (w2.alloc (.cells #[.bool s2, .slice A2 n2 c2, .slice B2 m2 d2'] 30)) := hb.trans ((hb2.mono hbz).trans (hal.mono (by omega)))
      obtain ⟨bd, hbd⟩ : ∃ bd, bd = w2.heap.size := ⟨_, rfl⟩
      obtain ⟨co, hco⟩ : ∃ co, co = d2 := ⟨_, rfl⟩
      rw [← hco] at own4
      rw [← hbd] at hv0 hnb
      obtain ⟨wD, hwD⟩ : ∃ wD, wD = w2.alloc (.cells #[.bool s2, .slice A2 n2 c2, .slice B2 m2 d2'] 30) := ⟨_, rfl⟩
      rw [← hwD, ← hbd, ← hco]
      rw [← hwD] at hv0 hnb own4 hb4 hdD
      have hcap := own4.cap
      have hlw1 : w.heap.size < w1.heap.size := by omega
      clear hwD hbd hco own1 own2 own3 hnb0 hal hb2 hb2z hb hbz hbw hdr hdD K1 e1 hb1 hb1z HA
      go_loopw [9, 42] (fun pv kk wr => ∃ (k : Nat) (P : Option Addr) (cp na : Nat), k ≤ c ∧ na = (gj n M k).2.length ∧ kk = .int .i64 k ∧ pv = .slice P na cp ∧ MatG wr w1.heap.size bo co n (fun _ => c) (gj n M k).1 ∧ OwI wr w1.heap.size P cp (gj n M k).2 ∧ OwR wr w1.heap.size (some ⟨bd, 0, none⟩) 1 1 (can fun _ => rdF n M k) ∧ NB wr bo n bd ∧ Below w1.heap.size w1 wr) (fun _ kk _ => c - (intOf kk).toNat)
      case atStart => exact ⟨0, none, 0, 0, Nat.zero_le _, by unfold gj; rfl, rfl, rfl, by unfold gj; exact own4, by unfold gj; exact OwI.nil_ _ _, by unfold rdF; exact hv0, hnb, hb4⟩
      case round =>
        obtain ⟨k, P, cp, na, hk, hna, rfl, rfl, own, opv, hv, hnb, hb⟩ := hrel
        have hlen := (gj_len_le (n := n) (M := M) k)
        rw [← hna] at hlen
        have hbz := hb.size
        have HNA := Lib.hid hna
        clear hna
        by_cases hlt : k < c
        · obtain ⟨S, hS⟩ : ∃ S, S = (gj n M k).1 := ⟨_, rfl⟩
          rw [← hS] at own
          have HS := Lib.hid hS
          have HS1 := Lib.hid (HSZ.out k hk)
          have HDZ := Lib.hid (HRZ.out k hk)
          have hGL := HGL.out k hk
          have HG := Lib.hid (HGP.out k)
          rw [← hS] at HS1
          clear hS
          obtain ⟨wq, hwq⟩ : ∃ wq, wq = wr := ⟨_, rfl⟩
          subst hwq
          have hlo := own.lt
          go_wp2
          go_loopw [13, 14] (fun f i wr => ∃ (t : Nat) (F : Int), na + t ≤ n ∧ i = .int .i64 (((na + t : Nat) : Int) - 1) ∧ f = .int .i64 F ∧ FR S k na n t F ∧ Below wq.heap.size wq wr) (fun _ i _ => (intOf i + 1 - (na : Int)).toNat)
          case atStart => exact ⟨n - na, -1, by omega, by rw [show na + (n - na) = n by omega], rfl, .inl ⟨rfl, fun x h1 h2 => by omega⟩, Below.refl _ _⟩
          case round =>
            obtain ⟨t, F, ht, rfl, rfl, hF, hb1⟩ := hrel
            have hb1z := hb1.size
            have HF := Lib.hid hF
            clear hF
            have own1 := own.below hb1
            by_cases ht0 : t = 0
            · subst ht0
              have e0 : (((na + 0 : Nat) : Int) - 1) = (na : Int) - 1 := by omega
              rw [e0]
              have e1 : decide ((na : Int) ≤ (na : Int) - 1) = false := decide_eq_false (by omega)
              have e2 : ¬ ((na : Int) ≤ (na : Int) - 1) := by omega
              rcases HF.out with ⟨rfl, hno⟩ | ⟨r, rfl, hr1, hr2, hr3, hr4⟩
              · have hv1 := hv.below hb1
                have hnb1 := hnb.below hb1 hlo
                have HFN : Hid (findR n S k na = n) := findR_eq hlen.2 (Nat.le_refl _) (fun x h1 h2 => hno x (by omega) h2) (.inl rfl)
                have HE : Hid (gj n M (k + 1) = gj n M k) := by
                  show gj n M (k + 1) = gj n M k
                  rw [gj_succ]
                  exact gjS_no (by rw [← HNA.out, ← HS.out]; exact HFN.out)
                have HR0 : Hid (rdF n M (k + 1) = 0) := rdF_no (by rw [← HNA.out, ← HS.out]; exact HFN.out)
                obtain ⟨t0, t1, t2, t3, t4, t5, t6, z0, z1, z2, -⟩ := hv1.var
                have hfz := hv1.frozen
                have hst := hv1.setVar (s := false) (A1 := none) (n1 := 0) (c1 := 0) (B1 := none) (m1 := 0) (d1 := 0) (RdS.zero wr w1.heap.size)
                obtain ⟨own2, kp2, hnb2, kt2⟩ := own1.other hv1 hnb1 hst.2
                have hbd1 := hv1.block.1
                have hb2 : Below w1.heap.size wr _ := below_of_row (b0 := w1.heap.size) hst.2 (fun q hq => by injection hq with hq; omega) (by omega)
                have ST := Lib.hid hst.1
                have OW := Lib.hid own2
                have NB2 := Lib.hid hnb2
                have OP := Lib.hid ((opv.below hb1).kt kt2)
                have BB := Lib.hid (hb.trans ((hb1.mono (by omega)).trans hb2))
                clear hno hst own2 hnb2 kp2 kt2 hb2 hv1 hnb1 own1
                go_wp2
                go_roundw
                case rel =>
                  refine ⟨k + 1, P, cp, na, by omega, ?_, by go_num, rfl, ?_, ?_, ?_, NB2.out, BB.out⟩
                  · rw [HE.out]; exact HNA.out
                  · rw [HE.out, ← HS.out]; exact OW.out
                  · rw [HE.out]; exact OP.out
                  · rw [HR0.out]; exact ST.out
                case measure => simp [intOf]; omega
              · have hr2' : ((r : Int) < (n : Int)) := by omega
                have hr0 : ¬ ((r : Int) < 0) := by omega
                have hfr : findR n S k na = r := findR_eq (by omega) (by omega) (fun x h1 h2 => hr4 x (by omega) h2) (.inr hr3)
                have HFR := Lib.hid hfr
                have HP := Lib.hid hr3
                have hna1 : na < n := by omega
                clear hr3 hr4 hfr HF
                go_upto_if 70 with (fail)
                go_cut [] from 68 to 86 (fun wx => MatG wx w1.heap.size bo co n (fun _ => c) (swp S na r) ∧ OwR wx w1.heap.size (some ⟨bd, 0, none⟩) 1 1 (can fun _ => if r = na then rdF n M k else - rdF n M k) ∧ OwI wx w1.heap.size P cp (gj n M k).2 ∧ NB wx bo n bd ∧ Below w1.heap.size w1 wx)
                case first =>
                  by_cases hrk : r = na
                  · have hrk1 : ((r : Int) == (na : Int)) = true := by simp [hrk]
                    have hrk2 : ((r : Int) != (na : Int)) = false := by simp [hrk]
                    have HSW : Hid (swp S na r = S) := by show swp S na r = S; rw [hrk, swp_self]
                    have HD : Hid ((if r = na then rdF n M k else - rdF n M k) = rdF n M k) := if_pos hrk
                    clear hrk
                    go_wp2
                    have own5 : MatG wr w1.heap.size bo co n (fun _ => c) (swp S na r) := by rw [HSW.out]; exact own1
                    have hv5 : OwR wr w1.heap.size (some ⟨bd, 0, none⟩) 1 1 (can fun _ => if r = na then rdF n M k else - rdF n M k) := by rw [HD.out]; exact hv.below hb1
                    have opv5 := opv.below hb1
                    have hnb5 : NB wr bo n bd := hnb.below hb1 hlo
                    have hb5 := hb.trans (hb1.mono (by omega))
                    go_meet
                    exact ⟨own5, hv5, opv5, hnb5, hb5⟩
                  · have hrk1 : ((r : Int) == (na : Int)) = false := beq_eq_false_iff_ne.2 (by omega)
                    have hrk2 : ((r : Int) != (na : Int)) = true := by rw [bne_iff_ne]; omega
                    have HD : Hid ((if r = na then rdF n M k else - rdF n M k) = - rdF n M k) := if_neg hrk
                    clear hrk
                    go_wp2
                    obtain ⟨AA, dA, AB, dB, hcA, hcB, own3, hkp3, hkt3, hb4'⟩ := own1.swap (show r < n by omega) hna1 (by omega)
                    have hnb3 := hnb.below hb1 hlo
                    have hnb4 := hnb3.swap (show r < n by omega) hna1 hcA hcB
                    have hfz := own1.frozen
                    have hv3 := hv.below hb1
                    have opv3 := opv.below hb1
                    have hi1 : (na : Int) < (n : Int) := by omega
                    have hi3 : (0 : Int) ≤ (na : Int) := by omega
                    have hi4 : (0 : Int) ≤ (r : Int) := by omega
                    have hc5 : (wr.setCell ⟨bo, r, none⟩ (.slice AB c dB)).cell? ⟨bo, na, none⟩ = some (.slice AB c dB) := cell_set_eq hcA hcB
                    go_region
                    obtain ⟨w4, hw4⟩ : ∃ w4, w4 = ((wr.setCell ⟨bo, r, none⟩ (.slice AB c dB)).setCell ⟨bo, na, none⟩ (.slice AA c dA)).drew := ⟨_, rfl⟩
                    rw [← hw4]
                    have hbd := below_drew ((wr.setCell ⟨bo, r, none⟩ (.slice AB c dB)).setCell ⟨bo, na, none⟩ (.slice AA c dA))
                    have own4' : MatG w4 w1.heap.size bo co n (fun _ => c) (swp S na r) := by rw [hw4, swp_comm]; exact own3.below hbd
                    have hv4 : OwR w4 w1.heap.size (some ⟨bd, 0, none⟩) 1 1 (can fun _ => rdF n M k) := by
                      rw [hw4]
                      refine OwR.below ?_ hbd
                      have hne := hv3.ne_o own1
                      exact hv3.keep (grown_trans (grown_set1 _ _ _ _) (grown_set1 _ _ _ _)) hkp3 hne
                    have hnb4' : NB w4 bo n bd := by rw [hw4]; exact hnb4.below hbd own3.lt
                    have opv4 : OwI w4 w1.heap.size P cp (gj n M k).2 := by rw [hw4]; exact (opv3.kt hkt3).below hbd
                    have hb44 : Below w1.heap.size w1 w4 := by rw [hw4]; exact hb.trans ((hb1.mono (by omega)).trans (hb4'.trans (hbd.mono (by have := hb4'.size; omega))))
                    have hlo4 := own4'.lt
                    have hvl4 := hv4.lt
                    obtain ⟨s5, A5, n5, c5, B5, m5, d5, y0, y1, y2, r5⟩ := hv4.var
                    have hfz4 := hv4.frozen
                    have KN := Lib.hid (rneg_any (r5.canQ HDZ.out) HG.out (by omega))
                    have hbd1 := hv4.block.1
                    clear hw4 own3 hkp3 hkt3 hb4' hbd hcA hcB hc5 hfz hnb3 hnb4 hv3 r5 opv3
                    go_wp2_with (first | ((go_at_call 101; (with_reducible refine (KN.out).mono ?_); rintro e w6 ⟨⟨v6, rfl, own6⟩, hb6⟩; have hb6z := Below.size hb6; (try simp only [ZA, ZS, ZD] at hb6z); have hb6c0 := fun o => below_at hb6 (bd) o (by first | omega | (simp only [ZA, ZS, ZD]; omega)); have hb6f0 := fun o => below_fr hb6 (bd) o (by first | omega | (simp only [ZA, ZS, ZD]; omega)); have hb6l0 : bd < (w6).heap.size := (by omega)); obtain ⟨s6, A6, n6, c6, B6, m6, d6, rfl⟩ := own6.form) | fail)
                    have hst := (hv4.below hb6).setVar (own6.rs (b0 := w1.heap.size))
                    obtain ⟨own7, hkp7, hnb7, hkt7⟩ := (own4'.below hb6).other (hv4.below hb6) (hnb4'.below hb6 hlo4) hst.2
                    obtain ⟨wx, hw5⟩ : ∃ wx, wx = (((w6.setCell ⟨bd, 0, none⟩ (.bool s6)).setCell ⟨bd, 1, none⟩ (.slice A6 n6 c6)).setCell ⟨bd, 2, none⟩ (.slice B6 m6 d6)) := ⟨_, rfl⟩
                    rw [← hw5] at hst own7 hnb7 hkt7 ⊢
                    have hv5 : OwR wx w1.heap.size (some ⟨bd, 0, none⟩) 1 1 (can fun _ => if r = na then rdF n M k else - rdF n M k) := by rw [HD.out]; exact hst.1
                    have opv5 := (opv4.below hb6).kt hkt7
                    have hb5 : Below w1.heap.size w1 wx := hb44.trans ((hb6.mono (by have := hb44.size; omega)).trans (below_of_row hst.2 (fun q hq => by injection hq with hq; omega) (by have := hb6.size; have := hb44.size; omega)))
                    go_meet
                    exact ⟨own7, hv5, opv5, hnb7, hb5⟩
                case rest =>
                  obtain ⟨own5, hv5, opv5, hnb5, hb5⟩ := hcut
                  have hrn : r < n := by omega
                  have HSW : Hid (∀ a b, a < n → b < c → Sz (gl L k) (swp S na r a b)) := swp_sz HS1.out hna1 hrn
                  have HPV : Hid (swp S na r na k ≠ 0) := by show swp S na r na k ≠ 0; rw [swp_l]; exact HP.out
                  have HGJ : Hid (gj n M (k + 1) = (elim (swp S na r) na k, (gj n M k).2 ++ [k])) := by
                    show gj n M (k + 1) = _
                    rw [gj_succ, HNA.out, HS.out]
                    exact gjS_yes (by rw [← HNA.out, ← HS.out]; exact HFR.out) hrn
                  obtain ⟨d1, hd1⟩ : ∃ d1, d1 = if r = na then rdF n M k else - rdF n M k := ⟨_, rfl⟩
                  have HRD : Hid (rdF n M (k + 1) = d1 * swp S na r na k) := by
                    show _ = _
                    rw [rdF_yes (r := r) (by rw [← HNA.out, ← HS.out]; exact HFR.out) hrn, hd1, HNA.out, HS.out]
                  have HD1 : Hid (Sz (gl L k) d1) := by
                    show Sz _ _
                    rw [hd1]
                    split
                    · exact HDZ.out
                    · exact HDZ.out.neg
                  rw [← hd1] at hv5
                  obtain ⟨S1, hS1⟩ : ∃ S1, S1 = swp S na r := ⟨_, rfl⟩
                  rw [← hS1] at own5 HSW HPV HGJ HRD
                  clear hS1 hd1 HP HFR HS1 HDZ own1 own hv opv hnb hb hb1 hb1z hlo hr1 hr2 hr0 hr2' e0 e1 e2 hbz
                  have hz5 := hb5.size
                  have hlo5 := own5.lt
                  have hvl5 := hv5.lt
                  obtain ⟨gA, dA, hXA⟩ := own5.row1 hna1 hc0
                  have hcA := hXA.cell hna1
                  try simp only at hcA
                  obtain ⟨s7, A7, n7, c7, B7, m7, e7, f0, f1, f2, rp⟩ := (hXA.own hna1).at_ hlt
                  have hlgA := (hXA.own hna1).lt
                  obtain ⟨s8, A8, n8, c8, B8, m8, e8, y0, y1, y2, rd⟩ := hv5.var
                  have hfz5 := hv5.frozen
                  have hneA : bd ≠ gA := hnb5.ne hna1 hcA
                  have hneO : bd ≠ bo := hv5.ne_o own5
                  have hbd1 := hv5.block.1
                  have nx1 : ¬ (gA = bd) := fun e => hneA e.symm
                  have nx2 : ¬ (bo = bd) := fun e => hneO e.symm
                  have nx3 : ¬ (wc.heap.size = bd) := by omega
                  have nx4 : ¬ (bd = wc.heap.size) := by omega
                  have KM := Lib.hid (fun W (hb : Below wc.heap.size wc W) => rmulQ ((rd.canQ HD1.out).below hb) ((rp.canQ (HSW.out na k hna1 hlt)).below hb) HG.out (by omega))
                  have HRP := Lib.hid rp
                  have hi1 : (na : Int) < (n : Int) := by omega
                  have hi0 : (0 : Int) ≤ (na : Int) := by omega
                  have hpal : Below wc.heap.size wc (wc.alloc (.cells #[.bool s7, .slice A7 n7 c7, .slice B7 m7 e7] 30)) := (Below.refl _ _).alloc (Nat.le_refl _) _
                  have HXA := Lib.hid hXA
                  clear rd rp hXA
                  go_wp2_with (first | ((go_at_call 67; (with_reducible refine (KM.out _ hpal).mono ?_); rintro e w7 ⟨⟨v7, rfl, own7⟩, hb7⟩; have hb7z := Below.size hb7; (try simp only [ZA, ZS, ZD] at hb7z); have hb7c0 := fun o => below_at hb7 (bd) o (by first | omega | (simp only [ZA, ZS, ZD]; omega)); have hb7f0 := fun o => below_fr hb7 (bd) o (by first | omega | (simp only [ZA, ZS, ZD]; omega)); have hb7l0 : bd < (w7).heap.size := (by omega); have hb7c1 := fun o => below_at hb7 (wc.heap.size) o (by first | omega | (simp only [ZA, ZS, ZD]; omega)); have hb7f1 := fun o => below_fr hb7 (wc.heap.size) o (by first | omega | (simp only [ZA, ZS, ZD]; omega)); have hb7l1 : wc.heap.size < (w7).heap.size := (by omega); have hb7c2 := fun o => below_at hb7 (bo) o (by first | omega | (simp only [ZA, ZS, ZD]; omega)); have hb7f2 := fun o => below_fr hb7 (bo) o (by first | omega | (simp only [ZA, ZS, ZD]; omega)); have hb7l2 : bo < (w7).heap.size := (by omega); have hb7c3 := fun o => below_at hb7 (gA) o (by first | omega | (simp only [ZA, ZS, ZD]; omega)); have hb7f3 := fun o => below_fr hb7 (gA) o (by first | omega | (simp only [ZA, ZS, ZD]; omega)); have hb7l3 : gA < (w7).heap.size := (by omega)); obtain ⟨s9, A9, n9, c9, B9, m9, e9, rfl⟩ := own7.form) | fail)
                  have hbc7 : Below wc.heap.size wc w7 := hpal.trans (hb7.mono (by simp))
                  have hst := (hv5.below hbc7).setVar (own7.rs (b0 := w1.heap.size))
                  obtain ⟨ow8, kp8, nb8, kt8⟩ := (own5.below hbc7).other (hv5.below hbc7) (hnb5.below hbc7 hlo5) hst.2
                  have pc : ∀ o, (((w7.setCell ⟨bd, 0, none⟩ (.bool s9)).setCell ⟨bd, 1, none⟩ (.slice A9 n9 c9)).setCell ⟨bd, 2, none⟩ (.slice B9 m9 e9)).cell? ⟨wc.heap.size, o, none⟩ = (wc.alloc (.cells #[.bool s7, .slice A7 n7 c7, .slice B7 m7 e7] 30)).cell? ⟨wc.heap.size, o, none⟩ := fun o => (grown_at hst.2 o (by omega) nx3).trans (hb7.cell (p := ⟨wc.heap.size, o, none⟩) (by simp))
                  have hb8 : Below w1.heap.size w1 (((w7.setCell ⟨bd, 0, none⟩ (.bool s9)).setCell ⟨bd, 1, none⟩ (.slice A9 n9 c9)).setCell ⟨bd, 2, none⟩ (.slice B9 m9 e9)) := hb5.trans ((hbc7.mono hz5).trans (below_of_row hst.2 (fun q hq => by injection hq with hq; omega) (by omega)))
                  have opv8 := (opv5.below hbc7).kt kt8
                  have nbp := own5.nb.keep (w' := (((w7.setCell ⟨bd, 0, none⟩ (.bool s9)).setCell ⟨bd, 1, none⟩ (.slice A9 n9 c9)).setCell ⟨bd, 2, none⟩ (.slice B9 m9 e9))) (fun i _ => (grown_at hst.2 i (by omega) nx2).trans (below_at hbc7 bo i hlo5))
                  have RP := Lib.hid (HRP.out.kp ((Kp.of_below hbc7).trans kp8))
                  obtain ⟨w8, hw8⟩ : ∃ w8, w8 = (((w7.setCell ⟨bd, 0, none⟩ (.bool s9)).setCell ⟨bd, 1, none⟩ (.slice A9 n9 c9)).setCell ⟨bd, 2, none⟩ (.slice B9 m9 e9)) := ⟨_, rfl⟩
                  rw [← hw8] at hst ow8 nb8 opv8 RP pc hb8 nbp ⊢
                  have p0 : w8.cell? ⟨wc.heap.size, 0, none⟩ = some (.bool s7) := by rw [pc]; simp
                  have p1 : w8.cell? ⟨wc.heap.size, 1, none⟩ = some (.slice A7 n7 c7) := by rw [pc]; simp
                  have p2 : w8.cell? ⟨wc.heap.size, 2, none⟩ = some (.slice B7 m7 e7) := by rw [pc]; simp
                  have hz8 := hb8.size
                  have hv8 := hst.1
                  have hp8 := lt_of_cell p0
                  obtain ⟨gp, hgp⟩ : ∃ gp, gp = wc.heap.size := ⟨_, rfl⟩
                  have hgp1 : w1.heap.size ≤ gp := by omega
                  have hgpo : gp ≠ bo := by omega
                  have hgpd : gp ≠ bd := by omega
                  rw [← hgp] at p0 p1 p2 hp8
                  rw [← hgp]
                  obtain ⟨gB, dB, hXB⟩ := ow8.row1 hna1 hc0
                  rw [← hgp] at nbp
                  have hgpB : gp ≠ gB := nbp.ne hna1 (hXB.cell hna1)
                  obtain ⟨D, hD⟩ : ∃ D, D = d1 * S1 na k := ⟨_, rfl⟩
                  have HRD2 : Hid (rdF n M (k + 1) = D) := by rw [hD]; exact HRD.out
                  rw [← hD] at hv8
                  have hcX := hXB.cell hna1
                  try simp only at hcX
                  clear hw8 hst ow8 nbp pc opv5 hnb5 hv5 own5 hfz5 hcA f0 f1 f2 y0 y1 y2 KM HRP HXA hpal hbc7 hb7 own7 nx3 nx4 hgp HRD hD
                  try clear hb7c0 hb7f0 hb7c1 hb7f1 hb7c2 hb7f2 hb7c3 hb7f3 hb7l0 hb7l1 hb7l2 hb7l3
                  go_loopw [102] (fun jj wr => ∃ j : Nat, j ≤ c ∧ jj = .int .i64 j ∧ MatX wr w1.heap.size bo co n na (some ⟨gB, 0, none⟩) dB (fun _ => c) (upd S1 na (dv S1 na k j)) ∧ wr.cell? ⟨gp, 0, none⟩ = some (.bool s7) ∧ wr.cell? ⟨gp, 1, none⟩ = some (.slice A7 n7 c7) ∧ wr.cell? ⟨gp, 2, none⟩ = some (.slice B7 m7 e7) ∧ OwI wr w1.heap.size P cp (gj n M k).2 ∧ OwR wr w1.heap.size (some ⟨bd, 0, none⟩) 1 1 (can fun _ => D) ∧ NB wr bo n bd ∧ Below w1.heap.size w1 wr ∧ Kp w1.heap.size w8 wr ∧ gp < wr.heap.size) (fun jj _ => c - (intOf jj).toNat)
                  case atStart =>
                    refine ⟨0, Nat.zero_le _, rfl, ?_, p0, p1, p2, opv8, hv8, nb8, hb8, Kp.refl _ _, hp8⟩
                    have e : upd S1 na (dv S1 na k 0) = S1 := by
                      have : dv S1 na k 0 = S1 na := by funext b; unfold dv; simp
                      rw [this, upd_self]
                    rw [e]; exact hXB
                  case round =>
                    obtain ⟨j, hj, rfl, hX, bx0, bx1, bx2, opv6, hv6, hnb6, hb6, hkp6, hwz⟩ := hrel
                    have hcH := hX.cell hna1
                    try simp only at hcH
                    have hbz6 := hb6.size
                    by_cases hjc : j < c
                    · have hrow := hX.own hna1
                      rw [upd_same] at hrow
                      obtain ⟨s3, A3, n3, c3', B3, m3, e3, y0, y1, y2, rj⟩ := hrow.at_ hjc
                      have hcj : can (dv S1 na k j) j = canR (S1 na j) := by unfold can dv; simp
                      rw [hcj] at rj
                      have q1 := rj.canQ (HSW.out na j hna1 hjc)
                      have qf := RdS.canQ (q := S1 na k) (RP.out.kp hkp6) (HSW.out na k hna1 hlt)
                      have K1 := Lib.hid (fun W (hb : Below wr.heap.size wr W) => rdivQ (q1.below hb) (qf.below hb) HG.out (by omega) HPV.out)
                      have hfz := hrow.frozen
                      have hlo := hX.mg.lt
                      have hlg := hrow.lt
                      have hvl := hv6.lt
                      have hfX := Lib.hid hX
                      have HRow := Lib.hid hrow
                      have hngb : ¬ (gp = gB) := hgpB
                      have hngb2 : ¬ (gB = gp) := fun e => hgpB e.symm
                      have hngo : ¬ (bo = gB) := fun e => hX.ne hna1 rfl e.symm
                      have hngo2 : ¬ (gB = bo) := hX.ne hna1 rfl
                      have hngd : bd ≠ gB := hnb6.ne hna1 hcH
                      have HOP := Lib.hid opv6
                      have HVV := Lib.hid hv6
                      have HNB := Lib.hid hnb6
                      clear hrow hcj q1 qf rj hX opv6 hv6 hnb6
                      have hj0 : (0 : Int) ≤ (j : Int) := by omega
                      have hj1 : (j : Int) < (c : Int) := by omega
                      go_wp2
                      rw [ld_later 30 (.tmp 116)]
                      go_region_held3 (fun W => W.cell? ⟨gp, 0, none⟩ = some (.bool s7) ∧ W.cell? ⟨gp, 1, none⟩ = some (.slice A7 n7 c7) ∧ W.cell? ⟨gp, 2, none⟩ = some (.slice B7 m7 e7) ∧ W.cell? ⟨bo, na, none⟩ = some (.slice (some ⟨gB, 0, none⟩) c dB)) (go_keep)
                        (first | ((go_at_call 136; (with_reducible refine (K1.out _ (by (skip); repeat' (first | (with_reducible exact Below.refl _ _) | (with_reducible assumption) | (with_reducible refine Below.alloc ?_ ?_ _) | (with_reducible refine Below.drew ?_) | (with_reducible refine below_drewN ?_ _) | (with_reducible refine Below.setCell ?_ ?_ _) | (with_reducible refine Below.trans ?_ (Below.mono (by with_reducible assumption) ?_)) | omega | (simp only [ZA, ZS, ZD, ZN]; omega) | go_size))).mono ?_); rintro e w5 ⟨⟨v5, rfl, own5⟩, hb7⟩; have hb7z := Below.size hb7; (try simp only [ZA, ZS, ZD] at hb7z); have hb7c0 := fun o => below_at hb7 (gB) o (by first | omega | (simp only [ZA, ZS, ZD]; omega)); have hb7f0 := fun o => below_fr hb7 (gB) o (by first | omega | (simp only [ZA, ZS, ZD]; omega)); have hb7l0 : gB < (w5).heap.size := (by omega); have hb7c1 := fun o => below_at hb7 (gp) o (by first | omega | (simp only [ZA, ZS, ZD]; omega)); have hb7f1 := fun o => below_fr hb7 (gp) o (by first | omega | (simp only [ZA, ZS, ZD]; omega)); have hb7l1 : gp < (w5).heap.size := (by omega); have hb7c2 := fun o => below_at hb7 (bo) o (by first | omega | (simp only [ZA, ZS, ZD]; omega)); have hb7f2 := fun o => below_fr hb7 (bo) o (by first | omega | (simp only [ZA, ZS, ZD]; omega)); have hb7l2 : bo < (w5).heap.size := (by omega)); obtain ⟨s5, A5, n5, c5, B5, m5, e5, rfl⟩ := own5.form) | fail)
                      all_goals
                        have hbw : Below wr.heap.size wr w5 := (by have z0 := Below.size hb7; (try simp only [ZA, ZS, ZD, ZN] at z0 ⊢; skip); repeat' (first | (with_reducible exact Below.refl _ _) | (with_reducible assumption) | (with_reducible refine Below.alloc ?_ ?_ _) | (with_reducible refine Below.drew ?_) | (with_reducible refine below_drewN ?_ _) | (with_reducible refine Below.setCell ?_ ?_ _) | (with_reducible refine Below.trans ?_ (Below.mono (by with_reducible assumption) ?_)) | omega | (simp only [ZA, ZS, ZD, ZN]; omega) | go_size))
                        have st := (HRow.out.below hbw).set hjc (own5.rs (b0 := w1.heap.size))
                        rw [upd_can, dv_succ] at st
                        obtain ⟨hX6, hk6, hb9⟩ := (hfX.out.below hbw).same hna1 st.2 st.1 (by omega)
                        rw [upd_upd] at hX6
                        go_wp2
                        go_roundw
                        case rel =>
                          refine ⟨j + 1, by omega, by go_num, hX6, ?_, ?_, ?_, ((HOP.out.below hbw).kt ((HRow.out.below hbw).kt st.2)), (HVV.out.below hbw).keep st.2 hk6 hngd, (HNB.out.below hbw hlo).keep fun x _ => grown_at st.2 x (by omega) hngo, hb6.trans ((hbw.mono hbz6).trans hb9), hkp6.trans ((Kp.of_below hbw).trans hk6), ?_⟩
                          · rw [grown_at st.2 0 (by omega) hngb, below_at hbw gp 0 (by omega)]; exact bx0
                          · rw [grown_at st.2 1 (by omega) hngb, below_at hbw gp 1 (by omega)]; exact bx1
                          · rw [grown_at st.2 2 (by omega) hngb, below_at hbw gp 2 (by omega)]; exact bx2
                          · have := st.2.size; omega
                        case measure => simp [intOf]; omega
                    · have hjc2 : c = j := by omega
                      subst hjc2
                      have own6 := hX.mg
                      have HSD : Hid (∀ b, b < c → Sz (gl L k + gl L k) (dv S1 na k c b)) := by
                        show ∀ b, b < c → _
                        intro b hb
                        unfold dv
                        rw [if_pos hb]
                        exact (HSW.out na b hna1 hb).div (HSW.out na k hna1 hlt) HG.out
                      clear hX bx0 bx1 bx2 hcH RP p0 p1 p2 hkp6 hwz hcX hXB
                      rw [el_zero S1 na k c] at own6
                      obtain ⟨w9, hw9⟩ : ∃ w9, w9 = wr := ⟨_, rfl⟩
                      subst hw9
                      go_wp2
                      go_loopw [126] (fun ii wr => ∃ i : Nat, i ≤ n ∧ ii = .int .i64 i ∧ MatG wr w1.heap.size bo co n (fun _ => c) (el S1 na k c i) ∧ OwI wr w1.heap.size P cp (gj n M k).2 ∧ OwR wr w1.heap.size (some ⟨bd, 0, none⟩) 1 1 (can fun _ => D) ∧ NB wr bo n bd ∧ Below w1.heap.size w1 wr) (fun ii _ => n - (intOf ii).toNat)
                      case atStart => exact ⟨0, Nat.zero_le _, rfl, own6, opv6, hv6, hnb6, hb6⟩
                      case round =>
                        obtain ⟨i, hi, rfl, own7, opv7, hv7, hnb7, hb7⟩ := hrel
                        have hb7z := hb7.size
                        by_cases hin : i < n
                        · have hi0 : (0 : Int) ≤ (i : Int) := by omega
                          have hi1 : (i : Int) < (n : Int) := by omega
                          have hi5 : (na : Int) < (n : Int) := by omega
                          have hi6 : (0 : Int) ≤ (na : Int) := by omega
                          by_cases hia : i = na
                          · subst hia
                            have HE := Lib.hid (el_at S1 i k c)
                            have e9 : ((i : Int) == (i : Int)) = true := by simp
                            go_wp2
                            go_roundw
                            case rel => exact ⟨i + 1, by omega, by go_num, by rw [HE.out]; exact own7, opv7, hv7, hnb7, hb7⟩
                            case measure => simp [intOf]; omega
                          · have hia2 : ((i : Int) != (na : Int)) = true := by rw [bne_iff_ne]; omega
                            have hia3 : ((i : Int) == (na : Int)) = false := beq_eq_false_iff_ne.2 (by omega)
                            obtain ⟨gI, dI, gN, dN, hgne, hXI, hXN⟩ := own7.rows2 hin hna1 hia hc0
                            have hcI := hXI.cell hin
                            have hcN := hXN.cell hna1
                            try simp only at hcI hcN
                            have rI := hXI.own hin
                            have rN := hXN.own hna1
                            rw [el_row hia] at rI
                            rw [el_piv] at rN
                            obtain ⟨s6, A6, n6, c6, B6, m6, e6, z0, z1, z2, rk⟩ := rI.at_ hlt
                            have hloB := own7.lt
                            have hlgI := rI.lt
                            have hvl := hv7.lt
                            have hngo : gI ≠ bo := hXI.ne hin rfl
                            have hngo2 : ¬ (bo = gI) := fun e => hngo e.symm
                            have KL := Lib.hid (fun W (hb : Below wr.heap.size wr W) => (by
                              have := rless_any (ca := dI) (cb := dN) (L := gl L k + gl L k) (rI.ra.below hb) (rN.ra.below hb) (rk.kp (Kp.of_below hb)) (Nat.le_refl _) hc (fun b hb => Sz_canR ((HSW.out i b hin hb).more (by omega))) (fun b hb => Sz_canR (HSD.out b hb)) (Sz_canR ((HSW.out i k hin hlt).more (by omega))) (by have := HG.out; omega) (by omega)
                              rw [show (fun j => valR (can (S1 i) j) - valR (can (S1 i) k) * valR (can (dv S1 na k c) j)) = fun b => S1 i b - S1 i k * dv S1 na k c b by
                                funext b
                                show valR (canR _) - valR (canR _) * valR (canR _) = _
                                rw [valR_canR, valR_canR, valR_canR]] at this
                              exact this : Calls Tryz.prog 135 #[.slice (some ⟨gI, 0, none⟩) c dI, rv s6 A6 n6 c6 B6 m6 e6, .slice (some ⟨gN, 0, none⟩) c dN] W fun e w' => RetW W.heap.size c (fun b => S1 i b - S1 i k * dv S1 na k c b) e w' ∧ Below W.heap.size W w'))
                            have HXI := Lib.hid hXI
                            have HOP := Lib.hid opv7
                            have HVV := Lib.hid hv7
                            have HNB := Lib.hid hnb7
                            have HOW := Lib.hid own7
                            have hfz := own7.frozen
                            clear rI rN rk hXI hXN opv7 hv7 hnb7
                            go_wp2
                            rw [ld_later 35 (.tmp 136)]
                            rw [ld_later 35 (.tmp 140)]
                            have hso : ∀ (W : World) (v : Value), (W.setCell ⟨bo, i, none⟩ v).cell? ⟨bo, na, none⟩ = W.cell? ⟨bo, na, none⟩ := fun W v => World.cell?_setCell_other _ _ _ _ (by intro e; injection e with _ e _; exact hia e)
                            go_region_held3 (fun W => W.cell? ⟨bo, na, none⟩ = some (.slice (some ⟨gN, 0, none⟩) c dN) ∧ W.cell? ⟨gI, k * 3, none⟩ = some (.bool s6) ∧ W.cell? ⟨gI, k * 3 + 1, none⟩ = some (.slice A6 n6 c6) ∧ W.cell? ⟨gI, k * 3 + 2, none⟩ = some (.slice B6 m6 e6)) (go_keep)
                              (first | ((go_at_call 135; (with_reducible refine (KL.out _ (by (skip); repeat' (first | (with_reducible exact Below.refl _ _) | (with_reducible assumption) | (with_reducible refine Below.alloc ?_ ?_ _) | (with_reducible refine Below.drew ?_) | (with_reducible refine below_drewN ?_ _) | (with_reducible refine Below.setCell ?_ ?_ _) | (with_reducible refine Below.trans ?_ (Below.mono (by with_reducible assumption) ?_)) | omega | (simp only [ZA, ZS, ZD, ZN]; omega) | go_size))).mono ?_); rintro e w10 ⟨⟨A10, c10, rfl, own10, far10⟩, hb8⟩; have hb8z := Below.size hb8; (try simp only [ZA, ZS, ZD] at hb8z); have hb8c0 := fun o => below_at hb8 (bo) o (by first | omega | (simp only [ZA, ZS, ZD]; omega)); have hb8f0 := fun o => below_fr hb8 (bo) o (by first | omega | (simp only [ZA, ZS, ZD]; omega)); have hb8l0 : bo < (w10).heap.size := (by omega); have hb8c1 := fun o => below_at hb8 (gI) o (by first | omega | (simp only [ZA, ZS, ZD]; omega)); have hb8f1 := fun o => below_fr hb8 (gI) o (by first | omega | (simp only [ZA, ZS, ZD]; omega)); have hb8l1 : gI < (w10).heap.size := (by omega)); obtain ⟨g10, rfl⟩ := own10.form hc0) | fail)
                            all_goals
                              have hbw : Below wr.heap.size wr w10 := (by have z0 := Below.size hb8; (try simp only [ZA, ZS, ZD, ZN] at z0 ⊢; skip); repeat' (first | (with_reducible exact Below.refl _ _) | (with_reducible assumption) | (with_reducible refine Below.alloc ?_ ?_ _) | (with_reducible refine Below.drew ?_) | (with_reducible refine below_drewN ?_ _) | (with_reducible refine Below.setCell ?_ ?_ _) | (with_reducible refine Below.trans ?_ (Below.mono (by with_reducible assumption) ?_)) | omega | (simp only [ZA, ZS, ZD, ZN]; omega) | go_size))
                              have hg10 : wr.heap.size ≤ g10 := by have := far10 g10 rfl; simpa using this
                              have hnw := own10.raise (b := w1.heap.size) (fun q hq => by have hq2 : g10 = q := (by injection hq); omega)
                              have hp := HXI.out.put' (n0 := c) (c0 := dI) hin (grown_of_below hbw _) hnw (.inr hg10) hb7z
                              obtain ⟨hbo, cur, hbc⟩ := (HOW.out.below hbw).block
                              have kp' := Kp.grown (grown_set1 w10 bo i (.slice (some ⟨g10, 0, none⟩) c c10)) hbo hbc (by decide)
                              have opv' := (HOP.out.below hbw).kt (KT.grown (grown_set1 w10 bo i (.slice (some ⟨g10, 0, none⟩) c c10)) fun q hq => by injection hq with hq; subst hq; exact ⟨cur, _, _, hbc, .inr rfl⟩)
                              have hv' := (HVV.out.below hbw).keep (grown_set1 w10 bo i (.slice (some ⟨g10, 0, none⟩) c c10)) kp' hneO
                              have nb' := (HNB.out.below hbw hloB).put (k' := c) (c' := c10) (g' := g10) hin ((below_at hbw bo i hloB).trans hcI) (by omega)
                              have hfin := hp.1.congr (len' := fun _ => c) (M' := el S1 na k c (i + 1)) (fun x _ => by unfold upd; split <;> rfl) (fun x b _ hb => el_step hia x b (by unfold upd at hb; split at hb <;> exact hb))
                              have HFIN := Lib.hid hfin
                              have HB9 := Lib.hid (hb7.trans hp.2.2)
                              clear hp hfin kp' hnw
                              go_wp2
                              go_roundw
                              case rel => exact ⟨i + 1, by omega, by go_num, HFIN.out, opv', hv', nb', HB9.out⟩
                              case measure => simp [intOf]; omega
                        · have hin2 : i = n := by omega
                          subst hin2
                          have own8 : MatG wr w1.heap.size bo co i (fun _ => c) (gj i M (k + 1)).1 := own7.congr (fun _ _ => rfl) (fun x b hx hb => by rw [HGJ.out]; exact el_end hx hb)
                          have HPL : Hid ((gj i M (k + 1)).2 = (gj i M k).2 ++ [k]) := by show _ = _; rw [HGJ.out]
                          have HN1 : Hid ((gj i M k).2.length = na) := HNA.out.symm
                          have HBK := Lib.hid opv7.block
                          have hal : Below wr.heap.size wr (wr.alloc (.cells #[.int .i64 (k : Int)] 3)) := (Below.refl _ _).alloc (Nat.le_refl _) _
                          have HO8 := Lib.hid (own8.below hal)
                          have HOP := Lib.hid (opv7.below hal)
                          have HVV := Lib.hid (hv7.below hal)
                          have hlo9 := own7.lt
                          have HNB := Lib.hid (hnb7.below hal hlo9)
                          have hr' : ∀ q, (Value.slice P na cp).ownBlock = some q → w1.heap.size ≤ q ∧ ∃ cur, (wr.alloc (.cells #[.int .i64 (k : Int)] 3)).heap[q]? = some (.cells cur 3 (0, 0)) := fun q hq => by
                            obtain ⟨g1, cur, g2⟩ := HBK.out q (by rw [HN1.out]; exact hq)
                            exact ⟨g1, cur, by rw [hal.block q (Array.getElem?_eq_some_iff.1 g2).1]; exact g2⟩
                          have HR' := Lib.hid hr'
                          clear own7 own8 opv7 hv7 hnb7 hr'
                          go_wp2_with (at_builtin; refine wpList_appI1 rfl (.tmp 152) (.tmp 154) rfl w1.heap.size P cp na (gj i M k).2 HN1.out (by simp [Act.eval]) HOP.out k wr.heap.size (by simp [Act.eval]) (by simp) (by omega) (by simp; omega) ?_; intro P9 cp9 w11 opv9 hb9 hg9)
                          rw [HN1.out] at hg9
                          have hg9' := hg9
                          obtain ⟨own10, hk10⟩ := HO8.out.int hg9 HR'.out
                          have hv10 := HVV.out.int hg9 HR'.out
                          have hbo9 : ∀ q, (Value.slice P na cp).ownBlock = some q → q ≠ bo := fun q hq e => by
                            obtain ⟨_, cur, g2⟩ := HR'.out q hq
                            obtain ⟨_, cur', g3⟩ := HO8.out.block
                            rw [e, g3] at g2
                            injection g2 with g2
                            injection g2 with _ g2 _
                            exact absurd g2 (by decide)
                          have nb10 := HNB.out.keep (w' := w11) (fun x _ => World.cell?_of_block (a := ⟨bo, x, none⟩) (hg9.block bo (by simp; omega) (fun e => hbo9 bo e.symm rfl)))
                          refine ⟨⟨k + 1, P9, cp9, na + 1, by omega, ?_, by go_num, rfl, own10, ?_, ?_, nb10, hb7.trans ((hal.mono hb7z).trans hb9)⟩, by simp [intOf]; omega⟩
                          · rw [HPL.out, List.length_append, HN1.out]; rfl
                          · rw [HPL.out]; exact opv9
                          · rw [HRD2.out]; exact hv10
            · obtain ⟨t', rfl⟩ : ∃ t', t = t' + 1 := ⟨t - 1, by omega⟩
              have e0 : (((na + (t' + 1) : Nat) : Int) - 1) = ((na + t' : Nat) : Int) := by omega
              rw [e0]
              clear e0
              have hxn : na + t' < n := by omega
              obtain ⟨g1, d1, hX1⟩ := own1.row1 hxn hc0
              have hc1 := hX1.cell hxn
              try simp only at hc1
              obtain ⟨s1, A1, n1, c1, B1, m1, e1, f0, f1, f2, r1⟩ := (hX1.own hxn).at_ hlt
              have K := Lib.hid (rsignQ (r1.canQ (HS1.out _ k hxn hlt)) HG.out (by omega))
              clear r1 hX1
              have HX : Hid (∀ y : Nat, y = na + t' → ((y : Int) - 1) = (((na + t' : Nat) : Int) - 1)) := fun y hy => by rw [hy]
              by_cases hp : S (na + t') k = 0
              · have HFZ := Lib.hid (HF.out.zero hp)
                rw [hp, sgnQ_zero.2 rfl] at K
                clear hp HF
                generalize hx : na + t' = x at *
                have hx0 : (0 : Int) ≤ (x : Int) := by omega
                have hx1 : (x : Int) < (n : Int) := by omega
                have hx2 : (na : Int) ≤ (x : Int) := by omega
                go_wp2_with (first | (go_at_call 72; (with_reducible refine (K.out).mono ?_); rintro e w3 ⟨rfl, hb3⟩; have hb3z := Below.size hb3; (try simp only [ZA, ZS, ZD] at hb3z); have hb3c0 := fun o => below_at hb3 (bo) o (by first | omega | (simp only [ZA, ZS, ZD]; omega)); have hb3f0 := fun o => below_fr hb3 (bo) o (by first | omega | (simp only [ZA, ZS, ZD]; omega)); have hb3l0 : bo < (w3).heap.size := (by omega)) | fail)
                go_roundw
                case rel => exact ⟨t', F, by omega, by rw [hx], rfl, HFZ.out, hb1.trans (hb3.mono hb1z)⟩
                case measure => simp [intOf]; omega
              · have HFH := Lib.hid (FR.here hxn hp)
                have hq1 := sgn_eq hp
                have hq2 := sgn_ne hp
                clear hp HF
                generalize hx : na + t' = x at *
                generalize sgnQ (S x k) = sg at *
                have hx0 : (0 : Int) ≤ (x : Int) := by omega
                have hx1 : (x : Int) < (n : Int) := by omega
                have hx2 : (na : Int) ≤ (x : Int) := by omega
                go_wp2_with (first | (go_at_call 72; (with_reducible refine (K.out).mono ?_); rintro e w3 ⟨rfl, hb3⟩; have hb3z := Below.size hb3; (try simp only [ZA, ZS, ZD] at hb3z); have hb3c0 := fun o => below_at hb3 (bo) o (by first | omega | (simp only [ZA, ZS, ZD]; omega)); have hb3f0 := fun o => below_fr hb3 (bo) o (by first | omega | (simp only [ZA, ZS, ZD]; omega)); have hb3l0 : bo < (w3).heap.size := (by omega)) | fail)
                go_roundw
                case rel => exact ⟨t', (x : Int), by omega, by rw [hx], rfl, HFH.out, hb1.trans (hb3.mono hb1z)⟩
                case measure => simp [intOf]; omega
        · have hkc : k = c := by omega
          subst hkc
          have HNR := Lib.hid (fun q (h1 : w.heap.size ≤ q) (h2 : q < w1.heap.size) => (HNW.out q h1 h2).below hb h2)
          have hrv := HRV.out.below hb
          have hnl : NB wr bo n w.heap.size := own.nbLow hlw1
          obtain ⟨t0, t1, t2, t3, t4, t5, t6, z0, z1, z2, -⟩ := hrv.var
          have hfzr := hrv.frozen
          obtain ⟨s5, A5, n5, c5, B5, m5, d5, y0, y1, y2, r5⟩ := hv.var
          have hbd1 := hv.block.1
          have ne1 : ¬ (bd = w.heap.size) := by omega
          have ne2 : ¬ (w.heap.size = bd) := by omega
          have OWN := Lib.hid (own.lower (by omega) HNR.out)
          have R5 := Lib.hid (RdS.lower (r := canR (rdF n M k)) r5 HNR.out)
          have OPV := Lib.hid (opv.base_ (show w.heap.size ≤ w1.heap.size by omega))
          have HST := Lib.hid (hrv.setVar R5.out)
          have HRVL := Lib.hid hrv
          have HNL := Lib.hid hnl
          have hi0 : (0 : Int) ≤ (na : Int) := by omega
          have hi1 : (na : Int) ≤ (co : Int) := by omega
          clear own opv hv hnb r5 hrv hnl
          go_wp2
          go_region
          go_wp2
          refine bodyPost_ret (v := (.tuple #[.slice (some ⟨bo, 0, none⟩) na co, .slice P na cp, rv s5 A5 n5 c5 B5 m5 d5])) (by simp [results, Tryz.results103, go_sem, z0, z1, z2]) rfl ?_
          obtain ⟨ow, kp, _, kt⟩ := OWN.out.other HRVL.out HNL.out HST.out.2
          have hbF := hb01.trans ((hb.mono (by omega)).trans (below_of_row (b0 := w.heap.size) HST.out.2 (fun q hq => by injection hq with hq; omega) (by omega)))
          exact ⟨⟨bo, co, P, cp, _, by rw [← HNA.out], ow.below (below_drew _), (OPV.out.kt kt).below (below_drew _), (R5.out.kp kp).kp (Kp.of_below (below_drew _))⟩, hbF.drew⟩
end Go.Proofs.YtmebdlilbnadgaaGreatDoor
