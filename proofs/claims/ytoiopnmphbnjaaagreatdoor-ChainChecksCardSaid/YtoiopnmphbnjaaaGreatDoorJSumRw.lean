/- Contracts of functions and lemmas, used by the proofs of the given statements. No condition beyond those that each lemma names. -/
import Derived.Test.YtoiopnmphbnjaaaGreatDoorJSumB
import Derived.Test.YtoiopnmphbnjaaaGreatDoorJSumCl
namespace Go.Proofs.YtoiopnmphbnjaaaGreatDoor
open Go.RowKit
set_option linter.unusedSimpArgs false
set_option linter.unusedVariables false
set_option maxRecDepth 20000
attribute [local irreducible] nv wp win plainB validR valR canR mvE chkM codeC exK qK
/-! ## chain.Rows -/
/-- the matrix while its diagonal is made -/
def diK (x : Nat → Rat) (k i j : Nat) : Rat := if i < k ∧ i = j then -(x i) else 0
theorem diK_z (x : Nat → Rat) : diK x 0 = fun _ _ => 0 := by
  funext i j
  unfold diK
  rw [if_neg (by omega)]
theorem diK_s (x : Nat → Rat) (k : Nat) : diK x (k + 1) = upd (diK x k) k (upd (fun _ => 0) k (-(x k))) := by
  funext i j
  unfold diK upd
  by_cases e : i = k
  · subst e
    rw [if_pos rfl]
    by_cases e2 : j = i
    · rw [if_pos e2, if_pos ⟨by omega, e2.symm⟩]
    · rw [if_neg e2, if_neg (fun h => e2 h.2.symm)]
  · rw [if_neg e]
    show _ = (if i < k ∧ i = j then -(x i) else 0)
    by_cases h : i < k ∧ i = j
    · rw [if_pos h, if_pos ⟨by omega, h.2⟩]
    · rw [if_neg h, if_neg (fun h2 => h ⟨by omega, h2.2⟩)]
theorem diK_row (x : Nat → Rat) (k : Nat) : diK x k k = fun _ => 0 := by
  funext j
  unfold diK
  rw [if_neg (by omega)]
theorem diK_all {f t : Nat → Nat} {q x : Nat → Rat} {n i j : Nat} (hi : i < n) : diK x n i j = qK f t q x i j 0 := by
  unfold diK qK
  by_cases h : i = j
  · rw [if_pos ⟨hi, h⟩, if_pos h]
  · rw [if_neg (fun h2 => h h2.2), if_neg h]
theorem qK_s {f t : Nat → Nat} {q x : Nat → Rat} (k : Nat) : (fun i j => qK f t q x i j (k + 1)) = upd (fun i j => qK f t q x i j k) (f k) (upd (fun j => qK f t q x (f k) j k) (t k) (q k)) := by
  funext i j
  show qK f t q x i j (k + 1) = _
  rw [qK]
  unfold upd
  by_cases e : i = f k
  · subst e
    rw [if_pos rfl]
    by_cases e2 : j = t k
    · rw [if_pos e2, if_pos ⟨rfl, e2.symm⟩]
    · rw [if_neg e2, if_neg (fun h => e2 h.2.symm)]
  · rw [if_neg e, if_neg (fun h => e h.1.symm)]
def RetRw (c : Chn) (e : Ending) (w' : World) : Prop :=
  if c.code = 0 then ∃ A cp, e = .returned (.tuple #[.slice A c.nd cp, .nilIface]) ∧ MatI w' w'.heap.size A c.nd (fun _ => c.nd) (fun i => can (c.Q i)) else e = .returned (.tuple #[.slice none 0 0, errM c.code])
set_option maxHeartbeats 16000000 in
theorem rows_any {w : World} {AM AD : Option Addr} {cm cd L : Nat} {c : Chn} (h : ChI w w.heap.size AM cm AD cd c) (hs : c.Ok → SizC c L) (hn : c.nm ≤ 1000000) (hz : Short c.nm c.R) :
    Calls Tryz.prog 29 #[cv c.st c.sr AM c.nm cm AD c.nd cd] w fun e w' => RetRw c e w' ∧ Below w.heap.size w w' := by
  have K1 := Lib.hid (fun W (hb : Below w.heap.size w W) => chCheck (h.below hb) hn hz)
  have HR : Hid (∀ e w', RetRw c e w' ↔ if c.code = 0 then ∃ A cp, e = .returned (.tuple #[.slice A c.nd cp, .nilIface]) ∧ MatI w' w'.heap.size A c.nd (fun _ => c.nd) (fun i => can (c.Q i)) else e = .returned (.tuple #[.slice none 0 0, errM c.code])) := fun e w' => Iff.rfl
  generalize RetRw c = RR at *
  have hok := Chn.ok_iff (c := c)
  obtain ⟨cc, hcc⟩ : ∃ cc, cc = c.code := ⟨_, rfl⟩
  rw [← hcc] at K1 hok HR
  clear hcc
  by_cases h0 : cc = 0
  · have ok := hok.1 h0
    rw [h0, errM_0] at K1
    have hsz := hs ok
    have hL1 := hsz.L1
    have hL2 := hsz.L2
    have hn1 := ok.lo
    have hn2 := ok.hi
    have K2 := Lib.hid (fun W (hb : Below w.heap.size w W) => exit_any (h.below hb) ok hsz)
    have HMV := Lib.hid (fun W hb k hk => h.mvLater (W := W) ok hb (k := k) hk)
    have HVR : Hid (∀ k, k < c.nm → validR (c.R k) = true) := fun k hk => by
      cases e : validR (c.R k) with
      | true => rfl
      | false =>
        have h1 : 0 < valR (c.R k) := (ok.mv k hk).2.2.2.2.2.1
        exact absurd h1 (valR_no e)
    have HSQ := Lib.hid hz
    have HSX : Hid (∀ s, Sz L (c.ex s)) := fun s => hsz.ex s c.nm (Nat.le_refl _)
    have HE : Hid (∀ A cp w', MatI w' w'.heap.size A c.nd (fun _ => c.nd) (fun i => can (c.Q i)) → RR (.returned (.tuple #[.slice A c.nd cp, .nilIface])) w') := fun A cp w' hm => (HR.out _ _).2 (by rw [if_pos h0]; exact ⟨A, cp, rfl, hm⟩)
    obtain ⟨X, hX⟩ : ∃ X, X = c.ex := ⟨_, rfl⟩
    obtain ⟨P, hP⟩ : ∃ P : Nat → Mf, P = fun k i j => qK c.f c.t c.q c.ex i j k := ⟨_, rfl⟩
    have hQP : c.Q = P c.nm := by rw [hP]; rfl
    rw [hQP] at HE
    have HP0 : Hid (∀ i j, i < c.nd → diK X c.nd i j = P 0 i j) := fun i j hi => by rw [hP, hX]; exact diK_all hi
    have HPS : Hid (∀ k, P (k + 1) = upd (P k) (c.f k) (upd (P k (c.f k)) (c.t k) (valR (c.R k)))) := fun k => by rw [hP]; exact qK_s k
    rw [← hX] at K2 HSX
    have hst := ok.st
    obtain ⟨sr, hsr⟩ : ∃ sr, sr = c.sr := ⟨_, rfl⟩
    rw [← hsr, hst] at K1 K2
    rw [← hsr, hst]
    clear hX hP hQP hsr hst hsz ok hok h0 h hs hz HR
    have HPC := Lib.hid (fun W hb => pc4 (W := W) (w := w) (a := .int .i64 (c.nd : Int)) (b := .int .i64 sr) (d := .slice AM c.nm cm) (e := .slice AD c.nd cd) (t := 32) hb)
    have HPB := Lib.hid (fun W hb => pb4 (W := W) (w := w) (o := .cells #[.int .i64 (c.nd : Int), .int .i64 sr, .slice AM c.nm cm, .slice AD c.nd cd] 32) hb)
    have hW0z : (w.alloc (.cells #[.int .i64 (c.nd : Int), .int .i64 sr, .slice AM c.nm cm, .slice AD c.nd cd] 32)).heap.size = w.heap.size + 1 := by simp
    go_enter Tryz.func29, Tryz.ntmps29
    (go_wp2_with fail; (with_reducible refine (K1.out _ (by (skip); repeat' (first | (with_reducible exact Below.refl _ _) | (with_reducible assumption) | (with_reducible refine Below.alloc ?_ ?_ _) | (with_reducible refine Below.drew ?_) | (with_reducible refine below_drewN ?_ _) | (with_reducible refine Below.setCell ?_ ?_ _) | (with_reducible refine Below.trans ?_ (Below.mono (by with_reducible assumption) ?_)) | omega | (simp only [ZA, ZS, ZD, ZN]; omega) | go_size))).mono ?_); rintro e w1 ⟨rfl, hb1⟩; have hb1z := Below.size hb1; (try simp only [ZA, ZS, ZD, ZN] at hb1z); have hb1c0 := fun o => below_at hb1 (w.heap.size) o (by first | omega | (simp only [ZA, ZS, ZD, ZN]; omega)); have hb1f0 := fun o => below_fr hb1 (w.heap.size) o (by first | omega | (simp only [ZA, ZS, ZD, ZN]; omega)))
    have HB1 : Hid (Below (w.heap.size + 1) (w.alloc (.cells #[.int .i64 (c.nd : Int), .int .i64 sr, .slice AM c.nm cm, .slice AD c.nd cd] 32)) w1) := by show Below _ _ _; simpa using hb1
    have hz1 := HB1.out.size
    rw [hW0z] at hz1
    clear hb1 hb1c0 hb1f0 K1
    generalize w.alloc (.cells #[.int .i64 (c.nd : Int), .int .i64 sr, .slice AM c.nm cm, .slice AD c.nd cd] 32) = W0 at *
    obtain ⟨y0, y1, y2, y3⟩ := HPC.out _ HB1.out
    obtain ⟨wM, hwM⟩ : ∃ wM, wM = w1 := ⟨_, rfl⟩
    subst hwM
    go_wp2_with (first | (at_make; refine wpList_makeM rfl (.tmp 16) (.tmp 16) rfl wM.heap.size c.nd (fun _ _ => 0) (c.nd : Int) (c.nd : Int) (by first | rfl | simp [Act.eval]) (by first | rfl | simp [Act.eval]) rfl rfl (by omega) (Nat.le_refl _) ?_; intro w2 own2 hb2; (have z0 := (below_at hb2 w.heap.size 0 (by omega)).trans y0); (have z1 := (below_at hb2 w.heap.size 1 (by omega)).trans y1); (have z2 := (below_at hb2 w.heap.size 2 (by omega)).trans y2); (have z3 := (below_at hb2 w.heap.size 3 (by omega)).trans y3)) | fail)
    have hB2 : Below (w.heap.size + 1) W0 w2 := HB1.out.trans (hb2.mono (by omega))
    have hz2 := hb2.size
    refine (K2.out _ (HPB.out _ hB2)).mono ?_
    rintro e w4 ⟨⟨A4, c4, rfl, own4, hq4⟩, hb4⟩
    obtain ⟨g4, rfl⟩ := own4.form (by omega)
    have hg4 : w2.heap.size ≤ g4 := hq4 g4 rfl
    have hg4l := own4.lt
    have hz4 := hb4.size
    obtain ⟨oM, ho⟩ : ∃ oM, oM = wM.heap.size := ⟨_, rfl⟩
    rw [← ho] at own2 hz1 hz2 ⊢
    have hol2 := own2.lt
    have own2b := own2.below hb4
    have hB4 : Below (w.heap.size + 1) W0 w4 := hB2.trans (hb4.mono (by omega))
    have HK : Hid (∀ W, w4.grownBy W (some oM) → Kp oM w4 W) := fun W hG => by
      obtain ⟨h1, cur, h2⟩ := own2b.block
      exact Kp.grown hG (Nat.le_refl _) h2 (by decide)
    have own3 := own2b.congr (len' := fun j => if j < 0 then c.nd else 0) (M' := diK X 0) (fun i _ => by simp) (fun i k _ hk => by rw [diK_z])
    have HO3 := Lib.hid own3
    have HB3 := Lib.hid hB4
    have HG3 := Lib.hid (World.grownBy.refl w4 (some oM))
    have H4 := Lib.hid own4
    clear ho K2 own2 own2b own3 own4 hq4 hb4 hB2 hb2 HB1 y0 y1 y2 y3 z0 z1 z2 z3 hB4
    go_wp2_with fail
    go_loopw [21] (fun i wr => ∃ k : Nat, k ≤ c.nd ∧ i = .int .i64 (k : Int) ∧ MatG wr oM oM c.nd c.nd (fun j => if j < k then c.nd else 0) (diK X k) ∧ w4.grownBy wr (some oM) ∧ Below (w.heap.size + 1) W0 wr) (fun i _ => c.nd - (intOf i).toNat)
    case atStart => exact ⟨0, Nat.zero_le _, rfl, HO3.out, HG3.out, HB3.out⟩
    case round =>
      clear HO3 HB3 HG3
      obtain ⟨i, hi, rfl, own, hG, hb⟩ := hrel
      have hzr := hG.size
      by_cases hlt : i < c.nd
      · obtain ⟨s3, A3, n3, c3, B3, m3, d3, x0', x1', x2', r3'⟩ := H4.out.at_ hlt
        have x0 := (grown_at hG (i * 3) hg4l (by omega)).trans x0'
        have x1 := (grown_at hG (i * 3 + 1) hg4l (by omega)).trans x1'
        have x2 := (grown_at hG (i * 3 + 2) hg4l (by omega)).trans x2'
        have H3 := Lib.hid r3'
        obtain ⟨A9, c9, hX⟩ := own.row i
        have hcell := hX.cell hlt
        have hfz := own.frozen
        have holt := own.lt
        simp only [Nat.lt_irrefl, if_false] at hcell
        obtain ⟨y0, -, -, -⟩ := HPC.out _ hb
        have HAL : Hid (∀ ob, Below wr.heap.size wr (wr.alloc ob)) := fun ob => (Below.refl _ _).alloc (Nat.le_refl _) ob
        have hi0 : (0 : Int) ≤ (i : Int) := by omega
        have hi1 : (i : Int) < (c.nd : Int) := by omega
        have HX := Lib.hid hX
        have HGr := Lib.hid hG
        have HB9 := Lib.hid hb
        have y0q : (wr.alloc (.cells #[.bool s3, .slice A3 n3 c3, .slice B3 m3 d3] 56)).cell? ⟨w.heap.size, 0, none⟩ = some (.int .i64 (c.nd : Int)) := ((HAL.out _).cell (p := ⟨w.heap.size, 0, none⟩) (by show w.heap.size < _; omega)).trans y0
        clear hX own hG hb x0' x1' x2' r3'
        have ne1 : ¬ (wr.heap.size = oM) := by omega
        have ne2 : ¬ (oM = wr.heap.size) := by omega
        have ne3 : ¬ (w.heap.size = wr.heap.size) := by omega
        have ne4 : ¬ (wr.heap.size = w.heap.size) := by omega
        go_wp2_with (first | (at_make; refine wpList_makeR rfl (.tmp 29) (.tmp 29) rfl oM c.nd (c.nd : Int) (c.nd : Int) (by first | rfl | simp [Act.eval]) (by first | rfl | simp [Act.eval]) rfl rfl (by omega) (by simp; omega) ?_; intro w5 own5 hb5; (have hcell5 := (hb5.cell (p := ⟨oM, i, none⟩) (by simp; omega)).trans (((HAL.out _).cell (p := ⟨oM, i, none⟩) holt).trans hcell)); (have hfz5 := fun j => (below_fr hb5 oM j (by simp; omega)).trans (((HAL.out _).frozen (p := ⟨oM, j, none⟩) holt).trans (hfz j)))) | fail)
        obtain ⟨wq, hwq⟩ : ∃ wq, wq = wr.alloc (.cells #[.bool s3, .slice A3 n3 c3, .slice B3 m3 d3] 56) := ⟨_, rfl⟩
        have hq0 : wq.cell? ⟨wr.heap.size, 0, none⟩ = some (.bool s3) := by rw [hwq]; simp
        have hq1 : wq.cell? ⟨wr.heap.size, 1, none⟩ = some (.slice A3 n3 c3) := by rw [hwq]; simp
        have hq2 : wq.cell? ⟨wr.heap.size, 2, none⟩ = some (.slice B3 m3 d3) := by rw [hwq]; simp
        have hAL := HAL.out (.cells #[.bool s3, .slice A3 n3 c3, .slice B3 m3 d3] 56)
        have hwz : wq.heap.size = wr.heap.size + 1 := by rw [hwq]; simp
        rw [← hwq] at own5 hb5 hAL
        have ez : (wr.alloc (.cells #[.bool s3, .slice A3 n3 c3, .slice B3 m3 d3] 56)).heap.size = wr.heap.size + 1 := by simp
        rw [hwz] at own5 hb5
        have hz5 := hb5.size
        have hp := (HX.out.below hAL).put' hlt (grown_of_below (hb5.mono (by omega)) (Value.slice A9 0 c9).ownBlock) own5 (.inr (by omega)) (by omega)
        obtain ⟨w6, hw6⟩ : ∃ w6, w6 = w5.setCell ⟨oM, i, none⟩ (.slice (some ⟨wr.heap.size + 1, 0, none⟩) c.nd c.nd) := ⟨_, rfl⟩
        rw [← hw6] at hp ⊢
        have hp1 := hp.1.congr (len' := fun j => if j < i + 1 then c.nd else 0) (M' := diK X i) (fun j hj => by
          unfold upd
          by_cases e : j = i
          · subst e; simp
          · by_cases e2 : j < i
            · simp [e, e2, show j < i + 1 by omega]
            · simp [e, e2, show ¬ j < i + 1 by omega]) (fun j k hj hk => by
          unfold upd
          by_cases e : j = i
          · rw [if_pos e, e, diK_row]
          · rw [if_neg e])
        have hz6 : w6.heap.size = w5.heap.size := by rw [hw6]; simp
        have hfar : ∀ {b j : Nat} {v : Value}, wq.cell? ⟨b, j, none⟩ = some v → b < wr.heap.size + 1 → b ≠ oM → w6.cell? ⟨b, j, none⟩ = some v := fun {b j v} h1 h2 h3 => by
          rw [hw6, World.cell?_setCell_far w5 ⟨oM, i, none⟩ ⟨b, j, none⟩ _ (by show oM ≠ b; omega)]
          exact (hb5.cell (p := ⟨b, j, none⟩) h2).trans h1
        have p0 := hfar hq0 (by omega) ne1
        have p1 := hfar hq1 (by omega) ne1
        have p2 := hfar hq2 (by omega) ne1
        have hG6 : w4.grownBy w6 (some oM) := by
          rw [hw6]
          exact grown_trans (grown_trans HGr.out (grown_of_below hAL _)) (grown_trans (grown_of_below (hb5.mono (by omega)) _) (grown_set9 _ _ _ _))
        have hb6 : Below (w.heap.size + 1) W0 w6 := HB9.out.trans ((hAL.mono (by omega)).trans (hp.2.2.mono (by omega)))
        have hb96 : Below wr.heap.size wq w5 := hb5.mono (by omega)
        obtain ⟨A6, c6, hX6⟩ := hp1.row i
        have hc6 := hX6.cell hlt
        simp only [Nat.lt_succ_self, if_true] at hc6
        have hc6' : w6.cell? ⟨oM, i, none⟩ = some (.slice (some ⟨wr.heap.size + 1, 0, none⟩) c.nd c.nd) := by
          rw [hw6]
          exact World.cell?_setCell_same _ _ _ (hcell5)
        obtain ⟨rfl, rfl⟩ : A6 = some ⟨wr.heap.size + 1, 0, none⟩ ∧ c6 = c.nd := by
          rw [hc6'] at hc6
          injection hc6 with hc6
          injection hc6 with e1 e2 e3
          exact ⟨e1.symm, e3.symm⟩
        have hown6 : OwR w6 oM (some ⟨wr.heap.size + 1, 0, none⟩) c.nd c.nd (can (diK X i i)) := by
          have := hX6.own hlt
          simp only [Nat.lt_succ_self, if_true] at this
          exact this
        have hlt6 := hown6.lt
        obtain ⟨s0, A0, n0, c0, B0, m0, d0, o0, o1, o2, -⟩ := hown6.at_ hlt
        have hfz6 := hown6.frozen
        have HX6 := Lib.hid hX6
        have HO6 := Lib.hid hown6
        have HG6 := Lib.hid hG6
        have HB6 := Lib.hid hb6
        have q6 := (show RdS w6 _ _ (canR (X i)) from (H3.out.base (b1 := oM) (Nat.zero_le _)).kp (HK.out _ HG6.out)).canQ (HSX.out i)
        have K9 : Hid (∀ W, Below w6.heap.size w6 W → Calls Tryz.prog 31 #[rv s3 A3 n3 c3 B3 m3 d3] W fun e w' => RetQ W.heap.size (-(X i)) e w' ∧ Below W.heap.size W w') := fun W hb => neg_any (q6.below hb) hL1 (by omega)
        clear hp hp1 hX6 hc6 hown6 hG6 hb6 hcell5 hfz5 own5 hb5 hwq hq0 hq1 hq2 hw6 hcell hfz holt q6 H3 x0 x1 x2 y0 y0q HX HGr HB9 HAL hAL ez hfar hb96
        have ne5 : ¬ (wr.heap.size = wr.heap.size + 1) := by omega
        have ne6 : ¬ (oM = wr.heap.size + 1) := by omega
        have ne7 : ¬ (wr.heap.size + 1 = oM) := by omega
        go_region_held3 (fun W => W.cell? ⟨oM, i, none⟩ = some (.slice (some ⟨wr.heap.size + 1, 0, none⟩) c.nd c.nd) ∧ W.cell? ⟨wr.heap.size, 0, none⟩ = some (.bool s3) ∧ W.cell? ⟨wr.heap.size, 1, none⟩ = some (.slice A3 n3 c3) ∧ W.cell? ⟨wr.heap.size, 2, none⟩ = some (.slice B3 m3 d3)) (go_keep)
          (first | ((go_at_call 31; (with_reducible refine (K9.out _ (by (skip); repeat' (first | (with_reducible exact Below.refl _ _) | (with_reducible assumption) | (with_reducible refine Below.alloc ?_ ?_ _) | (with_reducible refine Below.drew ?_) | (with_reducible refine below_drewN ?_ _) | (with_reducible refine Below.setCell ?_ ?_ _) | (with_reducible refine Below.trans ?_ (Below.mono (by with_reducible assumption) ?_)) | omega | (simp only [ZA, ZS, ZD, ZN]; omega) | go_size))).mono ?_); rintro e w7 ⟨⟨v7, rfl, own7⟩, hb7⟩; have hb7z := Below.size hb7; (try simp only [ZA, ZS, ZD] at hb7z); have hb7c0 := fun o => below_at hb7 (oM) o (by first | omega | (simp only [ZA, ZS, ZD]; omega)); have hb7f0 := fun o => below_fr hb7 (oM) o (by first | omega | (simp only [ZA, ZS, ZD]; omega)); have hb7l0 : oM < (w7).heap.size := (by omega); have hb7c1 := fun o => below_at hb7 (wr.heap.size) o (by first | omega | (simp only [ZA, ZS, ZD]; omega)); have hb7f1 := fun o => below_fr hb7 (wr.heap.size) o (by first | omega | (simp only [ZA, ZS, ZD]; omega)); have hb7l1 : wr.heap.size < (w7).heap.size := (by omega); have hb7c2 := fun o => below_at hb7 (wr.heap.size + 1) o (by first | omega | (simp only [ZA, ZS, ZD]; omega)); have hb7f2 := fun o => below_fr hb7 (wr.heap.size + 1) o (by first | omega | (simp only [ZA, ZS, ZD]; omega)); have hb7l2 : wr.heap.size + 1 < (w7).heap.size := (by omega)); obtain ⟨s7, A7, n7, c7, B7, m7, d7, rfl⟩ := own7.form) | fail)
        all_goals
          have hb9 : Below w6.heap.size w6 w7 := (by have z0 := Below.size hb7; (try simp only [ZA, ZS, ZD, ZN] at z0 ⊢; skip); repeat' (first | (with_reducible exact Below.refl _ _) | (with_reducible assumption) | (with_reducible refine Below.alloc ?_ ?_ _) | (with_reducible refine Below.drew ?_) | (with_reducible refine below_drewN ?_ _) | (with_reducible refine Below.setCell ?_ ?_ _) | (with_reducible refine Below.trans ?_ (Below.mono (by with_reducible assumption) ?_)) | omega | (simp only [ZA, ZS, ZD, ZN]; omega) | go_size))
          have hst := (HO6.out.below hb9).set hlt (own7.rs (b0 := oM))
          have hs := (HX6.out.below hb9).same hlt (by simpa using hst.2) (f' := upd (fun _ => 0) i (-(X i))) (by
            simp only [Nat.lt_succ_self, if_true]
            refine hst.1.congr fun b _ => ?_
            rw [upd_can, diK_row]) (by have := hb9.size; omega)
          have HF := Lib.hid (hs.1.mg.congr (len' := fun j => if j < i + 1 then c.nd else 0) (M' := diK X (i + 1)) (fun _ _ => rfl) (fun a b ha hb => by rw [diK_s]))
          have HGF : Hid (w4.grownBy _ (some oM)) := Lib.hid (grown_newR (grown_trans HG6.out (grown_of_below hb9 _)) hst.2 (by omega))
          have HBF := Lib.hid (HB6.out.trans ((hb9.mono (by omega)).trans (hs.2.2.mono (by omega))))
          clear hs hst hb9
          go_wp2_with fail
          go_roundw
          case rel => exact ⟨i + 1, by omega, by go_num, HF.out, HGF.out, HBF.out⟩
          case measure => simp [intOf]; omega
      · obtain rfl : i = c.nd := by omega
        have own9 := own.congr (len' := fun _ => c.nd) (M' := P 0) (fun j hj => by simp [show j < c.nd by omega]) (fun j k hj _ => HP0.out j k hj)
        have HO9 := Lib.hid own9
        have HB9 := Lib.hid hb
        obtain ⟨-, -, y2, -⟩ := HPC.out _ hb
        clear own own9 hb hG
        go_wp2_with fail
        go_loopw [44] (fun j wr => ∃ k : Nat, k ≤ c.nm ∧ j = .int .i64 (k : Int) ∧ MatG wr oM oM c.nd c.nd (fun _ => c.nd) (P k) ∧ Below (w.heap.size + 1) W0 wr) (fun i _ => c.nm - (intOf i).toNat)
        case atStart => exact ⟨0, Nat.zero_le _, rfl, HO9.out, HB9.out⟩
        case round =>
          clear HO9 HB9 y2
          obtain ⟨k, hk, rfl, own, hb⟩ := hrel
          have hz := hb.size
          have hol := own.lt
          have hbW := HPB.out _ hb
          by_cases hlt : k < c.nm
          · obtain ⟨bm, om, s1, A1, n1, c1, B1, m1, d1, rfl, hbm, g0, g1, g2, g3, g4', r1, hfn, htn, hft⟩ := HMV.out wr hbW k hlt
            have hvk := HVR.out k hlt
            have hPS := HPS.out k
            have hsh := HSQ.out k hlt
            obtain ⟨f, hf⟩ : ∃ f, f = c.f k := ⟨_, rfl⟩
            obtain ⟨tt, ht⟩ : ∃ tt, tt = c.t k := ⟨_, rfl⟩
            rw [← hf] at g0 hfn hPS
            rw [← ht] at g1 htn hPS
            obtain ⟨rk, hrk⟩ : ∃ rk, rk = c.R k := ⟨_, rfl⟩
            rw [← hrk] at r1 hvk hPS hsh
            have hki : (k : Int) < (c.nm : Int) := by omega
            have hk0 : (0 : Int) ≤ (k : Int) := by omega
            have hfi : (f : Int) < (c.nd : Int) := by omega
            have hf0 : (0 : Int) ≤ (f : Int) := by omega
            have hti : (tt : Int) < (c.nd : Int) := by omega
            have ht0 : (0 : Int) ≤ (tt : Int) := by omega
            have HP9 := Lib.hid hPS
            have HB5 := Lib.hid hb
            have HO := Lib.hid own
            have HR1 := Lib.hid r1
            clear own hb hbW hf ht hrk hPS r1 hft
            go_wp2_with fail
            obtain ⟨wq, hwq⟩ : ∃ wq, wq = wr.alloc (.cells #[.int .i64 (f : Int), .int .i64 (tt : Int), .bool s1, .slice A1 n1 c1, .slice B1 m1 d1] 65) := ⟨_, rfl⟩
            rw [← hwq]
            have hAL : Below wr.heap.size wr wq := by rw [hwq]; exact (Below.refl _ _).alloc (Nat.le_refl _) _
            have z0 : wq.cell? ⟨wr.heap.size, 0, none⟩ = some (.int .i64 (f : Int)) := by rw [hwq]; simp
            have z1 : wq.cell? ⟨wr.heap.size, 1, none⟩ = some (.int .i64 (tt : Int)) := by rw [hwq]; simp
            have z2 : wq.cell? ⟨wr.heap.size, 2, none⟩ = some (.bool s1) := by rw [hwq]; simp
            have z3 : wq.cell? ⟨wr.heap.size, 3, none⟩ = some (.slice A1 n1 c1) := by rw [hwq]; simp
            have z4 : wq.cell? ⟨wr.heap.size, 4, none⟩ = some (.slice B1 m1 d1) := by rw [hwq]; simp
            have hwz : wq.heap.size = wr.heap.size + 1 := by rw [hwq]; simp
            obtain ⟨A9, c9, hX'⟩ := HO.out.row f
            obtain ⟨g, rfl⟩ := hX'.head hfn (by omega)
            have hgl := (hX'.own hfn).lt
            have hgb := (hX'.own hfn).block.1
            have hne : g ≠ oM := hX'.ne hfn rfl
            have hX := hX'.below hAL
            have hcell : wq.cell? ⟨oM, f, none⟩ = some (.slice (some ⟨g, 0, none⟩) c.nd c9) := hX.cell hfn
            have hown : OwR wq oM (some ⟨g, 0, none⟩) c9 c.nd (can (P k f)) := hX.own hfn
            obtain ⟨s0, A3, n3', c3', B3, m3, d3, o0, o1, o2, -⟩ := hown.at_ htn
            have rq := HR1.out.kp (Kp.of_below (hAL.mono (by have := (HPB.out _ HB5.out).size; omega)))
            have KC := Lib.hid (fun W (hX : Below wq.heap.size wq W) => cloneS ((rq.kp (Kp.of_below (hX.mono (by have := (HPB.out _ HB5.out).size; omega)))).base (b1 := W.heap.size) (by have := hX.size; have := (HPB.out _ HB5.out).size; omega)) hvk (by omega) (by omega))
            have hfz := hown.frozen
            have HX := Lib.hid hX
            have HOn := Lib.hid hown
            have HAL2 := Lib.hid hAL
            clear hX hX' hown hwq g0 g1 g2 g3 g4' rq hAL HR1 HO
            have ne1 : ¬ (oM = g) := fun e => hne e.symm
            have ne2 : ¬ (wr.heap.size = g) := by omega
            have ne3 : ¬ (g = wr.heap.size) := by omega
            have ne4 : ¬ (oM = wr.heap.size) := by omega
            have ne5 : ¬ (wr.heap.size = oM) := by omega
            go_region_held3 (fun W => W.cell? ⟨oM, f, none⟩ = some (.slice (some ⟨g, 0, none⟩) c.nd c9) ∧ W.cell? ⟨wr.heap.size, 0, none⟩ = some (.int .i64 (f : Int)) ∧ W.cell? ⟨wr.heap.size, 1, none⟩ = some (.int .i64 (tt : Int)) ∧ W.cell? ⟨wr.heap.size, 2, none⟩ = some (.bool s1) ∧ W.cell? ⟨wr.heap.size, 3, none⟩ = some (.slice A1 n1 c1) ∧ W.cell? ⟨wr.heap.size, 4, none⟩ = some (.slice B1 m1 d1)) (go_keep)
              (first | ((go_at_call 74; (with_reducible refine (KC.out _ (by (skip); repeat' (first | (with_reducible exact Below.refl _ _) | (with_reducible assumption) | (with_reducible refine Below.alloc ?_ ?_ _) | (with_reducible refine Below.drew ?_) | (with_reducible refine below_drewN ?_ _) | (with_reducible refine Below.setCell ?_ ?_ _) | (with_reducible refine Below.trans ?_ (Below.mono (by with_reducible assumption) ?_)) | omega | (simp only [ZA, ZS, ZD, ZN]; omega) | go_size))).mono ?_); rintro e w7 ⟨⟨v7, rfl, own7⟩, hb7⟩; have hb7z := Below.size hb7; (try simp only [ZA, ZS, ZD] at hb7z); have hb7c0 := fun o => below_at hb7 (oM) o (by first | omega | (simp only [ZA, ZS, ZD]; omega)); have hb7f0 := fun o => below_fr hb7 (oM) o (by first | omega | (simp only [ZA, ZS, ZD]; omega)); have hb7l0 : oM < (w7).heap.size := (by omega); have hb7c1 := fun o => below_at hb7 (wr.heap.size) o (by first | omega | (simp only [ZA, ZS, ZD]; omega)); have hb7f1 := fun o => below_fr hb7 (wr.heap.size) o (by first | omega | (simp only [ZA, ZS, ZD]; omega)); have hb7l1 : wr.heap.size < (w7).heap.size := (by omega); have hb7c2 := fun o => below_at hb7 (g) o (by first | omega | (simp only [ZA, ZS, ZD]; omega)); have hb7f2 := fun o => below_fr hb7 (g) o (by first | omega | (simp only [ZA, ZS, ZD]; omega)); have hb7l2 : g < (w7).heap.size := (by omega)); obtain ⟨s7, A7, n7, c7, B7, m7, d7, rfl⟩ := own7.form) | fail)
            all_goals
              have hb9 : Below wq.heap.size wq w7 := (by have z0 := Below.size hb7; (try simp only [ZA, ZS, ZD, ZN] at z0 ⊢; skip); repeat' (first | (with_reducible exact Below.refl _ _) | (with_reducible assumption) | (with_reducible refine Below.alloc ?_ ?_ _) | (with_reducible refine Below.drew ?_) | (with_reducible refine below_drewN ?_ _) | (with_reducible refine Below.setCell ?_ ?_ _) | (with_reducible refine Below.trans ?_ (Below.mono (by with_reducible assumption) ?_)) | omega | (simp only [ZA, ZS, ZD, ZN]; omega) | go_size))
              have hst := (HOn.out.below hb9).set htn (own7.rs (b0 := oM))
              have hs := (HX.out.below hb9).same hfn hst.2 (f' := upd (P k f) tt (valR rk)) (hst.1.congr fun b _ => by rw [upd_can]) (by have := hb9.size; omega)
              have HF := Lib.hid (hs.1.mg.congr (len' := fun _ => c.nd) (M' := P (k + 1)) (fun _ _ => rfl) (fun a b ha hb => by rw [HP9.out]))
              have HBF := Lib.hid ((HB5.out.trans (HAL2.out.mono (by omega))).trans ((hb9.mono (by omega)).trans (hs.2.2.mono (by omega))))
              clear hs hst hb9
              go_wp2_with fail
              go_roundw
              case rel => exact ⟨k + 1, by omega, by go_num, HF.out, HBF.out⟩
              case measure => simp [intOf]; omega
          · obtain rfl : k = c.nm := by omega
            have HF := Lib.hid (own.mi9 (by omega))
            have HbB := Lib.hid hbW
            clear own hb hbW
            go_wp2_with fail
            go_ret2
            exact ⟨HE.out _ _ _ HF.out, HbB.out⟩
  · have hE := errM_n h0
    have HE : Hid (∀ w', RR (.returned (.tuple #[.slice none 0 0, errM cc])) w') := fun w' => (HR.out _ _).2 (by rw [if_neg h0])
    rw [hE] at K1 HE
    have H0 := Lib.hid h0
    clear h0 h hz hE hok HR hs
    obtain ⟨st, sr, nm, F, T, R, nd, D⟩ := c
    simp only at *
    go_enter Tryz.func29, Tryz.ntmps29
    (go_wp2_with fail; (with_reducible refine (K1.out _ (by (skip); repeat' (first | (with_reducible exact Below.refl _ _) | (with_reducible assumption) | (with_reducible refine Below.alloc ?_ ?_ _) | (with_reducible refine Below.drew ?_) | (with_reducible refine below_drewN ?_ _) | (with_reducible refine Below.setCell ?_ ?_ _) | (with_reducible refine Below.trans ?_ (Below.mono (by with_reducible assumption) ?_)) | omega | (simp only [ZA, ZS, ZD, ZN]; omega) | go_size))).mono ?_); rintro e w1 ⟨rfl, hb1⟩; have hb1z := Below.size hb1; (try simp only [ZA, ZS, ZD, ZN] at hb1z); have hb1c0 := fun o => below_at hb1 (w.heap.size) o (by first | omega | (simp only [ZA, ZS, ZD, ZN]; omega)); have hb1f0 := fun o => below_fr hb1 (w.heap.size) o (by first | omega | (simp only [ZA, ZS, ZD, ZN]; omega)))
    go_wp2
    go_ret2
    exact ⟨HE.out _, (by have z0 := Below.size hb1; (try simp only [ZA, ZS, ZD, ZN] at z0 ⊢; skip); repeat' (first | (with_reducible exact Below.refl _ _) | (with_reducible assumption) | (with_reducible refine Below.alloc ?_ ?_ _) | (with_reducible refine Below.drew ?_) | (with_reducible refine below_drewN ?_ _) | (with_reducible refine Below.setCell ?_ ?_ _) | (with_reducible refine Below.trans ?_ (Below.mono (by with_reducible assumption) ?_)) | omega | (simp only [ZA, ZS, ZD, ZN]; omega) | go_size))⟩
end Go.Proofs.YtoiopnmphbnjaaaGreatDoor
namespace Go.Proofs.YtoiopnmphbnjaaaGreatDoor
set_option linter.unusedSimpArgs false
set_option linter.unusedVariables false
/-! ## the rows of the matrix and the moves of a state (plain) -/
section
variable {c : Chn} {i : Nat}
theorem Chn.mvs_mem : ∀ {k : Nat} {p : Nat × Rat}, p ∈ c.mvs i k ↔ ∃ a, a < k ∧ c.f a = i ∧ p = (c.t a, c.q a)
  | 0, p => by
    constructor
    · intro h; cases h
    · rintro ⟨a, h, _⟩; omega
  | k + 1, p => by
    rw [Chn.mvs]
    by_cases e : c.f k = i
    · rw [if_pos e, List.mem_append, Chn.mvs_mem, List.mem_singleton]
      constructor
      · rintro (⟨a, h1, h2, h3⟩ | h)
        · exact ⟨a, by omega, h2, h3⟩
        · exact ⟨k, by omega, e, h⟩
      · rintro ⟨a, h1, h2, h3⟩
        by_cases e2 : a = k
        · subst e2; exact .inr h3
        · exact .inl ⟨a, by omega, h2, h3⟩
    · rw [if_neg e, Chn.mvs_mem]
      constructor
      · rintro ⟨a, h1, h2, h3⟩
        exact ⟨a, by omega, h2, h3⟩
      · rintro ⟨a, h1, h2, h3⟩
        by_cases e2 : a = k
        · subst e2; exact absurd h2 e
        · exact ⟨a, by omega, h2, h3⟩
end
end Go.Proofs.YtoiopnmphbnjaaaGreatDoor
