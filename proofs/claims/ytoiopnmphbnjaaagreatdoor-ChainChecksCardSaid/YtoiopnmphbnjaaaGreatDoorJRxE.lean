/- Contracts of functions and lemmas, used by the proofs of the given statements. No condition beyond those that each lemma names. -/
import Derived.Test.YtoiopnmphbnjaaaGreatDoorJSumB
import Derived.Test.YtoiopnmphbnjaaaGreatDoorJRatK
import Derived.Test.YtoiopnmphbnjaaaGreatDoorJSumRw
import Derived.Test.YtoiopnmphbnjaaaGreatDoorLinMk
namespace Go.Proofs.YtoiopnmphbnjaaaGreatDoor
open Go.RowKit
set_option linter.unusedSimpArgs false
set_option linter.unusedVariables false
set_option maxRecDepth 20000
attribute [local irreducible] nv wp win plainB validR valR canR mvE chkM codeC exK
/-! ## reference 49: Exit -/
set_option maxHeartbeats 4000000 in
theorem rexit49_any {w : World} {AM AD : Option Addr} {cm cd L : Nat} {c : Chn} (h : ChI w w.heap.size AM cm AD cd c) (ok : c.Ok) (hs : SizC c L) :
    Calls Tryz.prog 35 #[cv c.st c.sr AM c.nm cm AD c.nd cd] w fun e w' => RetW w.heap.size c.nd c.ex e w' ∧ Below w.heap.size w w' := by
  obtain ⟨x, hx⟩ : ∃ x : Nat → Nat → Rat, x = fun k s => exK c.f c.q s k := ⟨_, rfl⟩
  have hex : c.ex = x c.nm := by rw [hx]; rfl
  have hx0 : ∀ s, x 0 s = 0 := fun s => by rw [hx]; unfold exK; rfl
  have hxs : ∀ k s, x (k + 1) s = if c.f k = s then x k s + valR (c.R k) else x k s := fun k s => by rw [hx]; show exK c.f c.q s (k + 1) = _; rw [exK]; rfl
  have hsz : ∀ s k, k ≤ c.nm → Sz L (x k s) := fun s k hk => by rw [hx]; exact hs.ex s k hk
  have hmv := ok.mv
  have hst := ok.st
  have hnd := ok.hi
  have hL1 := hs.L1
  have hL2 := hs.L2
  have hraw := hs.raw
  have hnm := hs.nm
  have hM := h.mv.1
  rw [hex]
  clear h ok hs hx hex
  obtain ⟨f, hf⟩ : ∃ f : Nat → Nat, f = c.f := ⟨_, rfl⟩
  rw [← hf] at hxs
  have hfk : ∀ k, k < c.nm → c.F k = (f k : Int) ∧ f k < c.nd := fun k hk => by
    have := hmv k hk
    rw [hf]
    unfold Chn.f
    omega
  clear hmv hf
  obtain ⟨st, sr, nm, F, T, R, nd, D⟩ := c
  simp only at *
  subst hst
  have HX0 := Lib.hid hx0
  have HXS := Lib.hid hxs
  have HZ := Lib.hid hsz
  have HF := Lib.hid hfk
  have HR := Lib.hid hraw
  have HM := Lib.hid hM
  clear hx0 hxs hsz hfk hraw hM
  go_enter Tryz.func35, Tryz.ntmps35
  go_wp2_with (at_make; refine wpList_makeR rfl (.tmp 7) (.tmp 7) rfl 0 nd (nd : Int) (nd : Int) (by simp [Act.eval]) (by simp [Act.eval]) rfl rfl (by omega) (Nat.zero_le _) ?_; intro w1 own1 hb1; have y0 : w1.cell? ⟨w.heap.size, 2, none⟩ = some (.slice AM nm cm) := (hb1.cell (p := ⟨w.heap.size, 2, none⟩) (by simp)).trans (by simp))
  have hz1 := hb1.size
  simp only [World.size_alloc] at hz1 own1
  have hlt1 := own1.lt
  have hb1' : Below w.heap.size w w1 := ((Below.refl _ _).alloc (Nat.le_refl _) _).trans (hb1.mono (by simp))
  go_loopw [12] (fun i wr => ∃ k : Nat, k ≤ nm ∧ i = .int .i64 (k : Int) ∧ OwR wr 0 (some ⟨w.heap.size + 1, 0, none⟩) nd nd (can (x k)) ∧ w1.grownBy wr (some (w.heap.size + 1))) (fun i _ => nm - (intOf i).toNat)
  case atStart => exact ⟨0, Nat.zero_le _, rfl, own1.congr (fun s _ => by unfold can; rw [HX0.out]), World.grownBy.refl w1 _⟩
  case round =>
    obtain ⟨k, hk, rfl, own, hgr⟩ := hrel
    have hz := hgr.size
    have hfz := own.frozen
    have hkp : Kp w.heap.size w wr := (Kp.of_below hb1').trans ((own1.raise (b := w.heap.size) (fun q hq => by have h2 : w.heap.size + 1 = q := (by injection hq); omega)).kp hgr)
    have hbw : Below w.heap.size w wr := hb1'.trans (below_of_row hgr (fun q hq => by injection hq with hq; omega) (by omega))
    by_cases hlt : k < nm
    · obtain ⟨b, off, s, A1, n1, c1, B1, m1, d1, rfl, hbb, f0, f1, f2, f3, f4, r0⟩ := HM.out.at_ hlt
      obtain ⟨hFk, hFl⟩ := HF.out k hlt
      rw [hFk] at f0
      obtain ⟨u, hu⟩ : ∃ u, u = f k := ⟨_, rfl⟩
      rw [← hu] at f0 hFl
      obtain ⟨z1, z2⟩ := HR.out k hlt
      have r1 := (r0.kp hkp).rdq z1 z2
      have tc : ∀ {o : Nat} {v : Value}, w.cell? ⟨b, o, none⟩ = some v → wr.cell? ⟨b, o, none⟩ = some v := fun h => (hbw.cell (lt_of_cell h)).trans h
      have x0 := tc f0
      have x1 := tc f1
      have x2 := tc f2
      have x3 := tc f3
      have x4 := tc f4
      have y1 : wr.cell? ⟨w.heap.size, 2, none⟩ = some (.slice (some ⟨b, off, none⟩) nm cm) := (grown_at hgr 2 (by omega) (by omega)).trans y0
      obtain ⟨s3, A3, n3, c3', B3, m3, d3, g0, g1, g2, r3⟩ := own.at_ hFl
      have q3 := r3.canQ (HZ.out u k hk)
      have K1 := Lib.hid (fun W (hb : Below wr.heap.size wr W) => raddQ (q3.below hb) (r1.below hb) hL1 (by omega))
      have hk0 : (0 : Int) ≤ (k : Int) := by omega
      have hk1 : (k : Int) < (nm : Int) := by omega
      have hu1 : (u : Int) < (nd : Int) := by omega
      have ne1 : ¬ (wr.heap.size = w.heap.size + 1) := by omega
      have ne2 : ¬ (w.heap.size + 1 = wr.heap.size) := by omega
      have HGR := Lib.hid hgr
      have HU := Lib.hid hu
      have HB := Lib.hid hbw
      clear f0 f1 f2 f3 f4 r0 r1 q3 r3 tc hFk hgr hu hbw
      (have olc := fun o i => below_at ((Below.refl wr.heap.size wr).alloc (Nat.le_refl _) o) (w.heap.size) i (by omega)); (have olf := fun o i => below_fr ((Below.refl wr.heap.size wr).alloc (Nat.le_refl _) o) (w.heap.size) i (by omega))
      (have omc := fun o i => below_at ((Below.refl wr.heap.size wr).alloc (Nat.le_refl _) o) (w.heap.size + 1) i (by omega)); (have omf := fun o i => below_fr ((Below.refl wr.heap.size wr).alloc (Nat.le_refl _) o) (w.heap.size + 1) i (by omega))
      go_wp2
      rw [ld_later 56 (.tmp 22)]
      go_region_held3 (fun W => W.cell? ⟨wr.heap.size, 0, none⟩ = some (.int .i64 (u : Int)) ∧ W.cell? ⟨wr.heap.size, 2, none⟩ = some (.bool s) ∧ W.cell? ⟨wr.heap.size, 3, none⟩ = some (.slice A1 n1 c1) ∧ W.cell? ⟨wr.heap.size, 4, none⟩ = some (.slice B1 m1 d1)) (go_keep)
        (first | ((go_at_call 53; (with_reducible refine (K1.out _ (by (skip); repeat' (first | (with_reducible exact Below.refl _ _) | (with_reducible assumption) | (with_reducible refine Below.alloc ?_ ?_ _) | (with_reducible refine Below.drew ?_) | (with_reducible refine below_drewN ?_ _) | (with_reducible refine Below.setCell ?_ ?_ _) | (with_reducible refine Below.trans ?_ (Below.mono (by with_reducible assumption) ?_)) | omega | (simp only [ZA, ZS, ZD, ZN]; omega) | go_size))).mono ?_); rintro e w3 ⟨⟨v3, rfl, own3⟩, hb3⟩; have hb3z := Below.size hb3; (try simp only [ZA, ZS, ZD] at hb3z); have hb3c0 := fun o => below_at hb3 (w.heap.size + 1) o (by first | omega | (simp only [ZA, ZS, ZD]; omega)); have hb3f0 := fun o => below_fr hb3 (w.heap.size + 1) o (by first | omega | (simp only [ZA, ZS, ZD]; omega)); have hb3l0 : w.heap.size + 1 < (w3).heap.size := (by omega); have hb3c1 := fun o => below_at hb3 (wr.heap.size) o (by first | omega | (simp only [ZA, ZS, ZD]; omega)); have hb3f1 := fun o => below_fr hb3 (wr.heap.size) o (by first | omega | (simp only [ZA, ZS, ZD]; omega)); have hb3l1 : wr.heap.size < (w3).heap.size := (by omega)); obtain ⟨s4, A4, n4, c4, B4, m4, d4, rfl⟩ := own3.form) | fail)
      all_goals
        have hb9 : Below wr.heap.size wr w3 := (by have z0 := Below.size hb3; (try simp only [ZA, ZS, ZD, ZN] at z0 ⊢; skip); repeat' (first | (with_reducible exact Below.refl _ _) | (with_reducible assumption) | (with_reducible refine Below.alloc ?_ ?_ _) | (with_reducible refine Below.drew ?_) | (with_reducible refine below_drewN ?_ _) | (with_reducible refine Below.setCell ?_ ?_ _) | (with_reducible refine Below.trans ?_ (Below.mono (by with_reducible assumption) ?_)) | omega | (simp only [ZA, ZS, ZD, ZN]; omega) | go_size))
        have o4 := (own.below hb9).set hFl (own3.rs (b0 := 0))
        have HO := Lib.hid o4
        clear o4
        go_wp2
        go_roundw
        case rel =>
          refine ⟨k + 1, by omega, by go_num, HO.out.1.congr fun s hs => ?_, grown_trans HGR.out (grown_trans (grown_of_below hb9 _) HO.out.2)⟩
          unfold upd can
          rw [HXS.out k s, ← HU.out]
          by_cases e : s = u
          · subst e; simp
          · simp [e, Ne.symm e]
        case measure => simp [intOf]; omega
    · have hkn : k = nm := by omega
      subst hkn
      have HO := Lib.hid own
      clear own hgr
      go_wp2
      go_ret
      exact ⟨⟨_, _, rfl, HO.out, fun q hq => by have h2 : w.heap.size + 1 = q := (by injection hq); omega⟩, hbw⟩
end Go.Proofs.YtoiopnmphbnjaaaGreatDoor
namespace Go.Proofs.YtoiopnmphbnjaaaGreatDoor
open Go.RowKit
set_option linter.unusedSimpArgs false
set_option linter.unusedVariables false
set_option maxRecDepth 20000
attribute [local irreducible] nv wp win plainB validR valR canR mvE chkM codeC exK qK
/-! ## reference 49: Rows -/
/-- a matrix of the call's own that grows, its rows in blocks of their own -/
def MatD (w : World) (b : Nat) (A : Option Addr) (c n : Nat) (len : Nat → Nat) (M : Nat → Nat → Rat) : Prop :=
  ∃ Ar cp, Dist n Ar ∧ w.ownsRow b 23 1 (.slice A n c) n (rowsC n Ar len cp) ∧ ∀ j, j < n → OwR w b (Ar j) (cp j) (len j) (can (M j))
theorem MatD.nil_ (w : World) (b : Nat) (len : Nat → Nat) (M : Nat → Nat → Rat) : MatD w b none 0 0 len M := ⟨fun _ => none, fun _ => 0, fun j j' h => by omega, own_nil w b _ 1, fun j h => by omega⟩
theorem MatD.mg {w : World} {b c n : Nat} {A : Option Addr} {len : Nat → Nat} {M : Nat → Nat → Rat} (h : MatD w b A c n len M) (hn : 0 < n) : ∃ o, A = some ⟨o, 0, none⟩ ∧ b ≤ o ∧ MatG w b o c n len M := by
  obtain ⟨Ar, cp, hd, h1, h2⟩ := h
  obtain ⟨o, cap, e, hb, -⟩ := World.ownsRow.form h1 hn
  injection e with e1 _ _
  subst e1
  exact ⟨o, rfl, hb, _, _, Ar, cp, rfl, rfl, hd, h1, h2⟩
theorem wpList_appMd {w w0 : World} {ops : Array Oper} {rest : List Oper} {o : Oper} {a : Act} {Q : Exit → Act → World → Prop} (hgd : o.guard = none) (s x : Operand)
    (ho : o.op = .call { callee := .builtin .append, args := #[s, x], argTypes := #[69, 69] })
    (b : Nat) (A : Option Addr) (c n : Nat) (len : Nat → Nat) (M : Nat → Nat → Rat) (hs : a.eval s = .slice A n c) (hown : MatD w0 b A c n len M) (hb0 : Below w0.heap.size w0 w)
    (B : Nat) (hx : a.eval x = .slice (some ⟨B, 0, none⟩) 1 1) (A1 : Option Addr) (c1 : Nat) (hc0 : w.cell? ⟨B, 0, none⟩ = some (.slice A1 (len n) c1)) (hr : OwR w b A1 c1 (len n) (can (M n))) (hA1 : ∀ a, A1 = some a → w0.heap.size ≤ a.block)
    (hn : n ≤ 1000000) (hbase : b ≤ w.heap.size)
    (h : ∀ A' c' w', MatD w' b A' c' (n + 1) len M → Below b w w' → wpList Tryz.prog ops Q rest (a.put o.dst (.slice A' (n + 1) c')) w') : wpList Tryz.prog ops Q (o :: rest) a w := by
  obtain ⟨Ar, cp, hd, h10, h20⟩ := hown
  have h1 := own_below h10 hb0
  have h2 : ∀ j, j < n → OwR w b (Ar j) (cp j) (len j) (can (M j)) := fun j hj => (h20 j hj).below hb0
  have hlt : ∀ j, j < n → ∀ q, Ar j = some q → q.block < w0.heap.size := fun j hj q hq => by
    obtain ⟨_, cur, e⟩ := (h20 j hj).blockA hq
    exact (Array.getElem?_eq_some_iff.1 e).1
  have hrd : Rds w w.heap.size 1 (some ⟨B, 0, none⟩) 1 [.slice A1 (len n) c1] := ⟨rfl, fun _ => ⟨B, 0, rfl, lt_of_cell hc0, fun j u hu => by
    rw [Nat.zero_add]
    match j, hu with
    | 0, hu => simp at hu; subst hu; exact hc0
    | j + 1, hu => simp at hu⟩⟩
  have hblk : ∀ k, (Value.slice A n c).ownBlock = some k → ∃ cur, w.heap[k]? = some (.cells cur 23 (0, 0)) := by
    intro k hk
    rcases h1.2 with ⟨h, _⟩ | ⟨g', cap, cur, e, hb, hg, _⟩
    · rw [h] at hk; cases hk
    · rw [e] at hk; injection hk with hk; subst hk; exact ⟨cur, hg⟩
  refine wpList_app hgd s x 69 ho b 23 _ 1 24 Tryz.underlying69 sliceInfo rfl (by decide) A c n _ hs h1 w.heap.size _ 1 1 _ hx hrd (by intro u hu; simp at hu; subst hu; rfl) (by unfold maxLen; omega) (by omega) hbase ?_
  intro A' c' w' g1 g2 g3 g4
  have hkp : Kp b w w' := by
    cases hrow : (Value.slice A n c).ownBlock with
    | none => rw [hrow] at g3; exact Kp.of_below ⟨g3.os, g3.tape, g3.output, g3.size, fun k hk => g3.block k hk (by simp)⟩
    | some g =>
      rw [hrow] at g3
      obtain ⟨cur, hc⟩ := hblk g hrow
      refine Kp.grown g3 ?_ hc (by decide)
      exact (World.ownsRow.lt h1 g hrow).1
  have hkeep : ∀ {A0 : Option Addr} {c0 k : Nat} {R : Nat → Rw}, OwR w b A0 c0 k R → OwR w' b A0 c0 k R := fun {A0 c0 k R} h0 => h0.keepA g3 hkp fun a0 ha0 e => by
    obtain ⟨_, cur1, e1⟩ := h0.blockA ha0
    obtain ⟨cur2, e2⟩ := hblk _ e
    rw [e1] at e2
    injection e2 with e2
    injection e2 with _ e2
    exact absurd e2 (by decide)
  refine h A' c' w' ⟨upd Ar n A1, upd cp n c1, ?_, ?_, fun j hj => ?_⟩ g2
  · intro j j' hj hj' hne p p' hp hp'
    by_cases e : j = n
    · have e' : j' ≠ n := fun h => hne (e.trans h.symm)
      rw [e, upd_same] at hp
      rw [upd_ne _ _ e'] at hp'
      have := hA1 p hp
      have := hlt j' (by omega) p' hp'
      omega
    · rw [upd_ne _ _ e] at hp
      by_cases e' : j' = n
      · rw [e', upd_same] at hp'
        have := hA1 p' hp'
        have := hlt j (by omega) p hp
        omega
      · rw [upd_ne _ _ e'] at hp'
        exact hd j j' (by omega) (by omega) hne p p' hp hp'
  · have e : rowsC (n + 1) (upd Ar n A1) len (upd cp n c1) = rowsC n Ar len cp ++ [.slice A1 (len n) c1] := by
      unfold rowsC
      rw [List.range_succ, List.map_append]
      congr 1
      · exact List.map_congr_left fun i hi => by rw [upd_ne _ _ (by have := List.mem_range.1 hi; omega), upd_ne _ _ (by have := List.mem_range.1 hi; omega)]
      · simp [upd_same]
    rw [e]
    exact g1
  · by_cases e : j = n
    · subst e; rw [upd_same, upd_same]; exact hkeep hr
    · rw [upd_ne _ _ e, upd_ne _ _ e]; exact hkeep (h2 j (by omega))
/-- the row of the diagonal -/
def dgR (x : Nat → Rat) (i : Nat) : Nat → Rat := upd (fun _ => 0) i (-(x i))
theorem dgR_all {f t : Nat → Nat} {q x : Nat → Rat} (i j : Nat) : dgR x i j = qK f t q x i j 0 := by
  unfold dgR qK upd
  by_cases h : j = i
  · rw [if_pos h, if_pos h.symm]
  · rw [if_neg h, if_neg (fun e => h e.symm)]
set_option maxHeartbeats 16000000 in
theorem rrows49_any {w : World} {AM AD : Option Addr} {cm cd L : Nat} {c : Chn} (h : ChI w w.heap.size AM cm AD cd c) (ok : c.Ok) (hsz : SizC c L) :
    Calls Tryz.prog 33 #[cv c.st c.sr AM c.nm cm AD c.nd cd] w fun e w' => (∃ A cp, e = .returned (.slice A c.nd cp) ∧ MatI w' w'.heap.size A c.nd (fun _ => c.nd) (fun i => can (c.Q i))) ∧ Below w.heap.size w w' := by
  have hL1 := hsz.L1
  have hL2 := hsz.L2
  have hn1 := ok.lo
  have hn2 := ok.hi
  have K2 := Lib.hid (fun W (hb : Below w.heap.size w W) => rexit49_any (h.below hb) ok hsz)
  have HMV := Lib.hid (fun W hb k hk => h.mvLater (W := W) ok hb (k := k) hk)
  have HVR : Hid (∀ k, k < c.nm → canR (valR (c.R k)) = c.R k) := fun k hk => by
    refine canR_valR (h.ok9 hk) ?_
    cases e : validR (c.R k) with
    | true => rfl
    | false =>
      have h1 : 0 < valR (c.R k) := (ok.mv k hk).2.2.2.2.2.1
      exact absurd h1 (valR_no e)
  have HSX : Hid (∀ s, Sz L (c.ex s)) := fun s => hsz.ex s c.nm (Nat.le_refl _)
  have hnm := hsz.nm
  obtain ⟨X, hX⟩ : ∃ X, X = c.ex := ⟨_, rfl⟩
  obtain ⟨P, hP⟩ : ∃ P : Nat → Mf, P = fun k i j => qK c.f c.t c.q c.ex i j k := ⟨_, rfl⟩
  have HE : Hid (∀ A cp w', MatI w' w'.heap.size A c.nd (fun _ => c.nd) (fun i => can (P c.nm i)) → (∃ A' cp', (.returned (.slice A c.nd cp) : Ending) = .returned (.slice A' c.nd cp') ∧ MatI w' w'.heap.size A' c.nd (fun _ => c.nd) (fun i => can (c.Q i)))) := fun A cp w' hm => ⟨A, cp, rfl, by rw [hP] at hm; exact hm⟩
  have HP0 : Hid (∀ i j, dgR X i j = P 0 i j) := fun i j => by rw [hP, hX]; exact dgR_all i j
  have HPS : Hid (∀ k, P (k + 1) = upd (P k) (c.f k) (upd (P k (c.f k)) (c.t k) (valR (c.R k)))) := fun k => by rw [hP]; exact qK_s k
  have HDG : Hid (∀ i, dgR X i = upd (fun _ => 0) i (-(X i))) := fun i => rfl
  rw [← hX] at K2 HSX
  have hst := ok.st
  obtain ⟨sr, hsr⟩ : ∃ sr, sr = c.sr := ⟨_, rfl⟩
  rw [← hsr, hst] at K2
  rw [← hsr, hst]
  obtain ⟨Dg, hDg⟩ : ∃ Dg : Nat → Nat → Rat, Dg = dgR X := ⟨_, rfl⟩
  rw [← hDg] at HP0 HDG
  clear hX hP hsr hst hsz ok h hDg
  have HPC := Lib.hid (fun W hb => pc4 (W := W) (w := w) (a := .int .i64 (c.nd : Int)) (b := .int .i64 sr) (d := .slice AM c.nm cm) (e := .slice AD c.nd cd) (t := 32) hb)
  have HPB := Lib.hid (fun W hb => pb4 (W := W) (w := w) (o := .cells #[.int .i64 (c.nd : Int), .int .i64 sr, .slice AM c.nm cm, .slice AD c.nd cd] 32) hb)
  have hW0z : (w.alloc (.cells #[.int .i64 (c.nd : Int), .int .i64 sr, .slice AM c.nm cm, .slice AD c.nd cd] 32)).heap.size = w.heap.size + 1 := by simp
  have y0 : (w.alloc (.cells #[.int .i64 (c.nd : Int), .int .i64 sr, .slice AM c.nm cm, .slice AD c.nd cd] 32)).cell? ⟨w.heap.size, 0, none⟩ = some (.int .i64 (c.nd : Int)) := by simp
  have y1 : (w.alloc (.cells #[.int .i64 (c.nd : Int), .int .i64 sr, .slice AM c.nm cm, .slice AD c.nd cd] 32)).cell? ⟨w.heap.size, 1, none⟩ = some (.int .i64 sr) := by simp
  have y2 : (w.alloc (.cells #[.int .i64 (c.nd : Int), .int .i64 sr, .slice AM c.nm cm, .slice AD c.nd cd] 32)).cell? ⟨w.heap.size, 2, none⟩ = some (.slice AM c.nm cm) := by simp
  have y3 : (w.alloc (.cells #[.int .i64 (c.nd : Int), .int .i64 sr, .slice AM c.nm cm, .slice AD c.nd cd] 32)).cell? ⟨w.heap.size, 3, none⟩ = some (.slice AD c.nd cd) := by simp
  have hAL : Below w.heap.size w (w.alloc (.cells #[.int .i64 (c.nd : Int), .int .i64 sr, .slice AM c.nm cm, .slice AD c.nd cd] 32)) := (Below.refl _ _).alloc (Nat.le_refl _) _
  go_enter Tryz.func33, Tryz.ntmps33
  go_upto_region 2 with fail
  generalize w.alloc (.cells #[.int .i64 (c.nd : Int), .int .i64 sr, .slice AM c.nm cm, .slice AD c.nd cd] 32) = W0 at *
  go_wp2_with fail
  refine (K2.out _ hAL).mono ?_
  rintro e w4 ⟨⟨A4, c4, rfl, own4, hq4⟩, hb4⟩
  have hz4 := hb4.size
  have hB4 : Below (w.heap.size + 1) W0 w4 := hb4.mono (by omega)
  have HB4 := Lib.hid hB4
  obtain ⟨g4, rfl⟩ := own4.form (by omega)
  have hg4l := own4.lt
  have H4 := Lib.hid own4
  clear K2 own4 hq4 hb4 y0 y1 y2 y3 hB4 hAL
  go_wp2_with fail
  go_loopw [3, 12] (fun vs i wr => ∃ (k : Nat) (A : Option Addr) (cp : Nat), k ≤ c.nd ∧ vs = .slice A k cp ∧ i = .int .i64 (k : Int) ∧ MatD wr w4.heap.size A cp k (fun _ => c.nd) Dg ∧ Below w4.heap.size w4 wr) (fun _ i _ => c.nd - (intOf i).toNat)
  case atStart => exact ⟨0, none, 0, Nat.zero_le _, rfl, rfl, MatD.nil_ _ _ _ _, Below.refl _ _⟩
  case round =>
    obtain ⟨i, A, cp, hi, rfl, rfl, own, hb⟩ := hrel
    obtain ⟨wo, rfl⟩ : ∃ wo : World, wo = wr := ⟨_, rfl⟩
    have hzr := hb.size
    have hbW : Below (w.heap.size + 1) W0 wo := HB4.out.trans (hb.mono (by omega))
    by_cases hlt : i < c.nd
    · obtain ⟨s3, A3, n3, c3, B3, m3, d3, x0', x1', x2', r3'⟩ := H4.out.at_ hlt
      have x0 := (hb.cell (lt_of_cell x0')).trans x0'
      have x1 := (hb.cell (lt_of_cell x1')).trans x1'
      have x2 := (hb.cell (lt_of_cell x2')).trans x2'
      have q3 := (r3'.kp (Kp.of_below hb)).canQ (HSX.out i)
      obtain ⟨y0, -, -, -⟩ := HPC.out _ hbW
      have hi0 : (0 : Int) ≤ (i : Int) := by omega
      have hi1 : (i : Int) < (c.nd : Int) := by omega
      have hww : w.heap.size < wo.heap.size := by omega
      have HO := Lib.hid own
      have HB := Lib.hid hb
      have KN := Lib.hid (fun W (hW : Below wo.heap.size wo W) => rneg_any (q3.below hW) hL1 (by omega))
      have hdg := HDG.out i
      clear own hb hbW x0' x1' x2' r3' q3
      obtain ⟨wq, hwq⟩ : ∃ wq, wq = wo.alloc (.cells #[.bool s3, .slice A3 n3 c3, .slice B3 m3 d3] 56) := ⟨_, rfl⟩
      have hAL : Below wo.heap.size wo wq := by rw [hwq]; exact (Below.refl _ _).alloc (Nat.le_refl _) _
      have hwz : wq.heap.size = wo.heap.size + 1 := by rw [hwq]; simp
      have z0 : wq.cell? ⟨wo.heap.size, 0, none⟩ = some (.bool s3) := by rw [hwq]; simp
      have z1 : wq.cell? ⟨wo.heap.size, 1, none⟩ = some (.slice A3 n3 c3) := by rw [hwq]; simp
      have z2 : wq.cell? ⟨wo.heap.size, 2, none⟩ = some (.slice B3 m3 d3) := by rw [hwq]; simp
      have zy := (below_at hAL w.heap.size 0 hww).trans y0
      have HWQ := Lib.hid hwq
      clear hwq
      go_upto_region 5 with fail
      rw [← HWQ.out]
      clear x0 x1 x2 y0
      go_wp2_with (first | (at_make; refine wpList_makeR rfl (.tmp 18) (.tmp 18) rfl w4.heap.size c.nd (c.nd : Int) (c.nd : Int) (by first | rfl | simp [Act.eval]) (by first | rfl | simp [Act.eval]) rfl rfl (by omega) (by omega) ?_; intro w5 own5 hb5; (have v0 := (below_at hb5 wo.heap.size 0 (by omega)).trans z0); (have v1 := (below_at hb5 wo.heap.size 1 (by omega)).trans z1); (have v2 := (below_at hb5 wo.heap.size 2 (by omega)).trans z2); rw [hwz] at own5 ⊢) | fail)
      have hz5 := hb5.size
      have K7 := Lib.hid (KN.out w5 (hAL.trans (hb5.mono (by omega))))
      have HAL := Lib.hid (hAL.trans (hb5.mono (by omega)) : Below wo.heap.size wo w5)
      have HO5 := Lib.hid own5
      clear own5 hb5 z0 z1 z2 zy KN hAL HWQ
      go_wp2_with fail
      refine K7.out.mono ?_
      rintro e w7 ⟨⟨v7, rfl, own7⟩, hb7⟩
      obtain ⟨s7, A7, n7, c7, B7, m7, d7, rfl⟩ := own7.form
      have own5b := HO5.out.below hb7
      obtain ⟨s0, A0, n0, c0, B0, m0, d0, o0, o1, o2, -⟩ := own5b.at_ hlt
      have hfz := own5b.frozen
      have hgl := own5b.lt
      have hst := own5b.set hlt (own7.rs (b0 := w4.heap.size))
      have hz7 := hb7.size
      have hb8 : Below wo.heap.size wo (((w7.setCell ⟨wo.heap.size + 1, i * 3, none⟩ (.bool s7)).setCell ⟨wo.heap.size + 1, i * 3 + 1, none⟩ (.slice A7 n7 c7)).setCell ⟨wo.heap.size + 1, i * 3 + 2, none⟩ (.slice B7 m7 d7)) := (((HAL.out.trans (hb7.mono (by omega))).setCell (by show _ ≤ wo.heap.size + 1; omega) _).setCell (by show _ ≤ wo.heap.size + 1; omega) _).setCell (by show _ ≤ wo.heap.size + 1; omega) _
      have hst1 : OwR (((w7.setCell ⟨wo.heap.size + 1, i * 3, none⟩ (.bool s7)).setCell ⟨wo.heap.size + 1, i * 3 + 1, none⟩ (.slice A7 n7 c7)).setCell ⟨wo.heap.size + 1, i * 3 + 2, none⟩ (.slice B7 m7 d7)) w4.heap.size (some ⟨wo.heap.size + 1, 0, none⟩) c.nd c.nd (can (Dg i)) := hst.1.congr fun b _ => by rw [upd_can, hdg]
      have HST := Lib.hid hst1
      have HB8 := Lib.hid hb8
      clear hst hst1 hb8 own5b own7 hb7 K7 HO5 HAL v0 v1 v2
      go_upto_region 7 with fail
      obtain ⟨w8, hw8⟩ : ∃ w8, w8 = (((w7.setCell ⟨wo.heap.size + 1, i * 3, none⟩ (.bool s7)).setCell ⟨wo.heap.size + 1, i * 3 + 1, none⟩ (.slice A7 n7 c7)).setCell ⟨wo.heap.size + 1, i * 3 + 2, none⟩ (.slice B7 m7 d7)) := ⟨_, rfl⟩
      have own8 := HST.out
      have hb8 := HB8.out
      rw [← hw8] at own8 hb8
      rw [← hw8]
      have hz8 := hb8.size
      have hl8 := own8.lt
      have HO8 := Lib.hid own8
      have HB8' := Lib.hid hb8
      clear own8 hb8 HST HB8 hw8 o0 o1 o2 hfz hgl
      go_wp2_with (first | (at_builtin; refine wpList_appMd (w0 := wo) rfl (.tmp 25) (.tmp 27) rfl w4.heap.size A cp i (fun _ => c.nd) Dg (by first | rfl | simp [Act.eval]) HO.out (HB8'.out.alloc hz8 _) w8.heap.size (by first | rfl | simp [Act.eval]) (some ⟨wo.heap.size + 1, 0, none⟩) c.nd (by simp) (HO8.out.alloc _) (by intro a ha; injection ha with ha; subst ha; show _ ≤ wo.heap.size + 1; omega) (by omega) (by simp; omega) ?_; intro A9 c9 w9 own9 hb9) | fail)
      have hbF : Below w4.heap.size w4 w9 := (HB.out.trans ((HB8'.out.alloc hz8 _).mono (by omega))).trans hb9
      have HOF := Lib.hid own9
      have HBF := Lib.hid hbF
      clear own9 hb9 hbF
      go_wp2_with fail
      go_roundw
      case rel => exact ⟨i + 1, A9, c9, by omega, by rfl, by go_num, HOF.out, HBF.out⟩
      case measure => simp [intOf]; omega
    · obtain rfl : i = c.nd := by omega
      obtain ⟨oM, rfl, hoM, mg⟩ := own.mg (by omega)
      have mg9 := mg.congr (len' := fun _ => c.nd) (M' := P 0) (fun j hj => rfl) (fun j k hj _ => HP0.out j k)
      have HO9 := Lib.hid mg9
      have HB9 := Lib.hid hb
      obtain ⟨-, -, y2, -⟩ := HPC.out _ hbW
      have HBW := Lib.hid hbW
      clear own mg mg9 hb hbW H4
      go_wp2_with fail
      go_loopw [33] (fun j wr => ∃ k : Nat, k ≤ c.nm ∧ j = .int .i64 (k : Int) ∧ MatG wr w4.heap.size oM cp c.nd (fun _ => c.nd) (P k) ∧ Below w4.heap.size w4 wr) (fun i _ => c.nm - (intOf i).toNat)
      case atStart => exact ⟨0, Nat.zero_le _, rfl, HO9.out, HB9.out⟩
      case round =>
        clear HO9 HB9 y2
        obtain ⟨k, hk, rfl, own, hb⟩ := hrel
        have hz := hb.size
        have hol := own.lt
        have hbW : Below w.heap.size w wr := HPB.out _ (HB4.out.trans (hb.mono (by omega)))
        by_cases hlt : k < c.nm
        · obtain ⟨bm, om, s1, A1, n1, c1, B1, m1, d1, rfl, hbm, g0, g1, g2, g3, g4', r1, hfn, htn, hft⟩ := HMV.out wr hbW k hlt
          have hvk := HVR.out k hlt
          have hPS := HPS.out k
          obtain ⟨f, hf⟩ : ∃ f, f = c.f k := ⟨_, rfl⟩
          obtain ⟨tt, ht⟩ : ∃ tt, tt = c.t k := ⟨_, rfl⟩
          rw [← hf] at g0 hfn hPS
          rw [← ht] at g1 htn hPS
          rw [← hvk] at r1
          obtain ⟨rk, hrk⟩ : ∃ rk, rk = c.R k := ⟨_, rfl⟩
          rw [← hrk] at r1 hvk hPS
          have hki : (k : Int) < (c.nm : Int) := by omega
          have hk0 : (0 : Int) ≤ (k : Int) := by omega
          have hfi : (f : Int) < (c.nd : Int) := by omega
          have hf0 : (0 : Int) ≤ (f : Int) := by omega
          have hti : (tt : Int) < (c.nd : Int) := by omega
          have ht0 : (0 : Int) ≤ (tt : Int) := by omega
          have HP9 := Lib.hid hPS
          have HB5 := Lib.hid hb
          have HO := Lib.hid own
          have HR1 := Lib.hid (r1.base (b1 := w4.heap.size) (by omega))
          clear own hb hbW hf ht hrk hPS r1 hft
          go_upto_region 12 with fail
          obtain ⟨wq, hwq⟩ : ∃ wq, wq = wr.alloc (.cells #[.int .i64 (f : Int), .int .i64 (tt : Int), .bool s1, .slice A1 n1 c1, .slice B1 m1 d1] 65) := ⟨_, rfl⟩
          rw [← hwq]
          have hAL : Below wr.heap.size wr wq := by rw [hwq]; exact (Below.refl _ _).alloc (Nat.le_refl _) _
          have z0 : wq.cell? ⟨wr.heap.size, 0, none⟩ = some (.int .i64 (f : Int)) := by rw [hwq]; simp
          have z1 : wq.cell? ⟨wr.heap.size, 1, none⟩ = some (.int .i64 (tt : Int)) := by rw [hwq]; simp
          have z2 : wq.cell? ⟨wr.heap.size, 2, none⟩ = some (.bool s1) := by rw [hwq]; simp
          have z3 : wq.cell? ⟨wr.heap.size, 3, none⟩ = some (.slice A1 n1 c1) := by rw [hwq]; simp
          have z4 : wq.cell? ⟨wr.heap.size, 4, none⟩ = some (.slice B1 m1 d1) := by rw [hwq]; simp
          have hwz : wq.heap.size = wr.heap.size + 1 := by rw [hwq]; simp
          obtain ⟨A9, c9, hX'⟩ := HO.out.row f
          obtain ⟨g, rfl⟩ := hX'.head hfn (by omega)
          have hgl := (hX'.own hfn).lt
          have hgb := (hX'.own hfn).block.1
          have hne : g ≠ oM := hX'.ne hfn rfl
          have hX := hX'.below hAL
          have hcell : wq.cell? ⟨oM, f, none⟩ = some (.slice (some ⟨g, 0, none⟩) c.nd c9) := hX.cell hfn
          have hown : OwR wq w4.heap.size (some ⟨g, 0, none⟩) c9 c.nd (can (P k f)) := hX.own hfn
          obtain ⟨s0, A3, n3', c3', B3, m3, d3, o0, o1, o2, -⟩ := hown.at_ htn
          have rq := HR1.out.kp (Kp.of_below hAL)
          have hfz := hown.frozen
          have hst := hown.set htn rq
          have hs := hX.same hfn hst.2 (f' := upd (P k f) tt (valR rk)) (hst.1.congr fun b _ => by rw [upd_can]) (by omega)
          have HF := Lib.hid (hs.1.mg.congr (len' := fun _ => c.nd) (M' := P (k + 1)) (fun _ _ => rfl) (fun a b ha hb => by rw [HP9.out]))
          have HBF := Lib.hid ((HB5.out.trans (hAL.mono (by omega))).trans hs.2.2)
          clear hX hX' hown hwq g0 g1 g2 g3 g4' rq hAL HR1 HO hst hs
          have ne1 : ¬ (oM = g) := fun e => hne e.symm
          have ne2 : ¬ (wr.heap.size = g) := by omega
          have ne3 : ¬ (g = wr.heap.size) := by omega
          have ne4 : ¬ (oM = wr.heap.size) := by omega
          have ne5 : ¬ (wr.heap.size = oM) := by omega
          go_region
          all_goals
            go_wp2_with fail
            go_roundw
            case rel => exact ⟨k + 1, by omega, by go_num, MatG.below HF.out ((Below.refl _ _).drew), HBF.out.drew⟩
            case measure => simp [intOf]; omega
        · obtain rfl : k = c.nm := by omega
          have HF := Lib.hid (own.mi9 (by omega))
          have HbB := Lib.hid hbW
          clear own hb hbW
          go_wp2_with fail
          go_ret
          exact ⟨HE.out _ _ _ HF.out, HbB.out⟩
end Go.Proofs.YtoiopnmphbnjaaaGreatDoor
