/- Contracts of functions and lemmas, used by the proofs of the given statements. No condition beyond those that each lemma names. -/
import Derived.Test.YtoiopnmphbnjaaaGreatDoorJMkC
import Derived.Test.YtoiopnmphbnjaaaGreatDoorSamS
import Derived.Test.YtoiopnmphbnjaaaGreatDoorJDynEx
namespace Go.Proofs.YtoiopnmphbnjaaaGreatDoor
open Go.RowKit
set_option linter.unusedSimpArgs false
set_option linter.unusedVariables false
set_option maxRecDepth 20000
attribute [local irreducible] nv wp win plainB validR valR canR mvE chkM codeC topL prs
/-! ## ChainReaches -/
theorem Sz_short {c : Chn} (h : ∀ k, k < c.nm → Sz 100 (c.q k)) (hk : ∀ k, k < c.nm → c.R k = canR (c.q k)) : Short c.nm c.R := fun k hk' => by
  rw [hk k hk']
  have := Sz_canR (h k hk')
  omega
theorem mkC_short {n : Nat} {R : Nat → Nat → Rat} {D : Nat → Bool} (h : ∀ a b, Sz 100 (R a b)) : Short (mkC n R D).nm (mkC n R D).R := Sz_short (fun k _ => by rw [mkC_q]; exact h _ _) (fun k _ => by rw [mkC_q]; rfl)
theorem prs_len {n : Nat} {R : Nat → Nat → Rat} : (prs n R).length ≤ n * n := by
  have h1 : (prs n R).length ≤ ((List.range n).flatMap fun a => (List.range n).map fun b => (a, b)).length := by
    refine List.Nodup.length_le_of_subset (prs_nodup n R) fun p hp => ?_
    have := mem_prs.1 hp
    rw [List.mem_flatMap]
    exact ⟨p.1, List.mem_range.2 this.1, List.mem_map.2 ⟨p.2, List.mem_range.2 this.2.1, rfl⟩⟩
  refine Nat.le_trans h1 (Nat.le_of_eq ?_)
  rw [List.length_flatMap]
  simp only [List.length_map, List.length_range]
  have : ∀ m, ((List.range m).map fun _ => n).sum = m * n := by
    intro m
    induction m with
    | zero => simp
    | succ m ih => rw [List.range_succ, List.map_append, List.sum_append, ih, Nat.succ_mul]; simp
  exact this n
theorem ds_ext {ng : Nat} {s t : DS} (hs : s.2.length = ng) (ht : t.2.length = ng) (h1 : ((s.1 : Nat) : Int) = ((t.1 : Nat) : Int)) (h2 : ∀ i, i < ng → s.2.getD i 0 = t.2.getD i 0) : s = t := by
  refine Prod.ext (by omega) (List.ext_getElem (by omega) fun i h3 h4 => ?_)
  have := h2 i (by omega)
  rw [List.getD_eq_getElem?_getD, List.getD_eq_getElem?_getD, List.getElem?_eq_getElem h3, List.getElem?_eq_getElem h4] at this
  exact this
set_option maxHeartbeats 32000000 in
theorem chainReaches_law {w : World} {AG AF AR : Option Addr} {cg cf cr : Nat} {r : DyR} (h : DyI w AG AF AR r) (hmx : r.ng ≤ maxLen) (ht : TabW w) :
    Calls Tryz.prog 4 #[dyv r AG cg AF cf AR cr] w fun e w' => e = .returned (.bool true) ∧ Below w.heap.size w w' := by
  have KA := Lib.hid (fun W (hb : Below w.heap.size w W) => awake49_any (ht.below hb))
  have KL := Lib.hid (fun W (hb : Below w.heap.size w W) => light48_any (cg := cg) (cf := cf) (cr := cr) (h.below hb) hmx)
  have KS := Lib.hid (fun W (hl : Lt48 r) (hb : Below w.heap.size w W) => slight_any (cg := cg) (cf := cf) (cr := cr) (h.below hb) hl)
  have HH := Lib.hid h
  have HT := Lib.hid ht
  clear h ht hmx
  have hbA : Below w.heap.size w (w.alloc (.cells #[.int .i64 r.v, .slice AG r.ng cg, .int .i64 r.top, .slice AF r.nf cf, .slice AR r.nr cr] 25)) := (Below.refl _ _).alloc (Nat.le_refl _) _
  unfold dyv at KL KS ⊢
  go_enter Tryz.func4, Tryz.ntmps4
  (go_wp2_with fail; (with_reducible refine (KA.out _ (by (skip); repeat' (first | (with_reducible exact Below.refl _ _) | (with_reducible assumption) | (with_reducible refine Below.alloc ?_ ?_ _) | (with_reducible refine Below.drew ?_) | (with_reducible refine below_drewN ?_ _) | (with_reducible refine Below.setCell ?_ ?_ _) | (with_reducible refine Below.trans ?_ (Below.mono (by with_reducible assumption) ?_)) | omega | (simp only [ZA, ZS, ZD, ZN]; omega) | go_size))).mono ?_); rintro e w1 ⟨rfl, hb1⟩; have hb1z := Below.size hb1; (try simp only [ZA, ZS, ZD, ZN] at hb1z); have hb1c0 := fun o => below_at hb1 (w.heap.size) o (by first | omega | (simp only [ZA, ZS, ZD, ZN]; omega)); have hb1f0 := fun o => below_fr hb1 (w.heap.size) o (by first | omega | (simp only [ZA, ZS, ZD, ZN]; omega)))
  have hB1 : Below w.heap.size w w1 := (by have z0 := Below.size hb1; (try simp only [ZA, ZS, ZD, ZN] at z0 ⊢; skip); repeat' (first | (with_reducible exact Below.refl _ _) | (with_reducible assumption) | (with_reducible refine Below.alloc ?_ ?_ _) | (with_reducible refine Below.drew ?_) | (with_reducible refine below_drewN ?_ _) | (with_reducible refine Below.setCell ?_ ?_ _) | (with_reducible refine Below.trans ?_ (Below.mono (by with_reducible assumption) ?_)) | omega | (simp only [ZA, ZS, ZD, ZN]; omega) | go_size))
  (go_wp2_with fail; (with_reducible refine (KL.out _ hB1).mono ?_); rintro e w2 ⟨⟨bb, rfl, hbb⟩, hb2⟩; have hb2z := Below.size hb2; (try simp only [ZA, ZS, ZD, ZN] at hb2z); have hb2c0 := fun o => below_at hb2 (w.heap.size) o (by first | omega | (simp only [ZA, ZS, ZD, ZN]; omega)); have hb2f0 := fun o => below_fr hb2 (w.heap.size) o (by first | omega | (simp only [ZA, ZS, ZD, ZN]; omega)))
  have hB2 : Below w.heap.size w w2 := hB1.trans (hb2.mono hB1.size)
  cases bb with
  | false =>
    clear hbb
    (go_wp2_with fail; (with_reducible refine (KA.out _ hB2).mono ?_); rintro e w3 ⟨rfl, hb3⟩; have hb3z := Below.size hb3; (try simp only [ZA, ZS, ZD, ZN] at hb3z))
    go_wp2
    go_ret
    exact ⟨rfl, hB2.trans (hb3.mono hB2.size)⟩
  | true =>
    have hlt := hbb (by trivial)
    clear hbb KL
    (go_wp2_with fail; (with_reducible refine (KS.out _ hlt hB2).mono ?_); rintro e w3 ⟨⟨b2, rfl, hbb⟩, hb3⟩; have hb3z := Below.size hb3; (try simp only [ZA, ZS, ZD, ZN] at hb3z); have hb3c0 := fun o => below_at hb3 (w.heap.size) o (by first | omega | (simp only [ZA, ZS, ZD, ZN]; omega)); have hb3f0 := fun o => below_fr hb3 (w.heap.size) o (by first | omega | (simp only [ZA, ZS, ZD, ZN]; omega)))
    have hB3 : Below w.heap.size w w3 := hB2.trans (hb3.mono hB2.size)
    cases b2 with
    | false =>
      clear hbb
      (go_wp2_with fail; (with_reducible refine (KA.out _ hB3).mono ?_); rintro e w4 ⟨rfl, hb4⟩; have hb4z := Below.size hb4; (try simp only [ZA, ZS, ZD, ZN] at hb4z))
      go_wp2
      go_ret
      exact ⟨rfl, hB3.trans (hb4.mono hB3.size)⟩
    | true =>
      have hsl := hbb (by trivial)
      clear hbb KS
      by_cases h5 : 5 < r.v
      · have e1 : decide (5 < r.v) = true := by simpa using h5
        clear h5
        (go_wp2_with fail; (with_reducible refine (KA.out _ hB3).mono ?_); rintro e w4 ⟨rfl, hb4⟩; have hb4z := Below.size hb4; (try simp only [ZA, ZS, ZD, ZN] at hb4z))
        go_wp2
        go_ret
        exact ⟨rfl, hB3.trans (hb4.mono hB3.size)⟩
      · have e1 : decide (5 < r.v) = false := by simpa using h5
        have hw3 : w.heap.size < w3.heap.size := by have := hb1.size; have := hb2.size; have := hb3.size; simp at *; omega
        have y0 : w3.cell? ⟨w.heap.size, 0, none⟩ = some (.int .i64 r.v) := by rw [hb3c0, hb2c0, hb1c0]; simp
        have y1 : w3.cell? ⟨w.heap.size, 1, none⟩ = some (.slice AG r.ng cg) := by rw [hb3c0, hb2c0, hb1c0]; simp
        have y2 : w3.cell? ⟨w.heap.size, 2, none⟩ = some (.int .i64 r.top) := by rw [hb3c0, hb2c0, hb1c0]; simp
        have y3 : w3.cell? ⟨w.heap.size, 3, none⟩ = some (.slice AF r.nf cf) := by rw [hb3c0, hb2c0, hb1c0]; simp
        have y4 : w3.cell? ⟨w.heap.size, 4, none⟩ = some (.slice AR r.nr cr) := by rw [hb3c0, hb2c0, hb1c0]; simp
        clear hb1c0 hb2c0 hb3c0 hb1f0 hb2f0 hb3f0 hb1 hb2 hb3 hB1 hB2 KA
        have hs := hlt.s
        by_cases hc : codeD r = 0
        · have tt := mk_t HH.out hc hsl
          have ok := codeD_ok hc
          have KM := Lib.hid (make_ok (cg := cg) (cf := cf) (cr := cr) (HH.out.below hB3) hs hc tt.ts (HT.out.below hB3))
          cases hz : r.tr.make with
          | none =>
            rw [hz] at KM
            have KM2 : Hid (Calls Tryz.prog 12 #[.agg #[.int .i64 r.v, .slice AG r.ng cg, .int .i64 r.top, .slice AF r.nf cf, .slice AR r.nr cr]] w3 fun e w' => e = .returned (.tuple #[cv 0 0 none 0 0 none 0 0, .slice none 0 0, .iface 80 (.int .i64 4)]) ∧ Below w3.heap.size w3 w') := KM.out
            clear KM hz tt ok hc hs hsl hlt HH HT
            (go_wp2_with fail; (with_reducible refine (KM2.out).mono ?_); rintro e w4 ⟨rfl, hb4⟩; have hb4z := Below.size hb4; (try simp only [ZA, ZS, ZD, ZN] at hb4z))
            go_wp2
            go_ret
            exact ⟨rfl, (by have z0 := Below.size hB3; have z1 := Below.size hb4; (try simp only [ZA, ZS, ZD, ZN] at z0 z1 ⊢; skip); repeat' (first | (with_reducible exact Below.refl _ _) | (with_reducible assumption) | (with_reducible refine Below.alloc ?_ ?_ _) | (with_reducible refine Below.drew ?_) | (with_reducible refine below_drewN ?_ _) | (with_reducible refine Below.setCell ?_ ?_ _) | (with_reducible refine Below.trans ?_ (Below.mono (by with_reducible assumption) ?_)) | omega | (simp only [ZA, ZS, ZD, ZN]; omega) | go_size))⟩
          | some z =>
            have mz := mk_z ok tt (by omega) hz
            rw [hz] at KM
            obtain ⟨l, R⟩ := z
            have n1 := mz.n1
            have n2 := mz.n2
            dsimp only at n1 n2
            have hcode : (mkC l.length R (topL r l)).code = 0 := Chn.ok_iff.2 (mkC_ok n1 n2)
            have hsh : Short (mkC l.length R (topL r l)).nm (mkC l.length R (topL r l)).R := mkC_short mz.sz
            have hnm : (mkC l.length R (topL r l)).nm ≤ 1000000 := by
              show (prs l.length R).length ≤ _
              have h1 := prs_len (n := l.length) (R := R)
              have h2 := Nat.mul_le_mul n2 n2
              omega
            have hrch : ∀ i, i < l.length → Rch (mkC l.length R (topL r l)) 0 i := mkC_rch mz.rch
            have KRe0 := Lib.hid (fun (W : World) (AM AD : Option Addr) (cm cd : Nat) (hci : ChI W W.heap.size AM cm AD cd (mkC l.length R (topL r l))) => reach_any (s := 0) hci hnm hsh)
            have KCk0 := Lib.hid (fun (W : World) (AM AD : Option Addr) (cm cd : Nat) (hci : ChI W W.heap.size AM cm AD cd (mkC l.length R (topL r l))) => chCheck hci hnm hsh)
            have HIN := Lib.hid (fun (W : World) (b0 cm cd : Nat) (AM AD : Option Addr) (h1 : OwPr W b0 AM cm (prs l.length R) R) (h2 : OwVb W b0 AD cd l.length (topL r l)) hb => mkC_in h1 h2 hb)
            have KM2 : Hid (Calls Tryz.prog 12 #[.agg #[.int .i64 r.v, .slice AG r.ng cg, .int .i64 r.top, .slice AF r.nf cf, .slice AR r.nr cr]] w3 fun e w' => (∃ AM cm AD cd As cs, e = .returned (.tuple #[cv (l.length : Nat) 0 AM (prs l.length R).length cm AD l.length cd, .slice As l.length cs, .nilIface]) ∧ OwPr w' w3.heap.size AM cm (prs l.length R) R ∧ OwVb w' w3.heap.size AD cd l.length (topL r l) ∧ OwS w' w3.heap.size As cs r.ng l) ∧ Below w3.heap.size w3 w') := KM.out
            have KTop : Hid (∀ (W : World) (k : Nat) (s : DS) (B : Option Addr) (d : Nat), Below w.heap.size w W → l[k]? = some s → RdJ W B r.ng (fun i => s.2.getD i 0) → Calls Tryz.prog 19 #[.agg #[.int .i64 r.v, .slice AG r.ng cg, .int .i64 r.top, .slice AF r.nf cf, .slice AR r.nr cr], .agg #[.int .i64 ((s.1 : Nat) : Int), .slice B r.ng d]] W fun e w' => e = .returned (.tuple #[.bool (topL r l k), .nilIface]) ∧ Below W.heap.size W w') := fun W k s B d hW hk rj => by
              have hm : s ∈ l := List.mem_of_getElem? hk
              have := dtop_ok (cg := cg) (cf := cf) (cr := cr) (cm := d) (HH.out.below hW) hs hc (mz.st s hm) rj
              have e : topL r l k = vaD r.dy s.1 s.2 r.ng r.top.toNat := by
                unfold topL
                rw [List.getD_eq_getElem?_getD, hk]
                rfl
              rw [e]
              exact this
            have HND : Hid (∀ (j k : Nat) (s t : DS), j < k → l[j]? = some s → l[k]? = some t → ¬ (((s.1 : Nat) : Int) = ((t.1 : Nat) : Int) ∧ r.ng = r.ng ∧ ∀ i, i < r.ng → s.2.getD i 0 = t.2.getD i 0)) := fun j k s t hjk hj hk hh => by
              have e := ds_ext (mz.st s (List.mem_of_getElem? hj)).l (mz.st t (List.mem_of_getElem? hk)).l hh.1 hh.2.2
              subst e
              obtain ⟨h1, e1⟩ := List.getElem?_eq_some_iff.1 hj
              obtain ⟨h2, e2⟩ := List.getElem?_eq_some_iff.1 hk
              have := (List.getElem_inj mz.nd).1 (e1.trans e2.symm)
              omega
            have hng : r.ng ≤ 1000000 := by have := hlt.ng; omega
            have HCODE := Lib.hid hcode
            have HRCH := Lib.hid hrch
            clear KM hz tt ok hc hs hsl hlt HH HT mz hcode hsh hnm hrch
            (go_wp2_with fail; (with_reducible refine (KM2.out).mono ?_); rintro e w4 ⟨⟨AM, cm, AD, cd, As, cs, rfl, oP, oV, oS⟩, hb4⟩; have hb4z := Below.size hb4; (try simp only [ZA, ZS, ZD, ZN] at hb4z); have hb4c0 := fun o => below_at hb4 (w.heap.size) o (by first | omega | (simp only [ZA, ZS, ZD, ZN]; omega)); have hb4f0 := fun o => below_fr hb4 (w.heap.size) o (by first | omega | (simp only [ZA, ZS, ZD, ZN]; omega)))
            have hB4 : Below w.heap.size w w4 := hB3.trans (hb4.mono hB3.size)
            have hz4 := hb4.size
            have hci := HIN.out _ _ _ _ _ _ oP oV hz4
            have KRe : Hid (∀ W, Below w4.heap.size w4 W → Calls Tryz.prog 17 #[cv (l.length : Nat) 0 AM (prs l.length R).length cm AD l.length cd, .int .i64 0] W fun e w' => (∃ g, e = .returned (.tuple #[.slice (some ⟨g, 0, none⟩) l.length l.length, .nilIface]) ∧ OwVb w' W.heap.size (some ⟨g, 0, none⟩) l.length l.length (fun _ => true)) ∧ Below W.heap.size W w') := fun W hW => by
              refine (KRe0.out _ _ _ _ _ (hci.below hW)).mono fun e w' ⟨h1, h2⟩ => ⟨?_, h2⟩
              unfold RetRc at h1
              rw [if_neg (fun hh => hh HCODE.out), if_neg (by show ¬ ((0 : Int) < 0 ∨ (l.length : Int) ≤ 0); omega)] at h1
              obtain ⟨g, o, he, ho, hr⟩ := h1
              exact ⟨g, he, OwVb.congr ho fun i hi => (hr i hi).2 (HRCH.out i hi)⟩
            have KCk : Hid (∀ W, Below w4.heap.size w4 W → Calls Tryz.prog 18 #[cv (l.length : Nat) 0 AM (prs l.length R).length cm AD l.length cd] W fun e w' => e = .returned .nilIface ∧ Below W.heap.size W w') := fun W hW => by
              have := KCk0.out _ _ _ _ _ (hci.below hW)
              rw [HCODE.out, errM_0] at this
              exact this
            generalize (prs l.length R).length = m at *
            have u0 := (hb4c0 0).trans y0
            have u1 := (hb4c0 1).trans y1
            have u2 := (hb4c0 2).trans y2
            have u3 := (hb4c0 3).trans y3
            have u4 := (hb4c0 4).trans y4
            obtain ⟨gD, rfl, -, hgD⟩ := oV.form (by omega)
            have HV := Lib.hid oV
            have HSt := Lib.hid oS
            have hw4 : w.heap.size < w4.heap.size := by omega
            clear KM2 KRe0 KCk0 HIN HCODE HRCH hci oP oV oS hb4 hb4c0 hb4f0 y0 y1 y2 y3 y4
            have hAL : ∀ ob, Below w4.heap.size w4 (w4.alloc ob) := fun ob => (Below.refl _ _).alloc (Nat.le_refl _) ob
            go_wp2_with fail
            refine (KRe.out _ (hAL _)).mono ?_
            rintro e w5 ⟨⟨gR, rfl, oR⟩, hb5⟩
            have hb45 : Below w4.heap.size w4 w5 := (by have z0 := Below.size hb5; (try simp only [ZA, ZS, ZD, ZN] at z0 ⊢; skip); repeat' (first | (with_reducible exact Below.refl _ _) | (with_reducible assumption) | (with_reducible refine Below.alloc ?_ ?_ _) | (with_reducible refine Below.drew ?_) | (with_reducible refine below_drewN ?_ _) | (with_reducible refine Below.setCell ?_ ?_ _) | (with_reducible refine Below.trans ?_ (Below.mono (by with_reducible assumption) ?_)) | omega | (simp only [ZA, ZS, ZD, ZN]; omega) | go_size))
            have b0 := (below_at hb5 w4.heap.size 0 (by simp)).trans ((World.cell?_alloc_at _ _ _ _ rfl).trans rfl : _ = some (.int .i64 ((l.length : Nat) : Int)))
            have b1 := (below_at hb5 w4.heap.size 1 (by simp)).trans ((World.cell?_alloc_at _ _ _ _ rfl).trans rfl : _ = some (.int .i64 0))
            have b2 := (below_at hb5 w4.heap.size 2 (by simp)).trans ((World.cell?_alloc_at _ _ _ _ rfl).trans rfl : _ = some (.slice AM m cm))
            have b3 := (below_at hb5 w4.heap.size 3 (by simp)).trans ((World.cell?_alloc_at _ _ _ _ rfl).trans rfl : _ = some (.slice (some ⟨gD, 0, none⟩) l.length cd))
            have hz5 : w4.heap.size < w5.heap.size := by have := hb5.size; simp at this; omega
            have KC := Lib.hid (KCk.out w5 hb45)
            have HR5 := Lib.hid oR
            clear hb5 oR KRe KCk
            go_wp2_with fail
            refine KC.out.mono ?_
            rintro e w6 ⟨rfl, hb6⟩
            have hb46 : Below w4.heap.size w4 w6 := hb45.trans (hb6.mono (by omega))
            have hB6 : Below w.heap.size w w6 := hB4.trans (hb46.mono (by omega))
            have d0 := (below_at hb6 w4.heap.size 0 hz5).trans b0
            have d1 := (below_at hb6 w4.heap.size 1 hz5).trans b1
            have d3 := (below_at hb6 w4.heap.size 3 hz5).trans b3
            have t0 := (below_at hb46 w.heap.size 0 hw4).trans u0
            have t1 := (below_at hb46 w.heap.size 1 hw4).trans u1
            have t2 := (below_at hb46 w.heap.size 2 hw4).trans u2
            have t3 := (below_at hb46 w.heap.size 3 hw4).trans u3
            have t4 := (below_at hb46 w.heap.size 4 hw4).trans u4
            have hz6 : w4.heap.size < w6.heap.size := by have := hb6.size; omega
            have HR6 := Lib.hid (HR5.out.below hb6)
            have HV6 := Lib.hid (HV.out.below hb46)
            have HS6 := Lib.hid (HSt.out.below hb46)
            have HB6 := Lib.hid hB6
            have e2 : ((l.length : Int) != (l.length : Int)) = false := by simp
            clear u0 u1 u2 u3 u4 b0 b1 b2 b3 hb45 hb46 hB6 hb6 KC HR5 HV HSt hB3 hB4 hAL
            go_wp2_with fail
            go_loopw [78] (fun i wr => ∃ k : Nat, k ≤ l.length ∧ i = .int .i64 (k : Int) ∧ Below w6.heap.size w6 wr) (fun i _ => l.length - (intOf i).toNat)
            case atStart => exact ⟨0, Nat.zero_le _, rfl, Below.refl _ _⟩
            case round =>
              obtain ⟨k, hk, rfl, hb⟩ := hrel
              obtain ⟨wo, rfl⟩ : ∃ wo : World, wo = wr := ⟨_, rfl⟩
              have hbz := hb.size
              have hbw : Below w.heap.size w wo := HB6.out.trans (hb.mono (by omega))
              by_cases hkl : k < l.length
              · obtain ⟨s, hse⟩ : ∃ s, l[k] = s := ⟨_, rfl⟩
                have hsk : l[k]? = some s := by rw [List.getElem?_eq_getElem hkl, hse]
                have oS := HS6.out.below hb
                obtain ⟨gS, Bs, ds, eA, -, hgS, c0, c1, rk⟩ := oS.at_ hkl
                rw [hse] at c0 rk
                subst eA
                have hcap : l.length ≤ cs := by
                  obtain ⟨V, -, ho⟩ := oS
                  obtain ⟨A', c', e, h2⟩ := own_form ho
                  injection e with _ _ e3
                  omega
                have q0 := (below_at hb w.heap.size 0 (by omega)).trans t0
                have q1 := (below_at hb w.heap.size 1 (by omega)).trans t1
                have q2 := (below_at hb w.heap.size 2 (by omega)).trans t2
                have q3 := (below_at hb w.heap.size 3 (by omega)).trans t3
                have q4 := (below_at hb w.heap.size 4 (by omega)).trans t4
                have hRk := (HR6.out.below hb).at_ hkl
                have hDk := (HV6.out.below hb).at_ hkl
                have x3 := (below_at hb w4.heap.size 3 (by omega)).trans d3
                have hgR : gR < wo.heap.size := lt_of_cell hRk
                have hgD6 : gD < wo.heap.size := lt_of_cell hDk
                have hk0 : (0 : Int) ≤ (k : Int) := by omega
                have hki : (k : Int) < (l.length : Int) := by omega
                have KT := Lib.hid (fun W (hX : Below wo.heap.size wo W) => KTop.out W k s Bs ds (hbw.trans (hX.mono hbw.size)) hsk ((rk.below hX).rj))
                have HSE := Lib.hid hsk
                have HRK := Lib.hid rk
                have HOS := Lib.hid oS
                have HBW := Lib.hid hb
                have ne1 : ¬ (w.heap.size = wo.heap.size) := by omega
                have ne2 : ¬ (wo.heap.size = w.heap.size) := by omega
                obtain ⟨F, hF⟩ : ∃ F : Int, F = ((s.1 : Nat) : Int) := ⟨_, rfl⟩
                rw [← hF] at c0
                simp only [← hF] at KT
                have HF := Lib.hid hF
                have e5 : ∀ b : Bool, (b != b) = false := fun b => by cases b <;> rfl
                clear hse hsk oS rk hb hF
                have hww : w.heap.size < wo.heap.size := by omega
                (have olc := fun o i => below_at ((Below.refl wo.heap.size wo).alloc (Nat.le_refl _) o) (w.heap.size) i (by omega)); (have olf := fun o i => below_fr ((Below.refl wo.heap.size wo).alloc (Nat.le_refl _) o) (w.heap.size) i (by omega))
                go_wp2_with fail
                refine (KT.out _ (by (skip); repeat' (first | (with_reducible exact Below.refl _ _) | (with_reducible assumption) | (with_reducible refine Below.alloc ?_ ?_ _) | (with_reducible refine Below.drew ?_) | (with_reducible refine below_drewN ?_ _) | (with_reducible refine Below.setCell ?_ ?_ _) | (with_reducible refine Below.trans ?_ (Below.mono (by with_reducible assumption) ?_)) | omega | (simp only [ZA, ZS, ZD, ZN]; omega) | go_size))).mono ?_
                rintro e w7 ⟨rfl, hb7⟩
                have hb97 : Below wo.heap.size wo w7 := (by have z0 := Below.size hb7; (try simp only [ZA, ZS, ZD, ZN] at z0 ⊢; skip); repeat' (first | (with_reducible exact Below.refl _ _) | (with_reducible assumption) | (with_reducible refine Below.alloc ?_ ?_ _) | (with_reducible refine Below.drew ?_) | (with_reducible refine below_drewN ?_ _) | (with_reducible refine Below.setCell ?_ ?_ _) | (with_reducible refine Below.trans ?_ (Below.mono (by with_reducible assumption) ?_)) | omega | (simp only [ZA, ZS, ZD, ZN]; omega) | go_size))
                have v1 := (below_at hb97 gR k hgR).trans hRk
                have v2 := (below_at hb97 gD k hgD6).trans hDk
                have v3 := (below_at hb97 w4.heap.size 3 (by omega)).trans x3
                have e6 := e5 (topL r l k)
                have z0 := (below_at hb7 wo.heap.size 0 (by simp)).trans ((World.cell?_alloc_at _ _ _ _ rfl).trans rfl : _ = some (.int .i64 F))
                have z1 := (below_at hb7 wo.heap.size 1 (by simp)).trans ((World.cell?_alloc_at _ _ _ _ rfl).trans rfl : _ = some (.slice Bs r.ng ds))
                have hz7 : wo.heap.size < w7.heap.size := by have := hb7.size; simp at this; omega
                have HB7 := Lib.hid hb97
                have hkc : (k : Int) ≤ (cs : Int) := by omega
                clear hb7 hb97 q0 q1 q2 q3 q4 hRk hDk x3 c0 c1 KT
                go_wp2_with fail
                have hb47 : Below w6.heap.size w6 w7 := HBW.out.trans (HB7.out.mono (by omega))
                have HB67 := Lib.hid hb47
                clear hb47 v1 v2 v3 e6
                go_loopw [111] (fun i wr => ∃ j : Nat, j ≤ k ∧ i = .int .i64 (j : Int) ∧ Below w7.heap.size w7 wr) (fun i _ => k - (intOf i).toNat)
                case atStart => exact ⟨0, Nat.zero_le _, rfl, Below.refl _ _⟩
                case round =>
                  obtain ⟨j, hj, rfl, hb⟩ := hrel
                  obtain ⟨wi, rfl⟩ : ∃ wi : World, wi = wr := ⟨_, rfl⟩
                  have hbz7 := hb.size
                  have hb6i : Below w6.heap.size w6 wi := HB67.out.trans (hb.mono (by omega))
                  by_cases hjk : j < k
                  · have hjl : j < l.length := by omega
                    obtain ⟨t, hte⟩ : ∃ t, l[j] = t := ⟨_, rfl⟩
                    have htk : l[j]? = some t := by rw [List.getElem?_eq_getElem hjl, hte]
                    obtain ⟨gS', Bt, dt, eA, -, hgS', c0, c1, rkt⟩ := ((HS6.out.below hb6i)).at_ hjl
                    cases eA
                    rw [hte] at c0 rkt
                    have zz0 := (below_at hb wo.heap.size 0 hz7).trans z0
                    have zz1 := (below_at hb wo.heap.size 1 hz7).trans z1
                    have rks := HRK.out.below (HB7.out.trans (hb.mono (by omega)))
                    have KSs := Lib.hid (fun W (hX : Below wi.heap.size wi W) => sameS_any (F := ((t.1 : Nat) : Int)) (G := ((s.1 : Nat) : Int)) (c := dt) (d := ds) ((rkt.below hX).rj) ((rks.below hX).rj) hng)
                    have hnn := HND.out j k t s hjk htk HSE.out
                    rw [← HF.out] at KSs hnn
                    obtain ⟨G, hG⟩ : ∃ G : Int, G = ((t.1 : Nat) : Int) := ⟨_, rfl⟩
                    rw [← hG] at c0 KSs hnn
                    have HNN := Lib.hid hnn
                    have hj0 : (0 : Int) ≤ (j : Int) := by omega
                    have hji : (j : Int) < (k : Int) := by omega
                    have HBi := Lib.hid hb
                    have hwoi : wo.heap.size < wi.heap.size := by omega
                    clear hte htk rkt rks hG hnn hb
                    (have onc := fun o i => below_at ((Below.refl wi.heap.size wi).alloc (Nat.le_refl _) o) (wo.heap.size) i (by omega)); (have onf := fun o i => below_fr ((Below.refl wi.heap.size wi).alloc (Nat.le_refl _) o) (wo.heap.size) i (by omega))
                    go_wp2_with fail
                    refine (KSs.out _ (by (skip); repeat' (first | (with_reducible exact Below.refl _ _) | (with_reducible assumption) | (with_reducible refine Below.alloc ?_ ?_ _) | (with_reducible refine Below.drew ?_) | (with_reducible refine below_drewN ?_ _) | (with_reducible refine Below.setCell ?_ ?_ _) | (with_reducible refine Below.trans ?_ (Below.mono (by with_reducible assumption) ?_)) | omega | (simp only [ZA, ZS, ZD, ZN]; omega) | go_size))).mono ?_
                    rintro e w8 ⟨⟨bb, rfl, hbb⟩, hb8⟩
                    have hbF : Below w7.heap.size w7 w8 := HBi.out.trans ((show Below wi.heap.size wi w8 from (by have z0 := Below.size hb8; (try simp only [ZA, ZS, ZD, ZN] at z0 ⊢; skip); repeat' (first | (with_reducible exact Below.refl _ _) | (with_reducible assumption) | (with_reducible refine Below.alloc ?_ ?_ _) | (with_reducible refine Below.drew ?_) | (with_reducible refine below_drewN ?_ _) | (with_reducible refine Below.setCell ?_ ?_ _) | (with_reducible refine Below.trans ?_ (Below.mono (by with_reducible assumption) ?_)) | omega | (simp only [ZA, ZS, ZD, ZN]; omega) | go_size))).mono hbz7)
                    have hbf : bb = false := by
                      cases bb with
                      | false => rfl
                      | true => exact absurd (hbb.1 rfl) HNN.out
                    subst hbf
                    clear hbb hb8 KSs
                    go_wp2_with fail
                    go_roundw
                    case rel => exact ⟨j + 1, by omega, by go_num, hbF⟩
                    case measure => simp [intOf]; omega
                  · obtain rfl : j = k := by omega
                    go_wp2_with fail
                    go_roundw
                    case rel => exact ⟨j + 1, by omega, by go_num, hb6i⟩
                    case measure => simp [intOf]; omega
              · obtain rfl : k = l.length := by omega
                go_wp2_with fail
                go_ret
                exact ⟨rfl, hbw⟩
        · have KM := Lib.hid (make_err (cg := cg) (cf := cf) (cr := cr) (HH.out.below hB3) hs hc)
          rw [errM_n hc] at KM
          unfold dyv at KM
          clear hc hs hsl hlt HH HT
          (go_wp2_with fail; (with_reducible refine (KM.out).mono ?_); rintro e w4 ⟨rfl, hb4⟩; have hb4z := Below.size hb4; (try simp only [ZA, ZS, ZD, ZN] at hb4z))
          go_wp2
          go_ret
          exact ⟨rfl, (by have z0 := Below.size hB3; have z1 := Below.size hb4; (try simp only [ZA, ZS, ZD, ZN] at z0 z1 ⊢; skip); repeat' (first | (with_reducible exact Below.refl _ _) | (with_reducible assumption) | (with_reducible refine Below.alloc ?_ ?_ _) | (with_reducible refine Below.drew ?_) | (with_reducible refine below_drewN ?_ _) | (with_reducible refine Below.setCell ?_ ?_ _) | (with_reducible refine Below.trans ?_ (Below.mono (by with_reducible assumption) ?_)) | omega | (simp only [ZA, ZS, ZD, ZN]; omega) | go_size))⟩
end Go.Proofs.YtoiopnmphbnjaaaGreatDoor
