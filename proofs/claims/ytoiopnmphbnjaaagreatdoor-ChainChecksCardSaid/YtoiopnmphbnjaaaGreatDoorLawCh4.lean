/- Contracts of functions and lemmas, used by the proofs of the given statements. No condition beyond those that each lemma names. -/
import Derived.Test.YtoiopnmphbnjaaaGreatDoorJSumRw
import Derived.Test.YtoiopnmphbnjaaaGreatDoorJBaseEq
import Derived.Test.YtoiopnmphbnjaaaGreatDoorJDynEx
import Derived.Test.YtoiopnmphbnjaaaGreatDoorReaW
import Derived.Test.YtoiopnmphbnjaaaGreatDoorJRxE
import Derived.Test.YtoiopnmphbnjaaaGreatDoorJRxM
import Derived.Test.YtoiopnmphbnjaaaGreatDoorBis
namespace Go.Proofs.YtoiopnmphbnjaaaGreatDoor
open Go.RowKit
set_option linter.unusedSimpArgs false
set_option linter.unusedVariables false
set_option maxRecDepth 20000
attribute [local irreducible] nv wp win plainB validR valR canR mvE chkM codeC exK qK Chn.mvs rch49
/-! ## ChainChecks -/
/-- what Moves has answered: nothing and the error, or the moves -/
def PMv (c : Chn) (s : Int) (W : World) (A : Option Addr) (n cp : Nat) (e : Value) : Prop :=
  ((s < 0 ∨ (c.nd : Int) ≤ s) ∧ n = 0 ∧ e = .iface 80 (.int .i64 10)) ∨ (¬ (s < 0 ∨ (c.nd : Int) ≤ s) ∧ n = (c.mvs s.toNat c.nm).length ∧ e = .nilIface ∧ ∃ b, OwT W b A cp s.toNat (c.mvs s.toNat c.nm))
theorem PMv.below {c : Chn} {s : Int} {W W' : World} {A : Option Addr} {n cp : Nat} {e : Value} (h : PMv c s W A n cp e) (hb : Below W.heap.size W W') : PMv c s W' A n cp e := by
  rcases h with h | ⟨h1, h2, h3, b, h4⟩
  · exact .inl h
  · exact .inr ⟨h1, h2, h3, b, OwM.below h4 hb⟩
/-- what Reach has answered -/
def PRc (c : Chn) (s : Int) (W : World) (A : Option Addr) (n cp : Nat) (e : Value) : Prop :=
  ((s < 0 ∨ (c.nd : Int) ≤ s) ∧ n = 0 ∧ e = .iface 80 (.int .i64 10)) ∨ (¬ (s < 0 ∨ (c.nd : Int) ≤ s) ∧ n = c.nd ∧ e = .nilIface ∧ ∃ b o, OwVb W b A cp c.nd o ∧ ∀ i, i < c.nd → (o i = true ↔ Rch c s.toNat i))
theorem PRc.below {c : Chn} {s : Int} {W W' : World} {A : Option Addr} {n cp : Nat} {e : Value} (h : PRc c s W A n cp e) (hb : Below W.heap.size W W') : PRc c s W' A n cp e := by
  rcases h with h | ⟨h1, h2, h3, b, o, h4, h5⟩
  · exact .inl h
  · exact .inr ⟨h1, h2, h3, b, o, h4.below hb, h5⟩
set_option maxHeartbeats 32000000 in
theorem chainChecks_law {w : World} {AM AD : Option Addr} {cm cd : Nat} {c : Chn} {s : Int} (h : ChI w w.heap.size AM cm AD cd c) (hmx : c.nm ≤ maxLen) (hws : IntKind.i64.wrap s = s) (ht : TabW w) :
    Calls Tryz.prog 7 #[cv c.st c.sr AM c.nm cm AD c.nd cd, .int .i64 s] w fun e w' => e = .returned (.bool true) ∧ Below w.heap.size w w' := by
  have KA := Lib.hid (fun W (hb : Below w.heap.size w W) => awake49_any (ht.below hb))
  have KL := Lib.hid (fun W (hb : Below w.heap.size w W) => light49_any (h.below hb) hmx)
  have HI := Lib.hid (fun W (hb : Below w.heap.size w W) => h.below hb)
  have HOK9 := Lib.hid (fun k (hk : k < c.nm) => h.ok9 hk)
  clear h ht
  go_enter Tryz.func7, Tryz.ntmps7
  (go_wp2_with fail; (with_reducible refine (KA.out _ (by (skip); repeat' (first | (with_reducible exact Below.refl _ _) | (with_reducible assumption) | (with_reducible refine Below.alloc ?_ ?_ _) | (with_reducible refine Below.drew ?_) | (with_reducible refine below_drewN ?_ _) | (with_reducible refine Below.setCell ?_ ?_ _) | (with_reducible refine Below.trans ?_ (Below.mono (by with_reducible assumption) ?_)) | omega | (simp only [ZA, ZS, ZD, ZN]; omega) | go_size))).mono ?_); rintro e w1 ⟨rfl, hb1⟩; have hb1z := Below.size hb1; (try simp only [ZA, ZS, ZD, ZN] at hb1z); have hb1c0 := fun o => below_at hb1 (w.heap.size) o (by first | omega | (simp only [ZA, ZS, ZD, ZN]; omega)); have hb1f0 := fun o => below_fr hb1 (w.heap.size) o (by first | omega | (simp only [ZA, ZS, ZD, ZN]; omega)))
  have hB1 : Below w.heap.size w w1 := (by have z0 := Below.size hb1; (try simp only [ZA, ZS, ZD, ZN] at z0 ⊢; skip); repeat' (first | (with_reducible exact Below.refl _ _) | (with_reducible assumption) | (with_reducible refine Below.alloc ?_ ?_ _) | (with_reducible refine Below.drew ?_) | (with_reducible refine below_drewN ?_ _) | (with_reducible refine Below.setCell ?_ ?_ _) | (with_reducible refine Below.trans ?_ (Below.mono (by with_reducible assumption) ?_)) | omega | (simp only [ZA, ZS, ZD, ZN]; omega) | go_size))
  (go_wp2_with fail; (with_reducible refine (KL.out _ hB1).mono ?_); rintro e w2 ⟨⟨bb, rfl, hbb⟩, hb2⟩; have hb2z := Below.size hb2; (try simp only [ZA, ZS, ZD, ZN] at hb2z); have hb2c0 := fun o => below_at hb2 (w.heap.size) o (by first | omega | (simp only [ZA, ZS, ZD, ZN]; omega)); have hb2f0 := fun o => below_fr hb2 (w.heap.size) o (by first | omega | (simp only [ZA, ZS, ZD, ZN]; omega)))
  have hB2 : Below w.heap.size w w2 := hB1.trans (hb2.mono hB1.size)
  cases bb with
  | false =>
    clear hbb
    (go_wp2_with fail; (with_reducible refine (KA.out _ hB2).mono ?_); rintro e w3 ⟨rfl, hb3⟩; have hb3z := Below.size hb3; (try simp only [ZA, ZS, ZD, ZN] at hb3z))
    go_wp2
    go_ret
    exact ⟨rfl, hB2.trans (hb3.mono hB2.size)⟩
  | true =>
    have hlt := hbb (by trivial)
    clear hbb KL
    have hn6 : c.nm ≤ 1000000 := by have := hlt.nm; omega
    have hsh : Short c.nm c.R := fun k hk => by have := (hlt.br k hk).two; omega
    have hsz : c.Ok → SizC c 640 := fun ok => hlt.siz ok HOK9.out
    have KR := Lib.hid (fun W (hb : Below w.heap.size w W) => rows_any (HI.out W hb) hsz hn6 hsh)
    have KX := Lib.hid (fun W (hb : Below w.heap.size w W) => Exit_any (HI.out W hb) hsz hn6 hsh)
    have KM := Lib.hid (fun W (hb : Below w.heap.size w W) => moves_any (s := s) (HI.out W hb) hn6 hsh)
    have KE := Lib.hid (fun W (hb : Below w.heap.size w W) => reach_any (s := s) (HI.out W hb) hn6 hsh)
    have KC := Lib.hid (fun W (hb : Below w.heap.size w W) => chCheck (HI.out W hb) hn6 hsh)
    have KRC := Lib.hid (fun W (hb : Below w.heap.size w W) => rchCheck (HI.out W hb) hn6 hsh)
    have hw2 : w.heap.size < w2.heap.size := by have := hb1.size; have := hb2.size; simp at *; omega
    have y0 : w2.cell? ⟨w.heap.size, 0, none⟩ = some (.int .i64 c.st) := by rw [hb2c0, hb1c0]; simp
    have y1 : w2.cell? ⟨w.heap.size, 1, none⟩ = some (.int .i64 c.sr) := by rw [hb2c0, hb1c0]; simp
    have y2 : w2.cell? ⟨w.heap.size, 2, none⟩ = some (.slice AM c.nm cm) := by rw [hb2c0, hb1c0]; simp
    have y3 : w2.cell? ⟨w.heap.size, 3, none⟩ = some (.slice AD c.nd cd) := by rw [hb2c0, hb1c0]; simp
    clear hb1c0 hb2c0 hb1f0 hb2f0 hb1 hb2 hB1
    by_cases h0 : c.code = 0
    · have ok := Chn.ok_iff.1 h0
      have hn1 := ok.lo
      have hn2 := ok.hi
      have hst := ok.st
      have siz := hsz ok
      have hall := hlt.all ok HOK9.out
      have HSX : Hid (∀ i, i < c.nd → (can c.ex i).2.1.length ≤ 1000000 ∧ (can c.ex i).2.2.length ≤ 1000000) := fun i _ => by
        have := Sz_canR (hall.1 i c.nm (Nat.le_refl _))
        exact ⟨Nat.le_trans this.1 (by omega), Nat.le_trans this.2 (by omega)⟩
      have HSQ : Hid (∀ i j, j < c.nd → (can (c.Q i) j).2.1.length ≤ 1000000 ∧ (can (c.Q i) j).2.2.length ≤ 1000000) := fun i j _ => by
        have := Sz_canR (hall.2.1 i j c.nm (Nat.le_refl _))
        exact ⟨Nat.le_trans this.1 (by omega), Nat.le_trans this.2 (by omega)⟩
      have KR3 : Hid (∀ W, Below w.heap.size w W → Calls Tryz.prog 29 #[cv (c.nd : Nat) c.sr AM c.nm cm AD c.nd cd] W fun e w' => (∃ A cp, e = .returned (.tuple #[.slice A c.nd cp, .nilIface]) ∧ MatI w' w'.heap.size A c.nd (fun _ => c.nd) (fun i => can (c.Q i))) ∧ Below W.heap.size W w') := fun W hb => by
        have := KR.out W hb
        rw [hst] at this
        exact this.mono fun e w' ⟨h1, h2⟩ => ⟨by unfold RetRw at h1; rw [if_pos h0] at h1; exact h1, h2⟩
      have KX3 : Hid (∀ W, Below w.heap.size w W → Calls Tryz.prog 30 #[cv (c.nd : Nat) c.sr AM c.nm cm AD c.nd cd] W fun e w' => (∃ A cp, e = .returned (.tuple #[.slice A c.nd cp, .nilIface]) ∧ RowA w' 0 A c.nd (can c.ex)) ∧ Below W.heap.size W w') := fun W hb => by
        have := KX.out W hb
        rw [hst] at this
        refine this.mono fun e w' ⟨h1, h2⟩ => ⟨?_, h2⟩
        unfold RetVe at h1
        rw [if_pos h0] at h1
        obtain ⟨A, cp, he, ho⟩ := h1
        exact ⟨A, cp, he, ho.ra⟩
      have KM3 : Hid (∀ W, Below w.heap.size w W → Calls Tryz.prog 26 #[cv (c.nd : Nat) c.sr AM c.nm cm AD c.nd cd, .int .i64 s] W fun e w' => (∃ A n cp em, e = .returned (.tuple #[.slice A n cp, em]) ∧ PMv c s w' A n cp em) ∧ Below W.heap.size W w') := fun W hb => by
        have := KM.out W hb
        rw [hst] at this
        refine this.mono fun e w' ⟨h1, h2⟩ => ⟨?_, h2⟩
        unfold RetMv at h1
        rw [if_neg (by omega), hst] at h1
        by_cases hs : s < 0 ∨ (c.nd : Int) ≤ s
        · rw [if_pos hs] at h1
          exact ⟨_, _, _, _, h1, .inl ⟨hs, rfl, rfl⟩⟩
        · rw [if_neg hs] at h1
          obtain ⟨A, cp, he, ho⟩ := h1
          exact ⟨_, _, _, _, he, .inr ⟨hs, rfl, rfl, _, ho⟩⟩
      have KE3 : Hid (∀ W, Below w.heap.size w W → Calls Tryz.prog 17 #[cv (c.nd : Nat) c.sr AM c.nm cm AD c.nd cd, .int .i64 s] W fun e w' => (∃ A n cp em, e = .returned (.tuple #[.slice A n cp, em]) ∧ PRc c s w' A n cp em) ∧ Below W.heap.size W w') := fun W hb => by
        have := KE.out W hb
        rw [hst] at this
        refine this.mono fun e w' ⟨h1, h2⟩ => ⟨?_, h2⟩
        unfold RetRc at h1
        rw [if_neg (by omega), hst] at h1
        by_cases hs : s < 0 ∨ (c.nd : Int) ≤ s
        · rw [if_pos hs] at h1
          exact ⟨_, _, _, _, h1, .inl ⟨hs, rfl, rfl⟩⟩
        · rw [if_neg hs] at h1
          obtain ⟨g, o, he, ho, hr⟩ := h1
          exact ⟨_, _, _, _, he, .inr ⟨hs, rfl, rfl, _, o, ho, hr⟩⟩
      have KC3 : Hid (∀ W, Below w.heap.size w W → Calls Tryz.prog 18 #[cv (c.nd : Nat) c.sr AM c.nm cm AD c.nd cd] W fun e w' => e = .returned .nilIface ∧ Below W.heap.size W w') := fun W hb => by
        have := KC.out W hb
        rw [h0, hst, errM_0] at this
        exact this
      have KRC3 : Hid (∀ W, Below w.heap.size w W → Calls Tryz.prog 32 #[cv (c.nd : Nat) c.sr AM c.nm cm AD c.nd cd] W fun e w' => e = .returned (.int .i64 0) ∧ Below W.heap.size W w') := fun W hb => by
        have := KRC.out W hb
        rw [h0, hst] at this
        exact this
      have KRR : Hid (∀ W, Below w.heap.size w W → Calls Tryz.prog 33 #[cv (c.nd : Nat) c.sr AM c.nm cm AD c.nd cd] W fun e w' => (∃ A cp, e = .returned (.slice A c.nd cp) ∧ MatI w' w'.heap.size A c.nd (fun _ => c.nd) (fun i => can (c.Q i))) ∧ Below W.heap.size W w') := fun W hb => by
        have := rrows49_any (HI.out W hb) ok siz
        rw [hst] at this
        exact this
      have KRX : Hid (∀ W, Below w.heap.size w W → Calls Tryz.prog 35 #[cv (c.nd : Nat) c.sr AM c.nm cm AD c.nd cd] W fun e w' => (∃ A cp, e = .returned (.slice A c.nd cp) ∧ RowA w' 0 A c.nd (can c.ex)) ∧ Below W.heap.size W w') := fun W hb => by
        have := rexit49_any (HI.out W hb) ok siz
        rw [hst] at this
        refine this.mono fun e w' ⟨h1, h2⟩ => ⟨?_, h2⟩
        unfold RetW at h1
        obtain ⟨A, cp, he, ho⟩ := h1
        exact ⟨A, cp, he, ho.1.ra⟩
      have KRM : Hid (∀ W (u : Nat), Below w.heap.size w W → Calls Tryz.prog 38 #[cv (c.nd : Nat) c.sr AM c.nm cm AD c.nd cd, .int .i64 (u : Int)] W fun e w' => (∃ A cp, e = .returned (.slice A (c.mvs u c.nm).length cp) ∧ ∃ b, OwT w' b A cp u (c.mvs u c.nm)) ∧ Below W.heap.size W w') := fun W u hb => by
        have := rmoves49_any (u := u) (HI.out W hb) ok hn6
        rw [hst] at this
        exact this.mono fun e w' ⟨⟨A, cp, h1, h3⟩, h2⟩ => ⟨⟨A, cp, h1, _, h3⟩, h2⟩
      have KRE : Hid (∀ W (u : Nat), u < c.nd → Below w.heap.size w W → Calls Tryz.prog 40 #[cv (c.nd : Nat) c.sr AM c.nm cm AD c.nd cd, .int .i64 (u : Int)] W fun e w' => (∃ g, e = .returned (.slice (some ⟨g, 0, none⟩) c.nd c.nd) ∧ RdV w' (some ⟨g, 0, none⟩) c.nd (rch49 c u c.nd)) ∧ Below W.heap.size W w') := fun W u hu hb => by
        have := rreach49_any (HI.out W hb) ok hn6 hu
        rw [hst] at this
        exact this.mono fun e w' ⟨⟨g, h1, h3⟩, h2⟩ => ⟨⟨g, h1, h3.rd⟩, h2⟩
      have HIFF : Hid (∀ u i, rch49 c u c.nd i = true ↔ Rch c u i) := fun u i => rch49_iff ok i
      have HQZ : Hid (∀ u k, k < (c.mvs u c.nm).length → Sz 1000 ((c.mvs u c.nm).getD k (0, 0)).2) := fun u k hk => by
        have hm : (c.mvs u c.nm).getD k (0, 0) ∈ c.mvs u c.nm := by
          rw [List.getD_eq_getElem?_getD, List.getElem?_eq_getElem hk]
          exact List.getElem_mem hk
        obtain ⟨a, ha, -, e⟩ := Chn.mvs_mem.1 hm
        rw [e]
        have := siz.raw a ha
        exact (Sz_valR (HOK9.out a ha) (by omega) this.1 this.2).more (by omega)
      have HLN : Hid (∀ u, (c.mvs u c.nm).length ≤ 1000000) := fun u => by have := c.mvs_len u c.nm; show _ ≤ _; omega
      have HPM := Lib.hid (fun (W : World) (A : Option Addr) (n cp : Nat) (e : Value) (h : PMv c s W A n cp e) => h)
      rw [hst] at y0
      rw [hst]
      have HWS := Lib.hid hws
      clear hall siz hst ok h0 KR KX KM KE KC KRC HI hlt hsz hsh HOK9 hmx hws KA
      have hc9 := Lib.hid hn6
      (go_wp2_with fail; (with_reducible refine (KX3.out _ hB2).mono ?_); rintro e w3 ⟨⟨Ax, cx, rfl, rx⟩, hb3⟩; have hb3z := Below.size hb3; (try simp only [ZA, ZS, ZD, ZN] at hb3z); have hb3c0 := fun o => below_at hb3 (w.heap.size) o (by first | omega | (simp only [ZA, ZS, ZD, ZN]; omega)); have hb3f0 := fun o => below_fr hb3 (w.heap.size) o (by first | omega | (simp only [ZA, ZS, ZD, ZN]; omega)))
      have hB3 : Below w.heap.size w w3 := hB2.trans (hb3.mono hB2.size)
      have HX := Lib.hid rx
      clear rx
      (go_wp2_with fail; (with_reducible refine (KM3.out _ hB3).mono ?_); rintro e w4 ⟨⟨Am, nm_, cpm, em, rfl, pm⟩, hb4⟩; have hb4z := Below.size hb4; (try simp only [ZA, ZS, ZD, ZN] at hb4z); have hb4c0 := fun o => below_at hb4 (w.heap.size) o (by first | omega | (simp only [ZA, ZS, ZD, ZN]; omega)); have hb4f0 := fun o => below_fr hb4 (w.heap.size) o (by first | omega | (simp only [ZA, ZS, ZD, ZN]; omega)))
      have hB4 : Below w.heap.size w w4 := hB3.trans (hb4.mono hB3.size)
      have HM := Lib.hid pm
      clear pm
      (go_wp2_with fail; (with_reducible refine (KR3.out _ hB4).mono ?_); rintro e w5 ⟨⟨Aq, cq, rfl, rq⟩, hb5⟩; have hb5z := Below.size hb5; (try simp only [ZA, ZS, ZD, ZN] at hb5z); have hb5c0 := fun o => below_at hb5 (w.heap.size) o (by first | omega | (simp only [ZA, ZS, ZD, ZN]; omega)); have hb5f0 := fun o => below_fr hb5 (w.heap.size) o (by first | omega | (simp only [ZA, ZS, ZD, ZN]; omega)))
      have hB5 : Below w.heap.size w w5 := hB4.trans (hb5.mono hB4.size)
      have HQ := Lib.hid rq
      clear rq
      (go_wp2_with fail; (with_reducible refine (KE3.out _ hB5).mono ?_); rintro e w6 ⟨⟨Ae, ne_, cpe, ee, rfl, pe⟩, hb6⟩; have hb6z := Below.size hb6; (try simp only [ZA, ZS, ZD, ZN] at hb6z); have hb6c0 := fun o => below_at hb6 (w.heap.size) o (by first | omega | (simp only [ZA, ZS, ZD, ZN]; omega)); have hb6f0 := fun o => below_fr hb6 (w.heap.size) o (by first | omega | (simp only [ZA, ZS, ZD, ZN]; omega)))
      have hB6 : Below w.heap.size w w6 := hB5.trans (hb6.mono hB5.size)
      have HE := Lib.hid pe
      clear pe
      (go_wp2_with fail; (with_reducible refine (KRC3.out _ hB6).mono ?_); rintro e w7 ⟨rfl, hb7⟩; have hb7z := Below.size hb7; (try simp only [ZA, ZS, ZD, ZN] at hb7z); have hb7c0 := fun o => below_at hb7 (w.heap.size) o (by first | omega | (simp only [ZA, ZS, ZD, ZN]; omega)); have hb7f0 := fun o => below_fr hb7 (w.heap.size) o (by first | omega | (simp only [ZA, ZS, ZD, ZN]; omega)))
      have hB7 : Below w.heap.size w w7 := hB6.trans (hb7.mono hB6.size)
      (go_wp2_with fail; (with_reducible refine (KC3.out _ hB7).mono ?_); rintro e w8 ⟨rfl, hb8⟩; have hb8z := Below.size hb8; (try simp only [ZA, ZS, ZD, ZN] at hb8z); have hb8c0 := fun o => below_at hb8 (w.heap.size) o (by first | omega | (simp only [ZA, ZS, ZD, ZN]; omega)); have hb8f0 := fun o => below_fr hb8 (w.heap.size) o (by first | omega | (simp only [ZA, ZS, ZD, ZN]; omega)))
      have hB8 : Below w.heap.size w w8 := hB7.trans (hb8.mono hB7.size)
      have z0 := (hb8c0 0).trans ((hb7c0 0).trans ((hb6c0 0).trans ((hb5c0 0).trans ((hb4c0 0).trans ((hb3c0 0).trans y0)))))
      have z1 := (hb8c0 1).trans ((hb7c0 1).trans ((hb6c0 1).trans ((hb5c0 1).trans ((hb4c0 1).trans ((hb3c0 1).trans y1)))))
      have z2 := (hb8c0 2).trans ((hb7c0 2).trans ((hb6c0 2).trans ((hb5c0 2).trans ((hb4c0 2).trans ((hb3c0 2).trans y2)))))
      have z3 := (hb8c0 3).trans ((hb7c0 3).trans ((hb6c0 3).trans ((hb5c0 3).trans ((hb4c0 3).trans ((hb3c0 3).trans y3)))))
      have hw8 : w.heap.size < w8.heap.size := by have := hb3.size; have := hb4.size; have := hb5.size; have := hb6.size; have := hb7.size; have := hb8.size; omega
      have hb78 : Below w7.heap.size w7 w8 := hb8
      have hb68 : Below w6.heap.size w6 w8 := hb7.trans (hb8.mono hb7.size)
      have hb58 : Below w5.heap.size w5 w8 := hb6.trans (hb68.mono hb6.size)
      have hb48 : Below w4.heap.size w4 w8 := hb5.trans (hb58.mono hb5.size)
      have hb38 : Below w3.heap.size w3 w8 := hb4.trans (hb48.mono hb4.size)
      have HX8 := Lib.hid (HX.out.below hb38)
      have HM8 := Lib.hid (HM.out.below hb48)
      have HQ8 := Lib.hid (HQ.out.kp (Kp.of_below hb58))
      have HE8 := Lib.hid (HE.out.below hb68)
      have HB8 := Lib.hid hB8
      have hz58 := hb58.size
      clear hb3 hb4 hb5 hb6 hb7 hb8 hb3c0 hb4c0 hb5c0 hb6c0 hb7c0 hb8c0 hb3f0 hb4f0 hb5f0 hb6f0 hb7f0 hb8f0 y0 y1 y2 y3 HX HM HQ HE hb78 hb68 hb58 hb48 hb38 hB2 hB3 hB4 hB5 hB6 hB7 hB8 KX3 KM3 KR3 KE3 KRC3 KC3
      go_wp2_with (first | (go_at_call 13; (with_reducible refine (bnum_0 _).mono ?_); rintro e _ ⟨rfl, rfl⟩) | fail)
      refine (KRR.out _ HB8.out).mono ?_
      rintro e w9 ⟨⟨Aw, cw, rfl, rw9⟩, hb9⟩
      have hz89 := hb9.size
      have hB9 : Below w.heap.size w w9 := HB8.out.trans (hb9.mono (by omega))
      have HW9 := Lib.hid rw9
      have v0 := (below_at hb9 w.heap.size 0 hw8).trans z0
      have v1 := (below_at hb9 w.heap.size 1 hw8).trans z1
      have v2 := (below_at hb9 w.heap.size 2 hw8).trans z2
      have v3 := (below_at hb9 w.heap.size 3 hw8).trans z3
      have HX9 := Lib.hid (HX8.out.below hb9)
      have HM9 := Lib.hid (HM8.out.below hb9)
      have HQ9 := Lib.hid (HQ8.out.kp (Kp.of_below hb9))
      have HE9 := Lib.hid (HE8.out.below hb9)
      have HB9 := Lib.hid hB9
      have hw9 : w.heap.size < w9.heap.size := by omega
      clear rw9 hb9 hB9 z0 z1 z2 z3 HX8 HM8 HQ8 HE8 HB8 KRR
      go_wp2_with fail
      refine (KRX.out _ HB9.out).mono ?_
      rintro e w10 ⟨⟨Ay, cy, rfl, ry⟩, hb10⟩
      have hz10 := hb10.size
      have KRt := Lib.hid (rats_same (c := cx) (d := cy) (HX9.out.below hb10) ry (by omega) HSX.out)
      have H10 := Lib.hid hb10
      clear ry hb10 KRX HX9
      go_wp2_with fail
      refine KRt.out.mono ?_
      rintro e w11 ⟨rfl, hb11⟩
      have hb911 : Below w9.heap.size w9 w11 := H10.out.trans (hb11.mono hz10)
      have hz911 := hb911.size
      have z0 := (below_at hb911 w.heap.size 0 hw9).trans v0
      have z1 := (below_at hb911 w.heap.size 1 hw9).trans v1
      have z2 := (below_at hb911 w.heap.size 2 hw9).trans v2
      have z3 := (below_at hb911 w.heap.size 3 hw9).trans v3
      have HW := Lib.hid (HW9.out.kp (Kp.of_below hb911))
      have HQ := Lib.hid (HQ9.out.kp (Kp.of_below hb911))
      have HM := Lib.hid (HM9.out.below hb911)
      have HE := Lib.hid (HE9.out.below hb911)
      have HB := Lib.hid (HB9.out.trans (hb911.mono (by omega)))
      have hw11 : w.heap.size < w11.heap.size := by omega
      have e9 : ((c.nd : Int) != (c.nd : Int)) = false := by simp
      have e99 : (c.nd != c.nd) = false := by simp
      clear hb11 hb911 v0 v1 v2 v3 HW9 HQ9 HM9 HE9 HB9 KRt H10 HSX
      go_wp2_with fail
      go_loopw [115] (fun i wr => ∃ k : Nat, k ≤ c.nd ∧ i = .int .i64 (k : Int) ∧ Below w11.heap.size w11 wr) (fun i _ => c.nd - (intOf i).toNat)
      case atStart => exact ⟨0, Nat.zero_le _, rfl, Below.refl _ _⟩
      case round =>
        obtain ⟨k, hk, rfl, hb⟩ := hrel
        have hbz := hb.size
        by_cases hkl : k < c.nd
        · obtain ⟨b1, o1, Ai, ci, rfl, hb1, p1, -, r1⟩ := (HQ.out.kp (Kp.of_below hb)).at_ hkl
          obtain ⟨b2, o2, Bi, di, rfl, hb2, p2, -, r2⟩ := (HW.out.kp (Kp.of_below hb)).at_ hkl
          have KQ := Lib.hid (fun W (hW : Below wr.heap.size wr W) => rats_same (c := ci) (d := di) (r1.ra.below hW) (r2.ra.below hW) (by omega) (HSQ.out k))
          have q1 := fun y : Sub wr => y.cell p1
          have q2 := fun y : Sub wr => y.cell p2
          have k0 : (0 : Int) ≤ (k : Int) := by omega
          have k1 : (k : Int) < (c.nd : Int) := by omega
          have HBr := Lib.hid hb
          clear r1 r2 p1 p2 hb
          go_upto_region 18 with fail
          ((refine wp_region_quiet_bel (by kernel_rfl) (by kernel_rfl) ?_); (repeat (go_big_quiet_step ((go_at_call 34; with_reducible exact Calls.quiet_bel (KQ.out _ (Sub.bel _)))))); (refine wpQuiet_nil ?_); rintro w12 ⟨⟨_, hb12⟩, rfl⟩; (try dsimp only))
          have HB12 := Lib.hid (HBr.out.trans (hb12.mono hbz))
          clear hb12 q1 q2 KQ
          go_wp2_with fail
          go_roundw
          case rel => exact ⟨k + 1, by omega, by go_num, HB12.out⟩
          case measure => simp [intOf]; omega
        · obtain rfl : k = c.nd := by omega
          obtain ⟨wo, rfl⟩ : ∃ wo : World, wo = wr := ⟨_, rfl⟩
          have t0 := (below_at hb w.heap.size 0 hw11).trans z0
          have t1 := (below_at hb w.heap.size 1 hw11).trans z1
          have t2 := (below_at hb w.heap.size 2 hw11).trans z2
          have t3 := (below_at hb w.heap.size 3 hw11).trans z3
          have pm := HM.out.below hb
          have pe := HE.out.below hb
          have hBo := HB.out.trans (hb.mono (by omega))
          have HBO := Lib.hid hBo
          clear z0 z1 z2 z3 HM HE HB HQ HW hb
          rcases pm with ⟨hs, rfl, rfl⟩ | ⟨hs, rfl, rfl, bM, om⟩
          · rcases pe with ⟨-, rfl, rfl⟩ | ⟨hs', -⟩
            · by_cases hs0 : s < 0
              · have e1 : decide (s < 0) = true := by simpa using hs0
                clear hs hBo
                go_wp2_with (first | (go_at_call 36; (with_reducible refine (bis_eq _ _).mono ?_); rintro e _ ⟨rfl, rfl⟩) | fail)
                go_ret
                exact ⟨rfl, HBO.out⟩
              · have e1 : decide (s < 0) = false := by simpa using hs0
                have hs1 : (c.nd : Int) ≤ s := by omega
                have e2 : decide ((c.nd : Int) ≤ s) = true := by simpa using hs1
                clear hs hBo
                go_wp2_with (first | (go_at_call 36; (with_reducible refine (bis_eq _ _).mono ?_); rintro e _ ⟨rfl, rfl⟩) | fail)
                go_ret
                exact ⟨rfl, HBO.out⟩
            · exact absurd hs hs'
          · rcases pe with ⟨hs', -⟩ | ⟨-, rfl, rfl, bR, o, oo, hoo⟩
            · exact absurd hs' hs
            · obtain ⟨u, rfl⟩ : ∃ u : Nat, s = (u : Int) := ⟨s.toNat, by omega⟩
              simp only [Int.toNat_natCast] at om oo hoo
              have hu : u < c.nd := by omega
              have e1 : decide ((u : Int) < 0) = false := by simp
              have e2 : decide ((c.nd : Int) ≤ (u : Int)) = false := by simp; omega
              have e22 : decide (c.nd ≤ u) = false := by simp; omega
              have KMu := Lib.hid (KRM.out wo u hBo)
              have HOM := Lib.hid om
              have HOO := Lib.hid oo
              have HOI := Lib.hid hoo
              have KRu := Lib.hid (fun W hW => KRE.out W u hu hW)
              have HQu := Lib.hid (HQZ.out u)
              have HLu := Lib.hid (HLN.out u)
              have HIu := Lib.hid (HIFF.out u)
              simp only [Int.toNat_natCast] at *
              generalize c.mvs u c.nm = Lp at *
              clear hs hBo om oo hoo KRM KRE HQZ HLN HIFF
              go_wp2_with fail
              refine KMu.out.mono ?_
              rintro e w12 ⟨⟨A12, c12, rfl, b12, o12⟩, hb12⟩
              have hz12 := hb12.size
              have KSm := Lib.hid (rsame49_any (c := cpm) (d := c12) (OwM.ra (HOM.out.below hb12)) o12.ra HQu.out HLu.out)
              have H12 := Lib.hid hb12
              have r0 := (below_at hb12 w.heap.size 0 (by omega)).trans t0
              have r1 := (below_at hb12 w.heap.size 1 (by omega)).trans t1
              have r2 := (below_at hb12 w.heap.size 2 (by omega)).trans t2
              have r3 := (below_at hb12 w.heap.size 3 (by omega)).trans t3
              clear o12 hb12 KMu t0 t1 t2 t3
              go_wp2_with fail
              refine KSm.out.mono ?_
              rintro e w13 ⟨rfl, hb13⟩
              have hz13 := hb13.size
              have hbo13 : Below wo.heap.size wo w13 := H12.out.trans (hb13.mono hz12)
              have K13 := Lib.hid (KRu.out w13 (HBO.out.trans (hbo13.mono (by omega))))
              have s0 := (below_at hb13 w.heap.size 0 (by omega)).trans r0
              have s1 := (below_at hb13 w.heap.size 1 (by omega)).trans r1
              have s2 := (below_at hb13 w.heap.size 2 (by omega)).trans r2
              have s3 := (below_at hb13 w.heap.size 3 (by omega)).trans r3
              have HO13 := Lib.hid hbo13
              clear hb13 KSm r0 r1 r2 r3 hbo13 KRu
              go_wp2_with fail
              refine K13.out.mono ?_
              rintro e w14 ⟨⟨g14, rfl, o14⟩, hb14⟩
              have hz14 := hb14.size
              have hbo14 : Below wo.heap.size wo w14 := HO13.out.trans (hb14.mono HO13.out.size)
              have KB := Lib.hid (bools49 (c := cpe) (d := c.nd) ((HOO.out.below hbo14).rd) o14 (fun i hi => by
                have h1 := HOI.out i hi
                have h2 := HIu.out i
                cases ha : o i with
                | true => exact (h2.2 (h1.1 ha)).symm
                | false =>
                  cases hb : rch49 c u c.nd i with
                  | false => rfl
                  | true => rw [h1.2 (h2.1 hb)] at ha; cases ha) (by omega))
              have HO14 := Lib.hid hbo14
              clear o14 hb14 K13 s0 s1 s2 s3 hbo14
              go_wp2_with fail
              refine KB.out.mono ?_
              rintro e w15 ⟨rfl, hb15⟩
              have HBF := Lib.hid (HBO.out.trans ((HO14.out.trans (hb15.mono HO14.out.size)).mono (by omega)))
              clear hb15
              go_wp2_with fail
              go_ret
              exact ⟨rfl, HBF.out⟩
    · have KX2 : Hid (∀ W, Below w.heap.size w W → Calls Tryz.prog 30 #[cv c.st c.sr AM c.nm cm AD c.nd cd] W fun e w' => e = .returned (.tuple #[.slice none 0 0, errM c.code]) ∧ Below W.heap.size W w') := fun W hb => (KX.out W hb).mono fun e w' ⟨h1, h2⟩ => ⟨by unfold RetVe at h1; rw [if_neg h0] at h1; exact h1, h2⟩
      have KR2 : Hid (∀ W, Below w.heap.size w W → Calls Tryz.prog 29 #[cv c.st c.sr AM c.nm cm AD c.nd cd] W fun e w' => e = .returned (.tuple #[.slice none 0 0, errM c.code]) ∧ Below W.heap.size W w') := fun W hb => (KR.out W hb).mono fun e w' ⟨h1, h2⟩ => ⟨by unfold RetRw at h1; rw [if_neg h0] at h1; exact h1, h2⟩
      have KM2 : Hid (∀ W, Below w.heap.size w W → Calls Tryz.prog 26 #[cv c.st c.sr AM c.nm cm AD c.nd cd, .int .i64 s] W fun e w' => e = .returned (.tuple #[.slice none 0 0, errM c.code]) ∧ Below W.heap.size W w') := fun W hb => (KM.out W hb).mono fun e w' ⟨h1, h2⟩ => ⟨by unfold RetMv at h1; rw [if_pos h0] at h1; exact h1, h2⟩
      have KE2 : Hid (∀ W, Below w.heap.size w W → Calls Tryz.prog 17 #[cv c.st c.sr AM c.nm cm AD c.nd cd, .int .i64 s] W fun e w' => e = .returned (.tuple #[.slice none 0 0, errM c.code]) ∧ Below W.heap.size W w') := fun W hb => (KE.out W hb).mono fun e w' ⟨h1, h2⟩ => ⟨by unfold RetRc at h1; rw [if_pos h0] at h1; exact h1, h2⟩
      have KN := Lib.hid (fun W => bnum_n (c.code) W)
      rw [errM_n h0] at KX2 KR2 KM2 KE2 KC
      have h00 : (c.code == 0) = false := by simpa using h0
      have h01 : (c.code != 0) = true := by simpa using h0
      obtain ⟨cc, hcc⟩ : ∃ cc, cc = c.code := ⟨_, rfl⟩
      rw [← hcc] at KX2 KR2 KM2 KE2 KC KN KRC h00 h01
      have h02 : (cc != cc) = false := by simp
      clear h0 hcc KR KX KM KE HI KA hlt hsz hsh HOK9 hmx hws
      (go_wp2_with fail; (with_reducible refine (KX2.out _ hB2).mono ?_); rintro e w3 ⟨rfl, hb3⟩; have hb3z := Below.size hb3; (try simp only [ZA, ZS, ZD, ZN] at hb3z); have hb3c0 := fun o => below_at hb3 (w.heap.size) o (by first | omega | (simp only [ZA, ZS, ZD, ZN]; omega)); have hb3f0 := fun o => below_fr hb3 (w.heap.size) o (by first | omega | (simp only [ZA, ZS, ZD, ZN]; omega)))
      have hB3 : Below w.heap.size w w3 := hB2.trans (hb3.mono hB2.size)
      (go_wp2_with fail; (with_reducible refine (KM2.out _ hB3).mono ?_); rintro e w4 ⟨rfl, hb4⟩; have hb4z := Below.size hb4; (try simp only [ZA, ZS, ZD, ZN] at hb4z); have hb4c0 := fun o => below_at hb4 (w.heap.size) o (by first | omega | (simp only [ZA, ZS, ZD, ZN]; omega)); have hb4f0 := fun o => below_fr hb4 (w.heap.size) o (by first | omega | (simp only [ZA, ZS, ZD, ZN]; omega)))
      have hB4 : Below w.heap.size w w4 := hB3.trans (hb4.mono hB3.size)
      (go_wp2_with fail; (with_reducible refine (KR2.out _ hB4).mono ?_); rintro e w5 ⟨rfl, hb5⟩; have hb5z := Below.size hb5; (try simp only [ZA, ZS, ZD, ZN] at hb5z); have hb5c0 := fun o => below_at hb5 (w.heap.size) o (by first | omega | (simp only [ZA, ZS, ZD, ZN]; omega)); have hb5f0 := fun o => below_fr hb5 (w.heap.size) o (by first | omega | (simp only [ZA, ZS, ZD, ZN]; omega)))
      have hB5 : Below w.heap.size w w5 := hB4.trans (hb5.mono hB4.size)
      (go_wp2_with fail; (with_reducible refine (KE2.out _ hB5).mono ?_); rintro e w6 ⟨rfl, hb6⟩; have hb6z := Below.size hb6; (try simp only [ZA, ZS, ZD, ZN] at hb6z); have hb6c0 := fun o => below_at hb6 (w.heap.size) o (by first | omega | (simp only [ZA, ZS, ZD, ZN]; omega)); have hb6f0 := fun o => below_fr hb6 (w.heap.size) o (by first | omega | (simp only [ZA, ZS, ZD, ZN]; omega)))
      have hB6 : Below w.heap.size w w6 := hB5.trans (hb6.mono hB5.size)
      (go_wp2_with fail; (with_reducible refine (KRC.out _ hB6).mono ?_); rintro e w7 ⟨rfl, hb7⟩; have hb7z := Below.size hb7; (try simp only [ZA, ZS, ZD, ZN] at hb7z); have hb7c0 := fun o => below_at hb7 (w.heap.size) o (by first | omega | (simp only [ZA, ZS, ZD, ZN]; omega)); have hb7f0 := fun o => below_fr hb7 (w.heap.size) o (by first | omega | (simp only [ZA, ZS, ZD, ZN]; omega)))
      have hB7 : Below w.heap.size w w7 := hB6.trans (hb7.mono hB6.size)
      (go_wp2_with fail; (with_reducible refine (KC.out _ hB7).mono ?_); rintro e w8 ⟨rfl, hb8⟩; have hb8z := Below.size hb8; (try simp only [ZA, ZS, ZD, ZN] at hb8z); have hb8c0 := fun o => below_at hb8 (w.heap.size) o (by first | omega | (simp only [ZA, ZS, ZD, ZN]; omega)); have hb8f0 := fun o => below_fr hb8 (w.heap.size) o (by first | omega | (simp only [ZA, ZS, ZD, ZN]; omega)))
      have HBF := Lib.hid (hB7.trans (hb8.mono hB7.size))
      go_wp2_with (first | (go_at_call 13; (with_reducible refine (KN.out _).mono ?_); rintro e _ ⟨rfl, rfl⟩) | fail)
      go_ret
      exact ⟨rfl, HBF.out⟩
end Go.Proofs.YtoiopnmphbnjaaaGreatDoor
