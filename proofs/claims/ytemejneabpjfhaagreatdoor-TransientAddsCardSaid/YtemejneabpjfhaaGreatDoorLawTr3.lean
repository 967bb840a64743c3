/- Contracts of functions and lemmas, used by the proofs of the given statements. No condition beyond those that each lemma names. -/
import Derived.Test.YtemejneabpjfhaaGreatDoorLawTr2
namespace Go.Proofs.YtemejneabpjfhaaGreatDoor
open Go.RowKit
set_option linter.unusedSimpArgs false
set_option linter.unusedVariables false
set_option maxRecDepth 20000
attribute [local irreducible] nv wp win plainB validR valR canR mvE chkM codeC exK maxF dsum
/-! ## TransientJoins -/
theorem stp_congr {act : Nat → Bool} {F T : Nat → Nat} {v u sh sh' : Nat → Rat} {n : Nat} : ∀ {k : Nat}, (∀ s, s < n → v s = u s) → (∀ j, j < k → sh j = sh' j) → ∀ s, s < n → stp act F T v sh k s = stp act F T u sh' k s
  | 0, h, _, s, hs => h s hs
  | k + 1, h, h2, s, hs => by
    have ih := stp_congr (act := act) (F := F) (T := T) (k := k) h (fun j hj => h2 j (by omega)) s hs
    have hk := h2 k (by omega)
    unfold stp
    rw [ih, hk]
theorem Chn.step_congr {c : Chn} (ok : c.Ok) {r : Rat} {v u : Nat → Rat} (h : ∀ s, s < c.nd → v s = u s) : ∀ s, s < c.nd → c.stepQ false r v s = c.stepQ false r u s :=
  stp_congr h fun j hj => by
    unfold shr
    rw [h _ (Chn.ft ok j hj).1]
theorem vecQ_can {n : Nat} {x : Nat → Rat} {s : Nat} (hs : s < n) : vecQ n (can x) s = x s := by
  unfold vecQ
  rw [if_pos hs]
  exact valR_canR _
theorem vec_fzc {n L : Nat} {x : Nat → Rat} (h : FzL L x) : FzL L (vecQ n (can x)) := by
  obtain ⟨D, Z, h0, h1, h2, h3⟩ := h
  refine ⟨D, Z, h0, h1, h2, fun s => ?_⟩
  unfold vecQ
  split
  · rw [show valR (can x s) = x s from valR_canR _]; exact h3 s
  · exact (Fz.zero _).le (Nat.zero_le _)
theorem allV_can (n : Nat) (x : Nat → Rat) : allV n (can x) = true := allV_yes fun k _ => canR_valid _
/-- a step behind k steps -/
theorem join_step {c : Chn} {AM AD A : Option Addr} {cm cd ca k : Nat} {v : Value} {r : Rw} (hP : ValP c r) (hS : Small c) (hok : okR r) (hk : k ≤ 8) {W : World} (hi : ChI W W.heap.size AM cm AD cd c) (hr : RdS W W.heap.size v r) (hv : RowA W W.heap.size A c.nd (can (c.run false (valR r) k))) :
    Calls Tryz.prog 25 #[cv c.st c.sr AM c.nm cm AD c.nd cd, v, .slice A c.nd ca] W fun e w' => (∃ A' c', e = .returned (.tuple #[.slice A' c.nd c', .nilIface]) ∧ RowA w' w'.heap.size A' c.nd (can (c.run false (valR r) (k + 1)))) ∧ Below W.heap.size W w' := by
  have okc := hP.okc
  have hct : c.codeT r c.nd (can (c.run false (valR r) k)) = 0 := codeT_0 hP.code rfl (allV_can _ _)
  have hrs : Sz 4 (valR r) := Sz_valR hok (by omega) hP.l1 hP.l2
  have hf := hS.run okc.1 okc.2.1 hrs false k
  have hsz : ∀ s, Sz 400 (c.run false (valR r) k s) := fun s => (hf.sz (by omega) s).more (by omega)
  have := Step_any (ca := ca) hi hS.chS hr hP.l1 hP.l2 hv (fun j _ => by have := Sz_canR (hsz j); show (canR _).2.1.length ≤ 1000 ∧ (canR _).2.2.length ≤ 1000; omega) (by have := okc.1.hi; omega) (fun _ => hS.stS okc.1 okc.2.1 hrs (vec_fzc hf) (by omega) (by omega))
  refine this.mono fun e w' h => ⟨?_, h.2⟩
  have h1 := h.1.out h.2.size
  rw [hct] at h1
  obtain ⟨A', c', e1, h2⟩ := h1
  refine ⟨A', c', e1, h2.congr fun s hs => ?_⟩
  show canR _ = canR _
  congr 1
  exact Chn.step_congr okc.1 (fun s hs => vecQ_can hs) s hs
/-- After -/
theorem join_after {c : Chn} {AM AD : Option Addr} {cm cd k : Nat} {v : Value} {r : Rw} {z : Int} (hP : ValP c r) (hS : Small c) (hok : okR r) (hk : k ≤ 8) (hz : z = (k : Int)) {W : World} (hi : ChI W W.heap.size AM cm AD cd c) (hr : RdS W W.heap.size v r) :
    Calls Tryz.prog 12 #[cv c.st c.sr AM c.nm cm AD c.nd cd, v, .int .i64 z] W fun e w' => (∃ A' c', e = .returned (.tuple #[.slice A' c.nd c', .nilIface]) ∧ RowA w' w'.heap.size A' c.nd (can (c.run false (valR r) k))) ∧ Below W.heap.size W w' := by
  subst hz
  have hcn : c.codeN r (k : Int) = 0 := by unfold Chn.codeN; rw [if_neg (by have := hP.code; omega), if_neg (by omega)]
  have := after_any (n := (k : Int)) hi hS.chS hr hP.l1 hP.l2 (hS.st hok hP.l1 hP.l2 (by omega) false)
  refine this.mono fun e w' h => ⟨?_, h.2⟩
  have h1 := h.1.out
  rw [hcn, Int.toNat_natCast] at h1
  exact h1
set_option maxHeartbeats 16000000 in
theorem transientJoins_law {w : World} {AM AD : Option Addr} {cm cd p p' : Nat} {c : Chn} {v : Value} {r : Rw} (h : ChI w w.heap.size AM cm AD cd c) (hr : RdS w w.heap.size v r) (hp : p < 256) (hp' : p' < 256) :
    Calls Tryz.prog 7 #[cv c.st c.sr AM c.nm cm AD c.nd cd, v, .agg #[.int .u8 (p : Int), .int .u8 (p' : Int)]] w fun e w' => e = .returned (.bool true) ∧ Below w.heap.size w w' := by
  have KV := Lib.hid (fun W (hb : Below w.heap.size w W) => valid_law (h.below hb) ((hr.kp (Kp.of_below hb)).base hb.size))
  have HI := Lib.hid (fun W (hb : Below w.heap.size w W) => h.below hb)
  have HRR := Lib.hid (fun W (hb : Below w.heap.size w W) => (hr.kp (Kp.of_below hb)).base hb.size)
  have HOK := Lib.hid hr.ok
  have HSm := Lib.hid (fun (hf : FewP c) => hf.small h)
  obtain ⟨s0, A0, n0, c0, B0, m0, d0, rfl⟩ := hr.form
  have hbA : Below w.heap.size w (((w.alloc (.cells #[.int .i64 c.st, .int .i64 c.sr, .slice AM c.nm cm, .slice AD c.nd cd] 25)).alloc (.cells #[.bool s0, .slice A0 n0 c0, .slice B0 m0 d0] 28)).alloc (.cells #[.int .u8 (p : Int), .int .u8 (p' : Int)] 59)) := (((Below.refl _ _).alloc (Nat.le_refl _) _).alloc (by simp) _).alloc (by simp; omega) _
  have HBA := Lib.hid hbA
  clear h hr hbA
  go_enter Tryz.func7, Tryz.ntmps7
  (go_wp2_with fail; (with_reducible refine (KV.out _ HBA.out).mono ?_); rintro e w1 ⟨⟨bb, rfl, hbb⟩, hb1⟩; have hb1z := Below.size hb1; (try simp only [World.size_alloc, World.size_setCell, World.size_drew, size_drewN'] at hb1z); have hb1c0 := fun o => below_at hb1 (w.heap.size) o (by first | omega | (simp only [World.size_alloc, World.size_setCell, World.size_drew, size_drewN']; omega)); have hb1f0 := fun o => below_fr hb1 (w.heap.size) o (by first | omega | (simp only [World.size_alloc, World.size_setCell, World.size_drew, size_drewN']; omega)); have hb1c1 := fun o => below_at hb1 (w.heap.size + 1) o (by first | omega | (simp only [World.size_alloc, World.size_setCell, World.size_drew, size_drewN']; omega)); have hb1f1 := fun o => below_fr hb1 (w.heap.size + 1) o (by first | omega | (simp only [World.size_alloc, World.size_setCell, World.size_drew, size_drewN']; omega)); have hb1c2 := fun o => below_at hb1 (w.heap.size + 2) o (by first | omega | (simp only [World.size_alloc, World.size_setCell, World.size_drew, size_drewN']; omega)); have hb1f2 := fun o => below_fr hb1 (w.heap.size + 2) o (by first | omega | (simp only [World.size_alloc, World.size_setCell, World.size_drew, size_drewN']; omega)))
  have hB1 : Below w.heap.size w w1 := HBA.out.trans (hb1.mono (by simp; omega))
  cases bb with
  | false =>
    clear hbb
    (go_wp2_with fail; (with_reducible refine (awake_any _).mono ?_); rintro e w2 ⟨rfl, hb2⟩; have hb2z := Below.size hb2; (try simp only [World.size_alloc, World.size_setCell, World.size_drew, size_drewN'] at hb2z))
    go_wp2
    go_ret
    exact ⟨rfl, hB1.trans (hb2.mono hB1.size)⟩
  | true =>
    have HP := Lib.hid (hbb rfl)
    have HS := Lib.hid (HSm.out (hbb rfl).few)
    clear hbb
    (go_wp2_with fail; (with_reducible refine (awake_any _).mono ?_); rintro e w2 ⟨rfl, hb2⟩; have hb2z := Below.size hb2; (try simp only [World.size_alloc, World.size_setCell, World.size_drew, size_drewN'] at hb2z); have hb2c0 := fun o => below_at hb2 (w.heap.size) o (by first | omega | (simp only [World.size_alloc, World.size_setCell, World.size_drew, size_drewN']; omega)); have hb2f0 := fun o => below_fr hb2 (w.heap.size) o (by first | omega | (simp only [World.size_alloc, World.size_setCell, World.size_drew, size_drewN']; omega)); have hb2c1 := fun o => below_at hb2 (w.heap.size + 1) o (by first | omega | (simp only [World.size_alloc, World.size_setCell, World.size_drew, size_drewN']; omega)); have hb2f1 := fun o => below_fr hb2 (w.heap.size + 1) o (by first | omega | (simp only [World.size_alloc, World.size_setCell, World.size_drew, size_drewN']; omega)); have hb2c2 := fun o => below_at hb2 (w.heap.size + 2) o (by first | omega | (simp only [World.size_alloc, World.size_setCell, World.size_drew, size_drewN']; omega)); have hb2f2 := fun o => below_fr hb2 (w.heap.size + 2) o (by first | omega | (simp only [World.size_alloc, World.size_setCell, World.size_drew, size_drewN']; omega)))
    have hB2 : Below w.heap.size w w2 := hB1.trans (hb2.mono hB1.size)
    have hw2 : w.heap.size + 2 < w2.heap.size := by have := hb1.size; have := hb2.size; simp at *; omega
    have y0 : w2.cell? ⟨w.heap.size, 0, none⟩ = some (.int .i64 c.st) := by rw [hb2c0, hb1c0]; exact Lib.cell?_alloc_some _ (Lib.cell?_alloc_some _ (by simp))
    have y1 : w2.cell? ⟨w.heap.size, 1, none⟩ = some (.int .i64 c.sr) := by rw [hb2c0, hb1c0]; exact Lib.cell?_alloc_some _ (Lib.cell?_alloc_some _ (by simp))
    have y2 : w2.cell? ⟨w.heap.size, 2, none⟩ = some (.slice AM c.nm cm) := by rw [hb2c0, hb1c0]; exact Lib.cell?_alloc_some _ (Lib.cell?_alloc_some _ (by simp))
    have y3 : w2.cell? ⟨w.heap.size, 3, none⟩ = some (.slice AD c.nd cd) := by rw [hb2c0, hb1c0]; exact Lib.cell?_alloc_some _ (Lib.cell?_alloc_some _ (by simp))
    have y4 : w2.cell? ⟨w.heap.size + 1, 0, none⟩ = some (.bool s0) := by rw [hb2c1, hb1c1]; exact Lib.cell?_alloc_some _ (by simp)
    have y5 : w2.cell? ⟨w.heap.size + 1, 1, none⟩ = some (.slice A0 n0 c0) := by rw [hb2c1, hb1c1]; exact Lib.cell?_alloc_some _ (by simp)
    have y6 : w2.cell? ⟨w.heap.size + 1, 2, none⟩ = some (.slice B0 m0 d0) := by rw [hb2c1, hb1c1]; exact Lib.cell?_alloc_some _ (by simp)
    have y7 : w2.cell? ⟨w.heap.size + 1 + 1, 0, none⟩ = some (.int .u8 (p : Int)) := by rw [hb2c2, hb1c2]; exact (World.cell?_alloc_at _ _ _ _ (by simp)).trans rfl
    have y8 : w2.cell? ⟨w.heap.size + 1 + 1, 1, none⟩ = some (.int .u8 (p' : Int)) := by rw [hb2c2, hb1c2]; exact (World.cell?_alloc_at _ _ _ _ (by simp)).trans rfl
    clear hb1c0 hb1c1 hb1c2 hb2c0 hb2c1 hb2c2 hb1f0 hb1f1 hb1f2 hb2f0 hb2f1 hb2f2
    obtain ⟨a, ha⟩ : ∃ a, a = p % 5 := ⟨_, rfl⟩
    obtain ⟨b, hb⟩ : ∃ b, b = p' % 5 := ⟨_, rfl⟩
    have ha4 : a ≤ 4 := by omega
    have hb4 : b ≤ 4 := by omega
    have t1 : Int.tmod (p : Int) 5 = (a : Int) := by rw [Int.tmod_eq_emod_of_nonneg (by omega), ha]; rfl
    have t2 : Int.tmod (p' : Int) 5 = (b : Int) := by rw [Int.tmod_eq_emod_of_nonneg (by omega), hb]; rfl
    have t3 : (p : Int) % 5 = (a : Int) := by rw [ha]; rfl
    have t4 : (p' : Int) % 5 = (b : Int) := by rw [hb]; rfl
    have t5 : IntKind.i64.wrap (a : Int) = (a : Int) := by rw [IntKind.wrap_i64]; omega
    have t6 : IntKind.i64.wrap (b : Int) = (b : Int) := by rw [IntKind.wrap_i64]; omega
    clear ha hb
    have q7 := fun y : Sub w2 => y.cell y7
    have q8 := fun y : Sub w2 => y.cell y8
    go_wp2
    ((refine wp_region_quiet_bel (by kernel_rfl) (by kernel_rfl) ?_); (repeat (go_big_quiet_step (fail))); (refine wpQuiet_nil ?_); rintro w3 ⟨⟨_, hb3⟩, rfl⟩; (try dsimp only))
    have hB3 : Below w.heap.size w w3 := hB2.trans (hb3.mono hB2.size)
    have hz3 := hB3.size
    have K4 : Hid (∀ W z k, k ≤ 8 → z = ((k : Nat) : Int) → Below w.heap.size w W → Calls Tryz.prog 12 #[cv c.st c.sr AM c.nm cm AD c.nd cd, rv s0 A0 n0 c0 B0 m0 d0, .int .i64 z] W fun e w' => (∃ A' c', e = .returned (.tuple #[.slice A' c.nd c', .nilIface]) ∧ RowA w' w'.heap.size A' c.nd (can (c.run false (valR r) k))) ∧ Below W.heap.size W w') := fun W z k hk hz hb => join_after HP.out HS.out HOK.out hk hz (HI.out W hb) (HRR.out W hb)
    have K5 : Hid (∀ W k A ca, k ≤ 8 → RowA W W.heap.size A c.nd (can (c.run false (valR r) k)) → Below w.heap.size w W → Calls Tryz.prog 25 #[cv c.st c.sr AM c.nm cm AD c.nd cd, rv s0 A0 n0 c0 B0 m0 d0, .slice A c.nd ca] W fun e w' => (∃ A' c', e = .returned (.tuple #[.slice A' c.nd c', .nilIface]) ∧ RowA w' w'.heap.size A' c.nd (can (c.run false (valR r) (k + 1)))) ∧ Below W.heap.size W w') := fun W k A ca hk hv hb => join_step HP.out HS.out HOK.out hk (HI.out W hb) (HRR.out W hb) hv
    have hsz : Hid (∀ k s, k ≤ 8 → (can (c.run false (valR r) k) s).2.1.length ≤ 1000000 ∧ (can (c.run false (valR r) k) s).2.2.length ≤ 1000000) := fun k s hk => by
      have hf := HS.out.run HP.out.okc.1 HP.out.okc.2.1 (Sz_valR HOK.out (by omega) HP.out.l1 HP.out.l2) false k
      have hj : Sz 400 (c.run false (valR r) k s) := (hf.sz (by omega) s).more (by omega)
      have := Sz_canR hj
      show (canR _).2.1.length ≤ 1000000 ∧ (canR _).2.2.length ≤ 1000000
      omega
    have hnd : c.nd ≤ 1000000 := by have := HP.out.okc.1.hi; omega
    have y0 := (hb3.cell (by show w.heap.size < _; omega)).trans y0
    have y1 := (hb3.cell (by show w.heap.size < _; omega)).trans y1
    have y2 := (hb3.cell (by show w.heap.size < _; omega)).trans y2
    have y3 := (hb3.cell (by show w.heap.size < _; omega)).trans y3
    have y4 := (hb3.cell (by show w.heap.size + 1 < _; omega)).trans y4
    have y5 := (hb3.cell (by show w.heap.size + 1 < _; omega)).trans y5
    have y6 := (hb3.cell (by show w.heap.size + 1 < _; omega)).trans y6
    have hw3 : w.heap.size + 2 < w3.heap.size := by have := hb3.size; omega
    clear q7 q8 HI HRR HOK HSm HS HP KV
    (go_wp2_with fail; (with_reducible refine (K4.out _ (a : Int) a (by omega) rfl hB3).mono ?_); rintro e w4 ⟨⟨A4, k4, rfl, hv4⟩, hb4⟩; have hb4z := Below.size hb4; (try simp only [World.size_alloc, World.size_setCell, World.size_drew, size_drewN'] at hb4z); have hb4c0 := fun o => below_at hb4 (w.heap.size) o (by first | omega | (simp only [World.size_alloc, World.size_setCell, World.size_drew, size_drewN']; omega)); have hb4f0 := fun o => below_fr hb4 (w.heap.size) o (by first | omega | (simp only [World.size_alloc, World.size_setCell, World.size_drew, size_drewN']; omega)); have hb4c1 := fun o => below_at hb4 (w.heap.size + 1) o (by first | omega | (simp only [World.size_alloc, World.size_setCell, World.size_drew, size_drewN']; omega)); have hb4f1 := fun o => below_fr hb4 (w.heap.size + 1) o (by first | omega | (simp only [World.size_alloc, World.size_setCell, World.size_drew, size_drewN']; omega)))
    have hB4 : Below w.heap.size w w4 := hB3.trans (hb4.mono hB3.size)
    have HV4 := Lib.hid hv4
    clear hv4
    have hz4 := hB4.size
    (go_wp2_with fail; (with_reducible refine (K4.out _ _ (a + b) (by omega) (by first | rfl | omega | (go_num; omega) | (simp [IntKind.wrap_i64]; omega)) hB4).mono ?_); rintro e w5 ⟨⟨A5, k5, rfl, hv5⟩, hb5⟩; have hb5z := Below.size hb5; (try simp only [World.size_alloc, World.size_setCell, World.size_drew, size_drewN'] at hb5z); have hb5c0 := fun o => below_at hb5 (w.heap.size) o (by first | omega | (simp only [World.size_alloc, World.size_setCell, World.size_drew, size_drewN']; omega)); have hb5f0 := fun o => below_fr hb5 (w.heap.size) o (by first | omega | (simp only [World.size_alloc, World.size_setCell, World.size_drew, size_drewN']; omega)); have hb5c1 := fun o => below_at hb5 (w.heap.size + 1) o (by first | omega | (simp only [World.size_alloc, World.size_setCell, World.size_drew, size_drewN']; omega)); have hb5f1 := fun o => below_fr hb5 (w.heap.size + 1) o (by first | omega | (simp only [World.size_alloc, World.size_setCell, World.size_drew, size_drewN']; omega)))
    have hB5 : Below w.heap.size w w5 := hB4.trans (hb5.mono hB4.size)
    have HV5 := Lib.hid hv5
    clear hv5
    have hz5 := hB5.size
    have HV6 := Lib.hid ((HV4.out.below hb5).up hb5.size)
    have z0 : w5.cell? ⟨w.heap.size, 0, none⟩ = some (.int .i64 c.st) := by rw [hb5c0, hb4c0]; exact y0
    have z1 : w5.cell? ⟨w.heap.size, 1, none⟩ = some (.int .i64 c.sr) := by rw [hb5c0, hb4c0]; exact y1
    have z2 : w5.cell? ⟨w.heap.size, 2, none⟩ = some (.slice AM c.nm cm) := by rw [hb5c0, hb4c0]; exact y2
    have z3 : w5.cell? ⟨w.heap.size, 3, none⟩ = some (.slice AD c.nd cd) := by rw [hb5c0, hb4c0]; exact y3
    have z4 : w5.cell? ⟨w.heap.size + 1, 0, none⟩ = some (.bool s0) := by rw [hb5c1, hb4c1]; exact y4
    have z5 : w5.cell? ⟨w.heap.size + 1, 1, none⟩ = some (.slice A0 n0 c0) := by rw [hb5c1, hb4c1]; exact y5
    have z6 : w5.cell? ⟨w.heap.size + 1, 2, none⟩ = some (.slice B0 m0 d0) := by rw [hb5c1, hb4c1]; exact y6
    have hw5 : w.heap.size + 2 < w5.heap.size := by have := hb4.size; have := hb5.size; omega
    clear hb4c0 hb4c1 hb5c0 hb5c1 hb4f0 hb4f1 hb5f0 hb5f1 y0 y1 y2 y3 y4 y5 y6 y7 y8 HV4
    go_wp2
    go_loopw [55, 9] (fun i x wr => ∃ (k : Nat) (A : Option Addr) (ca : Nat), k ≤ b ∧ i = .int .i64 (k : Int) ∧ x = .slice A c.nd ca ∧ RowA wr wr.heap.size A c.nd (can (c.run false (valR r) (a + k))) ∧ Below w5.heap.size w5 wr) (fun i _ _ => b - (intOf i).toNat)
    case atStart => exact ⟨0, _, _, Nat.zero_le _, rfl, rfl, HV6.out, Below.refl _ _⟩
    case round =>
      obtain ⟨k, A, ca, hk, rfl, rfl, hv, hb⟩ := hrel
      have HV := Lib.hid hv
      clear hv
      have hbz := hb.size
      have hbw : Below w.heap.size w wr := hB5.trans (hb.mono (by omega))
      have x0 := (hb.cell (by show w.heap.size < _; omega)).trans z0
      have x1 := (hb.cell (by show w.heap.size < _; omega)).trans z1
      have x2 := (hb.cell (by show w.heap.size < _; omega)).trans z2
      have x3 := (hb.cell (by show w.heap.size < _; omega)).trans z3
      have x4 := (hb.cell (by show w.heap.size + 1 < _; omega)).trans z4
      have x5 := (hb.cell (by show w.heap.size + 1 < _; omega)).trans z5
      have x6 := (hb.cell (by show w.heap.size + 1 < _; omega)).trans z6
      by_cases hlt : k < b
      · (go_wp2_with fail; (with_reducible refine (K5.out _ (a + k) _ _ (by omega) HV.out hbw).mono ?_); rintro e w6 ⟨⟨A6, k6, rfl, hv6⟩, hb6⟩; have hb6z := Below.size hb6; (try simp only [World.size_alloc, World.size_setCell, World.size_drew, size_drewN'] at hb6z))
        have HV7 := Lib.hid hv6
        clear hv6
        go_wp2
        go_roundw
        case rel => exact ⟨k + 1, A6, k6, by omega, by go_num, rfl, HV7.out, hb.trans (hb6.mono hbz)⟩
        case measure => simp [intOf]; omega
      · obtain rfl : k = b := by omega
        have HQ := Lib.hid (HV5.out.below hb)
        (go_wp2_with fail; (with_reducible refine (rats_same HV.out HQ.out hnd (fun s _ => hsz.out _ _ (by omega))).mono ?_); rintro e w6 ⟨rfl, hb6⟩; have hb6z := Below.size hb6; (try simp only [World.size_alloc, World.size_setCell, World.size_drew, size_drewN'] at hb6z))
        go_wp2
        go_ret
        exact ⟨rfl, hbw.trans (hb6.mono hbw.size)⟩
end Go.Proofs.YtemejneabpjfhaaGreatDoor
