/- Contracts of functions and lemmas, used by the proofs of the given statements. No condition beyond those that each lemma names. -/
import Derived.Test.YtlncafhgmbhocaaGreatDoorJLmW3
import Derived.Laws.ResultCell
namespace Go.Proofs.YtlncafhgmbhocaaGreatDoor
open Go.RowKit
set_option linter.unusedSimpArgs false
set_option linter.unusedVariables false
set_option maxRecDepth 20000
attribute [local irreducible] nv wp win plainB validR valR canR mvE chkM codeC smK alk badP
/-! ## package lump: Stable -/
theorem results_tct {fn : Func} {t p u : Tmp} {ty : TypeId} (h : fn.results = #[.tmp t, .cell p ty, .tmp u]) (tmps : Array Value) (P : Program) (w : World) :
    (results fn tmps).run P w = ((asAddr (tmps.getD p undef)).run P w).andThen fun a w₁ => ((loadVar ty a).run P w₁).andThen fun v w₂ => .ok (.tuple #[tmps.getD t undef, v, tmps.getD u undef]) w₂ := by
  simp only [results, h]
  simp [Sem.run_bind, Result.andThen]
/-- a list of ints as a partition -/
def prt (P : Nat → Int) : Nat → Nat := fun i => (P i).toNat
theorem prt_is {m n : Nat} {P : Nat → Int} (h : inP m n P = true) : ∀ i, i < n → P i = ((prt P i : Nat) : Int) ∧ prt P i < m := fun i hi => by
  have := inP_iff.1 h i hi
  unfold prt
  omega
/-- what Stable answers -/
def AnsSt (z : Int → Value) (c : Chn) (n : Nat) (P : Nat → Int) (e : Ending) : Prop := ∃ (ok : Bool) (x y : Nat), e = .returned (.tuple #[.bool ok, .agg #[.int .i64 (x : Int), .int .i64 (y : Int)], z (c.codeL n P)]) ∧ (c.codeL n P = 0 → IsPr (badP c.f c.t c.q c.nm c.nd (prt P)) c.nd ok x y) ∧ (c.codeL n P ≠ 0 → ok = false ∧ x = 0 ∧ y = 0)
set_option maxHeartbeats 16000000 in
theorem lstable_any {w : World} {AM AD AV : Option Addr} {cm cd n ca : Nat} {c : Chn} {P : Nat → Int} (h : ChI w w.heap.size AM cm AD cd c) (hs : ChS c 400) (hv : PaI w AV n P) (hn : n ≤ 1000000)
    (hsz : c.Ok → ∀ p k, k ≤ c.nm → ∀ i j, Sz 400 (smK c.f c.t c.q p k i j)) :
    Calls Tryz.prog 17 #[cv c.st c.sr AM c.nm cm AD c.nd cd, .slice AV n ca] w fun e w' => AnsSt errM c n P e ∧ Below w.heap.size w w' := by
  have K1 := Lib.hid (fun W (hb : Below w.heap.size w W) => lcheck_any (ca := ca) (h.below hb) hs (hv.below hb) hn)
  have HPB := Lib.hid (fun W hb => par_below (W := W) (w := w) (o := .cells #[.int .i64 c.st, .int .i64 c.sr, .slice AM c.nm cm, .slice AD c.nd cd] 25) hb)
  have hW0z : (w.alloc (.cells #[.int .i64 c.st, .int .i64 c.sr, .slice AM c.nm cm, .slice AD c.nd cd] 25)).heap.size = w.heap.size + 1 := by simp
  by_cases h0 : c.codeL n P = 0
  · obtain ⟨hc0, hnn, hin⟩ := Chn.codeL_0 h0
    have ok := Chn.ok_iff.1 hc0
    subst hnn
    have hpp := prt_is hin
    rw [h0, errM_0] at K1
    have hn1 := ok.lo
    have hn2 := ok.hi
    obtain ⟨p, hp⟩ : ∃ p, p = prt P := ⟨_, rfl⟩
    rw [← hp] at hpp
    have hszp := hsz ok p
    have KS := Lib.hid (fun W (hb : Below w.heap.size w W) => lsums_any (ca := ca) (p := p) (h.below hb) ok hs (hv.below hb) (fun i hi => (hpp i hi).1) (fun i hi => (hpp i hi).2) hszp)
    obtain ⟨S, hS⟩ : ∃ S : Mf, S = smK c.f c.t c.q p c.nm := ⟨_, rfl⟩
    obtain ⟨B, hB⟩ : ∃ B : Nat → Nat → Bool, B = badP c.f c.t c.q c.nm c.nd p := ⟨_, rfl⟩
    have HSS : Hid (∀ i j, Sz 400 (S i j)) := by rw [hS]; exact fun i j => hszp c.nm (Nat.le_refl _) i j
    have HBN : Hid (∀ a b, p a ≠ p b → B a b = false) := fun a b e => by rw [hB]; unfold badP; rw [beq_eq_false_iff_ne.2 e]; rfl
    have HBE : Hid (∀ a b, p a = p b → B a b = !eqN c.nd (S a) (S b)) := fun a b e => by rw [hB, hS, eqN_alk e]; unfold badP; rw [e]; simp
    have HFN : Hid (∀ ok x y, IsPr B c.nd ok x y → AnsSt errM c c.nd P (.returned (.tuple #[.bool ok, .agg #[.int .i64 ((x : Nat) : Int), .int .i64 ((y : Nat) : Int)], .nilIface]))) := fun ok x y hx => ⟨ok, x, y, by rw [h0, errM_0], fun _ => by rw [← hp, ← hB]; exact hx, fun e => absurd h0 e⟩
    rw [← hS] at KS
    have HV := Lib.hid (hv.congr (P' := fun i => ((p i : Nat) : Int)) (fun i hi => (hpp i hi).1))
    obtain ⟨bp, op, rfl, hbp, -⟩ := HV.out.later (k := 0) (Below.refl _ _) (by omega)
    have hmk := fun W (hb : Below w.heap.size w W) i (hi : i < c.nd) => (by
      obtain ⟨bd, od, e, -, x⟩ := HV.out.later hb hi
      cases e
      exact x : W.cell? ⟨bp, op + i, none⟩ = some (.int .i64 ((p i : Nat) : Int)))
    have HL := Lib.hid hmk
    clear hS hB hp hpp hmk HV h hs hv h0 hc0 hin ok hsz hszp
    go_enter Tryz.func17, Tryz.ntmps17
    (go_wp2_with fail; (with_reducible refine (K1.out _ (by (skip); repeat' (first | (with_reducible exact Below.refl _ _) | (with_reducible assumption) | (with_reducible refine Below.alloc ?_ ?_ _) | (with_reducible refine Below.drew ?_) | (with_reducible refine below_drewN ?_ _) | (with_reducible refine Below.setCell ?_ ?_ _) | (with_reducible refine Below.trans ?_ (Below.mono (by with_reducible assumption) ?_)) | omega | (simp only [ZA, ZS, ZD, ZN]; omega) | go_size))).mono ?_); rintro e w1 ⟨rfl, hb1⟩; have hb1z := Below.size hb1; (try simp only [ZA, ZS, ZD, ZN] at hb1z); have hb1c0 := fun o => below_at hb1 (w.heap.size) o (by first | omega | (simp only [ZA, ZS, ZD, ZN]; omega)); have hb1f0 := fun o => below_fr hb1 (w.heap.size) o (by first | omega | (simp only [ZA, ZS, ZD, ZN]; omega)); have hb1c1 := fun o => below_at hb1 (w.heap.size + 1) o (by first | omega | (simp only [ZA, ZS, ZD, ZN]; omega)); have hb1f1 := fun o => below_fr hb1 (w.heap.size + 1) o (by first | omega | (simp only [ZA, ZS, ZD, ZN]; omega)))
    have hB1 : Below w.heap.size w w1 := (((Below.refl _ _).alloc (Nat.le_refl _) _).alloc (by simp) _).trans (hb1.mono (by simp; omega))
    (go_wp2_with fail; (with_reducible refine (KS.out _ hB1).mono ?_); rintro e w4 ⟨⟨A4, c4, rfl, r4⟩, hb4⟩; have hb4z := Below.size hb4; (try simp only [ZA, ZS, ZD, ZN] at hb4z); have hb4c0 := fun o => below_at hb4 (w.heap.size) o (by first | omega | (simp only [ZA, ZS, ZD, ZN]; omega)); have hb4f0 := fun o => below_fr hb4 (w.heap.size) o (by first | omega | (simp only [ZA, ZS, ZD, ZN]; omega)); have hb4c1 := fun o => below_at hb4 (w.heap.size + 1) o (by first | omega | (simp only [ZA, ZS, ZD, ZN]; omega)); have hb4f1 := fun o => below_fr hb4 (w.heap.size + 1) o (by first | omega | (simp only [ZA, ZS, ZD, ZN]; omega)))
    have u0 : w4.cell? ⟨w.heap.size + 1, 0, none⟩ = some (.int .i64 0) := by rw [hb4c1, hb1c1, World.cell?_alloc_at _ _ _ _ (by simp)]; rfl
    have u1 : w4.cell? ⟨w.heap.size + 1, 1, none⟩ = some (.int .i64 0) := by rw [hb4c1, hb1c1, World.cell?_alloc_at _ _ _ _ (by simp)]; rfl
    have uf : ∀ i, w4.frozen? ⟨w.heap.size + 1, i, none⟩ = false := fun i => by rw [hb4f1, hb1f1]; simp
    have HB4 := Lib.hid (hB1.trans (hb4.mono hB1.size))
    have hw4 : w.heap.size + 1 < w4.heap.size := by omega
    have H4 := Lib.hid r4
    clear r4 hb1 hb4 hb1c0 hb4c0 hb1f0 hb4f0 hb1c1 hb4c1 hb1f1 hb4f1 hB1 K1 KS
    go_wp2
    go_loopw [23] (fun i wr => ∃ k : Nat, k ≤ c.nd ∧ i = .int .i64 (k : Int) ∧ (∀ a b, a < k → a < b → b < c.nd → B a b = false) ∧ Below w4.heap.size w4 wr) (fun i _ => c.nd - (intOf i).toNat)
    case atStart => exact ⟨0, Nat.zero_le _, rfl, fun a b h1 => by omega, Below.refl _ _⟩
    case round =>
      obtain ⟨k, hk, rfl, hv, hb⟩ := hrel
      have HV := Lib.hid hv
      clear hv
      have hz := hb.size
      by_cases hlt : k < c.nd
      · have hki : (k : Int) < (c.nd : Int) := by omega
        have hk0 : (0 : Int) ≤ (k : Int) := by omega
        have HB := Lib.hid hb
        clear hb
        obtain ⟨wo, hwo⟩ : ∃ wo, wo = wr := ⟨_, rfl⟩
        subst hwo
        go_wp2
        go_loopw [10] (fun j wr => ∃ m : Nat, k < m ∧ m ≤ c.nd ∧ j = .int .i64 (m : Int) ∧ (∀ b, k < b → b < m → B k b = false) ∧ Below w4.heap.size w4 wr) (fun j _ => c.nd - (intOf j).toNat)
        case atStart => exact ⟨k + 1, by omega, by omega, by go_num, fun b h1 h2 => by omega, HB.out⟩
        case round =>
          clear HB hz
          obtain ⟨m, hkm, hm, rfl, hv, hb⟩ := hrel
          have HW := Lib.hid hv
          clear hv
          have hz := hb.size
          by_cases hml : m < c.nd
          · have hmi : (m : Int) < (c.nd : Int) := by omega
            have hm0 : (0 : Int) ≤ (m : Int) := by omega
            have hbw := HB4.out.trans (hb.mono HB4.out.size)
            have pk := HL.out wr hbw k hlt
            have pm := HL.out wr hbw m hml
            obtain ⟨bx, ox, Ak, ck, rfl, hbx, e0, -, rk⟩ := H4.out.at_ hlt
            obtain ⟨bx', ox', Am, dm, ee, hbx', e1, -, rm⟩ := H4.out.at_ hml
            cases ee
            have x0 := (hb.cell (p := ⟨bx, ox + k, none⟩) hbx).trans e0
            have x1 := (hb.cell (p := ⟨bx, ox + m, none⟩) hbx).trans e1
            have KE := Lib.hid (fun W (hb' : Below w4.heap.size w4 W) => lequal_any (c := ck) (d := dm) (rk.ra.below hb') (rm.ra.below hb') (fun s _ => HSS.out k s) (fun s _ => HSS.out m s) (by omega) (by omega) (by omega))
            have hBN := HBN.out k m
            have hBE := HBE.out k m
            obtain ⟨ans, hans⟩ : ∃ ans, ans = eqN c.nd (S k) (S m) := ⟨_, rfl⟩
            rw [← hans] at KE hBE
            obtain ⟨x, hx⟩ : ∃ x, x = p k := ⟨_, rfl⟩
            obtain ⟨y, hy⟩ : ∃ y, y = p m := ⟨_, rfl⟩
            rw [← hx] at pk hBN hBE
            rw [← hy] at pm hBN hBE
            have KE2 := Lib.hid (fun W (hb' : Below wr.heap.size wr W) => KE.out W (hb.trans (hb'.mono hz)))
            have HB := Lib.hid hb
            have HBW := Lib.hid hbw
            clear hans hx hy e0 e1 rk rm hb hbw KE
            by_cases hxy : x = y
            · have hb9 := hBE hxy
              subst hxy
              have a0 := fun z : Sub wr => z.cell pk
              have a1 := fun z : Sub wr => z.cell pm
              have a2 := fun z : Sub wr => z.cell x0
              have a3 := fun z : Sub wr => z.cell x1
              cases ans
              · have HBAD := Lib.hid (show B k m = true from by rw [hb9]; rfl)
                clear hb9 hBN hBE
                go_wp2
                ((refine wp_region_quiet_bel (by kernel_rfl) (by kernel_rfl) ?_); (repeat (go_big_quiet_step ((go_at_call 53; with_reducible exact Calls.quiet_bel (KE2.out _ (Sub.bel _)))))); (refine wpQuiet_nil ?_); rintro w8 ⟨⟨_, hb8⟩, rfl⟩; (try dsimp only))
                have v0 := (hb8.cell (p := ⟨w.heap.size + 1, 0, none⟩) (by show w.heap.size + 1 < _; omega)).trans ((HB.out.cell (p := ⟨w.heap.size + 1, 0, none⟩) hw4).trans u0)
                have v1 := (hb8.cell (p := ⟨w.heap.size + 1, 1, none⟩) (by show w.heap.size + 1 < _; omega)).trans ((HB.out.cell (p := ⟨w.heap.size + 1, 1, none⟩) hw4).trans u1)
                have vf : ∀ i, w8.frozen? ⟨w.heap.size + 1, i, none⟩ = false := fun i => (hb8.frozen (p := ⟨w.heap.size + 1, i, none⟩) (by show w.heap.size + 1 < _; omega)).trans ((HB.out.frozen (p := ⟨w.heap.size + 1, i, none⟩) hw4).trans (uf i))
                have HB8 := Lib.hid (HBW.out.trans (hb8.mono HBW.out.size))
                clear hb8 a0 a1 a2 a3 pk pm x0 x1 KE2
                go_wp2
                (try simp only [Exit.inBlock, Exit.then])
                refine bodyPost_ret (v := .tuple #[.bool false, .agg #[.int .i64 (k : Int), .int .i64 (m : Int)], .nilIface]) ?_ rfl ⟨HFN.out false k m (.inr ⟨rfl, hkm, hml, HBAD.out, fun a b h1 h2 h3 => ?_⟩), ?_⟩
                · rw [results_tct rfl]
                  go_simp
                · rcases h3 with h3 | ⟨h3, h4⟩
                  · exact HV.out a b h3 h1 h2
                  · subst h3; exact HW.out b h1 h4
                · exact (HB8.out.setCell (by show _ ≤ _; simp) _).setCell (by show _ ≤ _; simp) _
              · have HOK := Lib.hid (show B k m = false from by rw [hb9]; rfl)
                clear hb9 hBN hBE
                go_wp2
                ((refine wp_region_quiet_bel (by kernel_rfl) (by kernel_rfl) ?_); (repeat (go_big_quiet_step ((go_at_call 53; with_reducible exact Calls.quiet_bel (KE2.out _ (Sub.bel _)))))); (refine wpQuiet_nil ?_); rintro w8 ⟨⟨_, hb8⟩, rfl⟩; (try dsimp only))
                have HB8 := Lib.hid (HB.out.trans (hb8.mono (by omega)))
                clear hb8
                go_wp2
                go_roundw
                case rel =>
                  refine ⟨m + 1, by omega, by omega, by go_num, fun b h1 h2 => ?_, HB8.out⟩
                  by_cases e : b = m
                  · rw [e]; exact HOK.out
                  · exact HW.out b h1 (by omega)
                case measure => simp [intOf]; omega
            · have HOK := Lib.hid (hBN hxy)
              have a0 := fun z : Sub wr => z.cell pk
              have a1 := fun z : Sub wr => z.cell pm
              have e3 : ((x : Int) == (y : Int)) = false := by simp; omega
              clear hBN hBE hxy
              go_wp2
              ((refine wp_region_quiet_bel (by kernel_rfl) (by kernel_rfl) ?_); (repeat (go_big_quiet_step (fail))); (refine wpQuiet_nil ?_); rintro w8 ⟨⟨_, hb8⟩, rfl⟩; (try dsimp only))
              have HB8 := Lib.hid (HB.out.trans (hb8.mono (by omega)))
              clear hb8
              go_wp2
              go_roundw
              case rel =>
                refine ⟨m + 1, by omega, by omega, by go_num, fun b h1 h2 => ?_, HB8.out⟩
                by_cases e : b = m
                · rw [e]; exact HOK.out
                · exact HW.out b h1 (by omega)
              case measure => simp [intOf]; omega
          · have hmn : m = c.nd := by omega
            have HB := Lib.hid hb
            have HMN := Lib.hid hmn
            clear hb hmn
            go_wp2
            go_roundw
            case rel =>
              refine ⟨k + 1, by omega, by go_num, fun a b h1 h2 h3 => ?_, HB.out⟩
              by_cases e : a = k
              · rw [e]; exact HW.out b (by omega) (by rw [HMN.out]; exact h3)
              · exact HV.out a b (by omega) h2 h3
            case measure => simp [intOf]; omega
      · have HK := Lib.hid (show k = c.nd by omega)
        have v0 := (hb.cell (p := ⟨w.heap.size + 1, 0, none⟩) hw4).trans u0
        have v1 := (hb.cell (p := ⟨w.heap.size + 1, 1, none⟩) hw4).trans u1
        have vf : ∀ i, wr.frozen? ⟨w.heap.size + 1, i, none⟩ = false := fun i => (hb.frozen (p := ⟨w.heap.size + 1, i, none⟩) hw4).trans (uf i)
        have HB8 := Lib.hid (HB4.out.trans (hb.mono HB4.out.size))
        clear hb
        go_wp2
        go_region
        all_goals (try go_wp2)
        all_goals (try simp only [Exit.inBlock, Exit.then])
        all_goals refine bodyPost_ret (v := .tuple #[.bool true, .agg #[.int .i64 0, .int .i64 0], .nilIface]) ?_ rfl ⟨HFN.out true 0 0 (.inl ⟨rfl, rfl, rfl, fun a b h1 h2 => HV.out a b (by rw [HK.out]; omega) h1 h2⟩), ?_⟩
        · rw [results_tct rfl]
          go_simp
        · exact ((HB8.out.setCell (by show _ ≤ _; simp) _).setCell (by show _ ≤ _; simp) _).drew
  · have HE := Lib.hid (errM_n h0)
    rw [errM_n h0] at K1
    have H0 := Lib.hid h0
    clear h hs hv h0 hsz
    go_enter Tryz.func17, Tryz.ntmps17
    (go_wp2_with fail; (with_reducible refine (K1.out _ (by (skip); repeat' (first | (with_reducible exact Below.refl _ _) | (with_reducible assumption) | (with_reducible refine Below.alloc ?_ ?_ _) | (with_reducible refine Below.drew ?_) | (with_reducible refine below_drewN ?_ _) | (with_reducible refine Below.setCell ?_ ?_ _) | (with_reducible refine Below.trans ?_ (Below.mono (by with_reducible assumption) ?_)) | omega | (simp only [ZA, ZS, ZD, ZN]; omega) | go_size))).mono ?_); rintro e w1 ⟨rfl, hb1⟩; have hb1z := Below.size hb1; (try simp only [ZA, ZS, ZD, ZN] at hb1z); have hb1c0 := fun o => below_at hb1 (w.heap.size) o (by first | omega | (simp only [ZA, ZS, ZD, ZN]; omega)); have hb1f0 := fun o => below_fr hb1 (w.heap.size) o (by first | omega | (simp only [ZA, ZS, ZD, ZN]; omega)); have hb1c1 := fun o => below_at hb1 (w.heap.size + 1) o (by first | omega | (simp only [ZA, ZS, ZD, ZN]; omega)); have hb1f1 := fun o => below_fr hb1 (w.heap.size + 1) o (by first | omega | (simp only [ZA, ZS, ZD, ZN]; omega)))
    have hB1 : Below w.heap.size w w1 := (((Below.refl _ _).alloc (Nat.le_refl _) _).alloc (by simp) _).trans (hb1.mono (by simp; omega))
    have v0 : w1.cell? ⟨w.heap.size + 1, 0, none⟩ = some (.int .i64 0) := by rw [hb1c1, World.cell?_alloc_at _ _ _ _ (by simp)]; rfl
    have v1 : w1.cell? ⟨w.heap.size + 1, 1, none⟩ = some (.int .i64 0) := by rw [hb1c1, World.cell?_alloc_at _ _ _ _ (by simp)]; rfl
    have HB1 := Lib.hid hB1
    clear hB1 hb1
    go_wp2
    go_region
    all_goals (try go_wp2)
    all_goals (try simp only [Exit.inBlock, Exit.then])
    all_goals refine bodyPost_ret (v := .tuple #[.bool false, .agg #[.int .i64 0, .int .i64 0], .iface 61 (.int .i64 (c.codeL n P))]) ?_ rfl ⟨⟨false, 0, 0, by rw [HE.out]; rfl, fun e => absurd e H0.out, fun _ => ⟨rfl, rfl, rfl⟩⟩, ?_⟩
    · rw [results_tct rfl]
      go_simp
    · exact ((HB1.out.setCell (by show _ ≤ _; simp) _).setCell (by show _ ≤ _; simp) _).drew
end Go.Proofs.YtlncafhgmbhocaaGreatDoor
namespace Go.Proofs.YtlncafhgmbhocaaGreatDoor
open Go.RowKit
set_option linter.unusedSimpArgs false
set_option linter.unusedVariables false
set_option maxRecDepth 20000
attribute [local irreducible] nv wp win plainB validR valR canR mvE chkM codeC smK alk badP nrm
/-! ## package lump: Norm, ByDown -/
/-- an answer: a partition and the number of an error -/
def AnsP (z : Int → Value) (m : Nat) (f : Nat → Int) (code : Int) (e : Ending) (w' : World) : Prop := ∃ A d, e = .returned (.tuple #[.slice A m d, z code]) ∧ PaI w' A m f
/-- the length of an answer -/
def lenC (code : Int) (n : Nat) : Nat := if code = 0 then n else 0
theorem lenC_0 {n : Nat} : lenC 0 n = n := if_pos rfl
theorem lenC_n {code : Int} {n : Nat} (h : code ≠ 0) : lenC code n = 0 := if_neg h
/-- the partition by what is down, in normal form -/
def bydF (D : Nat → Bool) (i : Nat) : Nat := if D i = D 0 then 0 else 1
set_option maxHeartbeats 8000000 in
theorem lByDown_any {w : World} {AM AD : Option Addr} {cm cd : Nat} {c : Chn} (h : ChI w w.heap.size AM cm AD cd c) (hs : ChS c 400) :
    Calls Tryz.prog 22 #[cv c.st c.sr AM c.nm cm AD c.nd cd] w fun e w' => AnsP errM (lenC c.code c.nd) (fun i => ((bydF c.D i : Nat) : Int)) c.code e w' ∧ Below w.heap.size w w' := by
  have K1 := Lib.hid (fun W (hb : Below w.heap.size w W) => chCheck (h.below hb) hs.nm hs.short)
  have HPB := Lib.hid (fun W hb => par_below (W := W) (w := w) (o := .cells #[.int .i64 c.st, .int .i64 c.sr, .slice AM c.nm cm, .slice AD c.nd cd] 25) hb)
  have HPC := Lib.hid (fun W hb => par_cells (W := W) (w := w) (a := .int .i64 c.st) (b := .int .i64 c.sr) (d := .slice AM c.nm cm) (e := .slice AD c.nd cd) (t := 25) hb)
  have hW0z : (w.alloc (.cells #[.int .i64 c.st, .int .i64 c.sr, .slice AM c.nm cm, .slice AD c.nd cd] 25)).heap.size = w.heap.size + 1 := by simp
  by_cases h0 : c.code = 0
  · have ok := Chn.ok_iff.1 h0
    have hn1 := ok.lo
    have hn2 := ok.hi
    have HDN := Lib.hid (fun W hb s hs => h.dn_later (W := W) hb (s := s) hs)
    rw [h0, errM_0] at K1
    rw [h0, lenC_0]
    obtain ⟨N, hN⟩ : ∃ N : Nat → Int, N = fun i => ((bydF c.D i : Nat) : Int) := ⟨_, rfl⟩
    have HNY : Hid (∀ k, c.D k = c.D 0 → N k = 0) := fun k e => by rw [hN]; show ((bydF c.D k : Nat) : Int) = 0; unfold bydF; rw [if_pos e]; rfl
    have HNN : Hid (∀ k, c.D k ≠ c.D 0 → N k = 1) := fun k e => by rw [hN]; show ((bydF c.D k : Nat) : Int) = 1; unfold bydF; rw [if_neg e]; rfl
    rw [← hN]
    obtain ⟨bd, od, rfl, hbd, -⟩ := HDN.out w (Below.refl _ _) 0 (by omega)
    have hd0 := fun W (hb : Below w.heap.size w W) s (hs : s < c.nd) => (by
      obtain ⟨b, o, e, -, p⟩ := HDN.out W hb s hs
      cases e
      exact p : W.cell? ⟨bd, od + s, none⟩ = some (.bool (c.D s)))
    have HDd := Lib.hid hd0
    have HW0 := Lib.hid (Below.refl (w.heap.size + 1) (w.alloc (.cells #[.int .i64 c.st, .int .i64 c.sr, .slice AM c.nm cm, .slice (some ⟨bd, od, none⟩) c.nd cd] 25)))
    clear h hs ok h0 hN hd0 HDN
    go_enter Tryz.func22, Tryz.ntmps22
    (go_wp2_with fail; (with_reducible refine (K1.out _ (by (skip); repeat' (first | (with_reducible exact Below.refl _ _) | (with_reducible assumption) | (with_reducible refine Below.alloc ?_ ?_ _) | (with_reducible refine Below.drew ?_) | (with_reducible refine below_drewN ?_ _) | (with_reducible refine Below.setCell ?_ ?_ _) | (with_reducible refine Below.trans ?_ (Below.mono (by with_reducible assumption) ?_)) | omega | (simp only [ZA, ZS, ZD, ZN]; omega) | go_size))).mono ?_); rintro e w1 ⟨rfl, hb1⟩; have hb1z := Below.size hb1; (try simp only [ZA, ZS, ZD, ZN] at hb1z); have hb1c0 := fun o => below_at hb1 (w.heap.size) o (by first | omega | (simp only [ZA, ZS, ZD, ZN]; omega)); have hb1f0 := fun o => below_fr hb1 (w.heap.size) o (by first | omega | (simp only [ZA, ZS, ZD, ZN]; omega)))
    have hB1 : Below (w.heap.size + 1) (w.alloc (.cells #[.int .i64 c.st, .int .i64 c.sr, .slice AM c.nm cm, .slice (some ⟨bd, od, none⟩) c.nd cd] 25)) w1 := by rw [← hW0z]; exact hb1
    have HB1 := Lib.hid hB1
    obtain ⟨-, -, -, y3⟩ := HPC.out _ hB1
    clear hb1 hb1c0 hb1f0 hB1
    go_wp2
    go_loopw [17, 5] (fun i os wr => ∃ (k : Nat) (A : Option Addr) (d : Nat), k ≤ c.nd ∧ i = .int .i64 (k : Int) ∧ os = .slice A k d ∧ OwZ wr (w.heap.size + 1) A d k N ∧ Below (w.heap.size + 1) w1 wr) (fun i _ _ => c.nd - (intOf i).toNat)
    case atStart => exact ⟨0, none, 0, Nat.zero_le _, rfl, rfl, OwZ.nil_ _ _ _, Below.refl _ _⟩
    case round =>
      obtain ⟨k, A, d, hk, rfl, rfl, own, hb⟩ := hrel
      clear y3
      have hb1 := HB1.out.trans hb
      have hbW := HPB.out _ hb1
      by_cases hlt : k < c.nd
      · obtain ⟨-, -, -, y3⟩ := HPC.out _ hb1
        have d0 : wr.cell? ⟨bd, od, none⟩ = some (.bool (c.D 0)) := HDd.out wr hbW 0 (by omega)
        have dk := HDd.out wr hbW k hlt
        have hki : (k : Int) < (c.nd : Int) := by omega
        have hk0 : (0 : Int) ≤ (k : Int) := by omega
        have h0n : (0 : Int) < (c.nd : Int) := by omega
        have hz1 := hb1.size
        simp only [World.size_alloc] at hz1
        have HO := Lib.hid own
        have HB := Lib.hid hb
        have hNY := HNY.out k
        have hNN := HNN.out k
        have hblk := own.blk
        have HBK := Lib.hid hblk
        obtain ⟨a, ha⟩ : ∃ a, a = c.D k := ⟨_, rfl⟩
        obtain ⟨b, hb9⟩ : ∃ b, b = c.D 0 := ⟨_, rfl⟩
        rw [← ha] at dk hNY hNN
        rw [← hb9] at d0 hNY hNN
        clear own hb ha hb9 hb1 hbW hblk
        by_cases hab : a = b
        · have HN := Lib.hid (hNY hab)
          have e1 : (a != b) = false := by rw [hab]; simp
          clear hNY hNN
          subst hab
          go_wp2_with (first | (at_builtin; refine wpList_appZ rfl (.tmp 27) (.tmp 29) rfl (w.heap.size + 1) A d k N (by first | rfl | simp [Act.eval]) (HO.out.below ((Below.refl _ _).alloc (Nat.le_refl _) _)) wr.heap.size (by first | rfl | simp [Act.eval]) (by rw [HN.out, World.cell?_alloc_at _ _ _ _ (by simp)]; rfl) (by omega) (by first | omega | (simp; omega)) ?_; intro g7 cap7 w7 own7 hgr7 hor7 hlt7) | fail)
          have hB7 : Below (w.heap.size + 1) (wr.alloc (.cells #[.int .i64 0] 3)) w7 := below_of_row hgr7 (fun q hq => (HBK.out q hq).1) (by simp; omega)
          have HB7 := Lib.hid (HB.out.trans (((Below.refl _ _).alloc (by omega) _).trans hB7))
          clear hB7 hgr7 hor7
          go_roundw
          case rel => exact ⟨k + 1, _, _, by omega, by go_num, rfl, own7, HB7.out⟩
          case measure => simp [intOf]; omega
        · have HN := Lib.hid (hNN hab)
          have hba : b = !a := by cases a <;> cases b <;> simp_all
          clear hNY hNN hab
          subst hba
          cases a
          all_goals
            go_wp2_with (first | (at_builtin; refine wpList_appZ rfl (.tmp 27) (.tmp 29) rfl (w.heap.size + 1) A d k N (by first | rfl | simp [Act.eval]) (HO.out.below ((Below.refl _ _).alloc (Nat.le_refl _) _)) wr.heap.size (by first | rfl | simp [Act.eval]) (by rw [HN.out, World.cell?_alloc_at _ _ _ _ (by simp)]; rfl) (by omega) (by first | omega | (simp; omega)) ?_; intro g7 cap7 w7 own7 hgr7 hor7 hlt7) | fail)
            have hB7 : Below (w.heap.size + 1) (wr.alloc (.cells #[.int .i64 1] 3)) w7 := below_of_row hgr7 (fun q hq => (HBK.out q hq).1) (by simp; omega)
            have HB7 := Lib.hid (HB.out.trans (((Below.refl _ _).alloc (by omega) _).trans hB7))
            clear hB7 hgr7 hor7
            go_roundw
            case rel => exact ⟨k + 1, _, _, by omega, by go_num, rfl, own7, HB7.out⟩
            case measure => simp [intOf]; omega
      · have hkn : k = c.nd := by omega
        have HO := Lib.hid own
        have HBW := Lib.hid hbW
        have HK := Lib.hid hkn
        clear own hb hb1 hbW hkn
        go_wp2
        go_ret2
        exact ⟨⟨A, d, by rw [errM_0, ← HK.out]; rfl, by rw [← HK.out]; exact HO.out.pa⟩, HBW.out⟩
  · have HE := Lib.hid (errM_n h0)
    rw [errM_n h0] at K1
    rw [lenC_n h0]
    clear h hs h0
    go_enter Tryz.func22, Tryz.ntmps22
    (go_wp2_with fail; (with_reducible refine (K1.out _ (by (skip); repeat' (first | (with_reducible exact Below.refl _ _) | (with_reducible assumption) | (with_reducible refine Below.alloc ?_ ?_ _) | (with_reducible refine Below.drew ?_) | (with_reducible refine below_drewN ?_ _) | (with_reducible refine Below.setCell ?_ ?_ _) | (with_reducible refine Below.trans ?_ (Below.mono (by with_reducible assumption) ?_)) | omega | (simp only [ZA, ZS, ZD, ZN]; omega) | go_size))).mono ?_); rintro e w1 ⟨rfl, hb1⟩; have hb1z := Below.size hb1; (try simp only [ZA, ZS, ZD, ZN] at hb1z); have hb1c0 := fun o => below_at hb1 (w.heap.size) o (by first | omega | (simp only [ZA, ZS, ZD, ZN]; omega)); have hb1f0 := fun o => below_fr hb1 (w.heap.size) o (by first | omega | (simp only [ZA, ZS, ZD, ZN]; omega)))
    have hB1 := HPB.out w1 (by rw [← hW0z]; exact hb1)
    go_wp2
    go_ret2
    exact ⟨⟨_, _, by rw [HE.out]; rfl, PaI.nil_ _ _⟩, hB1⟩
end Go.Proofs.YtlncafhgmbhocaaGreatDoor
