/- Contracts of functions and lemmas, used by the proofs of the given statements. No condition beyond those that each lemma names. -/
import Derived.Test.YtnljncncnohncaaDoorLinH
import Derived.Test.YtnljncncnohncaaDoorTextD
namespace Go.Proofs.YtnljncncnohncaaDoor
open Go.RowKit
set_option linter.unusedSimpArgs false
set_option linter.unusedVariables false
set_option maxRecDepth 20000
attribute [local irreducible] nv wp win plainB validR valR canR
/-! ## the law's ints: a matrix out of ints -/
theorem wpList_appR1 {w : World} {ops : Array Oper} {rest : List Oper} {o : Oper} {a : Act} {Q : Exit → Act → World → Prop} (hgd : o.guard = none) (s x : Operand)
    (ho : o.op = .call { callee := .builtin .append, args := #[s, x], argTypes := #[23, 23] })
    (b0 : Nat) (A : Option Addr) (c n : Nat) (R : Nat → Rw) (hs : a.eval s = .slice A n c) (hown : OwR w b0 A c n R)
    (B : Nat) (sg : Bool) (A1 : Option Addr) (n1 c1 : Nat) (B1 : Option Addr) (m1 d1 : Nat) (r : Rw) (hx : a.eval x = .slice (some ⟨B, 0, none⟩) 1 1)
    (hc0 : w.cell? ⟨B, 0, none⟩ = some (.bool sg)) (hc1 : w.cell? ⟨B, 1, none⟩ = some (.slice A1 n1 c1)) (hc2 : w.cell? ⟨B, 2, none⟩ = some (.slice B1 m1 d1)) (hr : RdS w b0 (rv sg A1 n1 c1 B1 m1 d1) r)
    (hn : n ≤ 1000000) (hbase : b0 ≤ w.heap.size)
    (h : ∀ A' cap w', OwR w' b0 A' cap (n + 1) (upd R n r) → w.grownBy w' (Value.slice A n c).ownBlock → (∀ q, (Value.slice A' (n + 1) cap).ownBlock = some q → (Value.slice A n c).ownBlock = some q ∨ w.heap.size ≤ q) → wpList Tryd.prog ops Q rest (a.put o.dst (.slice A' (n + 1) cap)) w') : wpList Tryd.prog ops Q (o :: rest) a w := by
  obtain ⟨i0, hi0, hz0, hz1, hz2⟩ := info_parts ratInfo
  have hown0 := hown
  obtain ⟨V, hV, hown⟩ := hown
  refine wpList_append_lies _ hgd s x 23 ho b0 37 i0 _ 3 56 Tryd.underlying23 hi0 hz0 hz1 hz2 rfl (by omega) _ n _ hs hown ⟨B, 0, none⟩ 1 1 (c3 (rv sg A1 n1 c1 B1 m1 d1)) hx rfl ?_ ?_ (by omega) (by unfold maxLen; omega) (by omega) hbase w.heap.size rfl ?_
  · intro j u hu
    rw [addr_add, Nat.zero_add]
    match j, hu with
    | 0, hu => simp [c3] at hu; subst hu; exact hc0
    | 1, hu => simp [c3] at hu; subst hu; exact hc1
    | 2, hu => simp [c3] at hu; subst hu; exact hc2
    | j + 3, hu => simp [c3] at hu
  · intro u hu
    simp [c3] at hu
    rcases hu with rfl | rfl | rfl <;> rfl
  · intro g cap w' h1 h2 h3 h4
    refine h _ cap w' (OwR.snoc (A := A) (c := c) hV hr (Kp.of_grown h2 ?_) h1) h2 (fun q hq => by injection hq with hq; subst hq; exact h3.imp id fun e => by show w.heap.size ≤ g; omega)
    intro k hk
    cases e : A with
    | none => rw [e] at hk; cases hk
    | some a =>
      rw [e] at hk
      injection hk with hk
      subst hk
      exact hown0.blockA e
/-- a matrix of the call's own, its rows anywhere among the call's own blocks -/
def MatO (w : World) (b : Nat) (A : Option Addr) (c n : Nat) (len : Nat → Nat) (M : Nat → Nat → Rat) : Prop :=
  ∃ Ar cp, w.ownsRow b 23 1 (.slice A n c) n (rowsC n Ar len cp) ∧ ∀ j, j < n → OwR w b (Ar j) (cp j) (len j) (can (M j))
theorem MatO.nil_ (w : World) (b : Nat) (len : Nat → Nat) (M : Nat → Nat → Rat) : MatO w b none 0 0 len M := ⟨fun _ => none, fun _ => 0, own_nil w b _ 1, fun j h => by omega⟩
theorem MatO.below {w w' : World} {b c n : Nat} {A : Option Addr} {len : Nat → Nat} {M : Nat → Nat → Rat} (h : MatO w b A c n len M) (hb : Below w.heap.size w w') : MatO w' b A c n len M := by
  obtain ⟨Ar, cp, h1, h2⟩ := h
  exact ⟨Ar, cp, own_below h1 hb, fun j hj => (h2 j hj).below hb⟩
theorem Rds.blk {w : World} {s n : Nat} {A : Option Addr} {xs : List Value} (h : Rds w w.heap.size s A n xs) (hn : 0 < n) : BlkIn (fun b => b < w.heap.size) A n := by
  intro _ a ha
  obtain ⟨b, off, e, hb, _⟩ := h.2 hn
  rw [e] at ha
  injection ha with ha
  subst ha
  exact hb
theorem OwR.ri {w : World} {b c n : Nat} {A : Option Addr} {R : Nat → Rw} (h : OwR w b A c n R) (hb : b ≤ w.heap.size) : RowI w w.heap.size A n R := by
  obtain ⟨V, h1, h2⟩ := h.ra
  refine ⟨V, fun k hk => (h1 k hk).base hb, h2, fun hn => ?_⟩
  exact Rds.blk h2 hn hn
theorem MatO.mi {w : World} {b c n : Nat} {A : Option Addr} {len : Nat → Nat} {M : Nat → Nat → Rat} (h : MatO w b A c n len M) (hb : b ≤ w.heap.size) : MatI w w.heap.size A n len (fun i => can (M i)) := by
  obtain ⟨Ar, cp, h1, h2⟩ := h
  have h3 := Rds.of_own h1
  exact ⟨Ar, cp, h3, fun hn => Rds.blk h3 hn hn, fun i hi => ⟨(h2 i hi).cap, (h2 i hi).ri hb⟩⟩
theorem wpList_appM {w : World} {ops : Array Oper} {rest : List Oper} {o : Oper} {a : Act} {Q : Exit → Act → World → Prop} (hgd : o.guard = none) (s x : Operand)
    (ho : o.op = .call { callee := .builtin .append, args := #[s, x], argTypes := #[22, 22] })
    (b : Nat) (A : Option Addr) (c n : Nat) (len : Nat → Nat) (M : Nat → Nat → Rat) (hs : a.eval s = .slice A n c) (hown : MatO w b A c n len M)
    (B : Nat) (hx : a.eval x = .slice (some ⟨B, 0, none⟩) 1 1) (A1 : Option Addr) (c1 : Nat) (hc0 : w.cell? ⟨B, 0, none⟩ = some (.slice A1 (len n) c1)) (hr : OwR w b A1 c1 (len n) (can (M n))) 
    (hn : n ≤ 1000000) (hbase : b ≤ w.heap.size)
    (h : ∀ A' c' w', MatO w' b A' c' (n + 1) len M → Below b w w' → wpList Tryd.prog ops Q rest (a.put o.dst (.slice A' (n + 1) c')) w') : wpList Tryd.prog ops Q (o :: rest) a w := by
  obtain ⟨Ar, cp, h1, h2⟩ := hown
  have hrd : Rds w w.heap.size 1 (some ⟨B, 0, none⟩) 1 [.slice A1 (len n) c1] := ⟨rfl, fun _ => ⟨B, 0, rfl, lt_of_cell hc0, fun j u hu => by
    rw [Nat.zero_add]
    match j, hu with
    | 0, hu => simp at hu; subst hu; exact hc0
    | j + 1, hu => simp at hu⟩⟩
  have hblk : ∀ k, (Value.slice A n c).ownBlock = some k → ∃ cur, w.heap[k]? = some (.cells cur 23 (0, 0)) := by
    intro k hk
    rcases h1.2 with ⟨h, _⟩ | ⟨g', cap, cur, e, hb, hg, _⟩
    · rw [h] at hk; cases hk
    · rw [e] at hk; injection hk with hk; subst hk; exact ⟨cur, hg⟩
  refine wpList_app hgd s x 22 ho b 23 _ 1 24 Tryd.underlying22 sliceInfo rfl (by decide) A c n _ hs h1 w.heap.size _ 1 1 _ hx hrd (by intro u hu; simp at hu; subst hu; rfl) (by unfold maxLen; omega) (by omega) hbase ?_
  intro A' c' w' g1 g2 g3 g4
  have hkp : Kp b w w' := by
    have : ∀ k, b ≤ k → True := fun _ _ => trivial
    cases hrow : (Value.slice A n c).ownBlock with
    | none => rw [hrow] at g3; exact Kp.of_below ⟨g3.os, g3.tape, g3.output, g3.size, fun k hk => g3.block k hk (by simp)⟩
    | some g =>
      rw [hrow] at g3
      obtain ⟨cur, hc⟩ := hblk g hrow
      refine Kp.grown g3 ?_ hc (by decide)
      exact (World.ownsRow.lt h1 g hrow).1
  have hkeep : ∀ {A0 : Option Addr} {c0 k : Nat} {R : Nat → Rw}, OwR w b A0 c0 k R → OwR w' b A0 c0 k R := fun {A0 c0 k R} h0 => h0.keepA g3 hkp fun a0 ha0 e => by
    obtain ⟨_, cur1, e1⟩ := h0.blockA ha0
    obtain ⟨cur2, e2⟩ := hblk _ e
    rw [e1] at e2
    injection e2 with e2
    injection e2 with _ e2
    exact absurd e2 (by decide)
  refine h A' c' w' ⟨upd Ar n A1, upd cp n c1, ?_, fun j hj => ?_⟩ g2
  · have e : rowsC (n + 1) (upd Ar n A1) len (upd cp n c1) = rowsC n Ar len cp ++ [.slice A1 (len n) c1] := by
      unfold rowsC
      rw [List.range_succ, List.map_append]
      congr 1
      · exact List.map_congr_left fun i hi => by rw [upd_ne _ _ (by have := List.mem_range.1 hi; omega), upd_ne _ _ (by have := List.mem_range.1 hi; omega)]
      · simp [upd_same]
    rw [e]
    exact g1
  · by_cases e : j = n
    · subst e; rw [upd_same, upd_same]; exact hkeep hr
    · rw [upd_ne _ _ e, upd_ne _ _ e]; exact hkeep (h2 j (by omega))
/-- a matrix of ints, as the law writes it down -/
structure IntsA (w : World) (g n : Nat) (len Ib : Nat → Nat) (X : Nat → Nat → Nat) : Prop where
  rows : ∀ i, i < n → w.cell? ⟨g, i, none⟩ = some (.slice (some ⟨Ib i, 0, none⟩) (len i) (len i))
  cell : ∀ i, i < n → ∀ k, k < len i → w.cell? ⟨Ib i, k, none⟩ = some (.int .i64 (X i k : Int))
def RetO (b n : Nat) (len : Nat → Nat) (M : Nat → Nat → Rat) (e : Ending) (w' : World) : Prop := ∃ A c, e = .returned (.slice A n c) ∧ MatO w' b A c n len M
set_option maxHeartbeats 4000000 in
theorem ints_any {w : World} {g n : Nat} {len Ib : Nat → Nat} {X : Nat → Nat → Nat} (h : IntsA w g n len Ib X) (hn : n ≤ 1000) (hl : ∀ i, i < n → len i ≤ 1000) (hx : ∀ i k, i < n → k < len i → X i k < 4611686018427387904) :
    Calls Tryd.prog 38 #[.slice (some ⟨g, 0, none⟩) n n] w fun e w' => RetO w.heap.size n len (fun i k => (X i k : Rat)) e w' ∧ Below w.heap.size w w' := by
  have HX := Lib.hid hx
  have HL := Lib.hid hl
  have HI := Lib.hid h
  clear hx hl h
  obtain ⟨M, hM⟩ : ∃ M : Nat → Nat → Rat, M = fun i k => (X i k : Rat) := ⟨_, rfl⟩
  have HM := Lib.hid hM
  rw [← hM]
  clear hM
  go_enter Tryd.func38, Tryd.ntmps38
  go_wp2
  go_loopw [3, 11] (fun a i wr => ∃ k A c, k ≤ n ∧ i = .int .i64 (k : Int) ∧ a = .slice A k c ∧ MatO wr w.heap.size A c k len M ∧ Below w.heap.size w wr) (fun _ i _ => n - (intOf i).toNat)
  case atStart => exact ⟨0, none, 0, Nat.zero_le _, rfl, rfl, MatO.nil_ _ _ _ _, Below.refl _ _⟩
  case round =>
    obtain ⟨k, A, c, hk, rfl, rfl, own, hb⟩ := hrel
    have hbz := hb.size
    by_cases hlt : k < n
    · have hc0 := HI.out.rows k hlt
      have hc1 : wr.cell? ⟨g, k, none⟩ = some (.slice (some ⟨Ib k, 0, none⟩) (len k) (len k)) := (hb.cell (lt_of_cell hc0)).trans hc0
      have hlk := HL.out k hlt
      have HC := Lib.hid (HI.out.cell k hlt)
      clear hc0
      obtain ⟨wq, hwq⟩ : ∃ wq, wq = wr := ⟨_, rfl⟩
      subst hwq
      go_wp2
      go_loopw [6, 17] (fun a i wr => ∃ m A c, m ≤ len k ∧ i = .int .i64 (m : Int) ∧ a = .slice A m c ∧ OwR wr w.heap.size A c m (can (M k)) ∧ (∀ q, (Value.slice A m c).ownBlock = some q → wq.heap.size ≤ q) ∧ Below wq.heap.size wq wr) (fun _ i _ => len k - (intOf i).toNat)
      case atStart => exact ⟨0, none, 0, Nat.zero_le _, rfl, rfl, OwR.nil_ _ _ _, (fun q hq => nomatch hq), Below.refl _ _⟩
      case round =>
        obtain ⟨m, A2, c2, hm, rfl, rfl, own2, hfar, hb2⟩ := hrel
        have HF := Lib.hid hfar
        clear hfar
        have hb2z := hb2.size
        by_cases hlt2 : m < len k
        · have hd0 := HC.out m hlt2
          have hd1 : wr.cell? ⟨Ib k, m, none⟩ = some (.int .i64 (X k m : Int)) := ((hb.trans (hb2.mono hbz)).cell (lt_of_cell hd0)).trans hd0
          have K := Lib.hid (fun W => rofQ (X k m) W (HX.out k m hlt hlt2))
          clear hd0
          have HO := Lib.hid own2
          clear own2
          have hM0 : M k m = (X k m : Rat) := by rw [HM.out]
          rw [← hM0] at K
          have HM0 := Lib.hid hM0
          clear hM0
          go_wp2_with (first | ((go_at_call 50; (with_reducible refine (K.out _).mono ?_); rintro e w3 ⟨⟨v3, rfl, own3⟩, hb3⟩; have hb3z := Below.size hb3; (try simp only [World.size_alloc, World.size_setCell, World.size_drew] at hb3z)); obtain ⟨s3, A3, n3, c3', B3, m3, d3, rfl⟩ := own3.form) | (at_builtin; refine wpList_appR1 rfl (.tmp 21) (.tmp 24) rfl w.heap.size A2 c2 m (can (M k)) (by simp [Act.eval]) (HO.out.below (by have z0 := Below.size hb3; (try simp only [World.size_alloc, World.size_setCell, World.size_drew, size_drewN'] at z0 ⊢; skip); repeat' (first | (with_reducible exact Below.refl _ _) | (with_reducible assumption) | (with_reducible refine Below.alloc ?_ ?_ _) | (with_reducible refine Below.drew ?_) | (with_reducible refine below_drewN ?_ _) | (with_reducible refine Below.setCell ?_ ?_ _) | (with_reducible refine Below.trans ?_ (Below.mono (by with_reducible assumption) ?_)) | omega | (simp only [World.size_alloc, World.size_setCell, World.size_drew, size_drewN']; omega) | go_size))) w3.heap.size s3 A3 n3 c3' B3 m3 d3 (canR (M k m)) (by simp [Act.eval]) (by simp) (by simp) (by simp) ((own3.below ((Below.refl _ _).alloc (Nat.le_refl _) _)).rs) (by omega) (by simp; omega) ?_; intro A5 c5 w5 own5 hg5 hf5) | fail)
          rw [upd_can, upd_self] at own5
          have hw : Below wq.heap.size wq w5 := by
            refine hb2.trans (((hb3.mono hb2z).alloc (by omega) _).trans (below_of_row hg5 (fun q hq => HF.out q hq) (by simp; omega)))
          refine ⟨⟨m + 1, A5, c5, by omega, by go_num, rfl, own5, fun q hq => ?_, hw⟩, by simp [intOf]; omega⟩
          rcases hf5 q hq with h | h
          · exact HF.out q h
          · simp at h; omega
        · have : m = len k := by omega
          subst this
          go_wp2_with (first | (at_builtin; refine wpList_appM rfl (.tmp 27) (.tmp 29) rfl w.heap.size A c k len M (by simp [Act.eval]) ((own.below hb2).below ((Below.refl _ _).alloc (Nat.le_refl _) _)) wr.heap.size (by simp [Act.eval]) A2 c2 (by simp) ((own2.below ((Below.refl _ _).alloc (Nat.le_refl _) _))) (by omega) (by simp; omega) ?_; intro A5 c5 w5 own5 hb5) | fail)
          exact ⟨⟨k + 1, A5, c5, by omega, by go_num, rfl, own5, hb.trans (((hb2.mono hbz).alloc (by omega) _).trans hb5)⟩, by simp [intOf]; omega⟩
    · have : k = n := by omega
      subst this
      go_wp2
      go_ret
      exact ⟨⟨A, c, rfl, own⟩, hb⟩
end Go.Proofs.YtnljncncnohncaaDoor
