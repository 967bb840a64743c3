/- Contracts of functions and lemmas, used by the proofs of the given statements. No condition beyond those that each lemma names. -/
import Derived.Test.YtoiopnmphbnjaaaGreatDoorDynMove
import Derived.Test.YtoiopnmphbnjaaaGreatDoorJDynS
namespace Go.Proofs.YtoiopnmphbnjaaaGreatDoor
open Go.RowKit
open Go.Maps Go.WideMaps
set_option linter.unusedSimpArgs false
set_option linter.unusedVariables false
set_option maxRecDepth 20000
attribute [local irreducible] nv wp win plainB validR valR canR kyL
/-! ## chain.maker: move, whatever the rate; the rates of an event -/
/-- what move answers -/
def MvR (K : MB) (N k : Nat) (R : Nat → Nat → Rat) (o : Option RS) (e : Ending) (w' : World) : Prop :=
  match o with
  | none => e = .returned (.iface 80 (.int .i64 4))
  | some z => e = .returned .nilIface ∧ ∃ As cs, MKI w' K (N + 1) z.1 (fun a b => if a = k then z.2 b else R a b) As cs
section
variable {w : World} {K : MB} {N cs k i : Nat} {x : RS} {R G : Nat → Nat → Rat} {As : Option Addr} {S : DS} {l : List DS}
set_option maxHeartbeats 4000000 in
theorem move_zero {v : Value} {fid : FuncId} (h : RdS w K.b0 v (canR 0)) :
    Calls Tryz.prog 46 #[.pointer (some ⟨K.m, 0, none⟩), .int .i64 (k : Int), v, .func (.func fid) #[] #[], .int .i64 (i : Int)] w fun e w' => e = .returned .nilIface ∧ Below w.heap.size w w' := by
  have KS := Lib.hid (fun X (hX : Below w.heap.size w X) => signQ (L := 1) (((h.kp (Kp.of_below hX)).canQ (Sz.zero (by omega)))) (by omega) (by omega))
  have hs : sgnQ 0 = 0 := rfl
  rw [hs] at KS
  obtain ⟨sv, Av, av, cv, Bv, bv, dv, rfl⟩ := h.form
  clear h hs
  go_enter Tryz.func46, Tryz.ntmps46
  go_wp2_with fail
  refine (KS.out _ (by (skip); repeat' (first | (with_reducible exact Below.refl _ _) | (with_reducible assumption) | (with_reducible refine Below.alloc ?_ ?_ _) | (with_reducible refine Below.drew ?_) | (with_reducible refine below_drewN ?_ _) | (with_reducible refine Below.setCell ?_ ?_ _) | (with_reducible refine Below.trans ?_ (Below.mono (by with_reducible assumption) ?_)) | omega | (simp only [ZA, ZS, ZD, ZN]; omega) | go_size))).mono ?_
  rintro e w1 ⟨rfl, hb1⟩
  have hbA : Below w.heap.size w w1 := (by have z0 := Below.size hb1; (try simp only [ZA, ZS, ZD, ZN] at z0 ⊢; skip); repeat' (first | (with_reducible exact Below.refl _ _) | (with_reducible assumption) | (with_reducible refine Below.alloc ?_ ?_ _) | (with_reducible refine Below.drew ?_) | (with_reducible refine below_drewN ?_ _) | (with_reducible refine Below.setCell ?_ ?_ _) | (with_reducible refine Below.trans ?_ (Below.mono (by with_reducible assumption) ?_)) | omega | (simp only [ZA, ZS, ZD, ZN]; omega) | go_size))
  go_wp2_with fail
  go_returns
  exact ⟨rfl, hbA⟩
theorem mv_any {v : Value} {q : Rat} {fid : FuncId} {s : DS} (h : MKI w K N x.1 (fun a b => if a = k then x.2 b else R a b) As cs) (hk : k < x.1.length) (hs : x.1[k]'hk = s) (ht : TabW w) (n64 : K.r.ng ≤ 64) (hv : RdS w K.b0 v (canR q)) (hq : 0 ≤ q) (hsz : Sz 100000000 q)
    (hx : ∀ b, 0 ≤ x.2 b ∧ Sz 100000000 (x.2 b)) (hlen : S.2.length = K.r.ng) (hf : S.1 < 16777216) (hm : ∀ i, i < K.r.ng → -1 ≤ S.2.getD i 0 ∧ S.2.getD i 0 ≤ 16) (h256 : x.1.length ≤ 256) (hN : N ≤ 100000)
    (eg : ∀ args W, (callFunc fid args).run Tryz.prog W = .ok (.enter fid args) W)
    (HT : 0 < q → ∀ X B d, Below w.heap.size w X → RdJ X B K.r.ng (fun i => s.2.getD i 0) → Calls Tryz.prog fid #[dyv K.r K.AG K.cg K.AF K.cf K.AR K.cr, .agg #[.int .i64 (s.1 : Nat), .slice B K.r.ng d], .int .i64 (i : Int)] X fun x w' => StRet 0 X.heap.size K.r.ng S x w' ∧ Below X.heap.size X w') :
    Calls Tryz.prog 46 #[.pointer (some ⟨K.m, 0, none⟩), .int .i64 (k : Int), v, .func (.func fid) #[] #[], .int .i64 (i : Int)] w fun e w' => MvR K N k R (step1 x S q) e w' ∧ Kw K w w' := by
  by_cases hp : 0 < q
  · have hms : MvS w K k x.1 (fun a b => if a = k then x.2 b else R a b) S v q := ⟨ht, hk, n64, hv, hp, hsz, by rw [if_pos rfl]; exact (hx _).1, by rw [if_pos rfl]; exact (hx _).2, hlen, hf, hm, h256⟩
    refine (move_ok h hms hN eg (fun X B d hX hr => ?_)).mono fun e w' ⟨h1, h2⟩ => ⟨?_, h2⟩
    · rw [hs] at hr ⊢
      exact HT hp X B d hX hr
    · unfold MvRet at h1
      rw [step1_p hp]
      by_cases hr : S ∈ x.1 ∨ x.1.length < 256
      · rw [if_pos hr] at h1
        obtain ⟨he, A', c', hi⟩ := h1
        unfold stepR
        rw [if_neg (fun h => by
          rcases hr with hr | hr
          · exact h.1 hr
          · have : x.1.length = 256 := h.2
            omega)]
        refine ⟨he, A', c', hi.congr fun a b hab => ?_⟩
        by_cases ea : a = k
        · subst ea
          simp
        · simp [ea]
      · rw [if_neg hr] at h1
        unfold stepR
        rw [if_pos ⟨fun h => hr (.inl h), by have : ¬ x.1.length < 256 := fun h => hr (.inr h); show x.1.length = 256; omega⟩]
        exact h1
  · have hq0 : q = 0 := Rat.le_antisymm (Rat.not_lt.1 hp) hq
    subst hq0
    refine (move_zero hv).mono fun e w' ⟨h1, h2⟩ => ⟨?_, Kw.of_below h2⟩
    rw [step1_0 hp]
    exact ⟨h1, As, cs, (h.below h2).more (by omega)⟩
end
section
variable {w : World} {AG AF AR Am : Option Addr} {cg cf cr cm : Nat} {r : DyR} {F e : Nat} {M : List Int}
theorem drate_ok (h : DyI w AG AF AR r) (hs : DyS r) (hc : codeD r = 0) (st : StOk r F M) (rj : RdJ w Am r.ng (fun i => M.getD i 0)) (he : e < r.v.toNat) :
    Calls Tryz.prog 21 #[dyv r AG cg AF cf AR cr, .agg #[.int .i64 (F : Int), .slice Am r.ng cm], .int .i64 (e : Int)] w fun x w' => RatRet w.heap.size (r.tr.fr (F, M) e) (r.tr.rr (F, M) e) x w' ∧ Below w.heap.size w w' := by
  cases hb : F.testBit e
  · rw [Tr.rr_no (s := (F, M)) hb]
    unfold Tr.fr
    rw [if_neg (by show ¬ F.testBit e = true; rw [hb]; decide)]
    exact drate_up h hs hc st rj he hb
  · rw [Tr.fr_no (s := (F, M)) hb]
    cases hh : heldD r.dy (F, M) e
    · unfold Tr.rr
      rw [if_pos (by show F.testBit e = true; exact hb), if_neg (by show ¬ heldD r.dy (F, M) e = true; rw [hh]; decide)]
      exact drate_free h hs hc st rj he hb hh
    · rw [Tr.rr_held (t := r.tr) (s := (F, M)) hh]
      exact drate_held h hs hc st rj he hb hh
end
end Go.Proofs.YtoiopnmphbnjaaaGreatDoor
