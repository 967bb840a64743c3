/- Contracts and lemmas for the given statements. Conditions: those alone that each names. -/
import Derived.Test.YtoiopnmphbnjaaaGreatDoorJDynW4
namespace Go.Proofs.YtoiopnmphbnjaaaGreatDoor
open Go.RowKit
set_option linter.unusedSimpArgs false
set_option linter.unusedVariables false
set_option maxRecDepth 20000
/-! ## rational.Prob, a fraction that must be zero -/
theorem mk_le_one {n d : Nat} (hd : d ≠ 0) : mkRat n d ≤ 1 ↔ n ≤ d := by
 have h0 : (0 : Rat) < ((d : Int) : Rat) := by exact_mod_cast (Nat.pos_of_ne_zero hd)
 rw [← Rat.not_lt, Rat.mkRat_eq_div, show ((d : Nat) : Rat) = ((d : Int) : Rat) from (Rat.intCast_natCast d).symm, Rat.lt_div_iff h0, Rat.one_mul, Rat.intCast_lt_intCast]
 omega
theorem prR_eq {s : Bool} {l m : List Nat} (hok : okR (s, l, m)) (hv : validR (s, l, m) = true) : prR (s, l, m) = (!s && decide (nv l ≤ nv m)) := by
 have e : valR (s, l, m) = sq s (nv l) (nv m) := by unfold valR; rw [if_pos hv]
 unfold prR
 rw [hv, e, Bool.true_and]
 unfold validR at hv
 simp only at hv
 split at hv
 · rename_i h0
   simp only [Bool.and_eq_true, List.isEmpty_iff] at h0
   obtain ⟨rfl, rfl⟩ := h0
   have hs : s = false := by simpa using hv
   subst hs
   rw [nv_nil, sq_zero]
   decide
 · simp only [Bool.and_eq_true, beq_iff_eq] at hv
   obtain ⟨⟨h1, h2⟩, h3⟩ := hv
   obtain ⟨c1, n1⟩ := (plainB_can hok.1).1 h1
   obtain ⟨c2, n2⟩ := (plainB_can hok.2).1 h2
   have p1 := can_pos c1 n1
   have p2 := can_pos c2 n2
   have hn := sq_neg (s := s) p1 p2
   cases s
   · have h4 : ¬ sq false (nv l) (nv m) < 0 := by simpa using hn
     have h5 : sq false (nv l) (nv m) ≤ 1 ↔ nv l ≤ nv m := mk_le_one p2
     rw [Bool.eq_iff_iff]
     simp only [decide_eq_true_iff, Bool.not_false, Bool.true_and, h5]
     exact ⟨fun h => h.2, fun h => ⟨Rat.not_lt.1 h4, h⟩⟩
   · have h4 : sq true (nv l) (nv m) < 0 := by simpa using hn
     rw [Bool.eq_iff_iff]
     simp only [decide_eq_true_iff, Bool.not_true, Bool.false_and]
     exact ⟨fun h => absurd h4 (Rat.not_lt.2 h.1), fun h => by cases h⟩
theorem dzeroS {w : World} {b0 : Nat} {v : Value} {r : Rw} (h : RdS w b0 v r) : Calls Tryz.prog 141 #[v] w fun e w' => e = .returned (.bool (zeR r)) ∧ Below w.heap.size w w' := by
 obtain ⟨A, c, B, d, rfl, -, -, -, -, -, -, -⟩ := h
 exact dzero_any _ _ _ _ _ _ _ _
set_option maxHeartbeats 4000000 in
theorem probS {w : World} {b0 : Nat} {v : Value} {r : Rw} (h : RdS w b0 v r) (h1 : r.2.1.length ≤ 1000) (h2 : r.2.2.length ≤ 1000) : Calls Tryz.prog 140 #[v] w fun e w' => e = .returned (.bool (prR r)) ∧ Below w.heap.size w w' := by
 have KV := Lib.hid (fun W (hb : Below w.heap.size w W) => validS ((RdS.of_in h.rdr).belowS hb) h1 h2)
 obtain ⟨A, c, B, d, rfl, c1, c2, ok, rA, rB, _, _⟩ := h
 obtain ⟨s, l, m⟩ := r
 dsimp only at *
 cases hv : validR (s, l, m)
 · have HP : Hid (prR (s, l, m) = false) := by show _ = _; unfold prR; rw [hv]; rfl
   rw [hv] at KV
   clear hv rA rB
   go_enter Tryz.func140, Tryz.ntmps140
   go_wp2_with fail
   refine (KV.out _ (by (skip); repeat' (first | (with_reducible first | exact BlR _ _ | assumption | refine BlA ?_ ?_ _ | refine BlD ?_ | refine BlN ?_ _ | refine BlS ?_ ?_ _ | refine BlT ?_ (BlM (by assumption) ?_)) | omega | (simp only [ZZ]; omega) | go_size))).mono ?_
   rintro e w1 ⟨rfl, hb1⟩
   go_wp2_with fail
   go_returns
   exact ⟨by rw [HP.out]; rfl, (by have z0 := Below.size hb1; (try simp only [ZZ] at z0 ⊢; skip); repeat' (first | (with_reducible first | exact BlR _ _ | assumption | refine BlA ?_ ?_ _ | refine BlD ?_ | refine BlN ?_ _ | refine BlS ?_ ?_ _ | refine BlT ?_ (BlM (by assumption) ?_)) | omega | (simp only [ZZ]; omega) | go_size))⟩
 · have HP := Lib.hid (prR_eq ok hv)
   have KC := Lib.hid (fun W (hb : Below w.heap.size w W) => cmp_any A B l m l.length c m.length d W rfl rfl (by omega) (by omega) c1 c2 ok.1 ok.2 (rA.on hb hb.size) (rB.on hb hb.size))
   rw [hv] at KV
   clear hv rA rB
   cases s
   · rcases Nat.lt_or_ge (nv m) (nv l) with hlt | hle
     · rw [cmpN_gt hlt] at KC
       have HF : Hid (prR (false, l, m) = false) := by show _ = _; rw [HP.out]; simp; exact hlt
       clear hlt HP
       go_enter Tryz.func140, Tryz.ntmps140
       go_wp2_with fail
       refine (KV.out _ (by (skip); repeat' (first | (with_reducible first | exact BlR _ _ | assumption | refine BlA ?_ ?_ _ | refine BlD ?_ | refine BlN ?_ _ | refine BlS ?_ ?_ _ | refine BlT ?_ (BlM (by assumption) ?_)) | omega | (simp only [ZZ]; omega) | go_size))).mono ?_
       rintro e w1 ⟨rfl, hb1⟩
       have hb1z := hb1.size
       simp only [World.size_alloc] at hb1z
       have x0 : w1.cell? ⟨w.heap.size, 0, none⟩ = some (.bool false) := (below_at hb1 w.heap.size 0 (by simp)).trans (by simp [go_sem])
       have x1 : w1.cell? ⟨w.heap.size, 1, none⟩ = some (.slice A l.length c) := (below_at hb1 w.heap.size 1 (by simp)).trans (by simp [go_sem])
       have x2 : w1.cell? ⟨w.heap.size, 2, none⟩ = some (.slice B m.length d) := (below_at hb1 w.heap.size 2 (by simp)).trans (by simp [go_sem])
       have hbA : Below w.heap.size w w1 := (by have z0 := Below.size hb1; (try simp only [ZZ] at z0 ⊢; skip); repeat' (first | (with_reducible first | exact BlR _ _ | assumption | refine BlA ?_ ?_ _ | refine BlD ?_ | refine BlN ?_ _ | refine BlS ?_ ?_ _ | refine BlT ?_ (BlM (by assumption) ?_)) | omega | (simp only [ZZ]; omega) | go_size))
       go_wp2_with fail
       refine (KC.out _ hbA).mono ?_
       rintro e w2 ⟨rfl, hb2⟩
       go_wp2_with fail
       go_returns
       exact ⟨by rw [HF.out]; rfl, (by have z0 := Below.size hbA; have z1 := Below.size hb2; (try simp only [ZZ] at z0 z1 ⊢; skip); repeat' (first | (with_reducible first | exact BlR _ _ | assumption | refine BlA ?_ ?_ _ | refine BlD ?_ | refine BlN ?_ _ | refine BlS ?_ ?_ _ | refine BlT ?_ (BlM (by assumption) ?_)) | omega | (simp only [ZZ]; omega) | go_size))⟩
     · have hc : cmpN (nv l) (nv m) = -1 ∨ cmpN (nv l) (nv m) = 0 := by
         rcases Nat.lt_or_ge (nv l) (nv m) with h | h
         · exact .inl (cmpN_lt h)
         · exact .inr (cmpN_eq (by omega))
       have HF : Hid (prR (false, l, m) = true) := by show _ = _; rw [HP.out]; simp; exact hle
       clear hle HP
       generalize cmpN (nv l) (nv m) = cc at *
       have hcc : decide (cc ≤ 0) = true := by simp; omega
       go_enter Tryz.func140, Tryz.ntmps140
       go_wp2_with fail
       refine (KV.out _ (by (skip); repeat' (first | (with_reducible first | exact BlR _ _ | assumption | refine BlA ?_ ?_ _ | refine BlD ?_ | refine BlN ?_ _ | refine BlS ?_ ?_ _ | refine BlT ?_ (BlM (by assumption) ?_)) | omega | (simp only [ZZ]; omega) | go_size))).mono ?_
       rintro e w1 ⟨rfl, hb1⟩
       have hb1z := hb1.size
       simp only [World.size_alloc] at hb1z
       have x0 : w1.cell? ⟨w.heap.size, 0, none⟩ = some (.bool false) := (below_at hb1 w.heap.size 0 (by simp)).trans (by simp [go_sem])
       have x1 : w1.cell? ⟨w.heap.size, 1, none⟩ = some (.slice A l.length c) := (below_at hb1 w.heap.size 1 (by simp)).trans (by simp [go_sem])
       have x2 : w1.cell? ⟨w.heap.size, 2, none⟩ = some (.slice B m.length d) := (below_at hb1 w.heap.size 2 (by simp)).trans (by simp [go_sem])
       have hbA : Below w.heap.size w w1 := (by have z0 := Below.size hb1; (try simp only [ZZ] at z0 ⊢; skip); repeat' (first | (with_reducible first | exact BlR _ _ | assumption | refine BlA ?_ ?_ _ | refine BlD ?_ | refine BlN ?_ _ | refine BlS ?_ ?_ _ | refine BlT ?_ (BlM (by assumption) ?_)) | omega | (simp only [ZZ]; omega) | go_size))
       go_wp2_with fail
       refine (KC.out _ hbA).mono ?_
       rintro e w2 ⟨rfl, hb2⟩
       go_wp2_with fail
       go_returns
       exact ⟨by rw [HF.out]; rfl, (by have z0 := Below.size hbA; have z1 := Below.size hb2; (try simp only [ZZ] at z0 z1 ⊢; skip); repeat' (first | (with_reducible first | exact BlR _ _ | assumption | refine BlA ?_ ?_ _ | refine BlD ?_ | refine BlN ?_ _ | refine BlS ?_ ?_ _ | refine BlT ?_ (BlM (by assumption) ?_)) | omega | (simp only [ZZ]; omega) | go_size))⟩
   · have HF : Hid (prR (true, l, m) = false) := by show _ = _; rw [HP.out]; rfl
     clear HP
     go_enter Tryz.func140, Tryz.ntmps140
     go_wp2_with fail
     refine (KV.out _ (by (skip); repeat' (first | (with_reducible first | exact BlR _ _ | assumption | refine BlA ?_ ?_ _ | refine BlD ?_ | refine BlN ?_ _ | refine BlS ?_ ?_ _ | refine BlT ?_ (BlM (by assumption) ?_)) | omega | (simp only [ZZ]; omega) | go_size))).mono ?_
     rintro e w1 ⟨rfl, hb1⟩
     have hb1z := hb1.size
     simp only [World.size_alloc] at hb1z
     have x0 : w1.cell? ⟨w.heap.size, 0, none⟩ = some (.bool true) := (below_at hb1 w.heap.size 0 (by simp)).trans (by simp [go_sem])
     go_wp2_with fail
     go_returns
     exact ⟨by rw [HF.out]; rfl, (by have z0 := Below.size hb1; (try simp only [ZZ] at z0 ⊢; skip); repeat' (first | (with_reducible first | exact BlR _ _ | assumption | refine BlA ?_ ?_ _ | refine BlD ?_ | refine BlN ?_ _ | refine BlS ?_ ?_ _ | refine BlT ?_ (BlM (by assumption) ?_)) | omega | (simp only [ZZ]; omega) | go_size))⟩
end Go.Proofs.YtoiopnmphbnjaaaGreatDoor
