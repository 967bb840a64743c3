/- Contracts and lemmas for the given statements. Conditions: those alone that each names. -/
import Derived.Test.YtoiopnmphbnjaaaGreatDoorJMapR
import Derived.Test.YtoiopnmphbnjaaaGreatDoorJDynW8
import Derived.Test.YtoiopnmphbnjaaaGreatDoorJShelfD
import Derived.Lib.ItoaLen
import Derived.Lib.AppendIntMem
import Derived.Test.YtoiopnmphbnjaaaGreatDoorJDynMk2
import Derived.StringKeys
import Derived.Deep.RegionLaw
set_option maxHeartbeats 4000000
namespace Go.Proofs.YtoiopnmphbnjaaaGreatDoor
open Go.RowKit Go.Sort
set_option linter.unusedSimpArgs false
set_option linter.unusedVariables false
set_option maxRecDepth 20000
/-! ## the text of a state -/
abbrev TabW (w : World) : Prop := Lib.TabIs Tryz.prog w "internal/strconv.uint64pow10" .u64 Lib.pow10Tab
theorem TabW.below {w w' : World} (h : TabW w) (hb : Below w.heap.size w w') : TabW w' := Lib.tabBelow_of_tabIs h w' hb
theorem below_grow (w : World) (k : Nat) (os : Array Obj) : Below w.heap.size w (grow (w.drewN k) os) :=
 ⟨rfl, rfl, rfl, by show w.heap.size ≤ (w.heap ++ os).size; simp, fun i hi => by
   show (w.heap ++ os)[i]? = w.heap[i]?
   exact Array.getElem?_append_left hi⟩
def sB (l : List UInt8) : ByteArray := ⟨l.toArray⟩
theorem sB_app (a b : List UInt8) : sB a ++ sB b = sB (a ++ b) := by
 apply ByteArray.ext
 simp [sB, ByteArray.data_append]
theorem sB_size (l : List UInt8) : (sB l).size = l.length := by
 show l.toArray.size = _
 simp
theorem itoaC {n : Int} (h0 : -9223372036854775808 ≤ n) (h1 : n ≤ 9223372036854775807) {w : World} (ht : TabW w) :
   Calls Tryz.prog 121 #[.int .i64 n] w fun e w' => e = .returned (.string (sB (Lib.itoa n))) ∧ Below w.heap.size w w' :=
 (Tryz.strconv_Itoa n h0 h1 w ht).mono fun e w' ⟨he, k, os, hw⟩ => ⟨he, by rw [hw]; exact below_grow w k os⟩
theorem kyT_len {l : List Int} (h : ∀ m, m ∈ l → -9223372036854775808 ≤ m ∧ m ≤ 9223372036854775807) : (kyT l).length ≤ 22 * l.length := by
 induction l with
 | nil => exact Nat.le_refl _
 | cons m l ih =>
   have h1 := Lib.itoa_length_le m (h m (by simp)).1 (h m (by simp)).2
   have h2 := ih fun x hx => h x (by simp [hx])
   simp only [kyT, List.length_cons, List.length_append]
   omega
section
variable {w : World} {Am : Option Addr} {cm ng F : Nat} {M : List Int}
theorem dkey_any (ht : TabW w) (rj : RdJ w Am ng (fun i => M.getD i 0)) (hl : M.length = ng) (h64 : ng ≤ 64) (hF : F < 16777216) (hM : ∀ i, i < ng → -1 ≤ M.getD i 0 ∧ M.getD i 0 ≤ 16) :
   Calls Tryz.prog 86 #[.agg #[.int .i64 (F : Int), .slice Am ng cm]] w fun e w' => e = .returned (.string (sB (kyL (F, M)))) ∧ Below w.heap.size w w' := by
 have KI := Lib.hid (fun X (hX : Below w.heap.size w X) n (h0 : -9223372036854775808 ≤ n) (h1 : n ≤ 9223372036854775807) => itoaC h0 h1 (ht.below hX))
 have HL := Lib.hid hl
 have HM := Lib.hid hM
 have hs32 : (sB [32]) = ⟨#[32]⟩ := rfl
 have HS0 : Hid (sB (Lib.itoa (F : Int)) = sB (kyL (F, M.take 0))) := by
   show _ = _
   unfold kyL
   simp [kyT]
 have HSZ : Hid (∀ k, k ≤ ng → (sB (kyL (F, M.take k))).size ≤ 3000) := fun k hk => by
   rw [sB_size]
   show (Lib.itoa (F : Int) ++ kyT (M.take k)).length ≤ 3000
   have h1 := Lib.itoa_length_le (F : Int) (by omega) (by omega)
   have h2 := kyT_len (l := M.take k) (fun m hm => by
     obtain ⟨i, hi, rfl⟩ := List.getElem_of_mem (List.mem_of_mem_take hm)
     have := hM i (by omega)
     rw [List.getD_eq_getElem?_getD, List.getElem?_eq_getElem hi] at this
     have : -1 ≤ M[i] ∧ M[i] ≤ 16 := this
     omega)
   rw [List.length_take] at h2
   rw [List.length_append]
   omega
 have HST : Hid (∀ k, k < ng → sB (kyL (F, M.take k)) ++ (sB [32] ++ sB (Lib.itoa (M.getD k 0))) = sB (kyL (F, M.take (k + 1)))) := fun k hk => by
   rw [sB_app, sB_app]
   unfold kyL
   have e : M.take (k + 1) = M.take k ++ [M.getD k 0] := by
     rw [List.take_succ_eq_append_getElem (by omega), List.getD_eq_getElem?_getD, List.getElem?_eq_getElem (by omega)]; rfl
   dsimp only
   rw [e, kyT_app, List.append_assoc]; rfl
 have HEN : Hid (sB (kyL (F, M.take ng)) = sB (kyL (F, M))) := by show _ = _; rw [List.take_of_length_le (by omega)]
 have HSI : Hid (∀ k, k < ng → (sB (Lib.itoa (M.getD k 0))).size ≤ 21) := fun k hk => by
   rw [sB_size]
   have := hM k hk
   exact Lib.itoa_length_le _ (by omega) (by omega)
 obtain ⟨T, hT⟩ : ∃ T : Nat → ByteArray, T = fun k => sB (kyL (F, M.take k)) := ⟨_, rfl⟩
 obtain ⟨I, hI⟩ : ∃ I : Int → ByteArray, I = fun n => sB (Lib.itoa n) := ⟨_, rfl⟩
 have HST2 : Hid (∀ k, k < ng → T k ++ ((⟨#[32]⟩ : ByteArray) ++ I (M.getD k 0)) = T (k + 1)) := by subst hT hI; exact HST.out
 have HSZ2 : Hid (∀ k, k ≤ ng → (T k).size ≤ 3000) := by subst hT; exact HSZ.out
 have HSI2 : Hid (∀ k, k < ng → (I (M.getD k 0)).size ≤ 21) := by subst hI; exact HSI.out
 have HS2 : Hid (I (F : Int) = T 0) := by subst hT hI; exact HS0.out
 have HE2 : Hid (T ng = sB (kyL (F, M))) := by subst hT; exact HEN.out
 have KI2 : Hid (∀ X (hX : Below w.heap.size w X) n (h0 : -9223372036854775808 ≤ n) (h1 : n ≤ 9223372036854775807), Calls Tryz.prog 121 #[.int .i64 n] X fun e w' => e = .returned (.string (I n)) ∧ Below X.heap.size X w') := by subst hI; exact KI.out
 have HRJ := Lib.hid rj
 have hz32 : (⟨#[32]⟩ : ByteArray).size = 1 := rfl
 clear hT hI HST HSZ HSI HS0 HEN KI hl hM ht hs32 rj
 go_enter Tryz.func86, Tryz.ntmps86
 go_wp2_with fail
 refine (KI2.out _ (by (skip); repeat' (first | (with_reducible first | exact BlR _ _ | assumption | refine BlA ?_ ?_ _ | refine BlD ?_ | refine BlN ?_ _ | refine BlS ?_ ?_ _ | refine BlT ?_ (BlM (by assumption) ?_)) | omega | (simp only [ZZ]; omega) | go_size)) _ (by omega) (by omega)).mono ?_
 rintro e w1 ⟨rfl, hb1⟩
 rw [HS2.out]
 have hb1z := hb1.size
 simp only [World.size_alloc] at hb1z
 have x1 : w1.cell? ⟨w.heap.size, 1, none⟩ = some (.slice Am ng cm) := (below_at hb1 w.heap.size 1 (by simp)).trans (by simp [go_sem])
 have hbA : Below w.heap.size w w1 := (by have z0 := Below.size hb1; (try simp only [ZZ] at z0 ⊢; skip); repeat' (first | (with_reducible first | exact BlR _ _ | assumption | refine BlA ?_ ?_ _ | refine BlD ?_ | refine BlN ?_ _ | refine BlS ?_ ?_ _ | refine BlT ?_ (BlM (by assumption) ?_)) | omega | (simp only [ZZ]; omega) | go_size))
 clear hb1
 go_wp2_with fail
 go_loopw [3, 12] (fun s i wr => ∃ k : Nat, k ≤ ng ∧ s = .string (T k) ∧ i = .int .i64 (k : Int) ∧ Below w.heap.size w wr) (fun _ i _ => ng - (intOf i).toNat)
 case atStart => exact ⟨0, Nat.zero_le _, rfl, rfl, hbA⟩
 case round =>
   obtain ⟨k, hk, rfl, rfl, hb⟩ := hrel
   clear hbA x1
   obtain ⟨wo, rfl⟩ : ∃ wo : World, wo = wr := ⟨_, rfl⟩
   have hbz := hb.size
   by_cases hkn : k < ng
   · obtain ⟨b, off, rfl, hbb, z0⟩ := HRJ.out.later hb hkn
     have hm := HM.out k hkn
     have hst := HST2.out k hkn
     have hsz := HSZ2.out k hk
     have hsi := HSI2.out k hkn
     obtain ⟨m, hme⟩ : ∃ m, M.getD k 0 = m := ⟨_, rfl⟩
     rw [hme] at z0 hm hst hsi
     have K := Lib.hid (KI2.out wo hb m (by omega) (by omega))
     have HT := Lib.hid hst
     have i1 : (k : Int) < (ng : Int) := by omega
     clear hst hme
     generalize T k = s at *
     generalize I m = t at *
     go_wp2_with fail
     refine K.out.mono ?_
     rintro e w2 ⟨rfl, hb2⟩
     go_wp2_with fail
     go_roundw
     case rel => exact ⟨k + 1, by omega, by rw [← HT.out], by go_num, hb.trans (hb2.mono (by omega))⟩
     case measure => simp [intOf]; omega
   · obtain rfl : k = ng := by omega
     rw [HE2.out]
     go_wp2_with fail
     go_returns
     exact ⟨rfl, hb⟩
end
end Go.Proofs.YtoiopnmphbnjaaaGreatDoor
namespace Go.Proofs.YtoiopnmphbnjaaaGreatDoor
open Go.RowKit
open Go.Maps Go.WideMaps
set_option linter.unusedSimpArgs false
set_option linter.unusedVariables false
set_option maxRecDepth 20000
attribute [local irreducible] nv wp win plainB validR valR canR kyL
/-! ## chain.maker: find -/
theorem strKeyed : Keyed Tryz.prog 9 := string_keyed Tryz.underlying9
theorem kyB_key {s : DS} (h : (kyL s).length ≤ 1000000) : keyOf Tryz.prog 9 (.string (sB (kyL s))) = some (kyLit s) := by
 have := keyOf_string_mk (P := Tryz.prog) (k := 9) Tryz.underlying9 (s := sB (kyL s)) (by rw [sB_size]; unfold maxLen; omega)
 rw [this]
 simp [sB, kyLit]
theorem kyL_len {S : DS} {ng : Nat} (hl : S.2.length = ng) (h64 : ng ≤ 64) (hF : S.1 < 16777216) (hM : ∀ i, i < ng → -1 ≤ S.2.getD i 0 ∧ S.2.getD i 0 ≤ 16) : (kyL S).length ≤ 1000000 := by
 unfold kyL
 have h1 := Lib.itoa_length_le (S.1 : Int) (by omega) (by omega)
 have h2 := kyT_len (l := S.2) (fun m hm => by
   obtain ⟨i, hi, rfl⟩ := List.getElem_of_mem hm
   have := hM i (by omega)
   rw [List.getD_eq_getElem?_getD, List.getElem?_eq_getElem hi] at this
   have : -1 ≤ S.2[i] ∧ S.2[i] ≤ 16 := this
   omega)
 rw [List.length_append]
 omega
/-- append of a state at a step of a region that draws its order -/
theorem step_appS {w : World} {b0 ng c : Nat} {A : Option Addr} {l : List DS} {ops : Array Oper} {o : Oper} {a : Act} {K : Act → World → Prop} {Q : Exit → Act → World → Prop} {E : Prop} (hgd : o.guard = none) (s x : Operand)
   (ho : o.op = .call { callee := .builtin .append, args := #[s, x], argTypes := #[33, 33] })
   (S : DS) (hs : a.eval s = .slice A l.length c) (hown : OwS w b0 A c ng l)
   (B : Nat) (u : Value) (hu : RdK w b0 u ng (fun i => S.2.getD i 0)) (hx : a.eval x = .slice (some ⟨B, 0, none⟩) 1 1) (hc0 : w.cell? ⟨B, 0, none⟩ = some (.int .i64 ((S.1 : Nat) : Int))) (hc1 : w.cell? ⟨B, 1, none⟩ = some u)
   (hn : l.length ≤ 1000000) (hbase : b0 ≤ w.heap.size)
   (h : ∀ g cap w', OwS w' b0 (some ⟨g, 0, none⟩) cap ng (l ++ [S]) → w.grownBy w' (Value.slice A l.length c).ownBlock → K (a.put o.dst (.slice (some ⟨g, 0, none⟩) (l.length + 1) cap)) w') :
   if Region.wanted o (yielded ops a.tmps) = true then Oper.wp Tryz.prog o a w K Q else E := by
 have hno := hown.notI
 obtain ⟨V, h1, h2⟩ := hown
 obtain ⟨i0, hi0, hz0, hz1, hz2⟩ := info_parts stateInfo
 obtain ⟨B1, d1, eu⟩ := hu.form
 refine step_append_lies _ hgd s x 33 ho b0 45 i0 _ 2 32 Tryz.underlying33 hi0 hz0 hz1 hz2 rfl (by omega) _ l.length _ hs h2 ⟨B, 0, none⟩ 1 1 [.int .i64 ((S.1 : Nat) : Int), u] hx rfl ?_ ?_ (by omega) (by unfold maxLen; omega) (by omega) hbase w.heap.size rfl ?_
 · intro j v hv
   rw [addr_add, Nat.zero_add]
   match j, hv with
   | 0, hv => simp at hv; subst hv; exact hc0
   | 1, hv => simp at hv; subst hv; exact hc1
   | j + 2, hv => simp at hv
 · intro v hv
   simp at hv
   rcases hv with rfl | rfl
   · rfl
   · rw [eu]; rfl
 · intro g cap w' h3 h4 h5 h6
   refine h g cap w' ⟨fun k => if k = l.length then u else V k, fun k hk => ?_, ?_⟩ h4
   · by_cases e : k = l.length
     · subst e
       dsimp only
       rw [if_pos rfl]
       refine (hu.grown h4 hno).congr fun j _ => ?_
       simp
     · dsimp only
       rw [if_neg e]
       have hk2 : k < l.length := by
         rw [List.length_append, List.length_singleton] at hk
         omega
       refine ((h1 k hk2).grown h4 hno).congr fun j _ => ?_
       rw [List.getElem_append_left hk2]
   · rw [cellsS_snoc, List.length_append, List.length_singleton]
     exact h3
/-- what find is asked with -/
structure FdS (w : World) (K : MB) (Am : Option Addr) (cm : Nat) (S : DS) : Prop where
 tab : TabW w
 len : S.2.length = K.r.ng
 n64 : K.r.ng ≤ 64
 f24 : S.1 < 16777216
 mem : ∀ i, i < K.r.ng → -1 ≤ S.2.getD i 0 ∧ S.2.getD i 0 ≤ 16
 rd : RdK w K.b0 (.slice Am K.r.ng cm) K.r.ng (fun i => S.2.getD i 0)
section
variable {w : World} {K : MB} {N cs cm : Nat} {l : List DS} {G : Nat → Nat → Rat} {As Am : Option Addr} {S : DS}
theorem find_old (h : MKI w K N l G As cs) (hf : FdS w K Am cm S) (hS : S ∈ l) (h256 : l.length ≤ 256) :
   Calls Tryz.prog 45 #[.pointer (some ⟨K.m, 0, none⟩), .agg #[.int .i64 (S.1 : Nat), .slice Am K.r.ng cm]] w fun e w' => e = .returned (.tuple #[.int .i64 (l.idxOf S : Nat), .nilIface]) ∧ Below w.heap.size w w' := by
 have hlen := kyL_len hf.len hf.n64 hf.f24 hf.mem
 have hkey := kyB_key hlen
 have KK := Lib.hid (fun X (hX : Below w.heap.size w X) => dkey_any (w := X) (Am := Am) (cm := cm) (ng := K.r.ng) (F := S.1) (M := S.2) (hf.tab.below hX) ((hf.rd.rj).below hX) hf.len hf.n64 hf.f24 hf.mem)
 have HM := Lib.hid h
 have hidx : Hid (l.idxOf S < 256) := by
   have := List.idxOf_lt_length_iff.2 hS
   show _ < _
   omega
 obtain ⟨D, hD1, hD2⟩ := h.num
 have HLK : Hid (∀ X, Below w.heap.size w X → (Instr.lookup 93 (.map (some K.bn)) (.string (sB (kyL S))) true).run Tryz.prog X = .ok (.tuple #[.int .i64 (l.idxOf S : Nat), .bool true]) X) := by
   show ∀ _, _
   intro X hX
   have hD3 : X.ownsMap Tryz.prog 9 (plainElem Tryz.prog 3) K.bn l.length D := hD1.kept (grown_none hX none) (by simp)
   obtain ⟨v, ps, hrun, hv⟩ := hD3.look_ok strKeyed Tryz.underlying93 (by kernel_rfl : (zeroValue 3).run Tryz.prog X = .ok (.int .i64 0) X) (plainElem_int Tryz.underlying3 (by decide)) hkey
   rw [hrun, hD2.hs]
   rw [hD2.at_ S hS] at hv
   obtain ⟨a, rfl, hv2, _⟩ := plainElem_int_inv Tryz.underlying3 hv
   simp only [Prod.mk.injEq, DataW.lit.injEq, Lit.int.injEq, true_and] at hv2
   rw [hv2.1]
   simp [hS]
 have hml := h.mlt
 have hc := h.cells
 obtain ⟨F, M⟩ := S
 generalize kyL (F, M) = ky at *
 generalize l.idxOf (F, M) = ix at *
 clear hD1 hD2 hkey h hf hS hlen
 go_enter Tryz.func45, Tryz.ntmps45
 go_wp2_with fail
 refine (KK.out _ (by (skip); repeat' (first | (with_reducible first | exact BlR _ _ | assumption | refine BlA ?_ ?_ _ | refine BlD ?_ | refine BlN ?_ _ | refine BlS ?_ ?_ _ | refine BlT ?_ (BlM (by assumption) ?_)) | omega | (simp only [ZZ]; omega) | go_size))).mono ?_
 rintro e w1 ⟨rfl, hb1⟩
 have hb1z := hb1.size
 simp only [World.size_alloc] at hb1z
 have hbA : Below w.heap.size w w1 := (by have z0 := Below.size hb1; (try simp only [ZZ] at z0 ⊢; skip); repeat' (first | (with_reducible first | exact BlR _ _ | assumption | refine BlA ?_ ?_ _ | refine BlD ?_ | refine BlN ?_ _ | refine BlS ?_ ?_ _ | refine BlT ?_ (BlM (by assumption) ?_)) | omega | (simp only [ZZ]; omega) | go_size))
 have x6 := (below_at hbA K.m 6 hml).trans hc.2.2.2.2.2.2.1
 have hlk := HLK.out w1 hbA
 clear hc hb1 KK HLK
 go_wp2_with fail
 go_returns
 exact ⟨rfl, hbA⟩
theorem find_full (h : MKI w K N l G As cs) (hf : FdS w K Am cm S) (hS : S ∉ l) (h256 : l.length = 256) :
   Calls Tryz.prog 45 #[.pointer (some ⟨K.m, 0, none⟩), .agg #[.int .i64 (S.1 : Nat), .slice Am K.r.ng cm]] w fun e w' => e = .returned (.tuple #[.int .i64 0, .iface 80 (.int .i64 4)]) ∧ Below w.heap.size w w' := by
 have hlen := kyL_len hf.len hf.n64 hf.f24 hf.mem
 have hkey := kyB_key hlen
 have KK := Lib.hid (fun X (hX : Below w.heap.size w X) => dkey_any (w := X) (Am := Am) (cm := cm) (ng := K.r.ng) (F := S.1) (M := S.2) (hf.tab.below hX) ((hf.rd.rj).below hX) hf.len hf.n64 hf.f24 hf.mem)
 obtain ⟨D, hD1, hD2⟩ := h.num
 have HLK : Hid (∀ X, Below w.heap.size w X → ∃ z : Int, (Instr.lookup 93 (.map (some K.bn)) (.string (sB (kyL S))) true).run Tryz.prog X = .ok (.tuple #[.int .i64 z, .bool false]) X) := by
   show ∀ _, _
   intro X hX
   have hD3 : X.ownsMap Tryz.prog 9 (plainElem Tryz.prog 3) K.bn l.length D := hD1.kept (grown_none hX none) (by simp)
   obtain ⟨v, ps, hrun, hv⟩ := hD3.look_ok strKeyed Tryz.underlying93 (by kernel_rfl : (zeroValue 3).run Tryz.prog X = .ok (.int .i64 0) X) (plainElem_int Tryz.underlying3 (by decide)) hkey
   obtain ⟨a, rfl, hv2, _⟩ := plainElem_int_inv Tryz.underlying3 hv
   refine ⟨a, ?_⟩
   rw [hrun, hD2.hs]
   simp [hS]
 have hml := h.mlt
 have hc := h.cells
 rw [h256] at hc
 obtain ⟨F, M⟩ := S
 generalize kyL (F, M) = ky at *
 clear hD1 hD2 hkey h hf hS hlen h256
 go_enter Tryz.func45, Tryz.ntmps45
 go_wp2_with fail
 refine (KK.out _ (by (skip); repeat' (first | (with_reducible first | exact BlR _ _ | assumption | refine BlA ?_ ?_ _ | refine BlD ?_ | refine BlN ?_ _ | refine BlS ?_ ?_ _ | refine BlT ?_ (BlM (by assumption) ?_)) | omega | (simp only [ZZ]; omega) | go_size))).mono ?_
 rintro e w1 ⟨rfl, hb1⟩
 have hb1z := hb1.size
 simp only [World.size_alloc] at hb1z
 have hbA : Below w.heap.size w w1 := (by have z0 := Below.size hb1; (try simp only [ZZ] at z0 ⊢; skip); repeat' (first | (with_reducible first | exact BlR _ _ | assumption | refine BlA ?_ ?_ _ | refine BlD ?_ | refine BlN ?_ _ | refine BlS ?_ ?_ _ | refine BlT ?_ (BlM (by assumption) ?_)) | omega | (simp only [ZZ]; omega) | go_size))
 have x6 := (below_at hbA K.m 6 hml).trans hc.2.2.2.2.2.2.1
 have x5 := (below_at hbA K.m 5 hml).trans hc.2.2.2.2.2.1
 obtain ⟨z, hlk⟩ := HLK.out w1 hbA
 clear hc hb1 KK HLK
 go_wp2_with fail
 go_returns
 exact ⟨rfl, hbA⟩
theorem find_new (h : MKI w K N l G As cs) (hf : FdS w K Am cm S) (hS : S ∉ l) (h256 : l.length < 256) :
   Calls Tryz.prog 45 #[.pointer (some ⟨K.m, 0, none⟩), .agg #[.int .i64 (S.1 : Nat), .slice Am K.r.ng cm]] w fun e w' => (e = .returned (.tuple #[.int .i64 (l.length : Nat), .nilIface]) ∧ ∃ As' cs', MKI w' K N (l ++ [S]) G As' cs') ∧ Kw K w w' := by
 have hlen := kyL_len hf.len hf.n64 hf.f24 hf.mem
 have hkey := kyB_key hlen
 have KK := Lib.hid (fun X (hX : Below w.heap.size w X) => dkey_any (w := X) (Am := Am) (cm := cm) (ng := K.r.ng) (F := S.1) (M := S.2) (hf.tab.below hX) ((hf.rd.rj).below hX) hf.len hf.n64 hf.f24 hf.mem)
 obtain ⟨D, hD1, hD2⟩ := h.num
 have HLK : Hid (∀ X, Below w.heap.size w X → ∃ z : Int, (Instr.lookup 93 (.map (some K.bn)) (.string (sB (kyL S))) true).run Tryz.prog X = .ok (.tuple #[.int .i64 z, .bool false]) X) := by
   show ∀ _, _
   intro X hX
   have hD3 : X.ownsMap Tryz.prog 9 (plainElem Tryz.prog 3) K.bn l.length D := hD1.kept (grown_none hX none) (by simp)
   obtain ⟨v, ps, hrun, hv⟩ := hD3.look_ok strKeyed Tryz.underlying93 (by kernel_rfl : (zeroValue 3).run Tryz.prog X = .ok (.int .i64 0) X) (plainElem_int Tryz.underlying3 (by decide)) hkey
   obtain ⟨a, rfl, hv2, _⟩ := plainElem_int_inv Tryz.underlying3 hv
   refine ⟨a, ?_⟩
   rw [hrun, hD2.hs]
   simp [hS]
 have HUP : Hid (∀ X, Below w.heap.size w X → ∃ w1, (Instr.mapUpdate 93 (.map (some K.bn)) (.string (sB (kyL S))) (.int .i64 (l.length : Nat))).run Tryz.prog X = .ok () w1 ∧ w1.ownsMap Tryz.prog 9 (plainElem Tryz.prog 3) K.bn (l.length + 1) (D.put (kyLit S) (.lit (.int .i64 (l.length : Nat)))) ∧ X.grownBy w1 (some K.bn)) := by
   show ∀ _, _
   intro X hX
   have hD3 : X.ownsMap Tryz.prog 9 (plainElem Tryz.prog 3) K.bn l.length D := hD1.kept (grown_none hX none) (by simp)
   exact hD3.update strKeyed Tryz.underlying93 (by unfold maxLen; omega) hkey (plainElem_int Tryz.underlying3 (WalkArith.wf_i64 (by omega)))
 have HD := Lib.hid (hD2.add hS)
 have HM := Lib.hid h
 have HF := Lib.hid hf
 have HS := Lib.hid hS
 have hml := h.mlt
 have hc := h.cells
 have hn9 : ¬ ((l.length : Int) = 256) := by omega
 obtain ⟨F, M⟩ := S
 generalize kyL (F, M) = ky at *
 generalize kyLit (F, M) = kt at *
 clear hD1 hD2 hkey h hf hS hlen
 go_enter Tryz.func45, Tryz.ntmps45
 go_wp2_with fail
 refine (KK.out _ (by (skip); repeat' (first | (with_reducible first | exact BlR _ _ | assumption | refine BlA ?_ ?_ _ | refine BlD ?_ | refine BlN ?_ _ | refine BlS ?_ ?_ _ | refine BlT ?_ (BlM (by assumption) ?_)) | omega | (simp only [ZZ]; omega) | go_size))).mono ?_
 rintro e w1 ⟨rfl, hb1⟩
 have hb1z := hb1.size
 simp only [World.size_alloc] at hb1z
 have hbA : Below w.heap.size w w1 := (by have z0 := Below.size hb1; (try simp only [ZZ] at z0 ⊢; skip); repeat' (first | (with_reducible first | exact BlR _ _ | assumption | refine BlA ?_ ?_ _ | refine BlD ?_ | refine BlN ?_ _ | refine BlS ?_ ?_ _ | refine BlT ?_ (BlM (by assumption) ?_)) | omega | (simp only [ZZ]; omega) | go_size))
 have x6 := (below_at hbA K.m 6 hml).trans hc.2.2.2.2.2.2.1
 have x5 := (below_at hbA K.m 5 hml).trans hc.2.2.2.2.2.1
 have y0 : w1.cell? ⟨w.heap.size, 0, none⟩ = some (.int .i64 (F : Int)) := (below_at hb1 w.heap.size 0 (by simp)).trans (by simp [go_sem])
 have y1 : w1.cell? ⟨w.heap.size, 1, none⟩ = some (.slice Am K.r.ng cm) := (below_at hb1 w.heap.size 1 (by simp)).trans (by simp [go_sem])
 obtain ⟨z, hlk⟩ := HLK.out w1 hbA
 have hbB : Below w.heap.size w w1.drew := hbA.trans (Below.refl _ _).drew
 obtain ⟨w2, hup, hm2, hg2⟩ := HUP.out w1.drew hbB
 clear hb1 KK HLK HUP
 go_wp2_with fail
 go_region
 have hbW : Below w1.heap.size w1 w1.drew := (Below.refl _ _).drew
 have hg2' : w1.grownBy w2 (some K.bn) := ⟨hg2.os, hg2.tape, hg2.output, hg2.size, fun i hi hne => hg2.block i hi hne⟩
 have HI1 : Hid (MKI w1 K N l G As cs) := HM.out.below hbA
 have hnm : K.m ≠ K.bn := fun e => map_not_ty HM.out.bnm (e ▸ HM.out.mty)
 have hbnw : K.bn < w.heap.size := by obtain ⟨es, c, e⟩ := HM.out.bnm; exact (Array.getElem?_eq_some_iff.1 e).1
 have hblk2 : w2.heap[K.m]? = _ := (hg2'.block K.m HI1.out.mlt (fun e => hnm (by injection e))).trans HI1.out.blk
 have q5 : w2.cell? ⟨K.m, 5, none⟩ = some (.slice As l.length cs) := by rw [cell_of_row w2 K.m _ _ _ _ hblk2]; rfl
 have q0 : w2.cell? ⟨w.heap.size, 0, none⟩ = some (.int .i64 (F : Int)) := (World.cell?_of_block (a := ⟨w.heap.size, 0, none⟩) (hg2'.block w.heap.size (by omega) (fun e => by injection e with e; omega))).trans y0
 have q1 : w2.cell? ⟨w.heap.size, 1, none⟩ = some (.slice Am K.r.ng cm) := (World.cell?_of_block (a := ⟨w.heap.size, 1, none⟩) (hg2'.block w.heap.size (by omega) (fun e => by injection e with e; omega))).trans y1
 have hz2 := hg2'.size
 have hn2 : NotI w1 K.b0 (some K.bn) := by obtain ⟨es, c, e⟩ := HI1.out.bnm; exact NotI.of_map e HI1.out.bb
 have hu2 : RdK w2 K.b0 (.slice Am K.r.ng cm) K.r.ng (fun i => M.getD i 0) := (HF.out.rd.below hbA).grown hg2' hn2
 have hst2 : OwS w2 K.b0 As cs K.r.ng l := HI1.out.st.grown hg2' hn2 fun k e ht => by injection e with e; subst e; exact map_not_ty HI1.out.bnm ht
 have hlo2 : K.b0 ≤ w2.heap.size := Nat.le_trans HI1.out.lo hz2
 have hml2 : K.m < w2.heap.size := Nat.lt_of_lt_of_le HI1.out.mlt hz2
 have HADD : Hid (∀ (u : Value) (w3 w6 : World) (g6 c6 : Nat), w3 = w2.drew.alloc (.cells #[.int .i64 (F : Int), u] 45) → w3.grownBy w6 (Value.slice As l.length cs).ownBlock → OwS w6 K.b0 (some ⟨g6, 0, none⟩) c6 K.r.ng (l ++ [(F, M)]) → MKI (w6.setCell ⟨K.m, 5, none⟩ (.slice (some ⟨g6, 0, none⟩) (l.length + 1) c6)) K N (l ++ [(F, M)]) G (some ⟨g6, 0, none⟩) c6 ∧ Kw K w1 (w6.setCell ⟨K.m, 5, none⟩ (.slice (some ⟨g6, 0, none⟩) (l.length + 1) c6)) ∧ w6.cell? ⟨K.m, 5, none⟩ = some (.slice As l.length cs) ∧ w6.frozen? ⟨K.m, 5, none⟩ = false) := fun u w3 w6 g6 c6 e3 hg6 own6 => by
   have hb3 : Below w2.heap.size w2 w3 := by rw [e3]; exact ((Below.refl _ _).drew).alloc (by show w2.heap.size ≤ w2.drew.heap.size; exact Nat.le_refl _) _
   obtain ⟨r1, r2⟩ := HI1.out.add HS.out hg2' hm2 HD.out hb3 hg6 own6
   have hst3 : OwS w3 K.b0 As cs K.r.ng l := hst2.below hb3
   have hblk3 : w3.heap[K.m]? = _ := (hb3.block K.m hml2).trans hblk2
   have hty3 : ∀ k, (Value.slice As l.length cs).ownBlock = some k → TyB 45 w3 k := fun k hk => by
     obtain ⟨V, _, h2⟩ := hst3
     obtain ⟨hb, cur, hc⟩ := oT h2 k hk
     exact ⟨cur, _, hc⟩
   have nm3 : some K.m ≠ (Value.slice As l.length cs).ownBlock := fun e => absurd (ty_one ⟨_, _, hblk3⟩ (hty3 _ e.symm)) (by decide)
   have hblk6 : w6.heap[K.m]? = _ := (hg6.block K.m (Array.getElem?_eq_some_iff.1 hblk3).1 nm3).trans hblk3
   refine ⟨r1, r2, ?_, ?_⟩
   · rw [cell_of_row w6 K.m _ _ _ _ hblk6]; rfl
   · simp [World.frozen?, hblk6]
 have HU2 := Lib.hid hu2
 have HST2 := Lib.hid hst2
 clear hup hlk hblk2 hnm hbnw hn2 hu2 hst2 hg2 hg2' hm2 hc x5 x6 y0 y1
 have hbd : Below w2.heap.size w2 (w2.drew.alloc (.cells #[.int .i64 (F : Int), .slice Am K.r.ng cm] 45)) := ((Below.refl _ _).drew).alloc (by show w2.heap.size ≤ w2.drew.heap.size; exact Nat.le_refl _) _
 have HBD := Lib.hid hbd
 clear hbd
 go_wp2_with fail
 go_region_law (first | (refine step_appS (ng := K.r.ng) (b0 := K.b0) rfl (.tmp 43) (.tmp 45) rfl (F, M) (by simp [Act.eval]; done) (HST2.out.below HBD.out) w2.heap.size (.slice Am K.r.ng cm) (HU2.out.below HBD.out) (by simp [Act.eval]; done) (by simp [go_sem]; done) (by simp [go_sem]; done) (by omega) (by simp; omega) ?_; intro g6 c6 w6 own6 hg6; obtain ⟨r1, r2, r3, r4⟩ := HADD.out _ _ w6 g6 c6 rfl hg6 own6) | go_simp)
 all_goals
   have hbF : Kw K w (w6.setCell ⟨K.m, 5, none⟩ (.slice (some ⟨g6, 0, none⟩) (l.length + 1) c6)) := (Kw.of_below hbA).trans r2
   have HR := Lib.hid r1
   have HB := Lib.hid hbF
   have hl0 : 0 ≤ (l.length : Int) := by omega
   clear r1 r2 own6 hg6 hbF
   go_wp2_with fail
   go_returns
   exact ⟨⟨by go_num, _, _, HR.out⟩, HB.out⟩
end
end Go.Proofs.YtoiopnmphbnjaaaGreatDoor
