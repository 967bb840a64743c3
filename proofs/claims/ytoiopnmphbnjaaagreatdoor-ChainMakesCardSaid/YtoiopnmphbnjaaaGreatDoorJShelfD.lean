/- Contracts and lemmas for the given statements. Conditions: those alone that each names. -/
import Derived.Shelf.Small.Bits
import Derived.Shelf.Strconv.Itoa0
import Derived.Shelf.Strconv.Itoa1
import Derived.Shelf.LaysM
import Derived.Shelf.Strconv.Itoa2
import Derived.Shelf.Strconv.Itoa3
import Derived.Shelf.Slices.Turned
import Derived.Ground.SlgnProg
import Derived.Shelf.SlGeneric
import Derived.Ground.SlsfProg
import Derived.Test.YtoiopnmphbnjaaaGreatDoorProg
import Derived.Test.YtoiopnmphbnjaaaGreatDoorDynW6
import Derived.Test.YtoiopnmphbnjaaaGreatDoorJBase
import Derived.Test.YtoiopnmphbnjaaaGreatDoorJChX
/- The contracts of strconv.Itoa, slices.Index and slices.Contains at int, laid at this program by the kit's tools (lay-shelf, lay-plain). No condition beyond those that they name. -/
namespace Go.Proofs
set_option linter.unusedVariables false
set_option linter.unusedSimpArgs false
open Go.Shelf
def Tryz.laysM171_ren : Go.Shelf.Ren := ⟨fun | 171 => 121 | 243 => 153 | 246 => 163 | 283 => 165 | 284 => 166 | 285 => 167 | 286 => 168 | 129 => 131 | 317 => 169 | 318 => 170 | 319 => 171 | 320 => 172 | 337 => 173 | 338 => 174 | n => n, fun | 3 => 3 | 9 => 9 | 2 => 2 | 4 => 4 | 171 => 200 | 0 => 0 | 53 => 158 | 37 => 51 | 5 => 5 | 173 => 202 | 212 => 206 | 51 => 157 | 20 => 20 | 213 => 207 | 46 => 134 | 232 => 208 | 233 => 209 | n => n, fun | 17 => 0 | 18 => 1 | 19 => 2 | n => n⟩
theorem Tryz.laysM171 : Go.Proofs.LaysM.n171 Tryz.prog Tryz.laysM171_ren := {
 mixed := by kernel_rfl
 f129 := Tryz.func131.trans (congrArg some (by kernel_rfl))
 f171 := Tryz.func121.trans (congrArg some (by kernel_rfl))
 f243 := Tryz.func153.trans (congrArg some (by kernel_rfl))
 f246 := Tryz.func163.trans (congrArg some (by kernel_rfl))
 f283 := Tryz.func165.trans (congrArg some (by kernel_rfl))
 f284 := Tryz.func166.trans (congrArg some (by kernel_rfl))
 f285 := Tryz.func167.trans (congrArg some (by kernel_rfl))
 f286 := Tryz.func168.trans (congrArg some (by kernel_rfl))
 f317 := Tryz.func169.trans (congrArg some (by kernel_rfl))
 f318 := Tryz.func170.trans (congrArg some (by kernel_rfl))
 f319 := Tryz.func171.trans (congrArg some (by kernel_rfl))
 f320 := Tryz.func172.trans (congrArg some (by kernel_rfl))
 f337 := Tryz.func173.trans (congrArg some (by kernel_rfl))
 f338 := Tryz.func174.trans (congrArg some (by kernel_rfl))
 t0 := Tryz.underlying0
 a0 := Tryz.isAgg0
 z0 := Tryz.sizeOf0
 v0 := Tryz.zeroValue0
 t2 := Tryz.underlying2
 a2 := Tryz.isAgg2
 z2 := Tryz.sizeOf2
 v2 := Tryz.zeroValue2
 t3 := Tryz.underlying3
 a3 := Tryz.isAgg3
 z3 := Tryz.sizeOf3
 v3 := Tryz.zeroValue3
 t4 := Tryz.underlying4
 a4 := Tryz.isAgg4
 z4 := Tryz.sizeOf4
 v4 := Tryz.zeroValue4
 t5 := Tryz.underlying5
 a5 := Tryz.isAgg5
 z5 := Tryz.sizeOf5
 v5 := Tryz.zeroValue5
 t9 := Tryz.underlying9
 a9 := Tryz.isAgg9
 z9 := Tryz.sizeOf9
 v9 := Tryz.zeroValue9
 t20 := Tryz.underlying20
 a20 := Tryz.isAgg20
 z20 := Tryz.sizeOf20
 v20 := Tryz.zeroValue20
 t37 := Tryz.underlying51
 a37 := Tryz.isAgg51
 z37 := Tryz.sizeOf51
 v37 := Tryz.zeroValue51
 t46 := Tryz.underlying134
 a46 := Tryz.isAgg134
 z46 := Tryz.sizeOf134
 v46 := Tryz.zeroValue134
 t51 := Tryz.underlying157
 a51 := Tryz.isAgg157
 z51 := Tryz.sizeOf157
 v51 := Tryz.zeroValue157
 t53 := Tryz.underlying158
 a53 := Tryz.isAgg158
 z53 := Tryz.sizeOf158
 v53 := Tryz.zeroValue158
 t171 := Tryz.underlying200
 a171 := Tryz.isAgg200
 z171 := Tryz.sizeOf200
 v171 := Tryz.zeroValue200
 t173 := Tryz.underlying202
 a173 := Tryz.isAgg202
 z173 := Tryz.sizeOf202
 v173 := Tryz.zeroValue202
 t212 := Tryz.underlying206
 a212 := Tryz.isAgg206
 z212 := Tryz.sizeOf206
 v212 := Tryz.zeroValue206
 t213 := Tryz.underlying207
 a213 := Tryz.isAgg207
 z213 := Tryz.sizeOf207
 t232 := Tryz.underlying208
 a232 := Tryz.isAgg208
 z232 := Tryz.sizeOf208
 v232 := Tryz.zeroValue208
 t233 := Tryz.underlying209
 a233 := Tryz.isAgg209
 z233 := Tryz.sizeOf209
 v233 := Tryz.zeroValue209
 g17 := by kernel_rfl
 g18 := by kernel_rfl
 g19 := by kernel_rfl
 i0 := by kernel_rfl
 i2 := by kernel_rfl
 i3 := by kernel_rfl
 i4 := by kernel_rfl
 i5 := by kernel_rfl
 i9 := by kernel_rfl
 i20 := by kernel_rfl
 i37 := by kernel_rfl
 i46 := by kernel_rfl
 i51 := by kernel_rfl
 i53 := by kernel_rfl
 i171 := by kernel_rfl
 i173 := by kernel_rfl
 i212 := by kernel_rfl
 i232 := by kernel_rfl
 i233 := by kernel_rfl
 m17 := by kernel_rfl
 m18 := by kernel_rfl
 m19 := by kernel_rfl }
open Go.RowKit Go.Sort Go.Lib in
/-- strconv.Itoa: "Itoa is equivalent to FormatInt(int64(i), 10).": i's DECIMAL NUMERAL ('Lib.itoa': a '-' where i is negative, then the digits), FOR EVERY int. The world behind the call: the world before it, new blocks behind the heap (the library's 'var a [24]byte'), draws. (LAID: no walk: one application.) -/
theorem Tryz.strconv_Itoa (n : Int) (h0 : -9223372036854775808 ≤ n) (h1 : n ≤ 9223372036854775807) (w : World) (htab : Lib.TabIs Tryz.prog w "internal/strconv.uint64pow10" .u64 Lib.pow10Tab) :
   Calls Tryz.prog 121 #[.int .i64 n] w fun e w' => e = .returned (.string ⟨(Lib.itoa n).toArray⟩) ∧ ∃ k os, w' = grow (w.drewN k) os := Any.strconv_Itoa Tryz.laysM171 n h0 h1 w htab
def Tryz.lays108_ren : Go.Shelf.Ren := ⟨fun | 108 => 66 | n => n, fun | 28 => 43 | 3 => 3 | 0 => 0 | 4 => 4 | n => n, fun | n => n⟩
theorem Tryz.lays108 : Go.Proofs.Lays.n108 Tryz.prog Tryz.lays108_ren := {
 mixed := by kernel_rfl
 f108 := Tryz.func66.trans (congrArg some (by kernel_rfl))
 t0 := Tryz.underlying0
 a0 := Tryz.isAgg0
 z0 := Tryz.sizeOf0
 v0 := Tryz.zeroValue0
 t3 := Tryz.underlying3
 a3 := Tryz.isAgg3
 z3 := Tryz.sizeOf3
 v3 := Tryz.zeroValue3
 t4 := Tryz.underlying4
 a4 := Tryz.isAgg4
 z4 := Tryz.sizeOf4
 v4 := Tryz.zeroValue4
 t28 := Tryz.underlying43
 a28 := Tryz.isAgg43
 z28 := Tryz.sizeOf43
 v28 := Tryz.zeroValue43 }
open Go.Lib in
/-- slices.Index at []int: "Index returns the index of the first occurrence of v in s, or -1 if not present.": IT RETURNS 'Lib.idxOf (the elements) v'; the world is as it was. 'zs': what the cells behind the slice's address hold (its spare capacity too, if you have it); 'zs.take n': its elements. (LAID: no walk: one application.) -/
theorem Tryz.slices_Index_int (b off n c : Nat) (zs : List Int) (x : Int) (w : World) (hz : n ≤ zs.length) (hbig : n ≤ 9223372036854775807) (hc : ∀ j, j < zs.length → w.cell? ⟨b, off + j, none⟩ = some (.int .i64 (zs.getD j 0))) :
   Calls Tryz.prog 66 #[.slice (some ⟨b, off, none⟩) n c, .int .i64 x] w fun e w' => e = .returned (.int .i64 (Lib.idxOf (zs.take n) x)) ∧ w' = w := Any.slices_Index_int Tryz.lays108 b off n c zs x w hz hbig hc
def Tryz.lays107_ren : Go.Shelf.Ren := ⟨fun | 107 => 111 | 108 => 66 | n => n, fun | 28 => 43 | 3 => 3 | 4 => 4 | 0 => 0 | n => n, fun | n => n⟩
theorem Tryz.lays107 : Go.Proofs.Lays.n107 Tryz.prog Tryz.lays107_ren := {
 mixed := by kernel_rfl
 f107 := Tryz.func111.trans (congrArg some (by kernel_rfl))
 f108 := Tryz.func66.trans (congrArg some (by kernel_rfl))
 t0 := Tryz.underlying0
 a0 := Tryz.isAgg0
 z0 := Tryz.sizeOf0
 v0 := Tryz.zeroValue0
 t3 := Tryz.underlying3
 a3 := Tryz.isAgg3
 z3 := Tryz.sizeOf3
 v3 := Tryz.zeroValue3
 t4 := Tryz.underlying4
 a4 := Tryz.isAgg4
 z4 := Tryz.sizeOf4
 v4 := Tryz.zeroValue4
 t28 := Tryz.underlying43
 a28 := Tryz.isAgg43
 z28 := Tryz.sizeOf43
 v28 := Tryz.zeroValue43 }
open Go.Lib in
/-- slices.Contains at []int: "Contains reports whether v is present in s.": IT RETURNS 'elements.contains v'; the world is as it was. ITS CALLEE slices.Index IS MET BY ITS OWN CONTRACT OFF THE SHELF (lay that first): no loop is walked here. (LAID: no walk: one application.) -/
theorem Tryz.slices_Contains_int (b off n c : Nat) (zs : List Int) (x : Int) (w : World) (hz : n ≤ zs.length) (hbig : n ≤ 9223372036854775807) (hc : ∀ j, j < zs.length → w.cell? ⟨b, off + j, none⟩ = some (.int .i64 (zs.getD j 0))) :
   Calls Tryz.prog 111 #[.slice (some ⟨b, off, none⟩) n c, .int .i64 x] w fun e w' => e = .returned (.bool ((zs.take n).contains x)) ∧ w' = w := Any.slices_Contains_int Tryz.lays107 b off n c zs x w hz hbig hc
open Go.Lib in
/-- The same at a slice of length 0, a nil one too. (LAID: no walk: one application.) -/
theorem Tryz.slices_Contains_int_empty (a : Option Addr) (c : Nat) (x : Int) (w : World) :
   Calls Tryz.prog 111 #[.slice a 0 c, .int .i64 x] w fun e w' => e = .returned (.bool false) ∧ w' = w := Any.slices_Contains_int_empty Tryz.lays107 a c x w
end Go.Proofs
namespace Go.Proofs.YtoiopnmphbnjaaaGreatDoor
open Go.RowKit
set_option linter.unusedSimpArgs false
set_option linter.unusedVariables false
set_option maxRecDepth 20000
/-! ## package dynamic: checkGate -/
theorem dcontains {w : World} {b0 c : Nat} {A : Option Addr} {sp : List Int} (h : OwJ w b0 A c sp.length (fun i => sp.getD i 0)) (x : Int) (hn : sp.length ≤ 1000000) : Calls Tryz.prog 111 #[.slice A sp.length c, .int .i64 x] w fun e w' => e = .returned (.bool (sp.contains x)) ∧ w = w' := by
 cases hs : sp with
 | nil => exact (Tryz.slices_Contains_int_empty A c x w).mono fun e w' he => ⟨by rw [he.1]; rfl, he.2.symm⟩
 | cons a l =>
   rw [← hs]
   obtain ⟨g, rfl, -, -⟩ := h.form (by rw [hs]; simp)
   refine (Tryz.slices_Contains_int g 0 sp.length c sp x w (Nat.le_refl _) (by omega) (fun j hj => ?_)).mono fun e w' he => ⟨by rw [he.1, List.take_of_length_le (Nat.le_refl _)], he.2.symm⟩
   rw [Nat.zero_add]
   exact h.at_ hj
def GaRet (code : Int) (b0 : Nat) (sp : List Int) (e : Ending) (w' : World) : Prop := if code = 0 then ∃ A c, e = .returned (.tuple #[.slice A sp.length c, .nilIface]) ∧ OwJ w' b0 A c sp.length (fun i => sp.getD i 0) else e = .returned (.tuple #[.slice none 0 0, errM code])
theorem GaRet.err {code : Int} {b0 : Nat} {sp : List Int} {e : Ending} {w' : World} (hc : code ≠ 0) (h : e = .returned (.tuple #[.slice none 0 0, errM code])) : GaRet code b0 sp e w' := by
 unfold GaRet; rw [if_neg hc]; exact h
theorem GaRet.ok {code : Int} {b0 c : Nat} {A : Option Addr} {sp : List Int} {e : Ending} {w' : World} (hc : code = 0) (h : e = .returned (.tuple #[.slice A sp.length c, .nilIface])) (ho : OwJ w' b0 A c sp.length (fun i => sp.getD i 0)) : GaRet code b0 sp e w' := by
 unfold GaRet; rw [if_pos hc]; exact ⟨A, c, h, ho⟩
theorem TyB.ne {t ty : TypeId} {w : World} {g b0 s m : Nat} {v : Value} {l : List Value} (h : TyB t w g) (own : w.ownsRow b0 ty s v m l) (hne : t ≠ ty) : some g ≠ v.ownBlock := by
 intro e
 obtain ⟨_, cur, h1⟩ := oT own g e.symm
 obtain ⟨cur', fz, h2⟩ := h
 rw [h1] at h2
 injection h2 with h2
 injection h2 with _ h2 _
 exact hne h2.symm
section
variable {w w0 : World} {AG AF AR As : Option Addr} {cg cf cr cs : Nat} {r : DyR}
set_option maxHeartbeats 16000000 in
theorem dgate_any {k v : Nat} (h : DyI w0 AG AF AR r) (hw : Below w0.heap.size w0 w) (hk : k < r.ng) (h64 : r.ng ≤ 64) (hv : r.v = v) (v1 : 1 ≤ v) (v24 : v ≤ 24) (hsz : (r.dor k).2.1.length ≤ 1000 ∧ (r.dor k).2.2.length ≤ 1000)
   (own : OwJ w w0.heap.size As cs (spL r k).length (fun i => (spL r k).getD i 0)) (hsp : (spL r k).length ≤ 100000) :
   Calls Tryz.prog 107 #[dyv r AG cg AF cf AR cr, .int .i64 (k : Int), .slice As (spL r k).length cs] w fun e w' => GaRet (r.ga k) w0.heap.size (spL r (k + 1)) e w' ∧ Below w0.heap.size w0 w' := by
 obtain ⟨b, off, A1, c1, s, A2, n2, c2, A3, n3, c3, rfl, hbb, z0, z1, z2, z3, z4, z5, ra0, rs0, hlc⟩ := h.at_ hk
 have y0 := (below_at hw b _ hbb).trans z0
 have y1 := (below_at hw b _ hbb).trans z1
 have y2 := (below_at hw b _ hbb).trans z2
 have y3 := (below_at hw b _ hbb).trans z3
 have y4 := (below_at hw b _ hbb).trans z4
 have y5 := (below_at hw b _ hbb).trans z5
 have hwz := hw.size
 have hb2 : b < w.heap.size := by omega
 obtain ⟨sp, hspe⟩ : ∃ sp, spL r k = sp := ⟨_, rfl⟩
 have HGA : Hid (r.ga k = gaE (v : Int) ((v : Int) + k) sp (r.kd k) (r.kk k) (r.ar k) (r.dor k)) := by
   show _ = _
   rw [← hspe, ← hv]; rfl
 have HSP : Hid (spL r (k + 1) = if r.kd k = 7 then sp ++ r.ar k else sp) := by
   show _ = _
   rw [← hspe]; rfl
 rw [hspe] at own hsp ⊢
 obtain ⟨sp', hsp'⟩ : ∃ sp', spL r (k + 1) = sp' := ⟨_, rfl⟩
 obtain ⟨code, hcode⟩ : ∃ code, r.ga k = code := ⟨_, rfl⟩
 rw [hsp'] at HSP ⊢
 rw [hcode] at HGA ⊢
 clear hsp' hcode hspe
 unfold dyv
 rw [hv]
 generalize r.kd k = kd at *
 generalize r.kk k = kk at *
 generalize r.ar k = l at *
 generalize r.dor k = q at *
 have kz : (k : Int) < (r.ng : Int) := by omega
 generalize r.ng = nn at *
 generalize r.top = tp at *
 generalize r.nf = nf at *
 generalize r.nr = nr at *
 clear z0 z1 z2 z3 z4 z5 h hv
 obtain ⟨W, hW⟩ : ∃ W, W = ((w.alloc (.cells #[.int .i64 (v : Int), .slice (some ⟨b, off, none⟩) nn cg, .int .i64 tp, .slice AF nf cf, .slice AR nr cr] 25)).alloc (.cells #[.int .i64 kd, .int .i64 kk, .slice A1 l.length c1, .bool s, .slice A2 n2 c2, .slice A3 n3 c3] 88)) := ⟨_, rfl⟩
 have x0 : W.cell? ⟨w.heap.size, 0, none⟩ = some (.int .i64 (v : Int)) := by rw [hW]; simp [go_sem]
 have q0 : W.cell? ⟨w.heap.size + 1, 0, none⟩ = some (.int .i64 kd) := by rw [hW]; simp [go_sem]
 have q1 : W.cell? ⟨w.heap.size + 1, 1, none⟩ = some (.int .i64 kk) := by rw [hW]; simp [go_sem]
 have q2 : W.cell? ⟨w.heap.size + 1, 2, none⟩ = some (.slice A1 l.length c1) := by rw [hW]; simp [go_sem]
 have q3 : W.cell? ⟨w.heap.size + 1, 3, none⟩ = some (.bool s) := by rw [hW]; simp [go_sem]
 have q4 : W.cell? ⟨w.heap.size + 1, 4, none⟩ = some (.slice A2 n2 c2) := by rw [hW]; simp [go_sem]
 have q5 : W.cell? ⟨w.heap.size + 1, 5, none⟩ = some (.slice A3 n3 c3) := by rw [hW]; simp [go_sem]
 have hT : TyB 88 W (w.heap.size + 1) := by
   rw [hW]
   have := TyB.new (t := 88) (w.alloc (.cells #[.int .i64 (v : Int), .slice (some ⟨b, off, none⟩) nn cg, .int .i64 tp, .slice AF nf cf, .slice AR nr cr] 25)) #[.int .i64 kd, .int .i64 kk, .slice A1 l.length c1, .bool s, .slice A2 n2 c2, .slice A3 n3 c3]
   simpa using this
 have hwW : Below w.heap.size w W := by rw [hW]; exact (by (skip); repeat' (first | (with_reducible first | exact BlR _ _ | assumption | refine BlA ?_ ?_ _ | refine BlD ?_ | refine BlN ?_ _ | refine BlS ?_ ?_ _ | refine BlT ?_ (BlM (by assumption) ?_)) | omega | (simp only [ZZ]; omega) | go_size))
 have hbW : Below w0.heap.size w0 W := hw.trans (hwW.mono hwz)
 have hWz : w.heap.size + 1 < W.heap.size := by rw [hW]; simp
 have ownW : OwJ W w0.heap.size As cs sp.length (fun i => sp.getD i 0) := own.below hwW
 have HW := Lib.hid hW
 clear hW own
 by_cases h0 : kd < 0
 · have HC : Hid (code = 7) := by show _ = _; rw [HGA.out]; unfold gaE; rw [if_pos (by omega)]
   clear HGA HSP
   go_enter Tryz.func107, Tryz.ntmps107
   go_wp2
   rw [← HW.out]
   go_returns
   exact ⟨GaRet.err (by rw [HC.out]; decide) (by rw [HC.out]; rfl), hbW⟩
 by_cases h8 : 8 < kd
 · have HC : Hid (code = 7) := by show _ = _; rw [HGA.out]; unfold gaE; rw [if_pos (by omega)]
   clear HGA HSP
   go_enter Tryz.func107, Tryz.ntmps107
   go_wp2
   rw [← HW.out]
   go_returns
   exact ⟨GaRet.err (by rw [HC.out]; decide) (by rw [HC.out]; rfl), hbW⟩
 have e1 : IntKind.i64.wrap ((v : Int) + (k : Int)) = (v : Int) + (k : Int) := by rw [IntKind.wrap_i64]; omega
 have hg0 : ¬ ¬ (0 ≤ kd ∧ kd ≤ 8) := by omega
 have ra : Rds W W.heap.size 1 A1 l.length (zsD l) := ra0.on hbW hbW.size
 have KA := Lib.hid (fun X => dargs_any kd l.length X)
 go_enter Tryz.func107, Tryz.ntmps107
 go_wp2_with fail
 refine (KA.out _).mono ?_
 rintro e w2 ⟨rfl, rfl⟩
 rw [← HW.out]
 by_cases hag : dgAg kd l.length = false
 · have HC : Hid (code = 11) := by show _ = _; rw [HGA.out]; unfold gaE; rw [if_neg hg0, if_pos hag]
   rw [hag]
   clear HGA HSP hag KA
   go_wp2
   go_returns
   exact ⟨GaRet.err (by rw [HC.out]; decide) (by rw [HC.out]; rfl), hbW⟩
 have hag' : dgAg kd l.length = true := by simpa using hag
 have hln := dgAg_len hag'
 have HG2 : Hid (code = if dgIx ((v : Int) + k) l = false then 10 else if tyB kd v l = false then 7 else if kd = 7 ∧ dupB sp l = true then 6 else gkE kd kk l.length q) := by show _ = _; rw [HGA.out]; unfold gaE; rw [if_neg hg0, if_neg hag]
 rw [hag']
 clear HGA hag hag' KA y0 y1 y2 y3 y4 y5 HW
 go_wp2_with fail
 go_loopw [40] (fun i wr => ∃ j : Nat, j ≤ l.length ∧ i = .int .i64 j ∧ (∀ t (ht : t < l.length), t < j → 0 ≤ l[t] ∧ l[t] < (v : Int) + k) ∧ W = wr) (fun i _ => l.length - (intOf i).toNat)
 case atStart => exact ⟨0, Nat.zero_le _, rfl, fun t _ h => by omega, rfl⟩
 case round =>
   obtain ⟨j, hj, rfl, hall, rfl⟩ := hrel
   have HALL := Lib.hid hall
   clear hall
   by_cases hjl : j < l.length
   · obtain ⟨b1, off1, rfl, hb1, za⟩ := zsD_at ra (Below.refl _ _) hjl
     have HF : Hid (¬ (0 ≤ l[j] ∧ l[j] < (v : Int) + k) → code = 10) := fun hn => by rw [HG2.out, if_pos (dgIx_f hjl hn)]
     have HY : Hid ((0 ≤ l[j] ∧ l[j] < (v : Int) + k) → ∀ t (ht : t < l.length), t < j + 1 → 0 ≤ l[t] ∧ l[t] < (v : Int) + k) := fun hn t ht htj => by
       rcases Nat.lt_or_ge t j with h | h
       · exact HALL.out t ht h
       · have : t = j := by omega
         subst this
         exact hn
     generalize l[j] = a at *
     clear HG2 HALL
     by_cases ha0 : a < 0
     · have HC := Lib.hid (HF.out (by omega))
       clear HF HY
       go_wp2
       go_returns
       exact ⟨GaRet.err (by rw [HC.out]; decide) (by rw [HC.out]; rfl), hbW⟩
     by_cases ham : (v : Int) + k ≤ a
     · have HC := Lib.hid (HF.out (by omega))
       clear HF HY
       go_wp2
       go_returns
       exact ⟨GaRet.err (by rw [HC.out]; decide) (by rw [HC.out]; rfl), hbW⟩
     have HN := Lib.hid (HY.out (by omega))
     clear HF HY
     go_wp2
     go_roundw
     case rel => exact ⟨j + 1, by omega, by go_num, HN.out, (by first | trivial | rfl)⟩
     case measure => simp [intOf]; omega
   have hix : dgIx ((v : Int) + k) l = true := dgIx_t fun t ht => HALL.out t ht (by omega)
   have HG3 : Hid (code = if tyB kd v l = false then 7 else if kd = 7 ∧ dupB sp l = true then 6 else gkE kd kk l.length q) := by show _ = _; rw [HG2.out, if_neg (by rw [hix]; decide)]
   clear HG2 HALL hix
   go_wp2_with fail
   go_loopw [59] (fun i wr => ∃ j : Nat, j ≤ l.length ∧ i = .int .i64 j ∧ (∀ t, t < j → tyK kd v l t = true) ∧ W = wr) (fun i _ => l.length - (intOf i).toNat)
   case atStart => exact ⟨0, Nat.zero_le _, rfl, fun t h => by omega, rfl⟩
   case round =>
     obtain ⟨j, hj, rfl, hall, rfl⟩ := hrel
     have HALL := Lib.hid hall
     clear hall
     by_cases hjl : j < l.length
     · obtain ⟨b1, off1, rfl, hb1, za⟩ := zsD_at ra (Below.refl _ _) hjl
       have HGD : Hid (l.getD j 0 = l[j]) := by show _ = _; rw [List.getD_eq_getElem?_getD, List.getElem?_eq_getElem hjl]; rfl
       have HF : Hid (¬ (l[j] < (v : Int) ∨ ¬ (kd = 7 ∨ kd = 8 ∧ 0 < j)) → code = 7) := fun hn => by rw [HG3.out, if_pos (tyB_f hjl (by unfold tyK; rw [HGD.out]; exact decide_eq_false hn))]
       have HY : Hid ((l[j] < (v : Int) ∨ ¬ (kd = 7 ∨ kd = 8 ∧ 0 < j)) → ∀ t, t < j + 1 → tyK kd v l t = true) := fun hn t htj => by
         rcases Nat.lt_or_ge t j with h | h
         · exact HALL.out t h
         · have : t = j := by omega
           subst this
           unfold tyK
           rw [HGD.out]
           exact decide_eq_true hn
       clear HGD
       generalize l[j] = a at *
       clear HG3 HALL
       by_cases hav : a < (v : Int)
       · have HN := Lib.hid (HY.out (.inl hav))
         clear HF HY
         go_wp2
         go_roundw
         case rel => exact ⟨j + 1, by omega, by go_num, HN.out, (by first | trivial | rfl)⟩
         case measure => simp [intOf]; omega
       by_cases h7 : kd = 7
       · have HC := Lib.hid (HF.out (by omega))
         subst h7
         clear HF HY
         go_wp2
         go_returns
         exact ⟨GaRet.err (by rw [HC.out]; decide) (by rw [HC.out]; rfl), hbW⟩
       by_cases h8' : kd = 8
       · subst h8'
         by_cases hj0 : 0 < j
         · have HC := Lib.hid (HF.out (by omega))
           clear HF HY
           go_wp2
           go_returns
           exact ⟨GaRet.err (by rw [HC.out]; decide) (by rw [HC.out]; rfl), hbW⟩
         have HN := Lib.hid (HY.out (by omega))
         have i9 : ¬ (0 : Int) < (j : Int) := by omega
         clear HF HY
         go_wp2
         go_roundw
         case rel => exact ⟨j + 1, by omega, by go_num, HN.out, (by first | trivial | rfl)⟩
         case measure => simp [intOf]; omega
       have HN := Lib.hid (HY.out (by omega))
       clear HF HY
       go_wp2
       go_roundw
       case rel => exact ⟨j + 1, by omega, by go_num, HN.out, (by first | trivial | rfl)⟩
       case measure => simp [intOf]; omega
     have hty : tyB kd v l = true := tyB_t fun t ht => HALL.out t (by omega)
     have HG4 : Hid (code = if kd = 7 ∧ dupB sp l = true then 6 else gkE kd kk l.length q) := by show _ = _; rw [HG3.out, if_neg (by rw [hty]; decide)]
     clear HG3 HALL hty
     have hjl' : ¬ (j : Int) < (l.length : Int) := by omega
     by_cases h7 : kd = 7
     · subst h7
       have hln2 : l.length ≤ 16 := hln.2
       go_wp2_with fail
       go_loopw [2, 90] (fun sv i wr => ∃ (j : Nat) (A4 : Option Addr) (c4 : Nat), j ≤ l.length ∧ sv = .slice A4 (sp.length + j) c4 ∧ i = .int .i64 j ∧ dupB sp (l.take j) = false ∧ OwJ wr w0.heap.size A4 c4 (sp.length + j) (fun i => (sp ++ l.take j).getD i 0) ∧ Below w0.heap.size w0 wr ∧ TyB 88 wr (w.heap.size + 1) ∧ w.heap.size + 1 < wr.heap.size ∧ wr.cell? ⟨w.heap.size + 1, 0, none⟩ = some (.int .i64 7) ∧ wr.cell? ⟨w.heap.size + 1, 1, none⟩ = some (.int .i64 kk) ∧ wr.cell? ⟨w.heap.size + 1, 2, none⟩ = some (.slice A1 l.length c1) ∧ wr.cell? ⟨w.heap.size + 1, 3, none⟩ = some (.bool s) ∧ wr.cell? ⟨w.heap.size + 1, 4, none⟩ = some (.slice A2 n2 c2) ∧ wr.cell? ⟨w.heap.size + 1, 5, none⟩ = some (.slice A3 n3 c3)) (fun _ i _ => l.length - (intOf i).toNat)
       case atStart => exact ⟨0, As, cs, Nat.zero_le _, rfl, rfl, by simp [dupB], by simpa using ownW, hbW, hT, hWz, q0, q1, q2, q3, q4, q5⟩
       case round =>
         clear q0 q1 q2 q3 q4 q5 hT ownW ra
         obtain ⟨j, A4, c4, hj, rfl, rfl, hdup, own4, hb4, hT, hz4, q0, q1, q2, q3, q4, q5⟩ := hrel
         have HDU := Lib.hid hdup
         clear hdup
         obtain ⟨w4, rfl⟩ : ∃ w4 : World, w4 = wr := ⟨_, rfl⟩
         have hb4z := hb4.size
         by_cases hjl : j < l.length
         · obtain ⟨b1, off1, rfl, hb1, za⟩ := zsD_at (ra0.on hb4 hb4z) (Below.refl _ _) hjl
           have hlen : (sp ++ l.take j).length = sp.length + j := by simp; omega
           have KC := Lib.hid (by
             have := dcontains (w := w4) (b0 := w0.heap.size) (c := c4) (A := A4) (sp := sp ++ l.take j) (by rw [hlen]; exact own4) l[j] (by rw [hlen]; omega)
             rw [hlen] at this
             exact this)
           have HTK : Hid (sp ++ l.take (j + 1) = (sp ++ l.take j) ++ [l[j]]) := by
             show _ = _
             rw [List.take_succ_eq_append_getElem hjl, List.append_assoc]
           have HDT : Hid (dupB sp (l.take (j + 1)) = (sp ++ l.take j).contains l[j]) := by
             show _ = _
             rw [dupB_take hjl, HDU.out, Bool.false_or]
           generalize l[j] = a at *
           cases hcn : (sp ++ l.take j).contains a
           · have HD2 : Hid (dupB sp (l.take (j + 1)) = false) := by show _ = _; rw [HDT.out, hcn]
             rw [hcn] at KC
             have HNR : Hid (∀ i, i < sp.length + j + 1 → (sp ++ l.take (j + 1)).getD i 0 = if i = sp.length + j then a else (sp ++ l.take j).getD i 0) := fun i hi => by
               rw [HTK.out]
               exact getD_snoc hlen a i hi
             clear hcn HDT HTK
             go_wp2_with fail
             refine KC.out.mono ?_
             rintro e w6 ⟨rfl, rfl⟩
             go_wp2_with (first | (at_builtin; refine wpList_appJg rfl (.tmp 98) (.tmp 100) rfl w0.heap.size A4 c4 (sp.length + j) (fun i => (sp ++ l.take j).getD i 0) (by simp [Act.eval]) (own4.below ((Below.refl _ _).alloc (Nat.le_refl _) _)) w4.heap.size a rfl (by simp [go_sem]) (by omega) (by simp; omega) ?_; intro g7 c7 w7 own7 hg7 hg7z) | fail)
             have hA : Below w4.heap.size w4 (w4.alloc (.cells #[.int .i64 a] 3)) := (Below.refl _ _).alloc (Nat.le_refl _) _
             have hne := (hT.below hA hz4).ne (own4.below hA) (by decide)
             have hT7 := (hT.below hA hz4).grown hg7 hne
             have hb7 : Below w0.heap.size w0 w7 := (hb4.trans (hA.mono hb4z)).trans ((own4.below hA).gr hg7 (by simp; omega))
             have hz7 := hg7.size
             simp only [World.size_alloc] at hz7
             have HO7 : Hid (OwJ w7 w0.heap.size (some ⟨g7, 0, none⟩) c7 (sp.length + (j + 1)) (fun i => (sp ++ l.take (j + 1)).getD i 0)) := own7.congr fun i hi => (HNR.out i hi).symm
             have far : ∀ o u, w4.cell? ⟨w.heap.size + 1, o, none⟩ = some u → w7.cell? ⟨w.heap.size + 1, o, none⟩ = some u := fun o u hu => hg7.cell ((below_at hA _ o hz4).trans hu) hne
             have u0 := far 0 _ q0
             have u1 := far 1 _ q1
             have u2 := far 2 _ q2
             have u3 := far 3 _ q3
             have u4 := far 4 _ q4
             have u5 := far 5 _ q5
             go_roundw
             case rel => exact ⟨j + 1, some ⟨g7, 0, none⟩, c7, by omega, by first | rfl | (simp; done), by go_num, HD2.out, HO7.out, hb7, hT7, by omega, u0, u1, u2, u3, u4, u5⟩
             case measure => simp [intOf]; omega
           · have HC : Hid (code = 6) := by
               show _ = _
               rw [HG4.out, if_pos ⟨by first | trivial | rfl, dupB_more (k := j + 1) (by rw [HDT.out, hcn])⟩]
             rw [hcn] at KC
             clear hcn HDT HTK HG4
             go_wp2_with fail
             refine KC.out.mono ?_
             rintro e w6 ⟨rfl, rfl⟩
             go_wp2_with fail
             go_returns
             exact ⟨GaRet.err (by rw [HC.out]; decide) (by rw [HC.out]; rfl), hb4⟩
         have hjl'' : ¬ (j : Int) < (l.length : Int) := by omega
         obtain rfl : j = l.length := by omega
         have HG5 : Hid (code = gkE 7 kk l.length q) := by
           show _ = _
           have := HDU.out
           rw [List.take_of_length_le (Nat.le_refl _)] at this
           rw [HG4.out, if_neg (fun h => by rw [this] at h; exact absurd h.2 (by decide))]
         have HS5 : Hid (sp' = sp ++ l) := by show _ = _; rw [HSP.out, if_pos (by first | trivial | rfl)]
         have own5 : OwJ w4 w0.heap.size A4 c4 (sp ++ l).length (fun i => (sp ++ l).getD i 0) := by
           have := own4
           rw [List.take_of_length_le (Nat.le_refl _)] at this
           rw [List.length_append]; exact this
         have hle5 : (sp ++ l).length = sp.length + l.length := List.length_append
         clear own4 HDU HG4 HSP
         by_cases hk0 : kk = 0
         · subst hk0
           have HP5 : Hid (code = if prR q = false then 3 else 0) := by
             show _ = _
             rw [HG5.out]
             unfold gkE
             simp
           have KP := Lib.hid (probS (w := w4) (RdS.belowS rs0 hb4) hsz.1 hsz.2)
           clear HG5
           go_wp2_with fail
           refine KP.out.mono ?_
           rintro e w5 ⟨rfl, hb5⟩
           cases hz : prR q
           · have HC : Hid (code = 3) := by show _ = _; rw [HP5.out, hz]; rfl
             clear hz HP5
             go_wp2_with fail
             go_returns
             exact ⟨GaRet.err (by rw [HC.out]; decide) (by rw [HC.out]; rfl), hb4.trans (hb5.mono hb4z)⟩
           · have HC : Hid (code = 0) := by show _ = _; rw [HP5.out, hz]; rfl
             clear hz HP5
             go_wp2_with fail
             go_returns
             refine ⟨GaRet.ok HC.out (by rw [HS5.out, hle5]; rfl) ?_, hb4.trans (hb5.mono hb4z)⟩
             rw [HS5.out]
             exact own5.below hb5
         have HC : Hid (code = 2) := by
           show _ = _
           rw [HG5.out]
           unfold gkE
           rw [if_neg (by omega), if_pos ⟨by omega, hk0⟩]
         go_wp2_with fail
         go_returns
         exact ⟨GaRet.err (by rw [HC.out]; decide) (by rw [HC.out]; rfl), hb4⟩
     have HG5 : Hid (code = gkE kd kk l.length q) := by show _ = _; rw [HG4.out, if_neg (fun h => h7 h.1)]
     have HS5 : Hid (sp' = sp) := by show _ = _; rw [HSP.out, if_neg h7]
     have KZ := Lib.hid (dzeroS (w := W) (RdS.belowS rs0 hbW))
     have hbWz := hbW.size
     clear HG4 HSP rs0 ra hT
     by_cases h2 : kd = 2
     · subst h2
       by_cases hk1 : kk < 1
       · have HC : Hid (code = 3) := by
           show _ = _
           rw [HG5.out]
           unfold gkE
           rw [if_pos ⟨rfl, by omega⟩]
         clear HG5
         go_wp2_with fail
         go_returns
         exact ⟨GaRet.err (by rw [HC.out]; decide) (by rw [HC.out]; rfl), hbW⟩
       by_cases hk2 : (l.length : Int) < kk
       · have HC : Hid (code = 3) := by
           show _ = _
           rw [HG5.out]
           unfold gkE
           rw [if_pos ⟨rfl, by omega⟩]
         clear HG5
         go_wp2_with fail
         go_returns
         exact ⟨GaRet.err (by rw [HC.out]; decide) (by rw [HC.out]; rfl), hbW⟩
       have HZ : Hid (code = if zeR q = false then 2 else 0) := by
         show _ = _
         rw [HG5.out]
         unfold gkE
         rw [if_neg (by omega), if_neg (by omega), if_neg (by omega)]
         simp
       clear HG5
       go_wp2_with fail
       refine KZ.out.mono ?_
       rintro e w5 ⟨rfl, hb5⟩
       cases hz : zeR q
       · have HC : Hid (code = 2) := by show _ = _; rw [HZ.out, hz]; rfl
         clear hz HZ
         go_wp2_with fail
         go_returns
         exact ⟨GaRet.err (by rw [HC.out]; decide) (by rw [HC.out]; rfl), hbW.trans (hb5.mono hbWz)⟩
       · have HC : Hid (code = 0) := by show _ = _; rw [HZ.out, hz]; rfl
         clear hz HZ
         go_wp2_with fail
         go_returns
         refine ⟨GaRet.ok HC.out (by rw [HS5.out]; rfl) ?_, hbW.trans (hb5.mono hbWz)⟩
         rw [HS5.out]
         exact ownW.below hb5
     by_cases hk0 : kk = 0
     · subst hk0
       have HZ : Hid (code = if zeR q = false then 2 else 0) := by
         show _ = _
         rw [HG5.out]
         unfold gkE
         rw [if_neg (by omega), if_neg (by omega), if_neg (by omega)]
         simp [h7]
       clear HG5
       go_wp2_with fail
       refine KZ.out.mono ?_
       rintro e w5 ⟨rfl, hb5⟩
       cases hz : zeR q
       · have HC : Hid (code = 2) := by show _ = _; rw [HZ.out, hz]; rfl
         clear hz HZ
         go_wp2_with fail
         go_returns
         exact ⟨GaRet.err (by rw [HC.out]; decide) (by rw [HC.out]; rfl), hbW.trans (hb5.mono hbWz)⟩
       · have HC : Hid (code = 0) := by show _ = _; rw [HZ.out, hz]; rfl
         clear hz HZ
         go_wp2_with fail
         go_returns
         refine ⟨GaRet.ok HC.out (by rw [HS5.out]; rfl) ?_, hbW.trans (hb5.mono hbWz)⟩
         rw [HS5.out]
         exact ownW.below hb5
     have HC : Hid (code = 2) := by
       show _ = _
       rw [HG5.out]
       unfold gkE
       rw [if_neg (by omega), if_pos ⟨h2, hk0⟩]
     clear HG5
     go_wp2_with fail
     go_returns
     exact ⟨GaRet.err (by rw [HC.out]; decide) (by rw [HC.out]; rfl), hbW⟩
end
end Go.Proofs.YtoiopnmphbnjaaaGreatDoor
