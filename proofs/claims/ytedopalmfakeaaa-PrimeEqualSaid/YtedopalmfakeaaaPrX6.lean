/- Contracts of functions and lemmas, used by the proofs of the given statements. No condition beyond those that each lemma names. -/
import Derived.Test.YtedopalmfakeaaaPrX5
namespace Go.Proofs.Ytedopalmfakeaaa
open Go.RowKit Go.Sort
set_option linter.unusedSimpArgs false
set_option linter.unusedVariables false
set_option maxRecDepth 20000
/-! ## law13: the reference's All -/
attribute [local irreducible] pop popc
theorem step_appC1 {w : World} {ops : Array Oper} {o : Oper} {a : Act} {K : Act → World → Prop} {Q : Exit → Act → World → Prop} {E : Prop} (hgd : o.guard = none) (s x : Operand)
    (ho : o.op = .call { callee := .builtin .append, args := #[s, x], argTypes := #[35, 35] })
    (base : Nat) (A0 : Option Addr) (c0 n : Nat) (l : List Cb) (hs : a.eval s = .slice A0 n c0) (hnl : n = l.length) (hown : OwC w base A0 c0 l)
    (c : Cb) (g : Nat) (hx : a.eval x = .slice (some ⟨g, 0, none⟩) 1 1) (hc0 : w.cell? ⟨g, 0, none⟩ = some (.int .i64 c.1)) (hc1 : w.cell? ⟨g, 1, none⟩ = some (.int .i64 c.2))
    (hlen : n ≤ 1000000) (hbase : base ≤ w.heap.size)
    (h : ∀ A' c' w', OwC w' base A' c' (l ++ [c]) → Below base w w' → K (a.put o.dst (.slice A' (n + 1) c')) w') : if Region.wanted o (yielded ops a.tmps) = true then Oper.wp Try.prog o a w K Q else E :=
  step_appC hgd s x ho base A0 c0 n l hs hnl hown w.heap.size (some ⟨g, 0, none⟩) 1 1 [c] hx rfl ⟨rfl, fun _ => ⟨g, 0, rfl, lt_of_cell hc0, fun j u hu => by
    rw [Nat.zero_add]
    match j, hu with
    | 0, hu => simp [cbs, cbc] at hu; subst hu; exact hc0
    | 1, hu => simp [cbs, cbc] at hu; subst hu; exact hc1
    | j + 2, hu => simp [cbs, cbc] at hu⟩⟩ (by omega) hbase h
/-- the block of a row -/
def obA (A : Option Addr) : Option Nat := A.map (·.block)
theorem obA_eq (A : Option Addr) (n c : Nat) : (Value.slice A n c).ownBlock = obA A := by cases A <;> rfl
theorem wpList_appC1L {w : World} {ops : Array Oper} {rest : List Oper} {o : Oper} {a : Act} {Q : Exit → Act → World → Prop} (hgd : o.guard = none) (s x : Operand)
    (ho : o.op = .call { callee := .builtin .append, args := #[s, x], argTypes := #[35, 35] })
    (base : Nat) (A0 : Option Addr) (c0 n : Nat) (l : List Cb) (hs : a.eval s = .slice A0 n c0) (hnl : n = l.length) (hown : OwC w base A0 c0 l)
    (c : Cb) (g : Nat) (hx : a.eval x = .slice (some ⟨g, 0, none⟩) 1 1) (hc0 : w.cell? ⟨g, 0, none⟩ = some (.int .i64 c.1)) (hc1 : w.cell? ⟨g, 1, none⟩ = some (.int .i64 c.2))
    (hlen : n ≤ 1000000) (hbase : base ≤ w.heap.size)
    (h : ∀ g' c' w', OwC w' base (some ⟨g', 0, none⟩) c' (l ++ [c]) → w.grownBy w' (obA A0) → (obA A0 = some g' ∨ g' = w.heap.size) → Below base w w' → wpList Try.prog ops Q rest (a.put o.dst (.slice (some ⟨g', 0, none⟩) (n + 1) c')) w') : wpList Try.prog ops Q (o :: rest) a w := by
  subst hnl
  obtain ⟨i0, hi0, hz0, hz1, hz2⟩ := info_parts cubeInfo
  refine wpList_append_lies _ hgd s x 35 ho base 23 i0 _ 2 16 Try.underlying35 hi0 hz0 hz1 hz2 rfl (by omega) _ l.length _ hs hown ⟨g, 0, none⟩ 1 1 [.int .i64 c.1, .int .i64 c.2] hx rfl ?_ ?_ (by omega) (by unfold maxLen; omega) (by omega) hbase w.heap.size rfl ?_
  · intro j u hu
    rw [addr_add, Nat.zero_add]
    match j, hu with
    | 0, hu => simp at hu; subst hu; exact hc0
    | 1, hu => simp at hu; subst hu; exact hc1
    | j + 2, hu => simp at hu
  · intro u hu
    simp at hu
    rcases hu with rfl | rfl <;> rfl
  · intro g' cap w' h1 h2 h3 h4
    rw [obA_eq] at h2 h3
    refine h g' cap w' ?_ h2 h3 ((Below.refl _ _).grown h2 hbase fun k hk => (World.ownsRow.lt hown k (by rw [obA_eq]; exact hk)).1)
    unfold OwC
    rw [cbs_append, cbs_one, List.length_append]
    exact h1
theorem keepC {w w' : World} {base c : Nat} {A P : Option Addr} {l : List Cb} (h : OwC w base A c l) (s : obA A = none ∨ obA A ≠ obA P) (hg : w.grownBy w' (obA P)) : OwC w' base A c l :=
  World.ownsRow.kept h hg (by rw [obA_eq]; exact s)
theorem sepC {w : World} {base c g : Nat} {A P : Option Addr} {l : List Cb} (h : OwC w base A c l) (s : obA A = none ∨ obA A ≠ obA P) (hf : obA P = some g ∨ g = w.heap.size) : obA A = none ∨ obA A ≠ some g := by
  rcases hf with hf | rfl
  · rw [← hf]; exact s
  · refine .inr fun e => ?_
    have := (World.ownsRow.lt h _ (by rw [obA_eq]; exact e)).2
    omega
theorem keepV {w w' : World} {base c n : Nat} {A P : Option Addr} {u : Nat → Bool} (h : OwV w base A c n u) (s : obA A = none ∨ obA A ≠ obA P) (hg : w.grownBy w' (obA P)) : OwV w' base A c n u :=
  World.ownsRow.kept h hg (by rw [obA_eq]; exact s)
theorem sepV {w : World} {base c n g : Nat} {A P : Option Addr} {u : Nat → Bool} (h : OwV w base A c n u) (s : obA A = none ∨ obA A ≠ obA P) (hf : obA P = some g ∨ g = w.heap.size) : obA A = none ∨ obA A ≠ some g := by
  rcases hf with hf | rfl
  · rw [← hf]; exact s
  · refine .inr fun e => ?_
    have := (World.ownsRow.lt h _ (by rw [obA_eq]; exact e)).2
    omega
/-- a row that was made after another one -/
theorem sep_newC {w w' : World} {b0 b1 c c' : Nat} {A P : Option Addr} {l m : List Cb} (h : OwC w' b1 A c l) (hP : OwC w b0 P c' m) (hb : w.heap.size ≤ b1) : obA A = none ∨ obA A ≠ obA P := by
  cases A with
  | none => exact .inl rfl
  | some a =>
    refine .inr fun e => ?_
    have h1 := (World.ownsRow.lt h _ (by rw [obA_eq]; rfl)).1
    have h2 := (World.ownsRow.lt hP _ (by rw [obA_eq, ← e]; rfl)).2
    omega
theorem sep_newV {w w' : World} {b0 b1 c c' n : Nat} {A P : Option Addr} {u : Nat → Bool} {m : List Cb} (h : OwV w' b1 A c n u) (hP : OwC w b0 P c' m) (hb : w.heap.size ≤ b1) : obA A = none ∨ obA A ≠ obA P := by
  cases A with
  | none => exact .inl rfl
  | some a =>
    refine .inr fun e => ?_
    have h1 := (World.ownsRow.lt h _ (by rw [obA_eq]; rfl)).1
    have h2 := (World.ownsRow.lt hP _ (by rw [obA_eq, ← e]; rfl)).2
    omega
/-- the first k of the list that no pair uses -/
def prmK (l : List Cn) (u : Nat → Bool) (k : Nat) : List Cn := ((List.range k).filter fun i => !u i).map (atN l)
theorem prmK_succ (l : List Cn) (u : Nat → Bool) (k : Nat) : prmK l u (k + 1) = prmK l u k ++ if u k then [] else [atN l k] := by
  unfold prmK
  rw [List.range_succ, List.filter_append, List.map_append]
  cases h : u k <;> simp [h]
theorem prmK_len (l : List Cn) (u : Nat → Bool) (k : Nat) : (prmK l u k).length ≤ k := by
  unfold prmK
  rw [List.length_map]
  exact Nat.le_trans (List.length_filter_le _ _) (by simp)
def minK (S : Nat) (V : Nat → Bool) (L : List Nat) (k : Nat) : List Cn := ((L.take k).filter V).map (minN S)
theorem minK_succ {S : Nat} {V : Nat → Bool} {L : List Nat} {k : Nat} (hk : k < L.length) : minK S V L (k + 1) = minK S V L k ++ if V L[k] then [minN S L[k]] else [] := by
  unfold minK
  rw [List.take_succ_eq_append_getElem hk, List.filter_append, List.map_append]
  cases h : V L[k] <;> simp [h]
theorem minK_len (S : Nat) (V : Nat → Bool) (L : List Nat) (k : Nat) : (minK S V L k).length ≤ k := by
  unfold minK
  rw [List.length_map]
  exact Nat.le_trans (List.length_filter_le _ _) (by rw [List.length_take]; omega)
/-- how many rounds are left: the literals of the list's first cube -/
def lvMea (o : Value) (w : World) : Nat := match o with
  | .slice (some ⟨b, off, _⟩) (n + 1) _ => match w.cell? ⟨b, off, none⟩, w.cell? ⟨b, off + 1, none⟩ with
    | some (.int _ x), some (.int _ y) => popc (x.toNat ||| y.toNat) + 1
    | _, _ => 0
  | _ => 0
theorem lvMea_nil (A : Option Addr) (c : Nat) (w : World) : lvMea (.slice A 0 c) w = 0 := by
  unfold lvMea
  cases A <;> rfl
theorem lvMea_at {w : World} {B c : Nat} {A : Option Addr} {l : List Cn} (h : RdC w B A (l.map zc)) (h0 : 0 < l.length) : lvMea (.slice A l.length c) w = popc (evN (atN l 0)) + 1 := by
  obtain ⟨b, off, rfl, -, y1, y2⟩ := h.at_ (k := 0) (c := zc (atN l 0)) (by rw [List.getElem?_map, List.getElem?_eq_getElem h0, atN_lt h0]; rfl)
  obtain ⟨n, hn⟩ : ∃ n, l.length = n + 1 := ⟨l.length - 1, by omega⟩
  rw [hn]
  have y1 : w.cell? ⟨b, off, none⟩ = some (.int .i64 ((atN l 0).1 : Int)) := by simpa using y1
  have y2 : w.cell? ⟨b, off + 1, none⟩ = some (.int .i64 ((atN l 0).2 : Int)) := by simpa using y2
  unfold lvMea
  simp only [y1, y2]
  rfl
/-- what a round of the reference knows -/
structure RndS (S : Nat) (V : Nat → Bool) (R : List Cn) (l P : List Cn) : Prop where
  ex : ∃ m f, (∀ c, c ∈ l ↔ Lv S V m c) ∧ l.Nodup ∧ P ++ rndN f l = R ∧ popc S < m + f
  okl : ∀ c, c ∈ l → okN c
  okP : ∀ c, c ∈ P → okN c
  few : l.length ≤ 1024
  fewP : P.length ≤ 1024
section
variable {S : Nat} {V : Nat → Bool} {l P R : List Cn}
structure PrmR (S : Nat) (V : Nat → Bool) (R : List Cn) : Prop where
  nd : R.Nodup
  iff : ∀ x, x ∈ R ↔ prmN S V x
theorem PrmR.few (hS : S < 16777216) (h7 : popc S ≤ 7) (h : PrmR S V R) : R.length ≤ 1024 :=
  anti_few hS h7 { nd := h.nd, ok := fun c hc => ⟨((h.iff c).1 hc).1, ((h.iff c).1 hc).2.1⟩, an := fun a ha b hb hw => prm_anti ((h.iff a).1 ha) ((h.iff b).1 hb) hw }
theorem PrmR.srt (h : PrmR S V R) : PrmS S V (srtD ltN R) := ⟨srtD_sorted ltN_o R, fun x => (srtD_mem ltN_o R x).trans (h.iff x)⟩
theorem RndS.start {v : Nat} (hS : S < 16777216) (h7 : popc S ≤ 7) (hk : ∀ i, S.testBit i = true → i < v) : ∃ R, PrmR S V R ∧ RndS S V R (mintL S v V) [] := by
  obtain ⟨f, hf⟩ : ∃ f, popc S < f := ⟨popc S + 1, by omega⟩
  have hsp := allN_spec (V := V) hS hk hf
  have hlv := fun c => mint_level (V := V) hS hk c
  refine ⟨rndN f (mintL S v V), ⟨hsp.1, hsp.2⟩, ⟨0, f, hlv, mintL_nodup, List.nil_append _, by omega⟩, fun c hc => ((hlv c).1 hc).ok, fun c hc => by simp at hc, lv_few hS h7 (fun c hc => (hlv c).1 hc) mintL_nodup, by simp⟩
theorem RndS.stop (h : RndS S V R [] P) : P = R := by
  obtain ⟨m, f, -, -, h3, -⟩ := h.ex
  rw [rndN_nil, List.append_nil] at h3
  exact h3
theorem RndS.step (hS : S < 16777216) (h7 : popc S ≤ 7) (hR : PrmR S V R) (h : RndS S V R l P) (h0 : 0 < l.length) :
    RndS S V R (srtD ltN (mAll l l.length).1) (P ++ prmK l (mAll l l.length).2 l.length) ∧ (0 < (srtD ltN (mAll l l.length).1).length → popc (evN (atN (srtD ltN (mAll l l.length).1) 0)) < popc (evN (atN l 0))) ∧ (∀ k, k ≤ l.length → (P ++ prmK l (mAll l l.length).2 k).length ≤ 2048) := by
  obtain ⟨m, f, h1, h2, h3, h4⟩ := h.ex
  have hnl := next_level hS h1
  cases f with
  | zero =>
    have := lv_none h1 (by omega)
    rw [this] at h0
    simp at h0
  | succ f =>
    have h5 : P ++ (prmK l (mAll l l.length).2 l.length ++ rndN f (srtD ltN (mAll l l.length).1)) = R := h3
    have hnd := sorted_nodup (srtD_sorted ltN_o (mAll l l.length).1)
    have hfR := hR.few hS h7
    have hPl : P.length + (prmK l (mAll l l.length).2 l.length).length ≤ R.length := by
      rw [← h5]
      simp only [List.length_append]
      omega
    refine ⟨⟨⟨m + 1, f, hnl, hnd, by rw [List.append_assoc]; exact h5, by omega⟩, fun c hc => ((hnl c).1 hc).ok, fun c hc => ?_, lv_few hS h7 (fun c hc => (hnl c).1 hc) hnd, by rw [List.length_append]; omega⟩, fun hn0 => ?_, fun k hk => ?_⟩
    · refine ((hR.iff c).1 ?_).1
      rw [← h5]
      rcases List.mem_append.1 hc with hc | hc
      · exact List.mem_append_left _ hc
      · exact List.mem_append_right _ (List.mem_append_left _ hc)
    · have a1 := ((hnl _).1 (atN_mem hn0)).num
      have a2 := ((h1 _).1 (atN_mem h0)).num
      omega
    · have := prmK_len l (mAll l l.length).2 k
      have h6 := h.few
      have h7 := h.fewP
      rw [List.length_append]
      omega
end
section
variable {w : World} {A : Option Addr} {cp v : Nat} {f : FrR}
set_option maxHeartbeats 16000000 in
theorem rAll13_ok (h : FrI w A f) (ok : FrOk f) (hv : f.vars = v) (h7 : popc (supF f.fr) ≤ 7) :
    Calls Try.prog 60 #[fv (v : Int) A f.nn cp f.top] w fun e w' => (∃ s, PrmS (supF f.fr) f.fr.val s ∧ s.length ≤ 1024 ∧ ∃ A c, e = .returned (.tuple #[.slice A s.length c, .int .i64 0]) ∧ OwC w' w.heap.size A c (s.map zc)) ∧ Below w.heap.size w w' := by
  have v1 : v ≤ 24 := by have := ok.v1; omega
  have hS := (supF_lt ok hv).2
  have hk : ∀ i, (supF f.fr).testBit i = true → i < v := fun i hi => by
    have := (supF_bit f.fr i).1 hi
    rw [vlF_nat f hv] at this
    exact this.1
  have K1 := Lib.hid (fun W (hW : Below w.heap.size w W) => rsup13_ok (c := cp) (h.below hW) ok hv)
  have K2 := Lib.hid (fun W (hW : Below w.heap.size w W) => rstates_ok (cp := cp) (h.below hW) ok hv (by omega))
  have K3 := Lib.hid (fun W (hW : Below w.heap.size w W) t ht => rval13_ok (cp := cp) (t := t) (h.below hW) ok hv ht)
  have HLT : Hid (∀ t, t ∈ stsN (supF f.fr) v → t < 16777216) := fun t ht => sts_lt v1 ht
  have hlen := sts_room (S := supF f.fr) (k := v) (by omega) v1
  obtain ⟨R, hR, hst⟩ := RndS.start (V := f.fr.val) hS h7 hk
  have HR := Lib.hid hR
  have HMin : Hid (mintL (supF f.fr) v f.fr.val = minK (supF f.fr) f.fr.val (stsN (supF f.fr) v) (stsN (supF f.fr) v).length) := by
    show _ = _
    unfold mintL minK
    rw [List.take_length]
  have HST := Lib.hid hst
  have H7 := Lib.hid h7
  have HSm := Lib.hid hS
  generalize stsN (supF f.fr) v = L at *
  generalize mintL (supF f.fr) v f.fr.val = l0 at *
  generalize supF f.fr = S at *
  generalize f.fr.val = V at *
  generalize f.nn = nn at *
  generalize f.top = tp at *
  clear h ok hv h7 hk hR hst
  go_enter Try.func60, Try.ntmps60
  go_wp2
  have z0 : (w.alloc (.cells #[.int .i64 (v : Int), .slice A nn cp, .int .i64 tp] 66)).cell? ⟨w.heap.size, 0, none⟩ = some (.int .i64 (v : Int)) := by simp [go_sem]
  have z1 : (w.alloc (.cells #[.int .i64 (v : Int), .slice A nn cp, .int .i64 tp] 66)).cell? ⟨w.heap.size, 1, none⟩ = some (.slice A nn cp) := by simp [go_sem]
  have z2 : (w.alloc (.cells #[.int .i64 (v : Int), .slice A nn cp, .int .i64 tp] 66)).cell? ⟨w.heap.size, 2, none⟩ = some (.int .i64 tp) := by simp [go_sem]
  have hb0 : Below w.heap.size w (w.alloc (.cells #[.int .i64 (v : Int), .slice A nn cp, .int .i64 tp] 66)) := (by (skip); repeat' (first | (with_reducible exact Below.refl _ _) | (with_reducible assumption) | (with_reducible refine Below.alloc ?_ ?_ _) | (with_reducible refine Below.drew ?_) | (with_reducible refine below_drewN ?_ _) | (with_reducible refine Below.setCell ?_ ?_ _) | (with_reducible refine Below.trans ?_ (Below.mono (by with_reducible assumption) ?_)) | omega | (simp only [World.size_alloc, World.size_setCell, World.size_drew, size_drewN']; omega) | go_size))
  have hz0 : w.heap.size < (w.alloc (.cells #[.int .i64 (v : Int), .slice A nn cp, .int .i64 tp] 66)).heap.size := by simp
  obtain ⟨W0, hW0⟩ : ∃ W0, W0 = w.alloc (.cells #[.int .i64 (v : Int), .slice A nn cp, .int .i64 tp] 66) := ⟨_, rfl⟩
  rw [← hW0] at z0 z1 z2 hb0 hz0 ⊢
  clear hW0
  have K1' := Lib.hid (fun W (hW : Below W0.heap.size W0 W) => K1.out W (hb0.trans (hW.mono (by omega))))
  have K2' := Lib.hid (fun W (hW : Below W0.heap.size W0 W) => K2.out W (hb0.trans (hW.mono (by omega))))
  clear K1 K2
  go_cut [4, 5] from 12 to 15 (fun a b wx => a = .int .i64 (S : Int) ∧ ∃ A1 c1, b = .slice A1 L.length c1 ∧ OwJ wx W0.heap.size A1 c1 L.length (lsJ L) ∧ Below W0.heap.size W0 wx)
  case first =>
    go_region_held3 (fun W => W.cell? ⟨w.heap.size, 0, none⟩ = some (.int .i64 (v : Int)) ∧ W.cell? ⟨w.heap.size, 1, none⟩ = some (.slice A nn cp) ∧ W.cell? ⟨w.heap.size, 2, none⟩ = some (.int .i64 tp)) (go_keep)
      (first | ((go_at_call 98; (with_reducible refine (K1'.out _ (by (skip); repeat' (first | (with_reducible exact Below.refl _ _) | (with_reducible assumption) | (with_reducible refine Below.alloc ?_ ?_ _) | (with_reducible refine Below.drew ?_) | (with_reducible refine below_drewN ?_ _) | (with_reducible refine Below.setCell ?_ ?_ _) | (with_reducible refine Below.trans ?_ (Below.mono (by with_reducible assumption) ?_)) | omega | (simp only [World.size_alloc, World.size_setCell, World.size_drew, size_drewN']; omega) | go_size))).mono ?_); rintro e w4 ⟨rfl, hb4⟩; have hb4z := Below.size hb4; (try simp only [World.size_alloc, World.size_setCell, World.size_drew] at hb4z); have hb4c0 := fun o => below_at hb4 (w.heap.size) o (by first | omega | (simp only [World.size_alloc, World.size_setCell, World.size_drew]; omega)); have hb4f0 := fun o => below_fr hb4 (w.heap.size) o (by first | omega | (simp only [World.size_alloc, World.size_setCell, World.size_drew]; omega)); have hb4l0 : w.heap.size < (w4).heap.size := (by omega))) | ((go_at_call 99; (with_reducible refine (K2'.out _ (by have z0 := Below.size hb4; (try simp only [World.size_alloc, World.size_setCell, World.size_drew, size_drewN'] at z0 ⊢; skip); repeat' (first | (with_reducible exact Below.refl _ _) | (with_reducible assumption) | (with_reducible refine Below.alloc ?_ ?_ _) | (with_reducible refine Below.drew ?_) | (with_reducible refine below_drewN ?_ _) | (with_reducible refine Below.setCell ?_ ?_ _) | (with_reducible refine Below.trans ?_ (Below.mono (by with_reducible assumption) ?_)) | omega | (simp only [World.size_alloc, World.size_setCell, World.size_drew, size_drewN']; omega) | go_size))).mono ?_); rintro e w5 ⟨⟨A5, c5, rfl, own5⟩, hb5⟩; have hb5z := Below.size hb5; (try simp only [World.size_alloc, World.size_setCell, World.size_drew] at hb5z); have hb5c0 := fun o => below_at hb5 (w.heap.size) o (by first | omega | (simp only [World.size_alloc, World.size_setCell, World.size_drew]; omega)); have hb5f0 := fun o => below_fr hb5 (w.heap.size) o (by first | omega | (simp only [World.size_alloc, World.size_setCell, World.size_drew]; omega)); have hb5l0 : w.heap.size < (w5).heap.size := (by omega))) | ((go_at_call 99; (with_reducible refine (K2'.out _ (by (skip); repeat' (first | (with_reducible exact Below.refl _ _) | (with_reducible assumption) | (with_reducible refine Below.alloc ?_ ?_ _) | (with_reducible refine Below.drew ?_) | (with_reducible refine below_drewN ?_ _) | (with_reducible refine Below.setCell ?_ ?_ _) | (with_reducible refine Below.trans ?_ (Below.mono (by with_reducible assumption) ?_)) | omega | (simp only [World.size_alloc, World.size_setCell, World.size_drew, size_drewN']; omega) | go_size))).mono ?_); rintro e w5 ⟨⟨A5, c5, rfl, own5⟩, hb5⟩; have hb5z := Below.size hb5; (try simp only [World.size_alloc, World.size_setCell, World.size_drew] at hb5z); have hb5c0 := fun o => below_at hb5 (w.heap.size) o (by first | omega | (simp only [World.size_alloc, World.size_setCell, World.size_drew]; omega)); have hb5f0 := fun o => below_fr hb5 (w.heap.size) o (by first | omega | (simp only [World.size_alloc, World.size_setCell, World.size_drew]; omega)); have hb5l0 : w.heap.size < (w5).heap.size := (by omega))) | ((go_at_call 98; (with_reducible refine (K1'.out _ (by have z0 := Below.size hb5; (try simp only [World.size_alloc, World.size_setCell, World.size_drew, size_drewN'] at z0 ⊢; skip); repeat' (first | (with_reducible exact Below.refl _ _) | (with_reducible assumption) | (with_reducible refine Below.alloc ?_ ?_ _) | (with_reducible refine Below.drew ?_) | (with_reducible refine below_drewN ?_ _) | (with_reducible refine Below.setCell ?_ ?_ _) | (with_reducible refine Below.trans ?_ (Below.mono (by with_reducible assumption) ?_)) | omega | (simp only [World.size_alloc, World.size_setCell, World.size_drew, size_drewN']; omega) | go_size))).mono ?_); rintro e w4 ⟨rfl, hb4⟩; have hb4z := Below.size hb4; (try simp only [World.size_alloc, World.size_setCell, World.size_drew] at hb4z); have hb4c0 := fun o => below_at hb4 (w.heap.size) o (by first | omega | (simp only [World.size_alloc, World.size_setCell, World.size_drew]; omega)); have hb4f0 := fun o => below_fr hb4 (w.heap.size) o (by first | omega | (simp only [World.size_alloc, World.size_setCell, World.size_drew]; omega)); have hb4l0 : w.heap.size < (w4).heap.size := (by omega))) | fail)
    all_goals
      go_wp2
      go_meet
      first
      | exact ⟨rfl, A5, c5, rfl, own5.base_ (by first | omega | (simp; omega)), (by have z0 := Below.size hb4; have z1 := Below.size hb5; (try simp only [World.size_alloc, World.size_setCell, World.size_drew, size_drewN'] at z0 z1 ⊢; skip); repeat' (first | (with_reducible exact Below.refl _ _) | (with_reducible assumption) | (with_reducible refine Below.alloc ?_ ?_ _) | (with_reducible refine Below.drew ?_) | (with_reducible refine below_drewN ?_ _) | (with_reducible refine Below.setCell ?_ ?_ _) | (with_reducible refine Below.trans ?_ (Below.mono (by with_reducible assumption) ?_)) | omega | (simp only [World.size_alloc, World.size_setCell, World.size_drew, size_drewN']; omega) | go_size))⟩
      | exact ⟨rfl, A5, c5, rfl, (own5.below hb4).base_ (by first | omega | (simp; omega)), (by have z0 := Below.size hb5; have z1 := Below.size hb4; (try simp only [World.size_alloc, World.size_setCell, World.size_drew, size_drewN'] at z0 z1 ⊢; skip); repeat' (first | (with_reducible exact Below.refl _ _) | (with_reducible assumption) | (with_reducible refine Below.alloc ?_ ?_ _) | (with_reducible refine Below.drew ?_) | (with_reducible refine below_drewN ?_ _) | (with_reducible refine Below.setCell ?_ ?_ _) | (with_reducible refine Below.trans ?_ (Below.mono (by with_reducible assumption) ?_)) | omega | (simp only [World.size_alloc, World.size_setCell, World.size_drew, size_drewN']; omega) | go_size))⟩
  case rest =>
    obtain ⟨rfl, A1, c1, rfl, own1, hbc⟩ := hcut
    have hcz := hbc.size
    have y0 := (below_at hbc w.heap.size 0 (by omega)).trans z0
    have y1 := (below_at hbc w.heap.size 1 (by omega)).trans z1
    have y2 := (below_at hbc w.heap.size 2 (by omega)).trans z2
    have hbW : Below w.heap.size w wc := hb0.trans (hbc.mono (by omega))
    have rdL := own1.rd
    clear own1 z0 z1 z2 K1' K2' hb0 hbc
    have hlB : w.heap.size < wc.heap.size := by omega
    clear hz0 hcz
    go_wp2
    go_loopw [6, 8] (fun o i wr => ∃ (k : Nat) (A' : Option Addr) (c' : Nat), k ≤ L.length ∧ o = .slice A' (minK S V L k).length c' ∧ i = .int .i64 k ∧ OwC wr wc.heap.size A' c' ((minK S V L k).map zc) ∧ Below wc.heap.size wc wr) (fun _ i _ => L.length - (intOf i).toNat)
    case atStart => exact ⟨0, none, 0, Nat.zero_le _, rfl, rfl, OwC.nil_ _ _, Below.refl _ _⟩
    case round =>
      obtain ⟨k, A', c', hk, rfl, rfl, own, hb⟩ := hrel
      obtain ⟨wo, rfl⟩ : ∃ wo : World, wo = wr := ⟨_, rfl⟩
      have hlm := minK_len S V L k
      have hbz := hb.size
      by_cases hlt : k < L.length
      · have u0 := (below_at hb w.heap.size 0 hlB).trans y0
        have u1 := (below_at hb w.heap.size 1 hlB).trans y1
        have u2 := (below_at hb w.heap.size 2 hlB).trans y2
        obtain ⟨g, off, rfl, hgl, cq⟩ := rdL.later hb hlt
        rw [lsJ_at hlt] at cq
        have hx := HLT.out _ (List.getElem_mem hlt)
        have HMS := Lib.hid (minK_succ (S := S) (V := V) hlt)
        have HMN : Hid (minN S L[k] = (L[k], ndiff S L[k])) := rfl
        generalize L[k] = t at *
        have hbWo : Below w.heap.size w wo := hbW.trans (hb.mono (by omega))
        have K4 := Lib.hid (fun W (hW : Below wo.heap.size wo W) => K3.out W (hbWo.trans (hW.mono (by omega))) t hx)
        have f0 := fun u : Sub wo => u.cell u0
        have f1 := fun u : Sub wo => u.cell u1
        have f2 := fun u : Sub wo => u.cell u2
        have f3 := fun u : Sub wo => u.cell cq
        have e1 := i64_andNot S t (Nat.lt_trans HSm.out (by decide)) (Nat.lt_trans hx (by decide))
        generalize ndiff S t = y at *
        have i1 : (0 : Int) ≤ (k : Int) := by omega
        have i2 : (k : Int) < (L.length : Int) := by omega
        cases hV : V t
        · rw [hV] at K4 HMS
          have HE : Hid (minK S V L (k + 1) = minK S V L k) := by show _ = _; rw [HMS.out]; simp
          clear HMS hV
          go_wp2
          ((refine wp_region_quiet_bel (by kernel_rfl) (by kernel_rfl) ?_); (repeat (go_big_quiet_step ((go_at_call 100; with_reducible exact Calls.quiet_bel (K4.out _ (Sub.bel _)))))); (refine wpQuiet_nil ?_); rintro w5 ⟨⟨_, hb5⟩, rfl⟩; (try dsimp only))
          go_wp2
          go_roundw
          case rel => exact ⟨k + 1, A', c', by omega, by rw [HE.out], by go_num, by rw [HE.out]; exact own.below hb5, (by have z0 := Below.size hb; have z1 := Below.size hb5; (try simp only [World.size_alloc, World.size_setCell, World.size_drew, size_drewN'] at z0 z1 ⊢; skip); repeat' (first | (with_reducible exact Below.refl _ _) | (with_reducible assumption) | (with_reducible refine Below.alloc ?_ ?_ _) | (with_reducible refine Below.drew ?_) | (with_reducible refine below_drewN ?_ _) | (with_reducible refine Below.setCell ?_ ?_ _) | (with_reducible refine Below.trans ?_ (Below.mono (by with_reducible assumption) ?_)) | omega | (simp only [World.size_alloc, World.size_setCell, World.size_drew, size_drewN']; omega) | go_size))⟩
          case measure => simp [intOf]; omega
        · rw [hV] at K4 HMS
          have HE : Hid (minK S V L (k + 1) = minK S V L k ++ [(t, y)]) := by show _ = _; rw [HMS.out, if_pos rfl, HMN.out]
          clear HMS hV
          go_wp2
          ((refine wp_region_quiet_bel (by kernel_rfl) (by kernel_rfl) ?_); (repeat (go_big_quiet_step ((go_at_call 100; with_reducible exact Calls.quiet_bel (K4.out _ (Sub.bel _)))))); (refine wpQuiet_nil ?_); rintro w5 ⟨⟨_, hb5⟩, rfl⟩; (try dsimp only))
          have hb5z := hb5.size
          have own5 := own.below hb5
          have cq5 := (below_at hb5 g _ (by omega)).trans cq
          have hbX : Below wc.heap.size wc w5 := (by have z0 := Below.size hb; have z1 := Below.size hb5; (try simp only [World.size_alloc, World.size_setCell, World.size_drew, size_drewN'] at z0 z1 ⊢; skip); repeat' (first | (with_reducible exact Below.refl _ _) | (with_reducible assumption) | (with_reducible refine Below.alloc ?_ ?_ _) | (with_reducible refine Below.drew ?_) | (with_reducible refine below_drewN ?_ _) | (with_reducible refine Below.setCell ?_ ?_ _) | (with_reducible refine Below.trans ?_ (Below.mono (by with_reducible assumption) ?_)) | omega | (simp only [World.size_alloc, World.size_setCell, World.size_drew, size_drewN']; omega) | go_size))
          clear f0 f1 f2 f3 K4 own hb hbWo u0 u1 u2 cq
          have HO5 := Lib.hid own5
          clear own5 hb5
          go_wp2
          go_region_held3 (fun W => W.cell? ⟨g, off + k, none⟩ = some (.int .i64 (t : Int))) (first | go_keep | exact (below_at hb7 g _ (by omega)).trans (by simpa using cq5))
            (first | (refine step_appC1 (by rfl) (.tmp 28) (.tmp 40) (by rfl) wc.heap.size A' c' (minK S V L k).length ((minK S V L k).map zc) (by rfl) (by simp) (HO5.out.below (by (skip); repeat' (first | (with_reducible exact Below.refl _ _) | (with_reducible assumption) | (with_reducible refine Below.alloc ?_ ?_ _) | (with_reducible refine Below.drew ?_) | (with_reducible refine below_drewN ?_ _) | (with_reducible refine Below.setCell ?_ ?_ _) | (with_reducible refine Below.trans ?_ (Below.mono (by with_reducible assumption) ?_)) | omega | (simp only [World.size_alloc, World.size_setCell, World.size_drew, size_drewN']; omega) | go_size))) ((t : Int), (y : Int)) w5.heap.size (by rfl) (by simp [go_sem]) (by simp [go_sem, e1]) (by omega) (by simp; omega) ?_; intro A7 c7 w7 own7 hb7; have hq7 := fun o => below_at hb7 g o (by omega)) | fail)
          all_goals
            have hbY : Below wc.heap.size wc w7 := (by have z0 := Below.size hbX; have z1 := Below.size hb7; (try simp only [World.size_alloc, World.size_setCell, World.size_drew, size_drewN'] at z0 z1 ⊢; skip); repeat' (first | (with_reducible exact Below.refl _ _) | (with_reducible assumption) | (with_reducible refine Below.alloc ?_ ?_ _) | (with_reducible refine Below.drew ?_) | (with_reducible refine below_drewN ?_ _) | (with_reducible refine Below.setCell ?_ ?_ _) | (with_reducible refine Below.trans ?_ (Below.mono (by with_reducible assumption) ?_)) | omega | (simp only [World.size_alloc, World.size_setCell, World.size_drew, size_drewN']; omega) | go_size))
            have own8 : OwC w7 wc.heap.size A7 c7 ((minK S V L (k + 1)).map zc) := by rw [HE.out, List.map_append]; exact own7
            go_wp2
            go_roundw
            case rel => exact ⟨k + 1, A7, c7, by omega, by rw [HE.out]; simp, by go_num, own8, hbY⟩
            case measure => simp [intOf]; omega
      · obtain rfl : k = L.length := by omega
        rw [← HMin.out] at own ⊢
        have hA' : obA A' = none ∨ obA A' ≠ obA none := by cases A' <;> simp [obA]
        clear HMin K3 HLT hlm y0 y1 y2 rdL hlen hlt hk
        go_wp2
        go_loopw [6, 7] (fun o p wr => ∃ (l P : List Cn) (A2 A3 : Option Addr) (c2 c3 : Nat), o = .slice A2 l.length c2 ∧ p = .slice A3 P.length c3 ∧ RndS S V R l P ∧ OwC wr wc.heap.size A2 c2 (l.map zc) ∧ OwC wr wc.heap.size A3 c3 (P.map zc) ∧ (obA A2 = none ∨ obA A2 ≠ obA A3) ∧ Below wc.heap.size wc wr) (fun o _ wr => lvMea o wr)
        case atStart => exact ⟨l0, [], A', none, c', 0, rfl, rfl, HST.out, own, OwC.nil_ _ _, hA', hb⟩
        case round =>
          obtain ⟨l, P, A2, A3, c2, c3, rfl, rfl, hrs, own2, own3, sp, hb2⟩ := hrel
          clear own hb hbz hA' HST
          obtain ⟨wq, rfl⟩ : ∃ wq : World, wq = wr := ⟨_, rfl⟩
          have hb2z := hb2.size
          have HRS := Lib.hid hrs
          have hfP := hrs.fewP
          by_cases h0 : 0 < l.length
          · have HM := Lib.hid (lvMea_at (c := c2) own2.rd h0)
            have K := Lib.hid (rmerge_any A2 l l.length c2 wq rfl h0 hrs.few hrs.okl own2.rd)
            have hst := hrs.step HSm.out H7.out HR.out h0
            have HL1 := Lib.hid hst.2.2
            have HL2 := Lib.hid hst.2.1
            have HS2 := Lib.hid hst.1
            have HOK := Lib.hid hrs.okl
            have HPK : Hid (∀ k, prmK l (mAll l l.length).2 (k + 1) = prmK l (mAll l l.length).2 k ++ if (mAll l l.length).2 k then [] else [atN l k]) := fun k => prmK_succ _ _ _
            generalize (mAll l l.length).2 = u at *
            generalize srtD ltN (mAll l l.length).1 = nx at *
            have HP0 : Hid (prmK l u 0 = []) := rfl
            generalize prmK l u = pk at *
            obtain ⟨Q, hQ⟩ : ∃ Q : Nat → List Cn, ∀ k, Q k = P ++ pk k := ⟨fun k => P ++ pk k, fun _ => rfl⟩
            have HQS : Hid (∀ k, Q (k + 1) = Q k ++ if u k then [] else [atN l k]) := fun k => by rw [hQ, hQ, HPK.out, List.append_assoc]
            have HQ0 : Hid (Q 0 = P) := by show _ = _; rw [hQ, HP0.out, List.append_nil]
            have HQL : Hid (∀ k, k ≤ l.length → (Q k).length ≤ 2048) := fun k hk => by rw [hQ]; exact HL1.out k hk
            have HQE : Hid (RndS S V R nx (Q l.length)) := by show RndS _ _ _ _ _; rw [hQ]; exact HS2.out
            have hLl := HRS.out.few
            clear hQ HPK HL1 HS2 HP0
            have H2 := Lib.hid own2
            have H3 := Lib.hid own3
            clear hst hrs own2 own3
            go_wp2_with fail
            refine K.out.mono ?_
            rintro e w4 ⟨⟨A4, c4, g5, rfl, ownN, ownU⟩, hb4⟩
            have hb4z := hb4.size
            have sN := sep_newC ownN H3.out (Nat.le_refl _)
            have sU := sep_newV ownU H3.out (Nat.le_refl _)
            have own24 := H2.out.below hb4
            have own34 : OwC w4 wc.heap.size A3 c3 ((Q 0).map zc) := by rw [HQ0.out]; exact H3.out.below hb4
            have ownN4 := ownN.base_ hb2z
            have ownU4 := ownU.base_ hb2z
            have hbX : Below wc.heap.size wc w4 := (by have z0 := Below.size hb2; have z1 := Below.size hb4; (try simp only [World.size_alloc, World.size_setCell, World.size_drew, size_drewN'] at z0 z1 ⊢; skip); repeat' (first | (with_reducible exact Below.refl _ _) | (with_reducible assumption) | (with_reducible refine Below.alloc ?_ ?_ _) | (with_reducible refine Below.drew ?_) | (with_reducible refine below_drewN ?_ _) | (with_reducible refine Below.setCell ?_ ?_ _) | (with_reducible refine Below.trans ?_ (Below.mono (by with_reducible assumption) ?_)) | omega | (simp only [World.size_alloc, World.size_setCell, World.size_drew, size_drewN']; omega) | go_size))
            have HP0l : Hid (P.length = (Q 0).length) := by show _ = _; rw [HQ0.out]
            clear ownN ownU H2 H3 hb2 hb4 K
            rw [HP0l.out]
            go_wp2_with fail
            go_loopw [7, 11] (fun p i wr => ∃ (k : Nat) (A3 : Option Addr) (c3 : Nat), k ≤ l.length ∧ p = .slice A3 (Q k).length c3 ∧ i = .int .i64 k ∧ OwC wr wc.heap.size A3 c3 ((Q k).map zc) ∧ OwC wr wc.heap.size A2 c2 (l.map zc) ∧ OwC wr wc.heap.size A4 c4 (nx.map zc) ∧ OwV wr wc.heap.size (some ⟨g5, 0, none⟩) l.length l.length u ∧ (obA A2 = none ∨ obA A2 ≠ obA A3) ∧ (obA A4 = none ∨ obA A4 ≠ obA A3) ∧ (obA (some ⟨g5, 0, none⟩) = none ∨ obA (some ⟨g5, 0, none⟩) ≠ obA A3) ∧ Below wc.heap.size wc wr) (fun _ i _ => l.length - (intOf i).toNat)
            case atStart => exact ⟨0, A3, c3, Nat.zero_le _, rfl, rfl, own34, own24, ownN4, ownU4, sp, sN, sU, hbX⟩
            case round =>
              obtain ⟨k, A5, c5, hk, rfl, rfl, ownP, ownL, ownN, ownU, s1, s2, s3, hbY⟩ := hrel
              clear own34 own24 ownN4 ownU4 sp sN sU hbX
              obtain ⟨wu, rfl⟩ : ∃ wu : World, wu = wr := ⟨_, rfl⟩
              have hlenk := HQL.out k hk
              have hbYz := hbY.size
              by_cases hkl : k < l.length
              · have cu := ownU.at_ hkl
                obtain ⟨bL, rfl, hbL1, hbL2⟩ := ownL.blk (by intro e; rw [List.map_eq_nil_iff] at e; rw [e] at hkl; simp at hkl)
                obtain ⟨yl1, yl2⟩ := ownL.cells (k := k) (x := zc (atN l k)) (by rw [List.getElem?_map, List.getElem?_eq_getElem hkl, atN_lt hkl]; rfl)
                have HPk := Lib.hid (HQS.out k)
                generalize atN l k = d at *
                obtain ⟨d1, d2⟩ := d
                cases huk : u k
                · rw [huk] at cu HPk
                  have HE : Hid (Q (k + 1) = Q k ++ [(d1, d2)]) := by show _ = _; rw [HPk.out, if_neg (by decide)]
                  have HP := Lib.hid ownP
                  clear huk HPk ownP
                  go_wp2_with (first | (at_builtin; refine wpList_appC1L rfl (.tmp 61) (.tmp 66) rfl wc.heap.size A5 c5 (Q k).length ((Q k).map zc) (by simp [Act.eval]) (by simp) (HP.out.alloc _) (zc (d1, d2)) wu.heap.size rfl (by simp [go_sem]) (by simp [go_sem]) (by omega) (by simp; omega) ?_; intro g7 c7 w7 own7 hg7 hf7 hb7) | fail)
                  have ownL7 := keepC (ownL.alloc _) s1 hg7
                  have ownN7 := keepC (ownN.alloc _) s2 hg7
                  have ownU7 := keepV (OwV.below ownU ((Below.refl _ _).alloc (Nat.le_refl _) _)) s3 hg7
                  have t1 := sepC (ownL.alloc _) s1 hf7
                  have t2 := sepC (ownN.alloc _) s2 hf7
                  have t3 := sepV (OwV.below ownU ((Below.refl _ _).alloc (Nat.le_refl _) _)) s3 hf7
                  have own8 : OwC w7 wc.heap.size (some ⟨g7, 0, none⟩) c7 ((Q (k + 1)).map zc) := by rw [HE.out, List.map_append]; exact own7
                  go_roundw
                  case rel => exact ⟨k + 1, some ⟨g7, 0, none⟩, c7, by omega, by rw [HE.out]; simp, by go_num, own8, ownL7, ownN7, ownU7, t1, t2, t3, (by have z0 := Below.size hbY; have z1 := Below.size hb7; (try simp only [World.size_alloc, World.size_setCell, World.size_drew, size_drewN'] at z0 z1 ⊢; skip); repeat' (first | (with_reducible exact Below.refl _ _) | (with_reducible assumption) | (with_reducible refine Below.alloc ?_ ?_ _) | (with_reducible refine Below.drew ?_) | (with_reducible refine below_drewN ?_ _) | (with_reducible refine Below.setCell ?_ ?_ _) | (with_reducible refine Below.trans ?_ (Below.mono (by with_reducible assumption) ?_)) | omega | (simp only [World.size_alloc, World.size_setCell, World.size_drew, size_drewN']; omega) | go_size))⟩
                  case measure => simp [intOf]; omega
                · rw [huk] at cu HPk
                  have HE : Hid (Q (k + 1) = Q k) := by show _ = _; rw [HPk.out, if_pos rfl, List.append_nil]
                  clear huk HPk
                  go_wp2
                  go_roundw
                  case rel => exact ⟨k + 1, A5, c5, by omega, by rw [HE.out], by go_num, by rw [HE.out]; exact ownP, ownL, ownN, ownU, s1, s2, s3, hbY⟩
                  case measure => simp [intOf]; omega
              · obtain rfl : k = l.length := by omega
                have HMN : Hid (lvMea (.slice A4 nx.length c4) wu < lvMea (.slice A2 l.length c2) wq) := by
                  show _ < _
                  rw [HM.out]
                  by_cases hn : 0 < nx.length
                  · rw [lvMea_at ownN.rd hn]
                    have := HL2.out hn
                    omega
                  · rw [show nx.length = 0 by omega, lvMea_nil]; omega
                go_wp2
                go_roundw
                case rel => exact ⟨nx, Q l.length, A4, A5, c4, c5, rfl, rfl, HQE.out, ownN, ownP, s2, hbY⟩
                case measure => exact HMN.out
          · obtain rfl : l = [] := List.eq_nil_of_length_eq_zero (by omega)
            have hPR := hrs.stop
            have K := Lib.hid (rsort_any A3 P P.length c3 wq rfl (by omega) hrs.okP own3.rd)
            have HS3 : Hid (PrmS S V (srtD ltN P)) := by show PrmS _ _ _; rw [hPR]; exact HR.out.srt
            have hfew := HS3.out.few HSm.out H7.out
            clear hPR hrs own2 own3
            generalize srtD ltN P = sP at *
            go_wp2_with fail
            refine K.out.mono ?_
            rintro e w4 ⟨⟨A4, c4, rfl, own4⟩, hb4⟩
            go_wp2_with fail
            go_returns
            exact ⟨⟨sP, HS3.out, hfew, A4, c4, rfl, own4.base_ (by omega)⟩, hbW.trans ((hb2.trans (hb4.mono hb2z)).mono (by omega))⟩
end
end Go.Proofs.Ytedopalmfakeaaa
