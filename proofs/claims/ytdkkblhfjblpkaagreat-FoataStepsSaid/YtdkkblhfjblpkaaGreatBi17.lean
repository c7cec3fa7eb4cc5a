/- Texts of this claim, laid together: Rows2, FoSt, FoBegP. -/
import Derived.Test.YtdkkblhfjblpkaaGreatBi15
import Derived.Test.YtdkkblhfjblpkaaGreatBi1
import Derived.Test.YtdkkblhfjblpkaaGreatBi2
import Derived.Test.YtdkkblhfjblpkaaGreatBi11
import Derived.Deep.QuietTactic
import Derived.WalkKit
import Derived.Test.YtdkkblhfjblpkaaGreatRows
import Derived.Test.YtdkkblhfjblpkaaGreatShelfS
import Derived.Test.YtdkkblhfjblpkaaGreatBi16
import Derived.Test.YtdkkblhfjblpkaaGreatBi4
import Derived.WalkSpells
import Derived.WalkLawsBesides
import Derived.BigQuiet
import Derived.Laws.StructEq
import Derived.Deep.DeepFit
import Derived.StillTailTactics

/- Rows of rows: a row of slices, each of the call's own, that grows. No program. -/
namespace Go.Proofs.YtdkkblhfjblpkaaGreat
open Go.RowKit
/-- a value of one cell, as it lies there -/
structure VV where
  v : Value
  one : v.oneCell' = true
instance encVV : Enc VV where
  size := 1
  cells x := [x.v]
  val x := x.v
  ok _ _ _ := True
  len _ := rfl
  one x v hv := by simp only [List.mem_singleton] at hv; subst hv; exact x.one
  keep h _ _ := h
theorem Own.vv_at {w : World} {base : Nat} {e : TypeId} {l : List VV} {g n cap : Nat} (h : Own w base e (.slice (some ⟨g, 0, none⟩) n cap) l) {k : Nat} (hk : k < l.length) : w.cell? ⟨g, k, none⟩ = some l[k].v := by
  have := h.at_ hk 0 _ rfl
  rwa [show k * Enc.size VV + 0 = k from Nat.mul_one k] at this
abbrev SV.v {α : Type} (x : SV α) : Value := .slice x.a x.l.length x.c
def SV.vv {α : Type} (x : SV α) : VV := ⟨x.v, rfl⟩
section
variable {α : Type} [Enc α] {w w' : World} {base : Nat} {e : TypeId} {v : Value} {l : List α}
theorem Own.sl_in {S : Nat → Prop} (h : Own w base e v l) (hb : ∀ b, v.ownBlock = some b → S b) (hx : ∀ x ∈ l, Enc.ok w S x) : ∃ A c, v = .slice A l.length c ∧ SlS w S A c l := by
  obtain ⟨⟨h1, h2⟩, h3⟩ := h
  rcases h2 with ⟨rfl, h0⟩ | ⟨g, cap, cur, rfl, hg, hh, hn, hm, hz, ht⟩
  · have : l = [] := List.length_eq_zero_iff.1 h0
    subst this
    exact ⟨none, 0, rfl, SlS.nil_ _ _⟩
  · refine ⟨_, _, rfl, hn, hm, fun _ => ⟨g, 0, rfl, hb g rfl, fun j u hu => ?_⟩, hx⟩
    rw [cell_of_row w g (0 + j) cur e (0, 0) hh, Nat.zero_add]
    rw [← ht, List.getElem?_take] at hu
    split at hu
    · rw [← hu]; simp
    · cases hu
theorem flat_vv (L : List (SV α)) : (L.map SV.vv).flatMap Enc.cells = L.flatMap Enc.cells := by
  induction L with
  | nil => rfl
  | cons x r ih => rw [List.map_cons, List.flatMap_cons, List.flatMap_cons, ih]; rfl
/-- the outer row read as slices -/
theorem Own.of_vv {L : List (SV α)} (h : Own w base e v (L.map SV.vv)) (hok : ∀ x ∈ L, Enc.ok w (Oth w v) x) : Own w base e v L := by
  obtain ⟨h1, _⟩ := h
  rw [List.length_map, flat_vv] at h1
  exact ⟨h1, hok⟩
/-- a store into an element of a row, as one operation of a drawn region -/
theorem oper_store_own {P : Program} {o : Oper} {a : Act} {K : Act → World → Prop} {Q : Exit → Act → World → Prop} (ad x : Operand) (t : TypeId) (ho : o.op = .store t ad x)
    (hi : (P.info? t).map (·.size) = some (Enc.size α)) (g n cap i off : Nat) (u : α) (h : Own w base e (.slice (some ⟨g, 0, none⟩) n cap) l) (hil : i < l.length)
    (had : a.eval ad = .pointer (some ⟨g, off, none⟩)) (hoff : off = i * Enc.size α) (hx : (a.eval x).cells.toList = Enc.cells u) (hu : Enc.ok w (Oth w (.slice (some ⟨g, 0, none⟩) n cap)) u)
    (hK : ∀ w', Own w' base e (.slice (some ⟨g, 0, none⟩) n cap) (l.set i u) → w.grownBy w' (some g) → K (a.put o.dst undef) w') : Oper.wp P o a w K Q := by
  obtain ⟨cur, hg, hb, hn, hc, hm, hz, ht⟩ := h.cells
  obtain ⟨h1, h2⟩ := h.put hg i hil u hu
  have hsz : (a.eval x).cells.size = Enc.size α := by rw [← Array.length_toList, hx, Enc.len]
  have hi2 : i * Enc.size α + Enc.size α ≤ n * Enc.size α := by rw [← Nat.succ_mul]; exact Nat.mul_le_mul_right _ (by omega)
  have hi3 : n * Enc.size α ≤ cap * Enc.size α := Nat.mul_le_mul_right _ hc
  have hst := run_storeCells_at P g (i * Enc.size α) e (Enc.cells u) 0 cur w hg (by rw [Enc.len]; omega) (Enc.one u)
  rw [Nat.add_zero, Enc.len] at hst
  rw [List.append_assoc] at h1 h2
  subst hoff
  cases hq : P.info? t with
  | none => simp [hq] at hi
  | some j =>
    have hj : j.size = Enc.size α := by simpa [hq] using hi
    unfold Oper.wp execOp
    simp only [ho]
    simp [had, Instr.storeAt, Instr.sureAddr, storeVar, sizeOf, typeInfo, hq, hj, hsz, hx, hst]
    exact hK _ h1 h2
end
/-- block g holds a row of slices, each a row of the call's own (blocks from base on), no two in one block -/
structure RowsW {α : Type} [Enc α] (w : World) (base g : Nat) (to ti : TypeId) (L : List (SV α)) : Prop where
  out : Own w base to (.slice (some ⟨g, 0, none⟩) L.length L.length) (L.map SV.vv)
  own : ∀ x ∈ L, Own w base ti x.v x.l
  apart : L.Pairwise fun x y => ∀ b, x.v.ownBlock = some b → y.v.ownBlock ≠ some b
  off : ∀ x ∈ L, x.v.ownBlock ≠ some g
section
variable {α : Type} [Enc α] {w w' : World} {base g : Nat} {to ti : TypeId} {L : List (SV α)}
theorem RowsW.later (h : RowsW w base g to ti L) (hb : Below w.heap.size w w') : RowsW w' base g to ti L := ⟨h.out.later hb, fun x hx => (h.own x hx).later hb, h.apart, h.off⟩
theorem RowsW.lt (h : RowsW w base g to ti L) : base ≤ g ∧ g < w.heap.size := h.out.base_le
theorem RowsW.get (h : RowsW w base g to ti L) {s : Nat} (hs : s < L.length) : w.cell? ⟨g, s, none⟩ = some L[s].v := by
  have := h.out.vv_at (k := s) (by rw [List.length_map]; exact hs)
  rw [List.getElem_map] at this
  exact this
/-- one of the rows has grown and its new value is stored -/
theorem RowsW.grow {w1 w2 : World} (h : RowsW w base g to ti L) {s : Nat} (hs : s < L.length) {x' : SV α} (hx : Own w1 base ti x'.v x'.l) (hg : w.grownBy w1 L[s].v.ownBlock) (hat : x'.v.ownBlock = L[s].v.ownBlock ∨ ∃ b, x'.v.ownBlock = some b ∧ w.heap.size ≤ b)
    (hok : ∀ W S x, x ∈ L → (∀ b, b < base → S b) → (Below base w W) → ∀ y ∈ x.l, Enc.ok W S y) (hok' : ∀ y ∈ x'.l, ∀ W S, (∀ b, b < base → S b) → (Below base w W) → Enc.ok W S y)
    (hO : Own w2 base to (.slice (some ⟨g, 0, none⟩) L.length L.length) ((L.map SV.vv).set s x'.vv)) (hg2 : w1.grownBy w2 (some g)) (hbw : base ≤ w.heap.size) : RowsW w2 base g to ti (L.set s x') := by
  have hlt := h.lt
  have hsb : ∀ b, L[s].v.ownBlock = some b → base ≤ b ∧ b < w.heap.size := fun b e => (h.own _ (List.getElem_mem hs)).1.lt b e
  have hb1 : Below base w w1 := below_of_grown hg hbw fun b e => (hsb b e).1
  have hb2 : Below base w w2 := hb1.trans (below_of_grown hg2 (Nat.le_trans hbw hg.size) fun b e => by injection e with e; omega)
  have hxne : x'.v.ownBlock ≠ some g := by
    rcases hat with e | ⟨b, e, hb⟩
    · rw [e]; exact h.off _ (List.getElem_mem hs)
    · rw [e]; intro e2; injection e2 with e2; omega
  have hx2 : Own w2 base ti x'.v x'.l := by
    refine hx.grown hg2 (.inr hxne) fun y hy => hok' y hy w1 _ (fun b hb => ⟨by have := hg.size; omega, fun e => ?_, fun e => ?_⟩) hb1
    · have := (hx.1.lt b e.symm).1; omega
    · injection e with e; omega
  have hap := h.apart
  rw [List.pairwise_iff_getElem] at hap
  have hoth : ∀ (i : Nat) (hi : i < L.length), i ≠ s → ∀ b, L[i].v.ownBlock = some b → L[s].v.ownBlock ≠ some b := fun i hi hne b e => by
    rcases Nat.lt_or_gt_of_ne hne with hl | hl
    · exact hap i s hi hs hl b e
    · intro e2; exact hap s i hs hi hl b e2 e
  have hi2 : ∀ (i : Nat) (hi : i < L.length), i ≠ s → Own w2 base ti L[i].v L[i].l := fun i hi hne => by
    have ho := h.own _ (List.getElem_mem hi)
    have hr : L[i].v.ownBlock = none ∨ L[i].v.ownBlock ≠ L[s].v.ownBlock := by
      cases hv : L[i].v.ownBlock with
      | none => exact .inl rfl
      | some b => exact .inr fun e => hoth i hi hne b hv e.symm
    have h1 : Own w1 base ti L[i].v L[i].l := ho.grown hg hr fun y hy => hok w _ _ (List.getElem_mem hi) (fun b hb => ⟨by omega, fun e => by have := (ho.1.lt b e.symm).1; omega, fun e => by have := (hsb b e.symm).1; omega⟩) (Below.refl _ _) y hy
    refine h1.grown hg2 (.inr (h.off _ (List.getElem_mem hi))) fun y hy => hok w1 _ _ (List.getElem_mem hi) (fun b hb => ⟨by have := hg.size; omega, fun e => by have := (ho.1.lt b e.symm).1; omega, fun e => by injection e with e; omega⟩) hb1 y hy
  have hnew : ∀ (i : Nat) (hi : i < L.length), i ≠ s → ∀ b, L[i].v.ownBlock = some b → x'.v.ownBlock ≠ some b := fun i hi hne b e e2 => by
    rcases hat with e3 | ⟨c, e3, hc⟩
    · exact hoth i hi hne b e (e3.symm.trans e2)
    · rw [e3] at e2
      injection e2 with e2
      have := ((h.own _ (List.getElem_mem hi)).1.lt b e).2
      omega
  have hset : (L.set s x').length = L.length := List.length_set
  refine ⟨by rw [hset, List.map_set]; exact hO, fun x hx => ?_, ?_, fun x hx => ?_⟩
  · obtain ⟨i, hi, rfl⟩ := List.getElem_of_mem hx
    rw [hset] at hi
    rw [List.getElem_set]
    split
    · exact hx2
    · rename_i hne; exact hi2 i hi (fun e => hne e.symm)
  · rw [List.pairwise_iff_getElem]
    intro i j hi hj hij b
    rw [hset] at hi hj
    rw [List.getElem_set, List.getElem_set]
    split
    · rename_i e; subst e
      rw [if_neg (by omega)]
      intro e1 e2
      exact hnew j hj (by omega) b e2 e1
    · rename_i hne
      split
      · rename_i e; subst e
        exact fun e1 => hnew i hi (by omega) b e1
      · exact hap i j hi hj hij b
  · obtain ⟨i, hi, rfl⟩ := List.getElem_of_mem hx
    rw [hset] at hi
    rw [List.getElem_set]
    split
    · exact hxne
    · exact h.off _ (List.getElem_mem hi)
/-- read as a whole -/
theorem RowsW.whole (h : RowsW w base g to ti L) (hok : ∀ x ∈ L, ∀ y ∈ x.l, Enc.ok w (Oth w (.slice (some ⟨g, 0, none⟩) L.length L.length)) y) : Own w base to (.slice (some ⟨g, 0, none⟩) L.length L.length) L := by
  refine h.out.of_vv fun x hx => ?_
  obtain ⟨A, c, hv, hs⟩ := (h.own x hx).sl_in (S := Oth w (.slice (some ⟨g, 0, none⟩) L.length L.length)) (fun b e => ⟨((h.own x hx).1.lt b e).2, fun e2 => h.off x hx (e.trans e2)⟩) (hok x hx)
  injection hv with h1 h2 h3
  subst h1 h3
  exact hs
/-- one of the rows is turned in place -/
theorem RowsW.turn {w1 : World} (h : RowsW w base g to ti L) {s : Nat} (hs : s < L.length) {l' : List α} (hlen : l'.length = L[s].l.length) (hx : Own w1 base ti L[s].v l') (hg : w.grownBy w1 L[s].v.ownBlock)
    (hok : ∀ W S x, x ∈ L → (∀ b, b < base → S b) → (Below base w W) → ∀ y ∈ x.l, Enc.ok W S y) (hbw : base ≤ w.heap.size) : RowsW w1 base g to ti (L.set s ⟨L[s].a, L[s].c, l'⟩) := by
  have hsb : ∀ b, L[s].v.ownBlock = some b → base ≤ b ∧ b < w.heap.size := fun b e => (h.own _ (List.getElem_mem hs)).1.lt b e
  have hap := h.apart
  rw [List.pairwise_iff_getElem] at hap
  have hoth : ∀ (i : Nat) (hi : i < L.length), i ≠ s → ∀ b, L[i].v.ownBlock = some b → L[s].v.ownBlock ≠ some b := fun i hi hne b e => by
    rcases Nat.lt_or_gt_of_ne hne with hl | hl
    · exact hap i s hi hs hl b e
    · intro e2; exact hap s i hs hi hl b e2 e
  have hi1 : ∀ (i : Nat) (hi : i < L.length), i ≠ s → Own w1 base ti L[i].v L[i].l := fun i hi hne => by
    have ho := h.own _ (List.getElem_mem hi)
    have hr : L[i].v.ownBlock = none ∨ L[i].v.ownBlock ≠ L[s].v.ownBlock := by
      cases hv : L[i].v.ownBlock with
      | none => exact .inl rfl
      | some b => exact .inr fun e => hoth i hi hne b hv e.symm
    exact ho.grown hg hr fun y hy => hok w _ _ (List.getElem_mem hi) (fun b hb => ⟨by omega, fun e => by have := (ho.1.lt b e.symm).1; omega, fun e => by have := (hsb b e.symm).1; omega⟩) (Below.refl _ _) y hy
  have hset : (L.set s (⟨L[s].a, L[s].c, l'⟩ : SV α)).length = L.length := List.length_set
  have hvv : (⟨L[s].a, L[s].c, l'⟩ : SV α).v = L[s].v := by show Value.slice _ l'.length _ = _; rw [hlen]
  have hmap : (L.set s (⟨L[s].a, L[s].c, l'⟩ : SV α)).map SV.vv = L.map SV.vv := by
    rw [List.map_set]
    have : (⟨L[s].a, L[s].c, l'⟩ : SV α).vv = (L.map SV.vv)[s]'(by rw [List.length_map]; exact hs) := by
      rw [List.getElem_map]
      unfold SV.vv
      congr 1
    rw [this, List.set_getElem_self]
  refine ⟨by rw [hset, hmap]; exact h.out.grown hg (.inr (fun e => h.off _ (List.getElem_mem hs) e.symm)) (fun _ _ => trivial), fun x hx' => ?_, ?_, fun x hx' => ?_⟩
  · obtain ⟨i, hi, rfl⟩ := List.getElem_of_mem hx'
    rw [hset] at hi
    rw [List.getElem_set]
    split
    · rw [hvv]; exact hx
    · rename_i hne; exact hi1 i hi (fun e => hne e.symm)
  · rw [List.pairwise_iff_getElem]
    intro i j hi hj hij b
    rw [hset] at hi hj
    rw [List.getElem_set, List.getElem_set]
    split
    · rename_i e; subst e
      rw [if_neg (by omega), hvv]
      exact hap s j hs hj hij b
    · split
      · rename_i e; subst e
        rw [hvv]
        exact hap i s hi hs hij b
      · exact hap i j hi hj hij b
  · obtain ⟨i, hi, rfl⟩ := List.getElem_of_mem hx'
    rw [hset] at hi
    rw [List.getElem_set]
    split
    · rw [hvv]; exact h.off _ (List.getElem_mem hs)
    · exact h.off _ (List.getElem_mem hi)
end
end Go.Proofs.YtdkkblhfjblpkaaGreat

/- foata.Steps -/
namespace Go.Proofs.YtdkkblhfjblpkaaGreat
open Go.RowKit
instance : Inhabited Od := ⟨⟨0, 0, 0, ⟨#[]⟩, ⟨#[]⟩, 0, none, 0, [], 0, 0, ⟨#[]⟩⟩⟩
theorem SlS.int_ {w : World} {S : Nat → Prop} {c : Nat} {A : Option Addr} {l : List Int} (h : SlS w S A c l) {k : Nat} (hk : k < l.length) : ∃ b o, A = some ⟨b, o, none⟩ ∧ S b ∧ w.cell? ⟨b, o + k, none⟩ = some (i64 l[k]) := by
  obtain ⟨b, o, hA, hb, _, hc⟩ := h.at_ hk
  have h0 := hc 0 _ rfl
  rw [show k * Enc.size Int + 0 = k from Nat.mul_one k] at h0
  exact ⟨b, o, hA, hb, h0⟩
/-- foata.Steps -/
def stepsL (l : List Od) : List (List Od) := if validL l then stepsV l else []
/-- orders by their levels, as they come -/
def partP (P : List (Od × Int)) (s : Nat) : List Od := (P.filter fun p => decide (p.2 = (s : Int) + 1)).map (·.1)
def partS (P : List (Od × Int)) (n : Nat) : List (List Od) := (List.range n).map (partP P)
theorem partS_len (P : List (Od × Int)) (n : Nat) : (partS P n).length = n := by unfold partS; rw [List.length_map, List.length_range]
theorem partS_get {P : List (Od × Int)} {n s : Nat} (h : s < (partS P n).length) : (partS P n)[s] = partP P s := by
  have e : ∀ (S : List (List Od)) (_ : S = (List.range n).map (partP P)) (h : s < S.length), S[s] = partP P s := fun S e h => by
    subst e
    rw [List.getElem_map, List.getElem_range]
  exact e _ rfl h
theorem partP_snoc (P : List (Od × Int)) (o : Od) (v : Int) (s : Nat) : partP (P ++ [(o, v)]) s = if v = (s : Int) + 1 then partP P s ++ [o] else partP P s := by
  unfold partP
  rw [List.filter_append, List.map_append]
  split
  · rename_i h; rw [List.filter_cons_of_pos (by simpa using h)]; rfl
  · rename_i h; rw [List.filter_cons_of_neg (by simpa using h)]; simp
theorem partS_snoc (P : List (Od × Int)) (o : Od) (v : Int) (n s : Nat) (hv : v = (s : Int) + 1) (_hs : s < n) : partS (P ++ [(o, v)]) n = (partS P n).set s (partP P s ++ [o]) := by
  refine List.ext_getElem (by rw [List.length_set, partS_len, partS_len]) fun i h1 h2 => ?_
  rw [partS_get h1, partP_snoc, List.getElem_set]
  rw [partS_len] at h1
  by_cases hi : s = i
  · subst hi
    rw [if_pos hv, if_pos rfl]
  · rw [if_neg (by omega), if_neg hi, partS_get (by rw [partS_len]; exact h1)]
theorem partS_nil (n : Nat) : partS [] n = List.replicate n [] := by
  refine List.ext_getElem (by rw [partS_len, List.length_replicate]) fun i h1 h2 => ?_
  rw [partS_get h1, List.getElem_replicate]
  rfl
theorem mem_part {P : List (Od × Int)} {n : Nat} {y : Od} {x : List Od} (hx : x ∈ partS P n) (hy : y ∈ x) : y ∈ P.map (·.1) := by
  obtain ⟨s, hs, rfl⟩ := List.getElem_of_mem hx
  rw [partS_get hs] at hy
  obtain ⟨p, hp, rfl⟩ := List.mem_map.1 hy
  exact List.mem_map.2 ⟨p, (List.mem_filter.1 hp).1, rfl⟩
/-- the first so many steps sorted -/
def halfS (P : List (Od × Int)) (n k : Nat) : List (List Od) := (List.range n).map fun s => if s < k then stepP P s else partP P s
theorem halfS_len (P : List (Od × Int)) (n k : Nat) : (halfS P n k).length = n := by unfold halfS; rw [List.length_map, List.length_range]
theorem halfS_get {P : List (Od × Int)} {n k s : Nat} (h : s < (halfS P n k).length) : (halfS P n k)[s] = if s < k then stepP P s else partP P s := by
  have e : ∀ (S : List (List Od)) (_ : S = (List.range n).map fun s => if s < k then stepP P s else partP P s) (h : s < S.length), S[s] = if s < k then stepP P s else partP P s := fun S e h => by
    subst e
    rw [List.getElem_map, List.getElem_range]
  exact e _ rfl h
theorem halfS_zero (P : List (Od × Int)) (n : Nat) : halfS P n 0 = partS P n := rfl
theorem halfS_next (P : List (Od × Int)) {n k : Nat} (_hk : k < n) : halfS P n (k + 1) = (halfS P n k).set k (stepP P k) := by
  refine List.ext_getElem (by rw [List.length_set, halfS_len, halfS_len]) fun i h1 h2 => ?_
  rw [halfS_get h1, List.getElem_set]
  rw [halfS_len] at h1
  by_cases hi : k = i
  · subst hi
    rw [if_pos (Nat.lt_succ_self _), if_pos rfl]
  · rw [if_neg hi, halfS_get (by rw [halfS_len]; exact h1)]
    by_cases h : i < k
    · rw [if_pos (by omega), if_pos h]
    · rw [if_neg (by omega), if_neg h]
theorem halfS_all (l : List Od) {n : Nat} (h : mostP (levP l) = n) : halfS (levP l) n n = stepsV l := by
  unfold halfS stepsV
  rw [h, Int.toNat_natCast]
  refine List.map_congr_left fun s hs => ?_
  rw [if_pos (List.mem_range.1 hs)]
theorem part_sort {P : List (Od × Int)} (hv : Val (P.map (·.1))) {s : Nat} {l' : List Od} (hp : l'.Perm (partP P s)) (hs : SortedB ltO l') : l' = stepP P s := by
  refine sorted_unique (hp.trans (sortB_perm _).symm) hs (sortB_sorted strictO _) fun a ha b hb h1 h2 => ?_
  have ha := hp.mem_iff.1 ha
  have hb := hp.mem_iff.1 hb
  exact (val_filter hv _).inj ha hb (ltO_tri h1 h2)
theorem inf_ods : (Tryz.prog.info? 22).map (fun i => (i.zero, i.size, i.bytes)) = some (some (.slice none 0 0), Enc.size VV, 24) := by kernel_rfl
def nilV : VV := ⟨.slice none 0 0, rfl⟩
abbrev RowsO (w : World) (base g : Nat) (L : List (SV Od)) : Prop := RowsW w base g 22 50 L
theorem rows_none (w : World) (base g n : Nat) (h : Own w base 22 (.slice (some ⟨g, 0, none⟩) n n) (List.replicate n nilV)) : RowsO w base g (List.replicate n ⟨none, 0, []⟩) := by
  refine ⟨?_, fun x hx => ?_, ?_, fun x hx => ?_⟩
  · rw [List.length_replicate, List.map_replicate]; exact h
  · rw [List.eq_of_mem_replicate hx]; exact Own.nil_ _ _ _
  · rw [List.pairwise_iff_getElem]
    intro i j hi hj _ b
    rw [List.getElem_replicate]
    intro e; cases e
  · rw [List.eq_of_mem_replicate hx]; intro e; cases e
set_option maxRecDepth 100000 in
set_option maxHeartbeats 16000000 in
theorem steps_c (A : Option Addr) (c : Nat) (l : List Od) (w : World) (h : Sl w w.heap.size A c l) (hn : l.length ≤ 60000) (hl : ∀ x ∈ l, x.legs.length ≤ 10) :
    Calls Tryz.prog 15 #[.slice A l.length c] w fun e w' => ∃ (v : Value) (L : List (SV Od)), e = .returned v ∧ Own w' w.heap.size 22 v L ∧ L.map SV.l = stepsL l ∧ Below w.heap.size w w' := by
  have HR := Lib.hid (right_c A c l w h (by omega))
  have H := Lib.hid h
  have Hl := Lib.hid hl
  have hlc : l.length ≤ c := h.1
  clear h hl
  change Hid (Calls _ _ _ _ fun e w' => e = .returned (.bool (validL l)) ∧ Below w.heap.size w w') at HR
  by_cases hv : validL l = false
  · rw [hv] at HR
    have Hst := Lib.hid (show stepsL l = [] by unfold stepsL; rw [if_neg (by rw [hv]; decide)])
    clear hv
    go_enter Tryz.func15, Tryz.ntmps15
    go_wp2_with fail
    refine HR.out.mono ?_
    rintro e w1 ⟨rfl, hF⟩
    go_wp2
    go_ret
    exact ⟨_, [], rfl, Own.nil_ _ _ _, Hst.out.symm, hF⟩
  have hv : validL l = true := by simpa using hv
  rw [hv] at HR
  have Hst := Lib.hid (show stepsL l = stepsV l by unfold stepsL; rw [if_pos hv])
  have HV := Lib.hid (validL_iff.1 hv)
  clear hv
  obtain ⟨n, hmn⟩ : ∃ n : Nat, mostP (levP l) = n := ⟨(mostP (levP l)).toNat, by have := (most_small l).1; omega⟩
  have hnl : n ≤ l.length := by have := (most_small l).2; omega
  have Hmn := Lib.hid hmn
  go_enter Tryz.func15, Tryz.ntmps15
  go_wp2_with fail
  refine HR.out.mono ?_
  rintro e w1 ⟨rfl, hF⟩
  have hb1 := hF
  have HLv := Lib.hid (levels_c A c l w1 (H.out.later hb1) hn Hl.out)
  rw [hmn] at HLv
  clear HR hF
  go_wp2_with fail
  refine HLv.out.mono ?_
  rintro e w2 ⟨v2, rfl, hO, hF⟩
  have hb2 := below_on hb1 (Nat.le_refl _) hF
  have hlv := lvInts_len l
  obtain ⟨AL, cL, rfl, sL⟩ := hO.sl
  rw [hlv]
  have SL := Lib.hid sL
  have hcL : l.length ≤ cL := by have := sL.1; omega
  have HI : Hid (∀ y ∈ l, ∀ W S, (∀ b, b < w2.heap.size → S b) → Below w2.heap.size w2 W → Enc.ok W S y) := Lib.hid fun y hy W S hS hW => Enc.keep (α := Od) ((H.out.later hb2).2.2.2 y hy) (fun p hp => hW.cell hp) hS
  obtain ⟨hmk, hO0⟩ := make_own (P := Tryz.prog) w2 w2.heap.size 29 22 (.slice none 0 0) 24 Tryz.underlying29 inf_ods (by decide) nilV (.slice none 0 0) rfl rfl rfl (fun _ _ => trivial) n (by omega) (Nat.le_refl _)
  have hb0 := (Below.refl w2.heap.size w2).alloc (Nat.le_refl _) (.cells (Array.replicate n (.slice none 0 0)) 22)
  have hR0 := rows_none _ _ _ _ hO0
  have hz0 : w2.heap.size < (w2.alloc (.cells (Array.replicate n (.slice none 0 0)) 22)).heap.size := by simp
  clear HLv hO hF hO0 hlv sL hmn
  go_wp2_with fail
  generalize w2.alloc (.cells (Array.replicate n (.slice none 0 0)) 22) = w0 at *
  clear hmk
  go_loopw [22] (fun i wr => ∃ (k : Nat) (L : List (SV Od)), i = i64 k ∧ k ≤ l.length ∧ RowsO wr w2.heap.size w2.heap.size L ∧ L.map SV.l = partS (levP (l.take k)) n ∧ L.length = n ∧ Below w2.heap.size w2 wr ∧ w2.heap.size < wr.heap.size) (fun i _ => l.length - (intOf i).toNat)
  case atStart => exact ⟨0, _, rfl, Nat.zero_le _, hR0, by rw [List.map_replicate, List.take_zero]; exact (partS_nil n).symm, List.length_replicate, hb0, hz0⟩
  case round =>
    obtain ⟨k, L, rfl, hk, hR, hLm, hLn, hb, hz⟩ := hrel
    clear hR0 hb0 hz0
    by_cases hlt : k < l.length
    · have g1 : decide ((k : Int) < (l.length : Int)) = true := decide_eq_true (by omega)
      have g2 : decide (k < l.length) = true := decide_eq_true hlt
      have i0 : (0 : Int) ≤ (k : Int) := by omega
      have i1 : (k : Int) < (l.length : Int) := by omega
      obtain ⟨b, o, rfl, _, _, c0, c1, c2, c3, c4, c5, c6, c7, c8, c9⟩ := ((H.out.later hb2).below hb).od hlt
      obtain ⟨bL, oL, rfl, hbL, cl⟩ := (SL.out.below hb).int_ (k := k) (by rw [lvInts_len]; exact hlt)
      have hlvk : (lvInts l)[k]'(by rw [lvInts_len]; exact hlt) = lvAt (levP (l.take k)) l[k] := by
        unfold lvInts
        rw [List.getElem_map, levP_get hlt]
      rw [hlvk] at cl
      have hlm : (l[k], lvAt (levP (l.take k)) l[k]) ∈ levP l := by
        rw [← levP_get hlt]; exact List.getElem_mem _
      have hle := most_le hlm
      rw [Hmn.out] at hle
      have hpos := lvAt_pos (levP (l.take k)) l[k]
      have HLs : Hid (∀ s : Nat, lvAt (levP (l.take k)) l[k] = (s : Int) + 1 → s < n → partS (levP (l.take (k + 1))) n = (partS (levP (l.take k)) n).set s (partP (levP (l.take k)) s ++ [l[k]])) := Lib.hid fun s h1 h2 => by
        rw [List.take_succ_eq_append_getElem hlt, levP_snoc]
        exact partS_snoc _ _ _ _ _ h1 h2
      have hmem : ∀ x ∈ L, ∀ y ∈ x.l, y ∈ l := fun x hx y hy => by
        have h1 : x.l ∈ partS (levP (l.take k)) n := by rw [← hLm]; exact List.mem_map.2 ⟨x, hx, rfl⟩
        have := mem_part h1 hy
        rw [levP_fst] at this
        exact List.mem_of_mem_take this
      have HoK : Hid (∀ W S x, x ∈ L → (∀ b, b < w2.heap.size → S b) → Below w2.heap.size wr W → ∀ y ∈ x.l, Enc.ok W S y) := Lib.hid fun W S x hx hS hW y hy => HI.out y (hmem x hx y hy) W S hS (hb.trans hW)
      have Hxo : Hid (∀ W S, (∀ b, b < w2.heap.size → S b) → Below w2.heap.size wr W → Enc.ok W S l[k]) := Lib.hid fun W S hS hW => HI.out l[k] (List.getElem_mem hlt) W S hS (hb.trans hW)
      have HLen : Hid (∀ s (hs : s < L.length), L[s].l.length ≤ 60000) := Lib.hid fun s hs => by
        have h1 : L[s].l ∈ partS (levP (l.take k)) n := by rw [← hLm]; exact List.mem_map.2 ⟨_, List.getElem_mem hs, rfl⟩
        obtain ⟨t, ht, e⟩ := List.getElem_of_mem h1
        rw [partS_get ht] at e
        rw [← e]
        unfold partP
        rw [List.length_map]
        have := List.length_filter_le (fun p : Od × Int => decide (p.2 = (t : Int) + 1)) (levP (l.take k))
        rw [levP_len, List.length_take] at this
        omega
      obtain ⟨s, hs⟩ : ∃ s : Nat, lvAt (levP (l.take k)) l[k] = (s : Int) + 1 := ⟨(lvAt (levP (l.take k)) l[k] - 1).toNat, by omega⟩
      have hsn : s < n := by omega
      have hsL : s < L.length := by omega
      have HLs := Lib.hid (HLs.out s hs hsn)
      rw [hs] at cl
      have hgl : L[s].l = partP (levP (l.take k)) s := by
        have h1 : (L.map SV.l)[s]? = (partS (levP (l.take k)) n)[s]? := by rw [hLm]
        rw [List.getElem?_eq_getElem (by rw [List.length_map]; exact hsL), List.getElem?_eq_getElem (by rw [partS_len]; exact hsn), List.getElem_map, partS_get] at h1
        exact Option.some.inj h1
      rw [← hgl, ← hLm] at HLs
      have j0 : (0 : Int) ≤ (s : Int) := by omega
      have j1 : (s : Int) < (n : Int) := by omega
      have hout := hR.get hsL
      have hRs := hR.own _ (List.getElem_mem hsL)
      have hroff := hR.off _ (List.getElem_mem hsL)
      have hrlt : ∀ bb, L[s].v.ownBlock = some bb → w2.heap.size ≤ bb ∧ bb < wr.heap.size := fun bb e => hRs.1.lt bb e
      clear hlvk hlm hle hpos hmem hs hgl hLm
      generalize l[k] = x at *
      have hba := (Below.refl wr.heap.size wr).alloc (Nat.le_refl _) (.cells #[i64 x.client, i64 x.seq, i64 x.kind, .string x.acct, .string x.peer, i64 x.sum, .slice x.la x.legs.length x.lc, i64 x.period, i64 x.hold, .string x.note] 50)
      have hob := heap_alloc_new wr (.cells #[i64 x.client, i64 x.seq, i64 x.kind, .string x.acct, .string x.peer, i64 x.sum, .slice x.la x.legs.length x.lc, i64 x.period, i64 x.hold, .string x.note] 50)
      have hz1 : wr.heap.size < (wr.alloc (.cells #[i64 x.client, i64 x.seq, i64 x.kind, .string x.acct, .string x.peer, i64 x.sum, .slice x.la x.legs.length x.lc, i64 x.period, i64 x.hold, .string x.note] 50)).heap.size := by simp
      have hb5 := hb.alloc hb.size (.cells #[i64 x.client, i64 x.seq, i64 x.kind, .string x.acct, .string x.peer, i64 x.sum, .slice x.la x.legs.length x.lc, i64 x.period, i64 x.hold, .string x.note] 50)
      have hRs5 := hRs.later hba
      have hR5 := hR.later hba
      have hout5 := hR5.get hsL
      have cl5 : (wr.alloc (.cells #[i64 x.client, i64 x.seq, i64 x.kind, .string x.acct, .string x.peer, i64 x.sum, .slice x.la x.legs.length x.lc, i64 x.period, i64 x.hold, .string x.note] 50)).cell? ⟨bL, oL + k, none⟩ = some (i64 ((s : Int) + 1)) := (hba.cell (World.block_lt_of_cell? _ _ cl)).trans cl
      have hg5 : wr.grownBy (wr.alloc (.cells #[i64 x.client, i64 x.seq, i64 x.kind, .string x.acct, .string x.peer, i64 x.sum, .slice x.la x.legs.length x.lc, i64 x.period, i64 x.hold, .string x.note] 50)) L[s].v.ownBlock := World.grownBy_alloc _ _ _
      have HR := Lib.hid hR
      clear hR hout cl hRs
      go_upto_region 8 with fail
      have ew : IntKind.i64.wrap ((s : Int) + 1 - 1) = (s : Int) := by rw [IntKind.wrap_i64]; omega
      have ew2 : wrap64 ((s : Int) + 1 - 1) = (s : Int) := by rw [← IntWalk.i64_left]; exact ew
      have ew3 : IntKind.i64.wrap (s : Int) = (s : Int) := by rw [IntKind.wrap_i64]; omega
      have ew4 : wrap64 (s : Int) = (s : Int) := by rw [← IntWalk.i64_left]; exact ew3
      generalize wr.alloc (.cells #[i64 x.client, i64 x.seq, i64 x.kind, .string x.acct, .string x.peer, i64 x.sum, .slice x.la x.legs.length x.lc, i64 x.period, i64 x.hold, .string x.note] 50) = w5 at *
      have e0 := hob
      have e0 := cell_of_row _ wr.heap.size 0 _ _ (0, 0) hob
      have e1 := cell_of_row _ wr.heap.size 1 _ _ (0, 0) hob
      have e2 := cell_of_row _ wr.heap.size 2 _ _ (0, 0) hob
      have e3 := cell_of_row _ wr.heap.size 3 _ _ (0, 0) hob
      have e4 := cell_of_row _ wr.heap.size 4 _ _ (0, 0) hob
      have e5 := cell_of_row _ wr.heap.size 5 _ _ (0, 0) hob
      have e6 := cell_of_row _ wr.heap.size 6 _ _ (0, 0) hob
      have e7 := cell_of_row _ wr.heap.size 7 _ _ (0, 0) hob
      have e8 := cell_of_row _ wr.heap.size 8 _ _ (0, 0) hob
      have e9 := cell_of_row _ wr.heap.size 9 _ _ (0, 0) hob
      simp only [List.getElem?_toArray, List.getElem?_cons_zero, List.getElem?_cons_succ] at e0 e1 e2 e3 e4 e5 e6 e7 e8 e9
      have hS : ∀ V, w5.grownBy V L[s].v.ownBlock → (fun V : World => w5.grownBy V L[s].v.ownBlock ∧ V.cell? ⟨bL, oL + k, none⟩ = some (i64 ((s : Int) + 1)) ∧ V.cell? ⟨w2.heap.size, s, none⟩ = some (.slice L[s].a L[s].l.length L[s].c) ∧ V.cell? ⟨wr.heap.size, 0, none⟩ = some (i64 x.client) ∧ V.cell? ⟨wr.heap.size, 1, none⟩ = some (i64 x.seq) ∧ V.cell? ⟨wr.heap.size, 2, none⟩ = some (i64 x.kind) ∧ V.cell? ⟨wr.heap.size, 3, none⟩ = some (.string x.acct) ∧ V.cell? ⟨wr.heap.size, 4, none⟩ = some (.string x.peer) ∧ V.cell? ⟨wr.heap.size, 5, none⟩ = some (i64 x.sum) ∧ V.cell? ⟨wr.heap.size, 6, none⟩ = some (.slice x.la x.legs.length x.lc) ∧ V.cell? ⟨wr.heap.size, 7, none⟩ = some (i64 x.period) ∧ V.cell? ⟨wr.heap.size, 8, none⟩ = some (i64 x.hold) ∧ V.cell? ⟨wr.heap.size, 9, none⟩ = some (.string x.note)) V := fun V hV => ⟨hV, (hV.cell_far _ (World.block_lt_of_cell? _ _ cl5) (fun e => Nat.lt_irrefl _ (Nat.lt_of_lt_of_le hbL (hrlt _ e.symm).1))).trans cl5, (hV.cell_far _ (World.block_lt_of_cell? _ _ hout5) (fun e => hroff e.symm)).trans hout5, (hV.cell_far _ (World.block_lt_of_cell? _ _ e0) (fun e => Nat.lt_irrefl _ (hrlt _ e.symm).2)).trans e0, (hV.cell_far _ (World.block_lt_of_cell? _ _ e1) (fun e => Nat.lt_irrefl _ (hrlt _ e.symm).2)).trans e1, (hV.cell_far _ (World.block_lt_of_cell? _ _ e2) (fun e => Nat.lt_irrefl _ (hrlt _ e.symm).2)).trans e2, (hV.cell_far _ (World.block_lt_of_cell? _ _ e3) (fun e => Nat.lt_irrefl _ (hrlt _ e.symm).2)).trans e3, (hV.cell_far _ (World.block_lt_of_cell? _ _ e4) (fun e => Nat.lt_irrefl _ (hrlt _ e.symm).2)).trans e4, (hV.cell_far _ (World.block_lt_of_cell? _ _ e5) (fun e => Nat.lt_irrefl _ (hrlt _ e.symm).2)).trans e5, (hV.cell_far _ (World.block_lt_of_cell? _ _ e6) (fun e => Nat.lt_irrefl _ (hrlt _ e.symm).2)).trans e6, (hV.cell_far _ (World.block_lt_of_cell? _ _ e7) (fun e => Nat.lt_irrefl _ (hrlt _ e.symm).2)).trans e7, (hV.cell_far _ (World.block_lt_of_cell? _ _ e8) (fun e => Nat.lt_irrefl _ (hrlt _ e.symm).2)).trans e8, (hV.cell_far _ (World.block_lt_of_cell? _ _ e9) (fun e => Nat.lt_irrefl _ (hrlt _ e.symm).2)).trans e9⟩
      have HS := Lib.hid hS
      have hRsD := hRs5.later (Below.refl _ _).drew
      have HRsA := Lib.hid (hRsD.later ((Below.refl w5.drew.heap.size w5.drew).alloc (Nat.le_refl _) (.cells #[i64 x.client, i64 x.seq, i64 x.kind, .string x.acct, .string x.peer, i64 x.sum, .slice x.la x.legs.length x.lc, i64 x.period, i64 x.hold, .string x.note] 50)))
      have HRo := Lib.hid ((hR5.out.later (Below.refl _ _).drew).later ((Below.refl w5.drew.heap.size w5.drew).alloc (Nat.le_refl _) (.cells #[i64 x.client, i64 x.seq, i64 x.kind, .string x.acct, .string x.peer, i64 x.sum, .slice x.la x.legs.length x.lc, i64 x.period, i64 x.hold, .string x.note] 50)))
      have Hne := Lib.hid (hRsD.new_ne (g := w5.drew.heap.size) (Nat.le_refl _))
      have hgA : w5.grownBy (w5.drew.alloc (.cells #[i64 x.client, i64 x.seq, i64 x.kind, .string x.acct, .string x.peer, i64 x.sum, .slice x.la x.legs.length x.lc, i64 x.period, i64 x.hold, .string x.note] 50)) L[s].v.ownBlock := grown_trans (grown_drew (World.grownBy.refl _ _)) (World.grownBy_alloc _ _ _)
      have HgA := Lib.hid hgA
      have hbA : Below w2.heap.size wr (w5.drew.alloc (.cells #[i64 x.client, i64 x.seq, i64 x.kind, .string x.acct, .string x.peer, i64 x.sum, .slice x.la x.legs.length x.lc, i64 x.period, i64 x.hold, .string x.note] 50)) := by
        have h1 := below_of_grown hg5 hb.size (fun g e => (hrlt g e).1)
        have h2 := below_of_grown hgA (Nat.le_trans hb.size hg5.size) (fun g e => (hrlt g e).1)
        exact h1.trans h2
      have HxA := Lib.hid (Hxo.out (w5.drew.alloc (.cells #[i64 x.client, i64 x.seq, i64 x.kind, .string x.acct, .string x.peer, i64 x.sum, .slice x.la x.legs.length x.lc, i64 x.period, i64 x.hold, .string x.note] 50)) (Oth (w5.drew.alloc (.cells #[i64 x.client, i64 x.seq, i64 x.kind, .string x.acct, .string x.peer, i64 x.sum, .slice x.la x.legs.length x.lc, i64 x.period, i64 x.hold, .string x.note] 50)) L[s].v) (fun b hb' => ⟨Nat.lt_of_lt_of_le hb' (Nat.le_trans hb.size (Nat.le_trans hg5.size hgA.size)), fun e => by have := (hrlt b e.symm).1; omega⟩) hbA)
      have hzA : w2.heap.size ≤ (w5.drew.alloc (.cells #[i64 x.client, i64 x.seq, i64 x.kind, .string x.acct, .string x.peer, i64 x.sum, .slice x.la x.legs.length x.lc, i64 x.period, i64 x.hold, .string x.note] 50)).heap.size := Nat.le_trans hb.size (Nat.le_trans hg5.size hgA.size)
      have hLs := HLen.out s hsL
      clear hS hob e0 e1 e2 e3 e4 e5 e6 e7 e8 e9 hout5 cl5 hRs5 hRsD hR5 hba hgA hbA c0 c1 c2 c3 c4 c5 c6 c7 c8 c9
      refine wp_region_noPanic ?_
      refine wp_region_l 18 (fun V : World => w5.grownBy V L[s].v.ownBlock ∧ V.cell? ⟨bL, oL + k, none⟩ = some (i64 ((s : Int) + 1)) ∧ V.cell? ⟨w2.heap.size, s, none⟩ = some (.slice L[s].a L[s].l.length L[s].c) ∧ V.cell? ⟨wr.heap.size, 0, none⟩ = some (i64 x.client) ∧ V.cell? ⟨wr.heap.size, 1, none⟩ = some (i64 x.seq) ∧ V.cell? ⟨wr.heap.size, 2, none⟩ = some (i64 x.kind) ∧ V.cell? ⟨wr.heap.size, 3, none⟩ = some (.string x.acct) ∧ V.cell? ⟨wr.heap.size, 4, none⟩ = some (.string x.peer) ∧ V.cell? ⟨wr.heap.size, 5, none⟩ = some (i64 x.sum) ∧ V.cell? ⟨wr.heap.size, 6, none⟩ = some (.slice x.la x.legs.length x.lc) ∧ V.cell? ⟨wr.heap.size, 7, none⟩ = some (i64 x.period) ∧ V.cell? ⟨wr.heap.size, 8, none⟩ = some (i64 x.hold) ∧ V.cell? ⟨wr.heap.size, 9, none⟩ = some (.string x.note)) (by kernel_rfl) (HS.out _ (grown_drew (World.grownBy.refl _ _))) (fun hH => ?_)
      refine wpAnyL_take (i := 0) (v := ?v20001) rfl (by kernel_rfl) (by kernel_rfl) (by kernel_rfl) (by kernel_rfl) (fun _ _ _ h => h) (Or.inl ⟨by kernel_rfl, ?hy20001⟩) (by assumption) ?r20001
      case hy20001 => (intro W hSW; obtain ⟨hV0, s0, s1, s2, s3, s4, s5, s6, s7, s8, s9, s10, s11⟩ := hSW; go_simp; try with_reducible rfl)
      try simp only [Act.put, List.getElem_toArray, List.getElem_cons_zero, List.setIfInBounds_toArray, List.set_cons_zero, List.set_cons_succ]
      refine wpAnyL_take (i := 1) (v := ?v20002) rfl (by kernel_rfl) (by kernel_rfl) (by kernel_rfl) (by kernel_rfl) (fun _ _ _ h => h) (Or.inl ⟨by kernel_rfl, ?hy20002⟩) (by assumption) ?r20002
      case hy20002 => (intro W hSW; obtain ⟨hV0, s0, s1, s2, s3, s4, s5, s6, s7, s8, s9, s10, s11⟩ := hSW; go_simp; try with_reducible rfl)
      try simp only [Act.put, List.getElem_toArray, List.getElem_cons_zero, List.getElem_cons_succ, List.setIfInBounds_toArray, List.set_cons_zero, List.set_cons_succ]
      refine wpAnyL_take (i := 2) (v := ?v20003) rfl (by kernel_rfl) (by kernel_rfl) (by kernel_rfl) (by kernel_rfl) (fun _ _ _ h => h) (Or.inl ⟨by kernel_rfl, ?hy20003⟩) (by assumption) ?r20003
      case hy20003 => (intro W hSW; obtain ⟨hV0, s0, s1, s2, s3, s4, s5, s6, s7, s8, s9, s10, s11⟩ := hSW; go_simp; try with_reducible rfl)
      try simp only [Act.put, List.getElem_toArray, List.getElem_cons_zero, List.getElem_cons_succ, List.setIfInBounds_toArray, List.set_cons_zero, List.set_cons_succ]
      refine wpAnyL_take (i := 3) (v := ?v20004) rfl (by kernel_rfl) (by kernel_rfl) (by kernel_rfl) (by kernel_rfl) (fun _ _ _ h => h) (Or.inl ⟨by kernel_rfl, ?hy20004⟩) (by assumption) ?r20004
      case hy20004 => (intro W hSW; obtain ⟨hV0, s0, s1, s2, s3, s4, s5, s6, s7, s8, s9, s10, s11⟩ := hSW; go_simp; try with_reducible rfl)
      try simp only [Act.put, List.getElem_toArray, List.getElem_cons_zero, List.getElem_cons_succ, List.setIfInBounds_toArray, List.set_cons_zero, List.set_cons_succ]
      refine wpAnyL_take (i := 4) (v := ?v20005) rfl (by kernel_rfl) (by kernel_rfl) (by kernel_rfl) (by kernel_rfl) (fun _ _ _ h => h) (Or.inl ⟨by kernel_rfl, ?hy20005⟩) (by assumption) ?r20005
      case hy20005 => (intro W hSW; obtain ⟨hV0, s0, s1, s2, s3, s4, s5, s6, s7, s8, s9, s10, s11⟩ := hSW; go_simp; try with_reducible rfl)
      try simp only [Act.put, List.getElem_toArray, List.getElem_cons_zero, List.getElem_cons_succ, List.setIfInBounds_toArray, List.set_cons_zero, List.set_cons_succ]
      refine wpAnyL_take (i := 5) (v := ?v20006) rfl (by kernel_rfl) (by kernel_rfl) (by kernel_rfl) (by kernel_rfl) (fun _ _ _ h => h) (Or.inl ⟨by kernel_rfl, ?hy20006⟩) (by assumption) ?r20006
      case hy20006 => (intro W hSW; obtain ⟨hV0, s0, s1, s2, s3, s4, s5, s6, s7, s8, s9, s10, s11⟩ := hSW; go_simp; try with_reducible rfl)
      try simp only [Act.put, List.getElem_toArray, List.getElem_cons_zero, List.getElem_cons_succ, List.setIfInBounds_toArray, List.set_cons_zero, List.set_cons_succ]
      refine wpAnyL_take (i := 6) (v := ?v20007) rfl (by kernel_rfl) (by kernel_rfl) (by kernel_rfl) (by kernel_rfl) (fun _ _ _ h => h) (Or.inl ⟨by kernel_rfl, ?hy20007⟩) (by assumption) ?r20007
      case hy20007 => (intro W hSW; obtain ⟨hV0, s0, s1, s2, s3, s4, s5, s6, s7, s8, s9, s10, s11⟩ := hSW; go_simp; try with_reducible rfl)
      try simp only [Act.put, List.getElem_toArray, List.getElem_cons_zero, List.getElem_cons_succ, List.setIfInBounds_toArray, List.set_cons_zero, List.set_cons_succ]
      refine wpAnyL_take (i := 7) (v := ?v20008) rfl (by kernel_rfl) (by kernel_rfl) (by kernel_rfl) (by kernel_rfl) (fun _ _ _ h => h) (Or.inl ⟨by kernel_rfl, ?hy20008⟩) (by assumption) ?r20008
      case hy20008 => (intro W hSW; obtain ⟨hV0, s0, s1, s2, s3, s4, s5, s6, s7, s8, s9, s10, s11⟩ := hSW; go_simp; try with_reducible rfl)
      try simp only [Act.put, List.getElem_toArray, List.getElem_cons_zero, List.getElem_cons_succ, List.setIfInBounds_toArray, List.set_cons_zero, List.set_cons_succ]
      refine wpAnyL_take (i := 8) (v := ?v20009) rfl (by kernel_rfl) (by kernel_rfl) (by kernel_rfl) (by kernel_rfl) (fun _ _ _ h => h) (Or.inl ⟨by kernel_rfl, ?hy20009⟩) (by assumption) ?r20009
      case hy20009 => (intro W hSW; obtain ⟨hV0, s0, s1, s2, s3, s4, s5, s6, s7, s8, s9, s10, s11⟩ := hSW; go_simp; try with_reducible rfl)
      try simp only [Act.put, List.getElem_toArray, List.getElem_cons_zero, List.getElem_cons_succ, List.setIfInBounds_toArray, List.set_cons_zero, List.set_cons_succ]
      refine wpAnyL_take (i := 9) (v := ?v20010) rfl (by kernel_rfl) (by kernel_rfl) (by kernel_rfl) (by kernel_rfl) (fun _ _ _ h => h) (Or.inl ⟨by kernel_rfl, ?hy20010⟩) (by assumption) ?r20010
      case hy20010 => (intro W hSW; obtain ⟨hV0, s0, s1, s2, s3, s4, s5, s6, s7, s8, s9, s10, s11⟩ := hSW; go_simp; try with_reducible rfl)
      try simp only [Act.put, List.getElem_toArray, List.getElem_cons_zero, List.getElem_cons_succ, List.setIfInBounds_toArray, List.set_cons_zero, List.set_cons_succ]
      refine wpAnyL_take (i := 10) (v := ?v20011) rfl (by kernel_rfl) (by kernel_rfl) (by kernel_rfl) (by kernel_rfl) (fun _ _ _ h => h) (Or.inl ⟨by kernel_rfl, ?hy20011⟩) (by assumption) ?r20011
      case hy20011 => (intro W hSW; obtain ⟨hV0, s0, s1, s2, s3, s4, s5, s6, s7, s8, s9, s10, s11⟩ := hSW; go_simp; try with_reducible rfl)
      try simp only [Act.put, List.getElem_toArray, List.getElem_cons_zero, List.getElem_cons_succ, List.setIfInBounds_toArray, List.set_cons_zero, List.set_cons_succ]
      refine wpAnyL_take (i := 11) (v := ?v20012) rfl (by kernel_rfl) (by kernel_rfl) (by kernel_rfl) (by kernel_rfl) (fun _ _ _ h => h) (Or.inl ⟨by kernel_rfl, ?hy20012⟩) (by assumption) ?r20012
      case hy20012 => (intro W hSW; obtain ⟨hV0, s0, s1, s2, s3, s4, s5, s6, s7, s8, s9, s10, s11⟩ := hSW; go_simp; try with_reducible rfl)
      try simp only [Act.put, List.getElem_toArray, List.getElem_cons_zero, List.getElem_cons_succ, List.setIfInBounds_toArray, List.set_cons_zero, List.set_cons_succ]
      refine wpAnyL_take (i := 12) (v := ?v20013) rfl (by kernel_rfl) (by kernel_rfl) (by kernel_rfl) (by kernel_rfl) (fun _ _ _ h => h) (Or.inl ⟨by kernel_rfl, ?hy20013⟩) (by assumption) ?r20013
      case hy20013 => (intro W hSW; obtain ⟨hV0, s0, s1, s2, s3, s4, s5, s6, s7, s8, s9, s10, s11⟩ := hSW; go_simp; try with_reducible rfl)
      try simp only [Act.put, List.getElem_toArray, List.getElem_cons_zero, List.getElem_cons_succ, List.setIfInBounds_toArray, List.set_cons_zero, List.set_cons_succ]
      refine wpAnyL_take (i := 13) (v := ?v20014) rfl (by kernel_rfl) (by kernel_rfl) (by kernel_rfl) (by kernel_rfl) (fun _ _ _ h => h) (Or.inl ⟨by kernel_rfl, ?hy20014⟩) (by assumption) ?r20014
      case hy20014 => (intro W hSW; obtain ⟨hV0, s0, s1, s2, s3, s4, s5, s6, s7, s8, s9, s10, s11⟩ := hSW; go_simp; try with_reducible rfl)
      try simp only [Act.put, List.getElem_toArray, List.getElem_cons_zero, List.getElem_cons_succ, List.setIfInBounds_toArray, List.set_cons_zero, List.set_cons_succ]
      refine wpAnyL_take (i := 14) (v := ?v20015) rfl (by kernel_rfl) (by kernel_rfl) (by kernel_rfl) (by kernel_rfl) (fun _ _ _ h => h) (Or.inl ⟨by kernel_rfl, ?hy20015⟩) (by assumption) ?r20015
      case hy20015 => (intro W hSW; obtain ⟨hV0, s0, s1, s2, s3, s4, s5, s6, s7, s8, s9, s10, s11⟩ := hSW; go_simp; try with_reducible rfl)
      try simp only [Act.put, List.getElem_toArray, List.getElem_cons_zero, List.getElem_cons_succ, List.setIfInBounds_toArray, List.set_cons_zero, List.set_cons_succ]
      refine wpAnyL_one (i := 15) (by kernel_rfl) rfl (by decide) (fun K hK => ?_)
      go_simp
      refine hK.out _ _ (HS.out _ HgA.out) (fun hH => ?_)
      clear hK K
      try simp only [Act.put, List.getElem_toArray, List.getElem_cons_zero, List.getElem_cons_succ, List.setIfInBounds_toArray, List.set_cons_zero, List.set_cons_succ]
      refine wpAnyL_one (i := 16) (by kernel_rfl) rfl (by decide) (fun K hK => ?_)
      refine oper_append_one (.tmp 40) (.tmp 42) 22 rfl _ 120 Tryz.underlying22 inf_od rfl (by decide) (by decide) rfl HRsA.out w5.drew.heap.size x rfl _ 50 (heap_alloc_new _ _) rfl Hne.out HxA.out (by omega) hzA ?_
      intro v6 w6 hO6 hg6 hat6
      obtain ⟨A6, c6, rfl, _⟩ := hO6.sl
      have hgv := grown_trans HgA.out hg6
      refine hK.out _ _ (HS.out _ hgv) (fun hH => ?_)
      clear hK K
      try simp only [Act.put, List.getElem_toArray, List.getElem_cons_zero, List.getElem_cons_succ]
      refine wpAnyL_take (i := 17) (v := ?v20016) rfl (by kernel_rfl) (by kernel_rfl) (by kernel_rfl) (by kernel_rfl) (fun _ _ _ h => h) (Or.inl ⟨by kernel_rfl, ?hy20016⟩) (by assumption) ?r20016
      case hy20016 => (intro W hSW; obtain ⟨hV0, s0, s1, s2, s3, s4, s5, s6, s7, s8, s9, s10, s11⟩ := hSW; go_simp; try with_reducible rfl)
      try simp only [Act.put, List.getElem_toArray, List.getElem_cons_zero, List.getElem_cons_succ, List.setIfInBounds_toArray, List.set_cons_succ]
      refine wpAnyL_last (by kernel_rfl) rfl (fun K hK => ?_)
      refine oper_store_own (α := VV) (.tmp 44) (.tmp 43) 22 rfl (by kernel_rfl) w2.heap.size L.length L.length s s (SV.vv ⟨A6, c6, L[s].l ++ [x]⟩) (HRo.out.grown hg6 (.inr fun e => hroff e.symm) (fun _ _ => trivial)) (by rw [List.length_map]; exact hsL) rfl (Nat.mul_one s).symm rfl trivial ?_
      intro w7 hO7 hg7
      refine hK.out _ _ ?_
      clear hK K
      try simp only [Act.put, List.getElem_toArray, List.getElem_cons_zero, List.getElem_cons_succ, List.set_cons_zero]
      refine wpAnyL_done (by kernel_rfl) ?_ _
      refine NoPanic.normal ?_
      have hR7 := HR.out.grow hsL (x' := ⟨A6, c6, L[s].l ++ [x]⟩) hO6 (grown_trans hg5 hgv) (hat6.imp id fun e => ⟨_, e, Nat.le_trans hg5.size HgA.out.size⟩) HoK.out (fun y hy W S hS hW => by
        rcases List.mem_append.1 hy with hy | hy
        · exact HoK.out W S _ (List.getElem_mem hsL) hS hW y hy
        · rw [List.mem_singleton.1 hy]; exact Hxo.out W S hS hW) hO7 hg7 hb.size
      have hb7 : Below w2.heap.size w2 w7 := (hb.trans (below_of_grown (grown_trans hg5 hgv) hb.size (fun g e => (hrlt g e).1))).trans (below_of_grown hg7 (Nat.le_trans hb.size (Nat.le_trans hg5.size hgv.size)) (fun g e => by injection e with e; omega))
      have hz7 := Nat.lt_of_lt_of_le hz (Nat.le_trans hg5.size (Nat.le_trans hgv.size hg7.size))
      clear hH HS hO6 hg6 hgv hO7 hg7 hat6 HRsA HRo HxA HgA
      go_wp2
      go_roundw
      case rel => exact ⟨k + 1, L.set s ⟨A6, c6, L[s].l ++ [x]⟩, by go_num, by omega, hR7, by rw [List.map_set, HLs.out], by rw [List.length_set]; exact hLn, hb7, hz7⟩
      case measure => simp [intOf]; omega
    · obtain rfl : k = l.length := by omega
      have g1 : decide ((l.length : Int) < (l.length : Int)) = false := decide_eq_false (by omega)
      rw [List.take_length] at hLm
      rw [← halfS_zero] at hLm
      go_wp2_with fail
      go_loopw [48] (fun i wq => ∃ (j : Nat) (L : List (SV Od)), i = i64 j ∧ j ≤ n ∧ RowsO wq w2.heap.size w2.heap.size L ∧ L.map SV.l = halfS (levP l) n j ∧ L.length = n ∧ Below w2.heap.size w2 wq) (fun i _ => n - (intOf i).toNat)
      case atStart => exact ⟨0, L, rfl, Nat.zero_le _, hR, hLm, hLn, hb⟩
      case round =>
        clear hR hLm hLn hb hz
        obtain ⟨j, L, rfl, hj, hR, hLm, hLn, hb⟩ := hrel
        have hmem : ∀ x ∈ L, ∀ y ∈ x.l, y ∈ l := fun x hx y hy => by
          have h1 : x.l ∈ halfS (levP l) n j := by rw [← hLm]; exact List.mem_map.2 ⟨x, hx, rfl⟩
          obtain ⟨s, hs, e⟩ := List.getElem_of_mem h1
          rw [halfS_get hs] at e
          have hp : (x.l).Perm (partP (levP l) s) := by
            rw [← e]
            split
            · exact sortB_perm _
            · exact .refl _
          have := hp.mem_iff.1 hy
          obtain ⟨p, hp, rfl⟩ := List.mem_map.1 this
          rw [← levP_fst l]
          exact List.mem_map.2 ⟨p, (List.mem_filter.1 hp).1, rfl⟩
        have HoK : Hid (∀ W S x, x ∈ L → (∀ b, b < w2.heap.size → S b) → Below w2.heap.size wr W → ∀ y ∈ x.l, Enc.ok W S y) := Lib.hid fun W S x hx hS hW y hy => HI.out y (hmem x hx y hy) W S hS (hb.trans hW)
        by_cases hjn : j < n
        · have g3 : decide ((j : Int) < (n : Int)) = true := decide_eq_true (by omega)
          have g4 : decide (j < n) = true := decide_eq_true hjn
          have i2 : (0 : Int) ≤ (j : Int) := by omega
          have i3 : (j : Int) < (n : Int) := by omega
          have hjL : j < L.length := by omega
          have hout := hR.get hjL
          have hO := hR.own _ (List.getElem_mem hjL)
          have hgl : L[j].l = partP (levP l) j := by
            have h1 : (L.map SV.l)[j]? = (halfS (levP l) n j)[j]? := by rw [hLm]
            rw [List.getElem?_eq_getElem (by rw [List.length_map]; exact hjL), List.getElem?_eq_getElem (by rw [halfS_len]; exact hjn), List.getElem_map, halfS_get, if_neg (Nat.lt_irrefl _)] at h1
            exact Option.some.inj h1
          have hsz : L[j].l.length ≤ 1000000 := by
            rw [hgl]
            unfold partP
            rw [List.length_map]
            have := List.length_filter_le (fun p : Od × Int => decide (p.2 = (j : Int) + 1)) (levP l)
            rw [levP_len] at this
            omega
          have hcmp := fun (x y : Od) (W : World) => focmp_c x y W
          have hC := sortF_own (α := Od) Tryz.sortOd Tryz.isAgg50 (show ∀ w : World, (sizeOf 50).run Tryz.prog w = .ok (Enc.size Od) w from Tryz.sizeOf50) (fun x y => orI (cmpI x.client y.client) (cmpI x.seq y.seq)) ltO focmp_lt strictO 68 #[] (enters_of Tryz.func68 (by kernel_rfl) rfl) hcmp _ 50 _ L[j].l wr hO hsz
          change Calls Tryz.prog 67 _ _ _ at hC
          have HC := Lib.hid hC
          have HR := Lib.hid hR
          have Hgl := Lib.hid hgl
          have HLm := Lib.hid hLm
          have HLn := Lib.hid hLn
          have hbz := hb.size
          clear hC hcmp hO hR hmem hgl hsz hLm hLn
          go_wp2_with fail
          refine HC.out.mono ?_
          rintro e w5 ⟨rfl, l', hp', hs', hO', hg'⟩
          have hlt' := fun b (e : L[j].v.ownBlock = some b) => (HR.out.own _ (List.getElem_mem hjL)).1.lt b e
          have he : l' = stepP (levP l) j := part_sort (by rw [levP_fst]; exact HV.out) (by rw [← Hgl.out]; exact hp') hs'
          have hR2 := HR.out.turn hjL hp'.length_eq hO' hg' HoK.out hbz
          have hb5 := hb.trans (below_of_grown hg' hbz fun b e => (hlt' b e).1)
          have hmap : (L.set j ⟨L[j].a, L[j].c, l'⟩).map SV.l = halfS (levP l) n (j + 1) := by
            rw [List.map_set, HLm.out, halfS_next _ hjn, he]
          have HR2 := Lib.hid hR2
          have Hmap := Lib.hid hmap
          have Hb5 := Lib.hid hb5
          clear hp' hs' hO' hg' hlt' he hR2 hb5 hmap HC
          go_wp2
          go_roundw
          case rel => exact ⟨j + 1, _, by go_num, by omega, HR2.out, Hmap.out, by rw [List.length_set]; exact HLn.out, Hb5.out⟩
          case measure => simp [intOf]; omega
        · obtain rfl : j = n := by omega
          have g3 : decide ((j : Int) < (j : Int)) = false := decide_eq_false (by omega)
          have hW := hR.whole fun x hx y hy => HoK.out wr _ x hx (fun b hb' => ⟨Nat.lt_of_lt_of_le hb' hb.size, fun e => absurd (show b = w2.heap.size from Option.some.inj e) (Nat.ne_of_lt hb')⟩) (Below.refl _ _) y hy
          rw [hLn] at hW
          have HW := Lib.hid hW
          have HLm := Lib.hid (hLm.trans (halfS_all l Hmn.out))
          clear hW hLm hR hmem hLn
          go_wp2
          go_ret
          exact ⟨_, L, rfl, HW.out.mono hb2.size, by rw [Hst.out]; exact HLm.out, hb2.trans (hb.mono hb2.size)⟩
end Go.Proofs.YtdkkblhfjblpkaaGreat

/- FoataBegins: the plain law -/
namespace Go.Proofs.YtdkkblhfjblpkaaGreat
open Go.RowKit
theorem most_take (l : List Od) (k : Nat) (hk : k ≤ l.length) : mostP (levP (l.take k)) ≤ mostP (levP l) := by
  rcases most_ex (levP (l.take k)) with e | ⟨p, hp, e⟩
  · rw [e]; exact most_pos _
  · rw [← e]
    rw [levP_take l k hk] at hp
    exact most_le (List.mem_of_mem_take hp)
theorem begins_plain {l : List Od} (hv : Val l) {k : Nat} (hk : k ≤ l.length) {La Lb : List (SV Od)} (ha : La.map SV.l = stepsL (l.take k)) (hb : Lb.map SV.l = stepsL l) :
    La.length ≤ Lb.length ∧ ∀ i (hi : i < La.length) (hj : i < Lb.length), ∀ y ∈ La[i].l, y ∈ Lb[i].l := by
  have e1 : stepsL (l.take k) = stepsV (l.take k) := by unfold stepsL; rw [if_pos (validL_iff.2 (hv.sub (List.take_sublist _ _)))]
  have e2 : stepsL l = stepsV l := by unfold stepsL; rw [if_pos (validL_iff.2 hv)]
  rw [e1] at ha
  rw [e2] at hb
  have l1 : La.length = (stepsV (l.take k)).length := by rw [← ha, List.length_map]
  have l2 : Lb.length = (stepsV l).length := by rw [← hb, List.length_map]
  refine ⟨?_, fun i hi hj y hy => ?_⟩
  · rw [l1, l2, stepsV_len, stepsV_len]
    have := most_take l k hk
    omega
  · have g1 : La[i].l = stepP (levP (l.take k)) i := by
      have h := stepsV_get (l := l.take k) (s := i) (by omega)
      have h1 : (La.map SV.l)[i]? = (stepsV (l.take k))[i]? := by rw [ha]
      rw [List.getElem?_eq_getElem (by rw [List.length_map]; exact hi), List.getElem?_eq_getElem (by omega), List.getElem_map, h] at h1
      exact Option.some.inj h1
    have g2 : Lb[i].l = stepP (levP l) i := by
      have h := stepsV_get (l := l) (s := i) (by omega)
      have h1 : (Lb.map SV.l)[i]? = (stepsV l)[i]? := by rw [hb]
      rw [List.getElem?_eq_getElem (by rw [List.length_map]; exact hj), List.getElem?_eq_getElem (by omega), List.getElem_map, h] at h1
      exact Option.some.inj h1
    rw [g1, mem_step, levP_take l k hk] at hy
    rw [g2, mem_step]
    exact List.mem_of_mem_take hy
end Go.Proofs.YtdkkblhfjblpkaaGreat
