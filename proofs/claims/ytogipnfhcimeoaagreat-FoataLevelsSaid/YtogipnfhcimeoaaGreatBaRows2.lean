/- Rows of rows: a row of slices, each of the call's own, that grows. No program. -/
import Derived.Test.YtogipnfhcimeoaaGreatBaMake
import Derived.Test.YtogipnfhcimeoaaGreatBc1
import Derived.Test.YtogipnfhcimeoaaGreatBc4
import Derived.Test.YtogipnfhcimeoaaGreatBc10
import Derived.Deep.QuietTactic
import Derived.WalkKit
namespace Go.Proofs.YtogipnfhcimeoaaGreat
open Go.RowKit
/-- a value of one cell, as it lies there -/
structure VV where
  v : Value
  one : v.oneCell' = true
instance encVV : Enc VV where
  size := 1
  cells x := [x.v]
  val x := x.v
  ok _ _ _ := True
  len _ := rfl
  one x v hv := by simp only [List.mem_singleton] at hv; subst hv; exact x.one
  keep h _ _ := h
theorem Own.vv_at {w : World} {base : Nat} {e : TypeId} {l : List VV} {g n cap : Nat} (h : Own w base e (.slice (some ⟨g, 0, none⟩) n cap) l) {k : Nat} (hk : k < l.length) : w.cell? ⟨g, k, none⟩ = some l[k].v := by
  have := h.at_ hk 0 _ rfl
  rwa [show k * Enc.size VV + 0 = k from Nat.mul_one k] at this
abbrev SV.v {α : Type} (x : SV α) : Value := .slice x.a x.l.length x.c
def SV.vv {α : Type} (x : SV α) : VV := ⟨x.v, rfl⟩
section
variable {α : Type} [Enc α] {w w' : World} {base : Nat} {e : TypeId} {v : Value} {l : List α}
theorem Own.sl_in {S : Nat → Prop} (h : Own w base e v l) (hb : ∀ b, v.ownBlock = some b → S b) (hx : ∀ x ∈ l, Enc.ok w S x) : ∃ A c, v = .slice A l.length c ∧ SlS w S A c l := by
  obtain ⟨⟨h1, h2⟩, h3⟩ := h
  rcases h2 with ⟨rfl, h0⟩ | ⟨g, cap, cur, rfl, hg, hh, hn, hm, hz, ht⟩
  · have : l = [] := List.length_eq_zero_iff.1 h0
    subst this
    exact ⟨none, 0, rfl, SlS.nil_ _ _⟩
  · refine ⟨_, _, rfl, hn, hm, fun _ => ⟨g, 0, rfl, hb g rfl, fun j u hu => ?_⟩, hx⟩
    rw [cell_of_row w g (0 + j) cur e (0, 0) hh, Nat.zero_add]
    rw [← ht, List.getElem?_take] at hu
    split at hu
    · rw [← hu]; simp
    · cases hu
theorem flat_vv (L : List (SV α)) : (L.map SV.vv).flatMap Enc.cells = L.flatMap Enc.cells := by
  induction L with
  | nil => rfl
  | cons x r ih => rw [List.map_cons, List.flatMap_cons, List.flatMap_cons, ih]; rfl
/-- the outer row read as slices -/
theorem Own.of_vv {L : List (SV α)} (h : Own w base e v (L.map SV.vv)) (hok : ∀ x ∈ L, Enc.ok w (Oth w v) x) : Own w base e v L := by
  obtain ⟨h1, _⟩ := h
  rw [List.length_map, flat_vv] at h1
  exact ⟨h1, hok⟩
/-- a store into an element of a row, as one operation of a drawn region -/
theorem oper_store_own {P : Program} {o : Oper} {a : Act} {K : Act → World → Prop} {Q : Exit → Act → World → Prop} (ad x : Operand) (t : TypeId) (ho : o.op = .store t ad x)
    (hi : (P.info? t).map (·.size) = some (Enc.size α)) (g n cap i off : Nat) (u : α) (h : Own w base e (.slice (some ⟨g, 0, none⟩) n cap) l) (hil : i < l.length)
    (had : a.eval ad = .pointer (some ⟨g, off, none⟩)) (hoff : off = i * Enc.size α) (hx : (a.eval x).cells.toList = Enc.cells u) (hu : Enc.ok w (Oth w (.slice (some ⟨g, 0, none⟩) n cap)) u)
    (hK : ∀ w', Own w' base e (.slice (some ⟨g, 0, none⟩) n cap) (l.set i u) → w.grownBy w' (some g) → K (a.put o.dst undef) w') : Oper.wp P o a w K Q := by
  obtain ⟨cur, hg, hb, hn, hc, hm, hz, ht⟩ := h.cells
  obtain ⟨h1, h2⟩ := h.put hg i hil u hu
  have hsz : (a.eval x).cells.size = Enc.size α := by rw [← Array.length_toList, hx, Enc.len]
  have hi2 : i * Enc.size α + Enc.size α ≤ n * Enc.size α := by rw [← Nat.succ_mul]; exact Nat.mul_le_mul_right _ (by omega)
  have hi3 : n * Enc.size α ≤ cap * Enc.size α := Nat.mul_le_mul_right _ hc
  have hst := run_storeCells_at P g (i * Enc.size α) e (Enc.cells u) 0 cur w hg (by rw [Enc.len]; omega) (Enc.one u)
  rw [Nat.add_zero, Enc.len] at hst
  rw [List.append_assoc] at h1 h2
  subst hoff
  cases hq : P.info? t with
  | none => simp [hq] at hi
  | some j =>
    have hj : j.size = Enc.size α := by simpa [hq] using hi
    unfold Oper.wp execOp
    simp only [ho]
    simp [had, Instr.storeAt, Instr.sureAddr, storeVar, sizeOf, typeInfo, hq, hj, hsz, hx, hst]
    exact hK _ h1 h2
end
/-- block g holds a row of slices, each a row of the call's own (blocks from base on), no two in one block -/
structure RowsW {α : Type} [Enc α] (w : World) (base g : Nat) (to ti : TypeId) (L : List (SV α)) : Prop where
  out : Own w base to (.slice (some ⟨g, 0, none⟩) L.length L.length) (L.map SV.vv)
  own : ∀ x ∈ L, Own w base ti x.v x.l
  apart : L.Pairwise fun x y => ∀ b, x.v.ownBlock = some b → y.v.ownBlock ≠ some b
  off : ∀ x ∈ L, x.v.ownBlock ≠ some g
section
variable {α : Type} [Enc α] {w w' : World} {base g : Nat} {to ti : TypeId} {L : List (SV α)}
theorem RowsW.later (h : RowsW w base g to ti L) (hb : Below w.heap.size w w') : RowsW w' base g to ti L := ⟨h.out.later hb, fun x hx => (h.own x hx).later hb, h.apart, h.off⟩
theorem RowsW.lt (h : RowsW w base g to ti L) : base ≤ g ∧ g < w.heap.size := h.out.base_le
theorem RowsW.get (h : RowsW w base g to ti L) {s : Nat} (hs : s < L.length) : w.cell? ⟨g, s, none⟩ = some L[s].v := by
  have := h.out.vv_at (k := s) (by rw [List.length_map]; exact hs)
  rw [List.getElem_map] at this
  exact this
/-- one of the rows has grown and its new value is stored -/
theorem RowsW.grow {w1 w2 : World} (h : RowsW w base g to ti L) {s : Nat} (hs : s < L.length) {x' : SV α} (hx : Own w1 base ti x'.v x'.l) (hg : w.grownBy w1 L[s].v.ownBlock) (hat : x'.v.ownBlock = L[s].v.ownBlock ∨ ∃ b, x'.v.ownBlock = some b ∧ w.heap.size ≤ b)
    (hok : ∀ W S x, x ∈ L → (∀ b, b < base → S b) → (Below base w W) → ∀ y ∈ x.l, Enc.ok W S y) (hok' : ∀ y ∈ x'.l, ∀ W S, (∀ b, b < base → S b) → (Below base w W) → Enc.ok W S y)
    (hO : Own w2 base to (.slice (some ⟨g, 0, none⟩) L.length L.length) ((L.map SV.vv).set s x'.vv)) (hg2 : w1.grownBy w2 (some g)) (hbw : base ≤ w.heap.size) : RowsW w2 base g to ti (L.set s x') := by
  have hlt := h.lt
  have hsb : ∀ b, L[s].v.ownBlock = some b → base ≤ b ∧ b < w.heap.size := fun b e => (h.own _ (List.getElem_mem hs)).1.lt b e
  have hb1 : Below base w w1 := below_of_grown hg hbw fun b e => (hsb b e).1
  have hb2 : Below base w w2 := hb1.trans (below_of_grown hg2 (Nat.le_trans hbw hg.size) fun b e => by injection e with e; omega)
  have hxne : x'.v.ownBlock ≠ some g := by
    rcases hat with e | ⟨b, e, hb⟩
    · rw [e]; exact h.off _ (List.getElem_mem hs)
    · rw [e]; intro e2; injection e2 with e2; omega
  have hx2 : Own w2 base ti x'.v x'.l := by
    refine hx.grown hg2 (.inr hxne) fun y hy => hok' y hy w1 _ (fun b hb => ⟨by have := hg.size; omega, fun e => ?_, fun e => ?_⟩) hb1
    · have := (hx.1.lt b e.symm).1; omega
    · injection e with e; omega
  have hap := h.apart
  rw [List.pairwise_iff_getElem] at hap
  have hoth : ∀ (i : Nat) (hi : i < L.length), i ≠ s → ∀ b, L[i].v.ownBlock = some b → L[s].v.ownBlock ≠ some b := fun i hi hne b e => by
    rcases Nat.lt_or_gt_of_ne hne with hl | hl
    · exact hap i s hi hs hl b e
    · intro e2; exact hap s i hs hi hl b e2 e
  have hi2 : ∀ (i : Nat) (hi : i < L.length), i ≠ s → Own w2 base ti L[i].v L[i].l := fun i hi hne => by
    have ho := h.own _ (List.getElem_mem hi)
    have hr : L[i].v.ownBlock = none ∨ L[i].v.ownBlock ≠ L[s].v.ownBlock := by
      cases hv : L[i].v.ownBlock with
      | none => exact .inl rfl
      | some b => exact .inr fun e => hoth i hi hne b hv e.symm
    have h1 : Own w1 base ti L[i].v L[i].l := ho.grown hg hr fun y hy => hok w _ _ (List.getElem_mem hi) (fun b hb => ⟨by omega, fun e => by have := (ho.1.lt b e.symm).1; omega, fun e => by have := (hsb b e.symm).1; omega⟩) (Below.refl _ _) y hy
    refine h1.grown hg2 (.inr (h.off _ (List.getElem_mem hi))) fun y hy => hok w1 _ _ (List.getElem_mem hi) (fun b hb => ⟨by have := hg.size; omega, fun e => by have := (ho.1.lt b e.symm).1; omega, fun e => by injection e with e; omega⟩) hb1 y hy
  have hnew : ∀ (i : Nat) (hi : i < L.length), i ≠ s → ∀ b, L[i].v.ownBlock = some b → x'.v.ownBlock ≠ some b := fun i hi hne b e e2 => by
    rcases hat with e3 | ⟨c, e3, hc⟩
    · exact hoth i hi hne b e (e3.symm.trans e2)
    · rw [e3] at e2
      injection e2 with e2
      have := ((h.own _ (List.getElem_mem hi)).1.lt b e).2
      omega
  have hset : (L.set s x').length = L.length := List.length_set
  refine ⟨by rw [hset, List.map_set]; exact hO, fun x hx => ?_, ?_, fun x hx => ?_⟩
  · obtain ⟨i, hi, rfl⟩ := List.getElem_of_mem hx
    rw [hset] at hi
    rw [List.getElem_set]
    split
    · exact hx2
    · rename_i hne; exact hi2 i hi (fun e => hne e.symm)
  · rw [List.pairwise_iff_getElem]
    intro i j hi hj hij b
    rw [hset] at hi hj
    rw [List.getElem_set, List.getElem_set]
    split
    · rename_i e; subst e
      rw [if_neg (by omega)]
      intro e1 e2
      exact hnew j hj (by omega) b e2 e1
    · rename_i hne
      split
      · rename_i e; subst e
        exact fun e1 => hnew i hi (by omega) b e1
      · exact hap i j hi hj hij b
  · obtain ⟨i, hi, rfl⟩ := List.getElem_of_mem hx
    rw [hset] at hi
    rw [List.getElem_set]
    split
    · exact hxne
    · exact h.off _ (List.getElem_mem hi)
/-- read as a whole -/
theorem RowsW.whole (h : RowsW w base g to ti L) (hok : ∀ x ∈ L, ∀ y ∈ x.l, Enc.ok w (Oth w (.slice (some ⟨g, 0, none⟩) L.length L.length)) y) : Own w base to (.slice (some ⟨g, 0, none⟩) L.length L.length) L := by
  refine h.out.of_vv fun x hx => ?_
  obtain ⟨A, c, hv, hs⟩ := (h.own x hx).sl_in (S := Oth w (.slice (some ⟨g, 0, none⟩) L.length L.length)) (fun b e => ⟨((h.own x hx).1.lt b e).2, fun e2 => h.off x hx (e.trans e2)⟩) (hok x hx)
  injection hv with h1 h2 h3
  subst h1 h3
  exact hs
/-- one of the rows is turned in place -/
theorem RowsW.turn {w1 : World} (h : RowsW w base g to ti L) {s : Nat} (hs : s < L.length) {l' : List α} (hlen : l'.length = L[s].l.length) (hx : Own w1 base ti L[s].v l') (hg : w.grownBy w1 L[s].v.ownBlock)
    (hok : ∀ W S x, x ∈ L → (∀ b, b < base → S b) → (Below base w W) → ∀ y ∈ x.l, Enc.ok W S y) (hbw : base ≤ w.heap.size) : RowsW w1 base g to ti (L.set s ⟨L[s].a, L[s].c, l'⟩) := by
  have hsb : ∀ b, L[s].v.ownBlock = some b → base ≤ b ∧ b < w.heap.size := fun b e => (h.own _ (List.getElem_mem hs)).1.lt b e
  have hap := h.apart
  rw [List.pairwise_iff_getElem] at hap
  have hoth : ∀ (i : Nat) (hi : i < L.length), i ≠ s → ∀ b, L[i].v.ownBlock = some b → L[s].v.ownBlock ≠ some b := fun i hi hne b e => by
    rcases Nat.lt_or_gt_of_ne hne with hl | hl
    · exact hap i s hi hs hl b e
    · intro e2; exact hap s i hs hi hl b e2 e
  have hi1 : ∀ (i : Nat) (hi : i < L.length), i ≠ s → Own w1 base ti L[i].v L[i].l := fun i hi hne => by
    have ho := h.own _ (List.getElem_mem hi)
    have hr : L[i].v.ownBlock = none ∨ L[i].v.ownBlock ≠ L[s].v.ownBlock := by
      cases hv : L[i].v.ownBlock with
      | none => exact .inl rfl
      | some b => exact .inr fun e => hoth i hi hne b hv e.symm
    exact ho.grown hg hr fun y hy => hok w _ _ (List.getElem_mem hi) (fun b hb => ⟨by omega, fun e => by have := (ho.1.lt b e.symm).1; omega, fun e => by have := (hsb b e.symm).1; omega⟩) (Below.refl _ _) y hy
  have hset : (L.set s (⟨L[s].a, L[s].c, l'⟩ : SV α)).length = L.length := List.length_set
  have hvv : (⟨L[s].a, L[s].c, l'⟩ : SV α).v = L[s].v := by show Value.slice _ l'.length _ = _; rw [hlen]
  have hmap : (L.set s (⟨L[s].a, L[s].c, l'⟩ : SV α)).map SV.vv = L.map SV.vv := by
    rw [List.map_set]
    have : (⟨L[s].a, L[s].c, l'⟩ : SV α).vv = (L.map SV.vv)[s]'(by rw [List.length_map]; exact hs) := by
      rw [List.getElem_map]
      unfold SV.vv
      congr 1
    rw [this, List.set_getElem_self]
  refine ⟨by rw [hset, hmap]; exact h.out.grown hg (.inr (fun e => h.off _ (List.getElem_mem hs) e.symm)) (fun _ _ => trivial), fun x hx' => ?_, ?_, fun x hx' => ?_⟩
  · obtain ⟨i, hi, rfl⟩ := List.getElem_of_mem hx'
    rw [hset] at hi
    rw [List.getElem_set]
    split
    · rw [hvv]; exact hx
    · rename_i hne; exact hi1 i hi (fun e => hne e.symm)
  · rw [List.pairwise_iff_getElem]
    intro i j hi hj hij b
    rw [hset] at hi hj
    rw [List.getElem_set, List.getElem_set]
    split
    · rename_i e; subst e
      rw [if_neg (by omega), hvv]
      exact hap s j hs hj hij b
    · split
      · rename_i e; subst e
        rw [hvv]
        exact hap i s hi hs hij b
      · exact hap i j hi hj hij b
  · obtain ⟨i, hi, rfl⟩ := List.getElem_of_mem hx'
    rw [hset] at hi
    rw [List.getElem_set]
    split
    · rw [hvv]; exact h.off _ (List.getElem_mem hs)
    · exact h.off _ (List.getElem_mem hi)
end
end Go.Proofs.YtogipnfhcimeoaaGreat
