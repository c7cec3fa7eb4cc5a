/- Texts of this claim, laid together: Rows2, OperLit, OperCall, OperNot, GrM, Mrg, StArr, StHead, BkWeighsP. -/
import Derived.Test.YtgholbeehkfbiaaGreatBm19
import Derived.Test.YtgholbeehkfbiaaGreatBm1
import Derived.Test.YtgholbeehkfbiaaGreatBm2
import Derived.Test.YtgholbeehkfbiaaGreatBm10
import Derived.Deep.QuietTactic
import Derived.WalkKit
import Derived.Test.YtgholbeehkfbiaaGreatRows
import Derived.WalkSpells
import Derived.WalkLawsBesides
import Derived.BigQuiet
import Derived.Laws.StructEq
import Derived.Deep.DeepFit
import Derived.StillTailTactics
import Derived.Test.YtgholbeehkfbiaaGreatBm17
import Derived.Test.YtgholbeehkfbiaaGreatBm3
import Derived.Test.YtgholbeehkfbiaaGreatBm11

/- Rows of rows: a row of slices, each of the call's own, that grows. No program. -/
namespace Go.Proofs.YtgholbeehkfbiaaGreat
open Go.RowKit
/-- a value of one cell, as it lies there -/
structure VV where
  v : Value
  one : v.oneCell' = true
instance encVV : Enc VV where
  size := 1
  cells x := [x.v]
  val x := x.v
  ok _ _ _ := True
  len _ := rfl
  one x v hv := by simp only [List.mem_singleton] at hv; subst hv; exact x.one
  keep h _ _ := h
theorem Own.vv_at {w : World} {base : Nat} {e : TypeId} {l : List VV} {g n cap : Nat} (h : Own w base e (.slice (some ⟨g, 0, none⟩) n cap) l) {k : Nat} (hk : k < l.length) : w.cell? ⟨g, k, none⟩ = some l[k].v := by
  have := h.at_ hk 0 _ rfl
  rwa [show k * Enc.size VV + 0 = k from Nat.mul_one k] at this
abbrev SV.v {α : Type} (x : SV α) : Value := .slice x.a x.l.length x.c
def SV.vv {α : Type} (x : SV α) : VV := ⟨x.v, rfl⟩
section
variable {α : Type} [Enc α] {w w' : World} {base : Nat} {e : TypeId} {v : Value} {l : List α}
theorem Own.sl_in {S : Nat → Prop} (h : Own w base e v l) (hb : ∀ b, v.ownBlock = some b → S b) (hx : ∀ x ∈ l, Enc.ok w S x) : ∃ A c, v = .slice A l.length c ∧ SlS w S A c l := by
  obtain ⟨⟨h1, h2⟩, h3⟩ := h
  rcases h2 with ⟨rfl, h0⟩ | ⟨g, cap, cur, rfl, hg, hh, hn, hm, hz, ht⟩
  · have : l = [] := List.length_eq_zero_iff.1 h0
    subst this
    exact ⟨none, 0, rfl, SlS.nil_ _ _⟩
  · refine ⟨_, _, rfl, hn, hm, fun _ => ⟨g, 0, rfl, hb g rfl, fun j u hu => ?_⟩, hx⟩
    rw [cell_of_row w g (0 + j) cur e (0, 0) hh, Nat.zero_add]
    rw [← ht, List.getElem?_take] at hu
    split at hu
    · rw [← hu]; simp
    · cases hu
theorem flat_vv (L : List (SV α)) : (L.map SV.vv).flatMap Enc.cells = L.flatMap Enc.cells := by
  induction L with
  | nil => rfl
  | cons x r ih => rw [List.map_cons, List.flatMap_cons, List.flatMap_cons, ih]; rfl
/-- the outer row read as slices -/
theorem Own.of_vv {L : List (SV α)} (h : Own w base e v (L.map SV.vv)) (hok : ∀ x ∈ L, Enc.ok w (Oth w v) x) : Own w base e v L := by
  obtain ⟨h1, _⟩ := h
  rw [List.length_map, flat_vv] at h1
  exact ⟨h1, hok⟩
/-- a store into an element of a row, as one operation of a drawn region -/
theorem oper_store_own {P : Program} {o : Oper} {a : Act} {K : Act → World → Prop} {Q : Exit → Act → World → Prop} (ad x : Operand) (t : TypeId) (ho : o.op = .store t ad x)
    (hi : (P.info? t).map (·.size) = some (Enc.size α)) (g n cap i off : Nat) (u : α) (h : Own w base e (.slice (some ⟨g, 0, none⟩) n cap) l) (hil : i < l.length)
    (had : a.eval ad = .pointer (some ⟨g, off, none⟩)) (hoff : off = i * Enc.size α) (hx : (a.eval x).cells.toList = Enc.cells u) (hu : Enc.ok w (Oth w (.slice (some ⟨g, 0, none⟩) n cap)) u)
    (hK : ∀ w', Own w' base e (.slice (some ⟨g, 0, none⟩) n cap) (l.set i u) → w.grownBy w' (some g) → K (a.put o.dst undef) w') : Oper.wp P o a w K Q := by
  obtain ⟨cur, hg, hb, hn, hc, hm, hz, ht⟩ := h.cells
  obtain ⟨h1, h2⟩ := h.put hg i hil u hu
  have hsz : (a.eval x).cells.size = Enc.size α := by rw [← Array.length_toList, hx, Enc.len]
  have hi2 : i * Enc.size α + Enc.size α ≤ n * Enc.size α := by rw [← Nat.succ_mul]; exact Nat.mul_le_mul_right _ (by omega)
  have hi3 : n * Enc.size α ≤ cap * Enc.size α := Nat.mul_le_mul_right _ hc
  have hst := run_storeCells_at P g (i * Enc.size α) e (Enc.cells u) 0 cur w hg (by rw [Enc.len]; omega) (Enc.one u)
  rw [Nat.add_zero, Enc.len] at hst
  rw [List.append_assoc] at h1 h2
  subst hoff
  cases hq : P.info? t with
  | none => simp [hq] at hi
  | some j =>
    have hj : j.size = Enc.size α := by simpa [hq] using hi
    unfold Oper.wp execOp
    simp only [ho]
    simp [had, Instr.storeAt, Instr.sureAddr, storeVar, sizeOf, typeInfo, hq, hj, hsz, hx, hst]
    exact hK _ h1 h2
end
/-- block g holds a row of slices, each a row of the call's own (blocks from base on), no two in one block -/
structure RowsW {α : Type} [Enc α] (w : World) (base g : Nat) (to ti : TypeId) (L : List (SV α)) : Prop where
  out : Own w base to (.slice (some ⟨g, 0, none⟩) L.length L.length) (L.map SV.vv)
  own : ∀ x ∈ L, Own w base ti x.v x.l
  apart : L.Pairwise fun x y => ∀ b, x.v.ownBlock = some b → y.v.ownBlock ≠ some b
  off : ∀ x ∈ L, x.v.ownBlock ≠ some g
section
variable {α : Type} [Enc α] {w w' : World} {base g : Nat} {to ti : TypeId} {L : List (SV α)}
theorem RowsW.later (h : RowsW w base g to ti L) (hb : Below w.heap.size w w') : RowsW w' base g to ti L := ⟨h.out.later hb, fun x hx => (h.own x hx).later hb, h.apart, h.off⟩
theorem RowsW.lt (h : RowsW w base g to ti L) : base ≤ g ∧ g < w.heap.size := h.out.base_le
theorem RowsW.get (h : RowsW w base g to ti L) {s : Nat} (hs : s < L.length) : w.cell? ⟨g, s, none⟩ = some L[s].v := by
  have := h.out.vv_at (k := s) (by rw [List.length_map]; exact hs)
  rw [List.getElem_map] at this
  exact this
/-- one of the rows has grown and its new value is stored -/
theorem RowsW.grow {w1 w2 : World} (h : RowsW w base g to ti L) {s : Nat} (hs : s < L.length) {x' : SV α} (hx : Own w1 base ti x'.v x'.l) (hg : w.grownBy w1 L[s].v.ownBlock) (hat : x'.v.ownBlock = L[s].v.ownBlock ∨ ∃ b, x'.v.ownBlock = some b ∧ w.heap.size ≤ b)
    (hok : ∀ W S x, x ∈ L → (∀ b, b < base → S b) → (Below base w W) → ∀ y ∈ x.l, Enc.ok W S y) (hok' : ∀ y ∈ x'.l, ∀ W S, (∀ b, b < base → S b) → (Below base w W) → Enc.ok W S y)
    (hO : Own w2 base to (.slice (some ⟨g, 0, none⟩) L.length L.length) ((L.map SV.vv).set s x'.vv)) (hg2 : w1.grownBy w2 (some g)) (hbw : base ≤ w.heap.size) : RowsW w2 base g to ti (L.set s x') := by
  have hlt := h.lt
  have hsb : ∀ b, L[s].v.ownBlock = some b → base ≤ b ∧ b < w.heap.size := fun b e => (h.own _ (List.getElem_mem hs)).1.lt b e
  have hb1 : Below base w w1 := below_of_grown hg hbw fun b e => (hsb b e).1
  have hb2 : Below base w w2 := hb1.trans (below_of_grown hg2 (Nat.le_trans hbw hg.size) fun b e => by injection e with e; omega)
  have hxne : x'.v.ownBlock ≠ some g := by
    rcases hat with e | ⟨b, e, hb⟩
    · rw [e]; exact h.off _ (List.getElem_mem hs)
    · rw [e]; intro e2; injection e2 with e2; omega
  have hx2 : Own w2 base ti x'.v x'.l := by
    refine hx.grown hg2 (.inr hxne) fun y hy => hok' y hy w1 _ (fun b hb => ⟨by have := hg.size; omega, fun e => ?_, fun e => ?_⟩) hb1
    · have := (hx.1.lt b e.symm).1; omega
    · injection e with e; omega
  have hap := h.apart
  rw [List.pairwise_iff_getElem] at hap
  have hoth : ∀ (i : Nat) (hi : i < L.length), i ≠ s → ∀ b, L[i].v.ownBlock = some b → L[s].v.ownBlock ≠ some b := fun i hi hne b e => by
    rcases Nat.lt_or_gt_of_ne hne with hl | hl
    · exact hap i s hi hs hl b e
    · intro e2; exact hap s i hs hi hl b e2 e
  have hi2 : ∀ (i : Nat) (hi : i < L.length), i ≠ s → Own w2 base ti L[i].v L[i].l := fun i hi hne => by
    have ho := h.own _ (List.getElem_mem hi)
    have hr : L[i].v.ownBlock = none ∨ L[i].v.ownBlock ≠ L[s].v.ownBlock := by
      cases hv : L[i].v.ownBlock with
      | none => exact .inl rfl
      | some b => exact .inr fun e => hoth i hi hne b hv e.symm
    have h1 : Own w1 base ti L[i].v L[i].l := ho.grown hg hr fun y hy => hok w _ _ (List.getElem_mem hi) (fun b hb => ⟨by omega, fun e => by have := (ho.1.lt b e.symm).1; omega, fun e => by have := (hsb b e.symm).1; omega⟩) (Below.refl _ _) y hy
    refine h1.grown hg2 (.inr (h.off _ (List.getElem_mem hi))) fun y hy => hok w1 _ _ (List.getElem_mem hi) (fun b hb => ⟨by have := hg.size; omega, fun e => by have := (ho.1.lt b e.symm).1; omega, fun e => by injection e with e; omega⟩) hb1 y hy
  have hnew : ∀ (i : Nat) (hi : i < L.length), i ≠ s → ∀ b, L[i].v.ownBlock = some b → x'.v.ownBlock ≠ some b := fun i hi hne b e e2 => by
    rcases hat with e3 | ⟨c, e3, hc⟩
    · exact hoth i hi hne b e (e3.symm.trans e2)
    · rw [e3] at e2
      injection e2 with e2
      have := ((h.own _ (List.getElem_mem hi)).1.lt b e).2
      omega
  have hset : (L.set s x').length = L.length := List.length_set
  refine ⟨by rw [hset, List.map_set]; exact hO, fun x hx => ?_, ?_, fun x hx => ?_⟩
  · obtain ⟨i, hi, rfl⟩ := List.getElem_of_mem hx
    rw [hset] at hi
    rw [List.getElem_set]
    split
    · exact hx2
    · rename_i hne; exact hi2 i hi (fun e => hne e.symm)
  · rw [List.pairwise_iff_getElem]
    intro i j hi hj hij b
    rw [hset] at hi hj
    rw [List.getElem_set, List.getElem_set]
    split
    · rename_i e; subst e
      rw [if_neg (by omega)]
      intro e1 e2
      exact hnew j hj (by omega) b e2 e1
    · rename_i hne
      split
      · rename_i e; subst e
        exact fun e1 => hnew i hi (by omega) b e1
      · exact hap i j hi hj hij b
  · obtain ⟨i, hi, rfl⟩ := List.getElem_of_mem hx
    rw [hset] at hi
    rw [List.getElem_set]
    split
    · exact hxne
    · exact h.off _ (List.getElem_mem hi)
/-- read as a whole -/
theorem RowsW.whole (h : RowsW w base g to ti L) (hok : ∀ x ∈ L, ∀ y ∈ x.l, Enc.ok w (Oth w (.slice (some ⟨g, 0, none⟩) L.length L.length)) y) : Own w base to (.slice (some ⟨g, 0, none⟩) L.length L.length) L := by
  refine h.out.of_vv fun x hx => ?_
  obtain ⟨A, c, hv, hs⟩ := (h.own x hx).sl_in (S := Oth w (.slice (some ⟨g, 0, none⟩) L.length L.length)) (fun b e => ⟨((h.own x hx).1.lt b e).2, fun e2 => h.off x hx (e.trans e2)⟩) (hok x hx)
  injection hv with h1 h2 h3
  subst h1 h3
  exact hs
/-- one of the rows is turned in place -/
theorem RowsW.turn {w1 : World} (h : RowsW w base g to ti L) {s : Nat} (hs : s < L.length) {l' : List α} (hlen : l'.length = L[s].l.length) (hx : Own w1 base ti L[s].v l') (hg : w.grownBy w1 L[s].v.ownBlock)
    (hok : ∀ W S x, x ∈ L → (∀ b, b < base → S b) → (Below base w W) → ∀ y ∈ x.l, Enc.ok W S y) (hbw : base ≤ w.heap.size) : RowsW w1 base g to ti (L.set s ⟨L[s].a, L[s].c, l'⟩) := by
  have hsb : ∀ b, L[s].v.ownBlock = some b → base ≤ b ∧ b < w.heap.size := fun b e => (h.own _ (List.getElem_mem hs)).1.lt b e
  have hap := h.apart
  rw [List.pairwise_iff_getElem] at hap
  have hoth : ∀ (i : Nat) (hi : i < L.length), i ≠ s → ∀ b, L[i].v.ownBlock = some b → L[s].v.ownBlock ≠ some b := fun i hi hne b e => by
    rcases Nat.lt_or_gt_of_ne hne with hl | hl
    · exact hap i s hi hs hl b e
    · intro e2; exact hap s i hs hi hl b e2 e
  have hi1 : ∀ (i : Nat) (hi : i < L.length), i ≠ s → Own w1 base ti L[i].v L[i].l := fun i hi hne => by
    have ho := h.own _ (List.getElem_mem hi)
    have hr : L[i].v.ownBlock = none ∨ L[i].v.ownBlock ≠ L[s].v.ownBlock := by
      cases hv : L[i].v.ownBlock with
      | none => exact .inl rfl
      | some b => exact .inr fun e => hoth i hi hne b hv e.symm
    exact ho.grown hg hr fun y hy => hok w _ _ (List.getElem_mem hi) (fun b hb => ⟨by omega, fun e => by have := (ho.1.lt b e.symm).1; omega, fun e => by have := (hsb b e.symm).1; omega⟩) (Below.refl _ _) y hy
  have hset : (L.set s (⟨L[s].a, L[s].c, l'⟩ : SV α)).length = L.length := List.length_set
  have hvv : (⟨L[s].a, L[s].c, l'⟩ : SV α).v = L[s].v := by show Value.slice _ l'.length _ = _; rw [hlen]
  have hmap : (L.set s (⟨L[s].a, L[s].c, l'⟩ : SV α)).map SV.vv = L.map SV.vv := by
    rw [List.map_set]
    have : (⟨L[s].a, L[s].c, l'⟩ : SV α).vv = (L.map SV.vv)[s]'(by rw [List.length_map]; exact hs) := by
      rw [List.getElem_map]
      unfold SV.vv
      congr 1
    rw [this, List.set_getElem_self]
  refine ⟨by rw [hset, hmap]; exact h.out.grown hg (.inr (fun e => h.off _ (List.getElem_mem hs) e.symm)) (fun _ _ => trivial), fun x hx' => ?_, ?_, fun x hx' => ?_⟩
  · obtain ⟨i, hi, rfl⟩ := List.getElem_of_mem hx'
    rw [hset] at hi
    rw [List.getElem_set]
    split
    · rw [hvv]; exact hx
    · rename_i hne; exact hi1 i hi (fun e => hne e.symm)
  · rw [List.pairwise_iff_getElem]
    intro i j hi hj hij b
    rw [hset] at hi hj
    rw [List.getElem_set, List.getElem_set]
    split
    · rename_i e; subst e
      rw [if_neg (by omega), hvv]
      exact hap s j hs hj hij b
    · split
      · rename_i e; subst e
        rw [hvv]
        exact hap i s hi hs hij b
      · exact hap i j hi hj hij b
  · obtain ⟨i, hi, rfl⟩ := List.getElem_of_mem hx'
    rw [hset] at hi
    rw [List.getElem_set]
    split
    · rw [hvv]; exact h.off _ (List.getElem_mem hs)
    · exact h.off _ (List.getElem_mem hi)
end
end Go.Proofs.YtgholbeehkfbiaaGreat

/- a literal of one order, as one operation of a drawn region -/
namespace Go.Proofs.YtgholbeehkfbiaaGreat
open Go.RowKit
theorem oper_lit_od {o : Oper} {a : Act} {w : World} {K : Act → World → Prop} {Q : Exit → Act → World → Prop} (n : Nat) (ho : o.op = .buildSlice 22 1 #[(0, .tmp n)]) (z : Od) (hx : a.tmps[n]?.getD undef = .agg #[i64 z.client, i64 z.seq, i64 z.kind, .string z.acct, .string z.peer, i64 z.sum, .slice z.la z.legs.length z.lc, i64 z.period, i64 z.hold, .string z.note])
    (hK : K (a.put o.dst (.slice (some ⟨w.heap.size, 0, none⟩) 1 1)) (w.alloc (.cells #[i64 z.client, i64 z.seq, i64 z.kind, .string z.acct, .string z.peer, i64 z.sum, .slice z.la z.legs.length z.lc, i64 z.period, i64 z.hold, .string z.note] 37))) : Oper.wp Tryz.prog o a w K Q := by
  obtain ⟨d, op, t, ps, af, gd⟩ := o
  dsimp only at ho hK
  subst ho
  go_simp
  exact hK
theorem oper_assign {P : Program} {o : Oper} {a : Act} {w : World} {K : Act → World → Prop} {Q : Exit → Act → World → Prop} (x : Operand) (ho : o.op = .assign x) (v : Value) (hx : a.eval x = v)
    (hK : K (a.put o.dst v) w) : Oper.wp P o a w K Q := by
  obtain ⟨d, op, t, ps, af, gd⟩ := o
  dsimp only at ho hK
  subst ho hx
  unfold Oper.wp execOp
  simp only [Sem.run_pure]
  exact hK
end Go.Proofs.YtgholbeehkfbiaaGreat

/- calls, as one operation of a drawn region -/
namespace Go.Proofs.YtgholbeehkfbiaaGreat
open Go.RowKit
theorem oper_call1 {P : Program} {o : Oper} {a : Act} {w : World} {K : Act → World → Prop} {Q : Exit → Act → World → Prop} (f n : Nat) (ts : Array TypeId) (ho : o.op = .call { callee := .value (.func f), args := #[.tmp n], argTypes := ts }) (v : Value) (hx : a.tmps[n]?.getD undef = v)
    (ek : ∀ args w, (callFunc f args).run P w = .ok (.enter f args) w) (h : Calls P f #[v] w fun e w' => ∃ r, e = .returned r ∧ K (a.put o.dst r) w') : Oper.wp P o a w K Q := by
  obtain ⟨d, op, t, ps, af, gd⟩ := o
  dsimp only at ho h
  subst ho
  go_simp
  exact h.mono (by rintro e w' ⟨r, rfl, h2⟩; exact h2)
theorem oper_call1k {P : Program} {o : Oper} {a : Act} {w : World} {K : Act → World → Prop} {Q : Exit → Act → World → Prop} (f n : Nat) (z : Value) (ts : Array TypeId) (ho : o.op = .call { callee := .value (.func f), args := #[.tmp n, .const z], argTypes := ts }) (v : Value) (hx : a.tmps[n]?.getD undef = v)
    (ek : ∀ args w, (callFunc f args).run P w = .ok (.enter f args) w) (h : Calls P f #[v, z] w fun e w' => ∃ r, e = .returned r ∧ K (a.put o.dst r) w') : Oper.wp P o a w K Q := by
  obtain ⟨d, op, t, ps, af, gd⟩ := o
  dsimp only at ho h
  subst ho
  go_simp
  exact h.mono (by rintro e w' ⟨r, rfl, h2⟩; exact h2)
theorem oper_call2 {P : Program} {o : Oper} {a : Act} {w : World} {K : Act → World → Prop} {Q : Exit → Act → World → Prop} (f n m : Nat) (ts : Array TypeId) (ho : o.op = .call { callee := .value (.func f), args := #[.tmp n, .tmp m], argTypes := ts }) (v u : Value) (hx : a.tmps[n]?.getD undef = v) (hy : a.tmps[m]?.getD undef = u)
    (ek : ∀ args w, (callFunc f args).run P w = .ok (.enter f args) w) (h : Calls P f #[v, u] w fun e w' => ∃ r, e = .returned r ∧ K (a.put o.dst r) w') : Oper.wp P o a w K Q := by
  obtain ⟨d, op, t, ps, af, gd⟩ := o
  dsimp only at ho h
  subst ho
  go_simp
  exact h.mono (by rintro e w' ⟨r, rfl, h2⟩; exact h2)
end Go.Proofs.YtgholbeehkfbiaaGreat

/- not, as one operation of a drawn region -/
namespace Go.Proofs.YtgholbeehkfbiaaGreat
open Go.RowKit
theorem oper_not {P : Program} {o : Oper} {a : Act} {w : World} {K : Act → World → Prop} {Q : Exit → Act → World → Prop} (n : Nat) (t : TypeId) (ho : o.op = .unOp .not t (.tmp n)) (b : Bool) (hx : a.tmps[n]?.getD undef = .bool b)
    (hK : K (a.put o.dst (.bool (!b))) w) : Oper.wp P o a w K Q := by
  obtain ⟨d, op, t, ps, af, gd⟩ := o
  dsimp only at ho hK
  subst ho
  go_simp
  exact hK
end Go.Proofs.YtgholbeehkfbiaaGreat

/- rows and maps under a frame of many blocks -/
namespace Go.Proofs.YtgholbeehkfbiaaGreat
open Go.RowKit
theorem Own.sl_at {α : Type} [Enc α] {w : World} {base : Nat} {e : TypeId} {v : Value} {l : List α} {S : Nat → Prop} (h : Own w base e v l) (hb : ∀ b, v.ownBlock = some b → S b) (hx : ∀ x ∈ l, Enc.ok w S x) : ∃ A c, v = .slice A l.length c ∧ SlS w S A c l := by
  obtain ⟨⟨h1, h2⟩, h3⟩ := h
  rcases h2 with ⟨rfl, h0⟩ | ⟨g, cap, cur, rfl, hg, hh, hn, hm, hz, ht⟩
  · have : l = [] := List.length_eq_zero_iff.1 h0
    subst this
    exact ⟨none, 0, rfl, SlS.nil_ _ _⟩
  · refine ⟨_, _, rfl, hn, hm, fun _ => ⟨g, 0, rfl, hb g rfl, fun j u hu => ?_⟩, hx⟩
    rw [cell_of_row w g (0 + j) cur e (0, 0) hh, Nat.zero_add]
    rw [← ht, List.getElem?_take] at hu
    split at hu
    · rw [← hu]; simp
    · cases hu
theorem MapIs.gr {κ : Type} [DecidableEq κ] {enc : κ → Value} {w w' : World} {b : Nat} {M : List (κ × Value)} {S : Nat → Prop} (h : MapIs enc w b M) (hg : Gr w w' S) (hb : ¬ S b) : MapIs enc w' b M := by
  have hl := h.lt
  obtain ⟨es, cl, h1, h2, h3, h4, h5⟩ := h
  exact ⟨es, cl, by rw [hg.block b hl hb]; exact h1, h2, h3, h4, h5⟩
theorem mem_putM {κ ν : Type} [DecidableEq κ] {M : List (κ × ν)} {k : κ} {v : ν} {p : κ × ν} (h : p ∈ putM M k v) : p = (k, v) ∨ (p ∈ M ∧ p.1 ≠ k) := by
  unfold putM at h
  split at h
  · obtain ⟨q, hq, rfl⟩ := List.mem_map.1 h
    by_cases e : q.1 = k
    · rw [if_pos e]; exact .inl rfl
    · rw [if_neg e]; exact .inr ⟨hq, e⟩
  · rename_i hn
    rcases List.mem_append.1 h with h | h
    · refine .inr ⟨h, fun e => hn ?_⟩
      rw [List.any_eq_true]
      exact ⟨p, h, decide_eq_true e⟩
    · exact .inl (List.mem_singleton.1 h)
theorem getM_in {κ ν : Type} [DecidableEq κ] {M : List (κ × ν)} {k : κ} {v : ν} (h : getM M k = some v) : (k, v) ∈ M := by
  unfold getM at h
  cases hf : M.find? (fun p => decide (p.1 = k)) with
  | none => rw [hf] at h; cases h
  | some p =>
    rw [hf] at h
    have h1 := List.find?_some hf
    have h2 := List.mem_of_find?_eq_some hf
    obtain ⟨a, b⟩ := p
    have h3 : a = k := by simpa using h1
    have h4 : b = v := by simpa using h
    rw [← h3, ← h4]; exact h2
/-- what reads as cells is no map's block -/
theorem SlS.off_map {α κ : Type} [Enc α] {enc : κ → Value} {w : World} {S : Nat → Prop} {A : Option Addr} {c b : Nat} {l : List α} {M : List (κ × Value)} (h : SlS w S A c l) (hm : MapIs enc w b M) (hs : 0 < Enc.size α) (hx : ∀ x ∈ l, Enc.ok w (fun k => S k ∧ k ≠ b) x) : SlS w (fun k => S k ∧ k ≠ b) A c l := by
  obtain ⟨h1, h2, h3, _⟩ := h
  refine ⟨h1, h2, fun hn => ?_, hx⟩
  obtain ⟨b1, o, e, hb, hc⟩ := h3 hn
  refine ⟨b1, o, e, ⟨hb, fun e2 => ?_⟩, hc⟩
  have hlen : 0 < (l.flatMap Enc.cells).length := by rw [flat_len]; exact Nat.mul_pos hn hs
  have h0 := hc 0 _ (List.getElem?_eq_getElem hlen)
  obtain ⟨es, cl, hh, _⟩ := hm
  subst e2
  unfold World.cell? at h0
  simp [hh] at h0
end Go.Proofs.YtgholbeehkfbiaaGreat

/- Stable merging of lists: what splits, and that it is associative. No program. -/
namespace Go.Proofs.YtgholbeehkfbiaaGreat
section
variable {α : Type} {lt : α → α → Bool}
/-- two lists laid together; of two that stand alike the first list's goes ahead -/
def mrg (lt : α → α → Bool) : List α → List α → List α
  | [], V => V
  | u :: U, [] => u :: U
  | u :: U, v :: V => if lt v u = true then v :: mrg lt (u :: U) V else u :: mrg lt U (v :: V)
termination_by U V => U.length + V.length
theorem mrg_nil (V : List α) : mrg lt [] V = V := by unfold mrg; rfl
theorem mrg_nil2 : ∀ U : List α, mrg lt U [] = U
  | [] => mrg_nil []
  | u :: U => by unfold mrg; rfl
theorem mrg_r {u v : α} (h : lt v u = true) (U V : List α) : mrg lt (u :: U) (v :: V) = v :: mrg lt (u :: U) V := by rw [mrg, if_pos h]
theorem mrg_l {u v : α} (h : lt v u = false) (U V : List α) : mrg lt (u :: U) (v :: V) = u :: mrg lt U (v :: V) := by rw [mrg, if_neg (by rw [h]; decide)]
theorem mrg_perm : ∀ (U V : List α), (mrg lt U V).Perm (U ++ V)
  | [], V => by rw [mrg_nil]; exact .refl _
  | u :: U, [] => by rw [mrg_nil2]; simp
  | u :: U, v :: V => by
    cases h : lt v u with
    | true =>
      rw [mrg_r h]
      refine ((mrg_perm (u :: U) V).cons v).trans ?_
      have := (List.perm_middle (a := v) (l₁ := u :: U) (l₂ := V)).symm
      exact this
    | false =>
      rw [mrg_l h]
      exact (mrg_perm U (v :: V)).cons u
termination_by U V => U.length + V.length
theorem mrg_len (U V : List α) : (mrg lt U V).length = U.length + V.length := by rw [(mrg_perm U V).length_eq, List.length_append]
/-- parted where the one half stands ahead of the other -/
theorem mrg_split : ∀ (U1 V1 U2 V2 : List α), (∀ x ∈ U1, ∀ y ∈ V2, lt y x = false) → (∀ v ∈ V1, ∀ u ∈ U2, lt v u = true) → mrg lt (U1 ++ U2) (V1 ++ V2) = mrg lt U1 V1 ++ mrg lt U2 V2
  | [], [], U2, V2, _, _ => by rw [mrg_nil]; rfl
  | u :: U1, [], U2, V2, h1, h2 => by
    rw [mrg_nil2, List.nil_append]
    have ih := mrg_split U1 [] U2 V2 (fun x hx => h1 x (List.mem_cons_of_mem _ hx)) h2
    rw [mrg_nil2, List.nil_append] at ih
    cases V2 with
    | nil => rw [mrg_nil2, mrg_nil2]
    | cons y Y =>
      rw [List.cons_append, mrg_l (h1 u (List.mem_cons_self ..) y (List.mem_cons_self ..)), ih]
      rfl
  | [], v :: V1, U2, V2, h1, h2 => by
    rw [mrg_nil, List.nil_append]
    have ih := mrg_split [] V1 U2 V2 h1 (fun x hx => h2 x (List.mem_cons_of_mem _ hx))
    rw [mrg_nil, List.nil_append] at ih
    cases U2 with
    | nil => rw [mrg_nil, mrg_nil]
    | cons u U =>
      rw [List.cons_append, mrg_r (h2 v (List.mem_cons_self ..) u (List.mem_cons_self ..)), ih]
      rfl
  | u :: U1, v :: V1, U2, V2, h1, h2 => by
    cases h : lt v u with
    | true =>
      rw [mrg_r h, List.cons_append, List.cons_append, mrg_r h]
      have ih := mrg_split (u :: U1) V1 U2 V2 h1 (fun x hx => h2 x (List.mem_cons_of_mem _ hx))
      rw [List.cons_append] at ih
      rw [ih]; rfl
    | false =>
      rw [mrg_l h, List.cons_append, List.cons_append, mrg_l h]
      have ih := mrg_split U1 (v :: V1) U2 V2 (fun x hx => h1 x (List.mem_cons_of_mem _ hx)) h2
      rw [List.cons_append] at ih
      rw [ih]; rfl
termination_by U1 V1 => U1.length + V1.length
theorem mrg_one : ∀ (x : α) (L : List α), mrg lt [x] L = insB lt x L
  | x, [] => by rw [mrg_nil2]; rfl
  | x, y :: L => by
    unfold insB
    by_cases h : lt y x = true
    · rw [mrg_r h, if_pos h, mrg_one x L]
    · rw [mrg_l (by simpa using h), if_neg h, mrg_nil]
theorem mrg_assoc (S : Strict lt) : ∀ (U V W : List α), mrg lt U (mrg lt V W) = mrg lt (mrg lt U V) W
  | [], V, W => by rw [mrg_nil, mrg_nil]
  | u :: U, [], W => by rw [mrg_nil, mrg_nil2]
  | u :: U, v :: V, [] => by rw [mrg_nil2, mrg_nil2]
  | u :: U, v :: V, w :: W => by
    cases hwv : lt w v with
    | true =>
      rw [mrg_r hwv]
      cases hvu : lt v u with
      | true =>
        rw [mrg_r hvu, mrg_r hwv]
        have hwu := S.trans _ _ _ hwv hvu
        rw [mrg_r hwu, mrg_assoc S (u :: U) (v :: V) W, mrg_r hvu]
      | false =>
        rw [mrg_l hvu]
        cases hwu : lt w u with
        | true => rw [mrg_r hwu, mrg_r hwu, mrg_assoc S (u :: U) (v :: V) W, mrg_l hvu]
        | false =>
          rw [mrg_l hwu, mrg_l hwu]
          have := mrg_assoc S U (v :: V) (w :: W)
          rw [mrg_r hwv] at this
          rw [this]
    | false =>
      rw [mrg_l hwv]
      cases hvu : lt v u with
      | true =>
        rw [mrg_r hvu, mrg_r hvu, mrg_l hwv, mrg_assoc S (u :: U) V (w :: W)]
      | false =>
        have hwu : lt w u = false := S.co _ _ _ hwv hvu
        rw [mrg_l hvu, mrg_l hvu, mrg_l hwu]
        have := mrg_assoc S U (v :: V) (w :: W)
        rw [mrg_l hwv] at this
        rw [this]
termination_by U V W => U.length + V.length + W.length
/-- a list sorted in two parts, laid together -/
theorem sortB_app (S : Strict lt) : ∀ (l m : List α), sortB lt (l ++ m) = mrg lt (sortB lt l) (sortB lt m)
  | [], m => by show _ = mrg lt [] _; rw [mrg_nil]; rfl
  | x :: l, m => by
    show insB lt x (sortB lt (l ++ m)) = mrg lt (insB lt x (sortB lt l)) _
    rw [sortB_app S l m, ← mrg_one, ← mrg_one, mrg_assoc S]
theorem sortB_snoc (S : Strict lt) (l : List α) (x : α) : sortB lt (l ++ [x]) = mrg lt (sortB lt l) [x] := sortB_app S l [x]
/-- one more, from the right -/
theorem mrg_right {U1 U2 : List α} {x : α} (h1 : ∀ y ∈ U1, lt x y = false) (h2 : ∀ y ∈ U2, lt x y = true) : mrg lt (U1 ++ U2) [x] = U1 ++ x :: U2 := by
  have e1 := mrg_split (lt := lt) U1 [x] U2 [] (fun _ _ _ h => by cases h) (fun v hv u hu => by rw [List.mem_singleton.1 hv]; exact h2 u hu)
  have e2 := mrg_split (lt := lt) U1 [] [] [x] (fun y hy z hz => by rw [List.mem_singleton.1 hz]; exact h1 y hy) (fun _ h => by cases h)
  rw [List.append_nil, List.nil_append, mrg_nil2, mrg_nil] at e2
  rw [List.append_nil, mrg_nil2, e2] at e1
  rw [e1]; simp
/-- one ahead, from the left -/
theorem mrg_left {V1 V2 : List α} {x : α} (h1 : ∀ y ∈ V1, lt y x = true) (h2 : ∀ y, V2.head? = some y → lt y x = false) : mrg lt [x] (V1 ++ V2) = V1 ++ x :: V2 := by
  have e1 := mrg_split (lt := lt) [] V1 [x] V2 (fun _ h => by cases h) (fun v hv u hu => by rw [List.mem_singleton.1 hu]; exact h1 v hv)
  rw [List.nil_append, mrg_nil] at e1
  rw [e1]
  congr 1
  cases V2 with
  | nil => rw [mrg_nil2]
  | cons y Y => rw [mrg_l (h2 y rfl), mrg_nil]
end
end Go.Proofs.YtgholbeehkfbiaaGreat

/- a store of one cell into a block whose cells are told -/
namespace Go.Proofs.YtgholbeehkfbiaaGreat
open Go.RowKit
section
variable {w : World} {e : TypeId}
/-- a store of one cell into a block of the call's own -/
theorem wpList_store_arr {P : Program} {ops : Array Oper} {rest : List Oper} {o : Oper} {a : Act} {Q : Exit → Act → World → Prop} (hgd : o.guard = none) (d : Option Nat) (ad x : Operand) (t : TypeId) (ho : o.op = .store t ad x) (hd : o.dst = d)
    (hi : (P.info? t).map (·.size) = some 1) (g off : Nat) (cur : Array Value) (v : Value) (hg : w.heap[g]? = some (.cells cur e (0, 0))) (hil : off < cur.size)
    (had : a.eval ad = .pointer (some ⟨g, off, none⟩)) (hx : (a.eval x).cells.toList = [v]) (hv : v.oneCell' = true)
    (hK : ∀ w', w'.heap[g]? = some (.cells (cur.setIfInBounds off v) e (0, 0)) → w.grownBy w' (some g) → wpList P ops Q rest (a.put d undef) w') : wpList P ops Q (o :: rest) a w := by
  have hsz : (a.eval x).cells.size = 1 := by rw [← Array.length_toList, hx]; rfl
  have hst := run_storeCells_at P g off e [v] 0 cur w hg (by simp; omega) (by simpa using hv)
  have hset := setCells_row g e [v] off cur w hg (by simp; omega)
  rw [World.setCells, World.setCells] at hset
  rw [Nat.add_zero] at hst
  have h1 := heap_setCell_same w g off cur e v hg
  have h2 := grown_setCell (g := g) (World.grownBy.refl w (some g)) (p := ⟨g, off, none⟩) (.inl rfl) v
  subst hd
  refine wpList_plain hgd fun K hk => ?_
  cases hq : P.info? t with
  | none => simp [hq] at hi
  | some j =>
    have hj : j.size = 1 := by simpa [hq] using hi
    unfold Oper.wp execOp
    simp only [ho]
    simp [had, Instr.storeAt, Instr.sureAddr, storeVar, sizeOf, typeInfo, hq, hj, hsz, hx, hst]
    simp only [List.length_singleton, List.append_assoc] at hset
    refine hk _ _ (hK _ ?_ ?_)
    · simpa [hset] using h1
    · simpa [hset] using h2
theorem oper_store_arr {P : Program} {o : Oper} {a : Act} {K : Act → World → Prop} {Q : Exit → Act → World → Prop} (ad x : Operand) (t : TypeId) (ho : o.op = .store t ad x)
    (hi : (P.info? t).map (·.size) = some 1) (g off : Nat) (cur : Array Value) (v : Value) (hg : w.heap[g]? = some (.cells cur e (0, 0))) (hil : off < cur.size)
    (had : a.eval ad = .pointer (some ⟨g, off, none⟩)) (hx : (a.eval x).cells.toList = [v]) (hv : v.oneCell' = true)
    (hK : ∀ w', w'.heap[g]? = some (.cells (cur.setIfInBounds off v) e (0, 0)) → w.grownBy w' (some g) → K (a.put o.dst undef) w') : Oper.wp P o a w K Q := by
  have hsz : (a.eval x).cells.size = 1 := by rw [← Array.length_toList, hx]; rfl
  have hst := run_storeCells_at P g off e [v] 0 cur w hg (by simp; omega) (by simpa using hv)
  have hset := setCells_row g e [v] off cur w hg (by simp; omega)
  rw [World.setCells, World.setCells] at hset
  rw [Nat.add_zero] at hst
  have h1 := heap_setCell_same w g off cur e v hg
  have h2 := grown_setCell (g := g) (World.grownBy.refl w (some g)) (p := ⟨g, off, none⟩) (.inl rfl) v
  cases hq : P.info? t with
  | none => simp [hq] at hi
  | some j =>
    have hj : j.size = 1 := by simpa [hq] using hi
    unfold Oper.wp execOp
    simp only [ho]
    simp [had, Instr.storeAt, Instr.sureAddr, storeVar, sizeOf, typeInfo, hq, hj, hsz, hx, hst]
    simp only [List.length_singleton, List.append_assoc] at hset
    refine hK _ ?_ ?_
    · simpa [hset] using h1
    · simpa [hset] using h2
end
end Go.Proofs.YtgholbeehkfbiaaGreat

/- a store of an element's first cells -/
namespace Go.Proofs.YtgholbeehkfbiaaGreat
open Go.RowKit
section
variable {α : Type} [Enc α] {w : World} {base : Nat} {e : TypeId} {l : List α}
theorem flat_seg (l : List α) (i : Nat) (hi : i < l.length) (C : List Value) : (l.flatMap Enc.cells ++ C).drop (i * Enc.size α) = Enc.cells l[i] ++ (l.flatMap Enc.cells ++ C).drop (i * Enc.size α + Enc.size α) := by
  have e1 : l.flatMap Enc.cells = (l.take i).flatMap Enc.cells ++ (Enc.cells l[i] ++ (l.drop (i + 1)).flatMap Enc.cells) := by
    conv => lhs; rw [← List.take_append_drop i l, List.flatMap_append, List.drop_eq_getElem_cons hi, List.flatMap_cons]
  have hA : ((l.take i).flatMap Enc.cells).length = i * Enc.size α := by rw [flat_len, List.length_take]; congr 1; omega
  rw [e1, List.append_assoc, List.append_assoc]
  generalize (l.take i).flatMap Enc.cells = A at *
  generalize (l.drop (i + 1)).flatMap Enc.cells = B at *
  rw [← hA, List.drop_left, ← List.drop_drop, List.drop_left]
  have hc := Enc.len l[i]
  generalize Enc.cells l[i] = D at *
  rw [← hc, List.drop_left]
/-- a store into the first m cells of an element of the row, for the walk -/
theorem wpList_store_head {P : Program} {ops : Array Oper} {rest : List Oper} {o : Oper} {a : Act} {Q : Exit → Act → World → Prop} (hgd : o.guard = none) (d : Option Nat) (ad x : Operand) (t : TypeId) (ho : o.op = .store t ad x) (hd : o.dst = d) (m : Nat) (hm : m ≤ Enc.size α)
    (hi : (P.info? t).map (·.size) = some m) (g n cap i off : Nat) (u : α) (h : Own w base e (.slice (some ⟨g, 0, none⟩) n cap) l) (hil : i < l.length)
    (had : a.eval ad = .pointer (some ⟨g, off, none⟩)) (hoff : off = i * Enc.size α) (hx : (a.eval x).cells.toList = (Enc.cells u).take m) (hsame : (Enc.cells u).drop m = (Enc.cells l[i]).drop m) (hu : Enc.ok w (Oth w (.slice (some ⟨g, 0, none⟩) n cap)) u)
    (hK : ∀ w', Own w' base e (.slice (some ⟨g, 0, none⟩) n cap) (l.set i u) → w.grownBy w' (some g) → wpList P ops Q rest (a.put d undef) w') : wpList P ops Q (o :: rest) a w := by
  obtain ⟨cur, hg, hb, hn, hc, hmx, hz, ht⟩ := h.cells
  obtain ⟨h1, h2⟩ := h.put hg i hil u hu
  have hlu : ((Enc.cells u).take m).length = m := by rw [List.length_take, Enc.len]; omega
  have hsz : (a.eval x).cells.size = m := by rw [← Array.length_toList, hx, hlu]
  have hi2 : i * Enc.size α + Enc.size α ≤ n * Enc.size α := by rw [← Nat.succ_mul]; exact Nat.mul_le_mul_right _ (by omega)
  have hi3 : n * Enc.size α ≤ cap * Enc.size α := Nat.mul_le_mul_right _ hc
  have hst := run_storeCells_at P g (i * Enc.size α) e ((Enc.cells u).take m) 0 cur w hg (by rw [hlu]; omega) (fun v hv => Enc.one u v (List.mem_of_mem_take hv))
  rw [Nat.add_zero, hlu] at hst
  have hseg : cur.toList.drop (i * Enc.size α + m) = (Enc.cells u).drop m ++ cur.toList.drop (i * Enc.size α + Enc.size α) := by
    have hcur : cur.toList = l.flatMap Enc.cells ++ cur.toList.drop (n * Enc.size α) := by rw [← ht, List.take_append_drop]
    rw [hcur, ← List.drop_drop, flat_seg l i hil, hsame, List.drop_append_of_le_length (by rw [Enc.len]; exact hm)]
  have hrow : cur.toList.take (i * Enc.size α) ++ (Enc.cells u).take m ++ cur.toList.drop (i * Enc.size α + m) = cur.toList.take (i * Enc.size α) ++ Enc.cells u ++ cur.toList.drop (i * Enc.size α + Enc.size α) := by
    rw [hseg, List.append_assoc, ← List.append_assoc ((Enc.cells u).take m), List.take_append_drop, ← List.append_assoc]
  rw [List.append_assoc] at h1 h2 hrow
  rw [List.append_assoc] at hrow
  rw [← hrow] at h1 h2
  subst hd hoff
  refine wpList_plain hgd fun K hk => ?_
  cases hq : P.info? t with
  | none => simp [hq] at hi
  | some j =>
    have hj : j.size = m := by simpa [hq] using hi
    unfold Oper.wp execOp
    simp only [ho]
    simp [had, Instr.storeAt, Instr.sureAddr, storeVar, sizeOf, typeInfo, hq, hj, hsz, hx, hst]
    exact hk _ _ (hK _ h1 h2)
end
end Go.Proofs.YtgholbeehkfbiaaGreat

/- law09.BookWeighs: all accounts together have 0 (plain) -/
namespace Go.Proofs.YtgholbeehkfbiaaGreat
open Go.RowKit
/-- what all accounts together have -/
def havL (L : List Ac) : Int := (L.map Ac.hav).sum
theorem sum_setK (f : Ac → Int) {a b : Ac} (hb : b.name = a.name) : ∀ {L : List Ac}, L.Pairwise (fun x y => x.name ≠ y.name) → a ∈ L → ((setK Ac.name L b).map f).sum = (L.map f).sum - f a + f b
  | [], _, h => by cases h
  | x :: r, hp, h => by
    obtain ⟨h1, h2⟩ := List.pairwise_cons.1 hp
    rcases List.mem_cons.1 h with rfl | h
    · have e : setK Ac.name r b = r := by
        unfold setK
        have := List.map_congr_left (l := r) (f := fun x => if x.name = b.name then b else x) (g := id) (fun y hy => by
          show (if y.name = b.name then b else y) = y
          rw [if_neg (by rw [hb]; exact fun e => h1 y hy e.symm)])
        rw [this, List.map_id]
      have e2 : setK Ac.name (a :: r) b = b :: r := by
        show (if a.name = b.name then b else a) :: setK Ac.name r b = _
        rw [if_pos hb.symm, e]
      rw [e2]
      simp only [List.map_cons, List.sum_cons]
      omega
    · have e2 : setK Ac.name (x :: r) b = x :: setK Ac.name r b := by
        show (if x.name = b.name then b else x) :: setK Ac.name r b = _
        rw [if_neg (by rw [hb]; exact h1 a h)]
      rw [e2]
      simp only [List.map_cons, List.sum_cons]
      rw [sum_setK f hb h2 h]
      omega
theorem srt_apart {L : List Ac} (h : SrtL ltA L) : L.Pairwise (fun x y => x.name ≠ y.name) := h.imp fun h => keyA.ne _ _ h
theorem sumR_zero {n : Int} (h : (sumR n).2 = 0) : (sumR n).1 = n := by
  unfold sumR at *
  split
  · rename_i h1; rw [if_pos h1] at h; cases h
  · rfl
theorem turn_hav {L : List Ac} (hs : SrtL ltA L) (k : ByteArray) (x y : Int) (h : (turnL (givD y) L k x).1 = 0) : havL (turnL (givD y) L k x).2 = havL L - y := by
  rcases turnL_cases (givD y) L k x with ⟨e, _⟩ | ⟨_, a, hg, h0, _, _, e⟩
  · exact absurd h e
  · have ham := (getK_mem hg).1
    rw [e]
    unfold havL
    rw [sum_setK Ac.hav (a := a) (b := (givD y a).1) rfl (srt_apart hs) ham]
    have : (givD y a).1.hav = a.hav - y := sumR_zero h0
    omega
theorem turn_asi {L : List Ac} (hs : SrtL ltA L) (k : ByteArray) (x y : Int) : havL (turnL (asiD y) L k x).2 = havL L := by
  rcases turnL_cases (asiD y) L k x with ⟨_, e⟩ | ⟨_, a, hg, _, _, _, e⟩
  · rw [e]
  · have ham := (getK_mem hg).1
    rw [e]
    unfold havL
    rw [sum_setK Ac.hav (a := a) (b := (asiD y a).1) rfl (srt_apart hs) ham]
    have : (asiD y a).1.hav = a.hav := rfl
    omega
theorem post_hav {L : List Ac} (hs : SrtL ltA L) (x : Leg) (h : (postL L x).1 = 0) : havL (postL L x).2 = havL L + x.sum := by
  unfold postL at *
  split at h
  · rename_i h1; exact absurd h h1
  · rename_i h1
    rw [if_neg h1]
    split at h
    · rename_i h2; exact absurd h h2
    · rename_i h2
      rw [if_neg h2]
      rw [turn_hav hs _ _ _ h, sumR_zero (by simpa using h2)]
      omega
theorem all_hav : ∀ (l : List Leg) {L : List Ac}, SrtL ltA L → (allL L l).1 = 0 → havL (allL L l).2 = havL L + sumL (l.map Leg.sum)
  | [], L, _, _ => by show havL L = havL L + 0; omega
  | x :: r, L, hs, h => by
    unfold allL at *
    by_cases h1 : (postL L x).1 ≠ 0
    · rw [if_pos h1] at h
      exact absurd h h1
    · rw [if_neg h1] at h ⊢
      have h1 : (postL L x).1 = 0 := by simpa using h1
      rw [all_hav r (postL_ss hs x).2 h, post_hav hs x h1]
      show _ = havL L + (x.sum + sumL (r.map Leg.sum))
      omega
theorem make_hav {L : List Ac} (hs : SrtL ltA L) (l : List Leg) : havL (makeL L l).2 = havL L := by
  by_cases hc : checkL L l = 0
  · obtain ⟨e, h0⟩ := make_of_check hc
    rw [e] at h0 ⊢
    rw [all_hav l hs h0]
    have hw : weighB l = true := by
      unfold checkL at hc
      split at hc
      · cases hc
      · split at hc
        · cases hc
        · rename_i h2; simpa using h2
    unfold weighB at hw
    simp only [Bool.and_eq_true, decide_eq_true_eq] at hw
    have := sumR_zero hw.1
    omega
  · unfold makeL
    rw [if_pos hc]
theorem free_hav {L : List Ac} (hs : SrtL ltA L) (H : List Held) (k : ByteArray) (n : Int) : havL (freeHL L H k n).2.1 = havL L := by
  unfold freeHL
  cases getK Held.key H ⟨k, n⟩ with
  | none => rfl
  | some y => exact turn_asi hs _ _ _
theorem put_hav {L : List Ac} (hs : SrtL ltA L) (H : List Held) (x : Held) : havL (putH L H x).2.1 = havL L := by
  unfold putH
  split
  · rfl
  · split
    · rfl
    · split
      · rfl
      · exact turn_asi hs _ _ _
theorem free_srt {L : List Ac} (hs : SrtL ltA L) (H : List Held) (k : ByteArray) (n : Int) : SrtL ltA (freeHL L H k n).2.1 := by
  unfold freeHL
  cases getK Held.key H ⟨k, n⟩ with
  | none => exact hs
  | some y => exact turnL_srt hs _ _
theorem take_hav {L : List Ac} (hs : SrtL ltA L) (H : List Held) (k : ByteArray) (n : Int) (p : ByteArray) (s : Int) : havL (takeH L H k n p s).2.1 = havL L := by
  unfold takeH
  cases getK Held.key H ⟨k, n⟩ with
  | none => rfl
  | some y =>
    dsimp only
    split
    · rfl
    · split
      · rfl
      · split
        · rfl
        · rw [make_hav (free_srt hs H k n), free_hav hs]
theorem perm_sum {l m : List Int} (h : l.Perm m) : l.sum = m.sum := by
  induction h with
  | nil => rfl
  | cons x _ ih => simp only [List.sum_cons]; omega
  | swap x y l => simp only [List.sum_cons]; omega
  | trans _ _ h1 h2 => exact h1.trans h2
theorem open_hav (L : List Ac) (k : ByteArray) (lim : Int) : havL (openL L k lim).2 = havL L := by
  unfold openL
  split
  · rfl
  · split
    · rfl
    · split
      · rfl
      · unfold havL
        have h := perm_sum ((insB_perm (lt := ltA) (⟨k, 0, 0, lim⟩ : Ac) L).map Ac.hav)
        rw [h]
        rw [List.map_cons, List.sum_cons]
        exact Int.zero_add _
/-- all accounts together keep what they have -/
theorem do_hav {B : Bk} (hI : InvB B) (x : Od) : havL (doL B x).2.L = havL B.L := by
  have hs := hI.inv.srtA
  unfold doL
  by_cases hr : rightB x = false
  · rw [if_pos hr]
  rw [if_neg hr]
  unfold kindD
  by_cases k1 : x.kind = 1
  · rw [if_pos k1]; exact open_hav _ _ _
  rw [if_neg k1]
  by_cases k2 : x.kind = 2
  · rw [if_pos k2]
    unfold postD
    split
    · rfl
    · exact make_hav hs _
  rw [if_neg k2]
  by_cases k3 : x.kind = 3
  · rw [if_pos k3]; exact put_hav hs _ _
  rw [if_neg k3]
  by_cases k4 : x.kind = 4
  · rw [if_pos k4]
    unfold capD
    split
    · rfl
    · exact take_hav hs _ _ _ _ _
  rw [if_neg k4]
  by_cases k5 : x.kind = 5
  · rw [if_pos k5]; exact free_hav hs _ _ _
  rw [if_neg k5]
  by_cases k6 : x.kind = 6
  · rw [if_pos k6]
    unfold shutD
    split
    · rfl
    · rfl
  rw [if_neg k6]
  rfl
/-- no account has less than it may -/
def LimL (L : List Ac) : Prop := ∀ a ∈ L, -a.lim ≤ a.hav - a.set_
theorem free_lim {a : Ac} {x : Int} (h : freeA a x = true) : -a.lim ≤ a.hav - a.set_ - x := by
  unfold freeA at h
  simp only [Bool.and_eq_true, decide_eq_true_eq] at h
  obtain ⟨h1, h2, h3⟩ := h
  rw [sumR_zero h1] at h2 h3
  rw [sumR_zero h2] at h3
  exact h3
theorem turn_lim {L : List Ac} (h : LimL L) (k : ByteArray) (y : Int) (D : Ac → Ac × Int) (hD : D = givD y ∨ D = asiD y) : LimL (turnL D L k y).2 := by
  rcases turnL_cases D L k y with ⟨_, e⟩ | ⟨_, a, hg, h0, _, hf, e⟩
  · rw [e]; exact h
  · rw [e]
    intro b hb
    obtain ⟨c, hc, rfl⟩ := List.mem_map.1 hb
    have ha := h a (getK_mem hg).1
    have hfy : 0 < y → -a.lim ≤ a.hav - a.set_ - y := fun hy => free_lim (hf hy)
    split
    · rcases hD with rfl | rfl
      · have : (givD y a).1.hav = a.hav - y := sumR_zero h0
        show -a.lim ≤ (givD y a).1.hav - a.set_
        by_cases hy : 0 < y
        · have := hfy hy; omega
        · omega
      · have : (asiD y a).1.set_ = a.set_ + y := sumR_zero h0
        show -a.lim ≤ a.hav - (asiD y a).1.set_
        by_cases hy : 0 < y
        · have := hfy hy; omega
        · omega
    · exact h c hc
theorem post_lim {L : List Ac} (h : LimL L) (x : Leg) : LimL (postL L x).2 := by
  unfold postL
  split
  · exact h
  · split
    · exact h
    · exact turn_lim h _ _ _ (.inl rfl)
theorem all_lim : ∀ (l : List Leg) {L : List Ac}, LimL L → LimL (allL L l).2
  | [], _, h => h
  | x :: r, L, h => by
    unfold allL
    split
    · exact post_lim h x
    · exact all_lim r (post_lim h x)
theorem make_lim {L : List Ac} (h : LimL L) (l : List Leg) : LimL (makeL L l).2 := by
  unfold makeL
  split
  · exact h
  · exact all_lim l h
theorem freeH_lim {L : List Ac} (h : LimL L) (H : List Held) (k : ByteArray) (n : Int) : LimL (freeHL L H k n).2.1 := by
  unfold freeHL
  cases getK Held.key H ⟨k, n⟩ with
  | none => exact h
  | some y => exact turn_lim h _ _ _ (.inr rfl)
theorem put_lim {L : List Ac} (h : LimL L) (H : List Held) (x : Held) : LimL (putH L H x).2.1 := by
  unfold putH
  split
  · exact h
  · split
    · exact h
    · split
      · exact h
      · exact turn_lim h _ _ _ (.inr rfl)
theorem take_lim {L : List Ac} (h : LimL L) (H : List Held) (k : ByteArray) (n : Int) (p : ByteArray) (s : Int) : LimL (takeH L H k n p s).2.1 := by
  unfold takeH
  cases getK Held.key H ⟨k, n⟩ with
  | none => exact h
  | some y =>
    dsimp only
    split
    · exact h
    · split
      · exact h
      · split
        · exact h
        · exact make_lim (freeH_lim h H k n) _
theorem open_lim {L : List Ac} (h : LimL L) (k : ByteArray) (lim : Int) : LimL (openL L k lim).2 := by
  unfold openL
  split
  · exact h
  · rename_i h0
    split
    · exact h
    · split
      · exact h
      · intro a ha
        rcases List.mem_cons.1 ((insB_perm (lt := ltA) (⟨k, 0, 0, lim⟩ : Ac) L).mem_iff.1 ha) with rfl | ha
        · show -lim ≤ 0 - 0
          have : ¬ lim < 0 := fun e => h0 (.inr e)
          omega
        · exact h a ha
theorem do_lim {B : Bk} (h : LimL B.L) (x : Od) : LimL (doL B x).2.L := by
  unfold doL
  by_cases hr : rightB x = false
  · rw [if_pos hr]; exact h
  rw [if_neg hr]
  unfold kindD
  by_cases k1 : x.kind = 1
  · rw [if_pos k1]; exact open_lim h _ _
  rw [if_neg k1]
  by_cases k2 : x.kind = 2
  · rw [if_pos k2]
    unfold postD
    split
    · exact h
    · exact make_lim h _
  rw [if_neg k2]
  by_cases k3 : x.kind = 3
  · rw [if_pos k3]; exact put_lim h _ _
  rw [if_neg k3]
  by_cases k4 : x.kind = 4
  · rw [if_pos k4]
    unfold capD
    split
    · exact h
    · exact take_lim h _ _ _ _ _
  rw [if_neg k4]
  by_cases k5 : x.kind = 5
  · rw [if_pos k5]; exact freeH_lim h _ _ _
  rw [if_neg k5]
  by_cases k6 : x.kind = 6
  · rw [if_pos k6]
    unfold shutD
    split
    · exact h
    · exact h
  rw [if_neg k6]
  exact h
theorem one_name (x : Held) : ∀ {L : List Ac}, L.Pairwise (fun a b => a.name ≠ b.name) → (∃ a ∈ L, a.name = x.acct) → (L.map fun a => if x.acct = a.name then x.sum else 0).sum = x.sum
  | [], _, h => by obtain ⟨a, ha, _⟩ := h; cases ha
  | b :: r, hp, h => by
    obtain ⟨h1, h2⟩ := List.pairwise_cons.1 hp
    rw [List.map_cons, List.sum_cons]
    by_cases e : x.acct = b.name
    · rw [if_pos e]
      have : (r.map fun a => if x.acct = a.name then x.sum else 0) = r.map fun _ => (0 : Int) := List.map_congr_left fun a ha => by
        rw [if_neg (fun e2 => h1 a ha (e.symm.trans e2))]
      rw [this]
      have : ∀ l : List Ac, (l.map fun _ => (0 : Int)).sum = 0 := fun l => by
        induction l with
        | nil => rfl
        | cons _ _ ih => rw [List.map_cons, List.sum_cons, ih]; rfl
      rw [this]
      omega
    · rw [if_neg e, one_name x h2 (by
        obtain ⟨a, ha, e2⟩ := h
        rcases List.mem_cons.1 ha with rfl | ha
        · exact absurd e2.symm e
        · exact ⟨a, ha, e2⟩)]
      omega
/-- what is set aside of all accounts -/
def setL (L : List Ac) : Int := (L.map Ac.set_).sum
theorem sum_two (f g : Ac → Int) : ∀ L : List Ac, (L.map fun a => f a + g a).sum = (L.map f).sum + (L.map g).sum
  | [] => rfl
  | a :: r => by
    simp only [List.map_cons, List.sum_cons]
    rw [sum_two f g r]
    omega
theorem sum_of {L : List Ac} (hp : L.Pairwise fun a b => a.name ≠ b.name) : ∀ {H : List Held}, (∀ x ∈ H, ∃ a ∈ L, a.name = x.acct) → (L.map fun a => sumH (ofL H a.name)).sum = sumH H
  | [], _ => by
    have : ∀ l : List Ac, (l.map fun a => sumH (ofL [] a.name)).sum = 0 := fun l => by
      induction l with
      | nil => rfl
      | cons _ _ ih => rw [List.map_cons, List.sum_cons, ih]; rfl
    exact this L
  | x :: r, h => by
    have e : (L.map fun a => sumH (ofL (x :: r) a.name)) = L.map fun a => (if x.acct = a.name then x.sum else 0) + sumH (ofL r a.name) := List.map_congr_left fun a _ => by
      rw [ofL_cons]
      split
      · rfl
      · omega
    rw [e, sum_two, one_name x hp (h x List.mem_cons_self), sum_of hp fun y hy => h y (List.mem_cons_of_mem _ hy)]
    rfl
/-- what is set aside is what is held -/
theorem set_held {B : Bk} (hI : InvB B) : setL B.L = sumH B.H := by
  have e : B.L.map Ac.set_ = B.L.map fun a => sumH (ofL B.H a.name) := List.map_congr_left fun a ha => hI.inv.set a ha
  unfold setL
  rw [e]
  exact sum_of (srt_apart hI.inv.srtA) hI.inv.at_
/-- what is closed stays so -/
theorem do_cl {B : Bk} (x : Od) : B.cl ≤ (doL B x).2.cl := by
  unfold doL
  by_cases hr : rightB x = false
  · rw [if_pos hr]; exact Int.le_refl _
  rw [if_neg hr]
  unfold kindD
  by_cases k1 : x.kind = 1
  · rw [if_pos k1]; exact Int.le_refl _
  rw [if_neg k1]
  by_cases k2 : x.kind = 2
  · rw [if_pos k2]
    unfold postD
    split
    · exact Int.le_refl _
    · exact Int.le_refl _
  rw [if_neg k2]
  by_cases k3 : x.kind = 3
  · rw [if_pos k3]; exact Int.le_refl _
  rw [if_neg k3]
  by_cases k4 : x.kind = 4
  · rw [if_pos k4]
    unfold capD
    split
    · exact Int.le_refl _
    · exact Int.le_refl _
  rw [if_neg k4]
  by_cases k5 : x.kind = 5
  · rw [if_pos k5]; exact Int.le_refl _
  rw [if_neg k5]
  by_cases k6 : x.kind = 6
  · rw [if_pos k6]
    unfold shutD
    split
    · exact Int.le_refl _
    · rename_i h; show B.cl ≤ x.period; omega
  rw [if_neg k6]
  exact Int.le_refl _
/-- what BookWeighs keeps -/
structure InvW (B : Bk) : Prop where
  inv : InvB B
  hav : havL B.L = 0
  lim : LimL B.L
theorem inv_w0 : InvW bk0 := ⟨inv_bk0, rfl, fun _ h => by cases h⟩
theorem InvW.do_ {B : Bk} (h : InvW B) {x : Od} (hx : OdB x) : InvW (doL B x).2 := ⟨h.inv.do_ hx, by rw [do_hav h.inv]; exact h.hav, do_lim h.lim x⟩
theorem havL_snoc {L : List Ac} {k : Nat} (hk : k < L.length) : havL (L.take (k + 1)) = havL (L.take k) + L[k].hav := by
  unfold havL
  rw [List.take_succ_eq_append_getElem hk, List.map_append, List.sum_append]
  simp
theorem setL_snoc {L : List Ac} {k : Nat} (hk : k < L.length) : setL (L.take (k + 1)) = setL (L.take k) + L[k].set_ := by
  unfold setL
  rw [List.take_succ_eq_append_getElem hk, List.map_append, List.sum_append]
  simp
/-- sums that wrap on the way come out as their sum does -/
theorem wrap_add (a b : Int) : IntKind.i64.wrap (IntKind.i64.wrap a + b) = IntKind.i64.wrap (a + b) := by
  simp only [IntKind.wrap_i64]
  omega
theorem wrap_sub (a b : Int) : IntKind.i64.wrap (IntKind.i64.wrap a - b) = IntKind.i64.wrap (a - b) := by
  simp only [IntKind.wrap_i64]
  omega
end Go.Proofs.YtgholbeehkfbiaaGreat
