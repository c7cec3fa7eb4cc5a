/- slices.SortFunc of a row of the call's own, at structs. No program. -/
import Derived.Test.YthmgchohbdlonaaGreatOrd
import Derived.Test.YthmgchohbdlonaaGreatRow
import Derived.Shelf.SlSortCmp.WholeK
import Derived.Shelf.SlSortCmp.NoneTotal
namespace Go.Proofs.YthmgchohbdlonaaGreat
open Go.RowKit Go.Shelf Go.Sort

section
variable {α : Type} [Enc α] [Inhabited α]
theorem flatK_flat (l : List α) : (flatK Enc.cells (Enc.size α) l.toArray).toList = l.flatMap Enc.cells := by
  apply List.ext_getElem?
  intro t
  by_cases ht : t < l.length * Enc.size α
  · have hs : 0 < Enc.size α := by
      rcases Nat.eq_zero_or_pos (Enc.size α) with h | h
      · rw [h] at ht; simp at ht
      · exact h
    have h1 : t / Enc.size α < l.length := by rw [Nat.div_lt_iff_lt_mul hs]; exact ht
    have h2 : t % Enc.size α < Enc.size α := Nat.mod_lt _ hs
    have h3 : t < (flatK Enc.cells (Enc.size α) l.toArray).size := by simpa using ht
    have e1 : t / Enc.size α * Enc.size α + t % Enc.size α = t := by rw [Nat.mul_comm]; exact Nat.div_add_mod _ _
    have e2 := flat_get l _ _ h1 h2
    rw [e1] at e2
    rw [e2, Array.getElem?_toList, Array.getElem?_eq_getElem h3, ← getElem!_pos _ t h3, get_flatK _ _ _ _ (by simpa using ht)]
    rw [getElem!_pos l.toArray _ (by simpa using h1), getElem!_pos _ _ (by rw [Enc.len]; exact h2), List.getElem?_eq_getElem (by rw [Enc.len]; exact h2)]
    simp
  · rw [List.getElem?_eq_none (by rw [Array.length_toList]; simp; omega), List.getElem?_eq_none (by rw [flat_len]; omega)]
theorem putCells_take (F cur : Array Value) (h : F.size ≤ cur.size) : (putCells id 0 F cur).toList.take F.size = F.toList := by
  apply List.ext_getElem?
  intro t
  by_cases ht : t < F.size
  · rw [List.getElem?_take_of_lt ht, Array.getElem?_toList, Array.getElem?_toList, Array.getElem?_eq_getElem ht]
    unfold putCells
    rw [Array.getElem?_mapIdx, Array.getElem?_eq_getElem (by omega), Option.map_some, if_pos ⟨Nat.zero_le _, by omega⟩, Nat.sub_zero, getElem!_pos F t ht]
    rfl
  · rw [List.getElem?_eq_none (by simp; omega), List.getElem?_eq_none (by simp; omega)]
theorem heap_putRow {w : World} {g : Nat} {cur : Array Value} {e : TypeId} {fr : Nat × Nat} (F : Array Value) (n : Nat) (os : Array Obj) (h : w.heap[g]? = some (.cells cur e fr)) : (grow (putRow id (Sort.ahead w n) g 0 F) os).heap[g]? = some (.cells (putCells id 0 F cur) e fr) := by
  have hlt := (Array.getElem?_eq_some_iff.1 h).1
  unfold grow putRow mapBlock
  simp only
  rw [Array.getElem?_append_left (by simpa [Sort.ahead] using hlt), Array.getElem?_modify, if_pos rfl]
  show Option.map _ (w.heap[g]?) = _
  rw [h]
  rfl
theorem grown_putRow {w : World} {g : Nat} (F : Array Value) (n : Nat) (os : Array Obj) : w.grownBy (grow (putRow id (Sort.ahead w n) g 0 F) os) (some g) :=
  ⟨rfl, rfl, rfl, by simp [Sort.ahead], fun k hk hne => by
    unfold grow putRow mapBlock
    simp only
    rw [Array.getElem?_append_left (by simpa [Sort.ahead] using hk), Array.getElem?_modify, if_neg (fun e => hne (by rw [e]))]
    rfl⟩
/-- the row's own block turned into d' -/
theorem Own.sorted {w : World} {base : Nat} {e : TypeId} {g cap : Nat} {l : List α} {d' : Array α} (h : Own w base e (.slice (some ⟨g, 0, none⟩) l.length cap) l) (hp : d'.toList.Perm l) (n : Nat) (os : Array Obj) :
    Own (grow (putRow id (Sort.ahead w n) g 0 (flatK Enc.cells (Enc.size α) d')) os) base e (.slice (some ⟨g, 0, none⟩) l.length cap) d'.toList := by
  obtain ⟨cur, hg, hb, hn, hc, hm, hz, ht⟩ := h.cells
  have hlen : d'.toList.length = l.length := hp.length_eq
  have hF : (flatK Enc.cells (Enc.size α) d').size = l.length * Enc.size α := by rw [size_flatK, ← Array.length_toList, hlen]
  have hle : l.length * Enc.size α ≤ cap * Enc.size α := Nat.mul_le_mul_right _ hc
  have hgr := grown_putRow (w := w) (g := g) (flatK Enc.cells (Enc.size α) d') n os
  refine ⟨⟨by rw [flat_len], .inr ⟨g, cap, _, by rw [hlen], hb, heap_putRow _ n os hg, by omega, hm, by simp [putCells, hz], ?_⟩⟩, fun x hx => ?_⟩
  · rw [hlen, ← hF, putCells_take _ _ (by omega)]
    have := flatK_flat d'.toList
    simpa using this
  · refine Enc.keep (h.2 x (hp.mem_iff.1 hx)) (fun p hp => World.cell?_of_block (hgr.block _ hp.1 hp.2)) (fun b hb => ⟨Nat.lt_of_lt_of_le hb.1 hgr.size, hb.2⟩)
variable {P : Program} {ρ : Ren}
/-- slices.SortFunc(v, cmp) -/
theorem sortF_own (L : SlLaysF0.n6 P ρ) (aE : ∀ w, (isAgg (ρ.t 24)).run P w = .ok true w) (zE : ∀ w, (Go.sizeOf (ρ.t 24)).run P w = .ok (Enc.size α) w) (cf : α → α → Int) (lt : α → α → Bool) (hlt : ∀ x y, lt x y = decide (cf x y < 0)) (S : Strict lt) (g : Nat) (cb : Array Value)
    (eg : ∀ args w, (callFunc g args).run P w = .ok (.enter g args) w) (hcmp : ∀ (x y : α) (W : World), Calls P g (#[.agg (Enc.cells x).toArray, .agg (Enc.cells y).toArray] ++ cb) W fun e w' => e = .returned (.int .i64 (cf x y)) ∧ ∃ q os', w' = grow (W.drewN q) os')
    (base : Nat) (T : TypeId) (v : Value) (l : List α) (w : World) (h : Own w base T v l) (hn : l.length ≤ 1000000) :
    Calls P (ρ.f 6) #[v, .func (.func g) #[] cb] w fun e w' => e = .returned (.tuple #[]) ∧ ∃ l', l'.Perm l ∧ SortedB lt l' ∧ Own w' base T v l' ∧ w.grownBy w' v.ownBlock := by
  have hO : SWO (ltOf cf) := ⟨fun x => by unfold ltOf; rw [← hlt]; exact S.irr x, fun x y z => by unfold ltOf; rw [← hlt, ← hlt, ← hlt]; exact S.trans x y z, fun x y z => by unfold ltOf; rw [← hlt, ← hlt, ← hlt]; exact S.co x y z⟩
  rcases Nat.eq_zero_or_pos l.length with h0 | hpos
  · obtain rfl := List.length_eq_zero_iff.1 h0
    obtain ⟨A, c, hv, _⟩ := h.sl
    subst hv
    exact (AnyF.slices_SortFunc_none { L with } A c (.func (.func g) #[] cb) w).mono fun e w' ⟨he, hw⟩ => ⟨he, [], .refl _, List.Pairwise.nil, by subst hw; exact h, by subst hw; exact World.grownBy.refl _ _⟩
  · obtain ⟨gb, cap, cur, rfl, hb, hg, hc, hm, hz, ht⟩ := h.form hpos
    have hH : HoldsK Enc.cells (Enc.size α) w gb 0 l.toArray := by
      intro j hj
      rw [size_flatK, List.size_toArray] at hj
      have hle : l.length * Enc.size α ≤ cap * Enc.size α := Nat.mul_le_mul_right _ hc
      rw [Nat.zero_add]
      refine ⟨?_, frozen_of_row w gb j cur T hg⟩
      rw [cell_of_row w gb j cur T (0, 0) hg]
      have e1 : (flatK Enc.cells (Enc.size α) l.toArray)[j]? = cur[j]? := by
        rw [← Array.getElem?_toList, flatK_flat, ← ht, List.getElem?_take_of_lt hj, Array.getElem?_toList]
      have hj2 : j < (flatK Enc.cells (Enc.size α) l.toArray).size := by simpa using hj
      rw [← e1, Array.getElem?_eq_getElem hj2, getElem!_pos _ j hj2]
      rfl
    have hl1 : l.toArray.size = l.length := List.size_toArray ..
    have hcon := AnyQ.slices_SortFunc L (Enc.size α) aE zE Enc.cells Enc.len Enc.one cf hO g cb gb 0 cap l.toArray w eg (fun m os dk _ x y => hcmp x y _) hH (Array.getElem?_eq_some_iff.1 hg).1 (by rw [hl1]; omega)
    rw [hl1] at hcon
    refine hcon.mono fun e w' ⟨he, d', n, os, hp, hs, hw⟩ => ⟨he, ?_⟩
    obtain ⟨hsz, _, hperm⟩ := hp
    have hpe : d'.toList.Perm l := by
      have e1 : d'.extract 0 l.length = d' := by rw [← hl1, ← hsz]; exact Array.extract_size
      have e2 : l.toArray.extract 0 l.length = l.toArray := by rw [← hl1]; exact Array.extract_size
      rw [e1, e2] at hperm
      simpa using hperm
    refine ⟨d'.toList, hpe, ?_, ?_, ?_⟩
    · unfold SortedB
      rw [List.pairwise_iff_getElem]
      intro i j hi hj hij
      have hi' : i < d'.size := by simpa using hi
      have hj' : j < d'.size := by simpa using hj
      have := hs i j (Nat.zero_le _) hij (by rw [hsz, hl1] at hj'; exact hj')
      unfold ltOf at this
      rw [← hlt, getElem!_pos d' i hi', getElem!_pos d' j hj'] at this
      simpa using this
    · rw [hw]; exact h.sorted hpe n os
    · rw [hw]; exact grown_putRow _ n os
end
end Go.Proofs.YthmgchohbdlonaaGreat
