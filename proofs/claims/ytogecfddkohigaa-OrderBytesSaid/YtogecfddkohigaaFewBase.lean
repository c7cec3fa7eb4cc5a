/- few and own, in lists. No program. -/
import Derived.Test.YtogecfddkohigaaAppend
import Derived.Test.YtogecfddkohigaaAt
namespace Go.Proofs.Ytogecfddkohigaa
open Go.RowKit
/-- an order with its first 8 legs alone -/
def cut8 (x : Od) : Od := { x with legs := x.legs.take 8 }
def fewL (n : Nat) (l : List Od) : List Od := (l.take n).map cut8
theorem cut8_ok {w : World} {S : Nat → Prop} {x : Od} (h : Od.Ok w S x) : Od.Ok w S (cut8 x) := ⟨h.acct, h.peer, h.note, h.legs.take 8⟩
theorem cut8_small {x : Od} (h : x.legs.length ≤ 8) : cut8 x = x := by
  unfold cut8
  rw [List.take_of_length_le h]
theorem fewL_len {l : List Od} {k : Nat} (h : k < l.length) : (fewL k l).length = k := by
  unfold fewL
  rw [List.length_map, List.length_take]; omega
theorem fewL_succ {l : List Od} {k : Nat} (h : k < l.length) : fewL (k + 1) l = fewL k l ++ [cut8 l[k]] := by
  unfold fewL
  rw [List.take_succ_eq_append_getElem h, List.map_append]; rfl
theorem fewL_legs (n : Nat) (l : List Od) : ∀ x ∈ fewL n l, x.legs.length ≤ 8 := by
  intro x hx
  obtain ⟨y, _, rfl⟩ := List.mem_map.1 hx
  show (y.legs.take 8).length ≤ 8
  rw [List.length_take]; omega
theorem fewL_le (n : Nat) (l : List Od) : (fewL n l).length ≤ n := by
  unfold fewL
  rw [List.length_map, List.length_take]; omega
/-- those whose Id was not there ahead: the first k places looked at -/
def ownK (l : List Od) (k : Nat) : List Od := ((l.take k).zipIdx.filter fun p => decide (atIdx l p.1.id = (p.2 : Int))).map (·.1)
abbrev ownL (l : List Od) : List Od := ownK l l.length
theorem ownK_succ {l : List Od} {k : Nat} (h : k < l.length) : ownK l (k + 1) = if atIdx l l[k].id = (k : Int) then ownK l k ++ [l[k]] else ownK l k := by
  unfold ownK
  rw [List.take_succ_eq_append_getElem h, List.zipIdx_append, List.filter_append, List.map_append]
  have hl : (l.take k).length = k := by rw [List.length_take]; omega
  simp only [hl, Nat.zero_add, List.zipIdx_cons, List.zipIdx_nil]
  by_cases hc : atIdx l l[k].id = (k : Int)
  · rw [if_pos hc, List.filter_cons_of_pos (by simpa using hc)]; rfl
  · rw [if_neg hc, List.filter_cons_of_neg (by simpa using hc)]; simp
theorem ownK_len (l : List Od) (k : Nat) : (ownK l k).length ≤ k := by
  unfold ownK
  rw [List.length_map]
  refine Nat.le_trans (List.length_filter_le _ _) ?_
  rw [List.length_zipIdx, List.length_take]; omega
theorem ownK_sub (l : List Od) (k : Nat) : ∀ x ∈ ownK l k, x ∈ l := by
  intro x hx
  obtain ⟨p, hp, rfl⟩ := List.mem_map.1 hx
  have := (List.mem_filter.1 hp).1
  exact List.mem_of_mem_take (List.fst_mem_of_mem_zipIdx this)
end Go.Proofs.Ytogecfddkohigaa
