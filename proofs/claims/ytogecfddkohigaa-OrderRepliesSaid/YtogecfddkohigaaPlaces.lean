/- clash.places, clash.Right -/
import Derived.Test.YtogecfddkohigaaRows
import Derived.Test.YtogecfddkohigaaKeys
import Derived.Test.YtogecfddkohigaaAppend
import Derived.WalkKit
import Derived.WalkSpells
import Derived.WalkLawsBesides
import Derived.Deep.QuietTactic
import Derived.BigQuiet
import Derived.Laws.StructEq
import Derived.Deep.DeepFit
import Derived.StillTailTactics
namespace Go.Proofs.Ytogecfddkohigaa
open Go.RowKit
section
variable {κ ν μ : Type} [DecidableEq κ]
theorem getM_map (f : ν → μ) (M : List (κ × ν)) (k : κ) : getM (M.map fun p => (p.1, f p.2)) k = (getM M k).map f := by
  unfold getM
  rw [List.find?_map, Option.map_map, Option.map_map]
  rfl
theorem putM_map (f : ν → μ) (M : List (κ × ν)) (k : κ) (v : ν) : (putM M k v).map (fun p => (p.1, f p.2)) = putM (M.map fun p => (p.1, f p.2)) k (f v) := by
  unfold putM
  rw [List.any_map]
  by_cases h : M.any (fun p => decide (p.1 = k)) = true
  · rw [if_pos h, if_pos (by exact h), List.map_map, List.map_map]
    apply List.map_congr_left
    intro p _
    by_cases hp : p.1 = k <;> simp [hp]
  · rw [if_neg h, if_neg (by exact h), List.map_append]
    rfl
theorem getM_isSome (M : List (κ × ν)) (k : κ) : (getM M k).isSome = M.any (fun p => decide (p.1 = k)) := by
  unfold getM
  rw [Option.isSome_map, Bool.eq_iff_iff, List.find?_isSome, List.any_eq_true]
theorem length_putM (M : List (κ × ν)) (k : κ) (v : ν) : (putM M k v).length = if (getM M k).isSome then M.length else M.length + 1 := by
  rw [getM_isSome]
  unfold putM
  split
  · rw [List.length_map]
  · rw [List.length_append]; rfl
end

/-- where orders stand, by their Ids: of two that have one Id the later one -/
def placesN (l : List Od) : List (Id × Nat) := l.zipIdx.foldl (fun M p => putM M p.1.id p.2) []
theorem placesN_snoc (l : List Od) (x : Od) : placesN (l ++ [x]) = putM (placesN l) x.id l.length := by
  unfold placesN
  rw [List.zipIdx_append, List.foldl_append]
  simp
abbrev natV (M : List (Id × Nat)) : List (Id × Value) := M.map fun p => (p.1, i64 p.2)

set_option maxRecDepth 100000 in
set_option maxHeartbeats 1000000 in
theorem places_c (A : Option Addr) (c : Nat) (l : List Od) (w : World) (h : Sl w w.heap.size A c l) (hn : l.length ≤ 65536) :
    Calls Try.prog 55 #[.slice A l.length c] w fun e w' => e = .returned (.map (some w.heap.size)) ∧ MapIs Id.v w' w.heap.size (natV (placesN l)) ∧ Below w.heap.size w w' := by
  have hmm := @run_makeMap Try.prog
  go_enter Try.func55, Try.ntmps55
  go_wp2
  have hm0 := MapIs.made (enc := Id.v) w
  have hb0 := (Below.refl w.heap.size w).alloc (Nat.le_refl _) (.map #[] 0)
  go_loopw [9] (fun i wr => ∃ k : Nat, i = i64 k ∧ k ≤ l.length ∧ MapIs Id.v wr w.heap.size (natV (placesN (l.take k))) ∧ Below w.heap.size w wr) (fun i _ => l.length - (intOf i).toNat)
  case atStart => exact ⟨0, rfl, by omega, hm0, hb0⟩
  case round =>
    obtain ⟨k, rfl, hk, hm, hb⟩ := hrel
    clear hm0 hb0 hmm
    by_cases hlt : k < l.length
    · obtain ⟨b, o, rfl, hbb, -, c0, c1, c2, c3, c4, c5, c6, c7, c8, c9⟩ := (h.later hb).od hlt
      have hm1 := hm.later ((Below.refl wr.heap.size wr).alloc (Nat.le_refl _) (.cells l[k].cells.toArray 30))
      have hb1 := hb.alloc hb.size (.cells l[k].cells.toArray 30)
      have Hm1 := Lib.hid hm1
      have Hb1 := Lib.hid hb1
      clear hm hm1 hb1
      simp only [Od.cells] at Hm1 Hb1
      go_wp2_with (refine wpList_put rfl none (.tmp 14) (.tmp 16) (.tmp 17) 67 rfl rfl idKey Try.underlying67 rfl Hm1.out l[k].id (i64 k) rfl rfl ?_; intro w2 hm2 hg2)
      go_roundw
      case rel => exact ⟨k + 1, by go_num, by omega, by
          rw [List.take_succ_eq_append_getElem hlt, placesN_snoc, List.length_take, Nat.min_eq_left (by omega), natV, putM_map (fun n : Nat => i64 n)]
          exact hm2, Hb1.out.grown hg2 Hb1.out.size (fun g hg => by injection hg with hg; omega)⟩
      case measure => simp [intOf]; omega
    · obtain rfl : k = l.length := by omega
      rw [List.take_length] at hm
      go_wp2
      go_ret
      exact ⟨rfl, hm, hb⟩

set_option maxRecDepth 100000 in
set_option maxHeartbeats 400000 in
theorem right_c (A : Option Addr) (c : Nat) (l : List Od) (w : World) (h : Sl w w.heap.size A c l) (hn : l.length ≤ 65536) :
    Calls Try.prog 16 #[.slice A l.length c] w fun e w' => e = .returned (.bool (decide ((placesN l).length = l.length))) ∧ Below w.heap.size w w' := by
  have H := Lib.hid (places_c A c l w h hn)
  clear h
  go_enter Try.func16, Try.ntmps16
  go_wp2_with fail
  refine H.out.mono ?_
  rintro e w1 ⟨rfl, hm, hb⟩
  have hl := fun ty => run_lenM (P := Try.prog) Try.underlying67 hm ty
  go_wp2
  go_ret
  refine ⟨?_, hb⟩
  by_cases he : (placesN l).length = l.length
  · simp [he]
  · have : ¬ ((placesN l).length : Int) = (l.length : Int) := by omega
    simp [he, this]
end Go.Proofs.Ytogecfddkohigaa
