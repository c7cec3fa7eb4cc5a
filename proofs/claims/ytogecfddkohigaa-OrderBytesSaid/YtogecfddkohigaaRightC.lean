/- order.Right -/
import Derived.Test.YtogecfddkohigaaRows
import Derived.Test.YtogecfddkohigaaRightO
import Derived.WalkKit
import Derived.WalkSpells
import Derived.WalkLawsBesides
import Derived.Deep.QuietTactic
import Derived.BigQuiet
import Derived.Laws.StructEq
import Derived.Deep.DeepFit
import Derived.StillTailTactics
namespace Go.Proofs.Ytogecfddkohigaa
open Go.RowKit
/-- what an order of its kind may have -/
def bareO (x : Od) : Od := if x.kind = 1 then bare1 x else if x.kind = 2 then bare2 x else if x.kind = 3 then bare3 x else if x.kind = 4 then bare4 x else if x.kind = 5 then bare5 x else if x.kind = 6 then bare6 x else bare7 x
def fitsO (x : Od) : Bool := if x.kind = 1 then fits1 x else if x.kind = 2 then fits2 x else if x.kind = 3 then fits3 x else if x.kind = 4 then fits4 x else if x.kind = 5 then fits5 x else if x.kind = 6 then fits6 x else nameB x.acct
/-- order.Right -/
def rightB (x : Od) : Bool := decide (1 ≤ x.kind ∧ x.kind ≤ 7) && (((decide (0 ≤ x.client) && decide (x.client ≤ 9)) && (decide (1 ≤ x.seq) && decide (x.seq ≤ 999))) && (sameB x (dress x (bareO x)) && fitsO x))
set_option maxRecDepth 100000 in
set_option maxHeartbeats 4000000 in
theorem right_no (x : Od) (w : World) (hget : ∀ p, getM (shapesM p) x.kind = none) :
    Calls Try.prog 31 #[x.v] w fun e w' => e = .returned (.bool false) ∧ Below w.heap.size w w' := by
  have hb1 := (Below.refl w.heap.size w).alloc (Nat.le_refl _) (.cells #[i64 x.client, i64 x.seq, i64 x.kind, .string x.acct, .string x.peer, i64 x.sum, .slice x.la x.legs.length x.lc, i64 x.period, i64 x.hold, .string x.note] 30)
  have hw1 : (w.alloc (.cells #[i64 x.client, i64 x.seq, i64 x.kind, .string x.acct, .string x.peer, i64 x.sum, .slice x.la x.legs.length x.lc, i64 x.period, i64 x.hold, .string x.note] 30)).heap.size = w.heap.size + 1 := by simp
  have c0 : (w.alloc (.cells #[i64 x.client, i64 x.seq, i64 x.kind, .string x.acct, .string x.peer, i64 x.sum, .slice x.la x.legs.length x.lc, i64 x.period, i64 x.hold, .string x.note] 30)).cell? ⟨w.heap.size, 0, none⟩ = some (i64 x.client) := cell_of_row _ w.heap.size 0 _ _ (0, 0) (heap_alloc_new w _)
  have c1 : (w.alloc (.cells #[i64 x.client, i64 x.seq, i64 x.kind, .string x.acct, .string x.peer, i64 x.sum, .slice x.la x.legs.length x.lc, i64 x.period, i64 x.hold, .string x.note] 30)).cell? ⟨w.heap.size, 1, none⟩ = some (i64 x.seq) := cell_of_row _ w.heap.size 1 _ _ (0, 0) (heap_alloc_new w _)
  have c2 : (w.alloc (.cells #[i64 x.client, i64 x.seq, i64 x.kind, .string x.acct, .string x.peer, i64 x.sum, .slice x.la x.legs.length x.lc, i64 x.period, i64 x.hold, .string x.note] 30)).cell? ⟨w.heap.size, 2, none⟩ = some (i64 x.kind) := cell_of_row _ w.heap.size 2 _ _ (0, 0) (heap_alloc_new w _)
  have c3 : (w.alloc (.cells #[i64 x.client, i64 x.seq, i64 x.kind, .string x.acct, .string x.peer, i64 x.sum, .slice x.la x.legs.length x.lc, i64 x.period, i64 x.hold, .string x.note] 30)).cell? ⟨w.heap.size, 3, none⟩ = some (.string x.acct) := cell_of_row _ w.heap.size 3 _ _ (0, 0) (heap_alloc_new w _)
  have c4 : (w.alloc (.cells #[i64 x.client, i64 x.seq, i64 x.kind, .string x.acct, .string x.peer, i64 x.sum, .slice x.la x.legs.length x.lc, i64 x.period, i64 x.hold, .string x.note] 30)).cell? ⟨w.heap.size, 4, none⟩ = some (.string x.peer) := cell_of_row _ w.heap.size 4 _ _ (0, 0) (heap_alloc_new w _)
  have c5 : (w.alloc (.cells #[i64 x.client, i64 x.seq, i64 x.kind, .string x.acct, .string x.peer, i64 x.sum, .slice x.la x.legs.length x.lc, i64 x.period, i64 x.hold, .string x.note] 30)).cell? ⟨w.heap.size, 5, none⟩ = some (i64 x.sum) := cell_of_row _ w.heap.size 5 _ _ (0, 0) (heap_alloc_new w _)
  have c6 : (w.alloc (.cells #[i64 x.client, i64 x.seq, i64 x.kind, .string x.acct, .string x.peer, i64 x.sum, .slice x.la x.legs.length x.lc, i64 x.period, i64 x.hold, .string x.note] 30)).cell? ⟨w.heap.size, 6, none⟩ = some (.slice x.la x.legs.length x.lc) := cell_of_row _ w.heap.size 6 _ _ (0, 0) (heap_alloc_new w _)
  have c7 : (w.alloc (.cells #[i64 x.client, i64 x.seq, i64 x.kind, .string x.acct, .string x.peer, i64 x.sum, .slice x.la x.legs.length x.lc, i64 x.period, i64 x.hold, .string x.note] 30)).cell? ⟨w.heap.size, 7, none⟩ = some (i64 x.period) := cell_of_row _ w.heap.size 7 _ _ (0, 0) (heap_alloc_new w _)
  have c8 : (w.alloc (.cells #[i64 x.client, i64 x.seq, i64 x.kind, .string x.acct, .string x.peer, i64 x.sum, .slice x.la x.legs.length x.lc, i64 x.period, i64 x.hold, .string x.note] 30)).cell? ⟨w.heap.size, 8, none⟩ = some (i64 x.hold) := cell_of_row _ w.heap.size 8 _ _ (0, 0) (heap_alloc_new w _)
  have c9 : (w.alloc (.cells #[i64 x.client, i64 x.seq, i64 x.kind, .string x.acct, .string x.peer, i64 x.sum, .slice x.la x.legs.length x.lc, i64 x.period, i64 x.hold, .string x.note] 30)).cell? ⟨w.heap.size, 9, none⟩ = some (.string x.note) := cell_of_row _ w.heap.size 9 _ _ (0, 0) (heap_alloc_new w _)
  unfold Od.v
  go_enter Try.func31, Try.ntmps31
  go_wp2_with fail
  generalize w.alloc (.cells #[i64 x.client, i64 x.seq, i64 x.kind, .string x.acct, .string x.peer, i64 x.sum, .slice x.la x.legs.length x.lc, i64 x.period, i64 x.hold, .string x.note] 30) = W1 at *
  have Hw1 := Lib.hid hw1
  clear hw1
  have h0 := (Below.refl W1.heap.size W1).drew
  have hSS : ∀ V, Below W1.heap.size W1 V → (fun V : World => Below W1.heap.size W1 V ∧ V.cell? ⟨w.heap.size, 2, none⟩ = some (i64 x.kind)) V := fun V h => ⟨h, (h.cell (World.block_lt_of_cell? _ _ c2)).trans c2⟩
  go_region_held3 (fun V => Below W1.heap.size W1 V ∧ V.cell? ⟨w.heap.size, 2, none⟩ = some (i64 x.kind)) (first | exact hSS _ h0 | exact hSS _ (by assumption) | exact hSS _ (h0.alloc (Nat.le_refl _) _) | exact hSS _ (hb2.alloc hb2.size _) | (refine hSS _ (Below.setCell (Below.alloc hb2 hb2.size _) hb2.size _)) | exact hSS _ (Below.setCell (Below.setCell hb2 (p := ⟨W1.heap.size, 0, none⟩) (Nat.le_refl _) _) (p := ⟨W1.heap.size, 1, none⟩) (Nat.le_refl _) _))
    (first
      | (go_at_call 69; refine (shapes_c _).mono ?_; rintro e w2 ⟨rfl, hm2, hc2, hF2⟩; have hb2 := below_on (show Below W1.heap.size W1 _ from by first | exact h0 | exact h0.alloc (Nat.le_refl _) _) (Nat.le_refl _) hF2; have hlk := run_lookup (P := Try.prog) intKey Try.underlying89 hm2 x.kind (.agg #[.nilFunc, .nilFunc]) (by kernel_rfl) true; have hm3 := hm2.later ((Below.refl w2.heap.size w2).alloc (Nat.le_refl _) (.cells #[.nilFunc, .nilFunc] 87)); have hlk2 := run_lookup (P := Try.prog) intKey Try.underlying89 hm3 x.kind (.agg #[.nilFunc, .nilFunc]) (by kernel_rfl) true; rw [hget] at hlk hlk2; simp at hlk hlk2; (try (have hg87 : w2.heap[W1.heap.size]? = some (.cells #[.nilFunc, .nilFunc] 87 (0, 0)) := (hF2.block W1.heap.size (by simp)).trans (heap_alloc_new W1.drew _); have f87 := frozen_of_row w2 W1.heap.size 0 _ _ hg87; have f88 := frozen_of_row w2 W1.heap.size 1 _ _ hg87; have d87 := cell_of_row w2 W1.heap.size 0 _ _ (0, 0) hg87; have d88 := cell_of_row w2 W1.heap.size 1 _ _ (0, 0) hg87; simp only [List.getElem?_toArray, List.getElem?_cons_zero, List.getElem?_cons_succ] at d87 d88)); clear hm2 hm3 hF2))
  all_goals (
    rename_i hh
    have hb3 := below_on hb1 (Nat.le_refl _) hh.1
    clear hh
    go_wp2
    go_ret
    exact ⟨rfl, hb3⟩)

set_option maxRecDepth 100000 in
set_option maxHeartbeats 2000000 in
theorem right_c0 (x : Od) (w : World) (hx : Okb w w.heap.size x) (hl : x.legs.length ≤ 65536) :
    Calls Try.prog 31 #[x.v] w fun e w' => e = .returned (.bool (rightB x)) ∧ Below w.heap.size w w' := by
  by_cases h1 : x.kind = 1
  · have hR : rightB x = (((decide (0 ≤ x.client) && decide (x.client ≤ 9)) && (decide (1 ≤ x.seq) && decide (x.seq ≤ 999))) && (sameB x (dress x (bare1 x)) && fits1 x)) := by
      unfold rightB bareO fitsO
      rw [if_pos h1, if_pos h1, decide_eq_true (show 1 ≤ x.kind ∧ x.kind ≤ 7 by omega), Bool.true_and]
    rw [hR]
    exact right_gen x w hx hl 97 98 (fun p => #[.pointer (some ⟨p, 0, none⟩)]) (bare1 x) (fits1 x) (fun p => by rw [h1]; rfl) (enters_of Try.func97 (by kernel_rfl) rfl) (enters_of Try.func98 (by kernel_rfl) rfl) (fun W _ => bare1_c x W) (fun W p h hp => fits1_c x W p hp) (fun W h => by obtain ⟨ka, kb, kc, kd⟩ := h; exact ⟨ka, Nat.zero_le _, Nat.zero_le _, SlS.nil_ _ _⟩) (by exact Nat.zero_le _)
  by_cases h2 : x.kind = 2
  · have hR : rightB x = (((decide (0 ≤ x.client) && decide (x.client ≤ 9)) && (decide (1 ≤ x.seq) && decide (x.seq ≤ 999))) && (sameB x (dress x (bare2 x)) && fits2 x)) := by
      unfold rightB bareO fitsO
      rw [if_neg h1, if_pos h2, if_neg h1, if_pos h2, decide_eq_true (show 1 ≤ x.kind ∧ x.kind ≤ 7 by omega), Bool.true_and]
    rw [hR]
    exact right_gen x w hx hl 99 100 (fun _ => #[]) (bare2 x) (fits2 x) (fun p => by rw [h2]; rfl) (enters_of Try.func99 (by kernel_rfl) rfl) (enters_of Try.func100 (by kernel_rfl) rfl) (fun W _ => bare2_c x W) (fun W p h hp => fits2_c x W (Okb.later hx h) hl) (fun W h => by obtain ⟨ka, kb, kc, kd⟩ := h; exact ⟨Nat.zero_le _, Nat.zero_le _, kc, kd⟩) (by exact hl)
  by_cases h3 : x.kind = 3
  · have hR : rightB x = (((decide (0 ≤ x.client) && decide (x.client ≤ 9)) && (decide (1 ≤ x.seq) && decide (x.seq ≤ 999))) && (sameB x (dress x (bare3 x)) && fits3 x)) := by
      unfold rightB bareO fitsO
      rw [if_neg h1, if_neg h2, if_pos h3, if_neg h1, if_neg h2, if_pos h3, decide_eq_true (show 1 ≤ x.kind ∧ x.kind ≤ 7 by omega), Bool.true_and]
    rw [hR]
    exact right_gen x w hx hl 103 104 (fun p => #[.pointer (some ⟨p, 0, none⟩)]) (bare3 x) (fits3 x) (fun p => by rw [h3]; rfl) (enters_of Try.func103 (by kernel_rfl) rfl) (enters_of Try.func104 (by kernel_rfl) rfl) (fun W _ => bare3_c x W) (fun W p h hp => fits3_c x W p hp) (fun W h => by obtain ⟨ka, kb, kc, kd⟩ := h; exact ⟨ka, Nat.zero_le _, Nat.zero_le _, SlS.nil_ _ _⟩) (by exact Nat.zero_le _)
  by_cases h4 : x.kind = 4
  · have hR : rightB x = (((decide (0 ≤ x.client) && decide (x.client ≤ 9)) && (decide (1 ≤ x.seq) && decide (x.seq ≤ 999))) && (sameB x (dress x (bare4 x)) && fits4 x)) := by
      unfold rightB bareO fitsO
      rw [if_neg h1, if_neg h2, if_neg h3, if_pos h4, if_neg h1, if_neg h2, if_neg h3, if_pos h4, decide_eq_true (show 1 ≤ x.kind ∧ x.kind ≤ 7 by omega), Bool.true_and]
    rw [hR]
    exact right_gen x w hx hl 105 106 (fun p => #[.pointer (some ⟨p, 0, none⟩)]) (bare4 x) (fits4 x) (fun p => by rw [h4]; rfl) (enters_of Try.func105 (by kernel_rfl) rfl) (enters_of Try.func106 (by kernel_rfl) rfl) (fun W _ => bare4_c x W) (fun W p h hp => fits4_c x W p hp) (fun W h => by obtain ⟨ka, kb, kc, kd⟩ := h; exact ⟨ka, kb, Nat.zero_le _, SlS.nil_ _ _⟩) (by exact Nat.zero_le _)
  by_cases h5 : x.kind = 5
  · have hR : rightB x = (((decide (0 ≤ x.client) && decide (x.client ≤ 9)) && (decide (1 ≤ x.seq) && decide (x.seq ≤ 999))) && (sameB x (dress x (bare5 x)) && fits5 x)) := by
      unfold rightB bareO fitsO
      rw [if_neg h1, if_neg h2, if_neg h3, if_neg h4, if_pos h5, if_neg h1, if_neg h2, if_neg h3, if_neg h4, if_pos h5, decide_eq_true (show 1 ≤ x.kind ∧ x.kind ≤ 7 by omega), Bool.true_and]
    rw [hR]
    exact right_gen x w hx hl 108 109 (fun p => #[.pointer (some ⟨p, 0, none⟩)]) (bare5 x) (fits5 x) (fun p => by rw [h5]; rfl) (enters_of Try.func108 (by kernel_rfl) rfl) (enters_of Try.func109 (by kernel_rfl) rfl) (fun W _ => bare5_c x W) (fun W p h hp => fits5_c x W p hp) (fun W h => by obtain ⟨ka, kb, kc, kd⟩ := h; exact ⟨ka, Nat.zero_le _, Nat.zero_le _, SlS.nil_ _ _⟩) (by exact Nat.zero_le _)
  by_cases h6 : x.kind = 6
  · have hR : rightB x = (((decide (0 ≤ x.client) && decide (x.client ≤ 9)) && (decide (1 ≤ x.seq) && decide (x.seq ≤ 999))) && (sameB x (dress x (bare6 x)) && fits6 x)) := by
      unfold rightB bareO fitsO
      rw [if_neg h1, if_neg h2, if_neg h3, if_neg h4, if_neg h5, if_pos h6, if_neg h1, if_neg h2, if_neg h3, if_neg h4, if_neg h5, if_pos h6, decide_eq_true (show 1 ≤ x.kind ∧ x.kind ≤ 7 by omega), Bool.true_and]
    rw [hR]
    exact right_gen x w hx hl 110 111 (fun _ => #[]) (bare6 x) (fits6 x) (fun p => by rw [h6]; rfl) (enters_of Try.func110 (by kernel_rfl) rfl) (enters_of Try.func111 (by kernel_rfl) rfl) (fun W _ => bare6_c x W) (fun W p h hp => fits6_c x W) (fun W h => by obtain ⟨ka, kb, kc, kd⟩ := h; exact ⟨Nat.zero_le _, Nat.zero_le _, Nat.zero_le _, SlS.nil_ _ _⟩) (by exact Nat.zero_le _)
  by_cases h7 : x.kind = 7
  · have hR : rightB x = (((decide (0 ≤ x.client) && decide (x.client ≤ 9)) && (decide (1 ≤ x.seq) && decide (x.seq ≤ 999))) && (sameB x (dress x (bare7 x)) && nameB x.acct)) := by
      unfold rightB bareO fitsO
      rw [if_neg h1, if_neg h2, if_neg h3, if_neg h4, if_neg h5, if_neg h6, if_neg h1, if_neg h2, if_neg h3, if_neg h4, if_neg h5, if_neg h6, decide_eq_true (show 1 ≤ x.kind ∧ x.kind ≤ 7 by omega), Bool.true_and]
    rw [hR]
    exact right_gen x w hx hl 112 95 (fun _ => #[]) (bare7 x) (nameB x.acct) (fun p => by rw [h7]; rfl) (enters_of Try.func112 (by kernel_rfl) rfl) (enters_of Try.func95 (by kernel_rfl) rfl) (fun W _ => bare7_c x W) (fun W p h hp => fname_c x W) (fun W h => by obtain ⟨ka, kb, kc, kd⟩ := h; exact ⟨ka, Nat.zero_le _, Nat.zero_le _, SlS.nil_ _ _⟩) (by exact Nat.zero_le _)
  have hR : rightB x = false := by unfold rightB; rw [decide_eq_false (show ¬ (1 ≤ x.kind ∧ x.kind ≤ 7) by omega), Bool.false_and]
  rw [hR]
  exact right_no x w (fun p => by
    have hn : ∀ k : Int, k ∈ (shapesM p).map (·.1) → k ≠ x.kind := by
      intro k hk
      simp only [shapesM, List.map_cons, List.map_nil, List.mem_cons, List.not_mem_nil, or_false] at hk
      omega
    unfold getM
    rw [Option.map_eq_none_iff, List.find?_eq_none]
    intro q hq h
    exact hn q.1 (List.mem_map_of_mem hq) (by simpa using h))
end Go.Proofs.Ytogecfddkohigaa
