/- Texts of this claim, laid together. -/
import Derived.Test.YtampniiehgimhaaGreatBs1
import Derived.Test.YtampniiehgimhaaGreatRows
import Derived.Test.YtampniiehgimhaaGreatBs7
import Derived.Test.YtampniiehgimhaaGreatBs6
import Derived.Deep.RegionHeld3
import Derived.WalkKit
import Derived.WalkSpells
import Derived.WalkLawsBesides
import Derived.Deep.QuietTactic
import Derived.BigQuiet
import Derived.Laws.StructEq
import Derived.Deep.DeepFit
import Derived.StillTailTactics

/- Replies as Lean has them. No program. -/
namespace Go.Proofs.YtampniiehgimhaaGreat
open Go.RowKit
/-- a reply -/
structure Rp where
 err : Int
 hav : Int
 set_ : Int
 num : Int
deriving DecidableEq
abbrev Rp.v (x : Rp) : Value := .agg #[i64 x.err, i64 x.hav, i64 x.set_, i64 x.num]
instance encRp : Enc Rp where
 size := 4
 cells x := [i64 x.err, i64 x.hav, i64 x.set_, i64 x.num]
 val := Rp.v
 ok _ _ _ := True
 len _ := rfl
 one _ v hv := by simp only [List.mem_cons, List.not_mem_nil, or_false] at hv; rcases hv with rfl | rfl | rfl | rfl <;> rfl
 keep h _ _ := h
/-- all numbers are int64 -/
def InR (x : Od) : Prop := R64 x.client ∧ R64 x.seq ∧ R64 x.kind ∧ R64 x.sum ∧ R64 x.period ∧ R64 x.hold ∧ ∀ l ∈ x.legs, R64 l.sum
end Go.Proofs.YtampniiehgimhaaGreat
/- order.Right -/
namespace Go.Proofs.YtampniiehgimhaaGreat
open Go.RowKit
/-- an order of the bare parts, with its Id and Kind -/
abbrev dress (x B : Od) : Od := { B with client := x.client, seq := x.seq, kind := x.kind }
set_option maxRecDepth 100000 in
set_option maxHeartbeats 8000000 in
theorem right_gen (x : Od) (w : World) (hx : Okb w w.heap.size x) (hl : x.legs.length ≤ 65536) (nb nf : FuncId) (cap : Nat → Array Value) (B : Od) (F : Bool)
  (hget : ∀ p, getM (shapesM p) x.kind = some (.agg #[.func (.func nb) #[] #[], .func (.func nf) #[] (cap p)]))
  (eb : ∀ args w, (callFunc nb args).run Tryz.prog w = .ok (.enter nb args) w) (ef : ∀ args w, (callFunc nf args).run Tryz.prog w = .ok (.enter nf args) w)
  (hB : ∀ W, Below w.heap.size w W → Calls Tryz.prog nb #[x.v] W fun e w' => e = .returned B.v ∧ Below W.heap.size W w')
  (hF : ∀ W p, Below w.heap.size w W → W.cell? ⟨p, 0, none⟩ = some (.func (.func 144) #[] #[]) → Calls Tryz.prog nf (#[x.v] ++ cap p) W fun e w' => e = .returned (.bool F) ∧ Below W.heap.size W w')
  (hBo : ∀ W : World, Okb W W.heap.size x → Okb W W.heap.size B) (hBl : B.legs.length ≤ 65536) :
  Calls Tryz.prog 59 #[x.v] w fun e w' => e = .returned (.bool (((decide (0 ≤ x.client) && decide (x.client ≤ 9)) && (decide (1 ≤ x.seq) && decide (x.seq ≤ 999))) && (sameB x (dress x B) && F))) ∧ Below w.heap.size w w' := by
 have hb1 := (Below.refl w.heap.size w).alloc (Nat.le_refl _) (.cells #[i64 x.client, i64 x.seq, i64 x.kind, .string x.acct, .string x.peer, i64 x.sum, .slice x.la x.legs.length x.lc, i64 x.period, i64 x.hold, .string x.note] 37)
 have hw1 : (w.alloc (.cells #[i64 x.client, i64 x.seq, i64 x.kind, .string x.acct, .string x.peer, i64 x.sum, .slice x.la x.legs.length x.lc, i64 x.period, i64 x.hold, .string x.note] 37)).heap.size = w.heap.size + 1 := by simp
 have c0 : (w.alloc (.cells #[i64 x.client, i64 x.seq, i64 x.kind, .string x.acct, .string x.peer, i64 x.sum, .slice x.la x.legs.length x.lc, i64 x.period, i64 x.hold, .string x.note] 37)).cell? ⟨w.heap.size, 0, none⟩ = some (i64 x.client) := cell_of_row _ w.heap.size 0 _ _ (0, 0) (heap_alloc_new w _)
 have c1 : (w.alloc (.cells #[i64 x.client, i64 x.seq, i64 x.kind, .string x.acct, .string x.peer, i64 x.sum, .slice x.la x.legs.length x.lc, i64 x.period, i64 x.hold, .string x.note] 37)).cell? ⟨w.heap.size, 1, none⟩ = some (i64 x.seq) := cell_of_row _ w.heap.size 1 _ _ (0, 0) (heap_alloc_new w _)
 have c2 : (w.alloc (.cells #[i64 x.client, i64 x.seq, i64 x.kind, .string x.acct, .string x.peer, i64 x.sum, .slice x.la x.legs.length x.lc, i64 x.period, i64 x.hold, .string x.note] 37)).cell? ⟨w.heap.size, 2, none⟩ = some (i64 x.kind) := cell_of_row _ w.heap.size 2 _ _ (0, 0) (heap_alloc_new w _)
 have c3 : (w.alloc (.cells #[i64 x.client, i64 x.seq, i64 x.kind, .string x.acct, .string x.peer, i64 x.sum, .slice x.la x.legs.length x.lc, i64 x.period, i64 x.hold, .string x.note] 37)).cell? ⟨w.heap.size, 3, none⟩ = some (.string x.acct) := cell_of_row _ w.heap.size 3 _ _ (0, 0) (heap_alloc_new w _)
 have c4 : (w.alloc (.cells #[i64 x.client, i64 x.seq, i64 x.kind, .string x.acct, .string x.peer, i64 x.sum, .slice x.la x.legs.length x.lc, i64 x.period, i64 x.hold, .string x.note] 37)).cell? ⟨w.heap.size, 4, none⟩ = some (.string x.peer) := cell_of_row _ w.heap.size 4 _ _ (0, 0) (heap_alloc_new w _)
 have c5 : (w.alloc (.cells #[i64 x.client, i64 x.seq, i64 x.kind, .string x.acct, .string x.peer, i64 x.sum, .slice x.la x.legs.length x.lc, i64 x.period, i64 x.hold, .string x.note] 37)).cell? ⟨w.heap.size, 5, none⟩ = some (i64 x.sum) := cell_of_row _ w.heap.size 5 _ _ (0, 0) (heap_alloc_new w _)
 have c6 : (w.alloc (.cells #[i64 x.client, i64 x.seq, i64 x.kind, .string x.acct, .string x.peer, i64 x.sum, .slice x.la x.legs.length x.lc, i64 x.period, i64 x.hold, .string x.note] 37)).cell? ⟨w.heap.size, 6, none⟩ = some (.slice x.la x.legs.length x.lc) := cell_of_row _ w.heap.size 6 _ _ (0, 0) (heap_alloc_new w _)
 have c7 : (w.alloc (.cells #[i64 x.client, i64 x.seq, i64 x.kind, .string x.acct, .string x.peer, i64 x.sum, .slice x.la x.legs.length x.lc, i64 x.period, i64 x.hold, .string x.note] 37)).cell? ⟨w.heap.size, 7, none⟩ = some (i64 x.period) := cell_of_row _ w.heap.size 7 _ _ (0, 0) (heap_alloc_new w _)
 have c8 : (w.alloc (.cells #[i64 x.client, i64 x.seq, i64 x.kind, .string x.acct, .string x.peer, i64 x.sum, .slice x.la x.legs.length x.lc, i64 x.period, i64 x.hold, .string x.note] 37)).cell? ⟨w.heap.size, 8, none⟩ = some (i64 x.hold) := cell_of_row _ w.heap.size 8 _ _ (0, 0) (heap_alloc_new w _)
 have c9 : (w.alloc (.cells #[i64 x.client, i64 x.seq, i64 x.kind, .string x.acct, .string x.peer, i64 x.sum, .slice x.la x.legs.length x.lc, i64 x.period, i64 x.hold, .string x.note] 37)).cell? ⟨w.heap.size, 9, none⟩ = some (.string x.note) := cell_of_row _ w.heap.size 9 _ _ (0, 0) (heap_alloc_new w _)
 unfold Od.v
 go_enter Tryz.func59, Tryz.ntmps59
 go_wp2_with fail
 generalize w.alloc (.cells #[i64 x.client, i64 x.seq, i64 x.kind, .string x.acct, .string x.peer, i64 x.sum, .slice x.la x.legs.length x.lc, i64 x.period, i64 x.hold, .string x.note] 37) = W1 at *
 have Hw1 := Lib.hid hw1
 clear hw1
 have h0 := (Below.refl W1.heap.size W1).drew
 have hSS : ∀ V, Below W1.heap.size W1 V → (fun V : World => Below W1.heap.size W1 V ∧ V.cell? ⟨w.heap.size, 2, none⟩ = some (i64 x.kind)) V := fun V h => ⟨h, (h.cell (World.block_lt_of_cell? _ _ c2)).trans c2⟩
 go_region_held3 (fun V => Below W1.heap.size W1 V ∧ V.cell? ⟨w.heap.size, 2, none⟩ = some (i64 x.kind)) (first | exact hSS _ h0 | exact hSS _ (by assumption) | exact hSS _ (h0.alloc (Nat.le_refl _) _) | exact hSS _ (hb2.alloc hb2.size _) | (refine hSS _ (Below.setCell (Below.alloc hb2 hb2.size _) hb2.size _)) | exact hSS _ (Below.setCell (Below.setCell hb2 (p := ⟨W1.heap.size, 0, none⟩) (Nat.le_refl _) _) (p := ⟨W1.heap.size, 1, none⟩) (Nat.le_refl _) _))
  (first
   | (go_at_call 102; refine (shapes_c _).mono ?_; rintro e w2 ⟨rfl, hm2, hc2, hF2⟩; have hb2 := below_on (show Below W1.heap.size W1 _ from by first | exact h0 | exact h0.alloc (Nat.le_refl _) _) (Nat.le_refl _) hF2; have hlk := run_lookup (P := Tryz.prog) intKey Tryz.underlying199 hm2 x.kind (.agg #[.nilFunc, .nilFunc]) (by kernel_rfl) true; have hm3 := hm2.later ((Below.refl w2.heap.size w2).alloc (Nat.le_refl _) (.cells #[.nilFunc, .nilFunc] 197)); have hlk2 := run_lookup (P := Tryz.prog) intKey Tryz.underlying199 hm3 x.kind (.agg #[.nilFunc, .nilFunc]) (by kernel_rfl) true; rw [hget] at hlk hlk2; simp at hlk hlk2; (try (have hg87 : w2.heap[W1.heap.size]? = some (.cells #[.nilFunc, .nilFunc] 197 (0, 0)) := (hF2.block W1.heap.size (by simp)).trans (heap_alloc_new W1.drew _); have f87 := frozen_of_row w2 W1.heap.size 0 _ _ hg87; have f88 := frozen_of_row w2 W1.heap.size 1 _ _ hg87; have d87 := cell_of_row w2 W1.heap.size 0 _ _ (0, 0) hg87; have d88 := cell_of_row w2 W1.heap.size 1 _ _ (0, 0) hg87; simp only [List.getElem?_toArray, List.getElem?_cons_zero, List.getElem?_cons_succ] at d87 d88)); clear hm2 hm3 hF2))
 ·rename_i hh
  have hD := hh.1
  have e0 := cell_of_row (w2.alloc (.cells #[.func (.func nb) #[] #[], .func (.func nf) #[] (cap W1.heap.size)] 197)) w2.heap.size 0 _ _ (0, 0) (heap_alloc_new w2 (.cells #[.func (.func nb) #[] #[], .func (.func nf) #[] (cap W1.heap.size)] 197))
  have e1 := cell_of_row (w2.alloc (.cells #[.func (.func nb) #[] #[], .func (.func nf) #[] (cap W1.heap.size)] 197)) w2.heap.size 1 _ _ (0, 0) (heap_alloc_new w2 (.cells #[.func (.func nb) #[] #[], .func (.func nf) #[] (cap W1.heap.size)] 197))
  simp only [List.getElem?_toArray, List.getElem?_cons_zero, List.getElem?_cons_succ] at e0 e1
  have ep : (w2.alloc (.cells #[.func (.func nb) #[] #[], .func (.func nf) #[] (cap W1.heap.size)] 197)).cell? ⟨W1.heap.size, 0, none⟩ = some (.func (.func 144) #[] #[]) := (World.cell?_alloc_lt (a := ⟨W1.heap.size, 0, none⟩) w2 _ (World.block_lt_of_cell? _ _ hc2)).trans hc2
  generalize w2.alloc (.cells #[.func (.func nb) #[] #[], .func (.func nf) #[] (cap W1.heap.size)] 197) = W3 at *
  generalize w2.heap.size = q at *
  clear hc2 hlk hlk2 hh h0 hSS hb2
  have hb3 := below_on hb1 (Nat.le_refl _) hD
  have c0 := (hD.cell (World.block_lt_of_cell? _ _ c0)).trans c0
  have c1 := (hD.cell (World.block_lt_of_cell? _ _ c1)).trans c1
  have c2 := (hD.cell (World.block_lt_of_cell? _ _ c2)).trans c2
  have c3 := (hD.cell (World.block_lt_of_cell? _ _ c3)).trans c3
  have c4 := (hD.cell (World.block_lt_of_cell? _ _ c4)).trans c4
  have c5 := (hD.cell (World.block_lt_of_cell? _ _ c5)).trans c5
  have c6 := (hD.cell (World.block_lt_of_cell? _ _ c6)).trans c6
  have c7 := (hD.cell (World.block_lt_of_cell? _ _ c7)).trans c7
  have c8 := (hD.cell (World.block_lt_of_cell? _ _ c8)).trans c8
  have c9 := (hD.cell (World.block_lt_of_cell? _ _ c9)).trans c9
  by_cases h1 : x.client < 0
  ·have g1 : decide (x.client < 0) = true := decide_eq_true h1
   have Hs := Lib.hid (show (((decide (0 ≤ x.client) && decide (x.client ≤ 9)) && (decide (1 ≤ x.seq) && decide (x.seq ≤ 999))) && (sameB x (dress x B) && F)) = false by rw [decide_eq_false (show ¬ 0 ≤ x.client by omega)]; simp)
   clear h1
   go_wp2
   go_ret
   exact ⟨by rw [Hs.out]; rfl, hb3⟩
  have g1 : decide (x.client < 0) = false := decide_eq_false h1
  by_cases h2 : 9 < x.client
  ·have g2 : decide (9 < x.client) = true := decide_eq_true h2
   have Hs := Lib.hid (show (((decide (0 ≤ x.client) && decide (x.client ≤ 9)) && (decide (1 ≤ x.seq) && decide (x.seq ≤ 999))) && (sameB x (dress x B) && F)) = false by rw [decide_eq_false (show ¬ x.client ≤ 9 by omega)]; simp)
   clear h1 h2
   go_wp2
   go_ret
   exact ⟨by rw [Hs.out]; rfl, hb3⟩
  have g2 : decide (9 < x.client) = false := decide_eq_false h2
  by_cases h3 : x.seq < 1
  ·have g3 : decide (x.seq < 1) = true := decide_eq_true h3
   have Hs := Lib.hid (show (((decide (0 ≤ x.client) && decide (x.client ≤ 9)) && (decide (1 ≤ x.seq) && decide (x.seq ≤ 999))) && (sameB x (dress x B) && F)) = false by rw [decide_eq_false (show ¬ 1 ≤ x.seq by omega)]; simp)
   clear h1 h2 h3
   go_wp2
   go_ret
   exact ⟨by rw [Hs.out]; rfl, hb3⟩
  have g3 : decide (x.seq < 1) = false := decide_eq_false h3
  by_cases h4 : 999 < x.seq
  ·have g4 : decide (999 < x.seq) = true := decide_eq_true h4
   have Hs := Lib.hid (show (((decide (0 ≤ x.client) && decide (x.client ≤ 9)) && (decide (1 ≤ x.seq) && decide (x.seq ≤ 999))) && (sameB x (dress x B) && F)) = false by rw [decide_eq_false (show ¬ x.seq ≤ 999 by omega)]; simp)
   clear h1 h2 h3 h4
   go_wp2
   go_ret
   exact ⟨by rw [Hs.out]; rfl, hb3⟩
  have g4 : decide (999 < x.seq) = false := decide_eq_false h4
  have Hs := Lib.hid (show (((decide (0 ≤ x.client) && decide (x.client ≤ 9)) && (decide (1 ≤ x.seq) && decide (x.seq ≤ 999))) && (sameB x (dress x B) && F)) = (sameB x (dress x B) && F) by rw [decide_eq_true (show 0 ≤ x.client by omega), decide_eq_true (show x.client ≤ 9 by omega), decide_eq_true (show 1 ≤ x.seq by omega), decide_eq_true (show x.seq ≤ 999 by omega)]; rfl)
  clear h1 h2 h3 h4
  go_wp2_with fail
  refine (hB _ hb3).mono ?_
  rintro e w4 ⟨rfl, hF4⟩
  have c0 := (hF4.cell (World.block_lt_of_cell? _ _ c0)).trans c0
  have c1 := (hF4.cell (World.block_lt_of_cell? _ _ c1)).trans c1
  have c2 := (hF4.cell (World.block_lt_of_cell? _ _ c2)).trans c2
  have c3 := (hF4.cell (World.block_lt_of_cell? _ _ c3)).trans c3
  have c4 := (hF4.cell (World.block_lt_of_cell? _ _ c4)).trans c4
  have c5 := (hF4.cell (World.block_lt_of_cell? _ _ c5)).trans c5
  have c6 := (hF4.cell (World.block_lt_of_cell? _ _ c6)).trans c6
  have c7 := (hF4.cell (World.block_lt_of_cell? _ _ c7)).trans c7
  have c8 := (hF4.cell (World.block_lt_of_cell? _ _ c8)).trans c8
  have c9 := (hF4.cell (World.block_lt_of_cell? _ _ c9)).trans c9
  have e1 := (hF4.cell (World.block_lt_of_cell? _ _ e1)).trans e1
  have ep := (hF4.cell (World.block_lt_of_cell? _ _ ep)).trans ep
  have hb4 := below_on hb3 (Nat.le_refl _) hF4
  clear hF4 e0 g1 g2 g3 g4 hD
  unfold Od.v
  go_wp2_with fail
  have hs5 : w.heap.size < w4.heap.size := World.block_lt_of_cell? _ _ c0
  have hlp := World.block_lt_of_cell? _ _ ep
  have hlq := World.block_lt_of_cell? _ _ e1
  have hB5 := (Below.refl w4.heap.size w4).alloc (Nat.le_refl _) (.cells #[i64 B.client, i64 B.seq, i64 B.kind, .string B.acct, .string B.peer, i64 B.sum, .slice B.la B.legs.length B.lc, i64 B.period, i64 B.hold, .string B.note] 37)
  have hg5 := heap_alloc_new w4 (.cells #[i64 B.client, i64 B.seq, i64 B.kind, .string B.acct, .string B.peer, i64 B.sum, .slice B.la B.legs.length B.lc, i64 B.period, i64 B.hold, .string B.note] 37)
  have c0 := (hB5.cell (World.block_lt_of_cell? _ _ c0)).trans c0
  have c1 := (hB5.cell (World.block_lt_of_cell? _ _ c1)).trans c1
  have c2 := (hB5.cell (World.block_lt_of_cell? _ _ c2)).trans c2
  have c3 := (hB5.cell (World.block_lt_of_cell? _ _ c3)).trans c3
  have c4 := (hB5.cell (World.block_lt_of_cell? _ _ c4)).trans c4
  have c5 := (hB5.cell (World.block_lt_of_cell? _ _ c5)).trans c5
  have c6 := (hB5.cell (World.block_lt_of_cell? _ _ c6)).trans c6
  have c7 := (hB5.cell (World.block_lt_of_cell? _ _ c7)).trans c7
  have c8 := (hB5.cell (World.block_lt_of_cell? _ _ c8)).trans c8
  have c9 := (hB5.cell (World.block_lt_of_cell? _ _ c9)).trans c9
  have e1 := (hB5.cell (World.block_lt_of_cell? _ _ e1)).trans e1
  have ep := (hB5.cell hlp).trans ep
  have hb5 := below_on hb4 (Nat.le_refl _) hB5
  generalize w4.alloc (.cells #[i64 B.client, i64 B.seq, i64 B.kind, .string B.acct, .string B.peer, i64 B.sum, .slice B.la B.legs.length B.lc, i64 B.period, i64 B.hold, .string B.note] 37) = W5 at *
  generalize w4.heap.size = g5 at *
  have k5 := fun j => cell_of_row W5 g5 j _ _ (0, 0) hg5
  have f5 := fun j => frozen_of_row W5 g5 j _ _ hg5
  have hS5 : ∀ V, Below g5 W5 V → (fun V : World => Below g5 W5 V ∧ V.cell? ⟨w.heap.size, 0, none⟩ = some (i64 x.client) ∧ V.cell? ⟨w.heap.size, 1, none⟩ = some (i64 x.seq) ∧ V.cell? ⟨w.heap.size, 2, none⟩ = some (i64 x.kind)) V := fun V h => ⟨h, (h.cell (p := ⟨w.heap.size, 0, none⟩) hs5).trans c0, (h.cell (p := ⟨w.heap.size, 1, none⟩) hs5).trans c1, (h.cell (p := ⟨w.heap.size, 2, none⟩) hs5).trans c2⟩
  have B2 := Below.setCell (Below.setCell (Below.refl g5 W5) (p := ⟨g5, 0, none⟩) (Nat.le_refl _) (i64 x.client)) (p := ⟨g5, 1, none⟩) (Nat.le_refl _) (i64 x.seq)
  have B3 := Below.setCell B2 (p := ⟨g5, 2, none⟩) (Nat.le_refl _) (i64 x.kind)
  go_region_held3 (fun V => Below g5 W5 V ∧ V.cell? ⟨w.heap.size, 0, none⟩ = some (i64 x.client) ∧ V.cell? ⟨w.heap.size, 1, none⟩ = some (i64 x.seq) ∧ V.cell? ⟨w.heap.size, 2, none⟩ = some (i64 x.kind)) (first | exact hS5 _ (Below.refl g5 W5).drew | exact hS5 _ B2.drew | exact hS5 _ B3.drew) (fail)
  rename_i hh
  have hg6 := heap_setCell_same _ g5 2 _ _ (i64 x.kind) (heap_setCell_same _ g5 1 _ _ (i64 x.seq) (heap_setCell_same _ g5 0 _ _ (i64 x.client) hg5))
  simp only [List.setIfInBounds_toArray, List.set_cons_zero, List.set_cons_succ] at hg6
  have B4 := B3.drew
  have hg7 : (((W5.setCell ⟨g5, 0, none⟩ (i64 x.client)).setCell ⟨g5, 1, none⟩ (i64 x.seq)).setCell ⟨g5, 2, none⟩ (i64 x.kind)).drew.heap[g5]? = some (.cells #[i64 x.client, i64 x.seq, i64 x.kind, .string B.acct, .string B.peer, i64 B.sum, .slice B.la B.legs.length B.lc, i64 B.period, i64 B.hold, .string B.note] 37 (0, 0)) := hg6
  have c0 := (B4.cell (p := ⟨w.heap.size, 0, none⟩) hs5).trans c0
  have c1 := (B4.cell (p := ⟨w.heap.size, 1, none⟩) hs5).trans c1
  have c2 := (B4.cell (p := ⟨w.heap.size, 2, none⟩) hs5).trans c2
  have c3 := (B4.cell (p := ⟨w.heap.size, 3, none⟩) hs5).trans c3
  have c4 := (B4.cell (p := ⟨w.heap.size, 4, none⟩) hs5).trans c4
  have c5 := (B4.cell (p := ⟨w.heap.size, 5, none⟩) hs5).trans c5
  have c6 := (B4.cell (p := ⟨w.heap.size, 6, none⟩) hs5).trans c6
  have c7 := (B4.cell (p := ⟨w.heap.size, 7, none⟩) hs5).trans c7
  have c8 := (B4.cell (p := ⟨w.heap.size, 8, none⟩) hs5).trans c8
  have c9 := (B4.cell (p := ⟨w.heap.size, 9, none⟩) hs5).trans c9
  have e1 := (B4.cell hlq).trans e1
  have ep := (B4.cell hlp).trans ep
  have hb7 := hb5.trans (B4.mono (Nat.le_of_lt hs5))
  clear hh B2 B3 B4 hS5 k5 f5 hg5 hg6 hB5
  generalize (((W5.setCell ⟨g5, 0, none⟩ (i64 x.client)).setCell ⟨g5, 1, none⟩ (i64 x.seq)).setCell ⟨g5, 2, none⟩ (i64 x.kind)).drew = W7 at *
  have k0 := cell_of_row W7 g5 0 _ _ (0, 0) hg7
  have k1 := cell_of_row W7 g5 1 _ _ (0, 0) hg7
  have k2 := cell_of_row W7 g5 2 _ _ (0, 0) hg7
  have k3 := cell_of_row W7 g5 3 _ _ (0, 0) hg7
  have k4 := cell_of_row W7 g5 4 _ _ (0, 0) hg7
  have k5 := cell_of_row W7 g5 5 _ _ (0, 0) hg7
  have k6 := cell_of_row W7 g5 6 _ _ (0, 0) hg7
  have k7 := cell_of_row W7 g5 7 _ _ (0, 0) hg7
  have k8 := cell_of_row W7 g5 8 _ _ (0, 0) hg7
  have k9 := cell_of_row W7 g5 9 _ _ (0, 0) hg7
  simp only [List.getElem?_toArray, List.getElem?_cons_zero, List.getElem?_cons_succ] at k0 k1 k2 k3 k4 k5 k6 k7 k8 k9
  clear hg7
  have okx := Okb.later hx hb7
  have HOx := Lib.hid okx
  have HOB := Lib.hid (show Okb W7 W7.heap.size (dress x B) from by obtain ⟨ka, kb, kc, kd⟩ := hBo W7 okx; exact ⟨ka, kb, kc, kd⟩)
  clear okx
  go_wp2_with fail
  refine (same_c x (dress x B) _ HOx.out HOB.out hl hBl).mono ?_
  rintro e w8 ⟨rfl, hF8⟩
  have c0 := (hF8.cell (World.block_lt_of_cell? _ _ c0)).trans c0
  have c1 := (hF8.cell (World.block_lt_of_cell? _ _ c1)).trans c1
  have c2 := (hF8.cell (World.block_lt_of_cell? _ _ c2)).trans c2
  have c3 := (hF8.cell (World.block_lt_of_cell? _ _ c3)).trans c3
  have c4 := (hF8.cell (World.block_lt_of_cell? _ _ c4)).trans c4
  have c5 := (hF8.cell (World.block_lt_of_cell? _ _ c5)).trans c5
  have c6 := (hF8.cell (World.block_lt_of_cell? _ _ c6)).trans c6
  have c7 := (hF8.cell (World.block_lt_of_cell? _ _ c7)).trans c7
  have c8 := (hF8.cell (World.block_lt_of_cell? _ _ c8)).trans c8
  have c9 := (hF8.cell (World.block_lt_of_cell? _ _ c9)).trans c9
  have e1 := (hF8.cell (World.block_lt_of_cell? _ _ e1)).trans e1
  have ep := (hF8.cell (World.block_lt_of_cell? _ _ ep)).trans ep
  have hb8 := below_on hb7 (Nat.le_refl _) hF8
  clear hF8 k0 k1 k2 k3 k4 k5 k6 k7 k8 k9
  by_cases hsm : sameB x (dress x B) = true
  ·rw [hsm]
   have Hsm := Lib.hid hsm
   clear hsm
   go_wp2_with fail
   refine (hF _ (W1.heap.size) hb8 ep).mono ?_
   rintro e w9 ⟨rfl, hF9⟩
   go_wp2
   go_ret
   exact ⟨by rw [Hs.out, Hsm.out, Bool.true_and]; rfl, below_on hb8 (Nat.le_refl _) hF9⟩
  ·have hsm : sameB x (dress x B) = false := by simpa using hsm
   rw [hsm]
   have Hsm := Lib.hid hsm
   clear hsm
   go_wp2
   go_ret
   exact ⟨by rw [Hs.out, Hsm.out, Bool.false_and]; rfl, hb8⟩
 ·rename_i hh
  have hD := hh.1
  have e0 := cell_of_row (w2.alloc (.cells #[.func (.func nb) #[] #[], .func (.func nf) #[] (cap W1.heap.size)] 197)) w2.heap.size 0 _ _ (0, 0) (heap_alloc_new w2 (.cells #[.func (.func nb) #[] #[], .func (.func nf) #[] (cap W1.heap.size)] 197))
  have e1 := cell_of_row (w2.alloc (.cells #[.func (.func nb) #[] #[], .func (.func nf) #[] (cap W1.heap.size)] 197)) w2.heap.size 1 _ _ (0, 0) (heap_alloc_new w2 (.cells #[.func (.func nb) #[] #[], .func (.func nf) #[] (cap W1.heap.size)] 197))
  simp only [List.getElem?_toArray, List.getElem?_cons_zero, List.getElem?_cons_succ] at e0 e1
  have ep : (w2.alloc (.cells #[.func (.func nb) #[] #[], .func (.func nf) #[] (cap W1.heap.size)] 197)).cell? ⟨W1.heap.size, 0, none⟩ = some (.func (.func 144) #[] #[]) := (World.cell?_alloc_lt (a := ⟨W1.heap.size, 0, none⟩) w2 _ (World.block_lt_of_cell? _ _ hc2)).trans hc2
  generalize w2.alloc (.cells #[.func (.func nb) #[] #[], .func (.func nf) #[] (cap W1.heap.size)] 197) = W3 at *
  generalize w2.heap.size = q at *
  clear hc2 hlk hlk2 hh h0 hSS hb2
  have hb3 := below_on hb1 (Nat.le_refl _) hD
  have c0 := (hD.cell (World.block_lt_of_cell? _ _ c0)).trans c0
  have c1 := (hD.cell (World.block_lt_of_cell? _ _ c1)).trans c1
  have c2 := (hD.cell (World.block_lt_of_cell? _ _ c2)).trans c2
  have c3 := (hD.cell (World.block_lt_of_cell? _ _ c3)).trans c3
  have c4 := (hD.cell (World.block_lt_of_cell? _ _ c4)).trans c4
  have c5 := (hD.cell (World.block_lt_of_cell? _ _ c5)).trans c5
  have c6 := (hD.cell (World.block_lt_of_cell? _ _ c6)).trans c6
  have c7 := (hD.cell (World.block_lt_of_cell? _ _ c7)).trans c7
  have c8 := (hD.cell (World.block_lt_of_cell? _ _ c8)).trans c8
  have c9 := (hD.cell (World.block_lt_of_cell? _ _ c9)).trans c9
  by_cases h1 : x.client < 0
  ·have g1 : decide (x.client < 0) = true := decide_eq_true h1
   have Hs := Lib.hid (show (((decide (0 ≤ x.client) && decide (x.client ≤ 9)) && (decide (1 ≤ x.seq) && decide (x.seq ≤ 999))) && (sameB x (dress x B) && F)) = false by rw [decide_eq_false (show ¬ 0 ≤ x.client by omega)]; simp)
   clear h1
   go_wp2
   go_ret
   exact ⟨by rw [Hs.out]; rfl, hb3⟩
  have g1 : decide (x.client < 0) = false := decide_eq_false h1
  by_cases h2 : 9 < x.client
  ·have g2 : decide (9 < x.client) = true := decide_eq_true h2
   have Hs := Lib.hid (show (((decide (0 ≤ x.client) && decide (x.client ≤ 9)) && (decide (1 ≤ x.seq) && decide (x.seq ≤ 999))) && (sameB x (dress x B) && F)) = false by rw [decide_eq_false (show ¬ x.client ≤ 9 by omega)]; simp)
   clear h1 h2
   go_wp2
   go_ret
   exact ⟨by rw [Hs.out]; rfl, hb3⟩
  have g2 : decide (9 < x.client) = false := decide_eq_false h2
  by_cases h3 : x.seq < 1
  ·have g3 : decide (x.seq < 1) = true := decide_eq_true h3
   have Hs := Lib.hid (show (((decide (0 ≤ x.client) && decide (x.client ≤ 9)) && (decide (1 ≤ x.seq) && decide (x.seq ≤ 999))) && (sameB x (dress x B) && F)) = false by rw [decide_eq_false (show ¬ 1 ≤ x.seq by omega)]; simp)
   clear h1 h2 h3
   go_wp2
   go_ret
   exact ⟨by rw [Hs.out]; rfl, hb3⟩
  have g3 : decide (x.seq < 1) = false := decide_eq_false h3
  by_cases h4 : 999 < x.seq
  ·have g4 : decide (999 < x.seq) = true := decide_eq_true h4
   have Hs := Lib.hid (show (((decide (0 ≤ x.client) && decide (x.client ≤ 9)) && (decide (1 ≤ x.seq) && decide (x.seq ≤ 999))) && (sameB x (dress x B) && F)) = false by rw [decide_eq_false (show ¬ x.seq ≤ 999 by omega)]; simp)
   clear h1 h2 h3 h4
   go_wp2
   go_ret
   exact ⟨by rw [Hs.out]; rfl, hb3⟩
  have g4 : decide (999 < x.seq) = false := decide_eq_false h4
  have Hs := Lib.hid (show (((decide (0 ≤ x.client) && decide (x.client ≤ 9)) && (decide (1 ≤ x.seq) && decide (x.seq ≤ 999))) && (sameB x (dress x B) && F)) = (sameB x (dress x B) && F) by rw [decide_eq_true (show 0 ≤ x.client by omega), decide_eq_true (show x.client ≤ 9 by omega), decide_eq_true (show 1 ≤ x.seq by omega), decide_eq_true (show x.seq ≤ 999 by omega)]; rfl)
  clear h1 h2 h3 h4
  go_wp2_with fail
  refine (hB _ hb3).mono ?_
  rintro e w4 ⟨rfl, hF4⟩
  have c0 := (hF4.cell (World.block_lt_of_cell? _ _ c0)).trans c0
  have c1 := (hF4.cell (World.block_lt_of_cell? _ _ c1)).trans c1
  have c2 := (hF4.cell (World.block_lt_of_cell? _ _ c2)).trans c2
  have c3 := (hF4.cell (World.block_lt_of_cell? _ _ c3)).trans c3
  have c4 := (hF4.cell (World.block_lt_of_cell? _ _ c4)).trans c4
  have c5 := (hF4.cell (World.block_lt_of_cell? _ _ c5)).trans c5
  have c6 := (hF4.cell (World.block_lt_of_cell? _ _ c6)).trans c6
  have c7 := (hF4.cell (World.block_lt_of_cell? _ _ c7)).trans c7
  have c8 := (hF4.cell (World.block_lt_of_cell? _ _ c8)).trans c8
  have c9 := (hF4.cell (World.block_lt_of_cell? _ _ c9)).trans c9
  have e1 := (hF4.cell (World.block_lt_of_cell? _ _ e1)).trans e1
  have ep := (hF4.cell (World.block_lt_of_cell? _ _ ep)).trans ep
  have hb4 := below_on hb3 (Nat.le_refl _) hF4
  clear hF4 e0 g1 g2 g3 g4 hD
  unfold Od.v
  go_wp2_with fail
  have hs5 : w.heap.size < w4.heap.size := World.block_lt_of_cell? _ _ c0
  have hlp := World.block_lt_of_cell? _ _ ep
  have hlq := World.block_lt_of_cell? _ _ e1
  have hB5 := (Below.refl w4.heap.size w4).alloc (Nat.le_refl _) (.cells #[i64 B.client, i64 B.seq, i64 B.kind, .string B.acct, .string B.peer, i64 B.sum, .slice B.la B.legs.length B.lc, i64 B.period, i64 B.hold, .string B.note] 37)
  have hg5 := heap_alloc_new w4 (.cells #[i64 B.client, i64 B.seq, i64 B.kind, .string B.acct, .string B.peer, i64 B.sum, .slice B.la B.legs.length B.lc, i64 B.period, i64 B.hold, .string B.note] 37)
  have c0 := (hB5.cell (World.block_lt_of_cell? _ _ c0)).trans c0
  have c1 := (hB5.cell (World.block_lt_of_cell? _ _ c1)).trans c1
  have c2 := (hB5.cell (World.block_lt_of_cell? _ _ c2)).trans c2
  have c3 := (hB5.cell (World.block_lt_of_cell? _ _ c3)).trans c3
  have c4 := (hB5.cell (World.block_lt_of_cell? _ _ c4)).trans c4
  have c5 := (hB5.cell (World.block_lt_of_cell? _ _ c5)).trans c5
  have c6 := (hB5.cell (World.block_lt_of_cell? _ _ c6)).trans c6
  have c7 := (hB5.cell (World.block_lt_of_cell? _ _ c7)).trans c7
  have c8 := (hB5.cell (World.block_lt_of_cell? _ _ c8)).trans c8
  have c9 := (hB5.cell (World.block_lt_of_cell? _ _ c9)).trans c9
  have e1 := (hB5.cell (World.block_lt_of_cell? _ _ e1)).trans e1
  have ep := (hB5.cell hlp).trans ep
  have hb5 := below_on hb4 (Nat.le_refl _) hB5
  generalize w4.alloc (.cells #[i64 B.client, i64 B.seq, i64 B.kind, .string B.acct, .string B.peer, i64 B.sum, .slice B.la B.legs.length B.lc, i64 B.period, i64 B.hold, .string B.note] 37) = W5 at *
  generalize w4.heap.size = g5 at *
  have k5 := fun j => cell_of_row W5 g5 j _ _ (0, 0) hg5
  have f5 := fun j => frozen_of_row W5 g5 j _ _ hg5
  have hS5 : ∀ V, Below g5 W5 V → (fun V : World => Below g5 W5 V ∧ V.cell? ⟨w.heap.size, 0, none⟩ = some (i64 x.client) ∧ V.cell? ⟨w.heap.size, 1, none⟩ = some (i64 x.seq) ∧ V.cell? ⟨w.heap.size, 2, none⟩ = some (i64 x.kind)) V := fun V h => ⟨h, (h.cell (p := ⟨w.heap.size, 0, none⟩) hs5).trans c0, (h.cell (p := ⟨w.heap.size, 1, none⟩) hs5).trans c1, (h.cell (p := ⟨w.heap.size, 2, none⟩) hs5).trans c2⟩
  have B2 := Below.setCell (Below.setCell (Below.refl g5 W5) (p := ⟨g5, 0, none⟩) (Nat.le_refl _) (i64 x.client)) (p := ⟨g5, 1, none⟩) (Nat.le_refl _) (i64 x.seq)
  have B3 := Below.setCell B2 (p := ⟨g5, 2, none⟩) (Nat.le_refl _) (i64 x.kind)
  go_region_held3 (fun V => Below g5 W5 V ∧ V.cell? ⟨w.heap.size, 0, none⟩ = some (i64 x.client) ∧ V.cell? ⟨w.heap.size, 1, none⟩ = some (i64 x.seq) ∧ V.cell? ⟨w.heap.size, 2, none⟩ = some (i64 x.kind)) (first | exact hS5 _ (Below.refl g5 W5).drew | exact hS5 _ B2.drew | exact hS5 _ B3.drew) (fail)
  rename_i hh
  have hg6 := heap_setCell_same _ g5 2 _ _ (i64 x.kind) (heap_setCell_same _ g5 1 _ _ (i64 x.seq) (heap_setCell_same _ g5 0 _ _ (i64 x.client) hg5))
  simp only [List.setIfInBounds_toArray, List.set_cons_zero, List.set_cons_succ] at hg6
  have B4 := B3.drew
  have hg7 : (((W5.setCell ⟨g5, 0, none⟩ (i64 x.client)).setCell ⟨g5, 1, none⟩ (i64 x.seq)).setCell ⟨g5, 2, none⟩ (i64 x.kind)).drew.heap[g5]? = some (.cells #[i64 x.client, i64 x.seq, i64 x.kind, .string B.acct, .string B.peer, i64 B.sum, .slice B.la B.legs.length B.lc, i64 B.period, i64 B.hold, .string B.note] 37 (0, 0)) := hg6
  have c0 := (B4.cell (p := ⟨w.heap.size, 0, none⟩) hs5).trans c0
  have c1 := (B4.cell (p := ⟨w.heap.size, 1, none⟩) hs5).trans c1
  have c2 := (B4.cell (p := ⟨w.heap.size, 2, none⟩) hs5).trans c2
  have c3 := (B4.cell (p := ⟨w.heap.size, 3, none⟩) hs5).trans c3
  have c4 := (B4.cell (p := ⟨w.heap.size, 4, none⟩) hs5).trans c4
  have c5 := (B4.cell (p := ⟨w.heap.size, 5, none⟩) hs5).trans c5
  have c6 := (B4.cell (p := ⟨w.heap.size, 6, none⟩) hs5).trans c6
  have c7 := (B4.cell (p := ⟨w.heap.size, 7, none⟩) hs5).trans c7
  have c8 := (B4.cell (p := ⟨w.heap.size, 8, none⟩) hs5).trans c8
  have c9 := (B4.cell (p := ⟨w.heap.size, 9, none⟩) hs5).trans c9
  have e1 := (B4.cell hlq).trans e1
  have ep := (B4.cell hlp).trans ep
  have hb7 := hb5.trans (B4.mono (Nat.le_of_lt hs5))
  clear hh B2 B3 B4 hS5 k5 f5 hg5 hg6 hB5
  generalize (((W5.setCell ⟨g5, 0, none⟩ (i64 x.client)).setCell ⟨g5, 1, none⟩ (i64 x.seq)).setCell ⟨g5, 2, none⟩ (i64 x.kind)).drew = W7 at *
  have k0 := cell_of_row W7 g5 0 _ _ (0, 0) hg7
  have k1 := cell_of_row W7 g5 1 _ _ (0, 0) hg7
  have k2 := cell_of_row W7 g5 2 _ _ (0, 0) hg7
  have k3 := cell_of_row W7 g5 3 _ _ (0, 0) hg7
  have k4 := cell_of_row W7 g5 4 _ _ (0, 0) hg7
  have k5 := cell_of_row W7 g5 5 _ _ (0, 0) hg7
  have k6 := cell_of_row W7 g5 6 _ _ (0, 0) hg7
  have k7 := cell_of_row W7 g5 7 _ _ (0, 0) hg7
  have k8 := cell_of_row W7 g5 8 _ _ (0, 0) hg7
  have k9 := cell_of_row W7 g5 9 _ _ (0, 0) hg7
  simp only [List.getElem?_toArray, List.getElem?_cons_zero, List.getElem?_cons_succ] at k0 k1 k2 k3 k4 k5 k6 k7 k8 k9
  clear hg7
  have okx := Okb.later hx hb7
  have HOx := Lib.hid okx
  have HOB := Lib.hid (show Okb W7 W7.heap.size (dress x B) from by obtain ⟨ka, kb, kc, kd⟩ := hBo W7 okx; exact ⟨ka, kb, kc, kd⟩)
  clear okx
  go_wp2_with fail
  refine (same_c x (dress x B) _ HOx.out HOB.out hl hBl).mono ?_
  rintro e w8 ⟨rfl, hF8⟩
  have c0 := (hF8.cell (World.block_lt_of_cell? _ _ c0)).trans c0
  have c1 := (hF8.cell (World.block_lt_of_cell? _ _ c1)).trans c1
  have c2 := (hF8.cell (World.block_lt_of_cell? _ _ c2)).trans c2
  have c3 := (hF8.cell (World.block_lt_of_cell? _ _ c3)).trans c3
  have c4 := (hF8.cell (World.block_lt_of_cell? _ _ c4)).trans c4
  have c5 := (hF8.cell (World.block_lt_of_cell? _ _ c5)).trans c5
  have c6 := (hF8.cell (World.block_lt_of_cell? _ _ c6)).trans c6
  have c7 := (hF8.cell (World.block_lt_of_cell? _ _ c7)).trans c7
  have c8 := (hF8.cell (World.block_lt_of_cell? _ _ c8)).trans c8
  have c9 := (hF8.cell (World.block_lt_of_cell? _ _ c9)).trans c9
  have e1 := (hF8.cell (World.block_lt_of_cell? _ _ e1)).trans e1
  have ep := (hF8.cell (World.block_lt_of_cell? _ _ ep)).trans ep
  have hb8 := below_on hb7 (Nat.le_refl _) hF8
  clear hF8 k0 k1 k2 k3 k4 k5 k6 k7 k8 k9
  by_cases hsm : sameB x (dress x B) = true
  ·rw [hsm]
   have Hsm := Lib.hid hsm
   clear hsm
   go_wp2_with fail
   refine (hF _ (W1.heap.size) hb8 ep).mono ?_
   rintro e w9 ⟨rfl, hF9⟩
   go_wp2
   go_ret
   exact ⟨by rw [Hs.out, Hsm.out, Bool.true_and]; rfl, below_on hb8 (Nat.le_refl _) hF9⟩
  ·have hsm : sameB x (dress x B) = false := by simpa using hsm
   rw [hsm]
   have Hsm := Lib.hid hsm
   clear hsm
   go_wp2
   go_ret
   exact ⟨by rw [Hs.out, Hsm.out, Bool.false_and]; rfl, hb8⟩
 ·rename_i hh
  have hD := hh.1
  have hgs := heap_setCell_same _ W1.heap.size 1 _ _ (.func (.func nf) #[] (cap (W1.heap.size + 1))) (heap_setCell_same _ W1.heap.size 0 _ _ (.func (.func nb) #[] #[]) hg87)
  simp only [List.setIfInBounds_toArray, List.set_cons_zero, List.set_cons_succ] at hgs
  have e0 := cell_of_row _ W1.heap.size 0 _ _ (0, 0) hgs
  have e1 := cell_of_row _ W1.heap.size 1 _ _ (0, 0) hgs
  simp only [List.getElem?_toArray, List.getElem?_cons_zero, List.getElem?_cons_succ] at e0 e1
  have hsz : (W1.alloc (.cells #[.nilFunc, .nilFunc] 197)).drew.heap.size = W1.heap.size + 1 := by simp
  rw [hsz] at hc2
  have ep := (World.cell?_setCell_far (w2.setCell ⟨W1.heap.size, 0, none⟩ (.func (.func nb) #[] #[])) ⟨W1.heap.size, 1, none⟩ ⟨W1.heap.size + 1, 0, none⟩ (.func (.func nf) #[] (cap (W1.heap.size + 1))) (by simp)).trans ((World.cell?_setCell_far w2 ⟨W1.heap.size, 0, none⟩ ⟨W1.heap.size + 1, 0, none⟩ (.func (.func nb) #[] #[]) (by simp)).trans hc2)
  generalize (w2.setCell ⟨W1.heap.size, 0, none⟩ (.func (.func nb) #[] #[])).setCell ⟨W1.heap.size, 1, none⟩ (.func (.func nf) #[] (cap (W1.heap.size + 1))) = W3 at *
  clear hc2 hlk hlk2 hh h0 hSS hb2 hgs hg87 f87 f88 d87 d88 hsz
  have hb3 := below_on hb1 (Nat.le_refl _) hD
  have c0 := (hD.cell (World.block_lt_of_cell? _ _ c0)).trans c0
  have c1 := (hD.cell (World.block_lt_of_cell? _ _ c1)).trans c1
  have c2 := (hD.cell (World.block_lt_of_cell? _ _ c2)).trans c2
  have c3 := (hD.cell (World.block_lt_of_cell? _ _ c3)).trans c3
  have c4 := (hD.cell (World.block_lt_of_cell? _ _ c4)).trans c4
  have c5 := (hD.cell (World.block_lt_of_cell? _ _ c5)).trans c5
  have c6 := (hD.cell (World.block_lt_of_cell? _ _ c6)).trans c6
  have c7 := (hD.cell (World.block_lt_of_cell? _ _ c7)).trans c7
  have c8 := (hD.cell (World.block_lt_of_cell? _ _ c8)).trans c8
  have c9 := (hD.cell (World.block_lt_of_cell? _ _ c9)).trans c9
  by_cases h1 : x.client < 0
  ·have g1 : decide (x.client < 0) = true := decide_eq_true h1
   have Hs := Lib.hid (show (((decide (0 ≤ x.client) && decide (x.client ≤ 9)) && (decide (1 ≤ x.seq) && decide (x.seq ≤ 999))) && (sameB x (dress x B) && F)) = false by rw [decide_eq_false (show ¬ 0 ≤ x.client by omega)]; simp)
   clear h1
   go_wp2
   go_ret
   exact ⟨by rw [Hs.out]; rfl, hb3⟩
  have g1 : decide (x.client < 0) = false := decide_eq_false h1
  by_cases h2 : 9 < x.client
  ·have g2 : decide (9 < x.client) = true := decide_eq_true h2
   have Hs := Lib.hid (show (((decide (0 ≤ x.client) && decide (x.client ≤ 9)) && (decide (1 ≤ x.seq) && decide (x.seq ≤ 999))) && (sameB x (dress x B) && F)) = false by rw [decide_eq_false (show ¬ x.client ≤ 9 by omega)]; simp)
   clear h1 h2
   go_wp2
   go_ret
   exact ⟨by rw [Hs.out]; rfl, hb3⟩
  have g2 : decide (9 < x.client) = false := decide_eq_false h2
  by_cases h3 : x.seq < 1
  ·have g3 : decide (x.seq < 1) = true := decide_eq_true h3
   have Hs := Lib.hid (show (((decide (0 ≤ x.client) && decide (x.client ≤ 9)) && (decide (1 ≤ x.seq) && decide (x.seq ≤ 999))) && (sameB x (dress x B) && F)) = false by rw [decide_eq_false (show ¬ 1 ≤ x.seq by omega)]; simp)
   clear h1 h2 h3
   go_wp2
   go_ret
   exact ⟨by rw [Hs.out]; rfl, hb3⟩
  have g3 : decide (x.seq < 1) = false := decide_eq_false h3
  by_cases h4 : 999 < x.seq
  ·have g4 : decide (999 < x.seq) = true := decide_eq_true h4
   have Hs := Lib.hid (show (((decide (0 ≤ x.client) && decide (x.client ≤ 9)) && (decide (1 ≤ x.seq) && decide (x.seq ≤ 999))) && (sameB x (dress x B) && F)) = false by rw [decide_eq_false (show ¬ x.seq ≤ 999 by omega)]; simp)
   clear h1 h2 h3 h4
   go_wp2
   go_ret
   exact ⟨by rw [Hs.out]; rfl, hb3⟩
  have g4 : decide (999 < x.seq) = false := decide_eq_false h4
  have Hs := Lib.hid (show (((decide (0 ≤ x.client) && decide (x.client ≤ 9)) && (decide (1 ≤ x.seq) && decide (x.seq ≤ 999))) && (sameB x (dress x B) && F)) = (sameB x (dress x B) && F) by rw [decide_eq_true (show 0 ≤ x.client by omega), decide_eq_true (show x.client ≤ 9 by omega), decide_eq_true (show 1 ≤ x.seq by omega), decide_eq_true (show x.seq ≤ 999 by omega)]; rfl)
  clear h1 h2 h3 h4
  go_wp2_with fail
  refine (hB _ hb3).mono ?_
  rintro e w4 ⟨rfl, hF4⟩
  have c0 := (hF4.cell (World.block_lt_of_cell? _ _ c0)).trans c0
  have c1 := (hF4.cell (World.block_lt_of_cell? _ _ c1)).trans c1
  have c2 := (hF4.cell (World.block_lt_of_cell? _ _ c2)).trans c2
  have c3 := (hF4.cell (World.block_lt_of_cell? _ _ c3)).trans c3
  have c4 := (hF4.cell (World.block_lt_of_cell? _ _ c4)).trans c4
  have c5 := (hF4.cell (World.block_lt_of_cell? _ _ c5)).trans c5
  have c6 := (hF4.cell (World.block_lt_of_cell? _ _ c6)).trans c6
  have c7 := (hF4.cell (World.block_lt_of_cell? _ _ c7)).trans c7
  have c8 := (hF4.cell (World.block_lt_of_cell? _ _ c8)).trans c8
  have c9 := (hF4.cell (World.block_lt_of_cell? _ _ c9)).trans c9
  have e1 := (hF4.cell (World.block_lt_of_cell? _ _ e1)).trans e1
  have ep := (hF4.cell (World.block_lt_of_cell? _ _ ep)).trans ep
  have hb4 := below_on hb3 (Nat.le_refl _) hF4
  clear hF4 e0 g1 g2 g3 g4 hD
  unfold Od.v
  go_wp2_with fail
  have hs5 : w.heap.size < w4.heap.size := World.block_lt_of_cell? _ _ c0
  have hlp := World.block_lt_of_cell? _ _ ep
  have hlq := World.block_lt_of_cell? _ _ e1
  have hB5 := (Below.refl w4.heap.size w4).alloc (Nat.le_refl _) (.cells #[i64 B.client, i64 B.seq, i64 B.kind, .string B.acct, .string B.peer, i64 B.sum, .slice B.la B.legs.length B.lc, i64 B.period, i64 B.hold, .string B.note] 37)
  have hg5 := heap_alloc_new w4 (.cells #[i64 B.client, i64 B.seq, i64 B.kind, .string B.acct, .string B.peer, i64 B.sum, .slice B.la B.legs.length B.lc, i64 B.period, i64 B.hold, .string B.note] 37)
  have c0 := (hB5.cell (World.block_lt_of_cell? _ _ c0)).trans c0
  have c1 := (hB5.cell (World.block_lt_of_cell? _ _ c1)).trans c1
  have c2 := (hB5.cell (World.block_lt_of_cell? _ _ c2)).trans c2
  have c3 := (hB5.cell (World.block_lt_of_cell? _ _ c3)).trans c3
  have c4 := (hB5.cell (World.block_lt_of_cell? _ _ c4)).trans c4
  have c5 := (hB5.cell (World.block_lt_of_cell? _ _ c5)).trans c5
  have c6 := (hB5.cell (World.block_lt_of_cell? _ _ c6)).trans c6
  have c7 := (hB5.cell (World.block_lt_of_cell? _ _ c7)).trans c7
  have c8 := (hB5.cell (World.block_lt_of_cell? _ _ c8)).trans c8
  have c9 := (hB5.cell (World.block_lt_of_cell? _ _ c9)).trans c9
  have e1 := (hB5.cell (World.block_lt_of_cell? _ _ e1)).trans e1
  have ep := (hB5.cell hlp).trans ep
  have hb5 := below_on hb4 (Nat.le_refl _) hB5
  generalize w4.alloc (.cells #[i64 B.client, i64 B.seq, i64 B.kind, .string B.acct, .string B.peer, i64 B.sum, .slice B.la B.legs.length B.lc, i64 B.period, i64 B.hold, .string B.note] 37) = W5 at *
  generalize w4.heap.size = g5 at *
  have k5 := fun j => cell_of_row W5 g5 j _ _ (0, 0) hg5
  have f5 := fun j => frozen_of_row W5 g5 j _ _ hg5
  have hS5 : ∀ V, Below g5 W5 V → (fun V : World => Below g5 W5 V ∧ V.cell? ⟨w.heap.size, 0, none⟩ = some (i64 x.client) ∧ V.cell? ⟨w.heap.size, 1, none⟩ = some (i64 x.seq) ∧ V.cell? ⟨w.heap.size, 2, none⟩ = some (i64 x.kind)) V := fun V h => ⟨h, (h.cell (p := ⟨w.heap.size, 0, none⟩) hs5).trans c0, (h.cell (p := ⟨w.heap.size, 1, none⟩) hs5).trans c1, (h.cell (p := ⟨w.heap.size, 2, none⟩) hs5).trans c2⟩
  have B2 := Below.setCell (Below.setCell (Below.refl g5 W5) (p := ⟨g5, 0, none⟩) (Nat.le_refl _) (i64 x.client)) (p := ⟨g5, 1, none⟩) (Nat.le_refl _) (i64 x.seq)
  have B3 := Below.setCell B2 (p := ⟨g5, 2, none⟩) (Nat.le_refl _) (i64 x.kind)
  go_region_held3 (fun V => Below g5 W5 V ∧ V.cell? ⟨w.heap.size, 0, none⟩ = some (i64 x.client) ∧ V.cell? ⟨w.heap.size, 1, none⟩ = some (i64 x.seq) ∧ V.cell? ⟨w.heap.size, 2, none⟩ = some (i64 x.kind)) (first | exact hS5 _ (Below.refl g5 W5).drew | exact hS5 _ B2.drew | exact hS5 _ B3.drew) (fail)
  rename_i hh
  have hg6 := heap_setCell_same _ g5 2 _ _ (i64 x.kind) (heap_setCell_same _ g5 1 _ _ (i64 x.seq) (heap_setCell_same _ g5 0 _ _ (i64 x.client) hg5))
  simp only [List.setIfInBounds_toArray, List.set_cons_zero, List.set_cons_succ] at hg6
  have B4 := B3.drew
  have hg7 : (((W5.setCell ⟨g5, 0, none⟩ (i64 x.client)).setCell ⟨g5, 1, none⟩ (i64 x.seq)).setCell ⟨g5, 2, none⟩ (i64 x.kind)).drew.heap[g5]? = some (.cells #[i64 x.client, i64 x.seq, i64 x.kind, .string B.acct, .string B.peer, i64 B.sum, .slice B.la B.legs.length B.lc, i64 B.period, i64 B.hold, .string B.note] 37 (0, 0)) := hg6
  have c0 := (B4.cell (p := ⟨w.heap.size, 0, none⟩) hs5).trans c0
  have c1 := (B4.cell (p := ⟨w.heap.size, 1, none⟩) hs5).trans c1
  have c2 := (B4.cell (p := ⟨w.heap.size, 2, none⟩) hs5).trans c2
  have c3 := (B4.cell (p := ⟨w.heap.size, 3, none⟩) hs5).trans c3
  have c4 := (B4.cell (p := ⟨w.heap.size, 4, none⟩) hs5).trans c4
  have c5 := (B4.cell (p := ⟨w.heap.size, 5, none⟩) hs5).trans c5
  have c6 := (B4.cell (p := ⟨w.heap.size, 6, none⟩) hs5).trans c6
  have c7 := (B4.cell (p := ⟨w.heap.size, 7, none⟩) hs5).trans c7
  have c8 := (B4.cell (p := ⟨w.heap.size, 8, none⟩) hs5).trans c8
  have c9 := (B4.cell (p := ⟨w.heap.size, 9, none⟩) hs5).trans c9
  have e1 := (B4.cell hlq).trans e1
  have ep := (B4.cell hlp).trans ep
  have hb7 := hb5.trans (B4.mono (Nat.le_of_lt hs5))
  clear hh B2 B3 B4 hS5 k5 f5 hg5 hg6 hB5
  generalize (((W5.setCell ⟨g5, 0, none⟩ (i64 x.client)).setCell ⟨g5, 1, none⟩ (i64 x.seq)).setCell ⟨g5, 2, none⟩ (i64 x.kind)).drew = W7 at *
  have k0 := cell_of_row W7 g5 0 _ _ (0, 0) hg7
  have k1 := cell_of_row W7 g5 1 _ _ (0, 0) hg7
  have k2 := cell_of_row W7 g5 2 _ _ (0, 0) hg7
  have k3 := cell_of_row W7 g5 3 _ _ (0, 0) hg7
  have k4 := cell_of_row W7 g5 4 _ _ (0, 0) hg7
  have k5 := cell_of_row W7 g5 5 _ _ (0, 0) hg7
  have k6 := cell_of_row W7 g5 6 _ _ (0, 0) hg7
  have k7 := cell_of_row W7 g5 7 _ _ (0, 0) hg7
  have k8 := cell_of_row W7 g5 8 _ _ (0, 0) hg7
  have k9 := cell_of_row W7 g5 9 _ _ (0, 0) hg7
  simp only [List.getElem?_toArray, List.getElem?_cons_zero, List.getElem?_cons_succ] at k0 k1 k2 k3 k4 k5 k6 k7 k8 k9
  clear hg7
  have okx := Okb.later hx hb7
  have HOx := Lib.hid okx
  have HOB := Lib.hid (show Okb W7 W7.heap.size (dress x B) from by obtain ⟨ka, kb, kc, kd⟩ := hBo W7 okx; exact ⟨ka, kb, kc, kd⟩)
  clear okx
  go_wp2_with fail
  refine (same_c x (dress x B) _ HOx.out HOB.out hl hBl).mono ?_
  rintro e w8 ⟨rfl, hF8⟩
  have c0 := (hF8.cell (World.block_lt_of_cell? _ _ c0)).trans c0
  have c1 := (hF8.cell (World.block_lt_of_cell? _ _ c1)).trans c1
  have c2 := (hF8.cell (World.block_lt_of_cell? _ _ c2)).trans c2
  have c3 := (hF8.cell (World.block_lt_of_cell? _ _ c3)).trans c3
  have c4 := (hF8.cell (World.block_lt_of_cell? _ _ c4)).trans c4
  have c5 := (hF8.cell (World.block_lt_of_cell? _ _ c5)).trans c5
  have c6 := (hF8.cell (World.block_lt_of_cell? _ _ c6)).trans c6
  have c7 := (hF8.cell (World.block_lt_of_cell? _ _ c7)).trans c7
  have c8 := (hF8.cell (World.block_lt_of_cell? _ _ c8)).trans c8
  have c9 := (hF8.cell (World.block_lt_of_cell? _ _ c9)).trans c9
  have e1 := (hF8.cell (World.block_lt_of_cell? _ _ e1)).trans e1
  have ep := (hF8.cell (World.block_lt_of_cell? _ _ ep)).trans ep
  have hb8 := below_on hb7 (Nat.le_refl _) hF8
  clear hF8 k0 k1 k2 k3 k4 k5 k6 k7 k8 k9
  by_cases hsm : sameB x (dress x B) = true
  ·rw [hsm]
   have Hsm := Lib.hid hsm
   clear hsm
   go_wp2_with fail
   refine (hF _ (W1.heap.size + 1) hb8 ep).mono ?_
   rintro e w9 ⟨rfl, hF9⟩
   go_wp2
   go_ret
   exact ⟨by rw [Hs.out, Hsm.out, Bool.true_and]; rfl, below_on hb8 (Nat.le_refl _) hF9⟩
  ·have hsm : sameB x (dress x B) = false := by simpa using hsm
   rw [hsm]
   have Hsm := Lib.hid hsm
   clear hsm
   go_wp2
   go_ret
   exact ⟨by rw [Hs.out, Hsm.out, Bool.false_and]; rfl, hb8⟩
end Go.Proofs.YtampniiehgimhaaGreat
/- order.Right -/
namespace Go.Proofs.YtampniiehgimhaaGreat
open Go.RowKit
/-- what an order of its kind may have -/
def bareO (x : Od) : Od := if x.kind = 1 then bare1 x else if x.kind = 2 then bare2 x else if x.kind = 3 then bare3 x else if x.kind = 4 then bare4 x else if x.kind = 5 then bare5 x else if x.kind = 6 then bare6 x else bare7 x
def fitsO (x : Od) : Bool := if x.kind = 1 then fits1 x else if x.kind = 2 then fits2 x else if x.kind = 3 then fits3 x else if x.kind = 4 then fits4 x else if x.kind = 5 then fits5 x else if x.kind = 6 then fits6 x else nameB x.acct
/-- order.Right -/
def rightB (x : Od) : Bool := decide (1 ≤ x.kind ∧ x.kind ≤ 7) && (((decide (0 ≤ x.client) && decide (x.client ≤ 9)) && (decide (1 ≤ x.seq) && decide (x.seq ≤ 999))) && (sameB x (dress x (bareO x)) && fitsO x))
set_option maxRecDepth 100000 in
set_option maxHeartbeats 4000000 in
theorem right_no (x : Od) (w : World) (hget : ∀ p, getM (shapesM p) x.kind = none) :
  Calls Tryz.prog 59 #[x.v] w fun e w' => e = .returned (.bool false) ∧ Below w.heap.size w w' := by
 have hb1 := (Below.refl w.heap.size w).alloc (Nat.le_refl _) (.cells #[i64 x.client, i64 x.seq, i64 x.kind, .string x.acct, .string x.peer, i64 x.sum, .slice x.la x.legs.length x.lc, i64 x.period, i64 x.hold, .string x.note] 37)
 have hw1 : (w.alloc (.cells #[i64 x.client, i64 x.seq, i64 x.kind, .string x.acct, .string x.peer, i64 x.sum, .slice x.la x.legs.length x.lc, i64 x.period, i64 x.hold, .string x.note] 37)).heap.size = w.heap.size + 1 := by simp
 have c0 : (w.alloc (.cells #[i64 x.client, i64 x.seq, i64 x.kind, .string x.acct, .string x.peer, i64 x.sum, .slice x.la x.legs.length x.lc, i64 x.period, i64 x.hold, .string x.note] 37)).cell? ⟨w.heap.size, 0, none⟩ = some (i64 x.client) := cell_of_row _ w.heap.size 0 _ _ (0, 0) (heap_alloc_new w _)
 have c1 : (w.alloc (.cells #[i64 x.client, i64 x.seq, i64 x.kind, .string x.acct, .string x.peer, i64 x.sum, .slice x.la x.legs.length x.lc, i64 x.period, i64 x.hold, .string x.note] 37)).cell? ⟨w.heap.size, 1, none⟩ = some (i64 x.seq) := cell_of_row _ w.heap.size 1 _ _ (0, 0) (heap_alloc_new w _)
 have c2 : (w.alloc (.cells #[i64 x.client, i64 x.seq, i64 x.kind, .string x.acct, .string x.peer, i64 x.sum, .slice x.la x.legs.length x.lc, i64 x.period, i64 x.hold, .string x.note] 37)).cell? ⟨w.heap.size, 2, none⟩ = some (i64 x.kind) := cell_of_row _ w.heap.size 2 _ _ (0, 0) (heap_alloc_new w _)
 have c3 : (w.alloc (.cells #[i64 x.client, i64 x.seq, i64 x.kind, .string x.acct, .string x.peer, i64 x.sum, .slice x.la x.legs.length x.lc, i64 x.period, i64 x.hold, .string x.note] 37)).cell? ⟨w.heap.size, 3, none⟩ = some (.string x.acct) := cell_of_row _ w.heap.size 3 _ _ (0, 0) (heap_alloc_new w _)
 have c4 : (w.alloc (.cells #[i64 x.client, i64 x.seq, i64 x.kind, .string x.acct, .string x.peer, i64 x.sum, .slice x.la x.legs.length x.lc, i64 x.period, i64 x.hold, .string x.note] 37)).cell? ⟨w.heap.size, 4, none⟩ = some (.string x.peer) := cell_of_row _ w.heap.size 4 _ _ (0, 0) (heap_alloc_new w _)
 have c5 : (w.alloc (.cells #[i64 x.client, i64 x.seq, i64 x.kind, .string x.acct, .string x.peer, i64 x.sum, .slice x.la x.legs.length x.lc, i64 x.period, i64 x.hold, .string x.note] 37)).cell? ⟨w.heap.size, 5, none⟩ = some (i64 x.sum) := cell_of_row _ w.heap.size 5 _ _ (0, 0) (heap_alloc_new w _)
 have c6 : (w.alloc (.cells #[i64 x.client, i64 x.seq, i64 x.kind, .string x.acct, .string x.peer, i64 x.sum, .slice x.la x.legs.length x.lc, i64 x.period, i64 x.hold, .string x.note] 37)).cell? ⟨w.heap.size, 6, none⟩ = some (.slice x.la x.legs.length x.lc) := cell_of_row _ w.heap.size 6 _ _ (0, 0) (heap_alloc_new w _)
 have c7 : (w.alloc (.cells #[i64 x.client, i64 x.seq, i64 x.kind, .string x.acct, .string x.peer, i64 x.sum, .slice x.la x.legs.length x.lc, i64 x.period, i64 x.hold, .string x.note] 37)).cell? ⟨w.heap.size, 7, none⟩ = some (i64 x.period) := cell_of_row _ w.heap.size 7 _ _ (0, 0) (heap_alloc_new w _)
 have c8 : (w.alloc (.cells #[i64 x.client, i64 x.seq, i64 x.kind, .string x.acct, .string x.peer, i64 x.sum, .slice x.la x.legs.length x.lc, i64 x.period, i64 x.hold, .string x.note] 37)).cell? ⟨w.heap.size, 8, none⟩ = some (i64 x.hold) := cell_of_row _ w.heap.size 8 _ _ (0, 0) (heap_alloc_new w _)
 have c9 : (w.alloc (.cells #[i64 x.client, i64 x.seq, i64 x.kind, .string x.acct, .string x.peer, i64 x.sum, .slice x.la x.legs.length x.lc, i64 x.period, i64 x.hold, .string x.note] 37)).cell? ⟨w.heap.size, 9, none⟩ = some (.string x.note) := cell_of_row _ w.heap.size 9 _ _ (0, 0) (heap_alloc_new w _)
 unfold Od.v
 go_enter Tryz.func59, Tryz.ntmps59
 go_wp2_with fail
 generalize w.alloc (.cells #[i64 x.client, i64 x.seq, i64 x.kind, .string x.acct, .string x.peer, i64 x.sum, .slice x.la x.legs.length x.lc, i64 x.period, i64 x.hold, .string x.note] 37) = W1 at *
 have Hw1 := Lib.hid hw1
 clear hw1
 have h0 := (Below.refl W1.heap.size W1).drew
 have hSS : ∀ V, Below W1.heap.size W1 V → (fun V : World => Below W1.heap.size W1 V ∧ V.cell? ⟨w.heap.size, 2, none⟩ = some (i64 x.kind)) V := fun V h => ⟨h, (h.cell (World.block_lt_of_cell? _ _ c2)).trans c2⟩
 go_region_held3 (fun V => Below W1.heap.size W1 V ∧ V.cell? ⟨w.heap.size, 2, none⟩ = some (i64 x.kind)) (first | exact hSS _ h0 | exact hSS _ (by assumption) | exact hSS _ (h0.alloc (Nat.le_refl _) _) | exact hSS _ (hb2.alloc hb2.size _) | (refine hSS _ (Below.setCell (Below.alloc hb2 hb2.size _) hb2.size _)) | exact hSS _ (Below.setCell (Below.setCell hb2 (p := ⟨W1.heap.size, 0, none⟩) (Nat.le_refl _) _) (p := ⟨W1.heap.size, 1, none⟩) (Nat.le_refl _) _))
  (first
   | (go_at_call 102; refine (shapes_c _).mono ?_; rintro e w2 ⟨rfl, hm2, hc2, hF2⟩; have hb2 := below_on (show Below W1.heap.size W1 _ from by first | exact h0 | exact h0.alloc (Nat.le_refl _) _) (Nat.le_refl _) hF2; have hlk := run_lookup (P := Tryz.prog) intKey Tryz.underlying199 hm2 x.kind (.agg #[.nilFunc, .nilFunc]) (by kernel_rfl) true; have hm3 := hm2.later ((Below.refl w2.heap.size w2).alloc (Nat.le_refl _) (.cells #[.nilFunc, .nilFunc] 197)); have hlk2 := run_lookup (P := Tryz.prog) intKey Tryz.underlying199 hm3 x.kind (.agg #[.nilFunc, .nilFunc]) (by kernel_rfl) true; rw [hget] at hlk hlk2; simp at hlk hlk2; (try (have hg87 : w2.heap[W1.heap.size]? = some (.cells #[.nilFunc, .nilFunc] 197 (0, 0)) := (hF2.block W1.heap.size (by simp)).trans (heap_alloc_new W1.drew _); have f87 := frozen_of_row w2 W1.heap.size 0 _ _ hg87; have f88 := frozen_of_row w2 W1.heap.size 1 _ _ hg87; have d87 := cell_of_row w2 W1.heap.size 0 _ _ (0, 0) hg87; have d88 := cell_of_row w2 W1.heap.size 1 _ _ (0, 0) hg87; simp only [List.getElem?_toArray, List.getElem?_cons_zero, List.getElem?_cons_succ] at d87 d88)); clear hm2 hm3 hF2))
 all_goals (
  rename_i hh
  have hb3 := below_on hb1 (Nat.le_refl _) hh.1
  clear hh
  go_wp2
  go_ret
  exact ⟨rfl, hb3⟩)
set_option maxRecDepth 100000 in
set_option maxHeartbeats 2000000 in
theorem right_c0 (x : Od) (w : World) (hx : Okb w w.heap.size x) (hl : x.legs.length ≤ 65536) :
  Calls Tryz.prog 59 #[x.v] w fun e w' => e = .returned (.bool (rightB x)) ∧ Below w.heap.size w w' := by
 by_cases h1 : x.kind = 1
 ·have hR : rightB x = (((decide (0 ≤ x.client) && decide (x.client ≤ 9)) && (decide (1 ≤ x.seq) && decide (x.seq ≤ 999))) && (sameB x (dress x (bare1 x)) && fits1 x)) := by
   unfold rightB bareO fitsO
   rw [if_pos h1, if_pos h1, decide_eq_true (show 1 ≤ x.kind ∧ x.kind ≤ 7 by omega), Bool.true_and]
  rw [hR]
  exact right_gen x w hx hl 145 146 (fun p => #[.pointer (some ⟨p, 0, none⟩)]) (bare1 x) (fits1 x) (fun p => by rw [h1]; rfl) (enters_of Tryz.func145 (by kernel_rfl) rfl) (enters_of Tryz.func146 (by kernel_rfl) rfl) (fun W _ => bare1_c x W) (fun W p h hp => fits1_c x W p hp) (fun W h => by obtain ⟨ka, kb, kc, kd⟩ := h; exact ⟨ka, Nat.zero_le _, Nat.zero_le _, SlS.nil_ _ _⟩) (by exact Nat.zero_le _)
 by_cases h2 : x.kind = 2
 ·have hR : rightB x = (((decide (0 ≤ x.client) && decide (x.client ≤ 9)) && (decide (1 ≤ x.seq) && decide (x.seq ≤ 999))) && (sameB x (dress x (bare2 x)) && fits2 x)) := by
   unfold rightB bareO fitsO
   rw [if_neg h1, if_pos h2, if_neg h1, if_pos h2, decide_eq_true (show 1 ≤ x.kind ∧ x.kind ≤ 7 by omega), Bool.true_and]
  rw [hR]
  exact right_gen x w hx hl 147 148 (fun _ => #[]) (bare2 x) (fits2 x) (fun p => by rw [h2]; rfl) (enters_of Tryz.func147 (by kernel_rfl) rfl) (enters_of Tryz.func148 (by kernel_rfl) rfl) (fun W _ => bare2_c x W) (fun W p h hp => fits2_c x W (Okb.later hx h) hl) (fun W h => by obtain ⟨ka, kb, kc, kd⟩ := h; exact ⟨Nat.zero_le _, Nat.zero_le _, kc, kd⟩) (by exact hl)
 by_cases h3 : x.kind = 3
 ·have hR : rightB x = (((decide (0 ≤ x.client) && decide (x.client ≤ 9)) && (decide (1 ≤ x.seq) && decide (x.seq ≤ 999))) && (sameB x (dress x (bare3 x)) && fits3 x)) := by
   unfold rightB bareO fitsO
   rw [if_neg h1, if_neg h2, if_pos h3, if_neg h1, if_neg h2, if_pos h3, decide_eq_true (show 1 ≤ x.kind ∧ x.kind ≤ 7 by omega), Bool.true_and]
  rw [hR]
  exact right_gen x w hx hl 151 152 (fun p => #[.pointer (some ⟨p, 0, none⟩)]) (bare3 x) (fits3 x) (fun p => by rw [h3]; rfl) (enters_of Tryz.func151 (by kernel_rfl) rfl) (enters_of Tryz.func152 (by kernel_rfl) rfl) (fun W _ => bare3_c x W) (fun W p h hp => fits3_c x W p hp) (fun W h => by obtain ⟨ka, kb, kc, kd⟩ := h; exact ⟨ka, Nat.zero_le _, Nat.zero_le _, SlS.nil_ _ _⟩) (by exact Nat.zero_le _)
 by_cases h4 : x.kind = 4
 ·have hR : rightB x = (((decide (0 ≤ x.client) && decide (x.client ≤ 9)) && (decide (1 ≤ x.seq) && decide (x.seq ≤ 999))) && (sameB x (dress x (bare4 x)) && fits4 x)) := by
   unfold rightB bareO fitsO
   rw [if_neg h1, if_neg h2, if_neg h3, if_pos h4, if_neg h1, if_neg h2, if_neg h3, if_pos h4, decide_eq_true (show 1 ≤ x.kind ∧ x.kind ≤ 7 by omega), Bool.true_and]
  rw [hR]
  exact right_gen x w hx hl 153 154 (fun p => #[.pointer (some ⟨p, 0, none⟩)]) (bare4 x) (fits4 x) (fun p => by rw [h4]; rfl) (enters_of Tryz.func153 (by kernel_rfl) rfl) (enters_of Tryz.func154 (by kernel_rfl) rfl) (fun W _ => bare4_c x W) (fun W p h hp => fits4_c x W p hp) (fun W h => by obtain ⟨ka, kb, kc, kd⟩ := h; exact ⟨ka, kb, Nat.zero_le _, SlS.nil_ _ _⟩) (by exact Nat.zero_le _)
 by_cases h5 : x.kind = 5
 ·have hR : rightB x = (((decide (0 ≤ x.client) && decide (x.client ≤ 9)) && (decide (1 ≤ x.seq) && decide (x.seq ≤ 999))) && (sameB x (dress x (bare5 x)) && fits5 x)) := by
   unfold rightB bareO fitsO
   rw [if_neg h1, if_neg h2, if_neg h3, if_neg h4, if_pos h5, if_neg h1, if_neg h2, if_neg h3, if_neg h4, if_pos h5, decide_eq_true (show 1 ≤ x.kind ∧ x.kind ≤ 7 by omega), Bool.true_and]
  rw [hR]
  exact right_gen x w hx hl 156 157 (fun p => #[.pointer (some ⟨p, 0, none⟩)]) (bare5 x) (fits5 x) (fun p => by rw [h5]; rfl) (enters_of Tryz.func156 (by kernel_rfl) rfl) (enters_of Tryz.func157 (by kernel_rfl) rfl) (fun W _ => bare5_c x W) (fun W p h hp => fits5_c x W p hp) (fun W h => by obtain ⟨ka, kb, kc, kd⟩ := h; exact ⟨ka, Nat.zero_le _, Nat.zero_le _, SlS.nil_ _ _⟩) (by exact Nat.zero_le _)
 by_cases h6 : x.kind = 6
 ·have hR : rightB x = (((decide (0 ≤ x.client) && decide (x.client ≤ 9)) && (decide (1 ≤ x.seq) && decide (x.seq ≤ 999))) && (sameB x (dress x (bare6 x)) && fits6 x)) := by
   unfold rightB bareO fitsO
   rw [if_neg h1, if_neg h2, if_neg h3, if_neg h4, if_neg h5, if_pos h6, if_neg h1, if_neg h2, if_neg h3, if_neg h4, if_neg h5, if_pos h6, decide_eq_true (show 1 ≤ x.kind ∧ x.kind ≤ 7 by omega), Bool.true_and]
  rw [hR]
  exact right_gen x w hx hl 158 159 (fun _ => #[]) (bare6 x) (fits6 x) (fun p => by rw [h6]; rfl) (enters_of Tryz.func158 (by kernel_rfl) rfl) (enters_of Tryz.func159 (by kernel_rfl) rfl) (fun W _ => bare6_c x W) (fun W p h hp => fits6_c x W) (fun W h => by obtain ⟨ka, kb, kc, kd⟩ := h; exact ⟨Nat.zero_le _, Nat.zero_le _, Nat.zero_le _, SlS.nil_ _ _⟩) (by exact Nat.zero_le _)
 by_cases h7 : x.kind = 7
 ·have hR : rightB x = (((decide (0 ≤ x.client) && decide (x.client ≤ 9)) && (decide (1 ≤ x.seq) && decide (x.seq ≤ 999))) && (sameB x (dress x (bare7 x)) && nameB x.acct)) := by
   unfold rightB bareO fitsO
   rw [if_neg h1, if_neg h2, if_neg h3, if_neg h4, if_neg h5, if_neg h6, if_neg h1, if_neg h2, if_neg h3, if_neg h4, if_neg h5, if_neg h6, decide_eq_true (show 1 ≤ x.kind ∧ x.kind ≤ 7 by omega), Bool.true_and]
  rw [hR]
  exact right_gen x w hx hl 160 144 (fun _ => #[]) (bare7 x) (nameB x.acct) (fun p => by rw [h7]; rfl) (enters_of Tryz.func160 (by kernel_rfl) rfl) (enters_of Tryz.func144 (by kernel_rfl) rfl) (fun W _ => bare7_c x W) (fun W p h hp => fname_c x W) (fun W h => by obtain ⟨ka, kb, kc, kd⟩ := h; exact ⟨ka, Nat.zero_le _, Nat.zero_le _, SlS.nil_ _ _⟩) (by exact Nat.zero_le _)
 have hR : rightB x = false := by unfold rightB; rw [decide_eq_false (show ¬ (1 ≤ x.kind ∧ x.kind ≤ 7) by omega), Bool.false_and]
 rw [hR]
 exact right_no x w (fun p => by
  have hn : ∀ k : Int, k ∈ (shapesM p).map (·.1) → k ≠ x.kind := by
   intro k hk
   simp only [shapesM, List.map_cons, List.map_nil, List.mem_cons, List.not_mem_nil, or_false] at hk
   omega
  unfold getM
  rw [Option.map_eq_none_iff, List.find?_eq_none]
  intro q hq h
  exact hn q.1 (List.mem_map_of_mem hq) (by simpa using h))
end Go.Proofs.YtampniiehgimhaaGreat
