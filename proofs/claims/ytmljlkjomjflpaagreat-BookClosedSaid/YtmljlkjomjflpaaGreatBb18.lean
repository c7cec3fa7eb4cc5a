/- Texts of this claim, laid together: RightC, Rp, BkP, MapKeys. -/
import Derived.Test.YtmljlkjomjflpaaGreatRows
import Derived.Test.YtmljlkjomjflpaaGreatBb17
import Derived.WalkKit
import Derived.WalkSpells
import Derived.WalkLawsBesides
import Derived.Deep.QuietTactic
import Derived.BigQuiet
import Derived.Laws.StructEq
import Derived.Deep.DeepFit
import Derived.StillTailTactics
import Derived.Test.YtmljlkjomjflpaaGreatBb1
import Derived.Test.YtmljlkjomjflpaaGreatBb14
import Derived.Maps.Own
import Derived.Sort.KeysCollected
import Derived.Test.YtmljlkjomjflpaaGreatBb4
import Derived.Test.YtmljlkjomjflpaaGreatBb2

/- order.Right -/
namespace Go.Proofs.YtmljlkjomjflpaaGreat
open Go.RowKit
/-- what an order of its kind may have -/
def bareO (x : Od) : Od := if x.kind = 1 then bare1 x else if x.kind = 2 then bare2 x else if x.kind = 3 then bare3 x else if x.kind = 4 then bare4 x else if x.kind = 5 then bare5 x else if x.kind = 6 then bare6 x else bare7 x
def fitsO (x : Od) : Bool := if x.kind = 1 then fits1 x else if x.kind = 2 then fits2 x else if x.kind = 3 then fits3 x else if x.kind = 4 then fits4 x else if x.kind = 5 then fits5 x else if x.kind = 6 then fits6 x else nameB x.acct
/-- order.Right -/
def rightB (x : Od) : Bool := decide (1 ≤ x.kind ∧ x.kind ≤ 7) && (((decide (0 ≤ x.client) && decide (x.client ≤ 9)) && (decide (1 ≤ x.seq) && decide (x.seq ≤ 999))) && (sameB x (dress x (bareO x)) && fitsO x))
set_option maxRecDepth 100000 in
set_option maxHeartbeats 4000000 in
theorem right_no (x : Od) (w : World) (hget : ∀ p, getM (shapesM p) x.kind = none) :
    Calls Tryz.prog 72 #[x.v] w fun e w' => e = .returned (.bool false) ∧ Below w.heap.size w w' := by
  have hb1 := (Below.refl w.heap.size w).alloc (Nat.le_refl _) (.cells #[i64 x.client, i64 x.seq, i64 x.kind, .string x.acct, .string x.peer, i64 x.sum, .slice x.la x.legs.length x.lc, i64 x.period, i64 x.hold, .string x.note] 65)
  have hw1 : (w.alloc (.cells #[i64 x.client, i64 x.seq, i64 x.kind, .string x.acct, .string x.peer, i64 x.sum, .slice x.la x.legs.length x.lc, i64 x.period, i64 x.hold, .string x.note] 65)).heap.size = w.heap.size + 1 := by simp
  have c0 : (w.alloc (.cells #[i64 x.client, i64 x.seq, i64 x.kind, .string x.acct, .string x.peer, i64 x.sum, .slice x.la x.legs.length x.lc, i64 x.period, i64 x.hold, .string x.note] 65)).cell? ⟨w.heap.size, 0, none⟩ = some (i64 x.client) := cell_of_row _ w.heap.size 0 _ _ (0, 0) (heap_alloc_new w _)
  have c1 : (w.alloc (.cells #[i64 x.client, i64 x.seq, i64 x.kind, .string x.acct, .string x.peer, i64 x.sum, .slice x.la x.legs.length x.lc, i64 x.period, i64 x.hold, .string x.note] 65)).cell? ⟨w.heap.size, 1, none⟩ = some (i64 x.seq) := cell_of_row _ w.heap.size 1 _ _ (0, 0) (heap_alloc_new w _)
  have c2 : (w.alloc (.cells #[i64 x.client, i64 x.seq, i64 x.kind, .string x.acct, .string x.peer, i64 x.sum, .slice x.la x.legs.length x.lc, i64 x.period, i64 x.hold, .string x.note] 65)).cell? ⟨w.heap.size, 2, none⟩ = some (i64 x.kind) := cell_of_row _ w.heap.size 2 _ _ (0, 0) (heap_alloc_new w _)
  have c3 : (w.alloc (.cells #[i64 x.client, i64 x.seq, i64 x.kind, .string x.acct, .string x.peer, i64 x.sum, .slice x.la x.legs.length x.lc, i64 x.period, i64 x.hold, .string x.note] 65)).cell? ⟨w.heap.size, 3, none⟩ = some (.string x.acct) := cell_of_row _ w.heap.size 3 _ _ (0, 0) (heap_alloc_new w _)
  have c4 : (w.alloc (.cells #[i64 x.client, i64 x.seq, i64 x.kind, .string x.acct, .string x.peer, i64 x.sum, .slice x.la x.legs.length x.lc, i64 x.period, i64 x.hold, .string x.note] 65)).cell? ⟨w.heap.size, 4, none⟩ = some (.string x.peer) := cell_of_row _ w.heap.size 4 _ _ (0, 0) (heap_alloc_new w _)
  have c5 : (w.alloc (.cells #[i64 x.client, i64 x.seq, i64 x.kind, .string x.acct, .string x.peer, i64 x.sum, .slice x.la x.legs.length x.lc, i64 x.period, i64 x.hold, .string x.note] 65)).cell? ⟨w.heap.size, 5, none⟩ = some (i64 x.sum) := cell_of_row _ w.heap.size 5 _ _ (0, 0) (heap_alloc_new w _)
  have c6 : (w.alloc (.cells #[i64 x.client, i64 x.seq, i64 x.kind, .string x.acct, .string x.peer, i64 x.sum, .slice x.la x.legs.length x.lc, i64 x.period, i64 x.hold, .string x.note] 65)).cell? ⟨w.heap.size, 6, none⟩ = some (.slice x.la x.legs.length x.lc) := cell_of_row _ w.heap.size 6 _ _ (0, 0) (heap_alloc_new w _)
  have c7 : (w.alloc (.cells #[i64 x.client, i64 x.seq, i64 x.kind, .string x.acct, .string x.peer, i64 x.sum, .slice x.la x.legs.length x.lc, i64 x.period, i64 x.hold, .string x.note] 65)).cell? ⟨w.heap.size, 7, none⟩ = some (i64 x.period) := cell_of_row _ w.heap.size 7 _ _ (0, 0) (heap_alloc_new w _)
  have c8 : (w.alloc (.cells #[i64 x.client, i64 x.seq, i64 x.kind, .string x.acct, .string x.peer, i64 x.sum, .slice x.la x.legs.length x.lc, i64 x.period, i64 x.hold, .string x.note] 65)).cell? ⟨w.heap.size, 8, none⟩ = some (i64 x.hold) := cell_of_row _ w.heap.size 8 _ _ (0, 0) (heap_alloc_new w _)
  have c9 : (w.alloc (.cells #[i64 x.client, i64 x.seq, i64 x.kind, .string x.acct, .string x.peer, i64 x.sum, .slice x.la x.legs.length x.lc, i64 x.period, i64 x.hold, .string x.note] 65)).cell? ⟨w.heap.size, 9, none⟩ = some (.string x.note) := cell_of_row _ w.heap.size 9 _ _ (0, 0) (heap_alloc_new w _)
  unfold Od.v
  go_enter Tryz.func72, Tryz.ntmps72
  go_wp2_with fail
  generalize w.alloc (.cells #[i64 x.client, i64 x.seq, i64 x.kind, .string x.acct, .string x.peer, i64 x.sum, .slice x.la x.legs.length x.lc, i64 x.period, i64 x.hold, .string x.note] 65) = W1 at *
  have Hw1 := Lib.hid hw1
  clear hw1
  have h0 := (Below.refl W1.heap.size W1).drew
  have hSS : ∀ V, Below W1.heap.size W1 V → (fun V : World => Below W1.heap.size W1 V ∧ V.cell? ⟨w.heap.size, 2, none⟩ = some (i64 x.kind)) V := fun V h => ⟨h, (h.cell (World.block_lt_of_cell? _ _ c2)).trans c2⟩
  go_region_held3 (fun V => Below W1.heap.size W1 V ∧ V.cell? ⟨w.heap.size, 2, none⟩ = some (i64 x.kind)) (first | exact hSS _ h0 | exact hSS _ (by assumption) | exact hSS _ (h0.alloc (Nat.le_refl _) _) | exact hSS _ (hb2.alloc hb2.size _) | (refine hSS _ (Below.setCell (Below.alloc hb2 hb2.size _) hb2.size _)) | exact hSS _ (Below.setCell (Below.setCell hb2 (p := ⟨W1.heap.size, 0, none⟩) (Nat.le_refl _) _) (p := ⟨W1.heap.size, 1, none⟩) (Nat.le_refl _) _))
    (first
      | (go_at_call 109; refine (shapes_c _).mono ?_; rintro e w2 ⟨rfl, hm2, hc2, hF2⟩; have hb2 := below_on (show Below W1.heap.size W1 _ from by first | exact h0 | exact h0.alloc (Nat.le_refl _) _) (Nat.le_refl _) hF2; have hlk := run_lookup (P := Tryz.prog) intKey Tryz.underlying162 hm2 x.kind (.agg #[.nilFunc, .nilFunc]) (by kernel_rfl) true; have hm3 := hm2.later ((Below.refl w2.heap.size w2).alloc (Nat.le_refl _) (.cells #[.nilFunc, .nilFunc] 160)); have hlk2 := run_lookup (P := Tryz.prog) intKey Tryz.underlying162 hm3 x.kind (.agg #[.nilFunc, .nilFunc]) (by kernel_rfl) true; rw [hget] at hlk hlk2; simp at hlk hlk2; (try (have hg87 : w2.heap[W1.heap.size]? = some (.cells #[.nilFunc, .nilFunc] 160 (0, 0)) := (hF2.block W1.heap.size (by simp)).trans (heap_alloc_new W1.drew _); have f87 := frozen_of_row w2 W1.heap.size 0 _ _ hg87; have f88 := frozen_of_row w2 W1.heap.size 1 _ _ hg87; have d87 := cell_of_row w2 W1.heap.size 0 _ _ (0, 0) hg87; have d88 := cell_of_row w2 W1.heap.size 1 _ _ (0, 0) hg87; simp only [List.getElem?_toArray, List.getElem?_cons_zero, List.getElem?_cons_succ] at d87 d88)); clear hm2 hm3 hF2))
  all_goals (
    rename_i hh
    have hb3 := below_on hb1 (Nat.le_refl _) hh.1
    clear hh
    go_wp2
    go_ret
    exact ⟨rfl, hb3⟩)

set_option maxRecDepth 100000 in
set_option maxHeartbeats 2000000 in
theorem right_c0 (x : Od) (w : World) (hx : Okb w w.heap.size x) (hl : x.legs.length ≤ 65536) :
    Calls Tryz.prog 72 #[x.v] w fun e w' => e = .returned (.bool (rightB x)) ∧ Below w.heap.size w w' := by
  by_cases h1 : x.kind = 1
  · have hR : rightB x = (((decide (0 ≤ x.client) && decide (x.client ≤ 9)) && (decide (1 ≤ x.seq) && decide (x.seq ≤ 999))) && (sameB x (dress x (bare1 x)) && fits1 x)) := by
      unfold rightB bareO fitsO
      rw [if_pos h1, if_pos h1, decide_eq_true (show 1 ≤ x.kind ∧ x.kind ≤ 7 by omega), Bool.true_and]
    rw [hR]
    exact right_gen x w hx hl 153 154 (fun p => #[.pointer (some ⟨p, 0, none⟩)]) (bare1 x) (fits1 x) (fun p => by rw [h1]; rfl) (enters_of Tryz.func153 (by kernel_rfl) rfl) (enters_of Tryz.func154 (by kernel_rfl) rfl) (fun W _ => bare1_c x W) (fun W p h hp => fits1_c x W p hp) (fun W h => by obtain ⟨ka, kb, kc, kd⟩ := h; exact ⟨ka, Nat.zero_le _, Nat.zero_le _, SlS.nil_ _ _⟩) (by exact Nat.zero_le _)
  by_cases h2 : x.kind = 2
  · have hR : rightB x = (((decide (0 ≤ x.client) && decide (x.client ≤ 9)) && (decide (1 ≤ x.seq) && decide (x.seq ≤ 999))) && (sameB x (dress x (bare2 x)) && fits2 x)) := by
      unfold rightB bareO fitsO
      rw [if_neg h1, if_pos h2, if_neg h1, if_pos h2, decide_eq_true (show 1 ≤ x.kind ∧ x.kind ≤ 7 by omega), Bool.true_and]
    rw [hR]
    exact right_gen x w hx hl 155 156 (fun _ => #[]) (bare2 x) (fits2 x) (fun p => by rw [h2]; rfl) (enters_of Tryz.func155 (by kernel_rfl) rfl) (enters_of Tryz.func156 (by kernel_rfl) rfl) (fun W _ => bare2_c x W) (fun W p h hp => fits2_c x W (Okb.later hx h) hl) (fun W h => by obtain ⟨ka, kb, kc, kd⟩ := h; exact ⟨Nat.zero_le _, Nat.zero_le _, kc, kd⟩) (by exact hl)
  by_cases h3 : x.kind = 3
  · have hR : rightB x = (((decide (0 ≤ x.client) && decide (x.client ≤ 9)) && (decide (1 ≤ x.seq) && decide (x.seq ≤ 999))) && (sameB x (dress x (bare3 x)) && fits3 x)) := by
      unfold rightB bareO fitsO
      rw [if_neg h1, if_neg h2, if_pos h3, if_neg h1, if_neg h2, if_pos h3, decide_eq_true (show 1 ≤ x.kind ∧ x.kind ≤ 7 by omega), Bool.true_and]
    rw [hR]
    exact right_gen x w hx hl 159 160 (fun p => #[.pointer (some ⟨p, 0, none⟩)]) (bare3 x) (fits3 x) (fun p => by rw [h3]; rfl) (enters_of Tryz.func159 (by kernel_rfl) rfl) (enters_of Tryz.func160 (by kernel_rfl) rfl) (fun W _ => bare3_c x W) (fun W p h hp => fits3_c x W p hp) (fun W h => by obtain ⟨ka, kb, kc, kd⟩ := h; exact ⟨ka, Nat.zero_le _, Nat.zero_le _, SlS.nil_ _ _⟩) (by exact Nat.zero_le _)
  by_cases h4 : x.kind = 4
  · have hR : rightB x = (((decide (0 ≤ x.client) && decide (x.client ≤ 9)) && (decide (1 ≤ x.seq) && decide (x.seq ≤ 999))) && (sameB x (dress x (bare4 x)) && fits4 x)) := by
      unfold rightB bareO fitsO
      rw [if_neg h1, if_neg h2, if_neg h3, if_pos h4, if_neg h1, if_neg h2, if_neg h3, if_pos h4, decide_eq_true (show 1 ≤ x.kind ∧ x.kind ≤ 7 by omega), Bool.true_and]
    rw [hR]
    exact right_gen x w hx hl 161 162 (fun p => #[.pointer (some ⟨p, 0, none⟩)]) (bare4 x) (fits4 x) (fun p => by rw [h4]; rfl) (enters_of Tryz.func161 (by kernel_rfl) rfl) (enters_of Tryz.func162 (by kernel_rfl) rfl) (fun W _ => bare4_c x W) (fun W p h hp => fits4_c x W p hp) (fun W h => by obtain ⟨ka, kb, kc, kd⟩ := h; exact ⟨ka, kb, Nat.zero_le _, SlS.nil_ _ _⟩) (by exact Nat.zero_le _)
  by_cases h5 : x.kind = 5
  · have hR : rightB x = (((decide (0 ≤ x.client) && decide (x.client ≤ 9)) && (decide (1 ≤ x.seq) && decide (x.seq ≤ 999))) && (sameB x (dress x (bare5 x)) && fits5 x)) := by
      unfold rightB bareO fitsO
      rw [if_neg h1, if_neg h2, if_neg h3, if_neg h4, if_pos h5, if_neg h1, if_neg h2, if_neg h3, if_neg h4, if_pos h5, decide_eq_true (show 1 ≤ x.kind ∧ x.kind ≤ 7 by omega), Bool.true_and]
    rw [hR]
    exact right_gen x w hx hl 164 165 (fun p => #[.pointer (some ⟨p, 0, none⟩)]) (bare5 x) (fits5 x) (fun p => by rw [h5]; rfl) (enters_of Tryz.func164 (by kernel_rfl) rfl) (enters_of Tryz.func165 (by kernel_rfl) rfl) (fun W _ => bare5_c x W) (fun W p h hp => fits5_c x W p hp) (fun W h => by obtain ⟨ka, kb, kc, kd⟩ := h; exact ⟨ka, Nat.zero_le _, Nat.zero_le _, SlS.nil_ _ _⟩) (by exact Nat.zero_le _)
  by_cases h6 : x.kind = 6
  · have hR : rightB x = (((decide (0 ≤ x.client) && decide (x.client ≤ 9)) && (decide (1 ≤ x.seq) && decide (x.seq ≤ 999))) && (sameB x (dress x (bare6 x)) && fits6 x)) := by
      unfold rightB bareO fitsO
      rw [if_neg h1, if_neg h2, if_neg h3, if_neg h4, if_neg h5, if_pos h6, if_neg h1, if_neg h2, if_neg h3, if_neg h4, if_neg h5, if_pos h6, decide_eq_true (show 1 ≤ x.kind ∧ x.kind ≤ 7 by omega), Bool.true_and]
    rw [hR]
    exact right_gen x w hx hl 166 167 (fun _ => #[]) (bare6 x) (fits6 x) (fun p => by rw [h6]; rfl) (enters_of Tryz.func166 (by kernel_rfl) rfl) (enters_of Tryz.func167 (by kernel_rfl) rfl) (fun W _ => bare6_c x W) (fun W p h hp => fits6_c x W) (fun W h => by obtain ⟨ka, kb, kc, kd⟩ := h; exact ⟨Nat.zero_le _, Nat.zero_le _, Nat.zero_le _, SlS.nil_ _ _⟩) (by exact Nat.zero_le _)
  by_cases h7 : x.kind = 7
  · have hR : rightB x = (((decide (0 ≤ x.client) && decide (x.client ≤ 9)) && (decide (1 ≤ x.seq) && decide (x.seq ≤ 999))) && (sameB x (dress x (bare7 x)) && nameB x.acct)) := by
      unfold rightB bareO fitsO
      rw [if_neg h1, if_neg h2, if_neg h3, if_neg h4, if_neg h5, if_neg h6, if_neg h1, if_neg h2, if_neg h3, if_neg h4, if_neg h5, if_neg h6, decide_eq_true (show 1 ≤ x.kind ∧ x.kind ≤ 7 by omega), Bool.true_and]
    rw [hR]
    exact right_gen x w hx hl 168 152 (fun _ => #[]) (bare7 x) (nameB x.acct) (fun p => by rw [h7]; rfl) (enters_of Tryz.func168 (by kernel_rfl) rfl) (enters_of Tryz.func152 (by kernel_rfl) rfl) (fun W _ => bare7_c x W) (fun W p h hp => fname_c x W) (fun W h => by obtain ⟨ka, kb, kc, kd⟩ := h; exact ⟨ka, Nat.zero_le _, Nat.zero_le _, SlS.nil_ _ _⟩) (by exact Nat.zero_le _)
  have hR : rightB x = false := by unfold rightB; rw [decide_eq_false (show ¬ (1 ≤ x.kind ∧ x.kind ≤ 7) by omega), Bool.false_and]
  rw [hR]
  exact right_no x w (fun p => by
    have hn : ∀ k : Int, k ∈ (shapesM p).map (·.1) → k ≠ x.kind := by
      intro k hk
      simp only [shapesM, List.map_cons, List.map_nil, List.mem_cons, List.not_mem_nil, or_false] at hk
      omega
    unfold getM
    rw [Option.map_eq_none_iff, List.find?_eq_none]
    intro q hq h
    exact hn q.1 (List.mem_map_of_mem hq) (by simpa using h))
end Go.Proofs.YtmljlkjomjflpaaGreat

/- Replies as Lean has them. No program. -/
namespace Go.Proofs.YtmljlkjomjflpaaGreat
open Go.RowKit
/-- a reply -/
structure Rp where
  err : Int
  hav : Int
  set_ : Int
  num : Int
deriving DecidableEq
abbrev Rp.v (x : Rp) : Value := .agg #[i64 x.err, i64 x.hav, i64 x.set_, i64 x.num]
/-- its numbers are of 64 bits -/
def InP (x : Rp) : Prop := R64 x.err ∧ R64 x.hav ∧ R64 x.set_ ∧ R64 x.num
instance encRp : Enc Rp where
  size := 4
  cells x := [i64 x.err, i64 x.hav, i64 x.set_, i64 x.num]
  val := Rp.v
  ok _ _ _ := True
  len _ := rfl
  one _ v hv := by simp only [List.mem_cons, List.not_mem_nil, or_false] at hv; rcases hv with rfl | rfl | rfl | rfl <;> rfl
  keep h _ _ := h
/-- all numbers are int64 -/
def InR (x : Od) : Prop := R64 x.client ∧ R64 x.seq ∧ R64 x.kind ∧ R64 x.sum ∧ R64 x.period ∧ R64 x.hold ∧ ∀ l ∈ x.legs, R64 l.sum
end Go.Proofs.YtmljlkjomjflpaaGreat

/- book: what orders do, in plain Lean -/
namespace Go.Proofs.YtmljlkjomjflpaaGreat
open Go.RowKit
/-- a book: accounts and holds in order, the last closed period -/
structure Bk where
  L : List Ac
  H : List Held
  cl : Int
theorem Bk.ext_ {a b : Bk} (h1 : a.L = b.L) (h2 : a.H = b.H) (h3 : a.cl = b.cl) : a = b := by cases a; cases b; simp_all
def rpE (e : Int) : Rp := ⟨e, 0, 0, 0⟩
/-- (*book.Book).tells -/
def tellsL (L : List Ac) (k : ByteArray) (e : Int) : Rp := if e ≠ 0 then rpE e else if (getLR L k).2 ≠ 0 then rpE (getLR L k).2 else ⟨0, (getLR L k).1.hav, (getLR L k).1.set_, 0⟩
/-- order.Number -/
def numO (x : Od) : Int := 1000 * x.client + x.seq
def withN (r : Rp) (n : Int) : Rp := if r.err = 0 then { r with num := n } else r
def openD (B : Bk) (x : Od) : Rp × Bk := (tellsL (openL B.L x.acct x.sum).2 x.acct (openL B.L x.acct x.sum).1, ⟨(openL B.L x.acct x.sum).2, B.H, B.cl⟩)
def postD (B : Bk) (x : Od) : Rp × Bk := if x.period ≤ B.cl then (rpE 10, B) else (rpE (makeL B.L x.legs).1, ⟨(makeL B.L x.legs).2, B.H, B.cl⟩)
def holdD (B : Bk) (x : Od) : Rp × Bk := (withN (tellsL (putH B.L B.H ⟨numO x, x.acct, x.sum⟩).2.1 x.acct (putH B.L B.H ⟨numO x, x.acct, x.sum⟩).1) (numO x), ⟨(putH B.L B.H ⟨numO x, x.acct, x.sum⟩).2.1, (putH B.L B.H ⟨numO x, x.acct, x.sum⟩).2.2, B.cl⟩)
def capD (B : Bk) (x : Od) : Rp × Bk := if x.period ≤ B.cl then (rpE 10, B) else (tellsL (takeH B.L B.H x.acct x.hold x.peer x.sum).2.1 x.acct (takeH B.L B.H x.acct x.hold x.peer x.sum).1, ⟨(takeH B.L B.H x.acct x.hold x.peer x.sum).2.1, (takeH B.L B.H x.acct x.hold x.peer x.sum).2.2, B.cl⟩)
def relD (B : Bk) (x : Od) : Rp × Bk := (tellsL (freeHL B.L B.H x.acct x.hold).2.1 x.acct (freeHL B.L B.H x.acct x.hold).1, ⟨(freeHL B.L B.H x.acct x.hold).2.1, (freeHL B.L B.H x.acct x.hold).2.2, B.cl⟩)
def shutD (B : Bk) (x : Od) : Rp × Bk := if x.period ≤ B.cl then (rpE 10, B) else (⟨0, 0, 0, x.period⟩, ⟨B.L, B.H, x.period⟩)
def askD (B : Bk) (x : Od) : Rp × Bk := (tellsL B.L x.acct 0, B)
def kindD (B : Bk) (x : Od) : Rp × Bk := if x.kind = 1 then openD B x else if x.kind = 2 then postD B x else if x.kind = 3 then holdD B x else if x.kind = 4 then capD B x else if x.kind = 5 then relD B x else if x.kind = 6 then shutD B x else askD B x
/-- (*book.Book).Do -/
def doL (B : Bk) (x : Od) : Rp × Bk := if rightB x = false then (rpE 1, B) else kindD B x
def bk0 : Bk := ⟨[], [], 0⟩
/-- the book behind orders -/
def foldL (B : Bk) : List Od → Bk
  | [] => B
  | x :: r => foldL (doL B x).2 r
/-- what they are told -/
def toldL (B : Bk) : List Od → List Rp
  | [] => []
  | x :: r => (doL B x).1 :: toldL (doL B x).2 r
theorem foldL_app (l m : List Od) : ∀ B : Bk, foldL B (l ++ m) = foldL (foldL B l) m := by
  induction l with
  | nil => intro B; rfl
  | cons x r ih => intro B; exact ih _
theorem toldL_app (l m : List Od) : ∀ B : Bk, toldL B (l ++ m) = toldL B l ++ toldL (foldL B l) m := by
  induction l with
  | nil => intro B; rfl
  | cons x r ih => intro B; show _ :: toldL _ (r ++ m) = _; rw [ih]; rfl
theorem toldL_len (l : List Od) : ∀ B : Bk, (toldL B l).length = l.length := by
  induction l with
  | nil => intro B; rfl
  | cons x r ih => intro B; show (toldL _ r).length + 1 = r.length + 1; rw [ih]
theorem foldL_snoc (B : Bk) (l : List Od) (x : Od) : foldL B (l ++ [x]) = (doL (foldL B l) x).2 := foldL_app l [x] B
theorem toldL_snoc (B : Bk) (l : List Od) (x : Od) : toldL B (l ++ [x]) = toldL B l ++ [(doL (foldL B l) x).1] := toldL_app l [x] B
/-- what a right order is -/
theorem rightB_ids {x : Od} (h : rightB x = true) : (1 ≤ x.kind ∧ x.kind ≤ 7) ∧ (0 ≤ x.client ∧ x.client ≤ 9) ∧ 1 ≤ x.seq ∧ x.seq ≤ 999 := by
  unfold rightB at h
  simp only [Bool.and_eq_true, decide_eq_true_eq] at h
  exact ⟨h.1, h.2.1.1, h.2.1.2⟩
theorem rightB_fits {x : Od} (h : rightB x = true) : fitsO x = true := by
  unfold rightB at h
  simp only [Bool.and_eq_true] at h
  exact h.2.2.2
theorem numO_range {x : Od} (h : rightB x = true) : 1 ≤ numO x ∧ numO x ≤ 9999 := by
  obtain ⟨_, h1, h2⟩ := rightB_ids h
  unfold numO
  omega
theorem insB_mem {α : Type} {lt : α → α → Bool} {x y : α} {L : List α} : y ∈ insB lt x L ↔ y = x ∨ y ∈ L := by rw [(insB_perm x L).mem_iff, List.mem_cons]
theorem openL_cases (L : List Ac) (k : ByteArray) (lim : Int) : ((openL L k lim).1 ≠ 0 ∧ (openL L k lim).2 = L) ∨ ((openL L k lim).1 = 0 ∧ nameB k = true ∧ 0 ≤ lim ∧ getK Ac.name L k = none ∧ L.length ≠ 12 ∧ (openL L k lim).2 = insB ltA ⟨k, 0, 0, lim⟩ L) := by
  unfold openL
  by_cases h1 : nameB k = false ∨ lim < 0
  · rw [if_pos h1]; exact .inl ⟨by show (1 : Int) ≠ 0; decide, rfl⟩
  · rw [if_neg h1]
    by_cases h2 : (getK Ac.name L k).isSome = true
    · rw [if_pos h2]; exact .inl ⟨by show (7 : Int) ≠ 0; decide, rfl⟩
    · rw [if_neg h2]
      by_cases h3 : L.length = 12
      · rw [if_pos h3]; exact .inl ⟨by show (5 : Int) ≠ 0; decide, rfl⟩
      · rw [if_neg h3]
        exact .inr ⟨rfl, by simpa using fun e => h1 (.inl e), by omega, by simpa using h2, h3, rfl⟩
theorem InvH.open_ {L : List Ac} {H : List Held} (h : InvH L H) (k : ByteArray) {lim : Int} (hl : R64 lim) : InvH (openL L k lim).2 H := by
  have hok := openL_ok h.okA k hl
  rcases openL_cases L k lim with ⟨_, e⟩ | ⟨_, _, _, hg, _, e⟩
  · rw [e]; exact h
  · rw [e] at hok ⊢
    have hno := getK_none.1 hg
    refine ⟨hok, insB_srt keyA.strict _ _ h.srtA (fun y hy => keyA.co _ _ (fun e => hno y hy e.symm)), h.okH, h.srtH, ?_, h.few, ?_⟩
    · intro a ha
      rcases insB_mem.1 ha with rfl | ha
      · have hn : ofL H k = [] := by
          unfold ofL
          rw [List.filter_eq_nil_iff]
          intro x hx
          obtain ⟨a, ha, hk⟩ := h.at_ x hx
          have := hno a ha
          simp only [decide_eq_true_eq]
          rw [← hk]
          exact this
        show (0 : Int) = sumH (ofL H k)
        rw [hn]; rfl
      · exact h.set a ha
    · intro x hx
      obtain ⟨a, ha, hk⟩ := h.at_ x hx
      exact ⟨a, insB_mem.2 (.inr ha), hk⟩
theorem InvH.make_ {L : List Ac} {H : List Held} (h : InvH L H) (l : List Leg) : InvH (makeL L l).2 H :=
  h.ss (makeL_ss h.srtA l).1 (makeL_ok h.okA l) (makeL_ss h.srtA l).2
theorem few_names : ∀ (N : List ByteArray) (H : List Held), (∀ x ∈ H, x.acct ∈ N) → (∀ s, (ofL H s).length ≤ 8) → H.length ≤ 8 * N.length
  | [], H, h, _ => by
    cases H with
    | nil => exact Nat.zero_le _
    | cons x r => exact absurd (h x (List.mem_cons_self ..)) (by simp)
  | n :: r, H, h, hf => by
    have e : H.length = (ofL H n).length + (H.filter fun x => !decide (x.acct = n)).length := by
      unfold ofL
      induction H with
      | nil => rfl
      | cons x q ih =>
        have ih := ih (fun y hy => h y (List.mem_cons_of_mem _ hy)) (fun s => Nat.le_trans (by rw [ofL_cons]; split <;> simp) (hf s))
        by_cases hx : x.acct = n
        · rw [List.filter_cons_of_pos (by simpa using hx), List.filter_cons_of_neg (by simpa using hx)]
          simp only [List.length_cons]
          omega
        · rw [List.filter_cons_of_neg (by simpa using hx), List.filter_cons_of_pos (by simpa using hx)]
          simp only [List.length_cons]
          omega
    have h2 := few_names r (H.filter fun x => !decide (x.acct = n)) (fun x hx => by
      obtain ⟨hx, hn⟩ := List.mem_filter.1 hx
      rcases List.mem_cons.1 (h x hx) with e | hr
      · simp [e] at hn
      · exact hr) (fun s => Nat.le_trans ((List.Sublist.filter _ List.filter_sublist).length_le) (hf s))
    have h1 := hf n
    simp only [List.length_cons]
    omega
/-- what a book keeps -/
structure InvB (B : Bk) : Prop where
  inv : InvH B.L B.H
  len : B.L.length ≤ 12
  cl : 0 ≤ B.cl ∧ B.cl ≤ 1000
theorem InvB.lenH {B : Bk} (h : InvB B) : B.H.length ≤ 96 := by
  have := few_names (B.L.map Ac.name) B.H (fun x hx => by
    obtain ⟨a, ha, e⟩ := h.inv.at_ x hx
    exact List.mem_map.2 ⟨a, ha, e⟩) h.inv.few
  rw [List.length_map] at this
  have := h.len
  omega
theorem inv_bk0 : InvB bk0 where
  inv := ⟨by simp [bk0, OkA], List.Pairwise.nil, by simp [bk0, OkH], List.Pairwise.nil, by simp [bk0], fun s => by show ([] : List Held).length ≤ 8; decide, by simp [bk0]⟩
  len := by decide
  cl := by decide
/-- an order as a book takes it: its texts are short, its numbers of 64 bits -/
structure OdB (x : Od) : Prop where
  acct : x.acct.size ≤ maxLen
  peer : x.peer.size ≤ maxLen
  rng : InR x
theorem takeH_lenA (L : List Ac) (H : List Held) (hs : SrtL ltA L) (k : ByteArray) (n : Int) (p : ByteArray) (s : Int) : (takeH L H k n p s).2.1.length = L.length := by
  unfold takeH
  cases getK Held.key H ⟨k, n⟩ with
  | none => rfl
  | some y =>
    dsimp only
    split
    · rfl
    · split
      · rfl
      · split
        · rfl
        · have h1 := freeHL_lenA L H k n
          have hs1 : SrtL ltA (freeHL L H k n).2.1 := by
            unfold freeHL
            cases getK Held.key H ⟨k, n⟩ with
            | none => exact hs
            | some y => exact turnL_srt hs _ _
          rw [(makeL_ss hs1 (legs2 k p s)).1.len, h1]
theorem putH_lenA (L : List Ac) (H : List Held) (x : Held) : (putH L H x).2.1.length = L.length := by
  unfold putH
  split
  · rfl
  · split
    · rfl
    · split
      · rfl
      · exact turnL_len _ _ _ _
theorem openL_len {L : List Ac} (k : ByteArray) (lim : Int) (h : L.length ≤ 12) : (openL L k lim).2.length ≤ 12 := by
  rcases openL_cases L k lim with ⟨_, e⟩ | ⟨_, _, _, _, hn, e⟩
  · rw [e]; exact h
  · rw [e, (insB_perm _ _).length_eq, List.length_cons]; omega
theorem InvB.do_ {B : Bk} (h : InvB B) {x : Od} (hx : OdB x) : InvB (doL B x).2 := by
  obtain ⟨r1, r2, r3, r4, r5, r6, r7⟩ := hx.rng
  unfold doL
  by_cases hr : rightB x = false
  · rw [if_pos hr]; exact h
  rw [if_neg hr]
  have hr' : rightB x = true := by simpa using hr
  have hf := rightB_fits hr'
  unfold kindD
  unfold fitsO at hf
  by_cases k1 : x.kind = 1
  · rw [if_pos k1]
    exact ⟨h.inv.open_ _ r4, openL_len _ _ h.len, h.cl⟩
  rw [if_neg k1] at hf ⊢
  by_cases k2 : x.kind = 2
  · rw [if_pos k2]
    unfold postD
    split
    · exact h
    · exact ⟨h.inv.make_ _, by show (makeL B.L x.legs).2.length ≤ 12; rw [(makeL_ss h.inv.srtA _).1.len]; exact h.len, h.cl⟩
  rw [if_neg k2] at hf ⊢
  by_cases k3 : x.kind = 3
  · rw [if_pos k3]
    exact ⟨h.inv.put _ r4 hx.acct, by show (putH B.L B.H ⟨numO x, x.acct, x.sum⟩).2.1.length ≤ 12; rw [putH_lenA]; exact h.len, h.cl⟩
  rw [if_neg k3] at hf ⊢
  by_cases k4 : x.kind = 4
  · rw [if_pos k4]
    unfold capD
    split
    · exact h
    · exact ⟨h.inv.take _ _ _ _, by show (takeH B.L B.H x.acct x.hold x.peer x.sum).2.1.length ≤ 12; rw [takeH_lenA _ _ h.inv.srtA]; exact h.len, h.cl⟩
  rw [if_neg k4] at hf ⊢
  by_cases k5 : x.kind = 5
  · rw [if_pos k5]
    exact ⟨h.inv.free _ _, by show (freeHL B.L B.H x.acct x.hold).2.1.length ≤ 12; rw [freeHL_lenA]; exact h.len, h.cl⟩
  rw [if_neg k5] at hf ⊢
  by_cases k6 : x.kind = 6
  · rw [if_pos k6] at hf ⊢
    unfold shutD
    unfold fits6 periodB at hf
    simp only [Bool.and_eq_true, decide_eq_true_eq] at hf
    split
    · exact h
    · exact ⟨h.inv, h.len, by show 0 ≤ x.period ∧ x.period ≤ 1000; omega⟩
  rw [if_neg k6]
  exact h
theorem InvB.fold {B : Bk} (h : InvB B) : ∀ (l : List Od), (∀ x ∈ l, OdB x) → InvB (foldL B l) := by
  intro l
  induction l generalizing B with
  | nil => intro _; exact h
  | cons x r ih => intro hl; exact ih (h.do_ (hl x (List.mem_cons_self ..))) fun y hy => hl y (List.mem_cons_of_mem _ hy)
end Go.Proofs.YtmljlkjomjflpaaGreat

/- A map with texts as keys, as the kit's sorted keys read it. No program. -/
namespace Go.Proofs.YtmljlkjomjflpaaGreat
open Go.WideElems (Fit rd rg rd_mk rg_of)

def anyR : Value → Option (DataW Unit × List MemPlace) := fun _ => some (.lit (.bool true), [])
def bytesOf : Value → List UInt8
  | .string s => s.data.toList
  | _ => []
theorem ownsMap_of {P : Program} {k : TypeId} (hk : P.underlying k = some .string) {w : World} {b : Nat} {M : List (ByteArray × Value)} (h : MapIs Value.string w b M) (hn : M.length ≤ maxLen) (hs : ∀ p ∈ M, p.1.size ≤ maxLen) :
    ∃ D0 : DataW Unit, w.ownsMap P k anyR b M.length D0 ∧ (strKeys D0).Perm (M.map fun p => p.1.data.toList) ∧ Maps.size D0 = M.length := by
  obtain ⟨es, clock, hb, he, hpw, hcl, hnd⟩ := h
  have hlen : es.size = M.length := by have := congrArg List.length he; simpa using this
  have hkey : ∀ x ∈ es.toList, ∃ p ∈ M, x.key = .string p.1 := fun x hx => by
    have : (x.key, x.val) ∈ M.map (fun p => (Value.string p.1, p.2)) := by rw [← he]; exact List.mem_map.2 ⟨x, hx, rfl⟩
    obtain ⟨p, hp, e⟩ := List.mem_map.1 this
    injection e with e1 e2
    exact ⟨p, hp, e1.symm⟩
  have hrd : ∀ x ∈ es.toList, rd P k anyR x = some (.string (bytesOf x.key), .lit (.bool true)) := fun x hx => by
    obtain ⟨p, hp, e⟩ := hkey x hx
    have h1 : keyOf P k x.key = some (.string p.1.data.toList) := by rw [e]; exact WideMaps.keyOf_string_mk hk (hs p hp)
    have := rd_mk (R := anyR) (val := x.val) (born := x.born) h1 rfl
    rw [e]
    exact this
  have hkeys : (es.toList.map (·.key)) = M.map (fun p => Value.string p.1) := by
    have := congrArg (List.map Prod.fst) he
    simpa [List.map_map, Function.comp_def] using this
  refine ⟨_, ⟨es, clock, hb, ⟨by omega, ⟨hcl, ?_, ?_⟩, fun x hx => ⟨_, hrd x hx⟩⟩, by omega, rfl⟩, ?_, ?_⟩
  · exact List.pairwise_map.2 (hpw.imp fun h => Nat.ne_of_lt h)
  · rw [hkeys]
    exact List.pairwise_map.2 (hnd.imp fun h e => h (by injection e))
  · show ((List.foldr DataW.insert [] (es.toList.map (rg P k anyR))).map fun p => strOf p.1).Perm _
    refine ((WideShapes.sorted_perm _).map _).trans (List.Perm.of_eq ?_)
    rw [List.map_map]
    have h1 : es.toList.map ((fun p : Lit × DataW Unit => strOf p.1) ∘ rg P k anyR) = es.toList.map (fun x => bytesOf x.key) := List.map_congr_left fun x hx => by
      simp only [Function.comp_def, rg_of (hrd x hx)]
      rfl
    rw [h1]
    have := congrArg (List.map bytesOf) hkeys
    rw [List.map_map, List.map_map] at this
    exact this
  · show (List.foldr DataW.insert [] (es.toList.map (rg P k anyR))).length = _
    rw [(WideShapes.sorted_perm _).length_eq, List.length_map, Array.length_toList, hlen]
theorem bl_lt : ∀ {a b : List UInt8}, Op.bytesLess a b = true → a < b
  | _, [], h => by simp [Op.bytesLess] at h
  | [], _ :: _, _ => List.nil_lt_cons _ _
  | x :: r, y :: s, h => by
    simp only [Op.bytesLess, Bool.or_eq_true, decide_eq_true_eq, Bool.and_eq_true, beq_iff_eq] at h
    rcases h with h | ⟨rfl, h⟩
    · exact List.cons_lt_cons_iff.2 (.inl h)
    · exact List.cons_lt_cons_iff.2 (.inr ⟨rfl, bl_lt h⟩)
theorem bless_le {a b : ByteArray} (h : bless a b = true) : a.data.toList ≤ b.data.toList := by
  unfold bless at h
  rw [ByteArray.toList_eq, ByteArray.toList_eq] at h
  exact List.le_of_lt (bl_lt h)
/-- what the kit's sort hands back, where the keys are known in order -/
theorem sorted_keys {ss : List (List UInt8)} {N : List ByteArray} (hp : ss.Perm (N.map fun a => a.data.toList)) (hs : N.Pairwise fun a b => bless a b = true) : (ss.mergeSort (fun x y => decide (x ≤ y))).map _root_.Go.Proofs.encStr = N.map Value.string := by
  have e : ss.mergeSort (fun x y => decide (x ≤ y)) = N.map fun a => a.data.toList := by
    have tr : ∀ a b c : List UInt8, leB a b = true → leB b c = true → leB a c = true := fun a b c h1 h2 => by simp only [leB, decide_eq_true_eq] at *; exact List.le_trans h1 h2
    have to : ∀ a b : List UInt8, (leB a b || leB b a) = true := fun a b => by simp only [leB, Bool.or_eq_true, decide_eq_true_eq]; exact List.le_total a b
    refine List.Perm.eq_of_pairwise (le := fun a b => leB a b = true) (fun a b _ _ h1 h2 => ?_) (List.pairwise_mergeSort tr to ss) ?_ ((List.mergeSort_perm ss leB).trans hp)
    · simp only [leB, decide_eq_true_eq] at h1 h2
      exact List.le_antisymm h1 h2
    · rw [List.pairwise_map]
      exact hs.imp fun h => decide_eq_true (bless_le h)
  rw [e, List.map_map]
  refine List.map_congr_left fun a _ => ?_
  obtain ⟨⟨x⟩⟩ := a
  rfl
end Go.Proofs.YtmljlkjomjflpaaGreat
