/- ClashSame -/
import Derived.Test.YtcpjopmgiogfkaaRows
import Derived.Test.YtcpjopmgiogfkaaLives
import Derived.Test.YtcpjopmgiogfkaaFew10
import Derived.Test.YtcpjopmgiogfkaaBeg
import Derived.Deep.RegionHeld3
import Derived.WalkKit
import Derived.WalkSpells
import Derived.WalkLawsBesides
import Derived.Deep.QuietTactic
import Derived.BigQuiet
import Derived.Laws.StructEq
import Derived.Deep.DeepFit
import Derived.StillTailTactics
namespace Go.Proofs.Ytcpjopmgiogfkaa
open Go.RowKit
theorem fewL_two (a b : Od) : fewL 2 [a, b] = [cut8 a, cut8 b] := rfl
theorem cut8_legs (a : Od) : (cut8 a).legs.length ≤ 8 := by simp only [cut8, List.length_take]; omega

theorem okb_kind {x : Od} {w : World} {n : Nat} (h : Okb w n x) (k : Int) : Okb w n { x with kind := k } := by
  have h : Od.Ok w (fun b => b < n) x := h
  exact ⟨h.acct, h.peer, h.note, h.legs⟩
theorem clash_asks (p q : Int) : clashB { askOd 1 ⟨#[120]⟩ with kind := p } { askOd 2 ⟨#[121]⟩ with kind := q } = ((decide (p = 6) || decide (q = 6)) || (decide (p = 1) && decide (q = 1))) := by
  have h1 : touches { askOd 1 ⟨#[120]⟩ with kind := p } = [⟨#[120]⟩] := by kernel_rfl
  have h2 : touches { askOd 2 ⟨#[121]⟩ with kind := q } = [⟨#[121]⟩] := by kernel_rfl
  unfold clashB
  rw [h1, h2]
  have h3 : (decide (({ askOd 1 ⟨#[120]⟩ with kind := p } : Od).id = ({ askOd 2 ⟨#[121]⟩ with kind := q } : Od).id)) = false := by kernel_rfl
  have h4 : (([⟨#[120]⟩] : List ByteArray).any fun s => ([⟨#[121]⟩] : List ByteArray).any fun t => decide (s = t)) = false := by kernel_rfl
  rw [h3, h4, Bool.or_false, Bool.false_or]

set_option maxRecDepth 100000 in
set_option maxHeartbeats 2000000 in
theorem claSame_c (a b : Od) (w : World) (ha : Okb w w.heap.size a) (hb : Okb w w.heap.size b) :
    Calls Try.prog 3 #[a.v, b.v] w fun e w' => e = .returned (.bool true) ∧ Below w.heap.size w w' := by
  have fw : ∀ (W : World) A c, Sl W W.heap.size A c [a, b] → Calls Try.prog 9 #[.slice A 2 c, i64 2] W fun e w' => ∃ v, e = .returned v ∧ Own w' W.heap.size 26 v [cut8 a, cut8 b] ∧ Below W.heap.size W w' := fun W A c h => few_10 A c 2 [a, b] W h (by decide)
  have hO1 := own_lit (w := w) 26 a.cells.toArray [a] (Nat.le_refl _) (by simp [Enc.cells]) (by simp) (by simpa using ha)
  have hB1 := (Below.refl w.heap.size w).alloc (Nat.le_refl _) (.cells a.cells.toArray 26)
  have hO2 := own_lit (w := w.alloc (.cells a.cells.toArray 26)) 26 b.cells.toArray [b] (Nat.le_refl _) (by simp [Enc.cells]) (by simp) (by simpa using hb.later hB1)
  have hB2 := (Below.refl (w.alloc (.cells a.cells.toArray 26)).heap.size (w.alloc (.cells a.cells.toArray 26))).alloc (Nat.le_refl _) (.cells b.cells.toArray 26)
  have hO1' := hO1.later hB2
  have hB3 := below_on hB1 (Nat.le_refl _) hB2
  obtain ⟨W2, hW2⟩ : ∃ W, (w.alloc (.cells a.cells.toArray 26)).alloc (.cells b.cells.toArray 26) = W := ⟨_, rfl⟩
  rw [hW2] at hO2 hO1' hB3
  clear hB1 hB2 hO1
  unfold Od.cells at hW2
  rw [show (w.alloc (.cells a.cells.toArray 26)).heap.size = w.heap.size + 1 from by simp] at hO2
  unfold Od.v
  go_enter Try.func3, Try.ntmps3
  go_wp2_with fail
  clear hW2
  refine (lives_10 _).mono ?_
  rintro e w1 ⟨rfl, hb1⟩
  have hBa := hO1'.later hb1
  have hBb := hO2.later hb1
  have hb2 := below_on hB3 (Nat.le_refl _) hb1
  clear hO1' hO2 hb1 hB3
  obtain ⟨b1, o1, hA1, -, -, c0, c1, c2, c3, c4, c5, c6, c7, c8, c9⟩ := hBa.sl_of.od (k := 0) (by simp)
  injection hA1 with hA1
  injection hA1 with e1 e2
  subst e1 e2
  obtain ⟨b1, o1, hA1, -, -, d0, d1, d2, d3, d4, d5, d6, d7, d8, d9⟩ := hBb.sl_of.od (k := 0) (by simp)
  injection hA1 with hA1
  injection hA1 with e1 e2
  subst e1 e2
  have hOl := fun cs hcs => own_lit (w := w1) 26 cs [a, b] (Nat.le_refl _) hcs (by simp) (fun x hx => by
    simp only [List.mem_cons, List.not_mem_nil, or_false] at hx
    rcases hx with rfl | rfl
    · exact ha.later hb2
    · exact hb.later hb2)
  have hB4 := fun o => (Below.refl w1.heap.size w1).alloc (Nat.le_refl _) o
  go_wp2_with fail
  have hL := Own.sl_of (hOl _ rfl)
  refine (fw _ _ _ hL).mono ?_
  rintro e w2 ⟨v, rfl, hO, hb3⟩
  have hb4 := below_on (hB4 _) (Nat.le_refl _) hb3
  have hBa2 := hBa.later hb4
  have hBb2 := hBb.later hb4
  have hb5 := below_on hb2 (Nat.le_refl _) hb4
  have hO := hO.mono (show w1.heap.size ≤ _ from (hB4 _).size)
  have hla1 := hBa.base_le
  have hlb1 := hBb.base_le
  clear hL hOl hB4 hb3 hb4 hb2 hBa hBb fw
  go_wp2_with fail
  clear c0 c1 c2 c3 c4 c5 c6 c7 c8 c9 d0 d1 d2 d3 d4 d5 d6 d7 d8 d9
  have okx : Enc.ok w2 (fun b => b < w.heap.size) (cut8 a) := Enc.keep (cut8_ok ha) (fun _ hp => hb5.cell hp) (fun _ h => h)
  have oky : Enc.ok w2 (fun b => b < w.heap.size) (cut8 b) := Enc.keep (cut8_ok hb) (fun _ hp => hb5.cell hp) (fun _ h => h)
  have okb : Enc.ok w2 (fun b => b < w.heap.size) b := Enc.keep hb (fun _ hp => hb5.cell hp) (fun _ h => h)
  have Okx := Lib.hid (show Okb w w.heap.size (cut8 a) from cut8_ok ha)
  have Oky := Lib.hid (show Okb w w.heap.size (cut8 b) from cut8_ok hb)
  have Hokx := Lib.hid okx
  have Hoky := Lib.hid oky
  have Hokb := Lib.hid okb
  clear okx oky okb
  have hxl := cut8_legs a
  have hyl := cut8_legs b
  generalize cut8 a = x at hO hxl Hokx Okx
  generalize cut8 b = y at hO hyl Hoky Oky
  obtain ⟨gb, cp, cur0, rfl, hgb, -⟩ : ∃ g cap cur, v = .slice (some ⟨g, 0, none⟩) 2 cap ∧ w1.heap.size ≤ g ∧ w2.heap[g]? = some (.cells cur 26 (0, 0)) ∧ _ := hO.form (by simp)
  have hs2 := hO.sl_of
  obtain ⟨b1, o1, hA1, hgl, hxok, x0, x1, x2, x3, x4, x5, x6, x7, x8, x9⟩ := hs2.od (k := 0) (by simp)
  injection hA1 with hA1
  injection hA1 with e1 e2
  subst e1 e2
  obtain ⟨b1, o1, hA1, -, hyok, y0, y1, y2, y3, y4, y5, y6, y7, y8, y9⟩ := hs2.od (k := 1) (by simp)
  injection hA1 with hA1
  injection hA1 with e1 e2
  subst e1 e2
  obtain ⟨b1, o1, hA1, hla, -, c0, c1, c2, c3, c4, c5, c6, c7, c8, c9⟩ := hBa2.sl_of.od (k := 0) (by simp)
  injection hA1 with hA1
  injection hA1 with e1 e2
  subst e1 e2
  obtain ⟨b1, o1, hA1, hlb, -, d0, d1, d2, d3, d4, d5, d6, d7, d8, d9⟩ := hBb2.sl_of.od (k := 0) (by simp)
  injection hA1 with hA1
  injection hA1 with e1 e2
  subst e1 e2
  simp only [Nat.zero_mul, Nat.zero_add, Nat.one_mul, List.getElem_cons_zero, List.getElem_cons_succ, Nat.reduceAdd] at x0 x1 x2 x3 x4 x5 x6 x7 x8 x9 y0 y1 y2 y3 y4 y5 y6 y7 y8 y9 c0 c1 c2 c3 c4 c5 c6 c7 c8 c9 d0 d1 d2 d3 d4 d5 d6 d7 d8 d9
  have hfa := fun j => hBa2.free j
  have hfb := fun j => hBb2.free j
  have hn1 : gb ≠ w.heap.size := by omega
  have hn2 : gb ≠ w.heap.size + 1 := by omega
  clear hs2
  have HxO := Lib.hid hxok
  have HyO := Lib.hid hyok
  clear hxok hyok
  go_region
  clear x0 x1 x2 x3 x4 x5 x6 x7 x8 x9 y0 y1 y2 y3 y4 y5 y6 y7 y8 y9 c0 c1 c2 c3 c4 c5 c6 c7 c8 c9 d0 d1 d2 d3 d4 d5 d6 d7 d8 d9
  obtain ⟨W3, hW3⟩ : ∃ W3, W3 = ((w2.setCells w.heap.size (0 * Enc.size Od) (Enc.cells x)).setCells (w.heap.size + 1) (0 * Enc.size Od) (Enc.cells y)).drew := ⟨_, rfl⟩
  change Exit.then _ _ _ _ (((w2.setCells w.heap.size (0 * Enc.size Od) (Enc.cells x)).setCells (w.heap.size + 1) (0 * Enc.size Od) (Enc.cells y)).drew)
  rw [← hW3]
  obtain ⟨p1, p2⟩ := hBa2.set_cells 0 (by simp) x (Enc.keep Hokx.out (fun _ _ => rfl) (fun k hk => ⟨by omega, by simp only [Value.ownBlock, ne_eq, Option.some.injEq]; omega⟩))
  have hsz := p2.size
  have r1 := hBb2.grown p2 (.inr (by simp only [Value.ownBlock, ne_eq, Option.some.injEq]; omega)) (fun z hz => by
    obtain rfl := List.mem_singleton.1 hz
    exact Enc.keep Hokb.out (fun _ _ => rfl) (fun k hk => ⟨by omega, by simp only [Value.ownBlock, ne_eq, Option.some.injEq]; omega, by simp only [ne_eq, Option.some.injEq]; omega⟩))
  obtain ⟨p3, p4⟩ := r1.set_cells 0 (by simp) y (Enc.keep Hoky.out (fun q hq => World.cell?_of_block (p2.block _ (by omega) (by simp only [ne_eq, Option.some.injEq]; omega))) (fun k hk => ⟨by omega, by simp only [Value.ownBlock, ne_eq, Option.some.injEq]; omega⟩))
  have p5 := p1.grown p4 (.inr (by simp only [Value.ownBlock, ne_eq, Option.some.injEq]; omega)) (fun z hz => by
    obtain rfl := List.mem_singleton.1 hz
    exact Enc.keep Hokx.out (fun q hq => World.cell?_of_block (p2.block _ (by omega) (by simp only [ne_eq, Option.some.injEq]; omega))) (fun k hk => ⟨by omega, by simp only [Value.ownBlock, ne_eq, Option.some.injEq]; omega, by simp only [ne_eq, Option.some.injEq]; omega⟩))
  have hb6 := ((hb5.grown p2 hb5.size (fun k hk => by injection hk with hk; omega)).grown p4 (by have := hb5.size; omega) (fun k hk => by injection hk with hk; omega)).drew
  have q1 := p5.drew
  have q2 := p3.drew
  rw [← hW3] at q1 q2 hb6
  clear hW3 p1 p2 p3 p4 p5 r1 hsz hBa2 hBb2 hO Hokx Hoky Hokb HxO HyO hfa hfb hn1 hn2 hb5 ha hb
  obtain ⟨b1, o1, hA1, hla3, -, c0, c1, c2, c3, c4, c5, c6, c7, c8, c9⟩ := q1.sl_of.od (k := 0) (by simp)
  injection hA1 with hA1
  injection hA1 with e1 e2
  subst e1 e2
  obtain ⟨b1, o1, hA1, hlb3, -, d0, d1, d2, d3, d4, d5, d6, d7, d8, d9⟩ := q2.sl_of.od (k := 0) (by simp)
  injection hA1 with hA1
  injection hA1 with e1 e2
  subst e1 e2
  simp only [Nat.zero_mul, Nat.zero_add, List.set_cons_zero, List.getElem_cons_zero] at c0 c1 c2 c3 c4 c5 c6 c7 c8 c9 d0 d1 d2 d3 d4 d5 d6 d7 d8 d9
  clear q1 q2
  have hO4 := own_lit (w := W3) 26 #[i64 x.client, i64 x.seq, i64 6, .string x.acct, .string x.peer, i64 x.sum, .slice x.la x.legs.length x.lc, i64 x.period, i64 x.hold, .string x.note] [{ x with kind := 6 }] (Nat.le_refl _) rfl (by simp) (fun z hz => by
    obtain rfl := List.mem_singleton.1 hz
    exact okb_kind (Okx.out.later hb6) 6)
  have hB4 := (Below.refl W3.heap.size W3).alloc (Nat.le_refl _) (.cells #[i64 x.client, i64 x.seq, i64 6, .string x.acct, .string x.peer, i64 x.sum, .slice x.la x.legs.length x.lc, i64 x.period, i64 x.hold, .string x.note] 26)
  have hb7 := below_on hb6 (by omega) hB4
  have hla4 := Nat.lt_of_lt_of_le hla3 hB4.size
  have hlb4 := Nat.lt_of_lt_of_le hlb3 hB4.size
  obtain ⟨W4, hW4⟩ : ∃ W4, W3.alloc (.cells #[i64 x.client, i64 x.seq, i64 6, .string x.acct, .string x.peer, i64 x.sum, .slice x.la x.legs.length x.lc, i64 x.period, i64 x.hold, .string x.note] 26) = W4 := ⟨_, rfl⟩
  go_wp2_with fail
  rw [hW4] at hO4 hb7 hB4 hla4 hlb4
  clear hW4
  obtain ⟨b1, o1, hA1, hlz, -, z0, z1, z2, z3, z4, z5, z6, z7, z8, z9⟩ := hO4.sl_of.od (k := 0) (by simp)
  injection hA1 with hA1
  injection hA1 with e1 e2
  subst e1 e2
  simp only [Nat.zero_mul, Nat.zero_add, List.getElem_cons_zero] at z0 z1 z2 z3 z4 z5 z6 z7 z8 z9
  have c0 := (hB4.cell (p := ⟨w.heap.size, 0, none⟩) hla3).trans c0
  have c1 := (hB4.cell (p := ⟨w.heap.size, 1, none⟩) hla3).trans c1
  have c2 := (hB4.cell (p := ⟨w.heap.size, 2, none⟩) hla3).trans c2
  have c3 := (hB4.cell (p := ⟨w.heap.size, 3, none⟩) hla3).trans c3
  have c4 := (hB4.cell (p := ⟨w.heap.size, 4, none⟩) hla3).trans c4
  have c5 := (hB4.cell (p := ⟨w.heap.size, 5, none⟩) hla3).trans c5
  have c6 := (hB4.cell (p := ⟨w.heap.size, 6, none⟩) hla3).trans c6
  have c7 := (hB4.cell (p := ⟨w.heap.size, 7, none⟩) hla3).trans c7
  have c8 := (hB4.cell (p := ⟨w.heap.size, 8, none⟩) hla3).trans c8
  have c9 := (hB4.cell (p := ⟨w.heap.size, 9, none⟩) hla3).trans c9
  have d0 := (hB4.cell (p := ⟨w.heap.size + 1, 0, none⟩) hlb3).trans d0
  have d1 := (hB4.cell (p := ⟨w.heap.size + 1, 1, none⟩) hlb3).trans d1
  have d2 := (hB4.cell (p := ⟨w.heap.size + 1, 2, none⟩) hlb3).trans d2
  have d3 := (hB4.cell (p := ⟨w.heap.size + 1, 3, none⟩) hlb3).trans d3
  have d4 := (hB4.cell (p := ⟨w.heap.size + 1, 4, none⟩) hlb3).trans d4
  have d5 := (hB4.cell (p := ⟨w.heap.size + 1, 5, none⟩) hlb3).trans d5
  have d6 := (hB4.cell (p := ⟨w.heap.size + 1, 6, none⟩) hlb3).trans d6
  have d7 := (hB4.cell (p := ⟨w.heap.size + 1, 7, none⟩) hlb3).trans d7
  have d8 := (hB4.cell (p := ⟨w.heap.size + 1, 8, none⟩) hlb3).trans d8
  have d9 := (hB4.cell (p := ⟨w.heap.size + 1, 9, none⟩) hlb3).trans d9
  have xOk : ∀ W, Below W4.heap.size W4 W → Okb W W.heap.size x := fun W h => Okx.out.later (below_on hb7 (by omega) h)
  have yOk : ∀ W, Below W4.heap.size W4 W → Okb W W.heap.size y := fun W h => Oky.out.later (below_on hb7 (by omega) h)
  have zOk : ∀ W, Below W4.heap.size W4 W → Okb W W.heap.size { x with kind := 6 } := fun W h => okb_kind (xOk W h) 6
  have hclz : clashB { x with kind := 6 } y = true := by unfold clashB; simp
  have hclz' : clashB y { x with kind := 6 } = true := by rw [clashB_comm]; exact hclz
  have hcyx := clashB_comm y x
  obtain ⟨v, hv⟩ : ∃ v, clashB x y = v := ⟨_, rfl⟩
  have k1 : ∀ W, Below W4.heap.size W4 W → Calls Try.prog 10 #[.agg #[i64 x.client, i64 x.seq, i64 x.kind, .string x.acct, .string x.peer, i64 x.sum, .slice x.la x.legs.length x.lc, i64 x.period, i64 x.hold, .string x.note], .agg #[i64 y.client, i64 y.seq, i64 y.kind, .string y.acct, .string y.peer, i64 y.sum, .slice y.la y.legs.length y.lc, i64 y.period, i64 y.hold, .string y.note]] W fun e w' => e = .returned (.bool v) ∧ Below W.heap.size W w' := fun W h => by
    have := clash_c x y W (xOk W h) (yOk W h) (by omega) (by omega)
    rw [hv] at this
    exact this
  have k2 : ∀ W, Below W4.heap.size W4 W → Calls Try.prog 10 #[.agg #[i64 y.client, i64 y.seq, i64 y.kind, .string y.acct, .string y.peer, i64 y.sum, .slice y.la y.legs.length y.lc, i64 y.period, i64 y.hold, .string y.note], .agg #[i64 x.client, i64 x.seq, i64 x.kind, .string x.acct, .string x.peer, i64 x.sum, .slice x.la x.legs.length x.lc, i64 x.period, i64 x.hold, .string x.note]] W fun e w' => e = .returned (.bool v) ∧ Below W.heap.size W w' := fun W h => by
    have := clash_c y x W (yOk W h) (xOk W h) (by omega) (by omega)
    rw [hcyx, hv] at this
    exact this
  have k3 : ∀ W, Below W4.heap.size W4 W → Calls Try.prog 10 #[.agg #[i64 x.client, i64 x.seq, i64 x.kind, .string x.acct, .string x.peer, i64 x.sum, .slice x.la x.legs.length x.lc, i64 x.period, i64 x.hold, .string x.note], .agg #[i64 x.client, i64 x.seq, i64 x.kind, .string x.acct, .string x.peer, i64 x.sum, .slice x.la x.legs.length x.lc, i64 x.period, i64 x.hold, .string x.note]] W fun e w' => e = .returned (.bool true) ∧ Below W.heap.size W w' := fun W h => by
    have := clash_c x x W (xOk W h) (xOk W h) (by omega) (by omega)
    rw [clashB_refl] at this
    exact this
  have k4 : ∀ W, Below W4.heap.size W4 W → Calls Try.prog 10 #[.agg #[i64 x.client, i64 x.seq, i64 6, .string x.acct, .string x.peer, i64 x.sum, .slice x.la x.legs.length x.lc, i64 x.period, i64 x.hold, .string x.note], .agg #[i64 y.client, i64 y.seq, i64 y.kind, .string y.acct, .string y.peer, i64 y.sum, .slice y.la y.legs.length y.lc, i64 y.period, i64 y.hold, .string y.note]] W fun e w' => e = .returned (.bool true) ∧ Below W.heap.size W w' := fun W h => by
    have := clash_c { x with kind := 6 } y W (zOk W h) (yOk W h) (by simp only; omega) (by omega)
    rw [hclz] at this
    exact this
  have k5 : ∀ W, Below W4.heap.size W4 W → Calls Try.prog 10 #[.agg #[i64 y.client, i64 y.seq, i64 y.kind, .string y.acct, .string y.peer, i64 y.sum, .slice y.la y.legs.length y.lc, i64 y.period, i64 y.hold, .string y.note], .agg #[i64 x.client, i64 x.seq, i64 6, .string x.acct, .string x.peer, i64 x.sum, .slice x.la x.legs.length x.lc, i64 x.period, i64 x.hold, .string x.note]] W fun e w' => e = .returned (.bool true) ∧ Below W.heap.size W w' := fun W h => by
    have := clash_c y { x with kind := 6 } W (yOk W h) (zOk W h) (by omega) (by simp only; omega)
    rw [hclz'] at this
    exact this
  have hS : ∀ W, Below W4.heap.size W4 W → (Below W4.heap.size W4 W ∧ W.cell? ⟨w.heap.size, 0, none⟩ = some (i64 x.client) ∧ W.cell? ⟨w.heap.size, 1, none⟩ = some (i64 x.seq) ∧ W.cell? ⟨w.heap.size, 2, none⟩ = some (i64 x.kind) ∧ W.cell? ⟨w.heap.size, 3, none⟩ = some (.string x.acct) ∧ W.cell? ⟨w.heap.size, 4, none⟩ = some (.string x.peer) ∧ W.cell? ⟨w.heap.size, 5, none⟩ = some (i64 x.sum) ∧ W.cell? ⟨w.heap.size, 6, none⟩ = some (.slice x.la x.legs.length x.lc) ∧ W.cell? ⟨w.heap.size, 7, none⟩ = some (i64 x.period) ∧ W.cell? ⟨w.heap.size, 8, none⟩ = some (i64 x.hold) ∧ W.cell? ⟨w.heap.size, 9, none⟩ = some (.string x.note) ∧ W.cell? ⟨w.heap.size + 1, 0, none⟩ = some (i64 y.client) ∧ W.cell? ⟨w.heap.size + 1, 1, none⟩ = some (i64 y.seq) ∧ W.cell? ⟨w.heap.size + 1, 2, none⟩ = some (i64 y.kind) ∧ W.cell? ⟨w.heap.size + 1, 3, none⟩ = some (.string y.acct) ∧ W.cell? ⟨w.heap.size + 1, 4, none⟩ = some (.string y.peer) ∧ W.cell? ⟨w.heap.size + 1, 5, none⟩ = some (i64 y.sum) ∧ W.cell? ⟨w.heap.size + 1, 6, none⟩ = some (.slice y.la y.legs.length y.lc) ∧ W.cell? ⟨w.heap.size + 1, 7, none⟩ = some (i64 y.period) ∧ W.cell? ⟨w.heap.size + 1, 8, none⟩ = some (i64 y.hold) ∧ W.cell? ⟨w.heap.size + 1, 9, none⟩ = some (.string y.note) ∧ W.cell? ⟨W3.heap.size, 0, none⟩ = some (i64 x.client) ∧ W.cell? ⟨W3.heap.size, 1, none⟩ = some (i64 x.seq) ∧ W.cell? ⟨W3.heap.size, 2, none⟩ = some (i64 6) ∧ W.cell? ⟨W3.heap.size, 3, none⟩ = some (.string x.acct) ∧ W.cell? ⟨W3.heap.size, 4, none⟩ = some (.string x.peer) ∧ W.cell? ⟨W3.heap.size, 5, none⟩ = some (i64 x.sum) ∧ W.cell? ⟨W3.heap.size, 6, none⟩ = some (.slice x.la x.legs.length x.lc) ∧ W.cell? ⟨W3.heap.size, 7, none⟩ = some (i64 x.period) ∧ W.cell? ⟨W3.heap.size, 8, none⟩ = some (i64 x.hold) ∧ W.cell? ⟨W3.heap.size, 9, none⟩ = some (.string x.note)) := fun W h => ⟨h, (h.cell hla4).trans c0, (h.cell hla4).trans c1, (h.cell hla4).trans c2, (h.cell hla4).trans c3, (h.cell hla4).trans c4, (h.cell hla4).trans c5, (h.cell hla4).trans c6, (h.cell hla4).trans c7, (h.cell hla4).trans c8, (h.cell hla4).trans c9, (h.cell hlb4).trans d0, (h.cell hlb4).trans d1, (h.cell hlb4).trans d2, (h.cell hlb4).trans d3, (h.cell hlb4).trans d4, (h.cell hlb4).trans d5, (h.cell hlb4).trans d6, (h.cell hlb4).trans d7, (h.cell hlb4).trans d8, (h.cell hlb4).trans d9, (h.cell hlz).trans z0, (h.cell hlz).trans z1, (h.cell hlz).trans z2, (h.cell hlz).trans z3, (h.cell hlz).trans z4, (h.cell hlz).trans z5, (h.cell hlz).trans z6, (h.cell hlz).trans z7, (h.cell hlz).trans z8, (h.cell hlz).trans z9⟩
  clear hclz hclz' hcyx hv xOk yOk zOk hO4 hB4 hb6 hxl hyl c0 c1 c3 c4 c5 c6 c7 c8 c9 d0 d1 d3 d4 d5 d6 d7 d8 d9 z0 z1 z2 z3 z4 z5 z6 z7 z8 z9
  have h0 := (Below.refl W4.heap.size W4).drew
  go_region_held3 (fun W => Below W4.heap.size W4 W ∧ W.cell? ⟨w.heap.size, 0, none⟩ = some (i64 x.client) ∧ W.cell? ⟨w.heap.size, 1, none⟩ = some (i64 x.seq) ∧ W.cell? ⟨w.heap.size, 2, none⟩ = some (i64 x.kind) ∧ W.cell? ⟨w.heap.size, 3, none⟩ = some (.string x.acct) ∧ W.cell? ⟨w.heap.size, 4, none⟩ = some (.string x.peer) ∧ W.cell? ⟨w.heap.size, 5, none⟩ = some (i64 x.sum) ∧ W.cell? ⟨w.heap.size, 6, none⟩ = some (.slice x.la x.legs.length x.lc) ∧ W.cell? ⟨w.heap.size, 7, none⟩ = some (i64 x.period) ∧ W.cell? ⟨w.heap.size, 8, none⟩ = some (i64 x.hold) ∧ W.cell? ⟨w.heap.size, 9, none⟩ = some (.string x.note) ∧ W.cell? ⟨w.heap.size + 1, 0, none⟩ = some (i64 y.client) ∧ W.cell? ⟨w.heap.size + 1, 1, none⟩ = some (i64 y.seq) ∧ W.cell? ⟨w.heap.size + 1, 2, none⟩ = some (i64 y.kind) ∧ W.cell? ⟨w.heap.size + 1, 3, none⟩ = some (.string y.acct) ∧ W.cell? ⟨w.heap.size + 1, 4, none⟩ = some (.string y.peer) ∧ W.cell? ⟨w.heap.size + 1, 5, none⟩ = some (i64 y.sum) ∧ W.cell? ⟨w.heap.size + 1, 6, none⟩ = some (.slice y.la y.legs.length y.lc) ∧ W.cell? ⟨w.heap.size + 1, 7, none⟩ = some (i64 y.period) ∧ W.cell? ⟨w.heap.size + 1, 8, none⟩ = some (i64 y.hold) ∧ W.cell? ⟨w.heap.size + 1, 9, none⟩ = some (.string y.note) ∧ W.cell? ⟨W3.heap.size, 0, none⟩ = some (i64 x.client) ∧ W.cell? ⟨W3.heap.size, 1, none⟩ = some (i64 x.seq) ∧ W.cell? ⟨W3.heap.size, 2, none⟩ = some (i64 6) ∧ W.cell? ⟨W3.heap.size, 3, none⟩ = some (.string x.acct) ∧ W.cell? ⟨W3.heap.size, 4, none⟩ = some (.string x.peer) ∧ W.cell? ⟨W3.heap.size, 5, none⟩ = some (i64 x.sum) ∧ W.cell? ⟨W3.heap.size, 6, none⟩ = some (.slice x.la x.legs.length x.lc) ∧ W.cell? ⟨W3.heap.size, 7, none⟩ = some (i64 x.period) ∧ W.cell? ⟨W3.heap.size, 8, none⟩ = some (i64 x.hold) ∧ W.cell? ⟨W3.heap.size, 9, none⟩ = some (.string x.note)) (first | exact hS _ h0 | (go_split_ands; exact hS _ (below_on (by assumption) (Nat.le_refl _) hbX)))
      (first
        | (go_at_call 10; with_reducible refine (k1 _ ?hb).mono ?_; (case hb => (go_split_ands; assumption)); rintro e w' ⟨rfl, hbX⟩)
        | (go_at_call 10; with_reducible refine (k2 _ ?hb).mono ?_; (case hb => (go_split_ands; assumption)); rintro e w' ⟨rfl, hbX⟩)
        | (go_at_call 10; with_reducible refine (k3 _ ?hb).mono ?_; (case hb => (go_split_ands; assumption)); rintro e w' ⟨rfl, hbX⟩)
        | (go_at_call 10; with_reducible refine (k4 _ ?hb).mono ?_; (case hb => (go_split_ands; assumption)); rintro e w' ⟨rfl, hbX⟩)
        | (go_at_call 10; with_reducible refine (k5 _ ?hb).mono ?_; (case hb => (go_split_ands; assumption)); rintro e w' ⟨rfl, hbX⟩))
  rename_i hh
  have hB5 : Below W4.heap.size W4 w' := hh.1
  clear hh
  have a1 : ∀ W : World, Calls Try.prog 11 #[i64 1, .string ⟨#[120]⟩] W fun e w' => e = .returned (.agg #[i64 0, i64 1, i64 7, .string ⟨#[120]⟩, .string ⟨#[]⟩, i64 0, .slice none 0 0, i64 0, i64 0, .string ⟨#[]⟩]) ∧ Below W.heap.size W w' := fun W => ask_10 1 ⟨#[120]⟩ W
  have a2 : ∀ W : World, Calls Try.prog 11 #[i64 2, .string ⟨#[121]⟩] W fun e w' => e = .returned (.agg #[i64 0, i64 2, i64 7, .string ⟨#[121]⟩, .string ⟨#[]⟩, i64 0, .slice none 0 0, i64 0, i64 0, .string ⟨#[]⟩]) ∧ Below W.heap.size W w' := fun W => ask_10 2 ⟨#[121]⟩ W
  have pq : ∀ W : World, Calls Try.prog 10 #[.agg #[i64 0, i64 1, i64 x.kind, .string ⟨#[120]⟩, .string ⟨#[]⟩, i64 0, .slice none 0 0, i64 0, i64 0, .string ⟨#[]⟩], .agg #[i64 0, i64 2, i64 y.kind, .string ⟨#[121]⟩, .string ⟨#[]⟩, i64 0, .slice none 0 0, i64 0, i64 0, .string ⟨#[]⟩]] W fun e w' => e = .returned (.bool ((decide (x.kind = 6) || decide (y.kind = 6)) || (decide (x.kind = 1) && decide (y.kind = 1)))) ∧ Below W.heap.size W w' := fun W => by
    have := clash_c { askOd 1 ⟨#[120]⟩ with kind := x.kind } { askOd 2 ⟨#[121]⟩ with kind := y.kind } W (okb_kind (askOd_okb 1 120 _ _) _) (okb_kind (askOd_okb 2 121 _ _) _) (Nat.zero_le _) (Nat.zero_le _)
    rw [clash_asks] at this
    exact this
  have c2' := (hB5.cell (p := ⟨w.heap.size, 2, none⟩) hla4).trans c2
  have d2' := (hB5.cell (p := ⟨w.heap.size + 1, 2, none⟩) hlb4).trans d2
  have hla5 := Nat.lt_of_lt_of_le hla4 hB5.size
  have hlb5 := Nat.lt_of_lt_of_le hlb4 hB5.size
  have hb10 := below_on hb7 (by omega) hB5
  clear hS k1 k2 k3 k4 k5 h0 hb7 hB5 c2 d2
  go_wp2_with fail
  refine (a1 _).mono ?_
  rintro e w7 ⟨rfl, hb8⟩
  go_wp2_with fail
  refine (a2 _).mono ?_
  rintro e w8 ⟨rfl, hb9⟩
  have hb11 := hb8.trans (hb9.mono hb8.size)
  have c2 := (hb11.cell (p := ⟨w.heap.size, 2, none⟩) hla5).trans c2'
  have d2 := (hb11.cell (p := ⟨w.heap.size + 1, 2, none⟩) hlb5).trans d2'
  have hb12 := below_on hb10 (by omega) hb11
  have hla6 := Nat.lt_of_lt_of_le hla5 hb11.size
  have hlb6 := Nat.lt_of_lt_of_le hlb5 hb11.size
  have hBx := fun o1 o2 => ((Below.refl w8.heap.size w8).alloc (Nat.le_refl _) o1).alloc (by simp) o2
  have ca : ∀ o1 o2, ((w8.alloc o1).alloc o2).cell? ⟨w.heap.size, 2, none⟩ = some (i64 x.kind) := fun o1 o2 => ((hBx o1 o2).cell (p := ⟨w.heap.size, 2, none⟩) hla6).trans c2
  have da : ∀ o1 o2, ((w8.alloc o1).alloc o2).cell? ⟨w.heap.size + 1, 2, none⟩ = some (i64 y.kind) := fun o1 o2 => ((hBx o1 o2).cell (p := ⟨w.heap.size + 1, 2, none⟩) hlb6).trans d2
  have hb14 := fun o1 o2 => below_on hb12 (by omega) (hBx o1 o2)
  have Hb14 := Lib.hid hb14
  clear c2' d2' hb8 hb9 hb11 hb10 a1 a2 c2 d2 hBx hb12 hb14 hla4 hlb4 hla5 hlb5 hla6 hlb6 hla3 hlb3
  have fin : ∀ v : Bool, ((decide (x.kind = 6) || decide (y.kind = 6)) || (decide (x.kind = 1) && decide (y.kind = 1))) = v → ∀ W : World, Calls Try.prog 10 #[.agg #[i64 0, i64 1, i64 x.kind, .string ⟨#[120]⟩, .string ⟨#[]⟩, i64 0, .slice none 0 0, i64 0, i64 0, .string ⟨#[]⟩], .agg #[i64 0, i64 2, i64 y.kind, .string ⟨#[121]⟩, .string ⟨#[]⟩, i64 0, .slice none 0 0, i64 0, i64 0, .string ⟨#[]⟩]] W fun e w' => e = .returned (.bool v) ∧ Below W.heap.size W w' := fun v h => h ▸ pq
  clear pq
  by_cases g1 : x.kind = 6
  · have g1b : (x.kind == 6) = true := beq_iff_eq.2 g1
    have pq := fin true (by simp [g1])
    clear fin g1
    go_wp2_with fail
    with_reducible refine (pq _).mono ?_
    rintro e w9 ⟨rfl, hb13⟩
    go_wp2
    go_ret
    exact ⟨rfl, below_on (Hb14.out _ _) (Nat.le_refl _) hb13⟩
  · have g1b : (x.kind == 6) = false := beq_eq_false_iff_ne.2 g1
    by_cases g2 : y.kind = 6
    · have g2b : (y.kind == 6) = true := beq_iff_eq.2 g2
      have pq := fin true (by simp [g1, g2])
      clear fin g2
      go_wp2_with fail
      with_reducible refine (pq _).mono ?_
      rintro e w9 ⟨rfl, hb13⟩
      go_wp2
      go_ret
      exact ⟨rfl, below_on (Hb14.out _ _) (Nat.le_refl _) hb13⟩
    · have g2b : (y.kind == 6) = false := beq_eq_false_iff_ne.2 g2
      by_cases g3 : x.kind = 1
      · have g3b : (x.kind == 1) = true := beq_iff_eq.2 g3
        by_cases g4 : y.kind = 1
        · have g4b : (y.kind == 1) = true := beq_iff_eq.2 g4
          have pq := fin true (by simp [g3, g4])
          clear fin g3 g4
          go_wp2_with fail
          with_reducible refine (pq _).mono ?_
          rintro e w9 ⟨rfl, hb13⟩
          go_wp2
          go_ret
          exact ⟨rfl, below_on (Hb14.out _ _) (Nat.le_refl _) hb13⟩
        · have g4b : (y.kind == 1) = false := beq_eq_false_iff_ne.2 g4
          have pq := fin false (by simp [g2, g3, g4])
          clear fin g3
          go_wp2_with fail
          with_reducible refine (pq _).mono ?_
          rintro e w9 ⟨rfl, hb13⟩
          go_wp2
          go_ret
          exact ⟨rfl, below_on (Hb14.out _ _) (Nat.le_refl _) hb13⟩
      · have g3b : (x.kind == 1) = false := beq_eq_false_iff_ne.2 g3
        have pq := fin false (by simp [g1, g2, g3])
        clear fin
        go_wp2_with fail
        with_reducible refine (pq _).mono ?_
        rintro e w9 ⟨rfl, hb13⟩
        go_wp2
        go_ret
        exact ⟨rfl, below_on (Hb14.out _ _) (Nat.le_refl _) hb13⟩
end Go.Proofs.Ytcpjopmgiogfkaa
