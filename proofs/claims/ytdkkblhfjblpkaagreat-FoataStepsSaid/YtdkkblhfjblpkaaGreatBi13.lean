/- Texts of this claim, laid together: ReadW, OrdC, Has6, TRead. -/
import Derived.Test.YtdkkblhfjblpkaaGreatRows
import Derived.Test.YtdkkblhfjblpkaaGreatBi12
import Derived.Test.YtdkkblhfjblpkaaGreatBi11
import Derived.Test.YtdkkblhfjblpkaaGreatBi3
import Derived.Laws.ResultCell
import Derived.WalkKit
import Derived.WalkSpells
import Derived.WalkLawsBesides
import Derived.Deep.QuietTactic
import Derived.BigQuiet
import Derived.Laws.StructEq
import Derived.Deep.DeepFit
import Derived.StillTailTactics
import Derived.Test.YtdkkblhfjblpkaaGreatBi10
import Derived.Test.YtdkkblhfjblpkaaGreatBi5
import Derived.Test.YtdkkblhfjblpkaaGreatShelf
import Derived.Test.YtdkkblhfjblpkaaGreatBi2
import Derived.Test.YtdkkblhfjblpkaaGreatBi7

/- order.Read -/
namespace Go.Proofs.YtdkkblhfjblpkaaGreat
open Go.RowKit
theorem inf_leg : (Tryz.prog.info? 167).map (fun i => (i.zero, i.size, i.bytes)) = some (some (.agg #[.string ByteArray.empty, i64 0]), Enc.size Leg, 24) := by kernel_rfl
/-- in the midst of a reading: the reader in block r + 1 (what is left in r), the order in q, the result in t -/
structure Mid (w W : World) (r q t : Nat) (s : St) (cs : Array Value) : Prop where
  rd : Rd W (r + 1) r s.1 s.2
  lt : r < W.heap.size
  row : W.heap[q]? = some (.cells cs 50 (0, 0))
  res : W.heap[t]? = some (.cells #[i64 0, i64 0, i64 0, .string ⟨#[]⟩, .string ⟨#[]⟩, i64 0, .slice none 0 0, i64 0, i64 0, .string ⟨#[]⟩] 50 (0, 0))
  bel : Below w.heap.size w W
  at_ : w.heap.size ≤ t ∧ t < r ∧ r + 1 < q
theorem Mid.call {w W W' : World} {r q t : Nat} {s s' : St} {cs : Array Value} (m : Mid w W r q t s cs) (h : Rd W' (r + 1) r s'.1 s'.2) (g : W.grownBy W' (some (r + 1))) : Mid w W' r q t s' cs := by
  obtain ⟨_, lt, row, res, bel, a, b, c⟩ := m
  refine ⟨h, Nat.lt_of_lt_of_le lt g.size, ?_, ?_, bel.trans (below_of_grown g bel.size (fun k e => by injection e; omega)), a, b, c⟩
  · rw [g.block q (Array.getElem?_eq_some_iff.1 row).1 (fun e => by injection e; omega), row]
  · rw [g.block t (Array.getElem?_eq_some_iff.1 res).1 (fun e => by injection e; omega), res]
theorem Mid.store {w W : World} {r q t : Nat} {s : St} {cs : Array Value} (m : Mid w W r q t s cs) (j : Nat) (v : Value) : Mid w (W.setCell ⟨q, j, none⟩ v) r q t s (cs.setIfInBounds j v) := by
  obtain ⟨rd, lt, row, res, bel, a, b, c⟩ := m
  have g := grown_setCell (g := q) (World.grownBy.refl W (some q)) (p := ⟨q, j, none⟩) (.inl rfl) v
  refine ⟨rd.grown g (by simp; omega) (by simp; omega) lt, Nat.lt_of_lt_of_le lt g.size, heap_setCell_same W q j _ _ v row, ?_, bel.trans (below_of_grown g bel.size (fun k e => by injection e; omega)), a, b, c⟩
  rw [g.block t (Array.getElem?_eq_some_iff.1 res).1 (fun e => by injection e; omega), res]
theorem Mid.later {w W W' : World} {r q t : Nat} {s : St} {cs : Array Value} (m : Mid w W r q t s cs) (h : Below W.heap.size W W') : Mid w W' r q t s cs := by
  obtain ⟨rd, lt, row, res, bel, a, b, c⟩ := m
  exact ⟨rd.later lt h, Nat.lt_of_lt_of_le lt h.size, by rw [h.block q (Array.getElem?_eq_some_iff.1 row).1, row], by rw [h.block t (Array.getElem?_eq_some_iff.1 res).1, res], below_on bel (Nat.le_refl _) h |> fun k => k.mono (Nat.le_refl _), a, b, c⟩
theorem Mid.grown {w W W' : World} {r q t : Nat} {s : St} {cs : Array Value} {row : Option Nat} (m : Mid w W r q t s cs) (g : W.grownBy W' row) (hq : ∀ b, row = some b → q < b) : Mid w W' r q t s cs := by
  obtain ⟨rd, lt, hrow, res, bel, a, b, c⟩ := m
  have hne : ∀ k, k ≤ q → some k ≠ row := fun k hk e => by have := hq k e.symm; omega
  refine ⟨rd.grown g (fun e => hne (r + 1) (by omega) e.symm) (fun e => hne r (by omega) e.symm) lt, Nat.lt_of_lt_of_le lt g.size, ?_, ?_, bel.trans (below_of_grown g bel.size (fun k e => by have := hq k e; omega)), a, b, c⟩
  · rw [g.block q (Array.getElem?_eq_some_iff.1 hrow).1 (hne q (Nat.le_refl _)), hrow]
  · rw [g.block t (Array.getElem?_eq_some_iff.1 res).1 (hne t (by omega)), res]
theorem Own.grL {w w' : World} {base : Nat} {e : TypeId} {v : Value} {l : List Leg} {row : Option Nat} (h : Own w base e v l) (hg : w.grownBy w' row) (hr : v.ownBlock = none ∨ v.ownBlock ≠ row) : Own w' base e v l :=
  h.grown hg hr (fun x hm => (show x.acct.size ≤ maxLen from h.2 x hm))
theorem Own.offL {w w' : World} {base g : Nat} {e : TypeId} {v : Value} {l : List Leg} (h : Own w base e v l) (hg : w.grownBy w' (some g)) (hb : g < base) : Own w' base e v l :=
  h.grL hg (by
    cases hv : v.ownBlock with
    | none => exact .inl rfl
    | some b => exact .inr fun e => by injection e with e; have := (h.1.lt b hv).1; omega)
theorem Own.off {α : Type} [Enc α] {w w' : World} {base g : Nat} {e : TypeId} {v : Value} {l : List α} (h : Own w base e v l) (hg : w.grownBy w' (some g)) (hb : g < base) (hx : ∀ x ∈ l, ∀ W S, Enc.ok W S x) : Own w' base e v l :=
  h.grown hg (by
    cases hv : v.ownBlock with
    | none => exact .inl rfl
    | some b => exact .inr fun e => by injection e with e; have := (h.1.lt b hv).1; omega) (fun x hm => hx x hm _ _)
theorem Own.sl_new {w : World} {base B : Nat} {e : TypeId} {A : Option Addr} {n c : Nat} {l : List Leg} (h : Own w base e (.slice A n c) l) (hB : B ≤ base) : SlS w (fun b => B ≤ b ∧ b < w.heap.size) A c l := by
  have hlt := h.1.lt
  obtain ⟨A', c', hv, h1, h2, h3, h4⟩ := h.sl
  injection hv with e1 e2 e3
  subst e1 e3
  refine ⟨h1, h2, fun hn => ?_, fun x hx => (show x.acct.size ≤ maxLen from h4 x hx)⟩
  obtain ⟨b, o, rfl, hb, hc⟩ := h3 hn
  have := (hlt b rfl).1
  exact ⟨b, o, rfl, ⟨by omega, hb⟩, hc⟩
set_option maxRecDepth 100000 in
set_option maxHeartbeats 8000000 in
theorem read_own (A : Option Addr) (c : Nat) (l : List UInt8) (w : World) (h : Sl w w.heap.size A c l) (hn : l.length ≤ 60000) :
    Calls Tryz.prog 126 #[.slice A l.length c] w fun e w' => ∃ o : Od, e = .returned (.tuple #[o.v, i64 (readE l)]) ∧ ({ o with la := none, lc := 0 } : Od) = readO l ∧ Enc.ok w' (fun b => w.heap.size ≤ b ∧ b < w'.heap.size) o ∧ Below w.heap.size w w' := by
  have hb0 := (Below.refl w.heap.size w).alloc (Nat.le_refl _) (.cells #[i64 0, i64 0, i64 0, .string ⟨#[]⟩, .string ⟨#[]⟩, i64 0, .slice none 0 0, i64 0, i64 0, .string ⟨#[]⟩] 50)
  have hz0 : (w.alloc (.cells #[i64 0, i64 0, i64 0, .string ⟨#[]⟩, .string ⟨#[]⟩, i64 0, .slice none 0 0, i64 0, i64 0, .string ⟨#[]⟩] 50)).heap.size = w.heap.size + 1 := by simp
  have hres := heap_alloc_new w (.cells #[i64 0, i64 0, i64 0, .string ⟨#[]⟩, .string ⟨#[]⟩, i64 0, .slice none 0 0, i64 0, i64 0, .string ⟨#[]⟩] 50)
  have hC0 := rnew_c A c l _ (h.later hb0) (by omega)
  rw [hz0] at hC0
  go_enter Tryz.func126, Tryz.ntmps126
  go_wp2_with fail
  refine hC0.mono ?_
  rintro e w1 ⟨rfl, hR, hsz, hB⟩
  have hbw := below_on hb0 (Nat.le_refl _) (hz0 ▸ hB)
  have hr1 : w1.heap[w.heap.size]? = some (.cells #[i64 0, i64 0, i64 0, .string ⟨#[]⟩, .string ⟨#[]⟩, i64 0, .slice none 0 0, i64 0, i64 0, .string ⟨#[]⟩] 50 (0, 0)) := by rw [hB.block _ (by omega)]; exact hres
  obtain ⟨r, hr⟩ : ∃ r, r = w.heap.size + 1 := ⟨_, rfl⟩
  rw [← hr] at hR hsz ⊢
  have hlt : r < w1.heap.size := by omega
  have hrw : w.heap.size < r := by omega
  clear hb0 hz0 hres hC0 hB h hr hsz
  have l0 : ((0, l) : St).2.length ≤ 60000 := hn

  have hC := small_c (r + 1) r 9 (((0, l) : St)).1 (((0, l) : St)).2 _ hR hlt (by omega)
  have l1 : (rangeRd 0 9 (((0, l) : St)).1 (((0, l) : St)).2).2.2.length ≤ 60000 := Nat.le_trans (rangeRd_left 0 9 (((0, l) : St)).1 (((0, l) : St)).2).1 l0
  obtain ⟨q1, hq⟩ : ∃ q, rangeRd 0 9 (((0, l) : St)).1 (((0, l) : St)).2 = q := ⟨_, rfl⟩
  rw [hq] at hC l1
  have Hq1 := Lib.hid hq
  clear hq
  go_wp2_with fail
  refine hC.mono ?_
  rintro e Wq1 ⟨rfl, hR, hG⟩
  clear hC
  have hbw := hbw.trans (below_of_grown hG (B := w.heap.size) hbw.size (fun k e => by injection e; omega))
  have hlt := Nat.lt_of_lt_of_le hlt hG.size
  have hr1 := (hG.block _ (Array.getElem?_eq_some_iff.1 hr1).1 (fun e => by injection e; omega)).trans hr1
  have hR : Rd Wq1 (r + 1) r q1.2.1 q1.2.2 := hR
  clear hG
  have hC := small_c (r + 1) r 999 (q1.2).1 (q1.2).2 _ hR hlt (by omega)
  have l2 : (rangeRd 0 999 (q1.2).1 (q1.2).2).2.2.length ≤ 60000 := Nat.le_trans (rangeRd_left 0 999 (q1.2).1 (q1.2).2).1 l1
  obtain ⟨q2, hq⟩ : ∃ q, rangeRd 0 999 (q1.2).1 (q1.2).2 = q := ⟨_, rfl⟩
  rw [hq] at hC l2
  have Hq2 := Lib.hid hq
  clear hq
  go_wp2_with fail
  refine hC.mono ?_
  rintro e Wq2 ⟨rfl, hR, hG⟩
  clear hC
  have hbw := hbw.trans (below_of_grown hG (B := w.heap.size) hbw.size (fun k e => by injection e; omega))
  have hlt := Nat.lt_of_lt_of_le hlt hG.size
  have hr1 := (hG.block _ (Array.getElem?_eq_some_iff.1 hr1).1 (fun e => by injection e; omega)).trans hr1
  have hR : Rd Wq2 (r + 1) r q2.2.1 q2.2.2 := hR
  clear hG
  have hC := small_c (r + 1) r 7 (q2.2).1 (q2.2).2 _ hR hlt (by omega)
  have l3 : (rangeRd 0 7 (q2.2).1 (q2.2).2).2.2.length ≤ 60000 := Nat.le_trans (rangeRd_left 0 7 (q2.2).1 (q2.2).2).1 l2
  obtain ⟨q3, hq⟩ : ∃ q, rangeRd 0 7 (q2.2).1 (q2.2).2 = q := ⟨_, rfl⟩
  rw [hq] at hC l3
  have Hq3 := Lib.hid hq
  clear hq
  go_wp2_with fail
  refine hC.mono ?_
  rintro e Wq3 ⟨rfl, hR, hG⟩
  clear hC
  have hbw := hbw.trans (below_of_grown hG (B := w.heap.size) hbw.size (fun k e => by injection e; omega))
  have hlt := Nat.lt_of_lt_of_le hlt hG.size
  have hr1 := (hG.block _ (Array.getElem?_eq_some_iff.1 hr1).1 (fun e => by injection e; omega)).trans hr1
  have hR : Rd Wq3 (r + 1) r q3.2.1 q3.2.2 := hR
  clear hG
  have hB1 := (Below.refl Wq3.heap.size Wq3).alloc (Nat.le_refl _) (.cells #[i64 q1.1.1, i64 q2.1.1, i64 q3.1.1, .string ⟨#[]⟩, .string ⟨#[]⟩, i64 0, .slice none 0 0, i64 0, i64 0, .string ⟨#[]⟩] 50)
  have hgt := (hR.lt : r + 1 < Wq3.heap.size)
  have M : Mid w (Wq3.alloc (.cells #[i64 q1.1.1, i64 q2.1.1, i64 q3.1.1, .string ⟨#[]⟩, .string ⟨#[]⟩, i64 0, .slice none 0 0, i64 0, i64 0, .string ⟨#[]⟩] 50)) r Wq3.heap.size w.heap.size q3.2 #[i64 q1.1.1, i64 q2.1.1, i64 q3.1.1, .string ⟨#[]⟩, .string ⟨#[]⟩, i64 0, .slice none 0 0, i64 0, i64 0, .string ⟨#[]⟩] := ⟨hR.later hlt hB1, Nat.lt_of_lt_of_le hlt hB1.size, heap_alloc_new Wq3 _, (hB1.block _ (Array.getElem?_eq_some_iff.1 hr1).1).trans hr1, below_on hbw (Nat.le_refl _) hB1, Nat.le_refl _, by omega, hgt⟩
  clear hbw hr1 hR hB1 hlt hgt
  generalize hW4 : Wq3.alloc (.cells #[i64 q1.1.1, i64 q2.1.1, i64 q3.1.1, .string ⟨#[]⟩, .string ⟨#[]⟩, i64 0, .slice none 0 0, i64 0, i64 0, .string ⟨#[]⟩] 50) = W4 at M
  have HW4 := Lib.hid hW4
  clear hW4
  have hC := name_c (r + 1) r (q3.2).1 (q3.2).2 _ M.rd M.lt (by omega)
  have l4 : (textRd 8 (q3.2).1 (q3.2).2).2.2.length ≤ 60000 := Nat.le_trans (textRd_left 8 (q3.2).1 (q3.2).2).1 l3
  have zq4 : (textRd 8 (q3.2).1 (q3.2).2).1.1.size ≤ 60000 := Nat.le_trans (textRd_left 8 (q3.2).1 (q3.2).2).2.2 l3
  obtain ⟨q4, hq⟩ : ∃ q, textRd 8 (q3.2).1 (q3.2).2 = q := ⟨_, rfl⟩
  rw [hq] at hC l4 zq4
  have Hq4 := Lib.hid hq
  clear hq
  go_wp2_with fail
  rw [HW4.out]
  clear HW4
  generalize Wq3.heap.size = q at *
  refine hC.mono ?_
  rintro e Wq4 ⟨rfl, hR, hG⟩
  clear hC
  have M := M.call (s' := q4.2) hR hG
  clear hR hG
  have hC := name_c (r + 1) r (q4.2).1 (q4.2).2 _ M.rd M.lt (by omega)
  have l5 : (textRd 8 (q4.2).1 (q4.2).2).2.2.length ≤ 60000 := Nat.le_trans (textRd_left 8 (q4.2).1 (q4.2).2).1 l4
  have zq5 : (textRd 8 (q4.2).1 (q4.2).2).1.1.size ≤ 60000 := Nat.le_trans (textRd_left 8 (q4.2).1 (q4.2).2).2.2 l4
  obtain ⟨q5, hq⟩ : ∃ q, textRd 8 (q4.2).1 (q4.2).2 = q := ⟨_, rfl⟩
  rw [hq] at hC l5 zq5
  have Hq5 := Lib.hid hq
  clear hq
  go_wp2_with fail
  refine hC.mono ?_
  rintro e Wq5 ⟨rfl, hR, hG⟩
  clear hC
  have M := M.call (s' := q5.2) hR hG
  clear hR hG
  have k3 := cell_of_row _ q 3 _ _ (0, 0) M.row
  have k4 := cell_of_row _ q 4 _ _ (0, 0) M.row
  have f3 := frozen_of_row _ q 3 _ _ M.row
  have f4 := frozen_of_row _ q 4 _ _ M.row
  simp only [List.getElem?_toArray, List.getElem?_cons_zero, List.getElem?_cons_succ] at k3 k4
  have M := ((M.store 3 (.string q4.1.1)).store 4 (.string q5.1.1))
  simp only [List.setIfInBounds_toArray, List.set_cons_succ, List.set_cons_zero] at M
  have hC := rnum_c (r + 1) r (q5.2).1 (q5.2).2 _ M.rd M.lt (by omega)
  have l6 : (numRd (q5.2).1 (q5.2).2).2.2.length ≤ 60000 := Nat.le_trans (numRd_left (q5.2).1 (q5.2).2).1 l5
  obtain ⟨q6, hq⟩ : ∃ q, numRd (q5.2).1 (q5.2).2 = q := ⟨_, rfl⟩
  rw [hq] at hC l6
  have Hq6 := Lib.hid hq
  clear hq
  go_wp2_with fail
  clear k3 f3 k4 f4
  refine hC.mono ?_
  rintro e Wq6 ⟨rfl, hR, hG⟩
  clear hC
  have M := M.call (s' := q6.2) hR hG
  clear hR hG
  have k5 := cell_of_row _ q 5 _ _ (0, 0) M.row
  have f5 := frozen_of_row _ q 5 _ _ M.row
  simp only [List.getElem?_toArray, List.getElem?_cons_zero, List.getElem?_cons_succ] at k5
  have M := (M.store 5 (i64 q6.1.1))
  simp only [List.setIfInBounds_toArray, List.set_cons_succ, List.set_cons_zero] at M
  have hC := small_c (r + 1) r 6 (q6.2).1 (q6.2).2 _ M.rd M.lt (by omega)
  have l7 : (rangeRd 0 6 (q6.2).1 (q6.2).2).2.2.length ≤ 60000 := Nat.le_trans (rangeRd_left 0 6 (q6.2).1 (q6.2).2).1 l6
  obtain ⟨q7, hq⟩ : ∃ q, rangeRd 0 6 (q6.2).1 (q6.2).2 = q := ⟨_, rfl⟩
  rw [hq] at hC l7
  have Hq7 := Lib.hid hq
  clear hq
  go_wp2_with fail
  clear k5 f5
  refine hC.mono ?_
  rintro e Wq7 ⟨rfl, hR, hG⟩
  clear hC
  have M := M.call (s' := q7.2) hR hG
  clear hR hG
  have hin := smR_in (m := 6) (by decide) q6.2
  simp only [smR, Hq7.out] at hin
  obtain ⟨n, hnn⟩ := Int.eq_ofNat_of_zero_le hin.1
  have hn6 : n ≤ 6 := by omega
  have HN := Lib.hid hnn
  clear hin
  rw [hnn]
  clear hnn
  go_wp2_with fail
  go_loopw [31] (fun i W => ∃ (k : Nat) (v : Value) (L : List Leg) (S : St), i = i64 k ∧ k ≤ n ∧ Mid w W r q w.heap.size S #[i64 q1.1.1, i64 q2.1.1, i64 q3.1.1, .string q4.1.1, .string q5.1.1, i64 q6.1.1, v, i64 0, i64 0, .string ⟨#[]⟩] ∧ Own W (q + 1) 167 v L ∧ L.length = k ∧ legsR n q7.2 = (L ++ (legsR (n - k) S).1, (legsR (n - k) S).2) ∧ S.2.length ≤ 60000) (fun i _ => n - (intOf i).toNat)
  case atStart => exact ⟨0, .slice none 0 0, [], q7.2, rfl, by omega, M, Own.nil_ _ _ _, rfl, by simp, l7⟩
  case round =>
    obtain ⟨k, v, L, S, rfl, hk, M, hO, hLk, hlr, lS⟩ := hrel
    have Hlr := Lib.hid hlr
    have HLk := Lib.hid hLk
    clear hlr hLk
    by_cases hlt : k < n
    · have hC := name_c (r + 1) r (S).1 (S).2 _ M.rd M.lt (by omega)
      have la : (textRd 8 (S).1 (S).2).2.2.length ≤ 60000 := Nat.le_trans (textRd_left 8 (S).1 (S).2).1 lS
      have za1 : (textRd 8 (S).1 (S).2).1.1.size ≤ 60000 := Nat.le_trans (textRd_left 8 (S).1 (S).2).2.2 lS
      obtain ⟨a1, hq⟩ : ∃ q, textRd 8 (S).1 (S).2 = q := ⟨_, rfl⟩
      rw [hq] at hC la za1
      have Ha1 := Lib.hid hq
      clear hq
      go_wp2_with fail
      refine hC.mono ?_
      rintro e Wa1 ⟨rfl, hR, hG⟩
      clear hC
      have M := M.call (s' := a1.2) hR hG
      have hO := hO.offL hG (by have := M.at_; omega)
      clear hR hG
      have hql := (Array.getElem?_eq_some_iff.1 M.row).1
      have hne := hO.new_ne (Nat.le_refl Wa1.heap.size)
      have hBl := (Below.refl Wa1.heap.size Wa1).alloc (Nat.le_refl _) (.cells #[.string a1.1.1, i64 0] 167)
      have M := M.later hBl
      have hO := hO.later hBl
      have hgl := heap_alloc_new Wa1 (.cells #[.string a1.1.1, i64 0] 167)
      generalize hW5 : Wa1.alloc (.cells #[.string a1.1.1, i64 0] 167) = W5 at *
      have HW5 := Lib.hid hW5
      clear hW5 hBl
      have hC := rnum_c (r + 1) r (a1.2).1 (a1.2).2 _ M.rd M.lt (by omega)
      have lb : (numRd (a1.2).1 (a1.2).2).2.2.length ≤ 60000 := Nat.le_trans (numRd_left (a1.2).1 (a1.2).2).1 la
      obtain ⟨a2, hq⟩ : ∃ q, numRd (a1.2).1 (a1.2).2 = q := ⟨_, rfl⟩
      rw [hq] at hC lb
      have Ha2 := Lib.hid hq
      clear hq
      go_wp2_with fail
      rw [HW5.out]
      clear HW5
      generalize Wa1.heap.size = gl at *
      refine hC.mono ?_
      rintro e Wa2 ⟨rfl, hR, hG⟩
      clear hC
      have M := M.call (s' := a2.2) hR hG
      have hO := hO.offL hG (by have := M.at_; omega)
      have hgl := (hG.block _ (Array.getElem?_eq_some_iff.1 hgl).1 (fun e => by have := M.at_; injection e; omega)).trans hgl
      clear hR hG
      have kl := cell_of_row _ gl 1 _ _ (0, 0) hgl
      have fl := frozen_of_row _ gl 1 _ _ hgl
      simp only [List.getElem?_toArray, List.getElem?_cons_zero, List.getElem?_cons_succ] at kl
      have hgG := grown_setCell (g := gl) (World.grownBy.refl Wa2 (some gl)) (p := ⟨gl, 1, none⟩) (.inl rfl) (i64 a2.1.1)
      have hg2 := heap_setCell_same Wa2 gl 1 _ _ (i64 a2.1.1) hgl
      simp only [List.setIfInBounds_toArray, List.set_cons_succ, List.set_cons_zero] at hg2
      have M := M.grown hgG (fun b e => by injection e; omega)
      have hO := hO.grL hgG (.inr fun e => hne e.symm)
      have kl0 := cell_of_row _ gl 0 _ _ (0, 0) hg2
      have kl1 := cell_of_row _ gl 1 _ _ (0, 0) hg2
      simp only [List.getElem?_toArray, List.getElem?_cons_zero, List.getElem?_cons_succ] at kl0 kl1
      have kq := cell_of_row _ q 6 _ _ (0, 0) M.row
      simp only [List.getElem?_toArray, List.getElem?_cons_zero, List.getElem?_cons_succ] at kq
      have HB7 := (Below.refl (Wa2.setCell ⟨gl, 1, none⟩ (i64 a2.1.1)).heap.size (Wa2.setCell ⟨gl, 1, none⟩ (i64 a2.1.1))).alloc (Nat.le_refl _) (.cells #[.string a1.1.1, i64 a2.1.1] 167)
      have hszs : (Wa2.setCell ⟨gl, 1, none⟩ (i64 a2.1.1)).heap.size = Wa2.heap.size := by simp [World.setCell]
      have hHH := heap_alloc_new (Wa2.setCell ⟨gl, 1, none⟩ (i64 a2.1.1)) (.cells #[.string a1.1.1, i64 a2.1.1] 167)
      rw [hszs] at hHH
      have HH := Lib.hid hHH
      have hNe := hO.new_ne (Nat.le_refl (Wa2.setCell ⟨gl, 1, none⟩ (i64 a2.1.1)).heap.size)
      rw [hszs] at hNe
      have Hne := Lib.hid hNe
      have HO2 := Lib.hid (hO.later HB7)
      have M := M.later HB7
      have hbs : q + 1 ≤ ((Wa2.setCell ⟨gl, 1, none⟩ (i64 a2.1.1)).alloc (.cells #[.string a1.1.1, i64 a2.1.1] 167)).heap.size := (Array.getElem?_eq_some_iff.1 M.row).1
      have Hbs := Lib.hid hbs
      have hL4 : L.length + 1 ≤ 4294967296 := by have := HLk.out; omega
      have hza : Okb Wa2 Wa2.heap.size (⟨a1.1.1, a2.1.1⟩ : Leg) := Nat.le_trans za1 (by decide)
      have Hza := Lib.hid hza
      have HLr := Lib.hid (legsR_step hlt Hlr.out Ha1.out Ha2.out)
      clear hszs hHH hNe
      clear hO hgl hgG hg2 HB7 hbs hza Hlr Ha1 Ha2 za1 hne
      go_wp2_with (at_builtin; refine wpList_append_one rfl (some 46) (.tmp 43) (.tmp 45) 48 rfl rfl (.agg #[.string ByteArray.empty, i64 0]) 24 Tryz.underlying48 inf_leg rfl (by decide) (by decide) rfl HO2.out Wa2.heap.size (⟨a1.1.1, a2.1.1⟩ : Leg) rfl _ 167 HH.out rfl Hne.out Hza.out hL4 Hbs.out ?_; intro v3 w3 hO3 hg3 hat3; obtain ⟨A3, c3, hv3, -⟩ := hO3.sl; subst hv3; obtain ⟨n3, hn3⟩ : ∃ n3, (L ++ [(⟨a1.1.1, a2.1.1⟩ : Leg)]).length = n3 := ⟨_, rfl⟩; rw [hn3] at hO3 ⊢; clear hn3; have M3 := M.grown hg3 (fun b e => by have := (HO2.out.1.lt b e).1; omega); have k6 := cell_of_row _ q 6 _ _ (0, 0) M3.row; have f6 := frozen_of_row _ q 6 _ _ M3.row; simp only [List.getElem?_toArray, List.getElem?_cons_zero, List.getElem?_cons_succ] at k6)
      have M := M3.store 6 (.slice A3 n3 c3)
      simp only [List.setIfInBounds_toArray, List.set_cons_succ, List.set_cons_zero] at M
      go_roundw
      case rel => exact ⟨k + 1, .slice A3 n3 c3, L ++ [⟨a1.1.1, a2.1.1⟩], a2.2, by go_num, by omega, M, hO3.offL (grown_setCell (g := q) (World.grownBy.refl w3 (some q)) (p := ⟨q, 6, none⟩) (.inl rfl) (.slice A3 n3 c3)) (Nat.lt_succ_self _), by rw [List.length_append, HLk.out]; rfl, HLr.out, lb⟩
      case measure => simp [intOf]; omega
    · obtain rfl : k = n := by omega
      have hL2 := Hlr.out
      rw [Nat.sub_self] at hL2
      simp only [legsR, List.append_nil] at hL2
      have HL := Lib.hid hL2
      have lLn := HLk.out
      have hLs : L.length ≤ 65536 := by omega
      clear hL2 lLn Hlr
      have HLs := Lib.hid hLs
      clear hLs
      have hC := small_c (r + 1) r 1000 (S).1 (S).2 _ M.rd M.lt (by omega)
      have l8 : (rangeRd 0 1000 (S).1 (S).2).2.2.length ≤ 60000 := Nat.le_trans (rangeRd_left 0 1000 (S).1 (S).2).1 lS
      obtain ⟨q8, hq⟩ : ∃ q, rangeRd 0 1000 (S).1 (S).2 = q := ⟨_, rfl⟩
      rw [hq] at hC l8
      have Hq8 := Lib.hid hq
      clear hq
      go_wp2_with fail
      refine hC.mono ?_
      rintro e Wq8 ⟨rfl, hR, hG⟩
      clear hC
      have M := M.call (s' := q8.2) hR hG
      have hO := hO.offL hG (by have := M.at_; omega)
      clear hR hG
      have hC := small_c (r + 1) r 9999 (q8.2).1 (q8.2).2 _ M.rd M.lt (by omega)
      have l9 : (rangeRd 0 9999 (q8.2).1 (q8.2).2).2.2.length ≤ 60000 := Nat.le_trans (rangeRd_left 0 9999 (q8.2).1 (q8.2).2).1 l8
      obtain ⟨q9, hq⟩ : ∃ q, rangeRd 0 9999 (q8.2).1 (q8.2).2 = q := ⟨_, rfl⟩
      rw [hq] at hC l9
      have Hq9 := Lib.hid hq
      clear hq
      go_wp2_with fail
      refine hC.mono ?_
      rintro e Wq9 ⟨rfl, hR, hG⟩
      clear hC
      have M := M.call (s' := q9.2) hR hG
      have hO := hO.offL hG (by have := M.at_; omega)
      clear hR hG
      have k7 := cell_of_row _ q 7 _ _ (0, 0) M.row
      have k8 := cell_of_row _ q 8 _ _ (0, 0) M.row
      have f7 := frozen_of_row _ q 7 _ _ M.row
      have f8 := frozen_of_row _ q 8 _ _ M.row
      simp only [List.getElem?_toArray, List.getElem?_cons_zero, List.getElem?_cons_succ] at k7 k8
      have M := ((M.store 7 (i64 q8.1.1)).store 8 (i64 q9.1.1))
      simp only [List.setIfInBounds_toArray, List.set_cons_succ, List.set_cons_zero] at M
      have hO := hO.offL (grown_setCell (g := q) (grown_setCell (g := q) (World.grownBy.refl Wq9 (some q)) (p := ⟨q, 7, none⟩) (.inl rfl) (i64 q8.1.1)) (p := ⟨q, 8, none⟩) (.inl rfl) (i64 q9.1.1)) (Nat.lt_succ_self _)
      have hC := rtext_c (r + 1) r 20 (q9.2).1 (q9.2).2 _ M.rd M.lt (by omega)
      have l10 : (textRd 20 (q9.2).1 (q9.2).2).2.2.length ≤ 60000 := Nat.le_trans (textRd_left 20 (q9.2).1 (q9.2).2).1 l9
      have zq10 : (textRd 20 (q9.2).1 (q9.2).2).1.1.size ≤ 60000 := Nat.le_trans (textRd_left 20 (q9.2).1 (q9.2).2).2.2 l9
      obtain ⟨q10, hq⟩ : ∃ q, textRd 20 (q9.2).1 (q9.2).2 = q := ⟨_, rfl⟩
      rw [hq] at hC l10 zq10
      have Hq10 := Lib.hid hq
      clear hq
      go_wp2_with fail
      clear k7 f7 k8 f8
      refine hC.mono ?_
      rintro e Wq10 ⟨rfl, hR, hG⟩
      clear hC
      have M := M.call (s' := q10.2) hR hG
      have hO := hO.offL hG (by have := M.at_; omega)
      clear hR hG
      have k9 := cell_of_row _ q 9 _ _ (0, 0) M.row
      have f9 := frozen_of_row _ q 9 _ _ M.row
      simp only [List.getElem?_toArray, List.getElem?_cons_zero, List.getElem?_cons_succ] at k9
      have M := (M.store 9 (.string q10.1.1))
      simp only [List.setIfInBounds_toArray, List.set_cons_succ, List.set_cons_zero] at M
      have hO := hO.offL (grown_setCell (g := q) (World.grownBy.refl Wq10 (some q)) (p := ⟨q, 9, none⟩) (.inl rfl) (.string q10.1.1)) (Nat.lt_succ_self _)
      have hC := done_c (r + 1) r q10.2.1 q10.2.2 _ M.rd M.lt (by omega)
      obtain ⟨d, hq⟩ : ∃ q, doneRd q10.2.1 q10.2.2 = q := ⟨_, rfl⟩
      rw [hq] at hC
      have Hd := Lib.hid hq
      clear hq
      go_wp2_with fail
      clear k9 f9
      refine hC.mono ?_
      rintro e WD ⟨rfl, hR, hG⟩
      clear hC
      have M := M.call (s' := d.2) hR hG
      have hO := hO.offL hG (by have := M.at_; omega)
      clear hR hG
      have hraw : rawO l = ⟨q1.1.1, q2.1.1, q3.1.1, q4.1.1, q5.1.1, q6.1.1, none, 0, L, q8.1.1, q9.1.1, q10.1.1⟩ ∧ doneRd (s11 l).1 (s11 l).2 = d := by
        have e1 : smR 9 (0, l) = q1 := Hq1.out
        have e2 : smR 999 (s1 l) = q2 := by unfold s1; rw [e1]; exact Hq2.out
        have e3 : smR 7 (s2 l) = q3 := by unfold s2; rw [e2]; exact Hq3.out
        have e4 : txR 8 (s3 l) = q4 := by unfold s3; rw [e3]; exact Hq4.out
        have e5 : txR 8 (s4 l) = q5 := by unfold s4; rw [e4]; exact Hq5.out
        have e6 : nuR (s5 l) = q6 := by unfold s5; rw [e5]; exact Hq6.out
        have e7 : smR 6 (s6 l) = q7 := by unfold s6; rw [e6]; exact Hq7.out
        have eN : nLegs l = k := by unfold nLegs; rw [e7, HN.out]; rfl
        have eL : legsR (nLegs l) (s7 l) = (L, S) := by rw [eN]; unfold s7; rw [e7]; exact HL.out
        have e8 : smR 1000 (s8 l) = q8 := by unfold s8; rw [eL]; exact Hq8.out
        have e9 : smR 9999 (s9 l) = q9 := by unfold s9; rw [e8]; exact Hq9.out
        have e10 : txR 20 (s10 l) = q10 := by unfold s10; rw [e9]; exact Hq10.out
        refine ⟨?_, by unfold s11; rw [e10]; exact Hd.out⟩
        unfold rawO
        rw [e1, e2, e3, e4, e5, e6, eL, e8, e9, e10]
      have Hraw := Lib.hid hraw
      clear hraw Hq1 Hq2 Hq3 Hq4 Hq5 Hq6 Hq7 Hq8 Hq9 Hq10 HN HL Hd
      have hsl := hO.sl
      obtain ⟨AL, cL, rfl, hsL⟩ := hsl
      have k0 := cell_of_row _ q 0 _ _ (0, 0) M.row
      have k1 := cell_of_row _ q 1 _ _ (0, 0) M.row
      have k2 := cell_of_row _ q 2 _ _ (0, 0) M.row
      have k3 := cell_of_row _ q 3 _ _ (0, 0) M.row
      have k4 := cell_of_row _ q 4 _ _ (0, 0) M.row
      have k5 := cell_of_row _ q 5 _ _ (0, 0) M.row
      have k6 := cell_of_row _ q 6 _ _ (0, 0) M.row
      have k7 := cell_of_row _ q 7 _ _ (0, 0) M.row
      have k8 := cell_of_row _ q 8 _ _ (0, 0) M.row
      have k9 := cell_of_row _ q 9 _ _ (0, 0) M.row
      simp only [List.getElem?_toArray, List.getElem?_cons_zero, List.getElem?_cons_succ] at k0 k1 k2 k3 k4 k5 k6 k7 k8 k9
      have okb : Okb WD WD.heap.size (⟨q1.1.1, q2.1.1, q3.1.1, q4.1.1, q5.1.1, q6.1.1, AL, cL, L, q8.1.1, q9.1.1, q10.1.1⟩ : Od) := ⟨Nat.le_trans zq4 (by decide), Nat.le_trans zq5 (by decide), Nat.le_trans zq10 (by decide), hsL⟩
      have hRt := Lib.hid (right_c0 (⟨q1.1.1, q2.1.1, q3.1.1, q4.1.1, q5.1.1, q6.1.1, AL, cL, L, q8.1.1, q9.1.1, q10.1.1⟩ : Od) WD okb HLs.out)
      clear okb
      by_cases hd : d.1 = 0
      · have g1 : (d.1 != 0) = false := by rw [hd]; rfl
        have Hdn := Lib.hid hd
        clear hd
        go_wp2_with fail
        refine hRt.out.mono ?_
        rintro e WR ⟨rfl, hF⟩
        have M := M.later hF
        have hO := hO.later hF
        have k0 := cell_of_row _ q 0 _ _ (0, 0) M.row
        have k1 := cell_of_row _ q 1 _ _ (0, 0) M.row
        have k2 := cell_of_row _ q 2 _ _ (0, 0) M.row
        have k3 := cell_of_row _ q 3 _ _ (0, 0) M.row
        have k4 := cell_of_row _ q 4 _ _ (0, 0) M.row
        have k5 := cell_of_row _ q 5 _ _ (0, 0) M.row
        have k6 := cell_of_row _ q 6 _ _ (0, 0) M.row
        have k7 := cell_of_row _ q 7 _ _ (0, 0) M.row
        have k8 := cell_of_row _ q 8 _ _ (0, 0) M.row
        have k9 := cell_of_row _ q 9 _ _ (0, 0) M.row
        simp only [List.getElem?_toArray, List.getElem?_cons_zero, List.getElem?_cons_succ] at k0 k1 k2 k3 k4 k5 k6 k7 k8 k9
        clear hF hRt
        by_cases hrt : rightB (⟨q1.1.1, q2.1.1, q3.1.1, q4.1.1, q5.1.1, q6.1.1, AL, cL, L, q8.1.1, q9.1.1, q10.1.1⟩ : Od) = true
        · rw [hrt]
          have Hrt := Lib.hid hrt
          clear hrt
          have HrO := Lib.hid (show readOk l = true by unfold readOk; rw [Hraw.out.2, Hraw.out.1, decide_eq_true Hdn.out, Bool.true_and]; exact (rightB_la _ AL cL).symm.trans Hrt.out)
          have hRow := setRow_heap WR w.heap.size _ #[i64 q1.1.1, i64 q2.1.1, i64 q3.1.1, .string q4.1.1, .string q5.1.1, i64 q6.1.1, .slice AL L.length cL, i64 q8.1.1, i64 q9.1.1, .string q10.1.1] _ _ M.res
          have HRow := Lib.hid hRow
          have HRes := Lib.hid M.res
          have HBw := Lib.hid (M.bel.trans (⟨rfl, rfl, rfl, by simp, fun k hk => setRow_other _ _ _ _ (by omega)⟩ : Below w.heap.size WR (WR.setRow w.heap.size #[i64 q1.1.1, i64 q2.1.1, i64 q3.1.1, .string q4.1.1, .string q5.1.1, i64 q6.1.1, .slice AL L.length cL, i64 q8.1.1, i64 q9.1.1, .string q10.1.1])))
          have HSl := Lib.hid (Own.sl_new (B := w.heap.size) (hO.offL (⟨rfl, rfl, rfl, by simp, fun k hk hne => setRow_other _ _ _ _ (fun e => hne (by rw [e]))⟩ : WR.grownBy (WR.setRow w.heap.size #[i64 q1.1.1, i64 q2.1.1, i64 q3.1.1, .string q4.1.1, .string q5.1.1, i64 q6.1.1, .slice AL L.length cL, i64 q8.1.1, i64 q9.1.1, .string q10.1.1]) (some w.heap.size)) (by have := M.at_; omega)) (by have := M.at_; omega))
          clear hRow
          go_wp2_with (refine wpList_store_row rfl 50 (.tmp 2) (.tmp 70) rfl w.heap.size #[i64 q1.1.1, i64 q2.1.1, i64 q3.1.1, .string q4.1.1, .string q5.1.1, i64 q6.1.1, .slice AL L.length cL, i64 q8.1.1, i64 q9.1.1, .string q10.1.1] rfl rfl 50 #[i64 0, i64 0, i64 0, .string ⟨#[]⟩, .string ⟨#[]⟩, i64 0, .slice none 0 0, i64 0, i64 0, .string ⟨#[]⟩] HRes.out (by kernel_rfl) rfl (by simp [Value.oneCell']) ?_)
          (try simp only [Exit.inBlock, Exit.then]); refine bodyPost_ret (results_cell_row_tmp rfl _ _ w.heap.size 50 _ (0, 0) _ rfl HRow.out Tryz.underlying50 rfl (by kernel_rfl)) rfl ?_
          refine ⟨(⟨q1.1.1, q2.1.1, q3.1.1, q4.1.1, q5.1.1, q6.1.1, AL, cL, L, q8.1.1, q9.1.1, q10.1.1⟩ : Od), by rw [show readE l = 0 from by unfold readE; rw [HrO.out]; rfl]; rfl, by unfold readO; rw [HrO.out, if_pos rfl]; exact Hraw.out.1.symm, ⟨Nat.le_trans zq4 (by decide), Nat.le_trans zq5 (by decide), Nat.le_trans zq10 (by decide), HSl.out⟩, HBw.out⟩
        · have hrt : rightB (⟨q1.1.1, q2.1.1, q3.1.1, q4.1.1, q5.1.1, q6.1.1, AL, cL, L, q8.1.1, q9.1.1, q10.1.1⟩ : Od) = false := by simpa using hrt
          rw [hrt]
          have Hrt := Lib.hid hrt
          clear hrt
          have HrO := Lib.hid (show readOk l = false by unfold readOk; rw [Hraw.out.1]; rw [show rightB (⟨q1.1.1, q2.1.1, q3.1.1, q4.1.1, q5.1.1, q6.1.1, none, 0, L, q8.1.1, q9.1.1, q10.1.1⟩ : Od) = false from (rightB_la _ AL cL).symm.trans Hrt.out, Bool.and_false])
          have hRow := setRow_heap WR w.heap.size _ #[i64 0, i64 0, i64 0, .string ⟨#[]⟩, .string ⟨#[]⟩, i64 0, .slice none 0 0, i64 0, i64 0, .string ⟨#[]⟩] _ _ M.res
          have HRow := Lib.hid hRow
          have HRes := Lib.hid M.res
          have HBw := Lib.hid (M.bel.trans (⟨rfl, rfl, rfl, by simp, fun k hk => setRow_other _ _ _ _ (by omega)⟩ : Below w.heap.size WR (WR.setRow w.heap.size #[i64 0, i64 0, i64 0, .string ⟨#[]⟩, .string ⟨#[]⟩, i64 0, .slice none 0 0, i64 0, i64 0, .string ⟨#[]⟩])))
          clear hRow
          go_wp2_with (refine wpList_store_row rfl 50 (.tmp 2) (.tmp 69) rfl w.heap.size #[i64 0, i64 0, i64 0, .string ⟨#[]⟩, .string ⟨#[]⟩, i64 0, .slice none 0 0, i64 0, i64 0, .string ⟨#[]⟩] rfl rfl 50 #[i64 0, i64 0, i64 0, .string ⟨#[]⟩, .string ⟨#[]⟩, i64 0, .slice none 0 0, i64 0, i64 0, .string ⟨#[]⟩] HRes.out (by kernel_rfl) rfl (by simp [Value.oneCell']) ?_)
          (try simp only [Exit.inBlock, Exit.then]); refine bodyPost_ret (results_cell_row_tmp rfl _ _ w.heap.size 50 _ (0, 0) _ rfl HRow.out Tryz.underlying50 rfl (by kernel_rfl)) rfl ?_
          refine ⟨od0, by rw [show readE l = 3 from by unfold readE; rw [HrO.out]; rfl]; rfl, by unfold readO; rw [HrO.out]; rfl, ⟨Nat.zero_le _, Nat.zero_le _, Nat.zero_le _, SlS.nil_ _ _⟩, HBw.out⟩
      · have g1 : (d.1 != 0) = true := by simpa using hd
        have Hdn := Lib.hid hd
        clear hd hRt
        have HrO := Lib.hid (show readOk l = false by unfold readOk; rw [Hraw.out.2, decide_eq_false Hdn.out]; rfl)
        have hRow := setRow_heap WD w.heap.size _ #[i64 0, i64 0, i64 0, .string ⟨#[]⟩, .string ⟨#[]⟩, i64 0, .slice none 0 0, i64 0, i64 0, .string ⟨#[]⟩] _ _ M.res
        have HRow := Lib.hid hRow
        have HRes := Lib.hid M.res
        have HBw := Lib.hid (M.bel.trans (⟨rfl, rfl, rfl, by simp, fun k hk => setRow_other _ _ _ _ (by omega)⟩ : Below w.heap.size WD (WD.setRow w.heap.size #[i64 0, i64 0, i64 0, .string ⟨#[]⟩, .string ⟨#[]⟩, i64 0, .slice none 0 0, i64 0, i64 0, .string ⟨#[]⟩])))
        clear hRow
        go_wp2_with (refine wpList_store_row rfl 50 (.tmp 2) (.tmp 69) rfl w.heap.size #[i64 0, i64 0, i64 0, .string ⟨#[]⟩, .string ⟨#[]⟩, i64 0, .slice none 0 0, i64 0, i64 0, .string ⟨#[]⟩] rfl rfl 50 #[i64 0, i64 0, i64 0, .string ⟨#[]⟩, .string ⟨#[]⟩, i64 0, .slice none 0 0, i64 0, i64 0, .string ⟨#[]⟩] HRes.out (by kernel_rfl) rfl (by simp [Value.oneCell']) ?_)
        (try simp only [Exit.inBlock, Exit.then]); refine bodyPost_ret (results_cell_row_tmp rfl _ _ w.heap.size 50 _ (0, 0) _ rfl HRow.out Tryz.underlying50 rfl (by kernel_rfl)) rfl ?_
        refine ⟨od0, by rw [show readE l = 3 from by unfold readE; rw [HrO.out]; rfl]; rfl, by unfold readO; rw [HrO.out]; rfl, ⟨Nat.zero_le _, Nat.zero_le _, Nat.zero_le _, SlS.nil_ _ _⟩, HBw.out⟩
theorem read_c (A : Option Addr) (c : Nat) (l : List UInt8) (w : World) (h : Sl w w.heap.size A c l) (hn : l.length ≤ 60000) :
    Calls Tryz.prog 126 #[.slice A l.length c] w fun e w' => ∃ o : Od, e = .returned (.tuple #[o.v, i64 (readE l)]) ∧ ({ o with la := none, lc := 0 } : Od) = readO l ∧ Okb w' w'.heap.size o ∧ Below w.heap.size w w' := by
  refine (read_own A c l w h hn).mono ?_
  rintro e w' ⟨o, h1, h2, h3, h4⟩
  exact ⟨o, h1, h2, Enc.keep (α := Od) h3 (fun _ _ => rfl) (fun _ hb => hb.2), h4⟩
end Go.Proofs.YtdkkblhfjblpkaaGreat

/- law06.ask, ref02.Same, order.Number, order.Ahead: small ones; concrete facts; law06.lives -/
namespace Go.Proofs.YtdkkblhfjblpkaaGreat
open Go.RowKit
set_option maxRecDepth 100000 in
set_option maxHeartbeats 1000000 in
theorem same2_c (A B : Option Addr) (c d : Nat) (l m : List UInt8) (w : World) (h : Sl w w.heap.size A c l) (k : Sl w w.heap.size B d m) :
    Calls Tryz.prog 18 #[.slice A l.length c, .slice B m.length d] w fun e w' => e = .returned (.bool (l == m)) ∧ Below w.heap.size w w' := by
  have c1 := conv_bytes h
  have c2 := conv_bytes k
  clear h k
  go_enter Tryz.func18, Tryz.ntmps18
  go_wp2
  go_ret
  exact ⟨rfl, Below.refl _ _⟩
set_option maxRecDepth 100000 in
set_option maxHeartbeats 1000000 in
theorem number_c (a b : Int) (w : World) (h1 : -1000000 ≤ a ∧ a ≤ 1000000) (h2 : -1000000 ≤ b ∧ b ≤ 1000000) : Calls Tryz.prog 200 #[.agg #[i64 a, i64 b]] w fun e w' => e = .returned (i64 (1000 * a + b)) ∧ Below w.heap.size w w' := by
  have w1 : IntKind.i64.wrap (1000 * a) = 1000 * a := by rw [IntKind.wrap_i64]; omega
  have w2 : IntKind.i64.wrap (1000 * a + b) = 1000 * a + b := by rw [IntKind.wrap_i64]; omega
  go_enter Tryz.func200, Tryz.ntmps200
  go_wp2
  go_ret
  exact ⟨rfl, (Below.refl _ _).alloc (Nat.le_refl _) _⟩
abbrev askO : Od := askOd 1 ⟨#[97]⟩
abbrev askBs : List UInt8 := [0, 2, 14, 2, 97, 0, 0, 0, 0, 0, 0]
theorem ask_right : rightB askO = true := by kernel_rfl
theorem ask_bytes : bytesB askO = askBs := by kernel_rfl
theorem ask_ok : readOk askBs = true := by kernel_rfl
theorem ask_read : readO askBs = askO := by kernel_rfl
theorem ask_okb (W : World) (n : Nat) : Okb W n askO := ⟨by decide, by decide, by decide, SlS.nil_ _ _⟩
theorem sameB_la (a : Option Addr) (c : Nat) : sameB ({ askO with la := a, lc := c } : Od) askO = true := sameB_core.2 rfl
theorem ask_inr : InR askO := ⟨by unfold R64; decide, by unfold R64; decide, by unfold R64; decide, by unfold R64; decide, by unfold R64; decide, by unfold R64; decide, fun l hl => by simp [askOd] at hl⟩
end Go.Proofs.YtdkkblhfjblpkaaGreat

/- law06.has, few -/
namespace Go.Proofs.YtdkkblhfjblpkaaGreat
open Go.RowKit
def anyS (l : List ByteArray) (s : ByteArray) : Bool := l.any fun t => decide (t = s)
def noS (l : List ByteArray) (s : ByteArray) (k : Nat) : Prop := ∀ j (hj : j < l.length), j < k → l[j] ≠ s
theorem noS.next {l : List ByteArray} {s : ByteArray} {k : Nat} (h : noS l s k) (hk : k < l.length) (he : l[k] ≠ s) : noS l s (k + 1) := fun j hj hjk => by
  rcases Nat.lt_succ_iff_lt_or_eq.1 hjk with hjk | rfl
  · exact h j hj hjk
  · exact he
def cut10 (x : Od) : Od := { x with legs := x.legs.take 10 }
theorem cut10_legs (x : Od) : (cut10 x).legs.length ≤ 10 := by unfold cut10; simp; omega
theorem cut10_ok {w : World} {n : Nat} {x : Od} (h : Okb w n x) : Okb w n (cut10 x) := by
  obtain ⟨a, b, c, d⟩ := h
  exact ⟨a, b, c, d.take 10⟩
end Go.Proofs.YtdkkblhfjblpkaaGreat

/- order.Told, order.ReadTold -/
namespace Go.Proofs.YtdkkblhfjblpkaaGreat
open Go.RowKit
def toldB (x : Rp) : List UInt8 := numB x.err ++ numB x.hav ++ numB x.set_ ++ numB x.num
theorem toldB_le {x : Rp} (h : InP x) : (toldB x).length ≤ 40 := by
  obtain ⟨a, b, c, d⟩ := h
  have := numB_le a
  have := numB_le b
  have := numB_le c
  have := numB_le d
  unfold toldB
  simp only [List.length_append]
  omega
/-- order.ReadTold -/
def tq1 (l : List UInt8) : (Int × Int) × St := smR 14 (0, l)
def tq2 (l : List UInt8) : (Int × Int) × St := nuR (tq1 l).2
def tq3 (l : List UInt8) : (Int × Int) × St := nuR (tq2 l).2
def tq4 (l : List UInt8) : (Int × Int) × St := nuR (tq3 l).2
def toldOk (l : List UInt8) : Bool := decide ((doneRd (tq4 l).2.1 (tq4 l).2.2).1 = 0)
def rawT (l : List UInt8) : Rp := ⟨(tq1 l).1.1, (tq2 l).1.1, (tq3 l).1.1, (tq4 l).1.1⟩
/-- the error that is told -/
def toldE (l : List UInt8) : Int := if toldOk l then 0 else 3
def readT (l : List UInt8) : Rp := if toldOk l then rawT l else ⟨0, 0, 0, 0⟩
/-- in the midst of a reading: the reader in block r + 1 (what is left in r), the order in q, the result in t -/
structure MidT (w W : World) (r q t : Nat) (s : St) (cs : Array Value) : Prop where
  rd : Rd W (r + 1) r s.1 s.2
  lt : r < W.heap.size
  row : W.heap[q]? = some (.cells cs 44 (0, 0))
  res : W.heap[t]? = some (.cells #[i64 0, i64 0, i64 0, i64 0] 44 (0, 0))
  bel : Below w.heap.size w W
  at_ : w.heap.size ≤ t ∧ t < r ∧ r + 1 < q
theorem MidT.call {w W W' : World} {r q t : Nat} {s s' : St} {cs : Array Value} (m : MidT w W r q t s cs) (h : Rd W' (r + 1) r s'.1 s'.2) (g : W.grownBy W' (some (r + 1))) : MidT w W' r q t s' cs := by
  obtain ⟨_, lt, row, res, bel, a, b, c⟩ := m
  refine ⟨h, Nat.lt_of_lt_of_le lt g.size, ?_, ?_, bel.trans (below_of_grown g bel.size (fun k e => by injection e; omega)), a, b, c⟩
  · rw [g.block q (Array.getElem?_eq_some_iff.1 row).1 (fun e => by injection e; omega), row]
  · rw [g.block t (Array.getElem?_eq_some_iff.1 res).1 (fun e => by injection e; omega), res]
theorem MidT.store {w W : World} {r q t : Nat} {s : St} {cs : Array Value} (m : MidT w W r q t s cs) (j : Nat) (v : Value) : MidT w (W.setCell ⟨q, j, none⟩ v) r q t s (cs.setIfInBounds j v) := by
  obtain ⟨rd, lt, row, res, bel, a, b, c⟩ := m
  have g := grown_setCell (g := q) (World.grownBy.refl W (some q)) (p := ⟨q, j, none⟩) (.inl rfl) v
  refine ⟨rd.grown g (by simp; omega) (by simp; omega) lt, Nat.lt_of_lt_of_le lt g.size, heap_setCell_same W q j _ _ v row, ?_, bel.trans (below_of_grown g bel.size (fun k e => by injection e; omega)), a, b, c⟩
  rw [g.block t (Array.getElem?_eq_some_iff.1 res).1 (fun e => by injection e; omega), res]
theorem MidT.later {w W W' : World} {r q t : Nat} {s : St} {cs : Array Value} (m : MidT w W r q t s cs) (h : Below W.heap.size W W') : MidT w W' r q t s cs := by
  obtain ⟨rd, lt, row, res, bel, a, b, c⟩ := m
  exact ⟨rd.later lt h, Nat.lt_of_lt_of_le lt h.size, by rw [h.block q (Array.getElem?_eq_some_iff.1 row).1, row], by rw [h.block t (Array.getElem?_eq_some_iff.1 res).1, res], below_on bel (Nat.le_refl _) h |> fun k => k.mono (Nat.le_refl _), a, b, c⟩
theorem MidT.grown {w W W' : World} {r q t : Nat} {s : St} {cs : Array Value} {row : Option Nat} (m : MidT w W r q t s cs) (g : W.grownBy W' row) (hq : ∀ b, row = some b → q < b) : MidT w W' r q t s cs := by
  obtain ⟨rd, lt, hrow, res, bel, a, b, c⟩ := m
  have hne : ∀ k, k ≤ q → some k ≠ row := fun k hk e => by have := hq k e.symm; omega
  refine ⟨rd.grown g (fun e => hne (r + 1) (by omega) e.symm) (fun e => hne r (by omega) e.symm) lt, Nat.lt_of_lt_of_le lt g.size, ?_, ?_, bel.trans (below_of_grown g bel.size (fun k e => by have := hq k e; omega)), a, b, c⟩
  · rw [g.block q (Array.getElem?_eq_some_iff.1 hrow).1 (hne q (Nat.le_refl _)), hrow]
  · rw [g.block t (Array.getElem?_eq_some_iff.1 res).1 (hne t (by omega)), res]
end Go.Proofs.YtdkkblhfjblpkaaGreat
