/- A row of the call's own that is written in place: a store of an element, a clear of its end. No program. -/
import Derived.Test.YthmgchohbdlonaaGreatData
import Derived.Laws.CopyRow
import Derived.Lib.SliceRun
import Derived.Laws.IdiomCopy
import Derived.Deep.QuietTactic
import Derived.WalkKit
namespace Go.Proofs.YthmgchohbdlonaaGreat
open Go.RowKit

theorem beqS_of_eq {s t : ByteArray} (h : s = t) : (s.toList == t.toList) = true := by subst h; simp
theorem beqS_of_ne {s t : ByteArray} (h : s ≠ t) : (s.toList == t.toList) = false := by
  rw [beq_eq_false_iff_ne]
  intro e
  rw [ByteArray.toList_eq, ByteArray.toList_eq] at e
  exact h (by obtain ⟨⟨x⟩⟩ := s; obtain ⟨⟨y⟩⟩ := t; simp_all)
theorem list_seg_take {α : Type} (L : List α) (p q m : Nat) (cs : List α) (hcs : cs.length = q) (h : p + q ≤ m) (hm : m ≤ L.length) :
    (L.take p ++ cs ++ L.drop (p + q)).take m = (L.take m).take p ++ cs ++ (L.take m).drop (p + q) := by
  have hl : (L.take p ++ cs).length = p + q := by rw [List.length_append, List.length_take, hcs]; omega
  rw [List.take_append, hl, List.take_of_length_le (l := L.take p ++ cs) (by omega), List.take_take, Nat.min_eq_left (by omega), List.drop_take]

theorem quiet_add_left {P : Program} {f : FuncId} {args : Array Value} {w : World} {a n : Nat} {v : Value}
    (h : Calls P f args (w.drewN (a + n)) fun e w' => e = .returned v ∧ w.drewN (a + n) = w') : Calls P f args (w.drewN (a + n)) fun e w'' => e = .returned v ∧ ∃ m, w'' = w.drewN (a + m) :=
  h.mono fun _ _ ⟨he, hm⟩ => ⟨he, n, hm.symm⟩
theorem quiet_left {P : Program} {f : FuncId} {args : Array Value} {w : World} {n : Nat} {v : Value}
    (h : Calls P f args (w.drewN n) fun e w' => e = .returned v ∧ w.drewN n = w') : Calls P f args (w.drewN n) fun e w'' => e = .returned v ∧ ∃ m, w'' = w.drewN m :=
  h.mono fun _ _ ⟨he, hm⟩ => ⟨he, n, hm.symm⟩
section
variable {α : Type} [Enc α] {w w' : World} {base : Nat} {e : TypeId} {v : Value} {l : List α}

theorem flat_set (l : List α) (i : Nat) (x : α) (hi : i < l.length) : (l.set i x).flatMap Enc.cells = (l.flatMap Enc.cells).take (i * Enc.size α) ++ Enc.cells x ++ (l.flatMap Enc.cells).drop ((i + 1) * Enc.size α) := by
  rw [← flat_take, ← flat_drop, List.set_eq_take_append_cons_drop, if_pos hi, List.flatMap_append, List.flatMap_cons, List.append_assoc]

theorem Own.form (h : Own w base e v l) (hn : 0 < l.length) : ∃ g cap cur, v = .slice (some ⟨g, 0, none⟩) l.length cap ∧ base ≤ g ∧ w.heap[g]? = some (.cells cur e (0, 0)) ∧ l.length ≤ cap ∧ cap ≤ maxLen ∧ cur.size = cap * Enc.size α ∧ cur.toList.take (l.length * Enc.size α) = l.flatMap Enc.cells := by
  obtain ⟨⟨_, h2⟩, _⟩ := h
  rcases h2 with ⟨_, h0⟩ | ⟨g, cap, cur, h3⟩
  · omega
  · exact ⟨g, cap, cur, h3⟩
theorem Own.cells {g n cap : Nat} (h : Own w base e (.slice (some ⟨g, 0, none⟩) n cap) l) : ∃ cur, w.heap[g]? = some (.cells cur e (0, 0)) ∧ base ≤ g ∧ n = l.length ∧ n ≤ cap ∧ cap ≤ maxLen ∧ cur.size = cap * Enc.size α ∧ cur.toList.take (n * Enc.size α) = l.flatMap Enc.cells := by
  obtain ⟨⟨h1, h2⟩, _⟩ := h
  rcases h2 with ⟨h0, _⟩ | ⟨g', cap', cur, h3, hb, hh, hn, hm, hz, ht⟩
  · cases h0
  · injection h3 with h4 h5 h6
    injection h4 with h4
    injection h4 with h4
    subst h4 h5 h6
    exact ⟨cur, hh, hb, rfl, hn, hm, hz, ht⟩
/-- the row's cells as they stand, for the walk -/
theorem Own.at_ {g n cap : Nat} (h : Own w base e (.slice (some ⟨g, 0, none⟩) n cap) l) {k : Nat} (hk : k < l.length) : ∀ j u, (Enc.cells l[k])[j]? = some u → w.cell? ⟨g, k * Enc.size α + j, none⟩ = some u := by
  intro j u hu
  obtain ⟨A, c, hv, hs⟩ := h.sl
  obtain ⟨b, o, hA, _, _, hc⟩ := hs.at_ hk
  injection hv with h1
  subst h1
  injection hA with hA
  injection hA with h2 h3
  subst h2 h3
  have := hc j u hu
  rwa [Nat.zero_add] at this
theorem Own.free {g n cap : Nat} (h : Own w base e (.slice (some ⟨g, 0, none⟩) n cap) l) (j : Nat) : w.frozen? ⟨g, j, none⟩ = false := by
  obtain ⟨cur, hh, _⟩ := h.cells
  exact frozen_of_row w g j cur e hh
theorem Own.base_le {g n cap : Nat} (h : Own w base e (.slice (some ⟨g, 0, none⟩) n cap) l) : base ≤ g ∧ g < w.heap.size := by
  obtain ⟨cur, hh, hb, _⟩ := h.cells
  exact ⟨hb, (Array.getElem?_eq_some_iff.1 hh).1⟩
/-- a shorter reading of the row -/
theorem Own.take {g n cap : Nat} (h : Own w base e (.slice (some ⟨g, 0, none⟩) n cap) l) (i : Nat) (hi : i ≤ l.length) : Own w base e (.slice (some ⟨g, 0, none⟩) i cap) (l.take i) := by
  obtain ⟨cur, hh, hb, hn, hc, hm, hz, ht⟩ := h.cells
  have hl : (l.take i).length = i := by rw [List.length_take]; omega
  refine ⟨⟨by rw [flat_len], .inr ⟨g, cap, cur, by rw [hl], hb, hh, by omega, hm, hz, ?_⟩⟩, fun x hx => h.2 x (List.mem_of_mem_take hx)⟩
  rw [flat_take, ← ht, List.take_take, hl, Nat.min_eq_left (Nat.mul_le_mul_right _ (by omega))]
/-- the row's cells turned, some list over them -/
theorem Own.turn {g n cap : Nat} {l' : List α} {cur cur' : Array Value} (h : Own w base e (.slice (some ⟨g, 0, none⟩) n cap) l) (hg : w.heap[g]? = some (.cells cur e (0, 0))) (hs : cur'.size = cur.size) (hl : l'.length ≤ l.length)
    (ht : cur'.toList.take (l'.length * Enc.size α) = l'.flatMap Enc.cells) (hok : ∀ x ∈ l', Enc.ok w (Oth w (.slice (some ⟨g, 0, none⟩) n cap)) x) :
    Own (w.setRow g cur') base e (.slice (some ⟨g, 0, none⟩) l'.length cap) l' ∧ w.grownBy (w.setRow g cur') (some g) := by
  obtain ⟨cur0, hh, hb, hn, hc, hm, hz, _⟩ := h.cells
  rw [hg] at hh
  injection hh with hh
  injection hh with hh
  subst hh
  have hgr : w.grownBy (w.setRow g cur') (some g) := ⟨rfl, rfl, rfl, by simp, fun k hk hne => by
    simp only [World.setRow, Array.getElem?_modify]
    rw [if_neg (fun e => hne (by rw [e]))]⟩
  refine ⟨⟨⟨by rw [flat_len], .inr ⟨g, cap, cur', rfl, hb, ?_, by omega, hm, by omega, ht⟩⟩, fun x hx => ?_⟩, hgr⟩
  · exact setRow_heap w g cur cur' e _ hg
  · exact Enc.keep (hok x hx) (fun p hp => World.cell?_of_block (hgr.block _ hp.1 hp.2)) (fun b hb => ⟨by rw [size_setRow]; exact hb.1, hb.2⟩)
/-- an element stored -/
theorem Own.put {g n cap : Nat} {cur : Array Value} (h : Own w base e (.slice (some ⟨g, 0, none⟩) n cap) l) (hg : w.heap[g]? = some (.cells cur e (0, 0))) (i : Nat) (hi : i < l.length) (x : α) (hx : Enc.ok w (Oth w (.slice (some ⟨g, 0, none⟩) n cap)) x) :
    Own (w.setRow g (cur.toList.take (i * Enc.size α) ++ Enc.cells x ++ cur.toList.drop (i * Enc.size α + Enc.size α)).toArray) base e (.slice (some ⟨g, 0, none⟩) n cap) (l.set i x) ∧
      w.grownBy (w.setRow g (cur.toList.take (i * Enc.size α) ++ Enc.cells x ++ cur.toList.drop (i * Enc.size α + Enc.size α)).toArray) (some g) := by
  obtain ⟨cur0, hh, hb, hn, hc, hm, hz, ht⟩ := h.cells
  rw [hg] at hh
  injection hh with hh
  injection hh with hh
  subst hh
  have hlen : cur.toList.length = cap * Enc.size α := by simpa using hz
  have hi2 : i * Enc.size α + Enc.size α ≤ n * Enc.size α := by rw [← Nat.succ_mul]; exact Nat.mul_le_mul_right _ (by omega)
  have hi3 : n * Enc.size α ≤ cap * Enc.size α := Nat.mul_le_mul_right _ hc
  have := h.turn (l' := l.set i x) (cur' := (cur.toList.take (i * Enc.size α) ++ Enc.cells x ++ cur.toList.drop (i * Enc.size α + Enc.size α)).toArray) hg ?_ (by simp) ?_ ?_
  · simpa [← hn] using this
  · simp only [List.size_toArray, List.length_append, List.length_take, List.length_drop, Enc.len]
    rw [← Array.length_toList]; omega
  · rw [List.length_set, ← hn, flat_set l i x hi, ← ht, Nat.succ_mul]
    exact list_seg_take _ _ _ _ _ (Enc.len x) (by omega) (by omega)
  · intro y hy
    rcases List.mem_or_eq_of_mem_set hy with hy | rfl
    · exact h.2 y hy
    · exact hx
/-- a store into an element of the row, for the walk -/
theorem wpList_store_own {P : Program} {ops : Array Oper} {rest : List Oper} {o : Oper} {a : Act} {Q : Exit → Act → World → Prop} (hgd : o.guard = none) (d : Option Nat) (ad x : Operand) (t : TypeId) (ho : o.op = .store t ad x) (hd : o.dst = d)
    (hi : (P.info? t).map (·.size) = some (Enc.size α)) (g n cap i off : Nat) (u : α) (h : Own w base e (.slice (some ⟨g, 0, none⟩) n cap) l) (hil : i < l.length)
    (had : a.eval ad = .pointer (some ⟨g, off, none⟩)) (hoff : off = i * Enc.size α) (hx : (a.eval x).cells.toList = Enc.cells u) (hu : Enc.ok w (Oth w (.slice (some ⟨g, 0, none⟩) n cap)) u)
    (hK : ∀ w', Own w' base e (.slice (some ⟨g, 0, none⟩) n cap) (l.set i u) → w.grownBy w' (some g) → wpList P ops Q rest (a.put d undef) w') : wpList P ops Q (o :: rest) a w := by
  obtain ⟨cur, hg, hb, hn, hc, hm, hz, ht⟩ := h.cells
  obtain ⟨h1, h2⟩ := h.put hg i hil u hu
  have hsz : (a.eval x).cells.size = Enc.size α := by rw [← Array.length_toList, hx, Enc.len]
  have hi2 : i * Enc.size α + Enc.size α ≤ n * Enc.size α := by rw [← Nat.succ_mul]; exact Nat.mul_le_mul_right _ (by omega)
  have hi3 : n * Enc.size α ≤ cap * Enc.size α := Nat.mul_le_mul_right _ hc
  have hst := run_storeCells_at P g (i * Enc.size α) e (Enc.cells u) 0 cur w hg (by rw [Enc.len]; omega) (Enc.one u)
  rw [Nat.add_zero, Enc.len] at hst
  rw [List.append_assoc] at h1 h2
  subst hd hoff
  refine wpList_plain hgd fun K hk => ?_
  cases hq : P.info? t with
  | none => simp [hq] at hi
  | some j =>
    have hj : j.size = Enc.size α := by simpa [hq] using hi
    unfold Oper.wp execOp
    simp only [ho]
    simp [had, Instr.storeAt, Instr.sureAddr, storeVar, sizeOf, typeInfo, hq, hj, hsz, hx, hst]
    exact hk _ _ (hK _ h1 h2)
theorem zeroCells_one (z : Array Value) (n : Nat) (h : ∀ u ∈ z.toList, u.oneCell' = true) : ∀ u ∈ (Builtin.zeroCells z n).toList, u.oneCell' = true := by
  intro u hu
  simp only [Builtin.zeroCells] at hu
  simp at hu
  obtain ⟨k, hk, rfl⟩ := hu
  have hp : 0 < z.size := by
    rcases Nat.eq_zero_or_pos z.size with h0 | h0
    · rw [h0] at hk; omega
    · exact h0
  have hlt : k % z.size < z.size := Nat.mod_lt _ hp
  rw [getElem!_pos z _ hlt]
  exact h _ (by simp)
/-- clear(s[i:]): the row as it was, up to i -/
theorem wpList_clear_own {P : Program} {ops : Array Oper} {rest : List Oper} {o : Oper} {a : Act} {Q : Exit → Act → World → Prop} (hgd : o.guard = none) (d : Option Nat) (x : Operand) (t : TypeId) (ho : o.op = .call { callee := .builtin .clear, args := #[x], argTypes := #[t] }) (hd : o.dst = d)
    (te : TypeId) (ht : P.underlying t = some (.slice te)) (z : Value) (hz : ∀ w, (zeroValue te).run P w = .ok z w) (hzs : z.cells.size = Enc.size α) (hz1 : ∀ u ∈ z.cells.toList, u.oneCell' = true)
    (g n cap i off : Nat) (A : Option Addr) (c : Nat) (h : Own w base e (.slice (some ⟨g, 0, none⟩) n cap) l) (hil : i ≤ l.length)
    (hv : a.eval x = .slice A (n - i) c) (hoff : off = i * Enc.size α) (hA : i < n → A = some ⟨g, off, none⟩)
    (hK : ∀ w', Own w' base e (.slice (some ⟨g, 0, none⟩) i cap) (l.take i) → w.grownBy w' (some g) → wpList P ops Q rest (a.put d (.tuple #[])) w') : wpList P ops Q (o :: rest) a w := by
  obtain ⟨cur, hg, hb, hn, hc, hm, hzz, htk⟩ := h.cells
  subst hd hoff
  refine wpList_plain hgd fun K hk => ?_
  rcases Nat.lt_or_ge i n with hlt | hge
  · rw [hA hlt] at hv
    have hsz : (Builtin.zeroCells z.cells (n - i)).toList.length = (n - i) * Enc.size α := by rw [Array.length_toList, size_zeroCells, hzs]
    have hmul : i * Enc.size α + (n - i) * Enc.size α = n * Enc.size α := by rw [← Nat.add_mul]; congr 1; omega
    have hi3 : n * Enc.size α ≤ cap * Enc.size α := Nat.mul_le_mul_right _ hc
    have hst := run_storeCells_at P g (i * Enc.size α) e (Builtin.zeroCells z.cells (n - i)).toList 0 cur w hg (by omega) (zeroCells_one _ _ hz1)
    rw [Nat.add_zero] at hst
    have hlen : cur.toList.length = cap * Enc.size α := by simpa using hzz
    have hle : i ≤ n := by omega
    have hti : (l.take i).length = i := by rw [List.length_take]; omega
    have hT := h.turn (l' := l.take i) (cur' := (cur.toList.take (i * Enc.size α) ++ (Builtin.zeroCells z.cells (n - i)).toList ++ cur.toList.drop (i * Enc.size α + (Builtin.zeroCells z.cells (n - i)).toList.length)).toArray) hg
      (by simp only [List.size_toArray, List.length_append, List.length_take, List.length_drop, hsz]; rw [← Array.length_toList]; omega) (by rw [hti]; omega)
      (by
        rw [hti, flat_take, ← htk, List.take_take, Nat.min_eq_left (Nat.mul_le_mul_right _ hle)]
        rw [List.append_assoc, List.take_append_of_le_length (by rw [List.length_take]; omega), List.take_take, Nat.min_self])
      (fun y hy => h.2 y (List.mem_of_mem_take hy))
    rw [hti] at hT
    obtain ⟨h1, h2⟩ := hT
    rw [List.append_assoc] at h1 h2
    unfold Oper.wp execOp
    have hne : n - i ≠ 0 := by omega
    obtain ⟨m, hm'⟩ : ∃ m, n - i = m + 1 := ⟨n - i - 1, by omega⟩
    simp only [ho]
    rw [hm'] at hv hst h1 h2
    simp [resolve, invoke, builtin, Builtin.clear_, hv, run_underlying ht, hz, hst]
    rw [hm'] at *
    exact hk _ _ (hK _ (by simpa using h1) (by simpa using h2))
  · have hin : i = n := by omega
    unfold Oper.wp execOp
    simp only [ho]
    subst hin
    rw [Nat.sub_self] at hv
    have hrun : ∀ w : World, (Builtin.clear_ #[t] o.type #[.slice A 0 c]).run P w = .ok (.tuple #[]) w := by
      intro w
      cases A <;> simp [Builtin.clear_, run_underlying ht]
    simp [resolve, invoke, builtin, hv, hrun]
    exact hk _ _ (hK w (by simpa [hn] using h) (World.grownBy.refl w _))
theorem Own.str {w : World} {base : Nat} {e : TypeId} {l : List ByteArray} {g n cap : Nat} (h : Own w base e (.slice (some ⟨g, 0, none⟩) n cap) l) {k : Nat} (hk : k < l.length) : w.cell? ⟨g, k, none⟩ = some (.string l[k]) := by
  have := h.at_ hk 0 _ rfl
  rwa [show k * Enc.size ByteArray + 0 = k from Nat.mul_one k] at this
theorem grown_of_below {w w' : World} (h : Below w.heap.size w w') (row : Option Nat) : w.grownBy w' row := ⟨h.os, h.tape, h.output, h.size, fun k hk _ => h.block k hk⟩
theorem grown_trans {a b c : World} {row : Option Nat} (h : a.grownBy b row) (k : b.grownBy c row) : a.grownBy c row :=
  ⟨k.os.trans h.os, k.tape.trans h.tape, k.output.trans h.output, Nat.le_trans h.size k.size, fun i hi hne => (k.block i (Nat.lt_of_lt_of_le hi h.size) hne).trans (h.block i hi hne)⟩
theorem grown_drewN {a b : World} {row : Option Nat} (h : a.grownBy b row) (n : Nat) : a.grownBy (b.drewN n) row := ⟨h.os, h.tape, h.output, h.size, h.block⟩
theorem grown_drew {a b : World} {row : Option Nat} (h : a.grownBy b row) : a.grownBy b.drew row := ⟨h.os, h.tape, h.output, h.size, h.block⟩
theorem Own.drewN (h : Own w base e v l) (n : Nat) : Own (w.drewN n) base e v l := h.later (below_drewN (Below.refl _ _) n)
theorem Own.drew (h : Own w base e v l) : Own w.drew base e v l := h.later (Below.drew (Below.refl _ _))
/-- a row of the call's own that grew or turned: what was below it is as it was -/
theorem below_of_grown {B : Nat} {w w' : World} {row : Option Nat} (h : w.grownBy w' row) (hB : B ≤ w.heap.size) (hr : ∀ g, row = some g → B ≤ g) : Below B w w' := (Below.refl B w).grown h hB hr
theorem flat_str (l : List ByteArray) : l.flatMap Enc.cells = l.map Value.string := by
  induction l with
  | nil => rfl
  | cons x r ih => rw [List.flatMap_cons, ih]; rfl
theorem Own.set_str {w : World} {base : Nat} {e : TypeId} {l : List ByteArray} {g n cap : Nat} (h : Own w base e (.slice (some ⟨g, 0, none⟩) n cap) l) {i : Nat} (_hi : i < l.length) (x : ByteArray) (hx : x.size ≤ maxLen) :
    Own (w.setCell ⟨g, i, none⟩ (.string x)) base e (.slice (some ⟨g, 0, none⟩) n cap) (l.set i x) := by
  obtain ⟨cur, hg, hb, hn, hc, hm, hz, ht⟩ := h.cells
  have hz1 : cur.size = cap := by rw [hz]; exact Nat.mul_one _
  have ht1 : cur.toList.take n = l.map Value.string := by rw [← flat_str, ← ht]; rw [show n * Enc.size ByteArray = n from Nat.mul_one n]
  have hset : (w.setCell ⟨g, i, none⟩ (.string x)).heap[g]? = some (.cells (cur.setIfInBounds i (.string x)) e (0, 0)) := heap_setCell_same w g i cur e (.string x) hg
  refine ⟨⟨by rw [flat_len], .inr ⟨g, cap, _, by rw [List.length_set, ← hn], hb, hset, by rw [List.length_set]; omega, hm, by simp [hz], ?_⟩⟩, fun y hy => ?_⟩
  · rw [List.length_set, ← hn, flat_str, List.map_set, ← ht1, show n * Enc.size ByteArray = n from Nat.mul_one n, Array.toList_setIfInBounds, List.take_set]
  · rcases List.mem_or_eq_of_mem_set hy with hy | rfl
    · exact h.2 y hy
    · exact hx
theorem grown_setCell {a w : World} {g : Nat} (h : a.grownBy w (some g)) {p : Addr} (hp : p.block = g ∨ a.heap.size ≤ p.block) (u : Value) : a.grownBy (w.setCell p u) (some g) :=
  ⟨h.os, h.tape, h.output, by simpa [World.setCell] using h.size, fun i hi hne => (Below.heap_setCell w p u i (by
    rintro rfl
    rcases hp with hp | hp
    · exact hne (by rw [hp])
    · omega)).trans (h.block i hi hne)⟩
theorem setCells_row (g : Nat) (t : TypeId) : ∀ (vs : List Value) (o : Nat) (cur : Array Value) (w : World), w.heap[g]? = some (.cells cur t (0, 0)) → o + vs.length ≤ cur.size →
    w.setCells g o vs = w.setRow g (cur.toList.take o ++ vs ++ cur.toList.drop (o + vs.length)).toArray
  | [], o, cur, w, hg, _ => by
    simp only [World.setCells, List.append_nil, List.length_nil, Nat.add_zero, List.take_append_drop, Array.toArray_toList]
    rw [setRow_self w g cur t (0, 0) hg]
  | v :: r, o, cur, w, hg, hl => by
    simp only [List.length_cons] at hl
    have ho : o < cur.size := by omega
    rw [World.setCells, setCell_eq_setRow w g o cur t (0, 0) v hg, setCells_row g t r (o + 1) (cur.setIfInBounds o v) _ (setRow_heap w g cur _ t _ hg) (by simp; omega), setRow_setRow]
    congr 2
    have e := list_seg_step cur.toList o v r (by simp; omega)
    simpa [Array.toList_setIfInBounds] using e
/-- an element stored cell by cell -/
theorem Own.set_cells {g n cap : Nat} (h : Own w base e (.slice (some ⟨g, 0, none⟩) n cap) l) (i : Nat) (hi : i < l.length) (x : α) (hx : Enc.ok w (Oth w (.slice (some ⟨g, 0, none⟩) n cap)) x) :
    Own (w.setCells g (i * Enc.size α) (Enc.cells x)) base e (.slice (some ⟨g, 0, none⟩) n cap) (l.set i x) ∧ w.grownBy (w.setCells g (i * Enc.size α) (Enc.cells x)) (some g) := by
  obtain ⟨cur, hg, hb, hn, hc, hm, hz, ht⟩ := h.cells
  have hi2 : i * Enc.size α + Enc.size α ≤ n * Enc.size α := by rw [← Nat.succ_mul]; exact Nat.mul_le_mul_right _ (by omega)
  have hi3 : n * Enc.size α ≤ cap * Enc.size α := Nat.mul_le_mul_right _ hc
  rw [setCells_row g e (Enc.cells x) (i * Enc.size α) cur w hg (by rw [Enc.len]; omega), Enc.len]
  exact h.put hg i hi x hx
end
end Go.Proofs.YthmgchohbdlonaaGreat
