/- append onto a row of the call's own: one datum, or a slice of data. No program. -/
import Derived.Test.YthmgchohbdlonaaGreatRow
import Derived.Maps.AppendAt
namespace Go.Proofs.YthmgchohbdlonaaGreat
open Go.RowKit

section
variable {α : Type} [Enc α] {P : Program} {w : World} {base : Nat} {e : TypeId} {v : Value} {l : List α}

theorem flat_oneCell (l : List α) : ∀ u ∈ l.flatMap Enc.cells, u.oneCell' = true := by
  intro u hu
  obtain ⟨x, _, hx⟩ := List.mem_flatMap.1 hu
  exact Enc.one x u hx

/-- the elements of a row are where they were, whatever has become of the row -/
theorem oth_grown {w' : World} {v' : Value} (hg : w.grownBy w' v.ownBlock) (hat : v'.ownBlock = v.ownBlock ∨ v'.ownBlock = some w.heap.size) {x : α} (hx : Enc.ok w (Oth w v) x) : Enc.ok w' (Oth w' v') x := by
  refine Enc.keep hx (fun p hp => World.cell?_of_block (hg.block _ hp.1 hp.2)) (fun b hb => ⟨Nat.lt_of_lt_of_le hb.1 hg.size, ?_⟩)
  rcases hat with h | h
  · rw [h]; exact hb.2
  · rw [h]
    intro hh
    injection hh with hh
    have := hb.1
    omega

theorem run_append_slice (t ty : TypeId) (z : Value) (bytes : Nat) (ht : P.underlying t = some (.slice e)) (hinf : (P.info? e).map (fun i => (i.zero, i.size, i.bytes)) = some (some z, Enc.size α, bytes)) (hzs : z.cells.size = Enc.size α) (hsz : 0 < Enc.size α) (hby : bytes ≤ 1000)
    (h : Own w base e v l) (A : Option Addr) (c : Nat) (ys : List α) (hs : SlS w (Oth w v) A c ys) (hlen : l.length + ys.length ≤ 4294967296) (hbase : base ≤ w.heap.size) :
    ∃ v' w', (Builtin.append_ #[t, t] ty #[v, .slice A ys.length c]).run P w = .ok v' w' ∧ Own w' base e v' (l ++ ys) ∧ w.grownBy w' v.ownBlock ∧ (v'.ownBlock = v.ownBlock ∨ v'.ownBlock = some w.heap.size) := by
  obtain ⟨i, hi, hz, hz1, hz2⟩ := info_parts hinf
  have hbytes : (l.length + ys.length) * bytes ≤ 140737488355328 := Nat.le_trans (Nat.mul_le_mul hlen hby) (by decide)
  have h63 : l.length + ys.length ≤ maxLen := by simp only [maxLen]; omega
  rcases A with _ | ad
  · have hy : ys = [] := by
      rcases ys with _ | ⟨y, r⟩
      · rfl
      · obtain ⟨_, _, hA, _⟩ := hs.2.2.1 (by simp)
        cases hA
    subst hy
    refine ⟨v, w, ?_, by simpa using h, World.grownBy.refl w _, .inl rfl⟩
    rcases h.1.2 with ⟨rfl, _⟩ | ⟨g, cap, cur, rfl, _, _, hnc, _⟩
    · simp [Builtin.append_, run_underlying ht, sizeOf, typeInfo, hi, Builtin.lenOf, Builtin.firstCells]
    · simp [Builtin.append_, run_underlying ht, sizeOf, typeInfo, hi, Builtin.lenOf, Builtin.firstCells, hnc, storeCells]
  · have hcells : ∀ j u, (ys.flatMap Enc.cells)[j]? = some u → w.cell? (ad.add j) = some u := by
      intro j u hu
      have hn : 0 < ys.length := by
        rcases ys with _ | ⟨y, r⟩
        · simp at hu
        · simp
      obtain ⟨b, o, hA, _, hc⟩ := hs.2.2.1 hn
      injection hA with hA
      subst hA
      have := hc j u hu
      have hadd : (⟨b, o, none⟩ : Addr).add j = ⟨b, o + j, none⟩ := by unfold Addr.add; split <;> simp_all
      rw [hadd]; exact this
    obtain ⟨v', w', hrun, h2, h3, _, h5⟩ := run_append_own_at (P := P) w base t ty e i z (Enc.size α) bytes ht hi hz hz1 hz2 hzs hsz v l.length _ h.1 ad ys.length c _ (flat_len ys) hcells (flat_oneCell ys) h63 hbytes hbase
    refine ⟨v', w', hrun, ⟨by rw [List.length_append, List.flatMap_append]; exact h2, fun x hx => ?_⟩, h3, h5⟩
    rcases List.mem_append.1 hx with hx | hx
    · exact oth_grown h3 h5 (h.2 x hx)
    · exact oth_grown h3 h5 (hs.2.2.2 x hx)

theorem wpList_append_slice {ops : Array Oper} {rest : List Oper} {o : Oper} {a : Act} {Q : Exit → Act → World → Prop} (hgd : o.guard = none) (d : Option Nat) (s x : Operand) (t : TypeId)
    (ho : o.op = .call { callee := .builtin .append, args := #[s, x], argTypes := #[t, t] }) (hd : o.dst = d) (z : Value) (bytes : Nat) (ht : P.underlying t = some (.slice e)) (hinf : (P.info? e).map (fun i => (i.zero, i.size, i.bytes)) = some (some z, Enc.size α, bytes)) (hzs : z.cells.size = Enc.size α) (hsz : 0 < Enc.size α) (hby : bytes ≤ 1000)
    (hs : a.eval s = v) (h : Own w base e v l) (A : Option Addr) (n c : Nat) (ys : List α) (hx : a.eval x = .slice A n c) (hn : n = ys.length) (hsl : SlS w (Oth w v) A c ys) (hlen : l.length + ys.length ≤ 4294967296) (hbase : base ≤ w.heap.size)
    (hK : ∀ v' w', Own w' base e v' (l ++ ys) → w.grownBy w' v.ownBlock → (v'.ownBlock = v.ownBlock ∨ v'.ownBlock = some w.heap.size) → wpList P ops Q rest (a.put d v') w') : wpList P ops Q (o :: rest) a w := by
  subst hd hn
  obtain ⟨v', w', hrun, h2, h3, h4⟩ := run_append_slice (P := P) t o.type z bytes ht hinf hzs hsz hby h A c ys hsl hlen hbase
  refine wpList_plain hgd fun K hk => ?_
  unfold Oper.wp execOp
  simp only [ho, resolve, invoke, builtin, Sem.run_bind, Sem.run_pure, Result.andThen_ok, List.map_toArray, List.map_cons, List.map_nil, hs, hx, hrun]
  exact hk _ _ (hK v' w' h2 h3 h4)

/-- 'append(s, y)': y lies alone in a new block -/
theorem wpList_append_one {ops : Array Oper} {rest : List Oper} {o : Oper} {a : Act} {Q : Exit → Act → World → Prop} (hgd : o.guard = none) (d : Option Nat) (s x : Operand) (t : TypeId)
    (ho : o.op = .call { callee := .builtin .append, args := #[s, x], argTypes := #[t, t] }) (hd : o.dst = d) (z : Value) (bytes : Nat) (ht : P.underlying t = some (.slice e)) (hinf : (P.info? e).map (fun i => (i.zero, i.size, i.bytes)) = some (some z, Enc.size α, bytes)) (hzs : z.cells.size = Enc.size α) (hsz : 0 < Enc.size α) (hby : bytes ≤ 1000)
    (hs : a.eval s = v) (h : Own w base e v l) (g : Nat) (y : α) (hx : a.eval x = .slice (some ⟨g, 0, none⟩) 1 1) (cs : Array Value) (te : TypeId) (hg : w.heap[g]? = some (.cells cs te (0, 0))) (hcs : cs.toList = Enc.cells y) (hne : some g ≠ v.ownBlock) (hy : Enc.ok w (Oth w v) y)
    (hlen : l.length + 1 ≤ 4294967296) (hbase : base ≤ w.heap.size)
    (hK : ∀ v' w', Own w' base e v' (l ++ [y]) → w.grownBy w' v.ownBlock → (v'.ownBlock = v.ownBlock ∨ v'.ownBlock = some w.heap.size) → wpList P ops Q rest (a.put d v') w') : wpList P ops Q (o :: rest) a w := by
  refine wpList_append_slice hgd d s x t ho hd z bytes ht hinf hzs hsz hby hs h (some ⟨g, 0, none⟩) 1 1 [y] hx rfl ⟨Nat.le_refl _, by simp [maxLen], fun _ => ⟨g, 0, rfl, ⟨(Array.getElem?_eq_some_iff.1 hg).1, hne⟩, fun j u hu => ?_⟩, fun x hx => ?_⟩ hlen hbase hK
  · rw [cell_of_row w g (0 + j) cs te (0, 0) hg, Nat.zero_add]
    simp only [List.flatMap_cons, List.flatMap_nil, List.append_nil, ← hcs] at hu
    simpa using hu
  · simp only [List.mem_singleton] at hx
    subst hx; exact hy
/-- what lies below the base of a row of the call's own lies in other blocks than the row -/
theorem Own.oth {B : Nat} (h : Own w base e v l) (hB : B ≤ base) (hw : B ≤ w.heap.size) : ∀ b, b < B → Oth w v b := by
  intro b hb
  refine ⟨by omega, fun hv => ?_⟩
  have := (h.1.lt b hv.symm).1
  omega
/-- a slice literal -/
theorem own_lit {w : World} {base : Nat} (e : TypeId) (cs : Array Value) (l : List α) (hb : base ≤ w.heap.size) (hcs : cs.toList = l.flatMap Enc.cells) (hm : l.length ≤ 65536) (hok : ∀ x ∈ l, Okb w w.heap.size x) : Own (w.alloc (.cells cs e)) base e (.slice (some ⟨w.heap.size, 0, none⟩) l.length l.length) l := by
  refine ⟨⟨flat_len l, .inr ⟨w.heap.size, l.length, cs, rfl, hb, heap_alloc_new w _, Nat.le_refl _, by simp only [maxLen]; omega, by rw [← Array.length_toList, hcs, flat_len], by rw [hcs, ← flat_len, List.take_length]⟩⟩, fun x hx => Enc.keep (hok x hx) (fun p hp => World.cell?_alloc_lt w _ p hp) (fun b hb => ⟨Nat.lt_of_lt_of_le hb (by simp), fun h => ?_⟩)⟩
  simp only [Value.ownBlock, Option.some.injEq] at h
  omega
theorem Own.new_ne (h : Own w base e v l) {g : Nat} (hg : w.heap.size ≤ g) : some g ≠ v.ownBlock := by
  intro hv
  have := (h.1.lt g hv.symm).2
  omega
theorem Own.below {w' : World} {B : Nat} (h : Own w base e v l) (hg : w.grownBy w' v.ownBlock) (hB : B ≤ base) (hw : B ≤ w.heap.size) : Below B w w' :=
  below_of_grown hg hw (fun g hv => Nat.le_trans hB (h.1.lt g hv).1)
end
end Go.Proofs.YthmgchohbdlonaaGreat
