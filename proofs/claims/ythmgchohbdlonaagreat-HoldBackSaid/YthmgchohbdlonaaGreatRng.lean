/- Frames of many blocks; a range over a map. No program. -/
import Derived.Test.YthmgchohbdlonaaGreatMap
import Derived.Maps.RangeRun
import Derived.Maps.RangeWalk
namespace Go.Proofs.YthmgchohbdlonaaGreat
open Go.RowKit

/-- nothing of w has turned but blocks of S -/
structure Gr (w w' : World) (S : Nat → Prop) : Prop where
  os : w'.os = w.os
  tape : w'.tape = w.tape
  output : w'.output = w.output
  size : w.heap.size ≤ w'.heap.size
  block : ∀ k, k < w.heap.size → ¬ S k → w'.heap[k]? = w.heap[k]?
theorem Gr.of_grown {w w' : World} {row : Option Nat} (h : w.grownBy w' row) : Gr w w' (fun k => row = some k) := ⟨h.os, h.tape, h.output, h.size, fun k hk hn => h.block k hk (fun e => hn e.symm)⟩
theorem Gr.of_below {w w' : World} (h : Below w.heap.size w w') (S : Nat → Prop) : Gr w w' S := ⟨h.os, h.tape, h.output, h.size, fun k hk _ => h.block k hk⟩
theorem Gr.mono {w w' : World} {S S' : Nat → Prop} (h : Gr w w' S) (hS : ∀ k, k < w.heap.size → S k → S' k) : Gr w w' S' := ⟨h.os, h.tape, h.output, h.size, fun k hk hn => h.block k hk (fun e => hn (hS k hk e))⟩
theorem Gr.refl (w : World) (S : Nat → Prop) : Gr w w S := ⟨rfl, rfl, rfl, Nat.le_refl _, fun _ _ _ => rfl⟩
theorem Gr.trans {w w' w'' : World} {S S' : Nat → Prop} (h : Gr w w' S) (k : Gr w' w'' S') (hS : ∀ b, S' b → S b ∨ w.heap.size ≤ b) : Gr w w'' S :=
  ⟨k.os.trans h.os, k.tape.trans h.tape, k.output.trans h.output, Nat.le_trans h.size k.size, fun n hn hx => (k.block n (Nat.lt_of_lt_of_le hn h.size) (fun e => (hS n e).elim hx (fun e => by omega))).trans (h.block n hn hx)⟩
/-- a frame that touches no block below B -/
theorem Gr.below {w w' : World} {S : Nat → Prop} (h : Gr w w' S) {B : Nat} (hB : B ≤ w.heap.size) (hS : ∀ b, S b → B ≤ b) : Below B w w' :=
  ⟨h.os, h.tape, h.output, h.size, fun k hk => h.block k (by omega) (fun e => by have := hS k e; omega)⟩
theorem Gr.grown {w w' : World} {S : Nat → Prop} (h : Gr w w' S) {b : Nat} (hS : ∀ k, S k → k = b) : w.grownBy w' (some b) := ⟨h.os, h.tape, h.output, h.size, fun k hk hn => h.block k hk (fun e => hn (by rw [hS k e]))⟩
theorem SlS.grs {α : Type} [Enc α] {w w' : World} {S T : Nat → Prop} {A : Option Addr} {c : Nat} {l : List α} (h : SlS w T A c l) (hg : Gr w w' S) (hT : ∀ b, T b → b < w.heap.size ∧ ¬ S b) : SlS w' T A c l :=
  h.keep (fun _ hp => World.cell?_of_block (hg.block _ (hT _ hp).1 (hT _ hp).2)) (fun _ h => h)

theorem leftOf_push {es : Array MapEntry} {seen : Array Nat} {e : MapEntry} (he : e ∈ (leftOf es seen).toList) (hn : es.toList.Pairwise (fun x y => x.born < y.born)) : (leftOf es seen).toList.Perm (e :: (leftOf es (seen.push e.born)).toList) := by
  unfold leftOf at *
  simp only [Array.toList_filter, contains_push] at *
  generalize es.toList = l at *
  induction l with
  | nil => simp at he
  | cons a r ih =>
    obtain ⟨h1, h2⟩ := List.pairwise_cons.1 hn
    by_cases ha : seen.contains a.born = true
    · rw [List.filter_cons_of_neg (by rw [ha]; decide)] at he ⊢
      rw [List.filter_cons_of_neg (by rw [ha]; simp)]
      exact ih h2 he
    · have ha : seen.contains a.born = false := by simpa using ha
      rw [List.filter_cons_of_pos (by rw [ha]; rfl)] at he ⊢
      rcases List.mem_cons.1 he with rfl | he
      · rw [List.filter_cons_of_neg (by simp)]
        refine List.Perm.cons _ (List.Perm.of_eq ?_)
        refine List.filter_congr fun x hx => ?_
        have := h1 x hx
        rw [show (x.born == e.born) = false from beq_eq_false_iff_ne.2 (by omega), Bool.or_false]
      · have hr : e ∈ r := (List.mem_filter.1 he).1
        have := h1 e hr
        rw [List.filter_cons_of_pos (by rw [ha, show (a.born == e.born) = false from beq_eq_false_iff_ne.2 (by omega)]; rfl)]
        exact (List.Perm.cons a (ih h2 he)).trans (List.Perm.swap _ _ _)
section
variable {κ : Type} [DecidableEq κ] {enc : κ → Value} {P : Program} {w : World} {b r : Nat} {M L : List (κ × Value)}
/-- a range over the map of block b under way, its iterator in block r: L is still to come -/
def RngIs (enc : κ → Value) (w : World) (b r : Nat) (M L : List (κ × Value)) : Prop :=
  ∃ es clock since seen c0, w.heap[b]? = some (.map es clock) ∧ (es.toList.map (fun e => (e.key, e.val)) = M.map (fun p => (enc p.1, p.2)) ∧ es.toList.Pairwise (fun x y => x.born < y.born) ∧ (∀ x ∈ es.toList, x.born < clock) ∧ M.Pairwise (fun p q => p.1 ≠ q.1)) ∧
    w.heap[r]? = some (.mapIter (some b) since seen c0) ∧ (∀ x ∈ es.toList, x.born < since) ∧ since ≤ c0 ∧ since ≤ clock ∧ (leftOf es seen).toList.map (fun e => (e.key, e.val)) = L.map (fun p => (enc p.1, p.2))
omit [DecidableEq κ] in
theorem RngIs.map (h : RngIs enc w b r M L) : MapIs enc w b M := by
  obtain ⟨es, clock, since, seen, c0, hb, h1, _⟩ := h
  exact ⟨es, clock, hb, h1⟩
omit [DecidableEq κ] in
theorem RngIs.lt (h : RngIs enc w b r M L) : b < w.heap.size ∧ r < w.heap.size := by
  obtain ⟨es, clock, since, seen, c0, hb, h1, hr, _⟩ := h
  exact ⟨(Array.getElem?_eq_some_iff.1 hb).1, (Array.getElem?_eq_some_iff.1 hr).1⟩
omit [DecidableEq κ] in
theorem RngIs.kept {w' : World} {row : Option Nat} (h : RngIs enc w b r M L) (hg : w.grownBy w' row) (h1 : some b ≠ row) (h2 : some r ≠ row) : RngIs enc w' b r M L := by
  have hl := h.lt
  obtain ⟨es, clock, since, seen, c0, hb, hh, hr, rest⟩ := h
  exact ⟨es, clock, since, seen, c0, (hg.block b hl.1 h1).trans hb, hh, (hg.block r hl.2 h2).trans hr, rest⟩
omit [DecidableEq κ] in
theorem RngIs.later {w' : World} (h : RngIs enc w b r M L) (hb : Below w.heap.size w w') : RngIs enc w' b r M L := h.kept (grown_of_below hb none) (by simp) (by simp)
omit [DecidableEq κ] in
theorem RngIs.ne (h : RngIs enc w b r M L) : r ≠ b := by
  obtain ⟨es, clock, since, seen, c0, hb, hh, hr, _⟩ := h
  intro e
  rw [e, hb] at hr
  cases hr
omit [DecidableEq κ] in
theorem RngIs.len (h : RngIs enc w b r M L) : w.rangeLeft b r = L.length := by
  obtain ⟨es, clock, since, seen, c0, hb, hh, hr, _, _, _, hL⟩ := h
  simp only [World.rangeLeft, hb, hr]
  have := congrArg List.length hL
  simpa using this
omit [DecidableEq κ] in
theorem rng_start {t e K : TypeId} (ht : P.underlying t = some (.map K e)) (h : MapIs enc w b M) :
    ∃ w', (Instr.range t (.map (some b))).run P w = .ok (.pointer (some ⟨w.heap.size, 0, none⟩)) w' ∧ RngIs enc w' b w.heap.size M M ∧ Below w.heap.size w w' ∧ w'.heap.size = w.heap.size + 1 := by
  have hlt := h.lt
  obtain ⟨es, clock, hb, h1, h2, h3, h4⟩ := h
  refine ⟨_, run_range_map w t K e b es clock ht hb, ⟨es, clock, clock, #[], clock, (heap_alloc_old w _ hlt).trans hb, ⟨h1, h2, h3, h4⟩, heap_alloc_new w _, h3, Nat.le_refl _, Nat.le_refl _, ?_⟩, (Below.refl _ _).alloc (Nat.le_refl _) _, by simp⟩
  rw [show leftOf es #[] = es by unfold leftOf; simp]
  exact h1
omit [DecidableEq κ] in
theorem rng_next (h : RngIs enc w b r M L) (ty : TypeId) :
    (L = [] ∧ (Instr.next (.pointer (some ⟨r, 0, none⟩)) false ty).run P w = .ok (.tuple #[.bool false]) w) ∨
    ∃ (p : κ × Value) (L' : List (κ × Value)) (w' : World), L.Perm (p :: L') ∧ (Instr.next (.pointer (some ⟨r, 0, none⟩)) false ty).run P w = .ok (.tuple #[.bool true, enc p.1, p.2]) w' ∧ RngIs enc w' b r M L' ∧ w.grownBy w' (some r) ∧ w'.heap.size = w.heap.size ∧
      (Instr.entry (.pointer (some ⟨r, 0, none⟩))).run P w' = .ok (.tuple #[enc p.1, p.2]) w' := by
  have hne := h.ne
  obtain ⟨es, clock, since, seen, c0, hb, ⟨hh, hpw, hcl, hnd⟩, hr, hold, hsc, hsk, hL⟩ := h
  rcases run_next_at (P := P) w ty r b since c0 seen es clock hr hb hold hsc with ⟨h0, hrun⟩ | ⟨e, he, w1, hal, hrun⟩
  · refine Or.inl ⟨?_, hrun⟩
    have := congrArg List.length hL
    simp only [List.length_map, Array.length_toList, h0] at this
    exact List.length_eq_zero_iff.1 this.symm
  · obtain ⟨hem, hes⟩ := mem_left he
    have hp := leftOf_push he hpw
    have hp2 := (hp.map (fun e => (e.key, e.val)))
    rw [hL, List.map_cons] at hp2
    have hmem : (e.key, e.val) ∈ L.map (fun p => (enc p.1, p.2)) := hp2.mem_iff.2 (by simp)
    obtain ⟨p, hpL, hpe⟩ := List.mem_map.1 hmem
    injection hpe with hk hv
    obtain ⟨L1, L2, rfl⟩ := List.append_of_mem hpL
    have hperm : (L1 ++ p :: L2).Perm (p :: (L1 ++ L2)) := List.perm_middle
    have hp3 : ((L1 ++ L2).map (fun p => (enc p.1, p.2))).Perm ((leftOf es (seen.push e.born)).toList.map (fun e => (e.key, e.val))) := by
      have h1 := (hperm.map (fun p => (enc p.1, p.2))).symm.trans hp2
      rw [List.map_cons, hk, hv] at h1
      exact (List.perm_cons _).1 h1
    obtain ⟨L', hL', hL'2⟩ : ∃ L', (L1 ++ L2).Perm L' ∧ L'.map (fun p => (enc p.1, p.2)) = (leftOf es (seen.push e.born)).toList.map (fun e => (e.key, e.val)) := by
      clear hL hp2 hmem hpL hp hrun
      generalize (leftOf es (seen.push e.born)).toList.map (fun e => (e.key, e.val)) = R at hp3
      generalize L1 ++ L2 = X at hp3
      clear hperm
      induction R generalizing X with
      | nil =>
        have : X = [] := by simpa using hp3
        subst this
        exact ⟨[], List.Perm.refl _, rfl⟩
      | cons u R ih =>
        have : u ∈ X.map (fun p => (enc p.1, p.2)) := hp3.mem_iff.2 (by simp)
        obtain ⟨q, hq, hqe⟩ := List.mem_map.1 this
        obtain ⟨X1, X2, rfl⟩ := List.append_of_mem hq
        have h2 : (X1 ++ q :: X2).Perm (q :: (X1 ++ X2)) := List.perm_middle
        have h3 := (h2.map (fun p => (enc p.1, p.2))).symm.trans hp3
        rw [List.map_cons, hqe] at h3
        obtain ⟨L', e1, e2⟩ := ih _ ((List.perm_cons _).1 h3)
        exact ⟨q :: L', h2.trans (e1.cons q), by rw [List.map_cons, e2, hqe]⟩
    have hr1 : w1.heap[r]? = some (.mapIter (some b) since seen c0) := by rcases hal with rfl | rfl <;> exact hr
    have hb1 : w1.heap[b]? = some (.map es clock) := by rcases hal with rfl | rfl <;> exact hb
    have hset := MapKept.heap_set (o' := .mapIter (some b) since (seen.push e.born) clock) hr1
    have hb' : (ChangeMaps.setBlock w1 r (.mapIter (some b) since (seen.push e.born) clock)).heap[b]? = some (.map es clock) := (hset.2 b (fun e1 => hne e1.symm)).trans hb1
    have hn : (es.toList.map (·.born)).Nodup := List.pairwise_map.2 (hpw.imp fun h => Nat.ne_of_lt h)
    refine Or.inr ⟨p, L', _, hperm.trans (hL'.cons p), by rw [hk, hv]; exact hrun, ⟨es, clock, since, seen.push e.born, clock, hb', ⟨hh, hpw, hcl, hnd⟩, hset.1, hold, hsk, hsk, hL'2.symm⟩, ?_, ?_, by rw [hk, hv]; exact run_entry_at _ r b since seen es clock e hset.1 hb' hem hn⟩
    · rcases hal with rfl | rfl <;> exact ⟨rfl, rfl, rfl, by simp [ChangeMaps.setBlock], fun i _ hi => hset.2 i (fun e1 => hi (by rw [e1]))⟩
    · rcases hal with rfl | rfl <;> simp [ChangeMaps.setBlock]
variable {ops : Array Oper} {rest : List Oper} {o : Oper} {a : Act} {Q : Exit → Act → World → Prop}
omit [DecidableEq κ] in
theorem wpList_rng (hg : o.guard = none) (m : Operand) (t : TypeId) (hop : o.op = Op.range t m) {K e : TypeId} (ht : P.underlying t = some (.map K e)) (hm : a.eval m = .map (some b)) (h : MapIs enc w b M)
    (hK : ∀ w', RngIs enc w' b w.heap.size M M → Below w.heap.size w w' → w'.heap.size = w.heap.size + 1 → wpList P ops Q rest (a.put o.dst (.pointer (some ⟨w.heap.size, 0, none⟩))) w') :
    wpList P ops Q (o :: rest) a w := by
  refine wpList_plain hg fun K' hK' => ?_
  obtain ⟨w', hrun, r1, r2, r3⟩ := rng_start (P := P) (w := w) ht h
  unfold Oper.wp
  simp [execOp, hop, hm, hrun, Result.andThen]
  exact hK' _ _ (hK w' r1 r2 r3)
omit [DecidableEq κ] in
theorem wpList_rng_next (hg : o.guard = none) (it : Operand) (hop : o.op = Op.next it false) (hit : a.eval it = .pointer (some ⟨r, 0, none⟩)) (h : RngIs enc w b r M L)
    (hDone : L = [] → wpList P ops Q rest (a.put o.dst (.tuple #[.bool false])) w)
    (hMore : ∀ (p : κ × Value) (L' : List (κ × Value)) (w' : World), L.Perm (p :: L') → RngIs enc w' b r M L' → w.grownBy w' (some r) → w'.heap.size = w.heap.size → (Instr.entry (.pointer (some ⟨r, 0, none⟩))).run P w' = .ok (.tuple #[enc p.1, p.2]) w' →
      wpList P ops Q rest (a.put o.dst (.tuple #[.bool true, enc p.1, p.2])) w') :
    wpList P ops Q (o :: rest) a w := by
  refine wpList_plain hg fun K' hK' => ?_
  unfold Oper.wp
  rcases rng_next (P := P) h o.type with ⟨h0, hrun⟩ | ⟨p, L', w', hp, hrun, hrg, hgr, hsz, hen⟩
  · simp [execOp, hop, hit, hrun, Result.andThen]
    exact hK' _ _ (hDone h0)
  · simp [execOp, hop, hit, hrun, Result.andThen]
    exact hK' _ _ (hMore p L' w' hp hrg hgr hsz hen)
end
end Go.Proofs.YthmgchohbdlonaaGreat
