/- Texts of this claim, laid together: Rng, ChA, AppendG, RAhead. -/
import Derived.Test.YtmljlkjomjflpaaGreatBb2
import Derived.Maps.RangeRun
import Derived.Maps.RangeWalk
import Derived.Test.YtmljlkjomjflpaaGreatRows
import Derived.Test.YtmljlkjomjflpaaGreatBb4
import Derived.WalkKit
import Derived.WalkSpells
import Derived.WalkLawsBesides
import Derived.Deep.QuietTactic
import Derived.BigQuiet
import Derived.Laws.StructEq
import Derived.Deep.DeepFit
import Derived.StillTailTactics

/- Frames of many blocks; a range over a map. No program. -/
namespace Go.Proofs.YtmljlkjomjflpaaGreat
open Go.RowKit

/-- nothing of w has turned but blocks of S -/
structure Gr (w w' : World) (S : Nat → Prop) : Prop where
  os : w'.os = w.os
  tape : w'.tape = w.tape
  output : w'.output = w.output
  size : w.heap.size ≤ w'.heap.size
  block : ∀ k, k < w.heap.size → ¬ S k → w'.heap[k]? = w.heap[k]?
theorem Gr.of_grown {w w' : World} {row : Option Nat} (h : w.grownBy w' row) : Gr w w' (fun k => row = some k) := ⟨h.os, h.tape, h.output, h.size, fun k hk hn => h.block k hk (fun e => hn e.symm)⟩
theorem Gr.of_below {w w' : World} (h : Below w.heap.size w w') (S : Nat → Prop) : Gr w w' S := ⟨h.os, h.tape, h.output, h.size, fun k hk _ => h.block k hk⟩
theorem Gr.mono {w w' : World} {S S' : Nat → Prop} (h : Gr w w' S) (hS : ∀ k, k < w.heap.size → S k → S' k) : Gr w w' S' := ⟨h.os, h.tape, h.output, h.size, fun k hk hn => h.block k hk (fun e => hn (hS k hk e))⟩
theorem Gr.refl (w : World) (S : Nat → Prop) : Gr w w S := ⟨rfl, rfl, rfl, Nat.le_refl _, fun _ _ _ => rfl⟩
theorem Gr.trans {w w' w'' : World} {S S' : Nat → Prop} (h : Gr w w' S) (k : Gr w' w'' S') (hS : ∀ b, S' b → S b ∨ w.heap.size ≤ b) : Gr w w'' S :=
  ⟨k.os.trans h.os, k.tape.trans h.tape, k.output.trans h.output, Nat.le_trans h.size k.size, fun n hn hx => (k.block n (Nat.lt_of_lt_of_le hn h.size) (fun e => (hS n e).elim hx (fun e => by omega))).trans (h.block n hn hx)⟩
/-- a frame that touches no block below B -/
theorem Gr.below {w w' : World} {S : Nat → Prop} (h : Gr w w' S) {B : Nat} (hB : B ≤ w.heap.size) (hS : ∀ b, S b → B ≤ b) : Below B w w' :=
  ⟨h.os, h.tape, h.output, h.size, fun k hk => h.block k (by omega) (fun e => by have := hS k e; omega)⟩
theorem Gr.grown {w w' : World} {S : Nat → Prop} (h : Gr w w' S) {b : Nat} (hS : ∀ k, S k → k = b) : w.grownBy w' (some b) := ⟨h.os, h.tape, h.output, h.size, fun k hk hn => h.block k hk (fun e => hn (by rw [hS k e]))⟩
theorem SlS.grs {α : Type} [Enc α] {w w' : World} {S T : Nat → Prop} {A : Option Addr} {c : Nat} {l : List α} (h : SlS w T A c l) (hg : Gr w w' S) (hT : ∀ b, T b → b < w.heap.size ∧ ¬ S b) : SlS w' T A c l :=
  h.keep (fun _ hp => World.cell?_of_block (hg.block _ (hT _ hp).1 (hT _ hp).2)) (fun _ h => h)

theorem leftOf_push {es : Array MapEntry} {seen : Array Nat} {e : MapEntry} (he : e ∈ (leftOf es seen).toList) (hn : es.toList.Pairwise (fun x y => x.born < y.born)) : (leftOf es seen).toList.Perm (e :: (leftOf es (seen.push e.born)).toList) := by
  unfold leftOf at *
  simp only [Array.toList_filter, contains_push] at *
  generalize es.toList = l at *
  induction l with
  | nil => simp at he
  | cons a r ih =>
    obtain ⟨h1, h2⟩ := List.pairwise_cons.1 hn
    by_cases ha : seen.contains a.born = true
    · rw [List.filter_cons_of_neg (by rw [ha]; decide)] at he ⊢
      rw [List.filter_cons_of_neg (by rw [ha]; simp)]
      exact ih h2 he
    · have ha : seen.contains a.born = false := by simpa using ha
      rw [List.filter_cons_of_pos (by rw [ha]; rfl)] at he ⊢
      rcases List.mem_cons.1 he with rfl | he
      · rw [List.filter_cons_of_neg (by simp)]
        refine List.Perm.cons _ (List.Perm.of_eq ?_)
        refine List.filter_congr fun x hx => ?_
        have := h1 x hx
        rw [show (x.born == e.born) = false from beq_eq_false_iff_ne.2 (by omega), Bool.or_false]
      · have hr : e ∈ r := (List.mem_filter.1 he).1
        have := h1 e hr
        rw [List.filter_cons_of_pos (by rw [ha, show (a.born == e.born) = false from beq_eq_false_iff_ne.2 (by omega)]; rfl)]
        exact (List.Perm.cons a (ih h2 he)).trans (List.Perm.swap _ _ _)
section
variable {κ : Type} [DecidableEq κ] {enc : κ → Value} {P : Program} {w : World} {b r : Nat} {M L : List (κ × Value)}
/-- a range over the map of block b under way, its iterator in block r: L is still to come -/
def RngIs (enc : κ → Value) (w : World) (b r : Nat) (M L : List (κ × Value)) : Prop :=
  ∃ es clock since seen c0, w.heap[b]? = some (.map es clock) ∧ (es.toList.map (fun e => (e.key, e.val)) = M.map (fun p => (enc p.1, p.2)) ∧ es.toList.Pairwise (fun x y => x.born < y.born) ∧ (∀ x ∈ es.toList, x.born < clock) ∧ M.Pairwise (fun p q => p.1 ≠ q.1)) ∧
    w.heap[r]? = some (.mapIter (some b) since seen c0) ∧ (∀ x ∈ es.toList, x.born < since) ∧ since ≤ c0 ∧ since ≤ clock ∧ (leftOf es seen).toList.map (fun e => (e.key, e.val)) = L.map (fun p => (enc p.1, p.2))
omit [DecidableEq κ] in
theorem RngIs.map (h : RngIs enc w b r M L) : MapIs enc w b M := by
  obtain ⟨es, clock, since, seen, c0, hb, h1, _⟩ := h
  exact ⟨es, clock, hb, h1⟩
omit [DecidableEq κ] in
theorem RngIs.lt (h : RngIs enc w b r M L) : b < w.heap.size ∧ r < w.heap.size := by
  obtain ⟨es, clock, since, seen, c0, hb, h1, hr, _⟩ := h
  exact ⟨(Array.getElem?_eq_some_iff.1 hb).1, (Array.getElem?_eq_some_iff.1 hr).1⟩
omit [DecidableEq κ] in
theorem RngIs.kept {w' : World} {row : Option Nat} (h : RngIs enc w b r M L) (hg : w.grownBy w' row) (h1 : some b ≠ row) (h2 : some r ≠ row) : RngIs enc w' b r M L := by
  have hl := h.lt
  obtain ⟨es, clock, since, seen, c0, hb, hh, hr, rest⟩ := h
  exact ⟨es, clock, since, seen, c0, (hg.block b hl.1 h1).trans hb, hh, (hg.block r hl.2 h2).trans hr, rest⟩
omit [DecidableEq κ] in
theorem RngIs.later {w' : World} (h : RngIs enc w b r M L) (hb : Below w.heap.size w w') : RngIs enc w' b r M L := h.kept (grown_of_below hb none) (by simp) (by simp)
omit [DecidableEq κ] in
theorem RngIs.ne (h : RngIs enc w b r M L) : r ≠ b := by
  obtain ⟨es, clock, since, seen, c0, hb, hh, hr, _⟩ := h
  intro e
  rw [e, hb] at hr
  cases hr
omit [DecidableEq κ] in
theorem RngIs.len (h : RngIs enc w b r M L) : w.rangeLeft b r = L.length := by
  obtain ⟨es, clock, since, seen, c0, hb, hh, hr, _, _, _, hL⟩ := h
  simp only [World.rangeLeft, hb, hr]
  have := congrArg List.length hL
  simpa using this
omit [DecidableEq κ] in
theorem rng_start {t e K : TypeId} (ht : P.underlying t = some (.map K e)) (h : MapIs enc w b M) :
    ∃ w', (Instr.range t (.map (some b))).run P w = .ok (.pointer (some ⟨w.heap.size, 0, none⟩)) w' ∧ RngIs enc w' b w.heap.size M M ∧ Below w.heap.size w w' ∧ w'.heap.size = w.heap.size + 1 := by
  have hlt := h.lt
  obtain ⟨es, clock, hb, h1, h2, h3, h4⟩ := h
  refine ⟨_, run_range_map w t K e b es clock ht hb, ⟨es, clock, clock, #[], clock, (heap_alloc_old w _ hlt).trans hb, ⟨h1, h2, h3, h4⟩, heap_alloc_new w _, h3, Nat.le_refl _, Nat.le_refl _, ?_⟩, (Below.refl _ _).alloc (Nat.le_refl _) _, by simp⟩
  rw [show leftOf es #[] = es by unfold leftOf; simp]
  exact h1
omit [DecidableEq κ] in
theorem rng_next (h : RngIs enc w b r M L) (ty : TypeId) :
    (L = [] ∧ (Instr.next (.pointer (some ⟨r, 0, none⟩)) false ty).run P w = .ok (.tuple #[.bool false]) w) ∨
    ∃ (p : κ × Value) (L' : List (κ × Value)) (w' : World), L.Perm (p :: L') ∧ (Instr.next (.pointer (some ⟨r, 0, none⟩)) false ty).run P w = .ok (.tuple #[.bool true, enc p.1, p.2]) w' ∧ RngIs enc w' b r M L' ∧ w.grownBy w' (some r) ∧ w'.heap.size = w.heap.size ∧
      (Instr.entry (.pointer (some ⟨r, 0, none⟩))).run P w' = .ok (.tuple #[enc p.1, p.2]) w' := by
  have hne := h.ne
  obtain ⟨es, clock, since, seen, c0, hb, ⟨hh, hpw, hcl, hnd⟩, hr, hold, hsc, hsk, hL⟩ := h
  rcases run_next_at (P := P) w ty r b since c0 seen es clock hr hb hold hsc with ⟨h0, hrun⟩ | ⟨e, he, w1, hal, hrun⟩
  · refine Or.inl ⟨?_, hrun⟩
    have := congrArg List.length hL
    simp only [List.length_map, Array.length_toList, h0] at this
    exact List.length_eq_zero_iff.1 this.symm
  · obtain ⟨hem, hes⟩ := mem_left he
    have hp := leftOf_push he hpw
    have hp2 := (hp.map (fun e => (e.key, e.val)))
    rw [hL, List.map_cons] at hp2
    have hmem : (e.key, e.val) ∈ L.map (fun p => (enc p.1, p.2)) := hp2.mem_iff.2 (by simp)
    obtain ⟨p, hpL, hpe⟩ := List.mem_map.1 hmem
    injection hpe with hk hv
    obtain ⟨L1, L2, rfl⟩ := List.append_of_mem hpL
    have hperm : (L1 ++ p :: L2).Perm (p :: (L1 ++ L2)) := List.perm_middle
    have hp3 : ((L1 ++ L2).map (fun p => (enc p.1, p.2))).Perm ((leftOf es (seen.push e.born)).toList.map (fun e => (e.key, e.val))) := by
      have h1 := (hperm.map (fun p => (enc p.1, p.2))).symm.trans hp2
      rw [List.map_cons, hk, hv] at h1
      exact (List.perm_cons _).1 h1
    obtain ⟨L', hL', hL'2⟩ : ∃ L', (L1 ++ L2).Perm L' ∧ L'.map (fun p => (enc p.1, p.2)) = (leftOf es (seen.push e.born)).toList.map (fun e => (e.key, e.val)) := by
      clear hL hp2 hmem hpL hp hrun
      generalize (leftOf es (seen.push e.born)).toList.map (fun e => (e.key, e.val)) = R at hp3
      generalize L1 ++ L2 = X at hp3
      clear hperm
      induction R generalizing X with
      | nil =>
        have : X = [] := by simpa using hp3
        subst this
        exact ⟨[], List.Perm.refl _, rfl⟩
      | cons u R ih =>
        have : u ∈ X.map (fun p => (enc p.1, p.2)) := hp3.mem_iff.2 (by simp)
        obtain ⟨q, hq, hqe⟩ := List.mem_map.1 this
        obtain ⟨X1, X2, rfl⟩ := List.append_of_mem hq
        have h2 : (X1 ++ q :: X2).Perm (q :: (X1 ++ X2)) := List.perm_middle
        have h3 := (h2.map (fun p => (enc p.1, p.2))).symm.trans hp3
        rw [List.map_cons, hqe] at h3
        obtain ⟨L', e1, e2⟩ := ih _ ((List.perm_cons _).1 h3)
        exact ⟨q :: L', h2.trans (e1.cons q), by rw [List.map_cons, e2, hqe]⟩
    have hr1 : w1.heap[r]? = some (.mapIter (some b) since seen c0) := by rcases hal with rfl | rfl <;> exact hr
    have hb1 : w1.heap[b]? = some (.map es clock) := by rcases hal with rfl | rfl <;> exact hb
    have hset := MapKept.heap_set (o' := .mapIter (some b) since (seen.push e.born) clock) hr1
    have hb' : (ChangeMaps.setBlock w1 r (.mapIter (some b) since (seen.push e.born) clock)).heap[b]? = some (.map es clock) := (hset.2 b (fun e1 => hne e1.symm)).trans hb1
    have hn : (es.toList.map (·.born)).Nodup := List.pairwise_map.2 (hpw.imp fun h => Nat.ne_of_lt h)
    refine Or.inr ⟨p, L', _, hperm.trans (hL'.cons p), by rw [hk, hv]; exact hrun, ⟨es, clock, since, seen.push e.born, clock, hb', ⟨hh, hpw, hcl, hnd⟩, hset.1, hold, hsk, hsk, hL'2.symm⟩, ?_, ?_, by rw [hk, hv]; exact run_entry_at _ r b since seen es clock e hset.1 hb' hem hn⟩
    · rcases hal with rfl | rfl <;> exact ⟨rfl, rfl, rfl, by simp [ChangeMaps.setBlock], fun i _ hi => hset.2 i (fun e1 => hi (by rw [e1]))⟩
    · rcases hal with rfl | rfl <;> simp [ChangeMaps.setBlock]
variable {ops : Array Oper} {rest : List Oper} {o : Oper} {a : Act} {Q : Exit → Act → World → Prop}
omit [DecidableEq κ] in
theorem wpList_rng (hg : o.guard = none) (m : Operand) (t : TypeId) (hop : o.op = Op.range t m) {K e : TypeId} (ht : P.underlying t = some (.map K e)) (hm : a.eval m = .map (some b)) (h : MapIs enc w b M)
    (hK : ∀ w', RngIs enc w' b w.heap.size M M → Below w.heap.size w w' → w'.heap.size = w.heap.size + 1 → wpList P ops Q rest (a.put o.dst (.pointer (some ⟨w.heap.size, 0, none⟩))) w') :
    wpList P ops Q (o :: rest) a w := by
  refine wpList_plain hg fun K' hK' => ?_
  obtain ⟨w', hrun, r1, r2, r3⟩ := rng_start (P := P) (w := w) ht h
  unfold Oper.wp
  simp [execOp, hop, hm, hrun, Result.andThen]
  exact hK' _ _ (hK w' r1 r2 r3)
omit [DecidableEq κ] in
theorem wpList_rng_next (hg : o.guard = none) (it : Operand) (hop : o.op = Op.next it false) (hit : a.eval it = .pointer (some ⟨r, 0, none⟩)) (h : RngIs enc w b r M L)
    (hDone : L = [] → wpList P ops Q rest (a.put o.dst (.tuple #[.bool false])) w)
    (hMore : ∀ (p : κ × Value) (L' : List (κ × Value)) (w' : World), L.Perm (p :: L') → RngIs enc w' b r M L' → w.grownBy w' (some r) → w'.heap.size = w.heap.size → (Instr.entry (.pointer (some ⟨r, 0, none⟩))).run P w' = .ok (.tuple #[enc p.1, p.2]) w' →
      wpList P ops Q rest (a.put o.dst (.tuple #[.bool true, enc p.1, p.2])) w') :
    wpList P ops Q (o :: rest) a w := by
  refine wpList_plain hg fun K' hK' => ?_
  unfold Oper.wp
  rcases rng_next (P := P) h o.type with ⟨h0, hrun⟩ | ⟨p, L', w', hp, hrun, hrg, hgr, hsz, hen⟩
  · simp [execOp, hop, hit, hrun, Result.andThen]
    exact hK' _ _ (hDone h0)
  · simp [execOp, hop, hit, hrun, Result.andThen]
    exact hK' _ _ (hMore p L' w' hp hrg hgr hsz hen)
end
end Go.Proofs.YtmljlkjomjflpaaGreat

/- chart: accounts in order -/
namespace Go.Proofs.YtmljlkjomjflpaaGreat
open Go.RowKit
instance encAc : Enc Ac where
  size := 4
  cells a := [.string a.name, i64 a.hav, i64 a.set_, i64 a.lim]
  val := Ac.v
  ok _ _ a := a.name.size ≤ maxLen
  len _ := rfl
  one _ v hv := by simp only [List.mem_cons, List.not_mem_nil, or_false] at hv; rcases hv with rfl | rfl | rfl | rfl <;> rfl
  keep h _ _ := h
theorem Ac.ext_ {a b : Ac} (h1 : a.name = b.name) (h2 : a.hav = b.hav) (h3 : a.set_ = b.set_) (h4 : a.lim = b.lim) : a = b := by cases a; cases b; simp_all
instance : DecidableEq Ac := fun a b => if h : a.name = b.name ∧ a.hav = b.hav ∧ a.set_ = b.set_ ∧ a.lim = b.lim then isTrue (Ac.ext_ h.1 h.2.1 h.2.2.1 h.2.2.2) else isFalse (fun e => h (by rw [e]; exact ⟨rfl, rfl, rfl, rfl⟩))
def ltA (a b : Ac) : Bool := bless a.name b.name
theorem keyA : KeyOrd ltA Ac.name where
  strict := ⟨fun a => bless_strict.irr _, fun a b c => bless_strict.trans _ _ _, fun a b c => bless_strict.co _ _ _⟩
  ne a b h e := by unfold ltA at h; rw [e, bless_strict.irr] at h; cases h
  co a b h := by
    cases h1 : ltA a b with
    | true => exact .inl rfl
    | false =>
      cases h2 : ltA b a with
      | true => exact .inr rfl
      | false => exact absurd (bless_tri h1 h2) h
  eq a b h c := by unfold ltA; rw [h]; exact ⟨rfl, rfl⟩
/-- accounts as they are kept -/
def OkA (L : List Ac) : Prop := ∀ a ∈ L, InA a ∧ 0 ≤ a.set_ ∧ nameB a.name = true
/-- chart.Give, Aside, as they turn accounts in order -/
def turnL (D : Ac → Ac × Int) (L : List Ac) (k : ByteArray) (x : Int) : Int × List Ac := match getK Ac.name L k with
  | none => (6, L)
  | some a => if (D a).2 ≠ 0 then ((D a).2, L) else if 0 < x ∧ freeA a x = false then (9, L) else if (D a).1.set_ < 0 then (13, L) else (0, setK Ac.name L (D a).1)
def openL (L : List Ac) (k : ByteArray) (lim : Int) : Int × List Ac :=
  if nameB k = false ∨ lim < 0 then (1, L) else if (getK Ac.name L k).isSome = true then (7, L) else if L.length = 12 then (5, L) else (0, insB ltA ⟨k, 0, 0, lim⟩ L)
def getLR (L : List Ac) (k : ByteArray) : Ac × Int := match getK Ac.name L k with
  | some a => (a, 0)
  | none => (ac0, 6)
abbrev RkA (M : List (ByteArray × Ac)) (L : List Ac) : Prop := RK ltA Ac.name Prod.snd M L
theorem RkA.get_ {M : List (ByteArray × Ac)} {L : List Ac} (h : RkA M L) (k : ByteArray) : getM M k = getK Ac.name L k := by
  have := RK.get keyA h k
  simpa using this
theorem RkA.getC_ {M : List (ByteArray × Ac)} {L : List Ac} (h : RkA M L) (k : ByteArray) : getC M k = getLR L k := by
  unfold getC getLR
  rw [h.get_ k]
  cases getK Ac.name L k <;> rfl
theorem RkA.turn {M : List (ByteArray × Ac)} {L : List Ac} (h : RkA M L) (D : Ac → Ac × Int) (hD : ∀ a, (D a).1.name = a.name) (k : ByteArray) (x : Int) : (turnC D M k x).1 = (turnL D L k x).1 ∧ RkA (turnC D M k x).2 (turnL D L k x).2 := by
  unfold turnC turnL
  rw [h.get_ k]
  cases hg : getK Ac.name L k with
  | none => exact ⟨rfl, h⟩
  | some a =>
    have hk := (getK_mem hg).2
    dsimp only
    by_cases h1 : (D a).2 ≠ 0
    · rw [if_pos h1, if_pos h1]; exact ⟨rfl, h⟩
    · rw [if_neg h1, if_neg h1]
      by_cases h2 : 0 < x ∧ freeA a x = false
      · rw [if_pos h2, if_pos h2]; exact ⟨rfl, h⟩
      · rw [if_neg h2, if_neg h2]
        by_cases h3 : (D a).1.set_ < 0
        · rw [if_pos h3, if_pos h3]; exact ⟨rfl, h⟩
        · rw [if_neg h3, if_neg h3]
          exact ⟨rfl, RK.put keyA h (k := k) (v := (D a).1) (by rw [← hk]; exact hD a) (by rw [hg]; rfl)⟩
theorem RkA.open_ {M : List (ByteArray × Ac)} {L : List Ac} (h : RkA M L) (k : ByteArray) (lim : Int) : (openC M k lim).1 = (openL L k lim).1 ∧ RkA (openC M k lim).2 (openL L k lim).2 := by
  unfold openC openL
  rw [h.get_ k, RK.len h]
  by_cases h1 : nameB k = false ∨ lim < 0
  · rw [if_pos h1, if_pos h1]; exact ⟨rfl, h⟩
  · rw [if_neg h1, if_neg h1]
    cases hg : getK Ac.name L k with
    | some a => exact ⟨rfl, h⟩
    | none =>
      simp only [Option.isSome_none, Bool.false_eq_true, if_false]
      by_cases h3 : L.length = 12
      · rw [if_pos h3, if_pos h3]; exact ⟨rfl, h⟩
      · rw [if_neg h3, if_neg h3]
        exact ⟨rfl, RK.add keyA h (k := k) (v := ⟨k, 0, 0, lim⟩) rfl hg⟩
/-- block g holds a chart, whose map lies in block b: the accounts L, in order -/
def ChA (w : World) (g b : Nat) (L : List Ac) : Prop := ∃ M, ChIs w g b M ∧ RkA M L
theorem ChA.kept {w w' : World} {g b : Nat} {L : List Ac} {S : Nat → Prop} (h : ChA w g b L) (hk : Gr w w' S) (h1 : ¬ S g) (h2 : ¬ S b) : ChA w' g b L := by
  obtain ⟨M, h, hr⟩ := h
  exact ⟨M, ⟨h.ne, (hk.block g h.lt.1 h1).trans h.cell, by
    have hlt := h.map.lt
    obtain ⟨es, clock, hb, r⟩ := h.map
    exact ⟨es, clock, (hk.block b hlt h2).trans hb, r⟩⟩, hr⟩
theorem ChA.later {w w' : World} {g b : Nat} {L : List Ac} (h : ChA w g b L) (hb : Below w.heap.size w w') : ChA w' g b L := h.kept (Gr.of_below hb (fun _ => False)) id id
theorem ChA.lt {w : World} {g b : Nat} {L : List Ac} (h : ChA w g b L) : g < w.heap.size ∧ b < w.heap.size ∧ b ≠ g := by
  obtain ⟨M, h, _⟩ := h
  exact ⟨h.lt.1, h.lt.2, h.ne⟩
theorem ChA.srt {w : World} {g b : Nat} {L : List Ac} (h : ChA w g b L) : SrtL ltA L := by
  obtain ⟨M, _, h⟩ := h
  exact h.srt
theorem OkA.inM {M : List (ByteArray × Ac)} {L : List Ac} (h : OkA L) (hr : RkA M L) : ∀ y ∈ M, InA y.2 := fun y hy => (h y.2 (hr.perm.mem_iff.1 (List.mem_map.2 ⟨y, hy, rfl⟩))).1
theorem chnewA_c (w : World) : Calls Tryz.prog 51 #[] w fun e w' => e = .returned (.pointer (some ⟨w.heap.size + 1, 0, none⟩)) ∧ ChA w' (w.heap.size + 1) w.heap.size [] ∧ Below w.heap.size w w' :=
  (chnew_c w).mono fun _ _ ⟨h1, h2, h3⟩ => ⟨h1, ⟨[], h2, RK.nil⟩, h3⟩
theorem getA_c (g b : Nat) (L : List Ac) (k : ByteArray) (w : World) (h : ChA w g b L) :
    Calls Tryz.prog 50 #[.pointer (some ⟨g, 0, none⟩), .string k] w fun e w' => e = .returned (.tuple #[(getLR L k).1.v, i64 (getLR L k).2]) ∧ Below w.heap.size w w' := by
  obtain ⟨M, h, hr⟩ := h
  have := get_c g b M k w h
  rw [hr.getC_ k] at this
  exact this
theorem giveA_c (g b : Nat) (L : List Ac) (k : ByteArray) (x : Int) (w : World) (h : ChA w g b L) (hL : OkA L) (hx : R64 x) :
    Calls Tryz.prog 54 #[.pointer (some ⟨g, 0, none⟩), .string k, i64 x] w fun e w' => e = .returned (i64 (turnL (givD x) L k x).1) ∧ ChA w' g b (turnL (givD x) L k x).2 ∧ w.grownBy w' (some b) := by
  obtain ⟨M, h, hr⟩ := h
  obtain ⟨e1, e2⟩ := hr.turn (givD x) (fun _ => rfl) k x
  exact (give_c g b M k x w h (hL.inM hr) hx).mono fun _ _ ⟨h1, h2, h3⟩ => ⟨by rw [← e1]; exact h1, ⟨_, h2, e2⟩, h3⟩
theorem asideA_c (g b : Nat) (L : List Ac) (k : ByteArray) (x : Int) (w : World) (h : ChA w g b L) (hL : OkA L) (hx : R64 x) :
    Calls Tryz.prog 84 #[.pointer (some ⟨g, 0, none⟩), .string k, i64 x] w fun e w' => e = .returned (i64 (turnL (asiD x) L k x).1) ∧ ChA w' g b (turnL (asiD x) L k x).2 ∧ w.grownBy w' (some b) := by
  obtain ⟨M, h, hr⟩ := h
  obtain ⟨e1, e2⟩ := hr.turn (asiD x) (fun _ => rfl) k x
  exact (aside_c g b M k x w h (hL.inM hr) hx).mono fun _ _ ⟨h1, h2, h3⟩ => ⟨by rw [← e1]; exact h1, ⟨_, h2, e2⟩, h3⟩
theorem openA_c (g b : Nat) (L : List Ac) (k : ByteArray) (lim : Int) (w : World) (h : ChA w g b L) :
    Calls Tryz.prog 52 #[.pointer (some ⟨g, 0, none⟩), .string k, i64 lim] w fun e w' => e = .returned (i64 (openL L k lim).1) ∧ ChA w' g b (openL L k lim).2 ∧ w.grownBy w' (some b) := by
  obtain ⟨M, h, hr⟩ := h
  obtain ⟨e1, e2⟩ := hr.open_ k lim
  exact (open_c g b M k lim w h).mono fun _ _ ⟨h1, h2, h3⟩ => ⟨by rw [← e1]; exact h1, ⟨_, h2, e2⟩, h3⟩
theorem R64_0 : R64 0 := ⟨by decide, by decide⟩
theorem turnL_ok {D : Ac → Ac × Int} (hD : ∀ a, InA a → 0 ≤ a.set_ → (D a).1.name = a.name ∧ InA (D a).1) {L : List Ac} (h : OkA L) (k : ByteArray) (x : Int) : OkA (turnL D L k x).2 := by
  unfold turnL
  cases hg : getK Ac.name L k with
  | none => exact h
  | some a =>
    dsimp only
    by_cases h1 : (D a).2 ≠ 0
    · rw [if_pos h1]; exact h
    · rw [if_neg h1]
      by_cases h2 : 0 < x ∧ freeA a x = false
      · rw [if_pos h2]; exact h
      · rw [if_neg h2]
        by_cases h3 : (D a).1.set_ < 0
        · rw [if_pos h3]; exact h
        · rw [if_neg h3]
          have ha := h a (getK_mem hg).1
          intro y hy
          rcases setK_mem hy with rfl | hy
          · obtain ⟨e1, e2⟩ := hD a ha.1 ha.2.1
            exact ⟨e2, by omega, by rw [e1]; exact ha.2.2⟩
          · exact h y hy.1
theorem givD_ok (x : Int) : ∀ a, InA a → 0 ≤ a.set_ → (givD x a).1.name = a.name ∧ InA (givD x a).1 := fun _ h _ => ⟨rfl, sumR_R64 _, h.2⟩
theorem asiD_ok (x : Int) : ∀ a, InA a → 0 ≤ a.set_ → (asiD x a).1.name = a.name ∧ InA (asiD x a).1 := fun _ h _ => ⟨rfl, h.1, sumR_R64 _, h.2.2⟩
theorem openL_ok {L : List Ac} (h : OkA L) (k : ByteArray) {lim : Int} (hl : R64 lim) : OkA (openL L k lim).2 := by
  unfold openL
  by_cases h1 : nameB k = false ∨ lim < 0
  · rw [if_pos h1]; exact h
  · rw [if_neg h1]
    by_cases h2 : (getK Ac.name L k).isSome = true
    · rw [if_pos h2]; exact h
    · rw [if_neg h2]
      by_cases h3 : L.length = 12
      · rw [if_pos h3]; exact h
      · rw [if_neg h3]
        intro y hy
        rcases List.mem_cons.1 ((insB_perm _ L).mem_iff.1 hy) with rfl | hy
        · exact ⟨⟨R64_0, R64_0, by have : ¬ lim < 0 := fun e => h1 (.inr e); show 0 ≤ lim; omega, hl.2⟩, Int.le_refl _, by
            cases hn : nameB k with
            | true => rfl
            | false => exact absurd (.inl hn) h1⟩
        · exact h y hy
end Go.Proofs.YtmljlkjomjflpaaGreat

/- append of a slice behind a guard that is met -/
namespace Go.Proofs.YtmljlkjomjflpaaGreat
open Go.RowKit
section
variable {α : Type} [Enc α] {w : World} {base : Nat} {e : TypeId} {v : Value} {l : List α} {P : Program}
theorem wpList_append_guarded {ops : Array Oper} {rest : List Oper} {o : Oper} {a : Act} {Q : Exit → Act → World → Prop} (hgd : Region.wanted o (yielded ops a.tmps) = true) (d : Option Nat) (s x : Operand) (t : TypeId)
    (ho : o.op = .call { callee := .builtin .append, args := #[s, x], argTypes := #[t, t] }) (hd : o.dst = d) (z : Value) (bytes : Nat) (ht : P.underlying t = some (.slice e)) (hinf : (P.info? e).map (fun i => (i.zero, i.size, i.bytes)) = some (some z, Enc.size α, bytes)) (hzs : z.cells.size = Enc.size α) (hsz : 0 < Enc.size α) (hby : bytes ≤ 1000)
    (hs : a.eval s = v) (h : Own w base e v l) (A : Option Addr) (n c : Nat) (ys : List α) (hx : a.eval x = .slice A n c) (hn : n = ys.length) (hsl : SlS w (Oth w v) A c ys) (hlen : l.length + ys.length ≤ 4294967296) (hbase : base ≤ w.heap.size)
    (hK : ∀ v' w', Own w' base e v' (l ++ ys) → w.grownBy w' v.ownBlock → (v'.ownBlock = v.ownBlock ∨ v'.ownBlock = some w.heap.size) → wpList P ops Q rest (a.put d v') w') : wpList P ops Q (o :: rest) a w := by
  subst hd hn
  obtain ⟨v', w', hrun, h2, h3, h4⟩ := run_append_slice (P := P) t o.type z bytes ht hinf hzs hsz hby h A c ys hsl hlen hbase
  refine wpList_step fun K hk => ?_
  rw [if_pos hgd]
  unfold Oper.wp execOp
  simp only [ho, resolve, invoke, builtin, Sem.run_bind, Sem.run_pure, Result.andThen_ok, List.map_toArray, List.map_cons, List.map_nil, hs, hx, hrun]
  exact hk _ _ (hK v' w' h2 h3 h4)
/-- the same as one operation of a drawn region -/
theorem oper_append {o : Oper} {a : Act} {K : Act → World → Prop} {Q : Exit → Act → World → Prop} (s x : Operand) (t : TypeId)
    (ho : o.op = .call { callee := .builtin .append, args := #[s, x], argTypes := #[t, t] }) (z : Value) (bytes : Nat) (ht : P.underlying t = some (.slice e)) (hinf : (P.info? e).map (fun i => (i.zero, i.size, i.bytes)) = some (some z, Enc.size α, bytes)) (hzs : z.cells.size = Enc.size α) (hsz : 0 < Enc.size α) (hby : bytes ≤ 1000)
    (hs : a.eval s = v) (h : Own w base e v l) (A : Option Addr) (n c : Nat) (ys : List α) (hx : a.eval x = .slice A n c) (hn : n = ys.length) (hsl : SlS w (Oth w v) A c ys) (hlen : l.length + ys.length ≤ 4294967296) (hbase : base ≤ w.heap.size)
    (hK : ∀ v' w', Own w' base e v' (l ++ ys) → w.grownBy w' v.ownBlock → (v'.ownBlock = v.ownBlock ∨ v'.ownBlock = some w.heap.size) → K (a.put o.dst v') w') : Oper.wp P o a w K Q := by
  subst hn
  obtain ⟨v', w', hrun, h2, h3, h4⟩ := run_append_slice (P := P) t o.type z bytes ht hinf hzs hsz hby h A c ys hsl hlen hbase
  unfold Oper.wp execOp
  simp only [ho, resolve, invoke, builtin, Sem.run_bind, Sem.run_pure, Result.andThen_ok, List.map_toArray, List.map_cons, List.map_nil, hs, hx, hrun]
  exact hK v' w' h2 h3 h4
theorem oper_append_one {o : Oper} {a : Act} {K : Act → World → Prop} {Q : Exit → Act → World → Prop} (s x : Operand) (t : TypeId)
    (ho : o.op = .call { callee := .builtin .append, args := #[s, x], argTypes := #[t, t] }) (z : Value) (bytes : Nat) (ht : P.underlying t = some (.slice e)) (hinf : (P.info? e).map (fun i => (i.zero, i.size, i.bytes)) = some (some z, Enc.size α, bytes)) (hzs : z.cells.size = Enc.size α) (hsz : 0 < Enc.size α) (hby : bytes ≤ 1000)
    (hs : a.eval s = v) (h : Own w base e v l) (g : Nat) (y : α) (hx : a.eval x = .slice (some ⟨g, 0, none⟩) 1 1) (cs : Array Value) (te : TypeId) (hg : w.heap[g]? = some (.cells cs te (0, 0))) (hcs : cs.toList = Enc.cells y) (hne : some g ≠ v.ownBlock) (hy : Enc.ok w (Oth w v) y)
    (hlen : l.length + 1 ≤ 4294967296) (hbase : base ≤ w.heap.size)
    (hK : ∀ v' w', Own w' base e v' (l ++ [y]) → w.grownBy w' v.ownBlock → (v'.ownBlock = v.ownBlock ∨ v'.ownBlock = some w.heap.size) → K (a.put o.dst v') w') : Oper.wp P o a w K Q := by
  refine oper_append s x t ho z bytes ht hinf hzs hsz hby hs h (some ⟨g, 0, none⟩) 1 1 [y] hx rfl ⟨Nat.le_refl _, by simp [maxLen], fun _ => ⟨g, 0, rfl, ⟨(Array.getElem?_eq_some_iff.1 hg).1, hne⟩, fun j u hu => ?_⟩, fun x hx => ?_⟩ hlen hbase hK
  · rw [cell_of_row w g (0 + j) cs te (0, 0) hg, Nat.zero_add]
    simp only [List.flatMap_cons, List.flatMap_nil, List.append_nil, ← hcs] at hu
    simpa using hu
  · simp only [List.mem_singleton] at hx
    subst hx; exact hy
end
end Go.Proofs.YtmljlkjomjflpaaGreat

/- ref05.Ahead -/
namespace Go.Proofs.YtmljlkjomjflpaaGreat
open Go.RowKit
theorem bl_at : ∀ (x y : List UInt8) (k : Nat) (h1 : k < x.length) (h2 : k < y.length), (∀ j, j < k → x[j]? = y[j]?) → x[k] ≠ y[k] → Op.bytesLess x y = decide (x[k] < y[k])
  | [], _, _, h, _, _, _ => absurd h (by simp)
  | _ :: _, [], _, _, h, _, _ => absurd h (by simp)
  | u :: r, v :: s, 0, _, _, _, hne => by
    have hne2 : (u == v) = false := by simpa using hne
    simp [Op.bytesLess, hne2]
  | u :: r, v :: s, k + 1, h1, h2, hp, hne => by
    have h0 : u = v := by simpa using hp 0 (by omega)
    subst h0
    have hl : ¬ u < u := by rw [UInt8.lt_iff_toNat_lt]; omega
    have ih := bl_at r s k (by simpa using h1) (by simpa using h2) (fun j hj => by simpa using hp (j + 1) (by omega)) (by simpa using hne)
    simp only [Op.bytesLess, decide_eq_false hl, Bool.false_or, beq_self_eq_true, Bool.true_and, List.getElem_cons_succ]
    exact ih
theorem bl_end : ∀ (x y : List UInt8) (k : Nat), (∀ j, j < k → x[j]? = y[j]?) → k ≤ x.length → k ≤ y.length → (k = x.length ∨ k = y.length) → Op.bytesLess x y = decide (x.length < y.length)
  | [], [], _, _, _, _, _ => by simp [Op.bytesLess]
  | [], _ :: _, _, _, _, _, _ => by simp [Op.bytesLess]
  | _ :: _, [], _, _, _, _, _ => by simp [Op.bytesLess]
  | u :: r, v :: s, 0, _, _, _, h => by simp at h
  | u :: r, v :: s, k + 1, hp, h1, h2, h => by
    have h0 : u = v := by simpa using hp 0 (by omega)
    subst h0
    have hl : ¬ u < u := by rw [UInt8.lt_iff_toNat_lt]; omega
    have ih := bl_end r s k (fun j hj => by simpa using hp (j + 1) (by omega)) (by simpa using h1) (by simpa using h2) (by simpa using h)
    simp only [Op.bytesLess, decide_eq_false hl, Bool.false_or, beq_self_eq_true, Bool.true_and, ih, List.length_cons, Nat.add_lt_add_iff_right]
theorem toList_get (a : ByteArray) (k : Nat) (h : k < a.size) : a.toList[k]? = some a[k] := by
  rw [ByteArray.toList_eq]
  exact List.getElem?_eq_getElem (by simpa using h)
theorem toList_len (a : ByteArray) : a.toList.length = a.size := by rw [ByteArray.toList_eq]; simp
def samePre (a b : ByteArray) (k : Nat) : Prop := ∀ j (h1 : j < a.size) (h2 : j < b.size), j < k → a[j] = b[j]
theorem samePre.get {a b : ByteArray} {k : Nat} (h : samePre a b k) (h1 : k ≤ a.size) (h2 : k ≤ b.size) : ∀ j, j < k → a.toList[j]? = b.toList[j]? := fun j hj => by
  rw [toList_get a j (by omega), toList_get b j (by omega), h j (by omega) (by omega) hj]
theorem bless_at {a b : ByteArray} {k : Nat} (h : samePre a b k) (h1 : k < a.size) (h2 : k < b.size) (hne : a[k] ≠ b[k]) : bless a b = decide (a[k].toNat < b[k].toNat) := by
  have g1 : a.toList[k]'(by rw [toList_len]; exact h1) = a[k] := (List.getElem?_eq_some_iff.1 (toList_get a k h1)).2
  have g2 : b.toList[k]'(by rw [toList_len]; exact h2) = b[k] := (List.getElem?_eq_some_iff.1 (toList_get b k h2)).2
  unfold bless
  rw [bl_at a.toList b.toList k (by rw [toList_len]; exact h1) (by rw [toList_len]; exact h2) (h.get (by omega) (by omega)) (by rw [g1, g2]; exact hne), g1, g2]
  rw [decide_eq_decide, UInt8.lt_iff_toNat_lt]
theorem bless_end {a b : ByteArray} {k : Nat} (h : samePre a b k) (h1 : k ≤ a.size) (h2 : k ≤ b.size) (he : k = a.size ∨ k = b.size) : bless a b = decide (a.size < b.size) := by
  unfold bless
  rw [bl_end a.toList b.toList k (h.get h1 h2) (by rw [toList_len]; exact h1) (by rw [toList_len]; exact h2) (by rw [toList_len, toList_len]; exact he), toList_len, toList_len]

set_option maxRecDepth 100000 in
set_option maxHeartbeats 1000000 in
theorem rahead_c (a b : ByteArray) (ha : a.size ≤ maxLen) (hb : b.size ≤ maxLen) (w : World) :
    Calls Tryz.prog 90 #[.string a, .string b] w fun e w' => e = .returned (.bool (bless a b)) ∧ Below w.heap.size w w' := by
  have ha' : a.size ≤ 9223372036854775807 := Nat.le_trans ha (by decide)
  have hb' : b.size ≤ 9223372036854775807 := Nat.le_trans hb (by decide)
  clear ha hb
  go_enter Tryz.func90, Tryz.ntmps90
  go_wp2_with fail
  go_loopw [5] (fun i wr => ∃ k : Nat, i = i64 k ∧ k ≤ a.size ∧ k ≤ b.size ∧ samePre a b k ∧ Below w.heap.size w wr) (fun i _ => a.size - (intOf i).toNat)
  case atStart => exact ⟨0, rfl, by omega, by omega, fun j _ _ h => absurd h (by omega), Below.refl _ _⟩
  case round =>
    obtain ⟨k, rfl, hka, hkb, hpre, hB⟩ := hrel
    have Hpre := Lib.hid hpre
    clear hpre
    by_cases h1 : k < a.size
    · by_cases h2 : k < b.size
      · have i0 : (0 : Int) ≤ (k : Int) := by omega
        have i1 : (k : Int) < (a.size : Int) := by omega
        have i2 : (k : Int) < (b.size : Int) := by omega
        by_cases he : a[k] = b[k]
        · have g : ((a[k].toNat : Int) != (b[k].toNat : Int)) = false := by rw [he]; simp
          have He := Lib.hid he
          clear he
          go_wp2_with fail
          go_quiet (fail)
          go_wp2
          go_roundw
          case rel => exact ⟨k + 1, by go_num, by omega, by omega, fun j h1 h2 hj => by
              rcases Nat.lt_succ_iff_lt_or_eq.1 hj with hj | rfl
              · exact Hpre.out j h1 h2 hj
              · exact He.out, below_drewN hB _⟩
          case measure => simp [intOf]; omega
        · have g : ((a[k].toNat : Int) != (b[k].toNat : Int)) = true := by
            rw [bne_iff_ne]
            exact fun h => he (UInt8.toNat_inj.1 (by omega))
          have hres := bless_at Hpre.out h1 h2 he
          have Hres := Lib.hid hres
          clear he hres
          go_wp2_with fail
          go_quiet (fail)
          have hB2 := below_drewN hB nq
          generalize wr.drewN nq = wq at hB2 ⊢
          go_wp2_with fail
          go_quiet (fail)
          go_wp2
          go_ret
          exact ⟨by rw [Hres.out]; rfl, below_drewN hB2 _⟩
      · have hres := bless_end Hpre.out hka hkb (.inr (by omega))
        have Hres := Lib.hid hres
        clear hres
        go_wp2
        go_ret
        exact ⟨by rw [Hres.out]; rfl, hB⟩
    · have hres := bless_end Hpre.out hka hkb (.inl (by omega))
      have Hres := Lib.hid hres
      clear hres
      go_wp2
      go_ret
      exact ⟨by rw [Hres.out]; rfl, hB⟩
end Go.Proofs.YtmljlkjomjflpaaGreat
