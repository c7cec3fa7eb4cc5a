/- Maps: a block that is a map of given keys and values; look-up, store, delete, len. No program. -/
import Derived.Test.YthmgchohbdlonaaGreatRow
import Derived.ChangeMaps4
namespace Go.Proofs.YthmgchohbdlonaaGreat
open Go.RowKit

/-- Go's keys of one type, as data: how the model compares them -/
structure KeyFit (P : Program) (K : TypeId) {κ : Type} [DecidableEq κ] (enc : κ → Value) : Prop where
  check : ∀ (empty : Bool) (k : κ) (w : World), (Instr.checkKey empty 10000 K (enc k)).run P w = .ok () w
  find : ∀ (k : κ) (es : List MapEntry) (M : List (κ × Value)) (w : World), es.map (fun e => (e.key, e.val)) = M.map (fun p => (enc p.1, p.2)) →
    (Instr.findKey K (enc k) es).run P w = .ok ((M.findIdx? fun p => decide (p.1 = k)).map fun i => (i, ((M[i]?).map (·.2)).getD undef)) w
  bits : ∀ k, Instr.sameBits 10000 (enc k) (enc k) = true

/-- block b of w is a map of these keys and values (in the order in which the keys came) -/
def MapIs {κ : Type} (enc : κ → Value) (w : World) (b : Nat) (M : List (κ × Value)) : Prop :=
  ∃ es clock, w.heap[b]? = some (.map es clock) ∧ es.toList.map (fun e => (e.key, e.val)) = M.map (fun p => (enc p.1, p.2)) ∧ es.toList.Pairwise (fun x y => x.born < y.born) ∧ (∀ x ∈ es.toList, x.born < clock) ∧ M.Pairwise (fun p q => p.1 ≠ q.1)

section
variable {κ : Type} [DecidableEq κ] {enc : κ → Value}
def getM {ν : Type} (M : List (κ × ν)) (k : κ) : Option ν := (M.find? fun p => decide (p.1 = k)).map (·.2)
def putM {ν : Type} (M : List (κ × ν)) (k : κ) (v : ν) : List (κ × ν) := if M.any (fun p => decide (p.1 = k)) then M.map (fun p => if p.1 = k then (k, v) else p) else M ++ [(k, v)]
def delM {ν : Type} (M : List (κ × ν)) (k : κ) : List (κ × ν) := M.filter fun p => !decide (p.1 = k)

theorem getM_put {ν : Type} (M : List (κ × ν)) (k k' : κ) (v : ν) : getM (putM M k v) k' = if k = k' then some v else getM M k' := by
  unfold getM putM
  by_cases h : M.any (fun p => decide (p.1 = k)) = true
  · rw [if_pos h]
    by_cases hk : k = k'
    · subst hk
      rw [if_pos rfl]
      induction M with
      | nil => simp at h
      | cons q r ih =>
        by_cases hq : q.1 = k
        · simp [hq]
        · simp only [List.map_cons, hq, if_false]
          rw [List.find?_cons_of_neg (by simpa using hq)]
          refine ih ?_
          simpa [hq] using h
    · rw [if_neg hk]
      clear h
      induction M with
      | nil => rfl
      | cons q r ih =>
        by_cases hq : q.1 = k
        · simp only [List.map_cons, hq, if_true]
          rw [List.find?_cons_of_neg (by simpa using hk), List.find?_cons_of_neg (by simpa [hq] using hk)]
          exact ih
        · simp only [List.map_cons, hq, if_false]
          by_cases hq' : q.1 = k'
          · rw [List.find?_cons_of_pos (by simpa using hq'), List.find?_cons_of_pos (by simpa using hq')]
          · rw [List.find?_cons_of_neg (by simpa using hq'), List.find?_cons_of_neg (by simpa using hq')]
            exact ih
  · rw [if_neg h, List.find?_append]
    have hno : M.find? (fun p => decide (p.1 = k)) = none := by
      rw [List.find?_eq_none]
      intro p hp hpk
      exact h (List.any_eq_true.2 ⟨p, hp, hpk⟩)
    by_cases hk : k = k'
    · subst hk
      rw [hno]
      simp
    · simp [hk]
theorem getM_del {ν : Type} (M : List (κ × ν)) (k k' : κ) : getM (delM M k) k' = if k = k' then none else getM M k' := by
  unfold getM delM
  rw [List.find?_filter]
  by_cases hk : k = k'
  · subst hk
    rw [if_pos rfl, Option.map_eq_none_iff, List.find?_eq_none]
    intro p _ h
    simp at h
  · rw [if_neg hk]
    congr 2
    funext p
    by_cases hp : p.1 = k'
    · have hk' : ¬ k' = k := fun e => hk e.symm
      simp [hp, hk']
    · simp [hp]
theorem putM_nodup {ν : Type} {M : List (κ × ν)} (h : M.Pairwise (fun p q => p.1 ≠ q.1)) (k : κ) (v : ν) : (putM M k v).Pairwise (fun p q => p.1 ≠ q.1) := by
  unfold putM
  split
  · refine List.pairwise_map.2 (h.imp fun {p q} hpq => ?_)
    split <;> split <;> simp_all
  · rename_i hno
    refine List.pairwise_append.2 ⟨h, List.pairwise_singleton _ _, fun p hp q hq => ?_⟩
    simp only [List.mem_singleton] at hq
    subst hq
    intro e
    exact hno (List.any_eq_true.2 ⟨p, hp, by simpa using e⟩)
variable {P : Program} {K : TypeId} {w : World} {b : Nat} {M : List (κ × Value)}
omit [DecidableEq κ] in
theorem MapIs.made (w : World) : MapIs enc (w.alloc (.map #[] 0)) w.heap.size ([] : List (κ × Value)) :=
  ⟨#[], 0, heap_alloc_new w _, rfl, by simp, by simp, by simp⟩
omit [DecidableEq κ] in
theorem MapIs.lt (h : MapIs enc w b M) : b < w.heap.size := by
  obtain ⟨es, clock, hb, _⟩ := h
  exact (Array.getElem?_eq_some_iff.1 hb).1
omit [DecidableEq κ] in
theorem MapIs.kept {w' : World} {row : Option Nat} (h : MapIs enc w b M) (hg : w.grownBy w' row) (hne : some b ≠ row) : MapIs enc w' b M := by
  have hlt := h.lt
  obtain ⟨es, clock, hb, r⟩ := h
  exact ⟨es, clock, (hg.block b hlt hne).trans hb, r⟩
omit [DecidableEq κ] in
theorem MapIs.later {w' : World} (h : MapIs enc w b M) (hb : Below w.heap.size w w') : MapIs enc w' b M := h.kept (grown_of_below hb none) (by simp)
omit [DecidableEq κ] in
theorem MapIs.nodup (h : MapIs enc w b M) : M.Pairwise (fun p q => p.1 ≠ q.1) := by
  obtain ⟨_, _, _, _, _, _, h⟩ := h
  exact h
theorem findIdx_getM (M : List (κ × Value)) (k : κ) : ((M.findIdx? fun p => decide (p.1 = k)).map fun i => ((M[i]?).map (·.2)).getD undef) = getM M k := by
  unfold getM
  rw [List.find?_eq_bind_findIdx?_getElem?]
  cases h : M.findIdx? fun p => decide (p.1 = k) with
  | none => rfl
  | some i =>
    have hi := (List.findIdx?_eq_some_iff_getElem.1 h).1
    simp [List.getElem?_eq_getElem hi]
theorem run_getMap {es : Array MapEntry} {clock : Nat} (hb : w.heap[b]? = some (.map es clock)) : (getObj b).run P w = .ok (.map es clock) w := by
  simp [getObj, Sem.run, hb]
theorem run_setMap {es es' : Array MapEntry} {clock clock' : Nat} (hb : w.heap[b]? = some (.map es clock)) : (setObj b (.map es' clock')).run P w = .ok () { w with heap := w.heap.setIfInBounds b (.map es' clock') } := by
  simp [setObj, Sem.run, hb]
theorem grown_setMap {es es' : Array MapEntry} {clock clock' : Nat} (_hb : w.heap[b]? = some (.map es clock)) : w.grownBy { w with heap := w.heap.setIfInBounds b (.map es' clock') } (some b) :=
  ⟨rfl, rfl, rfl, by simp, fun k _ hne => by
    simp only [Array.getElem?_setIfInBounds]
    rw [if_neg (fun e => hne (by rw [e]))]⟩
theorem heap_setMap {es es' : Array MapEntry} {clock clock' : Nat} (hb : w.heap[b]? = some (.map es clock)) : ({ w with heap := w.heap.setIfInBounds b (.map es' clock') } : World).heap[b]? = some (.map es' clock') := by
  have hlt := (Array.getElem?_eq_some_iff.1 hb).1
  simp [hlt]
/-- 'm[k]', 'v, ok := m[k]' -/
theorem run_lookup {t e : TypeId} (F : KeyFit P K enc) (ht : P.underlying t = some (.map K e)) (h : MapIs enc w b M) (k : κ) (z : Value) (hz : (zeroValue e).run P w = .ok z w) (c : Bool) :
    (Instr.lookup t (.map (some b)) (enc k) c).run P w = .ok (if c then .tuple #[(getM M k).getD z, .bool (getM M k).isSome] else (getM M k).getD z) w := by
  obtain ⟨es, clock, hb, hM, _, _, _⟩ := h
  have hf := F.find k es.toList M w hM
  have hg := run_getMap (P := P) hb
  rw [← findIdx_getM]
  cases hi : M.findIdx? fun p => decide (p.1 = k) with
  | none =>
    rw [hi] at hf
    cases c <;> simp [Instr.lookup, run_underlying ht, hg, F.check, hf, hz]
  | some i =>
    rw [hi] at hf
    cases c <;> simp [Instr.lookup, run_underlying ht, hg, F.check, hf]
omit [DecidableEq κ] in
theorem any_findIdx {p : κ × Value → Bool} : M.any p = (M.findIdx? p).isSome := by
  cases h : M.findIdx? p with
  | none =>
    rw [List.findIdx?_eq_none_iff] at h
    simpa using h
  | some i =>
    obtain ⟨h1, h2, _⟩ := List.findIdx?_eq_some_iff_getElem.1 h
    rw [List.any_eq_true.2 ⟨_, List.getElem_mem h1, h2⟩]
    rfl
theorem putM_at {k : κ} {v : Value} {i : Nat} (hnd : M.Pairwise (fun p q => p.1 ≠ q.1)) (h : M.findIdx? (fun p => decide (p.1 = k)) = some i) : putM M k v = M.set i (k, v) := by
  obtain ⟨h1, h2, h3⟩ := List.findIdx?_eq_some_iff_getElem.1 h
  unfold putM
  rw [if_pos (by rw [any_findIdx, h]; rfl)]
  apply List.ext_getElem
  · simp
  · intro j hj hj'
    simp only [List.length_map] at hj
    rw [List.getElem_map, List.getElem_set]
    by_cases hij : i = j
    · subst hij
      simp at h2
      simp [h2]
    · rw [if_neg hij, if_neg]
      intro e
      have h2' : M[i].1 = k := by simpa using h2
      rcases Nat.lt_or_gt_of_ne hij with hlt | hlt
      · exact List.pairwise_iff_getElem.1 hnd i j h1 hj hlt (by rw [h2', e])
      · exact List.pairwise_iff_getElem.1 hnd j i hj h1 hlt (by rw [h2', e])
theorem modify_born (es : Array MapEntry) (i : Nat) (key val : Value) : (es.modify i fun e => { e with key, val }).toList.map (·.born) = es.toList.map (·.born) := by
  apply List.ext_getElem
  · simp
  · intro j h1 h2
    simp only [List.getElem_map, Array.getElem_toList, Array.getElem_modify]
    split <;> rfl
theorem modify_map (es : Array MapEntry) (i : Nat) (key val : Value) : (es.modify i fun e => { e with key, val }).toList.map (fun e => (e.key, e.val)) = (es.toList.map (fun e => (e.key, e.val))).set i (key, val) := by
  apply List.ext_getElem
  · simp
  · intro j h1 h2
    simp only [List.getElem_map, Array.getElem_toList, Array.getElem_modify, List.getElem_set]
    split <;> rfl
/-- 'm[k] = v' -/
theorem run_put {t e : TypeId} (F : KeyFit P K enc) (ht : P.underlying t = some (.map K e)) (h : MapIs enc w b M) (k : κ) (v : Value) :
    ∃ w', (Instr.mapUpdate t (.map (some b)) (enc k) v).run P w = .ok () w' ∧ MapIs enc w' b (putM M k v) ∧ w.grownBy w' (some b) := by
  have hnd := h.nodup
  obtain ⟨es, clock, hb, hM, hbo, hcl, _⟩ := h
  have hf := F.find k es.toList M w hM
  have hg := run_getMap (P := P) hb
  have hlen : es.size = M.length := by
    have := congrArg List.length hM
    simpa using this
  cases hi : M.findIdx? fun p => decide (p.1 = k) with
  | none =>
    rw [hi] at hf
    refine ⟨_, by simp [Instr.mapUpdate, run_underlying ht, hg, F.check, hf, run_setMap hb]; rfl, ⟨_, _, heap_setMap hb, ?_, ?_, ?_, putM_nodup hnd k v⟩, grown_setMap hb⟩
    · unfold putM
      rw [if_neg (by rw [any_findIdx, hi]; simp)]
      simp [hM]
    · rw [Array.toList_push, List.pairwise_append]
      refine ⟨hbo, List.pairwise_singleton _ _, fun x hx y hy => ?_⟩
      simp only [List.mem_singleton] at hy
      subst hy
      exact hcl x hx
    · intro x hx
      rw [Array.toList_push, List.mem_append] at hx
      rcases hx with hx | hx
      · exact Nat.lt_succ_of_lt (hcl x hx)
      · simp only [List.mem_singleton] at hx; subst hx; exact Nat.lt_succ_self _
  | some i =>
    rw [hi] at hf
    obtain ⟨h1, h2, h3⟩ := List.findIdx?_eq_some_iff_getElem.1 hi
    have hie : i < es.size := by omega
    have hkey : es[i].key = enc k := by
      have h4 : (es.toList.map (fun e => (e.key, e.val)))[i]? = (M.map (fun p => (enc p.1, p.2)))[i]? := by rw [hM]
      simp [hie, h1] at h4
      rw [h4.1, show M[i].1 = k by simpa using h2]
    refine ⟨_, by simp [Instr.mapUpdate, run_underlying ht, hg, F.check, hf, hie, hkey, Instr.keyThatStays, F.bits, run_setMap hb]; rfl, ⟨_, _, heap_setMap hb, ?_, ?_, ?_, putM_nodup hnd k v⟩, grown_setMap hb⟩
    · rw [putM_at hnd hi, modify_map, hM, List.map_set]
    · rw [← List.pairwise_map (f := fun x : MapEntry => x.born), modify_born]
      exact List.pairwise_map.2 hbo
    · intro x hx
      have h5 : x.born ∈ (es.modify i fun e => { e with key := enc k, val := v }).toList.map (·.born) := List.mem_map.2 ⟨x, hx, rfl⟩
      rw [modify_born] at h5
      obtain ⟨y, hy, hyx⟩ := List.mem_map.1 h5
      rw [← hyx]
      exact hcl y hy
theorem delM_at {k : κ} {i : Nat} (hnd : M.Pairwise (fun p q => p.1 ≠ q.1)) (h : M.findIdx? (fun p => decide (p.1 = k)) = some i) : delM M k = M.eraseIdx i := by
  obtain ⟨h1, h2, h3⟩ := List.findIdx?_eq_some_iff_getElem.1 h
  have h2' : M[i].1 = k := by simpa using h2
  have e : M = M.take i ++ M[i] :: M.drop (i + 1) := by rw [← List.drop_eq_getElem_cons h1, List.take_append_drop]
  unfold delM
  rw [List.eraseIdx_eq_take_drop_succ]
  conv => lhs; rw [e]
  rw [List.filter_append, List.filter_cons_of_neg (by simp [h2']), List.filter_eq_self.2, List.filter_eq_self.2]
  · intro p hp
    rw [e] at hnd
    have h4 := (List.pairwise_cons.1 (List.pairwise_append.1 hnd).2.1).1 p hp
    simp only [Bool.not_eq_true', decide_eq_false_iff_not]
    exact fun e' => h4 (by rw [h2', e'])
  · intro p hp
    obtain ⟨j, hj, rfl⟩ := List.getElem_of_mem hp
    simp only [List.length_take] at hj
    rw [List.getElem_take]
    have := h3 j (by omega)
    simpa using this
theorem delM_none {k : κ} (h : M.findIdx? (fun p => decide (p.1 = k)) = none) : delM M k = M := by
  unfold delM
  refine List.filter_eq_self.2 fun p hp => ?_
  rw [List.findIdx?_eq_none_iff] at h
  simpa using h p hp
/-- 'delete(m, k)' -/
theorem run_del {t e : TypeId} (F : KeyFit P K enc) (ht : P.underlying t = some (.map K e)) (h : MapIs enc w b M) (k : κ) (ty kt : TypeId) :
    ∃ w', (Builtin.delete_ #[t, kt] ty #[.map (some b), enc k]).run P w = .ok (.tuple #[]) w' ∧ MapIs enc w' b (delM M k) ∧ w.grownBy w' (some b) := by
  have hnd := h.nodup
  obtain ⟨es, clock, hb, hM, hbo, hcl, _⟩ := h
  have hf := F.find k es.toList M w hM
  have hg := run_getMap (P := P) hb
  have hlen : es.size = M.length := by
    have := congrArg List.length hM
    simpa using this
  cases hi : M.findIdx? fun p => decide (p.1 = k) with
  | none =>
    rw [hi] at hf
    refine ⟨_, by simp [Builtin.delete_, run_underlying ht, hg, F.check, hf, run_setMap hb], ⟨_, _, heap_setMap hb, by rw [delM_none hi]; exact hM, hbo, hcl, by rw [delM_none hi]; exact hnd⟩, grown_setMap hb⟩
  | some i =>
    rw [hi] at hf
    obtain ⟨h1, h2, h3⟩ := List.findIdx?_eq_some_iff_getElem.1 hi
    have hie : i < es.size := by omega
    have htl : (es.eraseIdxIfInBounds i).toList = es.toList.eraseIdx i := by
      rw [Array.eraseIdxIfInBounds, dif_pos hie, Array.toList_eraseIdx]
    refine ⟨_, by simp [Builtin.delete_, run_underlying ht, hg, F.check, hf, run_setMap hb]; rfl, ⟨_, _, heap_setMap hb, ?_, ?_, ?_, ?_⟩, grown_setMap hb⟩
    · rw [delM_at hnd hi, htl, ChangeMaps.map_eraseIdx, ChangeMaps.map_eraseIdx, hM]
    · rw [htl]; exact hbo.sublist (List.eraseIdx_sublist _ _)
    · rw [htl]; exact fun x hx => hcl x (List.mem_of_mem_eraseIdx hx)
    · rw [delM_at hnd hi]; exact hnd.sublist (List.eraseIdx_sublist _ _)
omit [DecidableEq κ] in
/-- 'len(m)' -/
theorem run_lenM {t e : TypeId} (ht : P.underlying t = some (.map K e)) (h : MapIs enc w b M) (ty : TypeId) : (Builtin.len_ #[t] ty #[.map (some b)]).run P w = .ok (.int .i64 M.length) w := by
  obtain ⟨es, clock, hb, hM, _, _, _⟩ := h
  have hlen : es.size = M.length := by
    have := congrArg List.length hM
    simpa using this
  simp [Builtin.len_, run_underlying ht, run_getMap (P := P) hb, goInt, hlen]

variable {ops : Array Oper} {rest : List Oper} {o : Oper} {a : Act} {Q : Exit → Act → World → Prop}
theorem wpList_put (hgd : o.guard = none) (d : Option Nat) (m x y : Operand) (t : TypeId) (hop : o.op = Op.mapUpdate t m x y) (hd : o.dst = d) {e : TypeId} (F : KeyFit P K enc) (ht : P.underlying t = some (.map K e))
    (hm : a.eval m = .map (some b)) (h : MapIs enc w b M) (k : κ) (v : Value) (hx : a.eval x = enc k) (hy : a.eval y = v)
    (hK : ∀ w', MapIs enc w' b (putM M k v) → w.grownBy w' (some b) → wpList P ops Q rest (a.put d undef) w') : wpList P ops Q (o :: rest) a w := by
  subst hd
  obtain ⟨w', hrun, h1, h2⟩ := run_put F ht h k v
  refine wpList_plain hgd fun K' hK' => ?_
  unfold Oper.wp
  simp [execOp, hop, hm, hx, hy, hrun, Result.andThen]
  exact hK' _ _ (hK _ h1 h2)
theorem wpList_del (hgd : o.guard = none) (d : Option Nat) (m x : Operand) (t kt : TypeId) (hop : o.op = .call { callee := .builtin .delete, args := #[m, x], argTypes := #[t, kt] }) (hd : o.dst = d) {e : TypeId} (F : KeyFit P K enc) (ht : P.underlying t = some (.map K e))
    (hm : a.eval m = .map (some b)) (h : MapIs enc w b M) (k : κ) (hx : a.eval x = enc k)
    (hK : ∀ w', MapIs enc w' b (delM M k) → w.grownBy w' (some b) → wpList P ops Q rest (a.put d (.tuple #[])) w') : wpList P ops Q (o :: rest) a w := by
  subst hd
  obtain ⟨w', hrun, h1, h2⟩ := run_del F ht h k o.type kt
  refine wpList_plain hgd fun K' hK' => ?_
  unfold Oper.wp execOp
  simp only [hop, resolve, invoke, builtin, Sem.run_bind, Sem.run_pure, Result.andThen_ok, List.map_toArray, List.map_cons, List.map_nil, hm, hx, hrun]
  exact hK' _ _ (hK _ h1 h2)
end
end Go.Proofs.YthmgchohbdlonaaGreat
