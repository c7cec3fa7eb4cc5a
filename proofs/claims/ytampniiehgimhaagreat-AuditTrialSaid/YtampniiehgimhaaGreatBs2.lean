/- Texts of this claim, laid together. -/
import Derived.Test.YtampniiehgimhaaGreatBs1
import Derived.ChangeMaps4
import Derived.Test.YtampniiehgimhaaGreatRows
import Derived.WalkKit
import Derived.WalkSpells
import Derived.WalkLawsBesides
import Derived.Deep.QuietTactic
import Derived.BigQuiet
import Derived.Laws.StructEq
import Derived.Deep.DeepFit
import Derived.StillTailTactics
import Derived.Laws.ResultCell
import Derived.Deep.Cut
import Derived.Deep.RegionWith
import Derived.Shelf.Abstract
import Derived.Deep.RegionHeld3

/- Maps: a block that is a map of given keys and values; look-up, store, delete, len. No program. -/
namespace Go.Proofs.YtampniiehgimhaaGreat
open Go.RowKit
/-- Go's keys of one type, as data: how the model compares them -/
structure KeyFit (P : Program) (K : TypeId) {κ : Type} [DecidableEq κ] (enc : κ → Value) : Prop where
 check : ∀ (empty : Bool) (k : κ) (w : World), (Instr.checkKey empty 10000 K (enc k)).run P w = .ok () w
 find : ∀ (k : κ) (es : List MapEntry) (M : List (κ × Value)) (w : World), es.map (fun e => (e.key, e.val)) = M.map (fun p => (enc p.1, p.2)) →
  (Instr.findKey K (enc k) es).run P w = .ok ((M.findIdx? fun p => decide (p.1 = k)).map fun i => (i, ((M[i]?).map (·.2)).getD undef)) w
 bits : ∀ k, Instr.sameBits 10000 (enc k) (enc k) = true
/-- block b of w is a map of these keys and values (in the order in which the keys came) -/
def MapIs {κ : Type} (enc : κ → Value) (w : World) (b : Nat) (M : List (κ × Value)) : Prop :=
 ∃ es clock, w.heap[b]? = some (.map es clock) ∧ es.toList.map (fun e => (e.key, e.val)) = M.map (fun p => (enc p.1, p.2)) ∧ es.toList.Pairwise (fun x y => x.born < y.born) ∧ (∀ x ∈ es.toList, x.born < clock) ∧ M.Pairwise (fun p q => p.1 ≠ q.1)
section
variable {κ : Type} [DecidableEq κ] {enc : κ → Value}
def getM {ν : Type} (M : List (κ × ν)) (k : κ) : Option ν := (M.find? fun p => decide (p.1 = k)).map (·.2)
def putM {ν : Type} (M : List (κ × ν)) (k : κ) (v : ν) : List (κ × ν) := if M.any (fun p => decide (p.1 = k)) then M.map (fun p => if p.1 = k then (k, v) else p) else M ++ [(k, v)]
def delM {ν : Type} (M : List (κ × ν)) (k : κ) : List (κ × ν) := M.filter fun p => !decide (p.1 = k)
theorem getM_put {ν : Type} (M : List (κ × ν)) (k k' : κ) (v : ν) : getM (putM M k v) k' = if k = k' then some v else getM M k' := by
 unfold getM putM
 by_cases h : M.any (fun p => decide (p.1 = k)) = true
 ·rw [if_pos h]
  by_cases hk : k = k'
  ·subst hk
   rw [if_pos rfl]
   induction M with
   | nil => simp at h
   | cons q r ih =>
    by_cases hq : q.1 = k
    ·simp [hq]
    ·simp only [List.map_cons, hq, if_false]
     rw [List.find?_cons_of_neg (by simpa using hq)]
     refine ih ?_
     simpa [hq] using h
  ·rw [if_neg hk]
   clear h
   induction M with
   | nil => rfl
   | cons q r ih =>
    by_cases hq : q.1 = k
    ·simp only [List.map_cons, hq, if_true]
     rw [List.find?_cons_of_neg (by simpa using hk), List.find?_cons_of_neg (by simpa [hq] using hk)]
     exact ih
    ·simp only [List.map_cons, hq, if_false]
     by_cases hq' : q.1 = k'
     ·rw [List.find?_cons_of_pos (by simpa using hq'), List.find?_cons_of_pos (by simpa using hq')]
     ·rw [List.find?_cons_of_neg (by simpa using hq'), List.find?_cons_of_neg (by simpa using hq')]
      exact ih
 ·rw [if_neg h, List.find?_append]
  have hno : M.find? (fun p => decide (p.1 = k)) = none := by
   rw [List.find?_eq_none]
   intro p hp hpk
   exact h (List.any_eq_true.2 ⟨p, hp, hpk⟩)
  by_cases hk : k = k'
  ·subst hk
   rw [hno]
   simp
  ·simp [hk]
theorem putM_nodup {ν : Type} {M : List (κ × ν)} (h : M.Pairwise (fun p q => p.1 ≠ q.1)) (k : κ) (v : ν) : (putM M k v).Pairwise (fun p q => p.1 ≠ q.1) := by
 unfold putM
 split
 ·refine List.pairwise_map.2 (h.imp fun {p q} hpq => ?_)
  split <;> split <;> simp_all
 ·rename_i hno
  refine List.pairwise_append.2 ⟨h, List.pairwise_singleton _ _, fun p hp q hq => ?_⟩
  simp only [List.mem_singleton] at hq
  subst hq
  intro e
  exact hno (List.any_eq_true.2 ⟨p, hp, by simpa using e⟩)
variable {P : Program} {K : TypeId} {w : World} {b : Nat} {M : List (κ × Value)}
omit [DecidableEq κ] in
theorem MapIs.made (w : World) : MapIs enc (w.alloc (.map #[] 0)) w.heap.size ([] : List (κ × Value)) :=
 ⟨#[], 0, heap_alloc_new w _, rfl, by simp, by simp, by simp⟩
omit [DecidableEq κ] in
theorem MapIs.lt (h : MapIs enc w b M) : b < w.heap.size := by
 obtain ⟨es, clock, hb, _⟩ := h
 exact (Array.getElem?_eq_some_iff.1 hb).1
omit [DecidableEq κ] in
theorem MapIs.kept {w' : World} {row : Option Nat} (h : MapIs enc w b M) (hg : w.grownBy w' row) (hne : some b ≠ row) : MapIs enc w' b M := by
 have hlt := h.lt
 obtain ⟨es, clock, hb, r⟩ := h
 exact ⟨es, clock, (hg.block b hlt hne).trans hb, r⟩
omit [DecidableEq κ] in
theorem MapIs.later {w' : World} (h : MapIs enc w b M) (hb : Below w.heap.size w w') : MapIs enc w' b M := h.kept (grown_of_below hb none) (by simp)
omit [DecidableEq κ] in
theorem MapIs.nodup (h : MapIs enc w b M) : M.Pairwise (fun p q => p.1 ≠ q.1) := by
 obtain ⟨_, _, _, _, _, _, h⟩ := h
 exact h
theorem findIdx_getM (M : List (κ × Value)) (k : κ) : ((M.findIdx? fun p => decide (p.1 = k)).map fun i => ((M[i]?).map (·.2)).getD undef) = getM M k := by
 unfold getM
 rw [List.find?_eq_bind_findIdx?_getElem?]
 cases h : M.findIdx? fun p => decide (p.1 = k) with
 | none => rfl
 | some i =>
  have hi := (List.findIdx?_eq_some_iff_getElem.1 h).1
  simp [List.getElem?_eq_getElem hi]
theorem run_getMap {es : Array MapEntry} {clock : Nat} (hb : w.heap[b]? = some (.map es clock)) : (getObj b).run P w = .ok (.map es clock) w := by
 simp [getObj, Sem.run, hb]
theorem run_setMap {es es' : Array MapEntry} {clock clock' : Nat} (hb : w.heap[b]? = some (.map es clock)) : (setObj b (.map es' clock')).run P w = .ok () { w with heap := w.heap.setIfInBounds b (.map es' clock') } := by
 simp [setObj, Sem.run, hb]
theorem grown_setMap {es es' : Array MapEntry} {clock clock' : Nat} (_hb : w.heap[b]? = some (.map es clock)) : w.grownBy { w with heap := w.heap.setIfInBounds b (.map es' clock') } (some b) :=
 ⟨rfl, rfl, rfl, by simp, fun k _ hne => by
  simp only [Array.getElem?_setIfInBounds]
  rw [if_neg (fun e => hne (by rw [e]))]⟩
theorem heap_setMap {es es' : Array MapEntry} {clock clock' : Nat} (hb : w.heap[b]? = some (.map es clock)) : ({ w with heap := w.heap.setIfInBounds b (.map es' clock') } : World).heap[b]? = some (.map es' clock') := by
 have hlt := (Array.getElem?_eq_some_iff.1 hb).1
 simp [hlt]
/-- 'm[k]', 'v, ok := m[k]' -/
theorem run_lookup {t e : TypeId} (F : KeyFit P K enc) (ht : P.underlying t = some (.map K e)) (h : MapIs enc w b M) (k : κ) (z : Value) (hz : (zeroValue e).run P w = .ok z w) (c : Bool) :
  (Instr.lookup t (.map (some b)) (enc k) c).run P w = .ok (if c then .tuple #[(getM M k).getD z, .bool (getM M k).isSome] else (getM M k).getD z) w := by
 obtain ⟨es, clock, hb, hM, _, _, _⟩ := h
 have hf := F.find k es.toList M w hM
 have hg := run_getMap (P := P) hb
 rw [← findIdx_getM]
 cases hi : M.findIdx? fun p => decide (p.1 = k) with
 | none =>
  rw [hi] at hf
  cases c <;> simp [Instr.lookup, run_underlying ht, hg, F.check, hf, hz]
 | some i =>
  rw [hi] at hf
  cases c <;> simp [Instr.lookup, run_underlying ht, hg, F.check, hf]
omit [DecidableEq κ] in
theorem any_findIdx {p : κ × Value → Bool} : M.any p = (M.findIdx? p).isSome := by
 cases h : M.findIdx? p with
 | none =>
  rw [List.findIdx?_eq_none_iff] at h
  simpa using h
 | some i =>
  obtain ⟨h1, h2, _⟩ := List.findIdx?_eq_some_iff_getElem.1 h
  rw [List.any_eq_true.2 ⟨_, List.getElem_mem h1, h2⟩]
  rfl
theorem putM_at {k : κ} {v : Value} {i : Nat} (hnd : M.Pairwise (fun p q => p.1 ≠ q.1)) (h : M.findIdx? (fun p => decide (p.1 = k)) = some i) : putM M k v = M.set i (k, v) := by
 obtain ⟨h1, h2, h3⟩ := List.findIdx?_eq_some_iff_getElem.1 h
 unfold putM
 rw [if_pos (by rw [any_findIdx, h]; rfl)]
 apply List.ext_getElem
 ·simp
 ·intro j hj hj'
  simp only [List.length_map] at hj
  rw [List.getElem_map, List.getElem_set]
  by_cases hij : i = j
  ·subst hij
   simp at h2
   simp [h2]
  ·rw [if_neg hij, if_neg]
   intro e
   have h2' : M[i].1 = k := by simpa using h2
   rcases Nat.lt_or_gt_of_ne hij with hlt | hlt
   ·exact List.pairwise_iff_getElem.1 hnd i j h1 hj hlt (by rw [h2', e])
   ·exact List.pairwise_iff_getElem.1 hnd j i hj h1 hlt (by rw [h2', e])
theorem modify_born (es : Array MapEntry) (i : Nat) (key val : Value) : (es.modify i fun e => { e with key, val }).toList.map (·.born) = es.toList.map (·.born) := by
 apply List.ext_getElem
 ·simp
 ·intro j h1 h2
  simp only [List.getElem_map, Array.getElem_toList, Array.getElem_modify]
  split <;> rfl
theorem modify_map (es : Array MapEntry) (i : Nat) (key val : Value) : (es.modify i fun e => { e with key, val }).toList.map (fun e => (e.key, e.val)) = (es.toList.map (fun e => (e.key, e.val))).set i (key, val) := by
 apply List.ext_getElem
 ·simp
 ·intro j h1 h2
  simp only [List.getElem_map, Array.getElem_toList, Array.getElem_modify, List.getElem_set]
  split <;> rfl
/-- 'm[k] = v' -/
theorem run_put {t e : TypeId} (F : KeyFit P K enc) (ht : P.underlying t = some (.map K e)) (h : MapIs enc w b M) (k : κ) (v : Value) :
  ∃ w', (Instr.mapUpdate t (.map (some b)) (enc k) v).run P w = .ok () w' ∧ MapIs enc w' b (putM M k v) ∧ w.grownBy w' (some b) := by
 have hnd := h.nodup
 obtain ⟨es, clock, hb, hM, hbo, hcl, _⟩ := h
 have hf := F.find k es.toList M w hM
 have hg := run_getMap (P := P) hb
 have hlen : es.size = M.length := by
  have := congrArg List.length hM
  simpa using this
 cases hi : M.findIdx? fun p => decide (p.1 = k) with
 | none =>
  rw [hi] at hf
  refine ⟨_, by simp [Instr.mapUpdate, run_underlying ht, hg, F.check, hf, run_setMap hb]; rfl, ⟨_, _, heap_setMap hb, ?_, ?_, ?_, putM_nodup hnd k v⟩, grown_setMap hb⟩
  ·unfold putM
   rw [if_neg (by rw [any_findIdx, hi]; simp)]
   simp [hM]
  ·rw [Array.toList_push, List.pairwise_append]
   refine ⟨hbo, List.pairwise_singleton _ _, fun x hx y hy => ?_⟩
   simp only [List.mem_singleton] at hy
   subst hy
   exact hcl x hx
  ·intro x hx
   rw [Array.toList_push, List.mem_append] at hx
   rcases hx with hx | hx
   ·exact Nat.lt_succ_of_lt (hcl x hx)
   ·simp only [List.mem_singleton] at hx; subst hx; exact Nat.lt_succ_self _
 | some i =>
  rw [hi] at hf
  obtain ⟨h1, h2, h3⟩ := List.findIdx?_eq_some_iff_getElem.1 hi
  have hie : i < es.size := by omega
  have hkey : es[i].key = enc k := by
   have h4 : (es.toList.map (fun e => (e.key, e.val)))[i]? = (M.map (fun p => (enc p.1, p.2)))[i]? := by rw [hM]
   simp [hie, h1] at h4
   rw [h4.1, show M[i].1 = k by simpa using h2]
  refine ⟨_, by simp [Instr.mapUpdate, run_underlying ht, hg, F.check, hf, hie, hkey, Instr.keyThatStays, F.bits, run_setMap hb]; rfl, ⟨_, _, heap_setMap hb, ?_, ?_, ?_, putM_nodup hnd k v⟩, grown_setMap hb⟩
  ·rw [putM_at hnd hi, modify_map, hM, List.map_set]
  ·rw [← List.pairwise_map (f := fun x : MapEntry => x.born), modify_born]
   exact List.pairwise_map.2 hbo
  ·intro x hx
   have h5 : x.born ∈ (es.modify i fun e => { e with key := enc k, val := v }).toList.map (·.born) := List.mem_map.2 ⟨x, hx, rfl⟩
   rw [modify_born] at h5
   obtain ⟨y, hy, hyx⟩ := List.mem_map.1 h5
   rw [← hyx]
   exact hcl y hy
theorem delM_at {k : κ} {i : Nat} (hnd : M.Pairwise (fun p q => p.1 ≠ q.1)) (h : M.findIdx? (fun p => decide (p.1 = k)) = some i) : delM M k = M.eraseIdx i := by
 obtain ⟨h1, h2, h3⟩ := List.findIdx?_eq_some_iff_getElem.1 h
 have h2' : M[i].1 = k := by simpa using h2
 have e : M = M.take i ++ M[i] :: M.drop (i + 1) := by rw [← List.drop_eq_getElem_cons h1, List.take_append_drop]
 unfold delM
 rw [List.eraseIdx_eq_take_drop_succ]
 conv => lhs; rw [e]
 rw [List.filter_append, List.filter_cons_of_neg (by simp [h2']), List.filter_eq_self.2, List.filter_eq_self.2]
 ·intro p hp
  rw [e] at hnd
  have h4 := (List.pairwise_cons.1 (List.pairwise_append.1 hnd).2.1).1 p hp
  simp only [Bool.not_eq_true', decide_eq_false_iff_not]
  exact fun e' => h4 (by rw [h2', e'])
 ·intro p hp
  obtain ⟨j, hj, rfl⟩ := List.getElem_of_mem hp
  simp only [List.length_take] at hj
  rw [List.getElem_take]
  have := h3 j (by omega)
  simpa using this
theorem delM_none {k : κ} (h : M.findIdx? (fun p => decide (p.1 = k)) = none) : delM M k = M := by
 unfold delM
 refine List.filter_eq_self.2 fun p hp => ?_
 rw [List.findIdx?_eq_none_iff] at h
 simpa using h p hp
/-- 'delete(m, k)' -/
theorem run_del {t e : TypeId} (F : KeyFit P K enc) (ht : P.underlying t = some (.map K e)) (h : MapIs enc w b M) (k : κ) (ty kt : TypeId) :
  ∃ w', (Builtin.delete_ #[t, kt] ty #[.map (some b), enc k]).run P w = .ok (.tuple #[]) w' ∧ MapIs enc w' b (delM M k) ∧ w.grownBy w' (some b) := by
 have hnd := h.nodup
 obtain ⟨es, clock, hb, hM, hbo, hcl, _⟩ := h
 have hf := F.find k es.toList M w hM
 have hg := run_getMap (P := P) hb
 have hlen : es.size = M.length := by
  have := congrArg List.length hM
  simpa using this
 cases hi : M.findIdx? fun p => decide (p.1 = k) with
 | none =>
  rw [hi] at hf
  refine ⟨_, by simp [Builtin.delete_, run_underlying ht, hg, F.check, hf, run_setMap hb], ⟨_, _, heap_setMap hb, by rw [delM_none hi]; exact hM, hbo, hcl, by rw [delM_none hi]; exact hnd⟩, grown_setMap hb⟩
 | some i =>
  rw [hi] at hf
  obtain ⟨h1, h2, h3⟩ := List.findIdx?_eq_some_iff_getElem.1 hi
  have hie : i < es.size := by omega
  have htl : (es.eraseIdxIfInBounds i).toList = es.toList.eraseIdx i := by
   rw [Array.eraseIdxIfInBounds, dif_pos hie, Array.toList_eraseIdx]
  refine ⟨_, by simp [Builtin.delete_, run_underlying ht, hg, F.check, hf, run_setMap hb]; rfl, ⟨_, _, heap_setMap hb, ?_, ?_, ?_, ?_⟩, grown_setMap hb⟩
  ·rw [delM_at hnd hi, htl, ChangeMaps.map_eraseIdx, ChangeMaps.map_eraseIdx, hM]
  ·rw [htl]; exact hbo.sublist (List.eraseIdx_sublist _ _)
  ·rw [htl]; exact fun x hx => hcl x (List.mem_of_mem_eraseIdx hx)
  ·rw [delM_at hnd hi]; exact hnd.sublist (List.eraseIdx_sublist _ _)
omit [DecidableEq κ] in
/-- 'len(m)' -/
theorem run_lenM {t e : TypeId} (ht : P.underlying t = some (.map K e)) (h : MapIs enc w b M) (ty : TypeId) : (Builtin.len_ #[t] ty #[.map (some b)]).run P w = .ok (.int .i64 M.length) w := by
 obtain ⟨es, clock, hb, hM, _, _, _⟩ := h
 have hlen : es.size = M.length := by
  have := congrArg List.length hM
  simpa using this
 simp [Builtin.len_, run_underlying ht, run_getMap (P := P) hb, goInt, hlen]
variable {ops : Array Oper} {rest : List Oper} {o : Oper} {a : Act} {Q : Exit → Act → World → Prop}
theorem wpList_put (hgd : o.guard = none) (d : Option Nat) (m x y : Operand) (t : TypeId) (hop : o.op = Op.mapUpdate t m x y) (hd : o.dst = d) {e : TypeId} (F : KeyFit P K enc) (ht : P.underlying t = some (.map K e))
  (hm : a.eval m = .map (some b)) (h : MapIs enc w b M) (k : κ) (v : Value) (hx : a.eval x = enc k) (hy : a.eval y = v)
  (hK : ∀ w', MapIs enc w' b (putM M k v) → w.grownBy w' (some b) → wpList P ops Q rest (a.put d undef) w') : wpList P ops Q (o :: rest) a w := by
 subst hd
 obtain ⟨w', hrun, h1, h2⟩ := run_put F ht h k v
 refine wpList_plain hgd fun K' hK' => ?_
 unfold Oper.wp
 simp [execOp, hop, hm, hx, hy, hrun, Result.andThen]
 exact hK' _ _ (hK _ h1 h2)
end
end Go.Proofs.YtampniiehgimhaaGreat
/- Keys of maps: texts, integers, Ids -/
namespace Go.Proofs.YtampniiehgimhaaGreat
open Go.RowKit
section
variable {P : Program} {κ : Type} [DecidableEq κ] {enc : κ → Value}
theorem findNow_fit (d : TypeDesc) (hs : ∀ a b, Instr.sameNow d (enc a) (enc b) = some (decide (b = a))) (k : κ) : ∀ (es : List MapEntry) (M : List (κ × Value)) (i : Nat), es.map (fun e => (e.key, e.val)) = M.map (fun p => (enc p.1, p.2)) →
  Instr.findNow d (enc k) es i = some ((M.findIdx? fun p => decide (p.1 = k)).map fun j => (i + j, ((M[j]?).map (·.2)).getD undef))
 | [], [], i, _ => rfl
 | [], _ :: _, _, h => by simp at h
 | _ :: _, [], _, h => by simp at h
 | e :: es, p :: M, i, h => by
  simp only [List.map_cons, List.cons.injEq, Prod.mk.injEq] at h
  obtain ⟨⟨h1, h2⟩, h3⟩ := h
  rw [Instr.findNow, h1, hs, List.findIdx?_cons]
  by_cases hp : p.1 = k
  ·simp [hp, h2]
  ·have hd : decide (p.1 = k) = false := decide_eq_false hp
   rw [hd]
   simp only [Bool.false_eq_true, if_false]
   rw [findNow_fit d hs k es M (i + 1) h3]
   cases M.findIdx? fun p => decide (p.1 = k) with
   | none => rfl
   | some j => simp; omega
theorem findAsking_fit (K : TypeId) (heq : ∀ a b w, (Op.equal K (enc a) (enc b)).run P w = .ok (decide (a = b)) w) (k : κ) : ∀ (es : List MapEntry) (M : List (κ × Value)) (i : Nat) (w : World), es.map (fun e => (e.key, e.val)) = M.map (fun p => (enc p.1, p.2)) →
  (Instr.findAsking K (enc k) es i).run P w = .ok ((M.findIdx? fun p => decide (p.1 = k)).map fun j => (i + j, ((M[j]?).map (·.2)).getD undef)) w
 | [], [], i, w, _ => rfl
 | [], _ :: _, _, _, h => by simp at h
 | _ :: _, [], _, _, h => by simp at h
 | e :: es, p :: M, i, w, h => by
  simp only [List.map_cons, List.cons.injEq, Prod.mk.injEq] at h
  obtain ⟨⟨h1, h2⟩, h3⟩ := h
  rw [Instr.findAsking, h1, List.findIdx?_cons]
  by_cases hp : p.1 = k
  ·simp [heq, hp, h2]
  ·have hd : decide (p.1 = k) = false := decide_eq_false hp
   have hd' : decide (k = p.1) = false := decide_eq_false fun e => hp e.symm
   rw [hd]
   simp only [Sem.run_bind, heq, Result.andThen_ok, hd', Bool.false_eq_true, if_false]
   rw [findAsking_fit K heq k es M (i + 1) w h3]
   cases M.findIdx? fun p => decide (p.1 = k) with
   | none => rfl
   | some j => simp; omega
theorem fit_now {K : TypeId} {d : TypeDesc} (hd : P.underlying K = some d) (hs : ∀ a b, Instr.sameNow d (enc a) (enc b) = some (decide (b = a))) (hc : ∀ (empty : Bool) (k : κ) (w : World), (Instr.checkKey empty 10000 K (enc k)).run P w = .ok () w) (hb : ∀ k, Instr.sameBits 10000 (enc k) (enc k) = true) : KeyFit P K enc where
 check := hc
 bits := hb
 find k es M w h := by
  have := findNow_fit d hs k es M 0 h
  simp only [Nat.zero_add] at this
  simp [Instr.findKey, run_underlying hd, this]
theorem fit_asking {K : TypeId} {d : TypeDesc} (hd : P.underlying K = some d) (hs : ∀ a b, Instr.sameNow d (enc a) (enc b) = none) (heq : ∀ a b w, (Op.equal K (enc a) (enc b)).run P w = .ok (decide (a = b)) w) (hc : ∀ (empty : Bool) (k : κ) (w : World), (Instr.checkKey empty 10000 K (enc k)).run P w = .ok () w) (hb : ∀ k, Instr.sameBits 10000 (enc k) (enc k) = true) : KeyFit P K enc where
 check := hc
 bits := hb
 find k es M w h := by
  have h1 := findAsking_fit (P := P) K heq k es M 0 w h
  simp only [Nat.zero_add] at h1
  cases es with
  | nil =>
   cases M with
   | nil => simp [Instr.findKey, run_underlying hd, Instr.findNow]
   | cons p M => simp at h
  | cons e es =>
   cases M with
   | nil => simp at h
   | cons p M =>
    have h0 : e.key = enc p.1 := by
     simp only [List.map_cons, List.cons.injEq, Prod.mk.injEq] at h
     exact h.1.1
    have h2 : Instr.findNow d (enc k) (e :: es) 0 = none := by rw [Instr.findNow, h0, hs]
    simp only [Instr.findKey, Sem.run_bind, run_underlying hd, Result.andThen_ok, h2]
    exact h1
end
theorem check_str (empty : Bool) (n : Nat) (s : ByteArray) (w : World) : (Instr.checkKey empty (n + 1) 9 (.string s)).run Tryz.prog w = .ok () w := by
 simp [Instr.checkKey, run_underlying Tryz.underlying9]
theorem check_int (empty : Bool) (n : Nat) (k : Int) (w : World) : (Instr.checkKey empty (n + 1) 3 (i64 k)).run Tryz.prog w = .ok () w := by
 simp [Instr.checkKey, run_underlying Tryz.underlying3]
theorem beqS_self (s : ByteArray) : (s == s) = true := by rw [beq_toListBytes]; simp
theorem strKey : KeyFit Tryz.prog 9 Value.string :=
 fit_now Tryz.underlying9 (fun a b => by
   simp only [Instr.sameNow, Option.some.injEq]
   by_cases h : a = b
   ·subst h; rw [beqS_self]; simp
   ·rw [decide_eq_false (fun e => h e.symm)]
    have := beqS_of_ne h
    rw [beq_toListBytes]; exact this)
  (fun empty k w => check_str empty 9999 k w) (fun k => by simp only [Instr.sameBits]; exact beqS_self k)
theorem intKey : KeyFit Tryz.prog 3 i64 :=
 fit_now Tryz.underlying3 (fun a b => by
   simp only [Instr.sameNow, Option.some.injEq, if_true]
   by_cases h : a = b
   ·subst h; simp
   ·rw [decide_eq_false (fun e => h e.symm)]; simpa using h)
  (fun empty k w => check_int empty 9999 k w) (fun k => by simp [Instr.sameBits])
end Go.Proofs.YtampniiehgimhaaGreat
/- Small things -/
namespace Go.Proofs.YtampniiehgimhaaGreat
open Go.RowKit
theorem below_on {n : Nat} {a b c : World} (h : Below n a b) (hn : n ≤ a.heap.size) (k : Below b.heap.size b c) : Below n a c := h.trans (k.mono (Nat.le_trans hn h.size))
theorem Own.sl_of {α : Type} [Enc α] {w : World} {base : Nat} {e : TypeId} {A : Option Addr} {n c : Nat} {l : List α} (h : Own w base e (.slice A n c) l) : Sl w w.heap.size A c l := by
 obtain ⟨A', c', hv, hs⟩ := h.sl
 injection hv with h1 h2 h3
 subst h1 h3
 exact hs
theorem results_cell_row_tmp {P : Program} {fn : Func} {p u : Tmp} {ty : TypeId} (h : fn.results = #[.cell p ty, .tmp u]) (tmps : Array Value) (w : World) (g : Nat) (t : TypeId) (cs : Array Value) (fr : Nat × Nat) (d : TypeDesc)
  (hp : tmps.getD p undef = .pointer (some ⟨g, 0, none⟩)) (hg : w.heap[g]? = some (.cells cs t fr))
  (hu : P.underlying ty = some d) (hd : (match d with | .struct _ | .array _ _ => true | _ => false) = true) (hi : (P.info? ty).map (·.size) = some cs.size) :
  (results fn tmps).run P w = .ok (.tuple #[.agg cs, tmps.getD u undef]) w := by
 rw [results_cell_tmp h, hp]
 simp [asAddr, run_loadVar_row w g t ty cs fr d hg hu hd hi, Result.andThen]
end Go.Proofs.YtampniiehgimhaaGreat
/- chart: New, Get, free -/
namespace Go.Proofs.YtampniiehgimhaaGreat
open Go.RowKit
/-- api.Acct -/
structure Ac where
 name : ByteArray
 hav : Int
 set_ : Int
 lim : Int
abbrev Ac.v (a : Ac) : Value := .agg #[.string a.name, i64 a.hav, i64 a.set_, i64 a.lim]
/-- its numbers are of 64 bits -/
def InA (a : Ac) : Prop := R64 a.hav ∧ R64 a.set_ ∧ 0 ≤ a.lim ∧ a.lim ≤ 9223372036854775807
def mv (M : List (ByteArray × Ac)) : List (ByteArray × Value) := M.map fun p => (p.1, p.2.v)
theorem getM_mv (M : List (ByteArray × Ac)) (k : ByteArray) : getM (mv M) k = (getM M k).map Ac.v := by
 unfold getM mv
 induction M with
 | nil => rfl
 | cons p r ih =>
  rw [List.map_cons]
  by_cases h : p.1 = k
  ·rw [List.find?_cons_of_pos (by simpa using h), List.find?_cons_of_pos (by simpa using h)]
   rfl
  ·rw [List.find?_cons_of_neg (by simpa using h), List.find?_cons_of_neg (by simpa using h)]
   exact ih
theorem putM_mv (M : List (ByteArray × Ac)) (k : ByteArray) (a : Ac) : putM (mv M) k a.v = mv (putM M k a) := by
 unfold putM mv
 rw [List.any_map]
 by_cases h : (M.any fun p => decide (p.1 = k)) = true
 ·rw [if_pos h, if_pos (by simpa [Function.comp_def] using h), List.map_map, List.map_map]
  refine List.map_congr_left fun p _ => ?_
  simp only [Function.comp_def]
  split <;> rfl
 ·rw [if_neg h, if_neg (by simpa [Function.comp_def] using h), List.map_append]
  rfl
/-- block g holds a chart, whose map lies in block b -/
structure ChIs (w : World) (g b : Nat) (M : List (ByteArray × Ac)) : Prop where
 ne : b ≠ g
 cell : w.heap[g]? = some (.cells #[.map (some b)] 191 (0, 0))
 map : MapIs Value.string w b (mv M)
theorem ChIs.kept {w w' : World} {g b : Nat} {M : List (ByteArray × Ac)} {row : Option Nat} (h : ChIs w g b M) (hk : w.grownBy w' row) (h1 : some g ≠ row) (h2 : some b ≠ row) : ChIs w' g b M :=
 ⟨h.ne, (hk.block g (Array.getElem?_eq_some_iff.1 h.cell).1 h1).trans h.cell, h.map.kept hk h2⟩
theorem ChIs.later {w w' : World} {g b : Nat} {M : List (ByteArray × Ac)} (h : ChIs w g b M) (hb : Below w.heap.size w w') : ChIs w' g b M := h.kept (grown_of_below hb none) (by simp) (by simp)
theorem ChIs.lt {w : World} {g b : Nat} {M : List (ByteArray × Ac)} (h : ChIs w g b M) : g < w.heap.size ∧ b < w.heap.size := ⟨(Array.getElem?_eq_some_iff.1 h.cell).1, h.map.lt⟩
set_option maxRecDepth 100000 in
set_option maxHeartbeats 2000000 in
theorem chnew_c (w : World) : Calls Tryz.prog 57 #[] w fun e w' => e = .returned (.pointer (some ⟨w.heap.size + 1, 0, none⟩)) ∧ ChIs w' (w.heap.size + 1) w.heap.size [] ∧ Below w.heap.size w w' := by
 have hmm := @run_makeMap Tryz.prog
 go_enter Tryz.func57, Tryz.ntmps57
 go_wp2
 go_ret
 have hB := ((Below.refl w.heap.size w).alloc (Nat.le_refl _) (.map #[] 0)).alloc (by simp) (.cells #[.map (some w.heap.size)] 191)
 exact ⟨rfl, ⟨by omega, heap_alloc2_new w _ _, (MapIs.made (enc := Value.string) w).later ((Below.refl _ _).alloc (Nat.le_refl _) _)⟩, hB⟩
def ac0 : Ac := ⟨⟨#[]⟩, 0, 0, 0⟩
/-- chart.Get -/
def getC (M : List (ByteArray × Ac)) (k : ByteArray) : Ac × Int := match getM M k with
 | some a => (a, 0)
 | none => (ac0, 6)
set_option maxRecDepth 100000 in
set_option maxHeartbeats 4000000 in
theorem get_c (g b : Nat) (M : List (ByteArray × Ac)) (k : ByteArray) (w : World) (h : ChIs w g b M) :
  Calls Tryz.prog 187 #[.pointer (some ⟨g, 0, none⟩), .string k] w fun e w' => e = .returned (.tuple #[(getC M k).1.v, i64 (getC M k).2]) ∧ Below w.heap.size w w' := by
 have hb0 := (Below.refl w.heap.size w).alloc (Nat.le_refl _) (.cells #[.string ⟨#[]⟩, i64 0, i64 0, i64 0] 140)
 have h1 := h.later hb0
 have hres := heap_alloc_new w (.cells #[.string ⟨#[]⟩, i64 0, i64 0, i64 0] 140)
 have c0 := cell_of_row _ g 0 _ _ (0, 0) h1.cell
 simp only [List.getElem?_toArray, List.getElem?_cons_zero] at c0
 have hlk := run_lookup (P := Tryz.prog) strKey Tryz.underlying189 h1.map k (ac0.v) (by kernel_rfl) true
 rw [getM_mv] at hlk
 have hb1 := fun o => hb0.alloc (by simp) o
 cases hm : getM M k with
 | none =>
  rw [hm] at hlk
  have HC := Lib.hid (show getC M k = (ac0, 6) by unfold getC; rw [hm])
  clear hm
  unfold ac0 at hlk
  go_enter Tryz.func187, Tryz.ntmps187
  go_wp2
  refine bodyPost_ret (results_cell_row_tmp rfl _ _ w.heap.size 140 _ (0, 0) _ rfl (heap_alloc2_old w _ _) Tryz.underlying140 rfl (by kernel_rfl)) rfl ?_
  exact ⟨by rw [HC.out]; rfl, hb1 _⟩
 | some a =>
  rw [hm] at hlk
  have HC := Lib.hid (show getC M k = (a, 0) by unfold getC; rw [hm])
  clear hm
  unfold ac0 at hlk
  go_enter Tryz.func187, Tryz.ntmps187
  go_wp2
  refine bodyPost_ret (results_cell_row_tmp rfl _ _ w.heap.size 140 _ (0, 0) _ rfl (heap_alloc2_old w _ _) Tryz.underlying140 rfl (by kernel_rfl)) rfl ?_
  exact ⟨by rw [HC.out]; rfl, ((Below.refl _ _).alloc (Nat.le_refl _) _).alloc (by simp) _⟩
/-- chart.free -/
def freeA (a : Ac) (x : Int) : Bool := decide ((sumR (a.hav - a.set_)).2 = 0) && (decide ((sumR ((sumR (a.hav - a.set_)).1 - x)).2 = 0) && decide (-a.lim ≤ (sumR ((sumR (a.hav - a.set_)).1 - x)).1))
set_option maxRecDepth 100000 in
set_option maxHeartbeats 4000000 in
theorem free_c (a : Ac) (x : Int) (w : World) (ha : InA a) (hx : R64 x) :
  Calls Tryz.prog 233 #[a.v, i64 x] w fun e w' => e = .returned (.bool (freeA a x)) ∧ Below w.heap.size w w' := by
 have hb0 := (Below.refl w.heap.size w).alloc (Nat.le_refl _) (.cells #[.string a.name, i64 a.hav, i64 a.set_, i64 a.lim] 140)
 have hg := heap_alloc_new w (.cells #[.string a.name, i64 a.hav, i64 a.set_, i64 a.lim] 140)
 have k1 := cell_of_row _ w.heap.size 1 _ _ (0, 0) hg
 have k2 := cell_of_row _ w.heap.size 2 _ _ (0, 0) hg
 have k3 := cell_of_row _ w.heap.size 3 _ _ (0, 0) hg
 simp only [List.getElem?_toArray, List.getElem?_cons_zero, List.getElem?_cons_succ] at k1 k2 k3
 have hz : w.heap.size < (w.alloc (.cells #[.string a.name, i64 a.hav, i64 a.set_, i64 a.lim] 140)).heap.size := by simp
 obtain ⟨h1, h2, h3, h4⟩ := ha
 have L1 := Lib.hid fun W => less_c a.hav a.set_ W h1 h2
 have L2 := Lib.hid fun W => less_c (sumR (a.hav - a.set_)).1 x W (sumR_R64 _) hx
 have hw : IntKind.i64.wrap (-a.lim) = -a.lim := by rw [IntKind.wrap_i64]; omega
 have HD := Lib.hid (show freeA a x = (decide ((sumR (a.hav - a.set_)).2 = 0) && (decide ((sumR ((sumR (a.hav - a.set_)).1 - x)).2 = 0) && decide (-a.lim ≤ (sumR ((sumR (a.hav - a.set_)).1 - x)).1))) from rfl)
 generalize freeA a x = F at *
 generalize sumR (a.hav - a.set_) = r1 at *
 generalize sumR (r1.1 - x) = r2 at *
 clear hg h1 h2
 go_enter Tryz.func233, Tryz.ntmps233
 go_wp2_with fail
 generalize w.alloc (.cells #[.string a.name, i64 a.hav, i64 a.set_, i64 a.lim] 140) = w0 at *
 refine (L1.out _).mono ?_
 rintro e w1 ⟨rfl, hF⟩
 have k3 := (hF.cell (p := ⟨w.heap.size, 3, none⟩) hz).trans k3
 have hb1 := below_on hb0 (Nat.le_refl _) hF
 have hz := Nat.lt_of_lt_of_le hz hF.size
 clear hF L1 k1 k2
 by_cases e1 : r1.2 = 0
 ·have g1 : (r1.2 != 0) = false := by rw [e1]; rfl
  have E1 := Lib.hid (decide_eq_true e1)
  clear e1
  go_wp2_with fail
  refine (L2.out _).mono ?_
  rintro e w2 ⟨rfl, hF⟩
  have k3 := (hF.cell (p := ⟨w.heap.size, 3, none⟩) hz).trans k3
  have hb2 := below_on hb1 (Nat.le_refl _) hF
  clear hF L2
  by_cases e2 : r2.2 = 0
  ·have g2 : (r2.2 == 0) = true := by rw [e2]; rfl
   have E2 := Lib.hid (decide_eq_true e2)
   clear e2
   by_cases e3 : -a.lim ≤ r2.1
   ·have g3 : decide (-a.lim ≤ r2.1) = true := decide_eq_true e3
    have HF := Lib.hid (show F = true by rw [HD.out, E1.out, E2.out, g3]; rfl)
    clear e3
    go_wp2
    go_ret
    exact ⟨by rw [HF.out]; rfl, hb2⟩
   ·have g3 : decide (-a.lim ≤ r2.1) = false := decide_eq_false e3
    have HF := Lib.hid (show F = false by rw [HD.out, E1.out, E2.out, g3]; rfl)
    clear e3
    go_wp2
    go_ret
    exact ⟨by rw [HF.out]; rfl, hb2⟩
  ·have g2 : (r2.2 == 0) = false := beq_eq_false_iff_ne.2 e2
   have HF := Lib.hid (show F = false by rw [HD.out, E1.out, decide_eq_false e2]; rfl)
   clear e2
   go_wp2
   go_ret
   exact ⟨by rw [HF.out]; rfl, hb2⟩
 ·have g1 : (r1.2 != 0) = true := by simpa using e1
  have HF := Lib.hid (show F = false by rw [HD.out, decide_eq_false e1]; rfl)
  clear e1
  go_wp2
  go_ret
  exact ⟨by rw [HF.out]; rfl, hb1⟩
end Go.Proofs.YtampniiehgimhaaGreat
/- chart: Give, Aside -/
namespace Go.Proofs.YtampniiehgimhaaGreat
open Go.RowKit
abbrev Ac.row (a : Ac) : Array Value := #[.string a.name, i64 a.hav, i64 a.set_, i64 a.lim]
/-- what Give, Aside make of an account -/
def givD (x : Int) (a : Ac) : Ac × Int := ({ a with hav := (sumR (a.hav - x)).1 }, (sumR (a.hav - x)).2)
def asiD (x : Int) (a : Ac) : Ac × Int := ({ a with set_ := (sumR (a.set_ + x)).1 }, (sumR (a.set_ + x)).2)
/-- chart.turn -/
def turnC (D : Ac → Ac × Int) (M : List (ByteArray × Ac)) (k : ByteArray) (x : Int) : Int × List (ByteArray × Ac) := match getM M k with
 | none => (6, M)
 | some a => if (D a).2 ≠ 0 then ((D a).2, M) else if 0 < x ∧ freeA a x = false then (9, M) else if (D a).1.set_ < 0 then (13, M) else (0, putM M k (D a).1)
theorem turnC_none {D : Ac → Ac × Int} {M : List (ByteArray × Ac)} {k : ByteArray} {x : Int} (h : getM M k = none) : turnC D M k x = (6, M) := by unfold turnC; rw [h]
theorem turnC_some {D : Ac → Ac × Int} {M : List (ByteArray × Ac)} {k : ByteArray} {x : Int} {a : Ac} (h : getM M k = some a) : turnC D M k x = if (D a).2 ≠ 0 then ((D a).2, M) else if 0 < x ∧ freeA a x = false then (9, M) else if (D a).1.set_ < 0 then (13, M) else (0, putM M k (D a).1) := by unfold turnC; rw [h]
theorem getM_mem {M : List (ByteArray × Ac)} {k : ByteArray} {a : Ac} (h : getM M k = some a) : ∃ p ∈ M, p.2 = a := by
 unfold getM at h
 rw [Option.map_eq_some_iff] at h
 obtain ⟨p, hp, rfl⟩ := h
 exact ⟨p, List.mem_of_find?_eq_some hp, rfl⟩
set_option maxRecDepth 100000 in
set_option maxHeartbeats 4000000 in
theorem giv1_c (a : Ac) (x : Int) (q p : Nat) (w : World) (hq : w.heap[q]? = some (.cells a.row 140 (0, 0))) (hp : w.cell? ⟨p, 0, none⟩ = some (i64 x)) (ha : R64 a.hav) (hx : R64 x) :
  Calls Tryz.prog 236 #[.pointer (some ⟨q, 0, none⟩), .pointer (some ⟨p, 0, none⟩)] w fun e w' => e = .returned (i64 (givD x a).2) ∧ w'.heap[q]? = some (.cells (givD x a).1.row 140 (0, 0)) ∧ w.grownBy w' (some q) := by
 have k1 := cell_of_row _ q 1 _ _ (0, 0) hq
 simp only [List.getElem?_toArray, List.getElem?_cons_zero, List.getElem?_cons_succ] at k1
 have L1 := Lib.hid fun W => less_c a.hav x W ha hx
 unfold givD
 generalize sumR (a.hav - x) = r at *
 have hlq : q < w.heap.size := (Array.getElem?_eq_some_iff.1 hq).1
 clear ha hx
 go_enter Tryz.func236, Tryz.ntmps236
 go_upto_region 1 with fail
 have h0 := (Below.refl w.heap.size w).drew
 go_cut [3] from 4 (fun s3 wx => s3 = i64 r.2 ∧ wx.heap[q]? = some (.cells (Ac.row { a with hav := r.1 }) 140 (0, 0)) ∧ w.grownBy wx (some q))
 case first =>
  go_region_with (first
   | (go_at_call 91; with_reducible refine (L1.out _).mono ?_; rintro e u1 ⟨rfl, hF⟩; have hb := below_on h0 (Nat.le_refl _) hF; have hq1 := (hb.block _ hlq).trans hq; have z1 := frozen_of_row _ q 1 _ _ hq1; have c1 := (hb.cell (p := ⟨q, 1, none⟩) hlq).trans k1; clear hF))
  all_goals (
   go_wp2_with fail
   go_meet
   have hs := heap_setCell_same u1 q 1 _ _ (i64 r.1) hq1
   simp only [List.setIfInBounds_toArray, List.set_cons_succ, List.set_cons_zero] at hs
   exact ⟨rfl, hs, grown_setCell (g := q) (grown_of_below hb (some q)) (p := ⟨q, 1, none⟩) (.inl rfl) (i64 r.1)⟩)
 case rest =>
 obtain ⟨rfl, h1, h2⟩ := hcut
 clear k1 hq hp L1
 go_wp2
 go_ret
 exact ⟨rfl, h1, h2⟩
set_option maxRecDepth 100000 in
set_option maxHeartbeats 4000000 in
theorem asi1_c (a : Ac) (x : Int) (q p : Nat) (w : World) (hq : w.heap[q]? = some (.cells a.row 140 (0, 0))) (hp : w.cell? ⟨p, 0, none⟩ = some (i64 x)) (ha : R64 a.set_) (hx : R64 x) :
  Calls Tryz.prog 219 #[.pointer (some ⟨q, 0, none⟩), .pointer (some ⟨p, 0, none⟩)] w fun e w' => e = .returned (i64 (asiD x a).2) ∧ w'.heap[q]? = some (.cells (asiD x a).1.row 140 (0, 0)) ∧ w.grownBy w' (some q) := by
 have k1 := cell_of_row _ q 2 _ _ (0, 0) hq
 simp only [List.getElem?_toArray, List.getElem?_cons_zero, List.getElem?_cons_succ] at k1
 have L1 := Lib.hid fun W => add_c a.set_ x W ha hx
 unfold asiD
 generalize sumR (a.set_ + x) = r at *
 have hlq : q < w.heap.size := (Array.getElem?_eq_some_iff.1 hq).1
 clear ha hx
 go_enter Tryz.func219, Tryz.ntmps219
 go_upto_region 1 with fail
 have h0 := (Below.refl w.heap.size w).drew
 go_cut [3] from 4 (fun s3 wx => s3 = i64 r.2 ∧ wx.heap[q]? = some (.cells (Ac.row { a with set_ := r.1 }) 140 (0, 0)) ∧ w.grownBy wx (some q))
 case first =>
  go_region_with (first
   | (go_at_call 220; with_reducible refine (L1.out _).mono ?_; rintro e u1 ⟨rfl, hF⟩; have hb := below_on h0 (Nat.le_refl _) hF; have hq1 := (hb.block _ hlq).trans hq; have z1 := frozen_of_row _ q 2 _ _ hq1; have c1 := (hb.cell (p := ⟨q, 2, none⟩) hlq).trans k1; clear hF))
  all_goals (
   go_wp2_with fail
   go_meet
   have hs := heap_setCell_same u1 q 2 _ _ (i64 r.1) hq1
   simp only [List.setIfInBounds_toArray, List.set_cons_succ, List.set_cons_zero] at hs
   exact ⟨rfl, hs, grown_setCell (g := q) (grown_of_below hb (some q)) (p := ⟨q, 2, none⟩) (.inl rfl) (i64 r.1)⟩)
 case rest =>
 obtain ⟨rfl, h1, h2⟩ := hcut
 clear k1 hq hp L1
 go_wp2
 go_ret
 exact ⟨rfl, h1, h2⟩
set_option maxRecDepth 100000 in
set_option maxHeartbeats 8000000 in
theorem givT_c (g b : Nat) (M : List (ByteArray × Ac)) (k : ByteArray) (x : Int) (p : Nat) (w : World) (h : ChIs w g b M) (hp : w.cell? ⟨p, 0, none⟩ = some (i64 x)) (hM : ∀ y ∈ M, InA y.2) (hx : R64 x) :
  Calls Tryz.prog 218 #[.pointer (some ⟨g, 0, none⟩), .string k, i64 x, .func (.func 236) #[] #[.pointer (some ⟨p, 0, none⟩)]] w fun e w' => e = .returned (i64 (turnC (givD x) M k x).1) ∧ ChIs w' g b (turnC (givD x) M k x).2 ∧ w.grownBy w' (some b) := by
 have hC := Lib.hid (get_c g b M k w h)
 have eC : ∀ args W, (callFunc 236 args).run Tryz.prog W = .ok (.enter 236 args) W := (enters_of Tryz.func236 (by kernel_rfl) rfl)
 obtain ⟨R, hR0⟩ : ∃ R, turnC (givD x) M k x = R := ⟨_, rfl⟩
 rw [hR0]
 have hlp := World.block_lt_of_cell? _ _ hp
 have HR0 := Lib.hid hR0
 clear hR0
 go_enter Tryz.func218, Tryz.ntmps218
 go_wp2_with fail
 refine hC.out.mono ?_
 rintro e w1 ⟨rfl, hF⟩
 have h1 := h.later hF
 have hbw := hF
 have hbS := hF.size
 have hp1 := (hF.cell hlp).trans hp
 clear hF hC
 cases hm : getM M k with
 | none =>
  have HR := Lib.hid (show R = (6, M) by rw [← HR0.out, turnC_none hm])
  have e2 : getC M k = (ac0, 6) := by unfold getC; rw [hm]
  rw [e2]
  clear hm HR0 e2
  unfold ac0
  have hB := (Below.refl w1.heap.size w1).alloc (Nat.le_refl _) (.cells #[.string ⟨#[]⟩, i64 0, i64 0, i64 0] 140)
  go_wp2
  go_ret
  exact ⟨by rw [HR.out]; rfl, by rw [HR.out]; exact h1.later hB, grown_of_below (below_on hbw (Nat.le_refl _) hB) _⟩
 | some a =>
  have hA : InA a := by obtain ⟨y, hy, rfl⟩ := getM_mem hm; exact hM y hy
  have e2 : getC M k = (a, 0) := by unfold getC; rw [hm]
  rw [e2]
  have HR := Lib.hid (show R = (if (givD x a).2 ≠ 0 then ((givD x a).2, M) else if 0 < x ∧ freeA a x = false then (9, M) else if (givD x a).1.set_ < 0 then (13, M) else (0, putM M k (givD x a).1)) by rw [← HR0.out, turnC_some hm])
  clear hm HR0 e2
  have hB := ((Below.refl w1.heap.size w1).alloc (Nat.le_refl _) (.cells a.row 140)).alloc (by simp) (.cells a.row 140)
  have h2 := h1.later hB
  have hp2 := (hB.cell (World.block_lt_of_cell? _ _ hp1)).trans hp1
  have hq := heap_alloc2_old w1 (.cells a.row 140) (.cells a.row 140)
  have ho := heap_alloc2_new w1 (.cells a.row 140) (.cells a.row 140)
  have hb2 := below_on hbw (Nat.le_refl _) hB
  have c0 := cell_of_row _ (w1.heap.size) 0 _ _ (0, 0) (heap_alloc_new w1 (.cells a.row 140))
  have hD := Lib.hid (giv1_c a x w1.heap.size p _ hq hp2 hA.1 hx)
  have hFr := Lib.hid fun W => free_c a x W hA hx
  have hlg := h1.lt
  generalize givD x a = d at *
  clear hB c0 hbw hp hlp h hp1 h1
  go_wp2_with fail
  generalize hW2 : (w1.alloc (.cells a.row 140)).alloc (.cells a.row 140) = W2 at *
  refine hD.out.mono ?_
  rintro e w3 ⟨rfl, hq3, hG⟩
  have hgq : w.heap.size ≤ w1.heap.size := hb2.size |> fun _ => hbS
  have h3 := h2.kept hG (fun e => by injection e with e; omega) (fun e => by injection e with e; omega)
  have ho3 := (hG.block (w1.heap.size + 1) (Array.getElem?_eq_some_iff.1 ho).1 (fun e => by injection e with e; omega)).trans ho
  have hb3 := hb2.trans (below_of_grown hG hb2.size (fun k e => by injection e with e; omega))
  have m0 := cell_of_row _ (w1.heap.size + 1) 0 _ _ (0, 0) ho3
  have m1 := cell_of_row _ (w1.heap.size + 1) 1 _ _ (0, 0) ho3
  have m2 := cell_of_row _ (w1.heap.size + 1) 2 _ _ (0, 0) ho3
  have m3 := cell_of_row _ (w1.heap.size + 1) 3 _ _ (0, 0) ho3
  have n2 := cell_of_row _ w1.heap.size 2 _ _ (0, 0) hq3
  simp only [List.getElem?_toArray, List.getElem?_cons_zero, List.getElem?_cons_succ] at m0 m1 m2 m3 n2
  have hlq3 := (Array.getElem?_eq_some_iff.1 hq3).1
  clear hG hD ho hq h2 hb2 hp2 hW2
  by_cases hd : d.2 = 0
  ·have g1 : (d.2 != 0) = false := by rw [hd]; rfl
   have HR1 := Lib.hid (show R = (if 0 < x ∧ freeA a x = false then (9, M) else if d.1.set_ < 0 then (13, M) else (0, putM M k d.1)) by rw [HR.out, if_neg (by simpa using hd)])
   clear HR hd
   by_cases hx0 : 0 < x
   ·have g2 : decide ((0 : Int) < x) = true := decide_eq_true hx0
    have HX := Lib.hid hx0
    clear hx0
    go_wp2_with fail
    refine (hFr.out _).mono ?_
    rintro e w4 ⟨rfl, hF⟩
    have h4 := h3.later hF
    have n2 := (hF.cell (p := ⟨w1.heap.size, 2, none⟩) hlq3).trans n2
    have hq4 := (hF.block _ hlq3).trans hq3
    have hb4 := below_on hb3 (Nat.le_refl _) hF
    clear hF m0 m1 m2 m3 ho3 h3 hb3 hq3 hlq3
    cases hfr : freeA a x with
    | false =>
     have HR2 := Lib.hid (show R = (9, M) by rw [HR1.out, if_pos ⟨HX.out, hfr⟩])
     clear HR1 hfr
     go_wp2
     go_ret
     exact ⟨by rw [HR2.out]; rfl, by rw [HR2.out]; exact h4, grown_of_below hb4 _⟩
    | true =>
     have HR2 := Lib.hid (show R = (if d.1.set_ < 0 then (13, M) else (0, putM M k d.1)) by rw [HR1.out, if_neg (fun h => by rw [hfr] at h; exact absurd h.2 (by decide))])
     clear HR1 hfr
     by_cases hn : d.1.set_ < 0
     ·have g3 : decide (d.1.set_ < 0) = true := decide_eq_true hn
      have HR3 := Lib.hid (show R = (13, M) by rw [HR2.out, if_pos hn])
      clear hn HR2
      go_wp2
      go_ret
      exact ⟨by rw [HR3.out]; rfl, by rw [HR3.out]; exact h4, grown_of_below hb4 _⟩
     ·have g3 : decide (d.1.set_ < 0) = false := decide_eq_false hn
      have HR3 := Lib.hid (show R = (0, putM M k d.1) by rw [HR2.out, if_neg hn])
      clear hn HR2
      have j0 := cell_of_row _ w1.heap.size 0 _ _ (0, 0) hq4
      have j1 := cell_of_row _ w1.heap.size 1 _ _ (0, 0) hq4
      have j3 := cell_of_row _ w1.heap.size 3 _ _ (0, 0) hq4
      have cg := cell_of_row _ g 0 _ _ (0, 0) h4.cell
      simp only [List.getElem?_toArray, List.getElem?_cons_zero, List.getElem?_cons_succ] at j0 j1 j3 cg
      have h5 := h4.later (Below.refl _ _).drew
      obtain ⟨w5, hrun, hm5, hg5⟩ := run_put (P := Tryz.prog) strKey Tryz.underlying189 h5.map k d.1.v
      rw [putM_mv] at hm5
      have HM := Lib.hid hm5
      have HG := Lib.hid hg5
      clear hm5 hg5 hq4
      go_wp2_with fail
      go_region_with fail
      all_goals (
       go_wp2
       go_ret
       exact ⟨by rw [HR3.out]; rfl, by rw [HR3.out]; exact ⟨h5.ne, (HG.out.block g h5.lt.1 (fun e => h5.ne (by injection e with e; exact e.symm))).trans h5.cell, HM.out⟩, grown_trans (grown_of_below hb4.drew _) HG.out⟩)
   ·have g2 : decide ((0 : Int) < x) = false := decide_eq_false hx0
    have HR2 := Lib.hid (show R = (if d.1.set_ < 0 then (13, M) else (0, putM M k d.1)) by rw [HR1.out, if_neg (fun h => hx0 h.1)])
    have h4 := h3
    have hq4 := hq3
    have hb4 := hb3
    clear hx0 HR1 h3 hq3 hb3 m0 m1 m2 m3 ho3 hlq3
    by_cases hn : d.1.set_ < 0
    ·have g3 : decide (d.1.set_ < 0) = true := decide_eq_true hn
     have HR3 := Lib.hid (show R = (13, M) by rw [HR2.out, if_pos hn])
     clear hn HR2
     go_wp2
     go_ret
     exact ⟨by rw [HR3.out]; rfl, by rw [HR3.out]; exact h4, grown_of_below hb4 _⟩
    ·have g3 : decide (d.1.set_ < 0) = false := decide_eq_false hn
     have HR3 := Lib.hid (show R = (0, putM M k d.1) by rw [HR2.out, if_neg hn])
     clear hn HR2
     have j0 := cell_of_row _ w1.heap.size 0 _ _ (0, 0) hq4
     have j1 := cell_of_row _ w1.heap.size 1 _ _ (0, 0) hq4
     have j3 := cell_of_row _ w1.heap.size 3 _ _ (0, 0) hq4
     have cg := cell_of_row _ g 0 _ _ (0, 0) h4.cell
     simp only [List.getElem?_toArray, List.getElem?_cons_zero, List.getElem?_cons_succ] at j0 j1 j3 cg
     have h5 := h4.later (Below.refl _ _).drew
     obtain ⟨w5, hrun, hm5, hg5⟩ := run_put (P := Tryz.prog) strKey Tryz.underlying189 h5.map k d.1.v
     rw [putM_mv] at hm5
     have HM := Lib.hid hm5
     have HG := Lib.hid hg5
     clear hm5 hg5 hq4
     go_wp2_with fail
     go_region_with fail
     all_goals (
      go_wp2
      go_ret
      exact ⟨by rw [HR3.out]; rfl, by rw [HR3.out]; exact ⟨h5.ne, (HG.out.block g h5.lt.1 (fun e => h5.ne (by injection e with e; exact e.symm))).trans h5.cell, HM.out⟩, grown_trans (grown_of_below hb4.drew _) HG.out⟩)
  ·have g1 : (d.2 != 0) = true := by simpa using hd
   have HR1 := Lib.hid (show R = (d.2, M) by rw [HR.out, if_pos hd])
   clear hd
   go_wp2
   go_ret
   exact ⟨by rw [HR1.out]; rfl, by rw [HR1.out]; exact h3, grown_of_below hb3 _⟩
set_option maxRecDepth 100000 in
set_option maxHeartbeats 8000000 in
theorem asiT_c (g b : Nat) (M : List (ByteArray × Ac)) (k : ByteArray) (x : Int) (p : Nat) (w : World) (h : ChIs w g b M) (hp : w.cell? ⟨p, 0, none⟩ = some (i64 x)) (hM : ∀ y ∈ M, InA y.2) (hx : R64 x) :
  Calls Tryz.prog 218 #[.pointer (some ⟨g, 0, none⟩), .string k, i64 x, .func (.func 219) #[] #[.pointer (some ⟨p, 0, none⟩)]] w fun e w' => e = .returned (i64 (turnC (asiD x) M k x).1) ∧ ChIs w' g b (turnC (asiD x) M k x).2 ∧ w.grownBy w' (some b) := by
 have hC := Lib.hid (get_c g b M k w h)
 have eC : ∀ args W, (callFunc 219 args).run Tryz.prog W = .ok (.enter 219 args) W := (enters_of Tryz.func219 (by kernel_rfl) rfl)
 obtain ⟨R, hR0⟩ : ∃ R, turnC (asiD x) M k x = R := ⟨_, rfl⟩
 rw [hR0]
 have hlp := World.block_lt_of_cell? _ _ hp
 have HR0 := Lib.hid hR0
 clear hR0
 go_enter Tryz.func218, Tryz.ntmps218
 go_wp2_with fail
 refine hC.out.mono ?_
 rintro e w1 ⟨rfl, hF⟩
 have h1 := h.later hF
 have hbw := hF
 have hbS := hF.size
 have hp1 := (hF.cell hlp).trans hp
 clear hF hC
 cases hm : getM M k with
 | none =>
  have HR := Lib.hid (show R = (6, M) by rw [← HR0.out, turnC_none hm])
  have e2 : getC M k = (ac0, 6) := by unfold getC; rw [hm]
  rw [e2]
  clear hm HR0 e2
  unfold ac0
  have hB := (Below.refl w1.heap.size w1).alloc (Nat.le_refl _) (.cells #[.string ⟨#[]⟩, i64 0, i64 0, i64 0] 140)
  go_wp2
  go_ret
  exact ⟨by rw [HR.out]; rfl, by rw [HR.out]; exact h1.later hB, grown_of_below (below_on hbw (Nat.le_refl _) hB) _⟩
 | some a =>
  have hA : InA a := by obtain ⟨y, hy, rfl⟩ := getM_mem hm; exact hM y hy
  have e2 : getC M k = (a, 0) := by unfold getC; rw [hm]
  rw [e2]
  have HR := Lib.hid (show R = (if (asiD x a).2 ≠ 0 then ((asiD x a).2, M) else if 0 < x ∧ freeA a x = false then (9, M) else if (asiD x a).1.set_ < 0 then (13, M) else (0, putM M k (asiD x a).1)) by rw [← HR0.out, turnC_some hm])
  clear hm HR0 e2
  have hB := ((Below.refl w1.heap.size w1).alloc (Nat.le_refl _) (.cells a.row 140)).alloc (by simp) (.cells a.row 140)
  have h2 := h1.later hB
  have hp2 := (hB.cell (World.block_lt_of_cell? _ _ hp1)).trans hp1
  have hq := heap_alloc2_old w1 (.cells a.row 140) (.cells a.row 140)
  have ho := heap_alloc2_new w1 (.cells a.row 140) (.cells a.row 140)
  have hb2 := below_on hbw (Nat.le_refl _) hB
  have c0 := cell_of_row _ (w1.heap.size) 0 _ _ (0, 0) (heap_alloc_new w1 (.cells a.row 140))
  have hD := Lib.hid (asi1_c a x w1.heap.size p _ hq hp2 hA.2.1 hx)
  have hFr := Lib.hid fun W => free_c a x W hA hx
  have hlg := h1.lt
  generalize asiD x a = d at *
  clear hB c0 hbw hp hlp h hp1 h1
  go_wp2_with fail
  generalize hW2 : (w1.alloc (.cells a.row 140)).alloc (.cells a.row 140) = W2 at *
  refine hD.out.mono ?_
  rintro e w3 ⟨rfl, hq3, hG⟩
  have hgq : w.heap.size ≤ w1.heap.size := hb2.size |> fun _ => hbS
  have h3 := h2.kept hG (fun e => by injection e with e; omega) (fun e => by injection e with e; omega)
  have ho3 := (hG.block (w1.heap.size + 1) (Array.getElem?_eq_some_iff.1 ho).1 (fun e => by injection e with e; omega)).trans ho
  have hb3 := hb2.trans (below_of_grown hG hb2.size (fun k e => by injection e with e; omega))
  have m0 := cell_of_row _ (w1.heap.size + 1) 0 _ _ (0, 0) ho3
  have m1 := cell_of_row _ (w1.heap.size + 1) 1 _ _ (0, 0) ho3
  have m2 := cell_of_row _ (w1.heap.size + 1) 2 _ _ (0, 0) ho3
  have m3 := cell_of_row _ (w1.heap.size + 1) 3 _ _ (0, 0) ho3
  have n2 := cell_of_row _ w1.heap.size 2 _ _ (0, 0) hq3
  simp only [List.getElem?_toArray, List.getElem?_cons_zero, List.getElem?_cons_succ] at m0 m1 m2 m3 n2
  have hlq3 := (Array.getElem?_eq_some_iff.1 hq3).1
  clear hG hD ho hq h2 hb2 hp2 hW2
  by_cases hd : d.2 = 0
  ·have g1 : (d.2 != 0) = false := by rw [hd]; rfl
   have HR1 := Lib.hid (show R = (if 0 < x ∧ freeA a x = false then (9, M) else if d.1.set_ < 0 then (13, M) else (0, putM M k d.1)) by rw [HR.out, if_neg (by simpa using hd)])
   clear HR hd
   by_cases hx0 : 0 < x
   ·have g2 : decide ((0 : Int) < x) = true := decide_eq_true hx0
    have HX := Lib.hid hx0
    clear hx0
    go_wp2_with fail
    refine (hFr.out _).mono ?_
    rintro e w4 ⟨rfl, hF⟩
    have h4 := h3.later hF
    have n2 := (hF.cell (p := ⟨w1.heap.size, 2, none⟩) hlq3).trans n2
    have hq4 := (hF.block _ hlq3).trans hq3
    have hb4 := below_on hb3 (Nat.le_refl _) hF
    clear hF m0 m1 m2 m3 ho3 h3 hb3 hq3 hlq3
    cases hfr : freeA a x with
    | false =>
     have HR2 := Lib.hid (show R = (9, M) by rw [HR1.out, if_pos ⟨HX.out, hfr⟩])
     clear HR1 hfr
     go_wp2
     go_ret
     exact ⟨by rw [HR2.out]; rfl, by rw [HR2.out]; exact h4, grown_of_below hb4 _⟩
    | true =>
     have HR2 := Lib.hid (show R = (if d.1.set_ < 0 then (13, M) else (0, putM M k d.1)) by rw [HR1.out, if_neg (fun h => by rw [hfr] at h; exact absurd h.2 (by decide))])
     clear HR1 hfr
     by_cases hn : d.1.set_ < 0
     ·have g3 : decide (d.1.set_ < 0) = true := decide_eq_true hn
      have HR3 := Lib.hid (show R = (13, M) by rw [HR2.out, if_pos hn])
      clear hn HR2
      go_wp2
      go_ret
      exact ⟨by rw [HR3.out]; rfl, by rw [HR3.out]; exact h4, grown_of_below hb4 _⟩
     ·have g3 : decide (d.1.set_ < 0) = false := decide_eq_false hn
      have HR3 := Lib.hid (show R = (0, putM M k d.1) by rw [HR2.out, if_neg hn])
      clear hn HR2
      have j0 := cell_of_row _ w1.heap.size 0 _ _ (0, 0) hq4
      have j1 := cell_of_row _ w1.heap.size 1 _ _ (0, 0) hq4
      have j3 := cell_of_row _ w1.heap.size 3 _ _ (0, 0) hq4
      have cg := cell_of_row _ g 0 _ _ (0, 0) h4.cell
      simp only [List.getElem?_toArray, List.getElem?_cons_zero, List.getElem?_cons_succ] at j0 j1 j3 cg
      have h5 := h4.later (Below.refl _ _).drew
      obtain ⟨w5, hrun, hm5, hg5⟩ := run_put (P := Tryz.prog) strKey Tryz.underlying189 h5.map k d.1.v
      rw [putM_mv] at hm5
      have HM := Lib.hid hm5
      have HG := Lib.hid hg5
      clear hm5 hg5 hq4
      go_wp2_with fail
      go_region_with fail
      all_goals (
       go_wp2
       go_ret
       exact ⟨by rw [HR3.out]; rfl, by rw [HR3.out]; exact ⟨h5.ne, (HG.out.block g h5.lt.1 (fun e => h5.ne (by injection e with e; exact e.symm))).trans h5.cell, HM.out⟩, grown_trans (grown_of_below hb4.drew _) HG.out⟩)
   ·have g2 : decide ((0 : Int) < x) = false := decide_eq_false hx0
    have HR2 := Lib.hid (show R = (if d.1.set_ < 0 then (13, M) else (0, putM M k d.1)) by rw [HR1.out, if_neg (fun h => hx0 h.1)])
    have h4 := h3
    have hq4 := hq3
    have hb4 := hb3
    clear hx0 HR1 h3 hq3 hb3 m0 m1 m2 m3 ho3 hlq3
    by_cases hn : d.1.set_ < 0
    ·have g3 : decide (d.1.set_ < 0) = true := decide_eq_true hn
     have HR3 := Lib.hid (show R = (13, M) by rw [HR2.out, if_pos hn])
     clear hn HR2
     go_wp2
     go_ret
     exact ⟨by rw [HR3.out]; rfl, by rw [HR3.out]; exact h4, grown_of_below hb4 _⟩
    ·have g3 : decide (d.1.set_ < 0) = false := decide_eq_false hn
     have HR3 := Lib.hid (show R = (0, putM M k d.1) by rw [HR2.out, if_neg hn])
     clear hn HR2
     have j0 := cell_of_row _ w1.heap.size 0 _ _ (0, 0) hq4
     have j1 := cell_of_row _ w1.heap.size 1 _ _ (0, 0) hq4
     have j3 := cell_of_row _ w1.heap.size 3 _ _ (0, 0) hq4
     have cg := cell_of_row _ g 0 _ _ (0, 0) h4.cell
     simp only [List.getElem?_toArray, List.getElem?_cons_zero, List.getElem?_cons_succ] at j0 j1 j3 cg
     have h5 := h4.later (Below.refl _ _).drew
     obtain ⟨w5, hrun, hm5, hg5⟩ := run_put (P := Tryz.prog) strKey Tryz.underlying189 h5.map k d.1.v
     rw [putM_mv] at hm5
     have HM := Lib.hid hm5
     have HG := Lib.hid hg5
     clear hm5 hg5 hq4
     go_wp2_with fail
     go_region_with fail
     all_goals (
      go_wp2
      go_ret
      exact ⟨by rw [HR3.out]; rfl, by rw [HR3.out]; exact ⟨h5.ne, (HG.out.block g h5.lt.1 (fun e => h5.ne (by injection e with e; exact e.symm))).trans h5.cell, HM.out⟩, grown_trans (grown_of_below hb4.drew _) HG.out⟩)
  ·have g1 : (d.2 != 0) = true := by simpa using hd
   have HR1 := Lib.hid (show R = (d.2, M) by rw [HR.out, if_pos hd])
   clear hd
   go_wp2
   go_ret
   exact ⟨by rw [HR1.out]; rfl, by rw [HR1.out]; exact h3, grown_of_below hb3 _⟩
set_option maxRecDepth 100000 in
set_option maxHeartbeats 4000000 in
theorem give_c (g b : Nat) (M : List (ByteArray × Ac)) (k : ByteArray) (x : Int) (w : World) (h : ChIs w g b M) (hM : ∀ y ∈ M, InA y.2) (hx : R64 x) :
  Calls Tryz.prog 231 #[.pointer (some ⟨g, 0, none⟩), .string k, i64 x] w fun e w' => e = .returned (i64 (turnC (givD x) M k x).1) ∧ ChIs w' g b (turnC (givD x) M k x).2 ∧ w.grownBy w' (some b) := by
 have hb0 := (Below.refl w.heap.size w).alloc (Nat.le_refl _) (.cells #[i64 x] 2)
 have c0 := cell_of_row _ w.heap.size 0 _ _ (0, 0) (heap_alloc_new w (.cells #[i64 x] 2))
 simp only [List.getElem?_toArray, List.getElem?_cons_zero] at c0
 have hT := Lib.hid (givT_c g b M k x w.heap.size _ (h.later hb0) c0 hM hx)
 generalize turnC (givD x) M k x = R at *
 go_enter Tryz.func231, Tryz.ntmps231
 go_wp2_with fail
 refine hT.out.mono ?_
 rintro e w1 ⟨rfl, h1, hG⟩
 go_wp2
 go_ret
 exact ⟨rfl, h1, grown_trans (grown_of_below hb0 _) hG⟩
set_option maxRecDepth 100000 in
set_option maxHeartbeats 4000000 in
theorem aside_c (g b : Nat) (M : List (ByteArray × Ac)) (k : ByteArray) (x : Int) (w : World) (h : ChIs w g b M) (hM : ∀ y ∈ M, InA y.2) (hx : R64 x) :
  Calls Tryz.prog 191 #[.pointer (some ⟨g, 0, none⟩), .string k, i64 x] w fun e w' => e = .returned (i64 (turnC (asiD x) M k x).1) ∧ ChIs w' g b (turnC (asiD x) M k x).2 ∧ w.grownBy w' (some b) := by
 have hb0 := (Below.refl w.heap.size w).alloc (Nat.le_refl _) (.cells #[i64 x] 2)
 have c0 := cell_of_row _ w.heap.size 0 _ _ (0, 0) (heap_alloc_new w (.cells #[i64 x] 2))
 simp only [List.getElem?_toArray, List.getElem?_cons_zero] at c0
 have hT := Lib.hid (asiT_c g b M k x w.heap.size _ (h.later hb0) c0 hM hx)
 generalize turnC (asiD x) M k x = R at *
 go_enter Tryz.func191, Tryz.ntmps191
 go_wp2_with fail
 refine hT.out.mono ?_
 rintro e w1 ⟨rfl, h1, hG⟩
 go_wp2
 go_ret
 exact ⟨rfl, h1, grown_trans (grown_of_below hb0 _) hG⟩
end Go.Proofs.YtampniiehgimhaaGreat
