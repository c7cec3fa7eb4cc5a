/- Texts of this claim, laid together: Coins, Map, Keys, Append, More. -/
import Derived.Test.YtmljlkjomjflpaaGreatRows
import Derived.Test.YtmljlkjomjflpaaGreatBb1
import Derived.WalkKit
import Derived.WalkSpells
import Derived.WalkLawsBesides
import Derived.Deep.QuietTactic
import Derived.BigQuiet
import Derived.Laws.StructEq
import Derived.Deep.DeepFit
import Derived.StillTailTactics
import Derived.ChangeMaps4
import Derived.Maps.AppendAt
import Derived.Laws.ResultCell

/- coins.Add, Less -/
namespace Go.Proofs.YtmljlkjomjflpaaGreat
open Go.RowKit
theorem ofInt_toInt64 {n : Int} (h : R64 n) : (BitVec.ofInt 64 n).toInt = n := by
  rw [BitVec.toInt_ofInt, Int.bmod_def]
  obtain ⟨h0, h1⟩ := h
  rw [show ((2 ^ 64 : Nat) : Int) = 18446744073709551616 from rfl]
  split <;> omega
theorem msb_ofInt64 {n : Int} (h : R64 n) : (BitVec.ofInt 64 n).msb = decide (n < 0) := by
  rw [BitVec.msb_eq_toInt, ofInt_toInt64 h]
theorem wrap_toNat (v : BitVec 64) : IntKind.i64.wrap (v.toNat : Int) = v.toInt := by
  rw [IntKind.wrap_i64, BitVec.toInt_eq_toNat_cond]
  have h := v.isLt
  rw [show ((2 ^ 64 : Nat) : Int) = 18446744073709551616 from rfl]
  have h2 : v.toNat < 18446744073709551616 := h
  rw [show (2 ^ 64 : Nat) = 18446744073709551616 from rfl]
  split <;> omega
theorem bits_xor64 (a b : Int) : bits .xor .i64 a b = (BitVec.ofInt 64 a ^^^ BitVec.ofInt 64 b).toInt := wrap_toNat _
theorem bits_and64 (a b : Int) : bits .and .i64 a b = (BitVec.ofInt 64 a &&& BitVec.ofInt 64 b).toInt := wrap_toNat _
theorem wrap_R64 (n : Int) : R64 (IntKind.i64.wrap n) := by
  rw [IntKind.wrap_i64]
  unfold R64
  omega
theorem over_bits (a b c : Int) (ha : R64 a) (hb : R64 b) (hc : R64 c) : decide (bits .and .i64 (bits .xor .i64 a b) (bits .xor .i64 a c) < 0) = ((decide (a < 0) ^^ decide (b < 0)) && (decide (a < 0) ^^ decide (c < 0))) := by
  rw [bits_and64, bits_xor64, bits_xor64, ← BitVec.msb_eq_toInt, BitVec.ofInt_toInt, BitVec.ofInt_toInt, BitVec.msb_and, BitVec.msb_xor, BitVec.msb_xor, msb_ofInt64 ha, msb_ofInt64 hb, msb_ofInt64 hc]
theorem bits_comm64 (a b : Int) : bits .xor .i64 a b = bits .xor .i64 b a := by rw [bits_xor64, bits_xor64, BitVec.xor_comm]
/-- is n no int64? -/
def overB (n : Int) : Bool := !(decide (-9223372036854775808 ≤ n) && decide (n ≤ 9223372036854775807))
theorem add_over {a b : Int} (ha : R64 a) (hb : R64 b) : decide (bits .and .i64 (bits .xor .i64 a (IntKind.i64.wrap (a + b))) (bits .xor .i64 b (IntKind.i64.wrap (a + b))) < 0) = overB (a + b) := by
  have h := over_bits (IntKind.i64.wrap (a + b)) a b (wrap_R64 _) ha hb
  rw [bits_comm64 a, bits_comm64 b, h]
  unfold overB
  rw [IntKind.wrap_i64]
  obtain ⟨h0, h1⟩ := ha
  obtain ⟨h2, h3⟩ := hb
  generalize hc : (a + b + 9223372036854775808) % 18446744073709551616 - 9223372036854775808 = c
  by_cases h4 : c < 0 <;> by_cases h5 : a < 0 <;> by_cases h6 : b < 0 <;> simp [h4, h5, h6] <;> omega
theorem less_over {a b : Int} (ha : R64 a) (hb : R64 b) : decide (bits .and .i64 (bits .xor .i64 a b) (bits .xor .i64 a (IntKind.i64.wrap (a - b))) < 0) = overB (a - b) := by
  rw [over_bits a b _ ha hb (wrap_R64 _)]
  unfold overB
  rw [IntKind.wrap_i64]
  obtain ⟨h0, h1⟩ := ha
  obtain ⟨h2, h3⟩ := hb
  generalize hc : (a - b + 9223372036854775808) % 18446744073709551616 - 9223372036854775808 = c
  by_cases h4 : c < 0 <;> by_cases h5 : a < 0 <;> by_cases h6 : b < 0 <;> simp [h4, h5, h6] <;> omega
/-- a sum, or that it is none -/
def sumR (n : Int) : Int × Int := if overB n then (0, 2) else (n, 0)
theorem wrap_over {n : Int} (h : overB n = false) : IntKind.i64.wrap n = n := by
  unfold overB at h
  simp only [Bool.not_eq_false', Bool.and_eq_true, decide_eq_true_eq] at h
  rw [IntKind.wrap_i64]
  omega
theorem sumR_R64 (n : Int) : R64 (sumR n).1 := by
  unfold sumR overB R64
  by_cases h : -9223372036854775808 ≤ n ∧ n ≤ 9223372036854775807
  · rw [decide_eq_true h.1, decide_eq_true h.2]
    exact h
  · rw [if_pos]
    · exact ⟨by decide, by decide⟩
    · rw [Bool.not_eq_true', Bool.and_eq_false_iff, decide_eq_false_iff_not, decide_eq_false_iff_not]
      omega
set_option maxRecDepth 100000 in
set_option maxHeartbeats 2000000 in
theorem add_c (a b : Int) (w : World) (ha : R64 a) (hb : R64 b) : Calls Tryz.prog 127 #[i64 a, i64 b] w fun e w' => e = .returned (.tuple #[i64 (sumR (a + b)).1, i64 (sumR (a + b)).2]) ∧ Below w.heap.size w w' := by
  have ho := add_over ha hb
  rw [IntWalk.i64_left] at ho
  cases h : overB (a + b) with
  | true =>
    rw [h] at ho
    have HS := Lib.hid (show sumR (a + b) = (0, 2) by unfold sumR; rw [h]; rfl)
    clear h
    go_enter Tryz.func127, Tryz.ntmps127
    go_wp2
    go_ret2
    exact ⟨by rw [HS.out]; rfl, Below.refl _ _⟩
  | false =>
    rw [h] at ho
    have hw := wrap_over h
    rw [IntWalk.i64_left] at hw
    have HW := Lib.hid hw
    have HS := Lib.hid (show sumR (a + b) = (a + b, 0) by unfold sumR; rw [h]; rfl)
    clear h hw
    go_enter Tryz.func127, Tryz.ntmps127
    go_wp2
    go_ret2
    exact ⟨by rw [HS.out]; exact congrArg (fun n => Ending.returned (.tuple #[.int .i64 n, i64 0])) HW.out, Below.refl _ _⟩
set_option maxRecDepth 100000 in
set_option maxHeartbeats 2000000 in
theorem less_c (a b : Int) (w : World) (ha : R64 a) (hb : R64 b) : Calls Tryz.prog 93 #[i64 a, i64 b] w fun e w' => e = .returned (.tuple #[i64 (sumR (a - b)).1, i64 (sumR (a - b)).2]) ∧ Below w.heap.size w w' := by
  have ho := less_over ha hb
  rw [IntWalk.i64_left] at ho
  cases h : overB (a - b) with
  | true =>
    rw [h] at ho
    have HS := Lib.hid (show sumR (a - b) = (0, 2) by unfold sumR; rw [h]; rfl)
    clear h
    go_enter Tryz.func93, Tryz.ntmps93
    go_wp2
    go_ret2
    exact ⟨by rw [HS.out]; rfl, Below.refl _ _⟩
  | false =>
    rw [h] at ho
    have hw := wrap_over h
    rw [IntWalk.i64_left] at hw
    have HW := Lib.hid hw
    have HS := Lib.hid (show sumR (a - b) = (a - b, 0) by unfold sumR; rw [h]; rfl)
    clear h hw
    go_enter Tryz.func93, Tryz.ntmps93
    go_wp2
    go_ret2
    exact ⟨by rw [HS.out]; exact congrArg (fun n => Ending.returned (.tuple #[.int .i64 n, i64 0])) HW.out, Below.refl _ _⟩
end Go.Proofs.YtmljlkjomjflpaaGreat

/- Maps: a block that is a map of given keys and values; look-up, store, delete, len. No program. -/
namespace Go.Proofs.YtmljlkjomjflpaaGreat
open Go.RowKit

/-- Go's keys of one type, as data: how the model compares them -/
structure KeyFit (P : Program) (K : TypeId) {κ : Type} [DecidableEq κ] (enc : κ → Value) : Prop where
  check : ∀ (empty : Bool) (k : κ) (w : World), (Instr.checkKey empty 10000 K (enc k)).run P w = .ok () w
  find : ∀ (k : κ) (es : List MapEntry) (M : List (κ × Value)) (w : World), es.map (fun e => (e.key, e.val)) = M.map (fun p => (enc p.1, p.2)) →
    (Instr.findKey K (enc k) es).run P w = .ok ((M.findIdx? fun p => decide (p.1 = k)).map fun i => (i, ((M[i]?).map (·.2)).getD undef)) w
  bits : ∀ k, Instr.sameBits 10000 (enc k) (enc k) = true

/-- block b of w is a map of these keys and values (in the order in which the keys came) -/
def MapIs {κ : Type} (enc : κ → Value) (w : World) (b : Nat) (M : List (κ × Value)) : Prop :=
  ∃ es clock, w.heap[b]? = some (.map es clock) ∧ es.toList.map (fun e => (e.key, e.val)) = M.map (fun p => (enc p.1, p.2)) ∧ es.toList.Pairwise (fun x y => x.born < y.born) ∧ (∀ x ∈ es.toList, x.born < clock) ∧ M.Pairwise (fun p q => p.1 ≠ q.1)

section
variable {κ : Type} [DecidableEq κ] {enc : κ → Value}
def getM {ν : Type} (M : List (κ × ν)) (k : κ) : Option ν := (M.find? fun p => decide (p.1 = k)).map (·.2)
def putM {ν : Type} (M : List (κ × ν)) (k : κ) (v : ν) : List (κ × ν) := if M.any (fun p => decide (p.1 = k)) then M.map (fun p => if p.1 = k then (k, v) else p) else M ++ [(k, v)]
def delM {ν : Type} (M : List (κ × ν)) (k : κ) : List (κ × ν) := M.filter fun p => !decide (p.1 = k)

theorem getM_put {ν : Type} (M : List (κ × ν)) (k k' : κ) (v : ν) : getM (putM M k v) k' = if k = k' then some v else getM M k' := by
  unfold getM putM
  by_cases h : M.any (fun p => decide (p.1 = k)) = true
  · rw [if_pos h]
    by_cases hk : k = k'
    · subst hk
      rw [if_pos rfl]
      induction M with
      | nil => simp at h
      | cons q r ih =>
        by_cases hq : q.1 = k
        · simp [hq]
        · simp only [List.map_cons, hq, if_false]
          rw [List.find?_cons_of_neg (by simpa using hq)]
          refine ih ?_
          simpa [hq] using h
    · rw [if_neg hk]
      clear h
      induction M with
      | nil => rfl
      | cons q r ih =>
        by_cases hq : q.1 = k
        · simp only [List.map_cons, hq, if_true]
          rw [List.find?_cons_of_neg (by simpa using hk), List.find?_cons_of_neg (by simpa [hq] using hk)]
          exact ih
        · simp only [List.map_cons, hq, if_false]
          by_cases hq' : q.1 = k'
          · rw [List.find?_cons_of_pos (by simpa using hq'), List.find?_cons_of_pos (by simpa using hq')]
          · rw [List.find?_cons_of_neg (by simpa using hq'), List.find?_cons_of_neg (by simpa using hq')]
            exact ih
  · rw [if_neg h, List.find?_append]
    have hno : M.find? (fun p => decide (p.1 = k)) = none := by
      rw [List.find?_eq_none]
      intro p hp hpk
      exact h (List.any_eq_true.2 ⟨p, hp, hpk⟩)
    by_cases hk : k = k'
    · subst hk
      rw [hno]
      simp
    · simp [hk]
theorem getM_del {ν : Type} (M : List (κ × ν)) (k k' : κ) : getM (delM M k) k' = if k = k' then none else getM M k' := by
  unfold getM delM
  rw [List.find?_filter]
  by_cases hk : k = k'
  · subst hk
    rw [if_pos rfl, Option.map_eq_none_iff, List.find?_eq_none]
    intro p _ h
    simp at h
  · rw [if_neg hk]
    congr 2
    funext p
    by_cases hp : p.1 = k'
    · have hk' : ¬ k' = k := fun e => hk e.symm
      simp [hp, hk']
    · simp [hp]
theorem putM_nodup {ν : Type} {M : List (κ × ν)} (h : M.Pairwise (fun p q => p.1 ≠ q.1)) (k : κ) (v : ν) : (putM M k v).Pairwise (fun p q => p.1 ≠ q.1) := by
  unfold putM
  split
  · refine List.pairwise_map.2 (h.imp fun {p q} hpq => ?_)
    split <;> split <;> simp_all
  · rename_i hno
    refine List.pairwise_append.2 ⟨h, List.pairwise_singleton _ _, fun p hp q hq => ?_⟩
    simp only [List.mem_singleton] at hq
    subst hq
    intro e
    exact hno (List.any_eq_true.2 ⟨p, hp, by simpa using e⟩)
variable {P : Program} {K : TypeId} {w : World} {b : Nat} {M : List (κ × Value)}
omit [DecidableEq κ] in
theorem MapIs.made (w : World) : MapIs enc (w.alloc (.map #[] 0)) w.heap.size ([] : List (κ × Value)) :=
  ⟨#[], 0, heap_alloc_new w _, rfl, by simp, by simp, by simp⟩
omit [DecidableEq κ] in
theorem MapIs.lt (h : MapIs enc w b M) : b < w.heap.size := by
  obtain ⟨es, clock, hb, _⟩ := h
  exact (Array.getElem?_eq_some_iff.1 hb).1
omit [DecidableEq κ] in
theorem MapIs.kept {w' : World} {row : Option Nat} (h : MapIs enc w b M) (hg : w.grownBy w' row) (hne : some b ≠ row) : MapIs enc w' b M := by
  have hlt := h.lt
  obtain ⟨es, clock, hb, r⟩ := h
  exact ⟨es, clock, (hg.block b hlt hne).trans hb, r⟩
omit [DecidableEq κ] in
theorem MapIs.later {w' : World} (h : MapIs enc w b M) (hb : Below w.heap.size w w') : MapIs enc w' b M := h.kept (grown_of_below hb none) (by simp)
omit [DecidableEq κ] in
theorem MapIs.nodup (h : MapIs enc w b M) : M.Pairwise (fun p q => p.1 ≠ q.1) := by
  obtain ⟨_, _, _, _, _, _, h⟩ := h
  exact h
theorem findIdx_getM (M : List (κ × Value)) (k : κ) : ((M.findIdx? fun p => decide (p.1 = k)).map fun i => ((M[i]?).map (·.2)).getD undef) = getM M k := by
  unfold getM
  rw [List.find?_eq_bind_findIdx?_getElem?]
  cases h : M.findIdx? fun p => decide (p.1 = k) with
  | none => rfl
  | some i =>
    have hi := (List.findIdx?_eq_some_iff_getElem.1 h).1
    simp [List.getElem?_eq_getElem hi]
theorem run_getMap {es : Array MapEntry} {clock : Nat} (hb : w.heap[b]? = some (.map es clock)) : (getObj b).run P w = .ok (.map es clock) w := by
  simp [getObj, Sem.run, hb]
theorem run_setMap {es es' : Array MapEntry} {clock clock' : Nat} (hb : w.heap[b]? = some (.map es clock)) : (setObj b (.map es' clock')).run P w = .ok () { w with heap := w.heap.setIfInBounds b (.map es' clock') } := by
  simp [setObj, Sem.run, hb]
theorem grown_setMap {es es' : Array MapEntry} {clock clock' : Nat} (_hb : w.heap[b]? = some (.map es clock)) : w.grownBy { w with heap := w.heap.setIfInBounds b (.map es' clock') } (some b) :=
  ⟨rfl, rfl, rfl, by simp, fun k _ hne => by
    simp only [Array.getElem?_setIfInBounds]
    rw [if_neg (fun e => hne (by rw [e]))]⟩
theorem heap_setMap {es es' : Array MapEntry} {clock clock' : Nat} (hb : w.heap[b]? = some (.map es clock)) : ({ w with heap := w.heap.setIfInBounds b (.map es' clock') } : World).heap[b]? = some (.map es' clock') := by
  have hlt := (Array.getElem?_eq_some_iff.1 hb).1
  simp [hlt]
/-- 'm[k]', 'v, ok := m[k]' -/
theorem run_lookup {t e : TypeId} (F : KeyFit P K enc) (ht : P.underlying t = some (.map K e)) (h : MapIs enc w b M) (k : κ) (z : Value) (hz : (zeroValue e).run P w = .ok z w) (c : Bool) :
    (Instr.lookup t (.map (some b)) (enc k) c).run P w = .ok (if c then .tuple #[(getM M k).getD z, .bool (getM M k).isSome] else (getM M k).getD z) w := by
  obtain ⟨es, clock, hb, hM, _, _, _⟩ := h
  have hf := F.find k es.toList M w hM
  have hg := run_getMap (P := P) hb
  rw [← findIdx_getM]
  cases hi : M.findIdx? fun p => decide (p.1 = k) with
  | none =>
    rw [hi] at hf
    cases c <;> simp [Instr.lookup, run_underlying ht, hg, F.check, hf, hz]
  | some i =>
    rw [hi] at hf
    cases c <;> simp [Instr.lookup, run_underlying ht, hg, F.check, hf]
omit [DecidableEq κ] in
theorem any_findIdx {p : κ × Value → Bool} : M.any p = (M.findIdx? p).isSome := by
  cases h : M.findIdx? p with
  | none =>
    rw [List.findIdx?_eq_none_iff] at h
    simpa using h
  | some i =>
    obtain ⟨h1, h2, _⟩ := List.findIdx?_eq_some_iff_getElem.1 h
    rw [List.any_eq_true.2 ⟨_, List.getElem_mem h1, h2⟩]
    rfl
theorem putM_at {k : κ} {v : Value} {i : Nat} (hnd : M.Pairwise (fun p q => p.1 ≠ q.1)) (h : M.findIdx? (fun p => decide (p.1 = k)) = some i) : putM M k v = M.set i (k, v) := by
  obtain ⟨h1, h2, h3⟩ := List.findIdx?_eq_some_iff_getElem.1 h
  unfold putM
  rw [if_pos (by rw [any_findIdx, h]; rfl)]
  apply List.ext_getElem
  · simp
  · intro j hj hj'
    simp only [List.length_map] at hj
    rw [List.getElem_map, List.getElem_set]
    by_cases hij : i = j
    · subst hij
      simp at h2
      simp [h2]
    · rw [if_neg hij, if_neg]
      intro e
      have h2' : M[i].1 = k := by simpa using h2
      rcases Nat.lt_or_gt_of_ne hij with hlt | hlt
      · exact List.pairwise_iff_getElem.1 hnd i j h1 hj hlt (by rw [h2', e])
      · exact List.pairwise_iff_getElem.1 hnd j i hj h1 hlt (by rw [h2', e])
theorem modify_born (es : Array MapEntry) (i : Nat) (key val : Value) : (es.modify i fun e => { e with key, val }).toList.map (·.born) = es.toList.map (·.born) := by
  apply List.ext_getElem
  · simp
  · intro j h1 h2
    simp only [List.getElem_map, Array.getElem_toList, Array.getElem_modify]
    split <;> rfl
theorem modify_map (es : Array MapEntry) (i : Nat) (key val : Value) : (es.modify i fun e => { e with key, val }).toList.map (fun e => (e.key, e.val)) = (es.toList.map (fun e => (e.key, e.val))).set i (key, val) := by
  apply List.ext_getElem
  · simp
  · intro j h1 h2
    simp only [List.getElem_map, Array.getElem_toList, Array.getElem_modify, List.getElem_set]
    split <;> rfl
/-- 'm[k] = v' -/
theorem run_put {t e : TypeId} (F : KeyFit P K enc) (ht : P.underlying t = some (.map K e)) (h : MapIs enc w b M) (k : κ) (v : Value) :
    ∃ w', (Instr.mapUpdate t (.map (some b)) (enc k) v).run P w = .ok () w' ∧ MapIs enc w' b (putM M k v) ∧ w.grownBy w' (some b) := by
  have hnd := h.nodup
  obtain ⟨es, clock, hb, hM, hbo, hcl, _⟩ := h
  have hf := F.find k es.toList M w hM
  have hg := run_getMap (P := P) hb
  have hlen : es.size = M.length := by
    have := congrArg List.length hM
    simpa using this
  cases hi : M.findIdx? fun p => decide (p.1 = k) with
  | none =>
    rw [hi] at hf
    refine ⟨_, by simp [Instr.mapUpdate, run_underlying ht, hg, F.check, hf, run_setMap hb]; rfl, ⟨_, _, heap_setMap hb, ?_, ?_, ?_, putM_nodup hnd k v⟩, grown_setMap hb⟩
    · unfold putM
      rw [if_neg (by rw [any_findIdx, hi]; simp)]
      simp [hM]
    · rw [Array.toList_push, List.pairwise_append]
      refine ⟨hbo, List.pairwise_singleton _ _, fun x hx y hy => ?_⟩
      simp only [List.mem_singleton] at hy
      subst hy
      exact hcl x hx
    · intro x hx
      rw [Array.toList_push, List.mem_append] at hx
      rcases hx with hx | hx
      · exact Nat.lt_succ_of_lt (hcl x hx)
      · simp only [List.mem_singleton] at hx; subst hx; exact Nat.lt_succ_self _
  | some i =>
    rw [hi] at hf
    obtain ⟨h1, h2, h3⟩ := List.findIdx?_eq_some_iff_getElem.1 hi
    have hie : i < es.size := by omega
    have hkey : es[i].key = enc k := by
      have h4 : (es.toList.map (fun e => (e.key, e.val)))[i]? = (M.map (fun p => (enc p.1, p.2)))[i]? := by rw [hM]
      simp [hie, h1] at h4
      rw [h4.1, show M[i].1 = k by simpa using h2]
    refine ⟨_, by simp [Instr.mapUpdate, run_underlying ht, hg, F.check, hf, hie, hkey, Instr.keyThatStays, F.bits, run_setMap hb]; rfl, ⟨_, _, heap_setMap hb, ?_, ?_, ?_, putM_nodup hnd k v⟩, grown_setMap hb⟩
    · rw [putM_at hnd hi, modify_map, hM, List.map_set]
    · rw [← List.pairwise_map (f := fun x : MapEntry => x.born), modify_born]
      exact List.pairwise_map.2 hbo
    · intro x hx
      have h5 : x.born ∈ (es.modify i fun e => { e with key := enc k, val := v }).toList.map (·.born) := List.mem_map.2 ⟨x, hx, rfl⟩
      rw [modify_born] at h5
      obtain ⟨y, hy, hyx⟩ := List.mem_map.1 h5
      rw [← hyx]
      exact hcl y hy
theorem delM_at {k : κ} {i : Nat} (hnd : M.Pairwise (fun p q => p.1 ≠ q.1)) (h : M.findIdx? (fun p => decide (p.1 = k)) = some i) : delM M k = M.eraseIdx i := by
  obtain ⟨h1, h2, h3⟩ := List.findIdx?_eq_some_iff_getElem.1 h
  have h2' : M[i].1 = k := by simpa using h2
  have e : M = M.take i ++ M[i] :: M.drop (i + 1) := by rw [← List.drop_eq_getElem_cons h1, List.take_append_drop]
  unfold delM
  rw [List.eraseIdx_eq_take_drop_succ]
  conv => lhs; rw [e]
  rw [List.filter_append, List.filter_cons_of_neg (by simp [h2']), List.filter_eq_self.2, List.filter_eq_self.2]
  · intro p hp
    rw [e] at hnd
    have h4 := (List.pairwise_cons.1 (List.pairwise_append.1 hnd).2.1).1 p hp
    simp only [Bool.not_eq_true', decide_eq_false_iff_not]
    exact fun e' => h4 (by rw [h2', e'])
  · intro p hp
    obtain ⟨j, hj, rfl⟩ := List.getElem_of_mem hp
    simp only [List.length_take] at hj
    rw [List.getElem_take]
    have := h3 j (by omega)
    simpa using this
theorem delM_none {k : κ} (h : M.findIdx? (fun p => decide (p.1 = k)) = none) : delM M k = M := by
  unfold delM
  refine List.filter_eq_self.2 fun p hp => ?_
  rw [List.findIdx?_eq_none_iff] at h
  simpa using h p hp
/-- 'delete(m, k)' -/
theorem run_del {t e : TypeId} (F : KeyFit P K enc) (ht : P.underlying t = some (.map K e)) (h : MapIs enc w b M) (k : κ) (ty kt : TypeId) :
    ∃ w', (Builtin.delete_ #[t, kt] ty #[.map (some b), enc k]).run P w = .ok (.tuple #[]) w' ∧ MapIs enc w' b (delM M k) ∧ w.grownBy w' (some b) := by
  have hnd := h.nodup
  obtain ⟨es, clock, hb, hM, hbo, hcl, _⟩ := h
  have hf := F.find k es.toList M w hM
  have hg := run_getMap (P := P) hb
  have hlen : es.size = M.length := by
    have := congrArg List.length hM
    simpa using this
  cases hi : M.findIdx? fun p => decide (p.1 = k) with
  | none =>
    rw [hi] at hf
    refine ⟨_, by simp [Builtin.delete_, run_underlying ht, hg, F.check, hf, run_setMap hb], ⟨_, _, heap_setMap hb, by rw [delM_none hi]; exact hM, hbo, hcl, by rw [delM_none hi]; exact hnd⟩, grown_setMap hb⟩
  | some i =>
    rw [hi] at hf
    obtain ⟨h1, h2, h3⟩ := List.findIdx?_eq_some_iff_getElem.1 hi
    have hie : i < es.size := by omega
    have htl : (es.eraseIdxIfInBounds i).toList = es.toList.eraseIdx i := by
      rw [Array.eraseIdxIfInBounds, dif_pos hie, Array.toList_eraseIdx]
    refine ⟨_, by simp [Builtin.delete_, run_underlying ht, hg, F.check, hf, run_setMap hb]; rfl, ⟨_, _, heap_setMap hb, ?_, ?_, ?_, ?_⟩, grown_setMap hb⟩
    · rw [delM_at hnd hi, htl, ChangeMaps.map_eraseIdx, ChangeMaps.map_eraseIdx, hM]
    · rw [htl]; exact hbo.sublist (List.eraseIdx_sublist _ _)
    · rw [htl]; exact fun x hx => hcl x (List.mem_of_mem_eraseIdx hx)
    · rw [delM_at hnd hi]; exact hnd.sublist (List.eraseIdx_sublist _ _)
omit [DecidableEq κ] in
/-- 'len(m)' -/
theorem run_lenM {t e : TypeId} (ht : P.underlying t = some (.map K e)) (h : MapIs enc w b M) (ty : TypeId) : (Builtin.len_ #[t] ty #[.map (some b)]).run P w = .ok (.int .i64 M.length) w := by
  obtain ⟨es, clock, hb, hM, _, _, _⟩ := h
  have hlen : es.size = M.length := by
    have := congrArg List.length hM
    simpa using this
  simp [Builtin.len_, run_underlying ht, run_getMap (P := P) hb, goInt, hlen]

variable {ops : Array Oper} {rest : List Oper} {o : Oper} {a : Act} {Q : Exit → Act → World → Prop}
theorem wpList_put (hgd : o.guard = none) (d : Option Nat) (m x y : Operand) (t : TypeId) (hop : o.op = Op.mapUpdate t m x y) (hd : o.dst = d) {e : TypeId} (F : KeyFit P K enc) (ht : P.underlying t = some (.map K e))
    (hm : a.eval m = .map (some b)) (h : MapIs enc w b M) (k : κ) (v : Value) (hx : a.eval x = enc k) (hy : a.eval y = v)
    (hK : ∀ w', MapIs enc w' b (putM M k v) → w.grownBy w' (some b) → wpList P ops Q rest (a.put d undef) w') : wpList P ops Q (o :: rest) a w := by
  subst hd
  obtain ⟨w', hrun, h1, h2⟩ := run_put F ht h k v
  refine wpList_plain hgd fun K' hK' => ?_
  unfold Oper.wp
  simp [execOp, hop, hm, hx, hy, hrun, Result.andThen]
  exact hK' _ _ (hK _ h1 h2)
theorem wpList_del (hgd : o.guard = none) (d : Option Nat) (m x : Operand) (t kt : TypeId) (hop : o.op = .call { callee := .builtin .delete, args := #[m, x], argTypes := #[t, kt] }) (hd : o.dst = d) {e : TypeId} (F : KeyFit P K enc) (ht : P.underlying t = some (.map K e))
    (hm : a.eval m = .map (some b)) (h : MapIs enc w b M) (k : κ) (hx : a.eval x = enc k)
    (hK : ∀ w', MapIs enc w' b (delM M k) → w.grownBy w' (some b) → wpList P ops Q rest (a.put d (.tuple #[])) w') : wpList P ops Q (o :: rest) a w := by
  subst hd
  obtain ⟨w', hrun, h1, h2⟩ := run_del F ht h k o.type kt
  refine wpList_plain hgd fun K' hK' => ?_
  unfold Oper.wp execOp
  simp only [hop, resolve, invoke, builtin, Sem.run_bind, Sem.run_pure, Result.andThen_ok, List.map_toArray, List.map_cons, List.map_nil, hm, hx, hrun]
  exact hK' _ _ (hK _ h1 h2)
end
end Go.Proofs.YtmljlkjomjflpaaGreat

/- Keys of maps: texts, integers, Ids -/
namespace Go.Proofs.YtmljlkjomjflpaaGreat
open Go.RowKit
section
variable {P : Program} {κ : Type} [DecidableEq κ] {enc : κ → Value}
theorem findNow_fit (d : TypeDesc) (hs : ∀ a b, Instr.sameNow d (enc a) (enc b) = some (decide (b = a))) (k : κ) : ∀ (es : List MapEntry) (M : List (κ × Value)) (i : Nat), es.map (fun e => (e.key, e.val)) = M.map (fun p => (enc p.1, p.2)) →
    Instr.findNow d (enc k) es i = some ((M.findIdx? fun p => decide (p.1 = k)).map fun j => (i + j, ((M[j]?).map (·.2)).getD undef))
  | [], [], i, _ => rfl
  | [], _ :: _, _, h => by simp at h
  | _ :: _, [], _, h => by simp at h
  | e :: es, p :: M, i, h => by
    simp only [List.map_cons, List.cons.injEq, Prod.mk.injEq] at h
    obtain ⟨⟨h1, h2⟩, h3⟩ := h
    rw [Instr.findNow, h1, hs, List.findIdx?_cons]
    by_cases hp : p.1 = k
    · simp [hp, h2]
    · have hd : decide (p.1 = k) = false := decide_eq_false hp
      rw [hd]
      simp only [Bool.false_eq_true, if_false]
      rw [findNow_fit d hs k es M (i + 1) h3]
      cases M.findIdx? fun p => decide (p.1 = k) with
      | none => rfl
      | some j => simp; omega
theorem findAsking_fit (K : TypeId) (heq : ∀ a b w, (Op.equal K (enc a) (enc b)).run P w = .ok (decide (a = b)) w) (k : κ) : ∀ (es : List MapEntry) (M : List (κ × Value)) (i : Nat) (w : World), es.map (fun e => (e.key, e.val)) = M.map (fun p => (enc p.1, p.2)) →
    (Instr.findAsking K (enc k) es i).run P w = .ok ((M.findIdx? fun p => decide (p.1 = k)).map fun j => (i + j, ((M[j]?).map (·.2)).getD undef)) w
  | [], [], i, w, _ => rfl
  | [], _ :: _, _, _, h => by simp at h
  | _ :: _, [], _, _, h => by simp at h
  | e :: es, p :: M, i, w, h => by
    simp only [List.map_cons, List.cons.injEq, Prod.mk.injEq] at h
    obtain ⟨⟨h1, h2⟩, h3⟩ := h
    rw [Instr.findAsking, h1, List.findIdx?_cons]
    by_cases hp : p.1 = k
    · simp [heq, hp, h2]
    · have hd : decide (p.1 = k) = false := decide_eq_false hp
      have hd' : decide (k = p.1) = false := decide_eq_false fun e => hp e.symm
      rw [hd]
      simp only [Sem.run_bind, heq, Result.andThen_ok, hd', Bool.false_eq_true, if_false]
      rw [findAsking_fit K heq k es M (i + 1) w h3]
      cases M.findIdx? fun p => decide (p.1 = k) with
      | none => rfl
      | some j => simp; omega
theorem fit_now {K : TypeId} {d : TypeDesc} (hd : P.underlying K = some d) (hs : ∀ a b, Instr.sameNow d (enc a) (enc b) = some (decide (b = a))) (hc : ∀ (empty : Bool) (k : κ) (w : World), (Instr.checkKey empty 10000 K (enc k)).run P w = .ok () w) (hb : ∀ k, Instr.sameBits 10000 (enc k) (enc k) = true) : KeyFit P K enc where
  check := hc
  bits := hb
  find k es M w h := by
    have := findNow_fit d hs k es M 0 h
    simp only [Nat.zero_add] at this
    simp [Instr.findKey, run_underlying hd, this]
theorem fit_asking {K : TypeId} {d : TypeDesc} (hd : P.underlying K = some d) (hs : ∀ a b, Instr.sameNow d (enc a) (enc b) = none) (heq : ∀ a b w, (Op.equal K (enc a) (enc b)).run P w = .ok (decide (a = b)) w) (hc : ∀ (empty : Bool) (k : κ) (w : World), (Instr.checkKey empty 10000 K (enc k)).run P w = .ok () w) (hb : ∀ k, Instr.sameBits 10000 (enc k) (enc k) = true) : KeyFit P K enc where
  check := hc
  bits := hb
  find k es M w h := by
    have h1 := findAsking_fit (P := P) K heq k es M 0 w h
    simp only [Nat.zero_add] at h1
    cases es with
    | nil =>
      cases M with
      | nil => simp [Instr.findKey, run_underlying hd, Instr.findNow]
      | cons p M => simp at h
    | cons e es =>
      cases M with
      | nil => simp at h
      | cons p M =>
        have h0 : e.key = enc p.1 := by
          simp only [List.map_cons, List.cons.injEq, Prod.mk.injEq] at h
          exact h.1.1
        have h2 : Instr.findNow d (enc k) (e :: es) 0 = none := by rw [Instr.findNow, h0, hs]
        simp only [Instr.findKey, Sem.run_bind, run_underlying hd, Result.andThen_ok, h2]
        exact h1
end
theorem check_str (empty : Bool) (n : Nat) (s : ByteArray) (w : World) : (Instr.checkKey empty (n + 1) 9 (.string s)).run Tryz.prog w = .ok () w := by
  simp [Instr.checkKey, run_underlying Tryz.underlying9]
theorem check_int (empty : Bool) (n : Nat) (k : Int) (w : World) : (Instr.checkKey empty (n + 1) 3 (i64 k)).run Tryz.prog w = .ok () w := by
  simp [Instr.checkKey, run_underlying Tryz.underlying3]
theorem beqS_self (s : ByteArray) : (s == s) = true := by rw [beq_toListBytes]; simp
theorem strKey : KeyFit Tryz.prog 9 Value.string :=
  fit_now Tryz.underlying9 (fun a b => by
      simp only [Instr.sameNow, Option.some.injEq]
      by_cases h : a = b
      · subst h; rw [beqS_self]; simp
      · rw [decide_eq_false (fun e => h e.symm)]
        have := beqS_of_ne h
        rw [beq_toListBytes]; exact this)
    (fun empty k w => check_str empty 9999 k w) (fun k => by simp only [Instr.sameBits]; exact beqS_self k)
theorem intKey : KeyFit Tryz.prog 3 i64 :=
  fit_now Tryz.underlying3 (fun a b => by
      simp only [Instr.sameNow, Option.some.injEq, if_true]
      by_cases h : a = b
      · subst h; simp
      · rw [decide_eq_false (fun e => h e.symm)]; simpa using h)
    (fun empty k w => check_int empty 9999 k w) (fun k => by simp [Instr.sameBits])
end Go.Proofs.YtmljlkjomjflpaaGreat

/- append onto a row of the call's own: one datum, or a slice of data. No program. -/
namespace Go.Proofs.YtmljlkjomjflpaaGreat
open Go.RowKit

section
variable {α : Type} [Enc α] {P : Program} {w : World} {base : Nat} {e : TypeId} {v : Value} {l : List α}

theorem flat_oneCell (l : List α) : ∀ u ∈ l.flatMap Enc.cells, u.oneCell' = true := by
  intro u hu
  obtain ⟨x, _, hx⟩ := List.mem_flatMap.1 hu
  exact Enc.one x u hx

/-- the elements of a row are where they were, whatever has become of the row -/
theorem oth_grown {w' : World} {v' : Value} (hg : w.grownBy w' v.ownBlock) (hat : v'.ownBlock = v.ownBlock ∨ v'.ownBlock = some w.heap.size) {x : α} (hx : Enc.ok w (Oth w v) x) : Enc.ok w' (Oth w' v') x := by
  refine Enc.keep hx (fun p hp => World.cell?_of_block (hg.block _ hp.1 hp.2)) (fun b hb => ⟨Nat.lt_of_lt_of_le hb.1 hg.size, ?_⟩)
  rcases hat with h | h
  · rw [h]; exact hb.2
  · rw [h]
    intro hh
    injection hh with hh
    have := hb.1
    omega

theorem run_append_slice (t ty : TypeId) (z : Value) (bytes : Nat) (ht : P.underlying t = some (.slice e)) (hinf : (P.info? e).map (fun i => (i.zero, i.size, i.bytes)) = some (some z, Enc.size α, bytes)) (hzs : z.cells.size = Enc.size α) (hsz : 0 < Enc.size α) (hby : bytes ≤ 1000)
    (h : Own w base e v l) (A : Option Addr) (c : Nat) (ys : List α) (hs : SlS w (Oth w v) A c ys) (hlen : l.length + ys.length ≤ 4294967296) (hbase : base ≤ w.heap.size) :
    ∃ v' w', (Builtin.append_ #[t, t] ty #[v, .slice A ys.length c]).run P w = .ok v' w' ∧ Own w' base e v' (l ++ ys) ∧ w.grownBy w' v.ownBlock ∧ (v'.ownBlock = v.ownBlock ∨ v'.ownBlock = some w.heap.size) := by
  obtain ⟨i, hi, hz, hz1, hz2⟩ := info_parts hinf
  have hbytes : (l.length + ys.length) * bytes ≤ 140737488355328 := Nat.le_trans (Nat.mul_le_mul hlen hby) (by decide)
  have h63 : l.length + ys.length ≤ maxLen := by simp only [maxLen]; omega
  rcases A with _ | ad
  · have hy : ys = [] := by
      rcases ys with _ | ⟨y, r⟩
      · rfl
      · obtain ⟨_, _, hA, _⟩ := hs.2.2.1 (by simp)
        cases hA
    subst hy
    refine ⟨v, w, ?_, by simpa using h, World.grownBy.refl w _, .inl rfl⟩
    rcases h.1.2 with ⟨rfl, _⟩ | ⟨g, cap, cur, rfl, _, _, hnc, _⟩
    · simp [Builtin.append_, run_underlying ht, sizeOf, typeInfo, hi, Builtin.lenOf, Builtin.firstCells]
    · simp [Builtin.append_, run_underlying ht, sizeOf, typeInfo, hi, Builtin.lenOf, Builtin.firstCells, hnc, storeCells]
  · have hcells : ∀ j u, (ys.flatMap Enc.cells)[j]? = some u → w.cell? (ad.add j) = some u := by
      intro j u hu
      have hn : 0 < ys.length := by
        rcases ys with _ | ⟨y, r⟩
        · simp at hu
        · simp
      obtain ⟨b, o, hA, _, hc⟩ := hs.2.2.1 hn
      injection hA with hA
      subst hA
      have := hc j u hu
      have hadd : (⟨b, o, none⟩ : Addr).add j = ⟨b, o + j, none⟩ := by unfold Addr.add; split <;> simp_all
      rw [hadd]; exact this
    obtain ⟨v', w', hrun, h2, h3, _, h5⟩ := run_append_own_at (P := P) w base t ty e i z (Enc.size α) bytes ht hi hz hz1 hz2 hzs hsz v l.length _ h.1 ad ys.length c _ (flat_len ys) hcells (flat_oneCell ys) h63 hbytes hbase
    refine ⟨v', w', hrun, ⟨by rw [List.length_append, List.flatMap_append]; exact h2, fun x hx => ?_⟩, h3, h5⟩
    rcases List.mem_append.1 hx with hx | hx
    · exact oth_grown h3 h5 (h.2 x hx)
    · exact oth_grown h3 h5 (hs.2.2.2 x hx)

theorem wpList_append_slice {ops : Array Oper} {rest : List Oper} {o : Oper} {a : Act} {Q : Exit → Act → World → Prop} (hgd : o.guard = none) (d : Option Nat) (s x : Operand) (t : TypeId)
    (ho : o.op = .call { callee := .builtin .append, args := #[s, x], argTypes := #[t, t] }) (hd : o.dst = d) (z : Value) (bytes : Nat) (ht : P.underlying t = some (.slice e)) (hinf : (P.info? e).map (fun i => (i.zero, i.size, i.bytes)) = some (some z, Enc.size α, bytes)) (hzs : z.cells.size = Enc.size α) (hsz : 0 < Enc.size α) (hby : bytes ≤ 1000)
    (hs : a.eval s = v) (h : Own w base e v l) (A : Option Addr) (n c : Nat) (ys : List α) (hx : a.eval x = .slice A n c) (hn : n = ys.length) (hsl : SlS w (Oth w v) A c ys) (hlen : l.length + ys.length ≤ 4294967296) (hbase : base ≤ w.heap.size)
    (hK : ∀ v' w', Own w' base e v' (l ++ ys) → w.grownBy w' v.ownBlock → (v'.ownBlock = v.ownBlock ∨ v'.ownBlock = some w.heap.size) → wpList P ops Q rest (a.put d v') w') : wpList P ops Q (o :: rest) a w := by
  subst hd hn
  obtain ⟨v', w', hrun, h2, h3, h4⟩ := run_append_slice (P := P) t o.type z bytes ht hinf hzs hsz hby h A c ys hsl hlen hbase
  refine wpList_plain hgd fun K hk => ?_
  unfold Oper.wp execOp
  simp only [ho, resolve, invoke, builtin, Sem.run_bind, Sem.run_pure, Result.andThen_ok, List.map_toArray, List.map_cons, List.map_nil, hs, hx, hrun]
  exact hk _ _ (hK v' w' h2 h3 h4)

/-- 'append(s, y)': y lies alone in a new block -/
theorem wpList_append_one {ops : Array Oper} {rest : List Oper} {o : Oper} {a : Act} {Q : Exit → Act → World → Prop} (hgd : o.guard = none) (d : Option Nat) (s x : Operand) (t : TypeId)
    (ho : o.op = .call { callee := .builtin .append, args := #[s, x], argTypes := #[t, t] }) (hd : o.dst = d) (z : Value) (bytes : Nat) (ht : P.underlying t = some (.slice e)) (hinf : (P.info? e).map (fun i => (i.zero, i.size, i.bytes)) = some (some z, Enc.size α, bytes)) (hzs : z.cells.size = Enc.size α) (hsz : 0 < Enc.size α) (hby : bytes ≤ 1000)
    (hs : a.eval s = v) (h : Own w base e v l) (g : Nat) (y : α) (hx : a.eval x = .slice (some ⟨g, 0, none⟩) 1 1) (cs : Array Value) (te : TypeId) (hg : w.heap[g]? = some (.cells cs te (0, 0))) (hcs : cs.toList = Enc.cells y) (hne : some g ≠ v.ownBlock) (hy : Enc.ok w (Oth w v) y)
    (hlen : l.length + 1 ≤ 4294967296) (hbase : base ≤ w.heap.size)
    (hK : ∀ v' w', Own w' base e v' (l ++ [y]) → w.grownBy w' v.ownBlock → (v'.ownBlock = v.ownBlock ∨ v'.ownBlock = some w.heap.size) → wpList P ops Q rest (a.put d v') w') : wpList P ops Q (o :: rest) a w := by
  refine wpList_append_slice hgd d s x t ho hd z bytes ht hinf hzs hsz hby hs h (some ⟨g, 0, none⟩) 1 1 [y] hx rfl ⟨Nat.le_refl _, by simp [maxLen], fun _ => ⟨g, 0, rfl, ⟨(Array.getElem?_eq_some_iff.1 hg).1, hne⟩, fun j u hu => ?_⟩, fun x hx => ?_⟩ hlen hbase hK
  · rw [cell_of_row w g (0 + j) cs te (0, 0) hg, Nat.zero_add]
    simp only [List.flatMap_cons, List.flatMap_nil, List.append_nil, ← hcs] at hu
    simpa using hu
  · simp only [List.mem_singleton] at hx
    subst hx; exact hy
/-- what lies below the base of a row of the call's own lies in other blocks than the row -/
theorem Own.oth {B : Nat} (h : Own w base e v l) (hB : B ≤ base) (hw : B ≤ w.heap.size) : ∀ b, b < B → Oth w v b := by
  intro b hb
  refine ⟨by omega, fun hv => ?_⟩
  have := (h.1.lt b hv.symm).1
  omega
/-- a slice literal -/
theorem own_lit {w : World} {base : Nat} (e : TypeId) (cs : Array Value) (l : List α) (hb : base ≤ w.heap.size) (hcs : cs.toList = l.flatMap Enc.cells) (hm : l.length ≤ 65536) (hok : ∀ x ∈ l, Okb w w.heap.size x) : Own (w.alloc (.cells cs e)) base e (.slice (some ⟨w.heap.size, 0, none⟩) l.length l.length) l := by
  refine ⟨⟨flat_len l, .inr ⟨w.heap.size, l.length, cs, rfl, hb, heap_alloc_new w _, Nat.le_refl _, by simp only [maxLen]; omega, by rw [← Array.length_toList, hcs, flat_len], by rw [hcs, ← flat_len, List.take_length]⟩⟩, fun x hx => Enc.keep (hok x hx) (fun p hp => World.cell?_alloc_lt w _ p hp) (fun b hb => ⟨Nat.lt_of_lt_of_le hb (by simp), fun h => ?_⟩)⟩
  simp only [Value.ownBlock, Option.some.injEq] at h
  omega
theorem Own.new_ne (h : Own w base e v l) {g : Nat} (hg : w.heap.size ≤ g) : some g ≠ v.ownBlock := by
  intro hv
  have := (h.1.lt g hv.symm).2
  omega
theorem Own.below {w' : World} {B : Nat} (h : Own w base e v l) (hg : w.grownBy w' v.ownBlock) (hB : B ≤ base) (hw : B ≤ w.heap.size) : Below B w w' :=
  below_of_grown hg hw (fun g hv => Nat.le_trans hB (h.1.lt g hv).1)
end
end Go.Proofs.YtmljlkjomjflpaaGreat

/- Small things -/
namespace Go.Proofs.YtmljlkjomjflpaaGreat
open Go.RowKit
theorem below_on {n : Nat} {a b c : World} (h : Below n a b) (hn : n ≤ a.heap.size) (k : Below b.heap.size b c) : Below n a c := h.trans (k.mono (Nat.le_trans hn h.size))
theorem Own.sl_of {α : Type} [Enc α] {w : World} {base : Nat} {e : TypeId} {A : Option Addr} {n c : Nat} {l : List α} (h : Own w base e (.slice A n c) l) : Sl w w.heap.size A c l := by
  obtain ⟨A', c', hv, hs⟩ := h.sl
  injection hv with h1 h2 h3
  subst h1 h3
  exact hs
theorem results_cell_row_tmp {P : Program} {fn : Func} {p u : Tmp} {ty : TypeId} (h : fn.results = #[.cell p ty, .tmp u]) (tmps : Array Value) (w : World) (g : Nat) (t : TypeId) (cs : Array Value) (fr : Nat × Nat) (d : TypeDesc)
    (hp : tmps.getD p undef = .pointer (some ⟨g, 0, none⟩)) (hg : w.heap[g]? = some (.cells cs t fr))
    (hu : P.underlying ty = some d) (hd : (match d with | .struct _ | .array _ _ => true | _ => false) = true) (hi : (P.info? ty).map (·.size) = some cs.size) :
    (results fn tmps).run P w = .ok (.tuple #[.agg cs, tmps.getD u undef]) w := by
  rw [results_cell_tmp h, hp]
  simp [asAddr, run_loadVar_row w g t ty cs fr d hg hu hd hi, Result.andThen]
end Go.Proofs.YtmljlkjomjflpaaGreat
