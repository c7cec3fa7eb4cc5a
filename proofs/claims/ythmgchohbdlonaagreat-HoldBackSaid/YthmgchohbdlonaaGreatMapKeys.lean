/- A map with texts as keys, as the kit's sorted keys read it. No program. -/
import Derived.Maps.Own
import Derived.Sort.KeysCollected
import Derived.Test.YthmgchohbdlonaaGreatData
import Derived.Test.YthmgchohbdlonaaGreatOrd
import Derived.Test.YthmgchohbdlonaaGreatMap
namespace Go.Proofs.YthmgchohbdlonaaGreat
open Go.WideElems (Fit rd rg rd_mk rg_of)

def anyR : Value → Option (DataW Unit × List MemPlace) := fun _ => some (.lit (.bool true), [])
def bytesOf : Value → List UInt8
  | .string s => s.data.toList
  | _ => []
theorem ownsMap_of {P : Program} {k : TypeId} (hk : P.underlying k = some .string) {w : World} {b : Nat} {M : List (ByteArray × Value)} (h : MapIs Value.string w b M) (hn : M.length ≤ maxLen) (hs : ∀ p ∈ M, p.1.size ≤ maxLen) :
    ∃ D0 : DataW Unit, w.ownsMap P k anyR b M.length D0 ∧ (strKeys D0).Perm (M.map fun p => p.1.data.toList) ∧ Maps.size D0 = M.length := by
  obtain ⟨es, clock, hb, he, hpw, hcl, hnd⟩ := h
  have hlen : es.size = M.length := by have := congrArg List.length he; simpa using this
  have hkey : ∀ x ∈ es.toList, ∃ p ∈ M, x.key = .string p.1 := fun x hx => by
    have : (x.key, x.val) ∈ M.map (fun p => (Value.string p.1, p.2)) := by rw [← he]; exact List.mem_map.2 ⟨x, hx, rfl⟩
    obtain ⟨p, hp, e⟩ := List.mem_map.1 this
    injection e with e1 e2
    exact ⟨p, hp, e1.symm⟩
  have hrd : ∀ x ∈ es.toList, rd P k anyR x = some (.string (bytesOf x.key), .lit (.bool true)) := fun x hx => by
    obtain ⟨p, hp, e⟩ := hkey x hx
    have h1 : keyOf P k x.key = some (.string p.1.data.toList) := by rw [e]; exact WideMaps.keyOf_string_mk hk (hs p hp)
    have := rd_mk (R := anyR) (val := x.val) (born := x.born) h1 rfl
    rw [e]
    exact this
  have hkeys : (es.toList.map (·.key)) = M.map (fun p => Value.string p.1) := by
    have := congrArg (List.map Prod.fst) he
    simpa [List.map_map, Function.comp_def] using this
  refine ⟨_, ⟨es, clock, hb, ⟨by omega, ⟨hcl, ?_, ?_⟩, fun x hx => ⟨_, hrd x hx⟩⟩, by omega, rfl⟩, ?_, ?_⟩
  · exact List.pairwise_map.2 (hpw.imp fun h => Nat.ne_of_lt h)
  · rw [hkeys]
    exact List.pairwise_map.2 (hnd.imp fun h e => h (by injection e))
  · show ((List.foldr DataW.insert [] (es.toList.map (rg P k anyR))).map fun p => strOf p.1).Perm _
    refine ((WideShapes.sorted_perm _).map _).trans (List.Perm.of_eq ?_)
    rw [List.map_map]
    have h1 : es.toList.map ((fun p : Lit × DataW Unit => strOf p.1) ∘ rg P k anyR) = es.toList.map (fun x => bytesOf x.key) := List.map_congr_left fun x hx => by
      simp only [Function.comp_def, rg_of (hrd x hx)]
      rfl
    rw [h1]
    have := congrArg (List.map bytesOf) hkeys
    rw [List.map_map, List.map_map] at this
    exact this
  · show (List.foldr DataW.insert [] (es.toList.map (rg P k anyR))).length = _
    rw [(WideShapes.sorted_perm _).length_eq, List.length_map, Array.length_toList, hlen]
theorem bl_lt : ∀ {a b : List UInt8}, Op.bytesLess a b = true → a < b
  | _, [], h => by simp [Op.bytesLess] at h
  | [], _ :: _, _ => List.nil_lt_cons _ _
  | x :: r, y :: s, h => by
    simp only [Op.bytesLess, Bool.or_eq_true, decide_eq_true_eq, Bool.and_eq_true, beq_iff_eq] at h
    rcases h with h | ⟨rfl, h⟩
    · exact List.cons_lt_cons_iff.2 (.inl h)
    · exact List.cons_lt_cons_iff.2 (.inr ⟨rfl, bl_lt h⟩)
theorem bless_le {a b : ByteArray} (h : bless a b = true) : a.data.toList ≤ b.data.toList := by
  unfold bless at h
  rw [ByteArray.toList_eq, ByteArray.toList_eq] at h
  exact List.le_of_lt (bl_lt h)
/-- what the kit's sort hands back, where the keys are known in order -/
theorem sorted_keys {ss : List (List UInt8)} {N : List ByteArray} (hp : ss.Perm (N.map fun a => a.data.toList)) (hs : N.Pairwise fun a b => bless a b = true) : (ss.mergeSort (fun x y => decide (x ≤ y))).map _root_.Go.Proofs.encStr = N.map Value.string := by
  have e : ss.mergeSort (fun x y => decide (x ≤ y)) = N.map fun a => a.data.toList := by
    have tr : ∀ a b c : List UInt8, leB a b = true → leB b c = true → leB a c = true := fun a b c h1 h2 => by simp only [leB, decide_eq_true_eq] at *; exact List.le_trans h1 h2
    have to : ∀ a b : List UInt8, (leB a b || leB b a) = true := fun a b => by simp only [leB, Bool.or_eq_true, decide_eq_true_eq]; exact List.le_total a b
    refine List.Perm.eq_of_pairwise (le := fun a b => leB a b = true) (fun a b _ _ h1 h2 => ?_) (List.pairwise_mergeSort tr to ss) ?_ ((List.mergeSort_perm ss leB).trans hp)
    · simp only [leB, decide_eq_true_eq] at h1 h2
      exact List.le_antisymm h1 h2
    · rw [List.pairwise_map]
      exact hs.imp fun h => decide_eq_true (bless_le h)
  rw [e, List.map_map]
  refine List.map_congr_left fun a _ => ?_
  obtain ⟨⟨x⟩⟩ := a
  rfl
end Go.Proofs.YthmgchohbdlonaaGreat
