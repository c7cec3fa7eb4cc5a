/- The plain laws of clash's statements -/
import Derived.Test.YtogecfddkohigaaRows
import Derived.Test.YtogecfddkohigaaBeg
import Derived.Test.YtogecfddkohigaaFewBase
import Derived.WalkKit
import Derived.WalkSpells
import Derived.WalkLawsBesides
import Derived.Deep.QuietTactic
import Derived.BigQuiet
import Derived.Laws.StructEq
import Derived.Deep.DeepFit
import Derived.StillTailTactics
namespace Go.Proofs.Ytogecfddkohigaa
open Go.RowKit
theorem valK {l : List Od} (h : Val l) : Val (K l) := validL_iff.1 (by rw [validL_core]; exact validL_iff.2 h)
theorem ownK_at {l : List Od} : ∀ {k : Nat}, k ≤ l.length → ∀ {y : Od}, y ∈ ownK l k → ∃ j, j < k ∧ l[j]? = some y
  | 0, _, _, h => by simp [ownK] at h
  | k + 1, hk, y, h => by
    rw [ownK_succ (by omega)] at h
    split at h
    · rcases List.mem_append.1 h with h | h
      · obtain ⟨j, hj, e⟩ := ownK_at (by omega) h
        exact ⟨j, by omega, e⟩
      · rw [List.mem_singleton.1 h]
        exact ⟨k, by omega, List.getElem?_eq_getElem (by omega)⟩
    · obtain ⟨j, hj, e⟩ := ownK_at (by omega) h
      exact ⟨j, by omega, e⟩
theorem val_ownK {l : List Od} : ∀ {k : Nat}, k ≤ l.length → Val (ownK l k)
  | 0, _ => by simp [ownK]; exact val_nil
  | k + 1, hk => by
    rw [ownK_succ (by omega)]
    split
    · rename_i h
      refine val_snoc.2 ⟨val_ownK (by omega), fun y hy e => ?_⟩
      obtain ⟨j, hj, ej⟩ := ownK_at (by omega) hy
      obtain ⟨hjl, ej⟩ := List.getElem?_eq_some_iff.1 ej
      unfold atIdx idxP at h
      split at h
      · rename_i k' hk'
        have : k' = k := by omega
        subst this
        have h2 := (List.findIdx?_eq_some_iff_getElem.1 hk').2.2 j hj
        rw [ej] at h2
        simp [e] at h2
      · omega
    · exact val_ownK (by omega)
theorem val_own (l : List Od) : Val (ownL l) := val_ownK (Nat.le_refl _)
theorem own_small (n : Nat) (l : List Od) : (ownL (fewL n l)).length ≤ n := Nat.le_trans (ownK_len _ _) (fewL_le n l)
theorem own_legs (n : Nat) (l : List Od) : fewLegs (ownL (fewL n l)) := fun x hx => Nat.le_trans (fewL_legs n l x (ownK_sub _ _ x hx)) (by decide)
theorem at_in {l : List Od} {i : Id} (h : ∃ y ∈ l, y.id = i) : 0 ≤ atIdx l i := by
  have h2 := idxP_any (fun x : Od => decide (x.id = i)) l
  have h3 : (l.any fun x : Od => decide (x.id = i)) = true := List.any_eq_true.2 (by obtain ⟨y, hy, e⟩ := h; exact ⟨y, hy, by simpa using e⟩)
  rw [h3] at h2
  exact of_decide_eq_true h2
theorem at_out {l : List Od} {i : Id} (h : ∀ y ∈ l, y.id ≠ i) : atIdx l i < 0 := by
  have h2 := idxP_any (fun x : Od => decide (x.id = i)) l
  have h3 : (l.any fun x : Od => decide (x.id = i)) = false := List.any_eq_false.2 (fun y hy => by simpa using h y hy)
  rw [h3] at h2
  exact Int.not_le.1 (of_decide_eq_false h2)
theorem sameL_self (l : List Od) : sameL l l = true := sameL_core.2 rfl
theorem begins_nil {l : List Od} (h : Val l) : beginsB [] l = true := beginsB_K.2 (.nil (valK h))
theorem begins_self {l : List Od} (h : Val l) : beginsB l l = true := beginsB_K.2 (.refl (valK h))
theorem rest_nil {l : List Od} (h : Val l) : restL [] l = l := by rw [restL, if_pos (begins_nil h), others_nil]
theorem rest_self (l : List Od) : restL l l = [] := by
  unfold restL
  split
  · exact others_all fun _ h => h
  · rfl
theorem rest_len {a b : List Od} (h : beginsB a b = true) : a.length + (restL a b).length = b.length := by
  have hb := beginsB_K.1 h
  have h1 := others_len hb.1 hb.2.1 hb.2.2.1
  rw [othersL_core] at h1
  simp only [List.length_map] at h1
  rw [restL, if_pos h]
  exact h1
theorem rest_at {a b : List Od} {x : Od} (hx : x ∈ restL a b) : atIdx a x.id < 0 ∧ 0 ≤ atIdx b x.id := by
  unfold restL at hx
  split at hx
  · have := mem_others.1 hx
    exact ⟨at_out this.2, at_in ⟨x, this.1, rfl⟩⟩
  · cases hx

/-- two beginnings of lists of one list's orders that have changed places meet -/
theorem law_begins {l m : List Od} (hv : Val l) (hm : Mix l m) (i k : Nat) :
    beginsB (l.take i) m = true ∧ beginsB (m.take k) l = true ∧ alikeB (l.take i ++ restL (l.take i) m) m = true ∧ meetOk (l.take i) (m.take k) = true ∧
      beginsB (l.take i) (meetR (l.take i) (m.take k)) = true ∧ beginsB (m.take k) (meetR (l.take i) (m.take k)) = true ∧ beginsB (meetR (l.take i) (m.take k)) l = true ∧ validL (meetR (l.take i) (m.take k)) = true := by
  have hK : ∀ {l m : List Od}, Mix l m → Mix (K l) (K m) := by
    intro l m h
    induction h with
    | refl => exact .refl _
    | step _ hn ih =>
      simp only [K, List.map_append, List.map_cons] at ih ⊢
      exact ih.step hn
  obtain ⟨h1, h2⟩ := (hK hm).beg (valK hv)
  have hvm := h1.2.1
  have a1 : Beg (K (l.take i)) (K l) := by rw [K, List.map_take]; exact .take (valK hv) i
  have b1 : Beg (K (m.take k)) (K m) := by rw [K, List.map_take]; exact .take hvm k
  have a2 := a1.trans h1
  have b2 := b1.trans h2
  have q1 := beginsB_K.2 a2
  have q2 := beginsB_K.2 b2
  obtain ⟨m1, m2, m3⟩ := a1.meet b2
  rw [meetL_core] at m1 m2 m3
  have q3 := beginsB_K.2 m1
  have q4 := beginsB_K.2 m2
  have q5 := beginsB_K.2 m3
  have q6 : meetOk (l.take i) (m.take k) = true := by unfold meetOk; rw [q3, q4]; rfl
  have q7 : meetR (l.take i) (m.take k) = meetL (l.take i) (m.take k) := by rw [meetR, if_pos q6]
  refine ⟨q1, q2, ?_, q6, by rw [q7]; exact q3, by rw [q7]; exact q4, by rw [q7]; exact q5, ?_⟩
  · obtain ⟨r1, r2⟩ := a2.rest
    rw [← alikeB_core]
    rw [restL, if_pos q1, K, List.map_append, ← K, ← K, ← othersL_core]
    unfold alikeB
    rw [Bool.and_eq_true, decide_eq_true_eq]
    refine ⟨r2, (beginsB_iff ?_ (bare_K m)).2 r1⟩
    have := bare_K (meetL (l.take i) m)
    rw [← meetL_core] at this
    exact this
  · rw [q7, ← validL_core]
    exact validL_iff.2 m3.1
theorem meet_bare (a b : List Od) : Bare (meetL (K a) (K b)) := by rw [meetL_core]; exact bare_K _
/-- where two lists meet they do so the other way round, too -/
theorem law_meet {a b : List Od} (ha : Val a) (hb : Val b) : meetOk a b = meetOk b a ∧ (meetOk a b = true → alikeB (meetR a b) (meetR b a) = true) := by
  have ka := valK ha
  have kb := valK hb
  have key : ∀ {a b : List Od}, Val (K a) → meetOk a b = true → Beg (K b) (meetL (K a) (K b)) := fun {a b} ka h => by
    unfold meetOk at h
    rw [Bool.and_eq_true] at h
    have := beginsB_K.1 h.2
    rw [← meetL_core] at this
    exact this
  have ok : ∀ {a b : List Od}, Val (K a) → Val (K b) → Beg (K b) (meetL (K a) (K b)) → meetOk a b = true := fun {a b} ka kb h => by
    unfold meetOk
    rw [Bool.and_eq_true]
    have h1 := Beg.left (val_meet ka kb)
    have h1' : Beg (K a) (meetL (K a) (K b)) := h1
    rw [meetL_core] at h h1'
    exact ⟨beginsB_K.2 h1', beginsB_K.2 h⟩
  have step : ∀ {a b : List Od}, Val (K a) → Val (K b) → meetOk a b = true → meetOk b a = true := fun {a b} ka kb h => ok kb ka (Beg.meet_comm ka (key ka h))
  have heq : meetOk a b = meetOk b a := by
    rw [Bool.eq_iff_iff]
    exact ⟨step ka kb, step kb ka⟩
  refine ⟨heq, fun h => ?_⟩
  have h2 := heq ▸ h
  obtain ⟨g1, g2⟩ := Beg.meet_alike ka (key ka h)
  rw [meetR, if_pos h, meetR, if_pos h2, ← alikeB_core, ← meetL_core, ← meetL_core]
  unfold alikeB
  rw [Bool.and_eq_true, decide_eq_true_eq]
  exact ⟨g2, (beginsB_iff (meet_bare a b) (meet_bare b a)).2 g1⟩
theorem others_take (a : List Od) (k : Nat) : othersL a (a.take k) = [] := others_all fun _ h => List.mem_of_mem_take h
/-- a list meets its beginnings -/
theorem law_meet_take {a : List Od} (ha : Val a) (k : Nat) : meetOk a (a.take k) = true ∧ meetR a (a.take k) = a ∧ meetOk (a.take k) a = true ∧ alikeB (meetR (a.take k) a) a = true := by
  have h1 : meetL a (a.take k) = a := by unfold meetL; rw [others_take, List.append_nil]
  have ht : beginsB (a.take k) a = true := beginsB_K.2 (by rw [K, List.map_take]; exact .take (valK ha) k)
  have h2 : meetOk a (a.take k) = true := by unfold meetOk; rw [h1, begins_self ha, ht]; rfl
  have hv : Val (a.take k) := ha.sub (List.take_sublist k a)
  obtain ⟨h3, h4⟩ := law_meet ha hv
  have h5 : meetR a (a.take k) = a := by rw [meetR, if_pos h2, h1]
  obtain ⟨h6, h7⟩ := law_meet hv ha
  have h8 : meetOk (a.take k) a = true := h6.trans h2
  have h9 := h7 h8
  rw [h5] at h9
  exact ⟨h2, h5, h8, h9⟩
theorem meetR_few {a b : List Od} (ha : fewLegs a) (hb : fewLegs b) : fewLegs (meetR a b) := by
  unfold meetR
  split
  · exact meetL_few ha hb
  · exact fun _ h => absurd h (by simp)
theorem meetR_len (a b : List Od) : (meetR a b).length ≤ a.length + b.length := by
  unfold meetR
  split
  · have := othersL_len a b
    rw [List.length_append]
    omega
  · simp
/-- a place that 'int(uint(x) % uint(n + 1))' names -/
theorem place_mod (x : Int) (n : Nat) (hn : n ≤ 65536) : ∃ k : Nat, wrap64 ((IntKind.u64.wrap x).tmod ((n : Int) + 1)) = (k : Int) ∧ k ≤ n := by
  have h0 : 0 ≤ IntKind.u64.wrap x := by simp only [IntKind.wrap_u64]; omega
  have h1 : 0 ≤ (IntKind.u64.wrap x).tmod ((n : Int) + 1) := Int.tmod_nonneg _ h0
  have h2 : (IntKind.u64.wrap x).tmod ((n : Int) + 1) < (n : Int) + 1 := Int.tmod_lt_of_pos _ (by omega)
  generalize (IntKind.u64.wrap x).tmod ((n : Int) + 1) = y at h1 h2
  refine ⟨y.toNat, ?_, by omega⟩
  unfold wrap64
  omega
end Go.Proofs.Ytogecfddkohigaa
