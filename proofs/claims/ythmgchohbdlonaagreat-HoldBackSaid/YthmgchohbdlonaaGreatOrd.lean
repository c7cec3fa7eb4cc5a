/- Sorting: one list a set of data with a strict order; the order of texts. No program. -/
import Derived.Test.YthmgchohbdlonaaGreatData
import Derived.Laws.StructEq
namespace Go.Proofs.YthmgchohbdlonaaGreat

/-- strict, and of two one is ahead (unless neither is) -/
structure Strict {α : Type} (lt : α → α → Bool) : Prop where
  irr : ∀ a, lt a a = false
  trans : ∀ a b c, lt a b = true → lt b c = true → lt a c = true
  co : ∀ a b c, lt a b = false → lt b c = false → lt a c = false

def insB {α : Type} (lt : α → α → Bool) (x : α) : List α → List α
  | [] => [x]
  | y :: r => if lt y x then y :: insB lt x r else x :: y :: r
def sortB {α : Type} (lt : α → α → Bool) (l : List α) : List α := l.foldr (insB lt) []
/-- none behind another one is ahead of it -/
def SortedB {α : Type} (lt : α → α → Bool) (l : List α) : Prop := l.Pairwise fun a b => lt b a = false

section
variable {α : Type} {lt : α → α → Bool}
theorem Strict.asymm (S : Strict lt) {a b : α} (h : lt a b = true) : lt b a = false := by
  cases hb : lt b a with
  | false => rfl
  | true => rw [← S.trans a b a h hb, S.irr a]
theorem insB_perm (x : α) (l : List α) : (insB lt x l).Perm (x :: l) := by
  induction l with
  | nil => exact .refl _
  | cons y r ih =>
    unfold insB
    split
    · exact (ih.cons y).trans (.swap x y r)
    · exact .refl _
theorem sortB_perm (l : List α) : (sortB lt l).Perm l := by
  induction l with
  | nil => exact .refl _
  | cons x r ih => exact (insB_perm x _).trans (ih.cons x)
theorem insB_sorted (S : Strict lt) (x : α) (l : List α) (h : SortedB lt l) : SortedB lt (insB lt x l) := by
  induction l with
  | nil => exact List.pairwise_singleton _ _
  | cons y r ih =>
    have hr := List.pairwise_cons.1 h
    unfold insB
    by_cases hy : lt y x = true
    · rw [if_pos hy]
      refine List.pairwise_cons.2 ⟨fun z hz => ?_, ih hr.2⟩
      rcases List.mem_cons.1 ((insB_perm x r).mem_iff.1 hz) with rfl | hz
      · exact S.asymm hy
      · exact hr.1 z hz
    · rw [if_neg hy]
      have hy' : lt y x = false := by simpa using hy
      refine List.pairwise_cons.2 ⟨fun z hz => ?_, h⟩
      rcases List.mem_cons.1 hz with rfl | hz
      · exact hy'
      · exact S.co z y x (hr.1 z hz) hy'
theorem sortB_sorted (S : Strict lt) (l : List α) : SortedB lt (sortB lt l) := by
  induction l with
  | nil => exact List.Pairwise.nil
  | cons x r ih => exact insB_sorted S x _ ih
theorem sorted_unique : ∀ {l m : List α}, l.Perm m → SortedB lt l → SortedB lt m → (∀ a, a ∈ l → ∀ b, b ∈ l → lt a b = false → lt b a = false → a = b) → l = m
  | [], m, hp, _, _, _ => (List.nil_perm.1 hp).symm
  | x :: r, [], hp, _, _, _ => by simpa using hp.length_eq
  | x :: r, y :: s, hp, hl, hm, ha => by
    have h1 := List.pairwise_cons.1 hl
    have h2 := List.pairwise_cons.1 hm
    have hxy : x = y := by
      have hx : x ∈ y :: s := hp.mem_iff.1 (List.mem_cons_self ..)
      have hy : y ∈ x :: r := hp.mem_iff.2 (List.mem_cons_self ..)
      rcases List.mem_cons.1 hx with h | h
      · exact h
      · rcases List.mem_cons.1 hy with h' | h'
        · exact h'.symm
        · exact ha x (List.mem_cons_self ..) y (List.mem_cons_of_mem _ h') (h2.1 x h) (h1.1 y h')
    subst hxy
    rw [sorted_unique ((List.perm_cons x).1 hp) h1.2 h2.2 (fun a h b h' => ha a (List.mem_cons_of_mem _ h) b (List.mem_cons_of_mem _ h'))]
end

/-- byte by byte, a proper prefix first -/
def bless (a b : ByteArray) : Bool := Op.bytesLess a.toList b.toList
theorem bl_irr : ∀ a : List UInt8, Op.bytesLess a a = false
  | [] => rfl
  | x :: r => by
    have h : ¬ x < x := by rw [UInt8.lt_iff_toNat_lt]; omega
    simp [Op.bytesLess, bl_irr r, h]
theorem bl_tri : ∀ a b : List UInt8, Op.bytesLess a b = false → Op.bytesLess b a = false → a = b
  | [], [], _, _ => rfl
  | [], y :: s, h, _ => by simp [Op.bytesLess] at h
  | x :: r, [], _, h => by simp [Op.bytesLess] at h
  | x :: r, y :: s, h, h' => by
    simp only [Op.bytesLess, Bool.or_eq_false_iff, decide_eq_false_iff_not, UInt8.lt_iff_toNat_lt, Bool.and_eq_false_iff] at h h'
    have hxy : x = y := UInt8.toNat_inj.1 (by omega)
    subst hxy
    have h1 := h.2.resolve_left (by simp)
    have h2 := h'.2.resolve_left (by simp)
    rw [bl_tri r s h1 h2]
theorem bl_trans : ∀ a b c : List UInt8, Op.bytesLess a b = true → Op.bytesLess b c = true → Op.bytesLess a c = true
  | _, _, [], _, h => by simp [Op.bytesLess] at h
  | _, [], _ :: _, h, _ => by simp [Op.bytesLess] at h
  | [], _ :: _, _ :: _, _, _ => by simp [Op.bytesLess]
  | x :: r, y :: s, z :: t, h, h' => by
    simp only [Op.bytesLess, Bool.or_eq_true, decide_eq_true_eq, Bool.and_eq_true, beq_iff_eq, UInt8.lt_iff_toNat_lt] at h h' ⊢
    rcases h with h | ⟨rfl, h⟩ <;> rcases h' with h' | ⟨rfl, h'⟩
    · exact .inl (by omega)
    · exact .inl h
    · exact .inl h'
    · exact .inr ⟨rfl, bl_trans _ _ _ h h'⟩
theorem bless_tri {a b : ByteArray} (h : bless a b = false) (h' : bless b a = false) : a = b := by
  have e := bl_tri _ _ h h'
  rw [ByteArray.toList_eq, ByteArray.toList_eq] at e
  obtain ⟨⟨x⟩⟩ := a
  obtain ⟨⟨y⟩⟩ := b
  simp_all
theorem bless_strict : Strict bless where
  irr a := bl_irr _
  trans a b c := bl_trans _ _ _
  co a b c h h' := by
    cases hc : bless a c with
    | false => rfl
    | true =>
      cases hb : bless b a with
      | true =>
        have h2 : bless b c = true := bl_trans _ _ _ hb hc
        rw [h'] at h2
        cases h2
      | false =>
        have := bless_tri h hb
        subst this
        rw [h'] at hc
        cases hc
abbrev sortS (l : List ByteArray) : List ByteArray := sortB bless l
theorem sortS_unique {l m : List ByteArray} (hp : l.Perm m) (h : SortedB bless l) : l = sortS m :=
  sorted_unique (hp.trans (sortB_perm m).symm) h (sortB_sorted bless_strict m) (fun _ _ _ _ h h' => bless_tri h h')
end Go.Proofs.YthmgchohbdlonaaGreat
