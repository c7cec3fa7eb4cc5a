/- Texts of this claim, laid together: Plain, Beg, Law10, More, Mixed, BubP. -/
import Derived.Test.YtgholbeehkfbiaaGreatRows
import Derived.Test.YtgholbeehkfbiaaGreatBm3
import Derived.Test.YtgholbeehkfbiaaGreatBm2
import Derived.WalkKit
import Derived.WalkSpells
import Derived.WalkLawsBesides
import Derived.Deep.QuietTactic
import Derived.BigQuiet
import Derived.Laws.StructEq
import Derived.Deep.DeepFit
import Derived.StillTailTactics
import Derived.Test.YtgholbeehkfbiaaGreatBm1
import Derived.Laws.ResultCell

/- The plain law of beginnings, lists that are alike, and meeting lists -/
namespace Go.Proofs.YtgholbeehkfbiaaGreat
open Go.RowKit
section
variable {α : Type}
/-- x stands ahead of y -/
def Bef (l : List α) (x y : α) : Prop := List.Sublist [x, y] l
theorem Bef.left {l : List α} {x y : α} (h : Bef l x y) : x ∈ l := h.subset (by simp)
theorem Bef.right {l : List α} {x y : α} (h : Bef l x y) : y ∈ l := h.subset (by simp)
theorem bef_append {a b : List α} {x y : α} : Bef (a ++ b) x y ↔ Bef a x y ∨ (x ∈ a ∧ y ∈ b) ∨ Bef b x y := by
  unfold Bef
  rw [List.sublist_append_iff]
  constructor
  · rintro ⟨l1, l2, h, h1, h2⟩
    cases l1 with
    | nil => simp only [List.nil_append] at h; subst h; exact .inr (.inr h2)
    | cons u l1 =>
      cases l1 with
      | nil =>
        simp only [List.cons_append, List.nil_append, List.cons.injEq] at h
        obtain ⟨rfl, rfl⟩ := h
        exact .inr (.inl ⟨List.singleton_sublist.1 h1, List.singleton_sublist.1 h2⟩)
      | cons t l1 =>
        simp only [List.cons_append, List.cons.injEq] at h
        obtain ⟨rfl, rfl, h⟩ := h
        have h3 := List.append_eq_nil_iff.1 h.symm
        rw [h3.1] at h1
        exact .inl h1
  · rintro (h | ⟨h1, h2⟩ | h)
    · exact ⟨[x, y], [], rfl, h, List.nil_sublist _⟩
    · exact ⟨[x], [y], rfl, List.singleton_sublist.2 h1, List.singleton_sublist.2 h2⟩
    · exact ⟨[], [x, y], rfl, List.nil_sublist _, h⟩
theorem bef_filter {f : α → Bool} {l : List α} {x y : α} : Bef (l.filter f) x y ↔ Bef l x y ∧ f x = true ∧ f y = true := by
  constructor
  · intro h
    exact ⟨List.Sublist.trans h List.filter_sublist, (List.mem_filter.1 h.left).2, (List.mem_filter.1 h.right).2⟩
  · rintro ⟨h, h1, h2⟩
    have := List.Sublist.filter f h
    rw [List.filter_cons_of_pos h1, List.filter_cons_of_pos h2, List.filter_nil] at this
    exact this
theorem bef_cons {z x y : α} {t : List α} : Bef (z :: t) x y ↔ (x = z ∧ y ∈ t) ∨ Bef t x y := by
  rw [show z :: t = [z] ++ t from rfl, bef_append]
  constructor
  · rintro (h | ⟨h1, h2⟩ | h)
    · exact absurd h.length_le (by simp)
    · exact .inl ⟨by simpa using h1, h2⟩
    · exact .inr h
  · rintro (⟨rfl, h⟩ | h)
    · exact .inr (.inl ⟨by simp, h⟩)
    · exact .inr (.inr h)
theorem bef_nil {x y : α} : ¬ Bef ([] : List α) x y := fun h => absurd h.length_le (by simp)
theorem bef_total {l : List α} {x y : α} (hx : x ∈ l) (hy : y ∈ l) (hne : x ≠ y) : Bef l x y ∨ Bef l y x := by
  induction l with
  | nil => cases hx
  | cons z t ih =>
    rw [bef_cons, bef_cons]
    rcases List.mem_cons.1 hx with rfl | hx1 <;> rcases List.mem_cons.1 hy with rfl | hy1
    · exact absurd rfl hne
    · exact .inl (.inl ⟨rfl, hy1⟩)
    · exact .inr (.inl ⟨rfl, hx1⟩)
    · rcases ih hx1 hy1 with h | h
      · exact .inl (.inr h)
      · exact .inr (.inr h)
theorem bef_irrefl {l : List α} (hn : l.Nodup) {x : α} (h : Bef l x x) : False := by
  have := List.Pairwise.sublist h hn
  simp at this
theorem bef_asymm {l : List α} (hn : l.Nodup) {x y : α} (h : Bef l x y) (h' : Bef l y x) : False := by
  induction l with
  | nil => exact bef_nil h
  | cons z t ih =>
    rw [bef_cons] at h h'
    have hz := (List.nodup_cons.1 hn)
    rcases h with ⟨rfl, h⟩ | h <;> rcases h' with ⟨rfl, h'⟩ | h'
    · exact hz.1 h
    · exact hz.1 h'.right
    · exact hz.1 h.right
    · exact ih hz.2 h h'
theorem bef_get {l : List α} {x y : α} : Bef l x y ↔ ∃ n m : Nat, n < m ∧ l[n]? = some x ∧ l[m]? = some y := by
  have key := (List.pairwise_iff_forall_sublist (R := fun a b => ¬(a = x ∧ b = y)) (l := l)).symm.trans List.pairwise_iff_getElem
  constructor
  · intro h
    refine Classical.byContradiction fun hn => ?_
    exact key.2 (fun i j hi hj hij e => hn ⟨i, j, hij, by rw [List.getElem?_eq_getElem hi, e.1], by rw [List.getElem?_eq_getElem hj, e.2]⟩) h ⟨rfl, rfl⟩
  · rintro ⟨n, m, hnm, h1, h2⟩
    refine Classical.byContradiction fun hn => ?_
    obtain ⟨hi, e1⟩ := List.getElem?_eq_some_iff.1 h1
    obtain ⟨hj, e2⟩ := List.getElem?_eq_some_iff.1 h2
    exact key.1 (fun {a b} hs e => hn (by rw [← e.1, ← e.2]; exact hs)) n m hi hj hnm ⟨e1, e2⟩
theorem get_inj {l : List α} (hn : l.Nodup) {x : α} {n m : Nat} (h1 : l[n]? = some x) (h2 : l[m]? = some x) : n = m := by
  rcases Nat.lt_trichotomy n m with h | h | h
  · exact (bef_irrefl hn (bef_get.2 ⟨n, m, h, h1, h2⟩)).elim
  · exact h
  · exact (bef_irrefl hn (bef_get.2 ⟨m, n, h, h2, h1⟩)).elim
theorem length_sub {a : List α} (hn : a.Nodup) : ∀ {b : List α}, (∀ x ∈ a, x ∈ b) → a.length ≤ b.length := by
  induction a with
  | nil => intro b _; simp
  | cons x t ih =>
    intro b h
    obtain ⟨s, u, rfl⟩ := List.append_of_mem (h x (by simp))
    have hz := List.nodup_cons.1 hn
    have := ih hz.2 (b := s ++ u) fun y hy => by
      have h1 := h y (by simp [hy])
      simp only [List.mem_append, List.mem_cons] at h1 ⊢
      rcases h1 with h1 | rfl | h1
      · exact .inl h1
      · exact absurd hy hz.1
      · exact .inr h1
    simp only [List.length_append, List.length_cons] at this ⊢
    omega
theorem sub_of_length {a b : List α} (hn : a.Nodup) (h : ∀ x ∈ a, x ∈ b) (hl : b.length ≤ a.length) : ∀ x ∈ b, x ∈ a := by
  intro x hx
  refine Classical.byContradiction fun hxa => ?_
  obtain ⟨s, u, rfl⟩ := List.append_of_mem hx
  have := length_sub hn (b := s ++ u) fun y hy => by
    have h1 := h y hy
    simp only [List.mem_append, List.mem_cons] at h1 ⊢
    rcases h1 with h1 | rfl | h1
    · exact .inl h1
    · exact absurd hy hxa
    · exact .inr h1
  simp only [List.length_append, List.length_cons] at this hl
  omega
theorem filter_length (f : α → Bool) (l : List α) : (l.filter f).length + (l.filter fun x => !f x).length = l.length := by
  induction l with
  | nil => rfl
  | cons x t ih =>
    by_cases h : f x = true
    · rw [List.filter_cons_of_pos h, List.filter_cons_of_neg (by simp [h])]; simp only [List.length_cons]; omega
    · rw [List.filter_cons_of_neg h, List.filter_cons_of_pos (by simpa using h)]; simp only [List.length_cons]; omega
end

/-- no Id is there twice -/
def Val (l : List Od) : Prop := l.Pairwise fun x y => x.id ≠ y.id
theorem Val.nodup {l : List Od} (h : Val l) : l.Nodup := List.Pairwise.imp (fun h e => h (by rw [e])) h
theorem Val.inj {l : List Od} (h : Val l) {x y : Od} (hx : x ∈ l) (hy : y ∈ l) (e : x.id = y.id) : x = y := by
  refine Classical.byContradiction fun hne => ?_
  have h2 : ∀ {a b : Od}, List.Sublist [a, b] l → a.id ≠ b.id := List.pairwise_iff_forall_sublist.1 h
  rcases bef_total hx hy hne with hb | hb
  · exact h2 hb e
  · exact h2 hb e.symm
theorem Val.sub {l m : List Od} (h : Val l) (hs : List.Sublist m l) : Val m := List.Pairwise.sublist hs h
theorem val_append {a b : List Od} : Val (a ++ b) ↔ Val a ∧ Val b ∧ ∀ x ∈ a, ∀ y ∈ b, x.id ≠ y.id := List.pairwise_append
theorem val_snoc {l : List Od} {x : Od} : Val (l ++ [x]) ↔ Val l ∧ ∀ y ∈ l, y.id ≠ x.id := by
  rw [val_append]
  constructor
  · rintro ⟨h1, _, h2⟩
    exact ⟨h1, fun y hy => h2 y hy x (by simp)⟩
  · rintro ⟨h1, h2⟩
    exact ⟨h1, List.pairwise_singleton _ _, fun y hy z hz => by rw [List.mem_singleton.1 hz]; exact h2 y hy⟩
theorem val_nil : Val [] := List.Pairwise.nil

theorem posN_snoc (l : List Od) (x : Od) (i : Id) : posN (l ++ [x]) i = if x.id = i then some l.length else posN l i := by
  unfold posN
  rw [placesN_snoc, getM_put]
theorem posN_isSome (i : Id) (l : List Od) : (posN l i).isSome = true ↔ ∃ x ∈ l, x.id = i := by
  refine snoc_ind (Q := fun l => (posN l i).isSome = true ↔ ∃ x ∈ l, x.id = i) ?_ ?_ l
  · constructor
    · intro h; cases h
    · rintro ⟨x, hx, _⟩; cases hx
  · intro l x ih
    rw [posN_snoc]
    by_cases h : x.id = i
    · rw [if_pos h]
      exact ⟨fun _ => ⟨x, by simp, h⟩, fun _ => rfl⟩
    · rw [if_neg h, ih]
      constructor
      · rintro ⟨y, hy, e⟩; exact ⟨y, by simp [hy], e⟩
      · rintro ⟨y, hy, e⟩
        rcases List.mem_append.1 hy with hy | hy
        · exact ⟨y, hy, e⟩
        · rw [List.mem_singleton.1 hy] at e; exact absurd e h
theorem posN_get {i : Id} {l : List Od} : ∀ {k : Nat}, posN l i = some k → ∃ x, l[k]? = some x ∧ x.id = i := by
  refine snoc_ind (Q := fun l => ∀ {k : Nat}, posN l i = some k → ∃ x, l[k]? = some x ∧ x.id = i) ?_ ?_ l
  · intro k h; cases h
  · intro l x ih k h
    rw [posN_snoc] at h
    by_cases hx : x.id = i
    · rw [if_pos hx] at h
      injection h with h
      subst h
      exact ⟨x, by simp, hx⟩
    · rw [if_neg hx] at h
      obtain ⟨y, hy, e⟩ := ih h
      have hk := (List.getElem?_eq_some_iff.1 hy).1
      exact ⟨y, by rw [List.getElem?_append_left hk]; exact hy, e⟩
theorem posN_mem {l : List Od} (hv : Val l) {x : Od} (hx : x ∈ l) : ∃ k, posN l x.id = some k ∧ l[k]? = some x := by
  obtain ⟨k, hk⟩ := Option.isSome_iff_exists.1 ((posN_isSome x.id l).2 ⟨x, hx, rfl⟩)
  obtain ⟨y, hy, e⟩ := posN_get hk
  rw [hv.inj (List.mem_of_getElem? hy) hx e] at hy
  exact ⟨k, hk, hy⟩
theorem placesN_len (l : List Od) : (placesN l).length ≤ l.length ∧ ((placesN l).length = l.length ↔ Val l) := by
  refine snoc_ind (Q := fun l => (placesN l).length ≤ l.length ∧ ((placesN l).length = l.length ↔ Val l)) ⟨Nat.le_refl _, fun _ => val_nil, fun _ => rfl⟩ ?_ l
  intro l x ih
  rw [placesN_snoc, length_putM, val_snoc, List.length_append, List.length_singleton, ← ih.2]
  by_cases h : (posN l x.id).isSome = true
  · rw [if_pos h]
    obtain ⟨y, hy, e⟩ := (posN_isSome x.id l).1 h
    exact ⟨by omega, fun hl => by omega, fun hl => absurd e (hl.2 y hy)⟩
  · rw [if_neg h]
    refine ⟨by omega, fun hl => ⟨by omega, fun y hy e => h ((posN_isSome x.id l).2 ⟨y, hy, e⟩)⟩, fun hl => by omega⟩
theorem validL_iff {l : List Od} : validL l = true ↔ Val l := by
  unfold validL
  rw [decide_eq_true_eq]
  exact (placesN_len l).2

abbrev K (l : List Od) : List Od := l.map Od.core
theorem placesN_core (l : List Od) : placesN (K l) = placesN l := by
  refine snoc_ind (Q := fun l => placesN (K l) = placesN l) rfl ?_ l
  intro l x ih
  rw [K, List.map_append, List.map_singleton, placesN_snoc, placesN_snoc, ih, List.length_map]
  rfl
theorem posN_core (l : List Od) (i : Id) : posN (K l) i = posN l i := by unfold posN; rw [placesN_core]
theorem validL_core (l : List Od) : validL (K l) = validL l := by unfold validL; rw [placesN_core, List.length_map]
theorem beginsAt_core (a b : List Od) (i : Nat) (o : Od) : beginsAt (K a) (K b) i o.core = beginsAt a b i o := by
  unfold beginsAt
  rw [posN_core, show o.core.id = o.id from rfl]
  cases posN b o.id with
  | none => rfl
  | some k =>
    simp only [List.getElem?_map, ← List.map_take, List.all_map]
    congr 1
    · cases b[k]? with
      | none => rfl
      | some x => exact sameB_cc
    · congr 1
      funext p
      simp only [Function.comp, posN_core]
      rfl
theorem beginsB_core (a b : List Od) : beginsB (K a) (K b) = beginsB a b := by
  unfold beginsB
  rw [validL_core, validL_core, List.zipIdx_map, List.all_map]
  congr 1
  congr 1
  funext p
  exact beginsAt_core a b p.2 p.1
theorem othersL_core (a b : List Od) : othersL (K a) (K b) = K (othersL a b) := by
  unfold othersL
  rw [List.filter_map]
  congr 1
  congr 1
  funext x
  simp only [Function.comp, posN_core]
  rfl
theorem meetL_core (a b : List Od) : meetL (K a) (K b) = K (meetL a b) := by
  unfold meetL
  rw [othersL_core]
  exact List.map_append.symm
theorem meetOk_core (a b : List Od) : meetOk (K a) (K b) = meetOk a b := by
  unfold meetOk
  rw [meetL_core, beginsB_core, beginsB_core]
theorem alikeB_core (a b : List Od) : alikeB (K a) (K b) = alikeB a b := by
  unfold alikeB
  rw [beginsB_core, List.length_map, List.length_map]
theorem sameL_core {a b : List Od} : sameL a b = true ↔ K a = K b := by
  unfold sameL
  rw [Bool.and_eq_true, decide_eq_true_eq, List.all_eq_true]
  constructor
  · rintro ⟨hl, h⟩
    refine List.ext_getElem (by simp [hl]) fun i h1 h2 => ?_
    simp only [List.length_map] at h1 h2
    rw [List.getElem_map, List.getElem_map]
    exact sameB_core.1 (h (a[i], b[i]) (List.mem_iff_getElem.2 ⟨i, by simp; omega, by simp⟩))
  · intro h
    have hl : a.length = b.length := by simpa using congrArg List.length h
    refine ⟨hl, fun p hp => ?_⟩
    obtain ⟨i, hi, rfl⟩ := List.getElem_of_mem hp
    simp only [List.length_zip] at hi
    rw [List.getElem_zip]
    refine sameB_core.2 ?_
    have h1 : (K a)[i]'(by simp; omega) = (K b)[i]'(by simp; omega) := by simp only [h]
    simpa using h1

theorem any_any_comm (l m : List ByteArray) : (l.any fun s => m.any fun t => decide (s = t)) = (m.any fun s => l.any fun t => decide (s = t)) := by
  rw [Bool.eq_iff_iff]
  simp only [List.any_eq_true, decide_eq_true_eq]
  constructor
  · rintro ⟨s, hs, t, ht, e⟩; exact ⟨t, ht, s, hs, e.symm⟩
  · rintro ⟨s, hs, t, ht, e⟩; exact ⟨t, ht, s, hs, e.symm⟩
theorem clashB_comm (x y : Od) : clashB x y = clashB y x := by
  unfold clashB
  rw [any_any_comm (touches x) (touches y), show decide (x.id = y.id) = decide (y.id = x.id) from by simp [eq_comm], Bool.or_comm (decide (x.kind = 6)), Bool.and_comm (decide (x.kind = 1))]
theorem clashB_refl (x : Od) : clashB x x = true := by
  unfold clashB
  rw [decide_eq_true rfl]
  rfl

/-- a begins b: of lists whose legs have no place -/
def Beg (a b : List Od) : Prop := Val a ∧ Val b ∧ (∀ o ∈ a, o ∈ b) ∧ ∀ p o, o ∈ a → Bef b p o → clashB p o = true → Bef a p o
def Bare (l : List Od) : Prop := ∀ x ∈ l, x.core = x
theorem bare_K (l : List Od) : Bare (K l) := fun x hx => by
  obtain ⟨y, _, rfl⟩ := List.mem_map.1 hx
  rfl
theorem Bare.eq {l m : List Od} (h : Bare l) (k : Bare m) {x y : Od} (hx : x ∈ l) (hy : y ∈ m) (hs : sameB x y = true) : x = y := by
  rw [← h x hx, ← k y hy]
  exact sameB_core.1 hs
theorem beginsAt_iff {a b : List Od} {i : Nat} {o : Od} : beginsAt a b i o = true ↔ ∃ k x, posN b o.id = some k ∧ b[k]? = some x ∧ sameB o x = true ∧ ∀ p ∈ b.take k, clashB p o = true → ∃ n, posN a p.id = some n ∧ n ≤ i := by
  unfold beginsAt
  cases hk : posN b o.id with
  | none => simp
  | some k =>
    simp only
    cases hx : b[k]? with
    | none =>
      simp only [Bool.false_and, Bool.false_eq_true, false_iff]
      rintro ⟨k', x, h1, h2, _⟩
      injection h1 with h1
      subst h1
      rw [hx] at h2
      cases h2
    | some x =>
      simp only [Bool.and_eq_true, List.all_eq_true, Bool.not_eq_true']
      have h0 : ∀ p : Od, (clashB p o && (match posN a p.id with | none => true | some n => decide (i < n))) = false ↔ (clashB p o = true → ∃ n, posN a p.id = some n ∧ n ≤ i) := by
        intro p
        cases hp : posN a p.id with
        | none => cases clashB p o <;> simp
        | some n => cases clashB p o <;> simp
      constructor
      · rintro ⟨hs, h⟩
        exact ⟨k, x, rfl, hx, hs, fun p hp => (h0 p).1 (h p hp)⟩
      · rintro ⟨k', x', h1, h2, hs, h⟩
        injection h1 with h1
        subst h1
        rw [hx] at h2
        injection h2 with h2
        subst h2
        exact ⟨hs, fun p hp => (h0 p).2 (h p hp)⟩
theorem mem_take_get {α : Type} {l : List α} {k : Nat} {p : α} : p ∈ l.take k ↔ ∃ n, n < k ∧ l[n]? = some p := by
  rw [List.mem_take_iff_getElem]
  constructor
  · rintro ⟨i, hi, e⟩
    exact ⟨i, by omega, by rw [List.getElem?_eq_getElem (by omega), e]⟩
  · rintro ⟨n, hn, e⟩
    obtain ⟨h1, h2⟩ := List.getElem?_eq_some_iff.1 e
    exact ⟨n, by omega, h2⟩
theorem beginsB_iff {a b : List Od} (ha : Bare a) (hb : Bare b) : beginsB a b = true ↔ Beg a b := by
  unfold beginsB
  rw [Bool.and_eq_true, Bool.and_eq_true, validL_iff, validL_iff, List.all_eq_true]
  constructor
  · rintro ⟨⟨va, vb⟩, h⟩
    have hat : ∀ i o, a[i]? = some o → beginsAt a b i o = true := fun i o hi => h (o, i) (List.mem_zipIdx_iff_getElem?.2 hi)
    have hfull : ∀ i o, a[i]? = some o → ∃ k, b[k]? = some o ∧ ∀ p ∈ b.take k, clashB p o = true → ∃ n, posN a p.id = some n ∧ n ≤ i := by
      intro i o hi
      obtain ⟨k, x, _, hx, hs, hp⟩ := beginsAt_iff.1 (hat i o hi)
      rw [← ha.eq hb (List.mem_of_getElem? hi) (List.mem_of_getElem? hx) hs] at hx
      exact ⟨k, hx, hp⟩
    have hsub : ∀ o ∈ a, o ∈ b := fun o ho => by
      obtain ⟨i, hi⟩ := List.getElem?_of_mem ho
      obtain ⟨k, hk, _⟩ := hfull i o hi
      exact List.mem_of_getElem? hk
    refine ⟨va, vb, hsub, fun p o ho hbef hc => ?_⟩
    obtain ⟨i, hi⟩ := List.getElem?_of_mem ho
    obtain ⟨k, hk, hp⟩ := hfull i o hi
    obtain ⟨n, m, hnm, h1, h2⟩ := bef_get.1 hbef
    obtain rfl := get_inj vb.nodup h2 hk
    obtain ⟨n', hn', hle⟩ := hp p (mem_take_get.2 ⟨n, hnm, h1⟩) hc
    obtain ⟨z, hz, e⟩ := posN_get hn'
    rw [vb.inj (hsub z (List.mem_of_getElem? hz)) hbef.left e] at hz
    have hne : n' ≠ i := by
      rintro rfl
      rw [hz] at hi
      injection hi with hi
      subst hi
      exact bef_irrefl vb.nodup hbef
    exact bef_get.2 ⟨n', i, by omega, hz, hi⟩
  · rintro ⟨va, vb, hsub, h⟩
    refine ⟨⟨va, vb⟩, ?_⟩
    rintro ⟨o, i⟩ hp
    have hi : a[i]? = some o := List.mem_zipIdx_iff_getElem?.1 hp
    have ho := List.mem_of_getElem? hi
    obtain ⟨k, hk, hx⟩ := posN_mem vb (hsub o ho)
    refine beginsAt_iff.2 ⟨k, o, hk, hx, sameB_core.2 rfl, fun p hp hc => ?_⟩
    obtain ⟨n, hn, h1⟩ := mem_take_get.1 hp
    have hb2 := h p o ho (bef_get.2 ⟨n, k, hn, h1, hx⟩) hc
    obtain ⟨n', hn', hx'⟩ := posN_mem va hb2.left
    refine ⟨n', hn', Nat.le_of_not_lt fun hlt => ?_⟩
    exact bef_asymm va.nodup hb2 (bef_get.2 ⟨i, n', hlt, hi, hx'⟩)
theorem beginsB_K {a b : List Od} : beginsB a b = true ↔ Beg (K a) (K b) := by
  rw [← beginsB_core]
  exact beginsB_iff (bare_K a) (bare_K b)
end Go.Proofs.YtgholbeehkfbiaaGreat

/- Beginnings: order, beginnings of a list, swaps, what is behind, where two meet -/
namespace Go.Proofs.YtgholbeehkfbiaaGreat
open Go.RowKit
theorem Beg.refl {l : List Od} (h : Val l) : Beg l l := ⟨h, h, fun _ ho => ho, fun _ _ _ hb _ => hb⟩
theorem Beg.nil {l : List Od} (h : Val l) : Beg [] l := ⟨val_nil, h, fun _ ho => absurd ho (by simp), fun _ _ ho => absurd ho (by simp)⟩
theorem Beg.trans {a b c : List Od} (h : Beg a b) (k : Beg b c) : Beg a c :=
  ⟨h.1, k.2.1, fun o ho => k.2.2.1 o (h.2.2.1 o ho), fun p o ho hb hc => h.2.2.2 p o ho (k.2.2.2 p o (h.2.2.1 o ho) hb hc) hc⟩
/-- what stands ahead, and clashes, in the beginning stands ahead in the whole -/
theorem Beg.back {a b : List Od} (h : Beg a b) {p o : Od} (hb : Bef a p o) (hc : clashB p o = true) : Bef b p o := by
  rcases bef_total (h.2.2.1 p hb.left) (h.2.2.1 o hb.right) (fun e => by subst e; exact bef_irrefl h.1.nodup hb) with h1 | h1
  · exact h1
  · exact (bef_asymm h.1.nodup hb (h.2.2.2 o p hb.left h1 (by rw [clashB_comm]; exact hc))).elim
theorem Beg.symm {a b : List Od} (h : Beg a b) (hl : b.length ≤ a.length) : Beg b a :=
  ⟨h.2.1, h.1, sub_of_length h.1.nodup h.2.2.1 hl, fun _ _ _ hb hc => h.back hb hc⟩
theorem Beg.len {a b : List Od} (h : Beg a b) : a.length ≤ b.length := length_sub h.1.nodup h.2.2.1
theorem Beg.left {a b : List Od} (h : Val (a ++ b)) : Beg a (a ++ b) := by
  obtain ⟨h1, h2, h3⟩ := val_append.1 h
  refine ⟨h1, h, fun o ho => List.mem_append.2 (.inl ho), fun p o ho hb _ => ?_⟩
  rcases bef_append.1 hb with hb | ⟨_, hb⟩ | hb
  · exact hb
  · exact (h3 o ho o hb rfl).elim
  · exact (h3 o ho o hb.right rfl).elim
theorem Beg.take {l : List Od} (h : Val l) (k : Nat) : Beg (l.take k) l := by
  have := Beg.left (a := l.take k) (b := l.drop k) (by rw [List.take_append_drop]; exact h)
  rw [List.take_append_drop] at this
  exact this
theorem val_perm_swap {u v : List Od} {x y : Od} (h : Val (u ++ x :: y :: v)) : Val (u ++ y :: x :: v) := by
  unfold Val at h ⊢
  refine List.Pairwise.perm h ?_ (fun h e => h e.symm)
  exact (List.Perm.refl u).append (List.Perm.swap y x v)
theorem bef_swap {u v : List Od} {x y p o : Od} (hn : clashB x y = false) (hb : Bef (u ++ y :: x :: v) p o) (hc : clashB p o = true) : Bef (u ++ x :: y :: v) p o := by
  rw [show u ++ y :: x :: v = u ++ ([y, x] ++ v) from rfl, bef_append, bef_append] at hb
  rw [show u ++ x :: y :: v = u ++ ([x, y] ++ v) from rfl, bef_append, bef_append]
  have hm : ∀ z, z ∈ [y, x] → z ∈ [x, y] := fun z hz => by simp only [List.mem_cons, List.not_mem_nil, or_false] at hz ⊢; exact hz.symm
  rcases hb with hb | ⟨h1, h2⟩ | hb | ⟨h1, h2⟩ | hb
  · exact .inl hb
  · refine .inr (.inl ⟨h1, ?_⟩)
    rcases List.mem_append.1 h2 with h2 | h2
    · exact List.mem_append.2 (.inl (hm _ h2))
    · exact List.mem_append.2 (.inr h2)
  · rcases bef_cons.1 hb with ⟨rfl, h2⟩ | hb
    · have h3 := List.mem_singleton.1 h2
      subst h3
      rw [clashB_comm, hn] at hc
      cases hc
    · rcases bef_cons.1 hb with ⟨_, h2⟩ | hb
      · cases h2
      · exact (bef_nil hb).elim
  · exact .inr (.inr (.inr (.inl ⟨hm _ h1, h2⟩)))
  · exact .inr (.inr (.inr (.inr hb)))
theorem Beg.swap {u v : List Od} {x y : Od} (hn : clashB x y = false) (h : Val (u ++ x :: y :: v)) : Beg (u ++ x :: y :: v) (u ++ y :: x :: v) :=
  ⟨h, val_perm_swap h, fun o ho => by
    simp only [List.mem_append, List.mem_cons] at ho ⊢
    rcases ho with ho | ho | ho | ho
    · exact .inl ho
    · exact .inr (.inr (.inl ho))
    · exact .inr (.inl ho)
    · exact .inr (.inr (.inr ho)), fun _ _ _ hb hc => bef_swap hn hb hc⟩

/-- lists that clash.Swap makes of one another -/
inductive Mix : List Od → List Od → Prop
  | refl (l : List Od) : Mix l l
  | step {l : List Od} {u v : List Od} {x y : Od} (h : Mix l (u ++ x :: y :: v)) (hn : clashB x y = false) : Mix l (u ++ y :: x :: v)
theorem Mix.beg {l m : List Od} (h : Mix l m) (hv : Val l) : Beg l m ∧ Beg m l := by
  induction h with
  | refl => exact ⟨.refl hv, .refl hv⟩
  | step _ hn ih =>
    have h1 := Beg.swap hn ih.1.2.1
    have h2 := Beg.swap (by rw [clashB_comm]; exact hn) (val_perm_swap ih.1.2.1)
    exact ⟨ih.1.trans h1, h2.trans ih.2⟩
theorem Mix.perm {l m : List Od} (h : Mix l m) : l.Perm m := by
  induction h with
  | refl => exact .refl _
  | step _ _ ih => exact ih.trans ((List.Perm.refl _).append (List.Perm.swap _ _ _))
theorem swapAt_form {l : List Od} {k : Nat} (h : k + 1 < l.length) : ∃ u v, l = u ++ l[k] :: l[k + 1] :: v ∧ swapAt l k = u ++ l[k + 1] :: l[k] :: v := by
  refine ⟨l.take k, l.drop (k + 2), ?_, ?_⟩
  · rw [← List.drop_eq_getElem_cons h, ← List.drop_eq_getElem_cons (by omega : k < l.length), List.take_append_drop]
  · rw [swapAt, dif_pos h]
    refine List.ext_getElem (by simp; omega) fun i h1 h2 => ?_
    simp only [List.length_set] at h1
    rw [List.getElem_set, List.getElem_set, List.getElem_append]
    have hl : (l.take k).length = k := by rw [List.length_take]; omega
    simp only [hl]
    by_cases h3 : i < k
    · rw [dif_pos h3, if_neg (by omega), if_neg (by omega), List.getElem_take]
    · rw [dif_neg h3, List.getElem_cons]
      by_cases h4 : i = k
      · rw [if_neg (by omega), if_pos h4.symm, dif_pos (by omega)]
      · rw [dif_neg (by omega), List.getElem_cons]
        by_cases h5 : i = k + 1
        · rw [if_pos h5.symm, dif_pos (by omega)]
        · rw [if_neg (by omega), if_neg (by omega), dif_neg (by omega), List.getElem_drop]
          congr 1
          omega
theorem Mix.swap {l m : List Od} (h : Mix l m) {i : Int} (hs : swapOk m i = true) : Mix l (swapR m i) := by
  rw [swapR, if_pos hs]
  unfold swapOk at hs
  by_cases hk : 0 ≤ i ∧ i.toNat + 1 < m.length
  · rw [dif_pos hk] at hs
    obtain ⟨u, v, h1, h2⟩ := swapAt_form hk.2
    rw [h2]
    rw [h1] at h
    refine h.step ?_
    simpa using hs
  · rw [dif_neg hk] at hs
    cases hs

theorem mem_others {a b : List Od} {x : Od} : x ∈ othersL a b ↔ x ∈ b ∧ ∀ y ∈ a, y.id ≠ x.id := by
  unfold othersL
  rw [List.mem_filter]
  refine and_congr_right fun _ => ?_
  rw [Bool.not_eq_true', ← Bool.not_eq_true, posN_isSome]
  constructor
  · intro h y hy e; exact h ⟨y, hy, e⟩
  · rintro h ⟨y, hy, e⟩; exact h y hy e
theorem bef_others {a b : List Od} {x y : Od} : Bef (othersL a b) x y ↔ Bef b x y ∧ x ∈ othersL a b ∧ y ∈ othersL a b := by
  have h := @bef_filter Od (fun x => !(posN a x.id).isSome) b x y
  unfold othersL
  rw [h, List.mem_filter, List.mem_filter]
  constructor
  · rintro ⟨h1, h2, h3⟩; exact ⟨h1, ⟨h1.left, h2⟩, ⟨h1.right, h3⟩⟩
  · rintro ⟨h1, h2, h3⟩; exact ⟨h1, h2.2, h3.2⟩
theorem val_meet {a b : List Od} (ha : Val a) (hb : Val b) : Val (meetL a b) :=
  val_append.2 ⟨ha, hb.sub List.filter_sublist, fun x hx _ hy e => (mem_others.1 hy).2 x hx e⟩
theorem others_len {a b : List Od} (ha : Val a) (hb : Val b) (hs : ∀ x ∈ a, x ∈ b) : a.length + (othersL a b).length = b.length := by
  have h := filter_length (fun x : Od => (posN a x.id).isSome) b
  have h1 : a.length ≤ (b.filter fun x : Od => (posN a x.id).isSome).length := length_sub ha.nodup fun x hx => List.mem_filter.2 ⟨hs x hx, (posN_isSome x.id a).2 ⟨x, hx, rfl⟩⟩
  have h2 : (b.filter fun x : Od => (posN a x.id).isSome).length ≤ a.length := length_sub (hb.nodup.sublist List.filter_sublist) fun x hx => by
    obtain ⟨hxb, hp⟩ := List.mem_filter.1 hx
    obtain ⟨y, hy, e⟩ := (posN_isSome x.id a).1 hp
    rw [← hb.inj (hs y hy) hxb e]
    exact hy
  unfold othersL
  omega
/-- a, and what is behind it, is the whole -/
theorem Beg.rest {a m : List Od} (h : Beg a m) : Beg (a ++ othersL a m) m ∧ (a ++ othersL a m).length = m.length := by
  have hv := val_meet h.1 h.2.1
  refine ⟨⟨hv, h.2.1, fun o ho => ?_, fun p o ho hb hc => ?_⟩, by rw [List.length_append]; exact others_len h.1 h.2.1 h.2.2.1⟩
  · rcases List.mem_append.1 ho with ho | ho
    · exact h.2.2.1 o ho
    · exact (mem_others.1 ho).1
  · rw [bef_append]
    rcases List.mem_append.1 ho with ho | ho
    · exact .inl (h.2.2.2 p o ho hb hc)
    · by_cases hp : ∃ y ∈ a, y.id = p.id
      · obtain ⟨y, hy, e⟩ := hp
        rw [h.2.1.inj (h.2.2.1 y hy) hb.left e] at hy
        exact .inr (.inl ⟨hy, ho⟩)
      · exact .inr (.inr (bef_others.2 ⟨hb, mem_others.2 ⟨hb.left, fun y hy e => hp ⟨y, hy, e⟩⟩, ho⟩))
/-- two beginnings of one list meet in it -/
theorem Beg.meet {a b l : List Od} (h : Beg a l) (k : Beg b l) : Beg a (meetL a b) ∧ Beg b (meetL a b) ∧ Beg (meetL a b) l := by
  have hv := val_meet h.1 k.1
  have hmem : ∀ o ∈ b, o ∉ othersL a b → o ∈ a := fun o ho hn => by
    refine Classical.byContradiction fun hna => hn (mem_others.2 ⟨ho, fun y hy e => hna ?_⟩)
    rw [← h.2.1.inj (h.2.2.1 y hy) (k.2.2.1 o ho) e]
    exact hy
  refine ⟨Beg.left hv, ⟨k.1, hv, fun o ho => ?_, fun p o ho hb hc => ?_⟩, ⟨hv, h.2.1, fun o ho => ?_, fun p o ho hb hc => ?_⟩⟩
  · by_cases hn : o ∈ othersL a b
    · exact List.mem_append.2 (.inr hn)
    · exact List.mem_append.2 (.inl (hmem o ho hn))
  · rcases bef_append.1 hb with hb | ⟨hpa, hob⟩ | hb
    · exact k.2.2.2 p o ho (h.back hb hc) hc
    · rcases bef_total (h.2.2.1 p hpa) (k.2.2.1 o ho) (fun e => (mem_others.1 hob).2 p hpa (by rw [e])) with h1 | h1
      · exact k.2.2.2 p o ho h1 hc
      · have := h.2.2.2 o p hpa h1 (by rw [clashB_comm]; exact hc)
        exact ((mem_others.1 hob).2 o this.left rfl).elim
    · exact (bef_others.1 hb).1
  · rcases List.mem_append.1 ho with ho | ho
    · exact h.2.2.1 o ho
    · exact k.2.2.1 o (mem_others.1 ho).1
  · rw [bef_append]
    rcases List.mem_append.1 ho with ho | ho
    · exact .inl (h.2.2.2 p o ho hb hc)
    · have h1 := k.2.2.2 p o (mem_others.1 ho).1 hb hc
      by_cases hn : p ∈ othersL a b
      · exact .inr (.inr (bef_others.2 ⟨h1, hn, ho⟩))
      · exact .inr (.inl ⟨hmem p h1.left hn, ho⟩)
/-- where two meet they do so the other way round -/
theorem Beg.meet_comm {a b : List Od} (ha : Val a) (h : Beg b (meetL a b)) : Beg a (meetL b a) := by
  have hv := val_meet h.1 ha
  have hl := Beg.left (val_meet ha h.1)
  have hin : ∀ o ∈ a, o ∈ meetL a b := fun o ho => List.mem_append.2 (.inl ho)
  have hmem : ∀ o ∈ a, o ∉ othersL b a → o ∈ b := fun o ho hn => by
    refine Classical.byContradiction fun hna => hn (mem_others.2 ⟨ho, fun y hy e => hna ?_⟩)
    rw [← h.2.1.inj (h.2.2.1 y hy) (hin o ho) e]
    exact hy
  refine ⟨ha, hv, fun o ho => ?_, fun p o ho hb hc => ?_⟩
  · by_cases hn : o ∈ othersL b a
    · exact List.mem_append.2 (.inr hn)
    · exact List.mem_append.2 (.inl (hmem o ho hn))
  · rcases bef_append.1 hb with hb | ⟨hpa, hob⟩ | hb
    · exact hl.2.2.2 p o ho (h.back hb hc) hc
    · rcases bef_total (h.2.2.1 p hpa) (hin o ho) (fun e => (mem_others.1 hob).2 p hpa (by rw [e])) with h1 | h1
      · exact hl.2.2.2 p o ho h1 hc
      · have := h.2.2.2 o p hpa h1 (by rw [clashB_comm]; exact hc)
        exact ((mem_others.1 hob).2 o this.left rfl).elim
    · exact (bef_others.1 hb).1
theorem Beg.meet_alike {a b : List Od} (ha : Val a) (h : Beg b (meetL a b)) : Beg (meetL a b) (meetL b a) ∧ (meetL a b).length = (meetL b a).length := by
  have h1 := Beg.meet_comm ha h
  have h2 := h1.meet (Beg.left (val_meet h.1 ha))
  have h3 := h.meet (Beg.left (val_meet ha h.1))
  have := h2.2.2.len
  have := h3.2.2.len
  exact ⟨h2.2.2, by omega⟩
theorem others_nil (b : List Od) : othersL [] b = b := by
  unfold othersL
  rw [List.filter_eq_self]
  intro x _
  rfl
theorem others_all {a b : List Od} (h : ∀ x ∈ b, x ∈ a) : othersL a b = [] := by
  rw [List.eq_nil_iff_forall_not_mem]
  intro x hx
  have := mem_others.1 hx
  exact this.2 x (h x this.1) rfl
end Go.Proofs.YtgholbeehkfbiaaGreat

/- The plain laws of clash's statements -/
namespace Go.Proofs.YtgholbeehkfbiaaGreat
open Go.RowKit
theorem valK {l : List Od} (h : Val l) : Val (K l) := validL_iff.1 (by rw [validL_core]; exact validL_iff.2 h)
theorem ownK_at {l : List Od} : ∀ {k : Nat}, k ≤ l.length → ∀ {y : Od}, y ∈ ownK l k → ∃ j, j < k ∧ l[j]? = some y
  | 0, _, _, h => by simp [ownK] at h
  | k + 1, hk, y, h => by
    rw [ownK_succ (by omega)] at h
    split at h
    · rcases List.mem_append.1 h with h | h
      · obtain ⟨j, hj, e⟩ := ownK_at (by omega) h
        exact ⟨j, by omega, e⟩
      · rw [List.mem_singleton.1 h]
        exact ⟨k, by omega, List.getElem?_eq_getElem (by omega)⟩
    · obtain ⟨j, hj, e⟩ := ownK_at (by omega) h
      exact ⟨j, by omega, e⟩
theorem val_ownK {l : List Od} : ∀ {k : Nat}, k ≤ l.length → Val (ownK l k)
  | 0, _ => by simp [ownK]; exact val_nil
  | k + 1, hk => by
    rw [ownK_succ (by omega)]
    split
    · rename_i h
      refine val_snoc.2 ⟨val_ownK (by omega), fun y hy e => ?_⟩
      obtain ⟨j, hj, ej⟩ := ownK_at (by omega) hy
      obtain ⟨hjl, ej⟩ := List.getElem?_eq_some_iff.1 ej
      unfold atIdx idxP at h
      split at h
      · rename_i k' hk'
        have : k' = k := by omega
        subst this
        have h2 := (List.findIdx?_eq_some_iff_getElem.1 hk').2.2 j hj
        rw [ej] at h2
        simp [e] at h2
      · omega
    · exact val_ownK (by omega)
theorem val_own (l : List Od) : Val (ownL l) := val_ownK (Nat.le_refl _)
theorem own_small (n : Nat) (l : List Od) : (ownL (fewL n l)).length ≤ n := Nat.le_trans (ownK_len _ _) (fewL_le n l)
theorem own_legs (n : Nat) (l : List Od) : fewLegs (ownL (fewL n l)) := fun x hx => Nat.le_trans (fewL_legs n l x (ownK_sub _ _ x hx)) (by decide)
theorem at_in {l : List Od} {i : Id} (h : ∃ y ∈ l, y.id = i) : 0 ≤ atIdx l i := by
  have h2 := idxP_any (fun x : Od => decide (x.id = i)) l
  have h3 : (l.any fun x : Od => decide (x.id = i)) = true := List.any_eq_true.2 (by obtain ⟨y, hy, e⟩ := h; exact ⟨y, hy, by simpa using e⟩)
  rw [h3] at h2
  exact of_decide_eq_true h2
theorem at_out {l : List Od} {i : Id} (h : ∀ y ∈ l, y.id ≠ i) : atIdx l i < 0 := by
  have h2 := idxP_any (fun x : Od => decide (x.id = i)) l
  have h3 : (l.any fun x : Od => decide (x.id = i)) = false := List.any_eq_false.2 (fun y hy => by simpa using h y hy)
  rw [h3] at h2
  exact Int.not_le.1 (of_decide_eq_false h2)
theorem sameL_self (l : List Od) : sameL l l = true := sameL_core.2 rfl
theorem begins_nil {l : List Od} (h : Val l) : beginsB [] l = true := beginsB_K.2 (.nil (valK h))
theorem begins_self {l : List Od} (h : Val l) : beginsB l l = true := beginsB_K.2 (.refl (valK h))
theorem rest_nil {l : List Od} (h : Val l) : restL [] l = l := by rw [restL, if_pos (begins_nil h), others_nil]
theorem rest_self (l : List Od) : restL l l = [] := by
  unfold restL
  split
  · exact others_all fun _ h => h
  · rfl
theorem rest_len {a b : List Od} (h : beginsB a b = true) : a.length + (restL a b).length = b.length := by
  have hb := beginsB_K.1 h
  have h1 := others_len hb.1 hb.2.1 hb.2.2.1
  rw [othersL_core] at h1
  simp only [List.length_map] at h1
  rw [restL, if_pos h]
  exact h1
theorem rest_at {a b : List Od} {x : Od} (hx : x ∈ restL a b) : atIdx a x.id < 0 ∧ 0 ≤ atIdx b x.id := by
  unfold restL at hx
  split at hx
  · have := mem_others.1 hx
    exact ⟨at_out this.2, at_in ⟨x, this.1, rfl⟩⟩
  · cases hx

/-- two beginnings of lists of one list's orders that have changed places meet -/
theorem law_begins {l m : List Od} (hv : Val l) (hm : Mix l m) (i k : Nat) :
    beginsB (l.take i) m = true ∧ beginsB (m.take k) l = true ∧ alikeB (l.take i ++ restL (l.take i) m) m = true ∧ meetOk (l.take i) (m.take k) = true ∧
      beginsB (l.take i) (meetR (l.take i) (m.take k)) = true ∧ beginsB (m.take k) (meetR (l.take i) (m.take k)) = true ∧ beginsB (meetR (l.take i) (m.take k)) l = true ∧ validL (meetR (l.take i) (m.take k)) = true := by
  have hK : ∀ {l m : List Od}, Mix l m → Mix (K l) (K m) := by
    intro l m h
    induction h with
    | refl => exact .refl _
    | step _ hn ih =>
      simp only [K, List.map_append, List.map_cons] at ih ⊢
      exact ih.step hn
  obtain ⟨h1, h2⟩ := (hK hm).beg (valK hv)
  have hvm := h1.2.1
  have a1 : Beg (K (l.take i)) (K l) := by rw [K, List.map_take]; exact .take (valK hv) i
  have b1 : Beg (K (m.take k)) (K m) := by rw [K, List.map_take]; exact .take hvm k
  have a2 := a1.trans h1
  have b2 := b1.trans h2
  have q1 := beginsB_K.2 a2
  have q2 := beginsB_K.2 b2
  obtain ⟨m1, m2, m3⟩ := a1.meet b2
  rw [meetL_core] at m1 m2 m3
  have q3 := beginsB_K.2 m1
  have q4 := beginsB_K.2 m2
  have q5 := beginsB_K.2 m3
  have q6 : meetOk (l.take i) (m.take k) = true := by unfold meetOk; rw [q3, q4]; rfl
  have q7 : meetR (l.take i) (m.take k) = meetL (l.take i) (m.take k) := by rw [meetR, if_pos q6]
  refine ⟨q1, q2, ?_, q6, by rw [q7]; exact q3, by rw [q7]; exact q4, by rw [q7]; exact q5, ?_⟩
  · obtain ⟨r1, r2⟩ := a2.rest
    rw [← alikeB_core]
    rw [restL, if_pos q1, K, List.map_append, ← K, ← K, ← othersL_core]
    unfold alikeB
    rw [Bool.and_eq_true, decide_eq_true_eq]
    refine ⟨r2, (beginsB_iff ?_ (bare_K m)).2 r1⟩
    have := bare_K (meetL (l.take i) m)
    rw [← meetL_core] at this
    exact this
  · rw [q7, ← validL_core]
    exact validL_iff.2 m3.1
theorem meet_bare (a b : List Od) : Bare (meetL (K a) (K b)) := by rw [meetL_core]; exact bare_K _
/-- where two lists meet they do so the other way round, too -/
theorem law_meet {a b : List Od} (ha : Val a) (hb : Val b) : meetOk a b = meetOk b a ∧ (meetOk a b = true → alikeB (meetR a b) (meetR b a) = true) := by
  have ka := valK ha
  have kb := valK hb
  have key : ∀ {a b : List Od}, Val (K a) → meetOk a b = true → Beg (K b) (meetL (K a) (K b)) := fun {a b} ka h => by
    unfold meetOk at h
    rw [Bool.and_eq_true] at h
    have := beginsB_K.1 h.2
    rw [← meetL_core] at this
    exact this
  have ok : ∀ {a b : List Od}, Val (K a) → Val (K b) → Beg (K b) (meetL (K a) (K b)) → meetOk a b = true := fun {a b} ka kb h => by
    unfold meetOk
    rw [Bool.and_eq_true]
    have h1 := Beg.left (val_meet ka kb)
    have h1' : Beg (K a) (meetL (K a) (K b)) := h1
    rw [meetL_core] at h h1'
    exact ⟨beginsB_K.2 h1', beginsB_K.2 h⟩
  have step : ∀ {a b : List Od}, Val (K a) → Val (K b) → meetOk a b = true → meetOk b a = true := fun {a b} ka kb h => ok kb ka (Beg.meet_comm ka (key ka h))
  have heq : meetOk a b = meetOk b a := by
    rw [Bool.eq_iff_iff]
    exact ⟨step ka kb, step kb ka⟩
  refine ⟨heq, fun h => ?_⟩
  have h2 := heq ▸ h
  obtain ⟨g1, g2⟩ := Beg.meet_alike ka (key ka h)
  rw [meetR, if_pos h, meetR, if_pos h2, ← alikeB_core, ← meetL_core, ← meetL_core]
  unfold alikeB
  rw [Bool.and_eq_true, decide_eq_true_eq]
  exact ⟨g2, (beginsB_iff (meet_bare a b) (meet_bare b a)).2 g1⟩
theorem others_take (a : List Od) (k : Nat) : othersL a (a.take k) = [] := others_all fun _ h => List.mem_of_mem_take h
/-- a list meets its beginnings -/
theorem law_meet_take {a : List Od} (ha : Val a) (k : Nat) : meetOk a (a.take k) = true ∧ meetR a (a.take k) = a ∧ meetOk (a.take k) a = true ∧ alikeB (meetR (a.take k) a) a = true := by
  have h1 : meetL a (a.take k) = a := by unfold meetL; rw [others_take, List.append_nil]
  have ht : beginsB (a.take k) a = true := beginsB_K.2 (by rw [K, List.map_take]; exact .take (valK ha) k)
  have h2 : meetOk a (a.take k) = true := by unfold meetOk; rw [h1, begins_self ha, ht]; rfl
  have hv : Val (a.take k) := ha.sub (List.take_sublist k a)
  obtain ⟨h3, h4⟩ := law_meet ha hv
  have h5 : meetR a (a.take k) = a := by rw [meetR, if_pos h2, h1]
  obtain ⟨h6, h7⟩ := law_meet hv ha
  have h8 : meetOk (a.take k) a = true := h6.trans h2
  have h9 := h7 h8
  rw [h5] at h9
  exact ⟨h2, h5, h8, h9⟩
theorem meetR_few {a b : List Od} (ha : fewLegs a) (hb : fewLegs b) : fewLegs (meetR a b) := by
  unfold meetR
  split
  · exact meetL_few ha hb
  · exact fun _ h => absurd h (by simp)
theorem meetR_len (a b : List Od) : (meetR a b).length ≤ a.length + b.length := by
  unfold meetR
  split
  · have := othersL_len a b
    rw [List.length_append]
    omega
  · simp
/-- a place that 'int(uint(x) % uint(n + 1))' names -/
theorem place_mod (x : Int) (n : Nat) (hn : n ≤ 65536) : ∃ k : Nat, wrap64 ((IntKind.u64.wrap x).tmod ((n : Int) + 1)) = (k : Int) ∧ k ≤ n := by
  have h0 : 0 ≤ IntKind.u64.wrap x := by simp only [IntKind.wrap_u64]; omega
  have h1 : 0 ≤ (IntKind.u64.wrap x).tmod ((n : Int) + 1) := Int.tmod_nonneg _ h0
  have h2 : (IntKind.u64.wrap x).tmod ((n : Int) + 1) < (n : Int) + 1 := Int.tmod_lt_of_pos _ (by omega)
  generalize (IntKind.u64.wrap x).tmod ((n : Int) + 1) = y at h1 h2
  refine ⟨y.toNat, ?_, by omega⟩
  unfold wrap64
  omega
end Go.Proofs.YtgholbeehkfbiaaGreat

/- Small things -/
namespace Go.Proofs.YtgholbeehkfbiaaGreat
open Go.RowKit
theorem below_on {n : Nat} {a b c : World} (h : Below n a b) (hn : n ≤ a.heap.size) (k : Below b.heap.size b c) : Below n a c := h.trans (k.mono (Nat.le_trans hn h.size))
theorem Own.sl_of {α : Type} [Enc α] {w : World} {base : Nat} {e : TypeId} {A : Option Addr} {n c : Nat} {l : List α} (h : Own w base e (.slice A n c) l) : Sl w w.heap.size A c l := by
  obtain ⟨A', c', hv, hs⟩ := h.sl
  injection hv with h1 h2 h3
  subst h1 h3
  exact hs
theorem results_cell_row_tmp {P : Program} {fn : Func} {p u : Tmp} {ty : TypeId} (h : fn.results = #[.cell p ty, .tmp u]) (tmps : Array Value) (w : World) (g : Nat) (t : TypeId) (cs : Array Value) (fr : Nat × Nat) (d : TypeDesc)
    (hp : tmps.getD p undef = .pointer (some ⟨g, 0, none⟩)) (hg : w.heap[g]? = some (.cells cs t fr))
    (hu : P.underlying ty = some d) (hd : (match d with | .struct _ | .array _ _ => true | _ => false) = true) (hi : (P.info? ty).map (·.size) = some cs.size) :
    (results fn tmps).run P w = .ok (.tuple #[.agg cs, tmps.getD u undef]) w := by
  rw [results_cell_tmp h, hp]
  simp [asAddr, run_loadVar_row w g t ty cs fr d hg hu hd hi, Result.andThen]
end Go.Proofs.YtgholbeehkfbiaaGreat

/- mixed -/
namespace Go.Proofs.YtgholbeehkfbiaaGreat
open Go.RowKit
end Go.Proofs.YtgholbeehkfbiaaGreat

/- lists that are alike: reached by changing places (plain) -/
namespace Go.Proofs.YtgholbeehkfbiaaGreat
open Go.RowKit
theorem clashB_core (x y : Od) : clashB x.core y.core = clashB x y := rfl
theorem Mix.K {l m : List Od} (h : Mix l m) : Mix (K l) (K m) := by
  induction h with
  | refl => exact .refl _
  | step _ hn ih =>
    simp only [List.map_append, List.map_cons] at ih ⊢
    exact ih.step (by rw [clashB_core]; exact hn)
/-- a list that comes of a by swaps, and begins as b does -/
structure Bub (a b l : List Od) (i : Nat) : Prop where
  mix : Mix a l
  tk : (K l).take i = (K b).take i
theorem Bub.start (a b : List Od) : Bub a b a 0 := ⟨.refl _, rfl⟩
theorem Bub.len {a b l : List Od} {i : Nat} (h : Bub a b l i) : l.length = a.length := h.mix.perm.length_eq.symm
theorem Bub.val {a b l : List Od} {i : Nat} (h : Bub a b l i) (hv : Val a) : Val l := (h.mix.beg hv).2.1
theorem K_getEq {l : List Od} {k : Nat} : (K l)[k]? = (l[k]?).map Od.core := by rw [List.getElem?_map]
theorem Bub.at_ {a b l : List Od} {i : Nat} (h : Bub a b l i) (hb : Beg (K a) (K b)) (hl : a.length = b.length) (hva : Val a) (hvb : Val b) (hi : i < b.length) :
    ∃ k : Nat, atIdx l b[i].id = k ∧ i ≤ k ∧ k < l.length ∧ (K l)[k]? = (K b)[i]? := by
  have hll : l.length = b.length := h.len.trans hl
  have hsym : Beg (K b) (K a) := hb.symm (by rw [List.length_map, List.length_map]; omega)
  have hm : (b[i]).core ∈ K l := h.mix.K.perm.mem_iff.1 (hsym.2.2.1 _ (List.mem_map.2 ⟨b[i], List.getElem_mem hi, rfl⟩))
  obtain ⟨k, hk, ek⟩ := List.getElem_of_mem hm
  rw [List.length_map] at hk
  rw [List.getElem_map] at ek
  have hid : l[k].id = b[i].id := by
    have : l[k].core.id = b[i].core.id := by rw [ek]
    exact this
  have hvl := h.val hva
  refine ⟨k, ?_, ?_, hk, ?_⟩
  · refine idxP_hit hk (by simpa using hid) fun j hj hjk => ?_
    have := List.pairwise_iff_getElem.1 hvl j k hj hk hjk
    simp only [decide_eq_false_iff_not]
    exact fun e => this (e.trans hid.symm)
  · refine Nat.le_of_not_lt fun hki => ?_
    have h1 : ((K l).take i)[k]? = some l[k].core := by
      rw [List.getElem?_take_of_lt hki, K_getEq, List.getElem?_eq_getElem hk]; rfl
    rw [h.tk, List.getElem?_take_of_lt hki, K_getEq, List.getElem?_eq_getElem (by omega : k < b.length)] at h1
    have h2 : b[k].core.id = l[k].core.id := congrArg Od.id (Option.some.inj h1)
    exact List.pairwise_iff_getElem.1 hvb k i (by omega) hi hki (Eq.trans (show b[k].id = l[k].id from h2) hid)
  · rw [K_getEq, K_getEq, List.getElem?_eq_getElem hk, List.getElem?_eq_getElem hi]
    exact congrArg some ek
theorem swapOk_nat {l : List Od} {k : Nat} (hk : k + 1 < l.length) : swapOk l (k : Int) = !clashB l[k] l[k + 1] := by
  unfold swapOk
  rw [dif_pos ⟨by omega, by simpa using hk⟩]
  rfl
theorem swapR_nat {l : List Od} {k : Nat} (h : swapOk l (k : Int) = true) : swapR l (k : Int) = swapAt l k := by
  unfold swapR
  rw [if_pos h]
  rfl
theorem Bub.swap {a b l : List Od} {i k : Nat} (h : Bub a b l i) (hb : Beg (K a) (K b)) (hl : a.length = b.length) (_hva : Val a) (hi : i < b.length) (hk : i < k + 1) (hkl : k + 1 < l.length) (e : (K l)[k + 1]? = (K b)[i]?) :
    swapOk l (k : Int) = true ∧ Bub a b (swapR l (k : Int)) i ∧ (K (swapR l (k : Int)))[k]? = (K b)[i]? ∧ (swapR l (k : Int)).length = l.length := by
  have hll : l.length = b.length := h.len.trans hl
  have hmb := (h.mix.K).beg hb.1
  have hlb : Beg (K l) (K b) := hmb.2.trans hb
  have hbl : Beg (K b) (K l) := hlb.symm (by rw [List.length_map, List.length_map]; omega)
  have hok : swapOk l (k : Int) = true := by
    rw [swapOk_nat hkl]
    cases hc : clashB l[k] l[k + 1] with
    | false => rfl
    | true =>
      exfalso
      rw [← clashB_core] at hc
      have hbef : Bef (K l) l[k].core l[k + 1].core := bef_get.2 ⟨k, k + 1, by omega, by rw [K_getEq, List.getElem?_eq_getElem (by omega)]; rfl, by rw [K_getEq, List.getElem?_eq_getElem hkl]; rfl⟩
      have hm : l[k + 1].core ∈ K b := hlb.2.2.1 _ (List.mem_map.2 ⟨_, List.getElem_mem hkl, rfl⟩)
      have hbb := hbl.2.2.2 _ _ hm hbef hc
      obtain ⟨n, m, hnm, en, em⟩ := bef_get.1 hbb
      have hmi : m = i := by
        refine get_inj hb.2.1.nodup em ?_
        rw [← e, K_getEq, List.getElem?_eq_getElem hkl]; rfl
      subst hmi
      have hn : ((K b).take m)[n]? = some l[k].core := by rw [List.getElem?_take_of_lt hnm]; exact en
      rw [← h.tk, List.getElem?_take_of_lt hnm] at hn
      have : n = k := get_inj hlb.1.nodup hn (by rw [K_getEq, List.getElem?_eq_getElem (by omega)]; rfl)
      omega
  refine ⟨hok, ⟨h.mix.swap hok, ?_⟩, ?_, ?_⟩
  · rw [swapR_nat hok, ← h.tk]
    refine List.ext_getElem? fun j => ?_
    by_cases hj : j < i
    · rw [List.getElem?_take_of_lt hj, List.getElem?_take_of_lt hj, K_getEq, K_getEq]
      unfold swapAt
      rw [dif_pos hkl, List.getElem?_set_ne (by omega), List.getElem?_set_ne (by omega)]
    · rw [List.getElem?_take_eq_none (by omega), List.getElem?_take_eq_none (by omega)]
  · rw [swapR_nat hok, ← e, K_getEq, K_getEq]
    unfold swapAt
    rw [dif_pos hkl, List.getElem?_set_ne (by omega), List.getElem?_set_self (by omega), List.getElem?_eq_getElem hkl]
  · rw [swapR_nat hok]
    unfold swapAt
    rw [dif_pos hkl, List.length_set, List.length_set]
theorem Bub.next {a b l : List Od} {i : Nat} (h : Bub a b l i) (e : (K l)[i]? = (K b)[i]?) : Bub a b l (i + 1) :=
  ⟨h.mix, by rw [List.take_add_one, List.take_add_one, h.tk, e]⟩
theorem Bub.done {a b l : List Od} (h : Bub a b l b.length) (hl : a.length = b.length) : K l = K b := by
  have := h.tk
  rw [List.take_of_length_le (by rw [List.length_map, h.len, hl]; exact Nat.le_refl _), List.take_of_length_le (by rw [List.length_map]; exact Nat.le_refl _)] at this
  exact this
end Go.Proofs.YtgholbeehkfbiaaGreat
