/- Texts of this claim, laid together: Plain, Beg, RTouchP. -/
import Derived.Test.YtampniiehgimhaaGreatRows
import Derived.Test.YtampniiehgimhaaGreatBq23
import Derived.WalkKit
import Derived.WalkSpells
import Derived.WalkLawsBesides
import Derived.Deep.QuietTactic
import Derived.BigQuiet
import Derived.Laws.StructEq
import Derived.Deep.DeepFit
import Derived.StillTailTactics
import Derived.Test.YtampniiehgimhaaGreatBq3

/- The plain law of beginnings, lists that are alike, and meeting lists -/
namespace Go.Proofs.YtampniiehgimhaaGreat
open Go.RowKit
section
variable {α : Type}
/-- x stands ahead of y -/
def Bef (l : List α) (x y : α) : Prop := List.Sublist [x, y] l
theorem Bef.left {l : List α} {x y : α} (h : Bef l x y) : x ∈ l := h.subset (by simp)
theorem Bef.right {l : List α} {x y : α} (h : Bef l x y) : y ∈ l := h.subset (by simp)
theorem bef_append {a b : List α} {x y : α} : Bef (a ++ b) x y ↔ Bef a x y ∨ (x ∈ a ∧ y ∈ b) ∨ Bef b x y := by
 unfold Bef
 rw [List.sublist_append_iff]
 constructor
 ·rintro ⟨l1, l2, h, h1, h2⟩
  cases l1 with
  | nil => simp only [List.nil_append] at h; subst h; exact .inr (.inr h2)
  | cons u l1 =>
   cases l1 with
   | nil =>
    simp only [List.cons_append, List.nil_append, List.cons.injEq] at h
    obtain ⟨rfl, rfl⟩ := h
    exact .inr (.inl ⟨List.singleton_sublist.1 h1, List.singleton_sublist.1 h2⟩)
   | cons t l1 =>
    simp only [List.cons_append, List.cons.injEq] at h
    obtain ⟨rfl, rfl, h⟩ := h
    have h3 := List.append_eq_nil_iff.1 h.symm
    rw [h3.1] at h1
    exact .inl h1
 ·rintro (h | ⟨h1, h2⟩ | h)
  ·exact ⟨[x, y], [], rfl, h, List.nil_sublist _⟩
  ·exact ⟨[x], [y], rfl, List.singleton_sublist.2 h1, List.singleton_sublist.2 h2⟩
  ·exact ⟨[], [x, y], rfl, List.nil_sublist _, h⟩
theorem bef_filter {f : α → Bool} {l : List α} {x y : α} : Bef (l.filter f) x y ↔ Bef l x y ∧ f x = true ∧ f y = true := by
 constructor
 ·intro h
  exact ⟨List.Sublist.trans h List.filter_sublist, (List.mem_filter.1 h.left).2, (List.mem_filter.1 h.right).2⟩
 ·rintro ⟨h, h1, h2⟩
  have := List.Sublist.filter f h
  rw [List.filter_cons_of_pos h1, List.filter_cons_of_pos h2, List.filter_nil] at this
  exact this
theorem bef_cons {z x y : α} {t : List α} : Bef (z :: t) x y ↔ (x = z ∧ y ∈ t) ∨ Bef t x y := by
 rw [show z :: t = [z] ++ t from rfl, bef_append]
 constructor
 ·rintro (h | ⟨h1, h2⟩ | h)
  ·exact absurd h.length_le (by simp)
  ·exact .inl ⟨by simpa using h1, h2⟩
  ·exact .inr h
 ·rintro (⟨rfl, h⟩ | h)
  ·exact .inr (.inl ⟨by simp, h⟩)
  ·exact .inr (.inr h)
theorem bef_nil {x y : α} : ¬ Bef ([] : List α) x y := fun h => absurd h.length_le (by simp)
theorem bef_total {l : List α} {x y : α} (hx : x ∈ l) (hy : y ∈ l) (hne : x ≠ y) : Bef l x y ∨ Bef l y x := by
 induction l with
 | nil => cases hx
 | cons z t ih =>
  rw [bef_cons, bef_cons]
  rcases List.mem_cons.1 hx with rfl | hx1 <;> rcases List.mem_cons.1 hy with rfl | hy1
  ·exact absurd rfl hne
  ·exact .inl (.inl ⟨rfl, hy1⟩)
  ·exact .inr (.inl ⟨rfl, hx1⟩)
  ·rcases ih hx1 hy1 with h | h
   ·exact .inl (.inr h)
   ·exact .inr (.inr h)
theorem bef_irrefl {l : List α} (hn : l.Nodup) {x : α} (h : Bef l x x) : False := by
 have := List.Pairwise.sublist h hn
 simp at this
theorem bef_asymm {l : List α} (hn : l.Nodup) {x y : α} (h : Bef l x y) (h' : Bef l y x) : False := by
 induction l with
 | nil => exact bef_nil h
 | cons z t ih =>
  rw [bef_cons] at h h'
  have hz := (List.nodup_cons.1 hn)
  rcases h with ⟨rfl, h⟩ | h <;> rcases h' with ⟨rfl, h'⟩ | h'
  ·exact hz.1 h
  ·exact hz.1 h'.right
  ·exact hz.1 h.right
  ·exact ih hz.2 h h'
theorem bef_get {l : List α} {x y : α} : Bef l x y ↔ ∃ n m : Nat, n < m ∧ l[n]? = some x ∧ l[m]? = some y := by
 have key := (List.pairwise_iff_forall_sublist (R := fun a b => ¬(a = x ∧ b = y)) (l := l)).symm.trans List.pairwise_iff_getElem
 constructor
 ·intro h
  refine Classical.byContradiction fun hn => ?_
  exact key.2 (fun i j hi hj hij e => hn ⟨i, j, hij, by rw [List.getElem?_eq_getElem hi, e.1], by rw [List.getElem?_eq_getElem hj, e.2]⟩) h ⟨rfl, rfl⟩
 ·rintro ⟨n, m, hnm, h1, h2⟩
  refine Classical.byContradiction fun hn => ?_
  obtain ⟨hi, e1⟩ := List.getElem?_eq_some_iff.1 h1
  obtain ⟨hj, e2⟩ := List.getElem?_eq_some_iff.1 h2
  exact key.1 (fun {a b} hs e => hn (by rw [← e.1, ← e.2]; exact hs)) n m hi hj hnm ⟨e1, e2⟩
theorem get_inj {l : List α} (hn : l.Nodup) {x : α} {n m : Nat} (h1 : l[n]? = some x) (h2 : l[m]? = some x) : n = m := by
 rcases Nat.lt_trichotomy n m with h | h | h
 ·exact (bef_irrefl hn (bef_get.2 ⟨n, m, h, h1, h2⟩)).elim
 ·exact h
 ·exact (bef_irrefl hn (bef_get.2 ⟨m, n, h, h2, h1⟩)).elim
theorem length_sub {a : List α} (hn : a.Nodup) : ∀ {b : List α}, (∀ x ∈ a, x ∈ b) → a.length ≤ b.length := by
 induction a with
 | nil => intro b _; simp
 | cons x t ih =>
  intro b h
  obtain ⟨s, u, rfl⟩ := List.append_of_mem (h x (by simp))
  have hz := List.nodup_cons.1 hn
  have := ih hz.2 (b := s ++ u) fun y hy => by
   have h1 := h y (by simp [hy])
   simp only [List.mem_append, List.mem_cons] at h1 ⊢
   rcases h1 with h1 | rfl | h1
   ·exact .inl h1
   ·exact absurd hy hz.1
   ·exact .inr h1
  simp only [List.length_append, List.length_cons] at this ⊢
  omega
theorem sub_of_length {a b : List α} (hn : a.Nodup) (h : ∀ x ∈ a, x ∈ b) (hl : b.length ≤ a.length) : ∀ x ∈ b, x ∈ a := by
 intro x hx
 refine Classical.byContradiction fun hxa => ?_
 obtain ⟨s, u, rfl⟩ := List.append_of_mem hx
 have := length_sub hn (b := s ++ u) fun y hy => by
  have h1 := h y hy
  simp only [List.mem_append, List.mem_cons] at h1 ⊢
  rcases h1 with h1 | rfl | h1
  ·exact .inl h1
  ·exact absurd hy hxa
  ·exact .inr h1
 simp only [List.length_append, List.length_cons] at this hl
 omega
theorem filter_length (f : α → Bool) (l : List α) : (l.filter f).length + (l.filter fun x => !f x).length = l.length := by
 induction l with
 | nil => rfl
 | cons x t ih =>
  by_cases h : f x = true
  ·rw [List.filter_cons_of_pos h, List.filter_cons_of_neg (by simp [h])]; simp only [List.length_cons]; omega
  ·rw [List.filter_cons_of_neg h, List.filter_cons_of_pos (by simpa using h)]; simp only [List.length_cons]; omega
end

/-- no Id is there twice -/
def Val (l : List Od) : Prop := l.Pairwise fun x y => x.id ≠ y.id
theorem Val.nodup {l : List Od} (h : Val l) : l.Nodup := List.Pairwise.imp (fun h e => h (by rw [e])) h
theorem Val.inj {l : List Od} (h : Val l) {x y : Od} (hx : x ∈ l) (hy : y ∈ l) (e : x.id = y.id) : x = y := by
 refine Classical.byContradiction fun hne => ?_
 have h2 : ∀ {a b : Od}, List.Sublist [a, b] l → a.id ≠ b.id := List.pairwise_iff_forall_sublist.1 h
 rcases bef_total hx hy hne with hb | hb
 ·exact h2 hb e
 ·exact h2 hb e.symm
theorem Val.sub {l m : List Od} (h : Val l) (hs : List.Sublist m l) : Val m := List.Pairwise.sublist hs h
theorem val_append {a b : List Od} : Val (a ++ b) ↔ Val a ∧ Val b ∧ ∀ x ∈ a, ∀ y ∈ b, x.id ≠ y.id := List.pairwise_append
theorem val_snoc {l : List Od} {x : Od} : Val (l ++ [x]) ↔ Val l ∧ ∀ y ∈ l, y.id ≠ x.id := by
 rw [val_append]
 constructor
 ·rintro ⟨h1, _, h2⟩
  exact ⟨h1, fun y hy => h2 y hy x (by simp)⟩
 ·rintro ⟨h1, h2⟩
  exact ⟨h1, List.pairwise_singleton _ _, fun y hy z hz => by rw [List.mem_singleton.1 hz]; exact h2 y hy⟩
theorem val_nil : Val [] := List.Pairwise.nil

theorem posN_snoc (l : List Od) (x : Od) (i : Id) : posN (l ++ [x]) i = if x.id = i then some l.length else posN l i := by
 unfold posN
 rw [placesN_snoc, getM_put]
theorem posN_isSome (i : Id) (l : List Od) : (posN l i).isSome = true ↔ ∃ x ∈ l, x.id = i := by
 refine snoc_ind (Q := fun l => (posN l i).isSome = true ↔ ∃ x ∈ l, x.id = i) ?_ ?_ l
 ·constructor
  ·intro h; cases h
  ·rintro ⟨x, hx, _⟩; cases hx
 ·intro l x ih
  rw [posN_snoc]
  by_cases h : x.id = i
  ·rw [if_pos h]
   exact ⟨fun _ => ⟨x, by simp, h⟩, fun _ => rfl⟩
  ·rw [if_neg h, ih]
   constructor
   ·rintro ⟨y, hy, e⟩; exact ⟨y, by simp [hy], e⟩
   ·rintro ⟨y, hy, e⟩
    rcases List.mem_append.1 hy with hy | hy
    ·exact ⟨y, hy, e⟩
    ·rw [List.mem_singleton.1 hy] at e; exact absurd e h
theorem posN_get {i : Id} {l : List Od} : ∀ {k : Nat}, posN l i = some k → ∃ x, l[k]? = some x ∧ x.id = i := by
 refine snoc_ind (Q := fun l => ∀ {k : Nat}, posN l i = some k → ∃ x, l[k]? = some x ∧ x.id = i) ?_ ?_ l
 ·intro k h; cases h
 ·intro l x ih k h
  rw [posN_snoc] at h
  by_cases hx : x.id = i
  ·rw [if_pos hx] at h
   injection h with h
   subst h
   exact ⟨x, by simp, hx⟩
  ·rw [if_neg hx] at h
   obtain ⟨y, hy, e⟩ := ih h
   have hk := (List.getElem?_eq_some_iff.1 hy).1
   exact ⟨y, by rw [List.getElem?_append_left hk]; exact hy, e⟩
theorem posN_mem {l : List Od} (hv : Val l) {x : Od} (hx : x ∈ l) : ∃ k, posN l x.id = some k ∧ l[k]? = some x := by
 obtain ⟨k, hk⟩ := Option.isSome_iff_exists.1 ((posN_isSome x.id l).2 ⟨x, hx, rfl⟩)
 obtain ⟨y, hy, e⟩ := posN_get hk
 rw [hv.inj (List.mem_of_getElem? hy) hx e] at hy
 exact ⟨k, hk, hy⟩
theorem placesN_len (l : List Od) : (placesN l).length ≤ l.length ∧ ((placesN l).length = l.length ↔ Val l) := by
 refine snoc_ind (Q := fun l => (placesN l).length ≤ l.length ∧ ((placesN l).length = l.length ↔ Val l)) ⟨Nat.le_refl _, fun _ => val_nil, fun _ => rfl⟩ ?_ l
 intro l x ih
 rw [placesN_snoc, length_putM, val_snoc, List.length_append, List.length_singleton, ← ih.2]
 by_cases h : (posN l x.id).isSome = true
 ·rw [if_pos h]
  obtain ⟨y, hy, e⟩ := (posN_isSome x.id l).1 h
  exact ⟨by omega, fun hl => by omega, fun hl => absurd e (hl.2 y hy)⟩
 ·rw [if_neg h]
  refine ⟨by omega, fun hl => ⟨by omega, fun y hy e => h ((posN_isSome x.id l).2 ⟨y, hy, e⟩)⟩, fun hl => by omega⟩
theorem validL_iff {l : List Od} : validL l = true ↔ Val l := by
 unfold validL
 rw [decide_eq_true_eq]
 exact (placesN_len l).2

abbrev K (l : List Od) : List Od := l.map Od.core
theorem placesN_core (l : List Od) : placesN (K l) = placesN l := by
 refine snoc_ind (Q := fun l => placesN (K l) = placesN l) rfl ?_ l
 intro l x ih
 rw [K, List.map_append, List.map_singleton, placesN_snoc, placesN_snoc, ih, List.length_map]
 rfl
theorem posN_core (l : List Od) (i : Id) : posN (K l) i = posN l i := by unfold posN; rw [placesN_core]
theorem validL_core (l : List Od) : validL (K l) = validL l := by unfold validL; rw [placesN_core, List.length_map]
theorem beginsAt_core (a b : List Od) (i : Nat) (o : Od) : beginsAt (K a) (K b) i o.core = beginsAt a b i o := by
 unfold beginsAt
 rw [posN_core, show o.core.id = o.id from rfl]
 cases posN b o.id with
 | none => rfl
 | some k =>
  simp only [List.getElem?_map, ← List.map_take, List.all_map]
  congr 1
  ·cases b[k]? with
   | none => rfl
   | some x => exact sameB_cc
  ·congr 1
   funext p
   simp only [Function.comp, posN_core]
   rfl
theorem beginsB_core (a b : List Od) : beginsB (K a) (K b) = beginsB a b := by
 unfold beginsB
 rw [validL_core, validL_core, List.zipIdx_map, List.all_map]
 congr 1
 congr 1
 funext p
 exact beginsAt_core a b p.2 p.1
theorem othersL_core (a b : List Od) : othersL (K a) (K b) = K (othersL a b) := by
 unfold othersL
 rw [List.filter_map]
 congr 1
 congr 1
 funext x
 simp only [Function.comp, posN_core]
 rfl
theorem meetL_core (a b : List Od) : meetL (K a) (K b) = K (meetL a b) := by
 unfold meetL
 rw [othersL_core]
 exact List.map_append.symm
theorem meetOk_core (a b : List Od) : meetOk (K a) (K b) = meetOk a b := by
 unfold meetOk
 rw [meetL_core, beginsB_core, beginsB_core]
theorem alikeB_core (a b : List Od) : alikeB (K a) (K b) = alikeB a b := by
 unfold alikeB
 rw [beginsB_core, List.length_map, List.length_map]
theorem sameL_core {a b : List Od} : sameL a b = true ↔ K a = K b := by
 unfold sameL
 rw [Bool.and_eq_true, decide_eq_true_eq, List.all_eq_true]
 constructor
 ·rintro ⟨hl, h⟩
  refine List.ext_getElem (by simp [hl]) fun i h1 h2 => ?_
  simp only [List.length_map] at h1 h2
  rw [List.getElem_map, List.getElem_map]
  exact sameB_core.1 (h (a[i], b[i]) (List.mem_iff_getElem.2 ⟨i, by simp; omega, by simp⟩))
 ·intro h
  have hl : a.length = b.length := by simpa using congrArg List.length h
  refine ⟨hl, fun p hp => ?_⟩
  obtain ⟨i, hi, rfl⟩ := List.getElem_of_mem hp
  simp only [List.length_zip] at hi
  rw [List.getElem_zip]
  refine sameB_core.2 ?_
  have h1 : (K a)[i]'(by simp; omega) = (K b)[i]'(by simp; omega) := by simp only [h]
  simpa using h1

theorem any_any_comm (l m : List ByteArray) : (l.any fun s => m.any fun t => decide (s = t)) = (m.any fun s => l.any fun t => decide (s = t)) := by
 rw [Bool.eq_iff_iff]
 simp only [List.any_eq_true, decide_eq_true_eq]
 constructor
 ·rintro ⟨s, hs, t, ht, e⟩; exact ⟨t, ht, s, hs, e.symm⟩
 ·rintro ⟨s, hs, t, ht, e⟩; exact ⟨t, ht, s, hs, e.symm⟩
theorem clashB_comm (x y : Od) : clashB x y = clashB y x := by
 unfold clashB
 rw [any_any_comm (touches x) (touches y), show decide (x.id = y.id) = decide (y.id = x.id) from by simp [eq_comm], Bool.or_comm (decide (x.kind = 6)), Bool.and_comm (decide (x.kind = 1))]
theorem clashB_refl (x : Od) : clashB x x = true := by
 unfold clashB
 rw [decide_eq_true rfl]
 rfl

/-- a begins b: of lists whose legs have no place -/
def Beg (a b : List Od) : Prop := Val a ∧ Val b ∧ (∀ o ∈ a, o ∈ b) ∧ ∀ p o, o ∈ a → Bef b p o → clashB p o = true → Bef a p o
def Bare (l : List Od) : Prop := ∀ x ∈ l, x.core = x
theorem bare_K (l : List Od) : Bare (K l) := fun x hx => by
 obtain ⟨y, _, rfl⟩ := List.mem_map.1 hx
 rfl
theorem Bare.eq {l m : List Od} (h : Bare l) (k : Bare m) {x y : Od} (hx : x ∈ l) (hy : y ∈ m) (hs : sameB x y = true) : x = y := by
 rw [← h x hx, ← k y hy]
 exact sameB_core.1 hs
theorem beginsAt_iff {a b : List Od} {i : Nat} {o : Od} : beginsAt a b i o = true ↔ ∃ k x, posN b o.id = some k ∧ b[k]? = some x ∧ sameB o x = true ∧ ∀ p ∈ b.take k, clashB p o = true → ∃ n, posN a p.id = some n ∧ n ≤ i := by
 unfold beginsAt
 cases hk : posN b o.id with
 | none => simp
 | some k =>
  simp only
  cases hx : b[k]? with
  | none =>
   simp only [Bool.false_and, Bool.false_eq_true, false_iff]
   rintro ⟨k', x, h1, h2, _⟩
   injection h1 with h1
   subst h1
   rw [hx] at h2
   cases h2
  | some x =>
   simp only [Bool.and_eq_true, List.all_eq_true, Bool.not_eq_true']
   have h0 : ∀ p : Od, (clashB p o && (match posN a p.id with | none => true | some n => decide (i < n))) = false ↔ (clashB p o = true → ∃ n, posN a p.id = some n ∧ n ≤ i) := by
    intro p
    cases hp : posN a p.id with
    | none => cases clashB p o <;> simp
    | some n => cases clashB p o <;> simp
   constructor
   ·rintro ⟨hs, h⟩
    exact ⟨k, x, rfl, hx, hs, fun p hp => (h0 p).1 (h p hp)⟩
   ·rintro ⟨k', x', h1, h2, hs, h⟩
    injection h1 with h1
    subst h1
    rw [hx] at h2
    injection h2 with h2
    subst h2
    exact ⟨hs, fun p hp => (h0 p).2 (h p hp)⟩
theorem mem_take_get {α : Type} {l : List α} {k : Nat} {p : α} : p ∈ l.take k ↔ ∃ n, n < k ∧ l[n]? = some p := by
 rw [List.mem_take_iff_getElem]
 constructor
 ·rintro ⟨i, hi, e⟩
  exact ⟨i, by omega, by rw [List.getElem?_eq_getElem (by omega), e]⟩
 ·rintro ⟨n, hn, e⟩
  obtain ⟨h1, h2⟩ := List.getElem?_eq_some_iff.1 e
  exact ⟨n, by omega, h2⟩
theorem beginsB_iff {a b : List Od} (ha : Bare a) (hb : Bare b) : beginsB a b = true ↔ Beg a b := by
 unfold beginsB
 rw [Bool.and_eq_true, Bool.and_eq_true, validL_iff, validL_iff, List.all_eq_true]
 constructor
 ·rintro ⟨⟨va, vb⟩, h⟩
  have hat : ∀ i o, a[i]? = some o → beginsAt a b i o = true := fun i o hi => h (o, i) (List.mem_zipIdx_iff_getElem?.2 hi)
  have hfull : ∀ i o, a[i]? = some o → ∃ k, b[k]? = some o ∧ ∀ p ∈ b.take k, clashB p o = true → ∃ n, posN a p.id = some n ∧ n ≤ i := by
   intro i o hi
   obtain ⟨k, x, _, hx, hs, hp⟩ := beginsAt_iff.1 (hat i o hi)
   rw [← ha.eq hb (List.mem_of_getElem? hi) (List.mem_of_getElem? hx) hs] at hx
   exact ⟨k, hx, hp⟩
  have hsub : ∀ o ∈ a, o ∈ b := fun o ho => by
   obtain ⟨i, hi⟩ := List.getElem?_of_mem ho
   obtain ⟨k, hk, _⟩ := hfull i o hi
   exact List.mem_of_getElem? hk
  refine ⟨va, vb, hsub, fun p o ho hbef hc => ?_⟩
  obtain ⟨i, hi⟩ := List.getElem?_of_mem ho
  obtain ⟨k, hk, hp⟩ := hfull i o hi
  obtain ⟨n, m, hnm, h1, h2⟩ := bef_get.1 hbef
  obtain rfl := get_inj vb.nodup h2 hk
  obtain ⟨n', hn', hle⟩ := hp p (mem_take_get.2 ⟨n, hnm, h1⟩) hc
  obtain ⟨z, hz, e⟩ := posN_get hn'
  rw [vb.inj (hsub z (List.mem_of_getElem? hz)) hbef.left e] at hz
  have hne : n' ≠ i := by
   rintro rfl
   rw [hz] at hi
   injection hi with hi
   subst hi
   exact bef_irrefl vb.nodup hbef
  exact bef_get.2 ⟨n', i, by omega, hz, hi⟩
 ·rintro ⟨va, vb, hsub, h⟩
  refine ⟨⟨va, vb⟩, ?_⟩
  rintro ⟨o, i⟩ hp
  have hi : a[i]? = some o := List.mem_zipIdx_iff_getElem?.1 hp
  have ho := List.mem_of_getElem? hi
  obtain ⟨k, hk, hx⟩ := posN_mem vb (hsub o ho)
  refine beginsAt_iff.2 ⟨k, o, hk, hx, sameB_core.2 rfl, fun p hp hc => ?_⟩
  obtain ⟨n, hn, h1⟩ := mem_take_get.1 hp
  have hb2 := h p o ho (bef_get.2 ⟨n, k, hn, h1, hx⟩) hc
  obtain ⟨n', hn', hx'⟩ := posN_mem va hb2.left
  refine ⟨n', hn', Nat.le_of_not_lt fun hlt => ?_⟩
  exact bef_asymm va.nodup hb2 (bef_get.2 ⟨i, n', hlt, hi, hx'⟩)
theorem beginsB_K {a b : List Od} : beginsB a b = true ↔ Beg (K a) (K b) := by
 rw [← beginsB_core]
 exact beginsB_iff (bare_K a) (bare_K b)
end Go.Proofs.YtampniiehgimhaaGreat

/- Beginnings: order, beginnings of a list, swaps, what is behind, where two meet -/
namespace Go.Proofs.YtampniiehgimhaaGreat
open Go.RowKit
theorem Beg.refl {l : List Od} (h : Val l) : Beg l l := ⟨h, h, fun _ ho => ho, fun _ _ _ hb _ => hb⟩
theorem Beg.nil {l : List Od} (h : Val l) : Beg [] l := ⟨val_nil, h, fun _ ho => absurd ho (by simp), fun _ _ ho => absurd ho (by simp)⟩
theorem Beg.trans {a b c : List Od} (h : Beg a b) (k : Beg b c) : Beg a c :=
 ⟨h.1, k.2.1, fun o ho => k.2.2.1 o (h.2.2.1 o ho), fun p o ho hb hc => h.2.2.2 p o ho (k.2.2.2 p o (h.2.2.1 o ho) hb hc) hc⟩
/-- what stands ahead, and clashes, in the beginning stands ahead in the whole -/
theorem Beg.back {a b : List Od} (h : Beg a b) {p o : Od} (hb : Bef a p o) (hc : clashB p o = true) : Bef b p o := by
 rcases bef_total (h.2.2.1 p hb.left) (h.2.2.1 o hb.right) (fun e => by subst e; exact bef_irrefl h.1.nodup hb) with h1 | h1
 ·exact h1
 ·exact (bef_asymm h.1.nodup hb (h.2.2.2 o p hb.left h1 (by rw [clashB_comm]; exact hc))).elim
theorem Beg.symm {a b : List Od} (h : Beg a b) (hl : b.length ≤ a.length) : Beg b a :=
 ⟨h.2.1, h.1, sub_of_length h.1.nodup h.2.2.1 hl, fun _ _ _ hb hc => h.back hb hc⟩
theorem Beg.len {a b : List Od} (h : Beg a b) : a.length ≤ b.length := length_sub h.1.nodup h.2.2.1
theorem Beg.left {a b : List Od} (h : Val (a ++ b)) : Beg a (a ++ b) := by
 obtain ⟨h1, h2, h3⟩ := val_append.1 h
 refine ⟨h1, h, fun o ho => List.mem_append.2 (.inl ho), fun p o ho hb _ => ?_⟩
 rcases bef_append.1 hb with hb | ⟨_, hb⟩ | hb
 ·exact hb
 ·exact (h3 o ho o hb rfl).elim
 ·exact (h3 o ho o hb.right rfl).elim
theorem Beg.take {l : List Od} (h : Val l) (k : Nat) : Beg (l.take k) l := by
 have := Beg.left (a := l.take k) (b := l.drop k) (by rw [List.take_append_drop]; exact h)
 rw [List.take_append_drop] at this
 exact this
theorem val_perm_swap {u v : List Od} {x y : Od} (h : Val (u ++ x :: y :: v)) : Val (u ++ y :: x :: v) := by
 unfold Val at h ⊢
 refine List.Pairwise.perm h ?_ (fun h e => h e.symm)
 exact (List.Perm.refl u).append (List.Perm.swap y x v)
theorem bef_swap {u v : List Od} {x y p o : Od} (hn : clashB x y = false) (hb : Bef (u ++ y :: x :: v) p o) (hc : clashB p o = true) : Bef (u ++ x :: y :: v) p o := by
 rw [show u ++ y :: x :: v = u ++ ([y, x] ++ v) from rfl, bef_append, bef_append] at hb
 rw [show u ++ x :: y :: v = u ++ ([x, y] ++ v) from rfl, bef_append, bef_append]
 have hm : ∀ z, z ∈ [y, x] → z ∈ [x, y] := fun z hz => by simp only [List.mem_cons, List.not_mem_nil, or_false] at hz ⊢; exact hz.symm
 rcases hb with hb | ⟨h1, h2⟩ | hb | ⟨h1, h2⟩ | hb
 ·exact .inl hb
 ·refine .inr (.inl ⟨h1, ?_⟩)
  rcases List.mem_append.1 h2 with h2 | h2
  ·exact List.mem_append.2 (.inl (hm _ h2))
  ·exact List.mem_append.2 (.inr h2)
 ·rcases bef_cons.1 hb with ⟨rfl, h2⟩ | hb
  ·have h3 := List.mem_singleton.1 h2
   subst h3
   rw [clashB_comm, hn] at hc
   cases hc
  ·rcases bef_cons.1 hb with ⟨_, h2⟩ | hb
   ·cases h2
   ·exact (bef_nil hb).elim
 ·exact .inr (.inr (.inr (.inl ⟨hm _ h1, h2⟩)))
 ·exact .inr (.inr (.inr (.inr hb)))
theorem Beg.swap {u v : List Od} {x y : Od} (hn : clashB x y = false) (h : Val (u ++ x :: y :: v)) : Beg (u ++ x :: y :: v) (u ++ y :: x :: v) :=
 ⟨h, val_perm_swap h, fun o ho => by
  simp only [List.mem_append, List.mem_cons] at ho ⊢
  rcases ho with ho | ho | ho | ho
  ·exact .inl ho
  ·exact .inr (.inr (.inl ho))
  ·exact .inr (.inl ho)
  ·exact .inr (.inr (.inr ho)), fun _ _ _ hb hc => bef_swap hn hb hc⟩

/-- lists that clash.Swap makes of one another -/
inductive Mix : List Od → List Od → Prop
 | refl (l : List Od) : Mix l l
 | step {l : List Od} {u v : List Od} {x y : Od} (h : Mix l (u ++ x :: y :: v)) (hn : clashB x y = false) : Mix l (u ++ y :: x :: v)
theorem Mix.beg {l m : List Od} (h : Mix l m) (hv : Val l) : Beg l m ∧ Beg m l := by
 induction h with
 | refl => exact ⟨.refl hv, .refl hv⟩
 | step _ hn ih =>
  have h1 := Beg.swap hn ih.1.2.1
  have h2 := Beg.swap (by rw [clashB_comm]; exact hn) (val_perm_swap ih.1.2.1)
  exact ⟨ih.1.trans h1, h2.trans ih.2⟩
theorem Mix.perm {l m : List Od} (h : Mix l m) : l.Perm m := by
 induction h with
 | refl => exact .refl _
 | step _ _ ih => exact ih.trans ((List.Perm.refl _).append (List.Perm.swap _ _ _))
theorem swapAt_form {l : List Od} {k : Nat} (h : k + 1 < l.length) : ∃ u v, l = u ++ l[k] :: l[k + 1] :: v ∧ swapAt l k = u ++ l[k + 1] :: l[k] :: v := by
 refine ⟨l.take k, l.drop (k + 2), ?_, ?_⟩
 ·rw [← List.drop_eq_getElem_cons h, ← List.drop_eq_getElem_cons (by omega : k < l.length), List.take_append_drop]
 ·rw [swapAt, dif_pos h]
  refine List.ext_getElem (by simp; omega) fun i h1 h2 => ?_
  simp only [List.length_set] at h1
  rw [List.getElem_set, List.getElem_set, List.getElem_append]
  have hl : (l.take k).length = k := by rw [List.length_take]; omega
  simp only [hl]
  by_cases h3 : i < k
  ·rw [dif_pos h3, if_neg (by omega), if_neg (by omega), List.getElem_take]
  ·rw [dif_neg h3, List.getElem_cons]
   by_cases h4 : i = k
   ·rw [if_neg (by omega), if_pos h4.symm, dif_pos (by omega)]
   ·rw [dif_neg (by omega), List.getElem_cons]
    by_cases h5 : i = k + 1
    ·rw [if_pos h5.symm, dif_pos (by omega)]
    ·rw [if_neg (by omega), if_neg (by omega), dif_neg (by omega), List.getElem_drop]
     congr 1
     omega
theorem Mix.swap {l m : List Od} (h : Mix l m) {i : Int} (hs : swapOk m i = true) : Mix l (swapR m i) := by
 rw [swapR, if_pos hs]
 unfold swapOk at hs
 by_cases hk : 0 ≤ i ∧ i.toNat + 1 < m.length
 ·rw [dif_pos hk] at hs
  obtain ⟨u, v, h1, h2⟩ := swapAt_form hk.2
  rw [h2]
  rw [h1] at h
  refine h.step ?_
  simpa using hs
 ·rw [dif_neg hk] at hs
  cases hs

theorem mem_others {a b : List Od} {x : Od} : x ∈ othersL a b ↔ x ∈ b ∧ ∀ y ∈ a, y.id ≠ x.id := by
 unfold othersL
 rw [List.mem_filter]
 refine and_congr_right fun _ => ?_
 rw [Bool.not_eq_true', ← Bool.not_eq_true, posN_isSome]
 constructor
 ·intro h y hy e; exact h ⟨y, hy, e⟩
 ·rintro h ⟨y, hy, e⟩; exact h y hy e
theorem bef_others {a b : List Od} {x y : Od} : Bef (othersL a b) x y ↔ Bef b x y ∧ x ∈ othersL a b ∧ y ∈ othersL a b := by
 have h := @bef_filter Od (fun x => !(posN a x.id).isSome) b x y
 unfold othersL
 rw [h, List.mem_filter, List.mem_filter]
 constructor
 ·rintro ⟨h1, h2, h3⟩; exact ⟨h1, ⟨h1.left, h2⟩, ⟨h1.right, h3⟩⟩
 ·rintro ⟨h1, h2, h3⟩; exact ⟨h1, h2.2, h3.2⟩
theorem val_meet {a b : List Od} (ha : Val a) (hb : Val b) : Val (meetL a b) :=
 val_append.2 ⟨ha, hb.sub List.filter_sublist, fun x hx _ hy e => (mem_others.1 hy).2 x hx e⟩
theorem others_len {a b : List Od} (ha : Val a) (hb : Val b) (hs : ∀ x ∈ a, x ∈ b) : a.length + (othersL a b).length = b.length := by
 have h := filter_length (fun x : Od => (posN a x.id).isSome) b
 have h1 : a.length ≤ (b.filter fun x : Od => (posN a x.id).isSome).length := length_sub ha.nodup fun x hx => List.mem_filter.2 ⟨hs x hx, (posN_isSome x.id a).2 ⟨x, hx, rfl⟩⟩
 have h2 : (b.filter fun x : Od => (posN a x.id).isSome).length ≤ a.length := length_sub (hb.nodup.sublist List.filter_sublist) fun x hx => by
  obtain ⟨hxb, hp⟩ := List.mem_filter.1 hx
  obtain ⟨y, hy, e⟩ := (posN_isSome x.id a).1 hp
  rw [← hb.inj (hs y hy) hxb e]
  exact hy
 unfold othersL
 omega
/-- a, and what is behind it, is the whole -/
theorem Beg.rest {a m : List Od} (h : Beg a m) : Beg (a ++ othersL a m) m ∧ (a ++ othersL a m).length = m.length := by
 have hv := val_meet h.1 h.2.1
 refine ⟨⟨hv, h.2.1, fun o ho => ?_, fun p o ho hb hc => ?_⟩, by rw [List.length_append]; exact others_len h.1 h.2.1 h.2.2.1⟩
 ·rcases List.mem_append.1 ho with ho | ho
  ·exact h.2.2.1 o ho
  ·exact (mem_others.1 ho).1
 ·rw [bef_append]
  rcases List.mem_append.1 ho with ho | ho
  ·exact .inl (h.2.2.2 p o ho hb hc)
  ·by_cases hp : ∃ y ∈ a, y.id = p.id
   ·obtain ⟨y, hy, e⟩ := hp
    rw [h.2.1.inj (h.2.2.1 y hy) hb.left e] at hy
    exact .inr (.inl ⟨hy, ho⟩)
   ·exact .inr (.inr (bef_others.2 ⟨hb, mem_others.2 ⟨hb.left, fun y hy e => hp ⟨y, hy, e⟩⟩, ho⟩))
/-- two beginnings of one list meet in it -/
theorem Beg.meet {a b l : List Od} (h : Beg a l) (k : Beg b l) : Beg a (meetL a b) ∧ Beg b (meetL a b) ∧ Beg (meetL a b) l := by
 have hv := val_meet h.1 k.1
 have hmem : ∀ o ∈ b, o ∉ othersL a b → o ∈ a := fun o ho hn => by
  refine Classical.byContradiction fun hna => hn (mem_others.2 ⟨ho, fun y hy e => hna ?_⟩)
  rw [← h.2.1.inj (h.2.2.1 y hy) (k.2.2.1 o ho) e]
  exact hy
 refine ⟨Beg.left hv, ⟨k.1, hv, fun o ho => ?_, fun p o ho hb hc => ?_⟩, ⟨hv, h.2.1, fun o ho => ?_, fun p o ho hb hc => ?_⟩⟩
 ·by_cases hn : o ∈ othersL a b
  ·exact List.mem_append.2 (.inr hn)
  ·exact List.mem_append.2 (.inl (hmem o ho hn))
 ·rcases bef_append.1 hb with hb | ⟨hpa, hob⟩ | hb
  ·exact k.2.2.2 p o ho (h.back hb hc) hc
  ·rcases bef_total (h.2.2.1 p hpa) (k.2.2.1 o ho) (fun e => (mem_others.1 hob).2 p hpa (by rw [e])) with h1 | h1
   ·exact k.2.2.2 p o ho h1 hc
   ·have := h.2.2.2 o p hpa h1 (by rw [clashB_comm]; exact hc)
    exact ((mem_others.1 hob).2 o this.left rfl).elim
  ·exact (bef_others.1 hb).1
 ·rcases List.mem_append.1 ho with ho | ho
  ·exact h.2.2.1 o ho
  ·exact k.2.2.1 o (mem_others.1 ho).1
 ·rw [bef_append]
  rcases List.mem_append.1 ho with ho | ho
  ·exact .inl (h.2.2.2 p o ho hb hc)
  ·have h1 := k.2.2.2 p o (mem_others.1 ho).1 hb hc
   by_cases hn : p ∈ othersL a b
   ·exact .inr (.inr (bef_others.2 ⟨h1, hn, ho⟩))
   ·exact .inr (.inl ⟨hmem p h1.left hn, ho⟩)
/-- where two meet they do so the other way round -/
theorem Beg.meet_comm {a b : List Od} (ha : Val a) (h : Beg b (meetL a b)) : Beg a (meetL b a) := by
 have hv := val_meet h.1 ha
 have hl := Beg.left (val_meet ha h.1)
 have hin : ∀ o ∈ a, o ∈ meetL a b := fun o ho => List.mem_append.2 (.inl ho)
 have hmem : ∀ o ∈ a, o ∉ othersL b a → o ∈ b := fun o ho hn => by
  refine Classical.byContradiction fun hna => hn (mem_others.2 ⟨ho, fun y hy e => hna ?_⟩)
  rw [← h.2.1.inj (h.2.2.1 y hy) (hin o ho) e]
  exact hy
 refine ⟨ha, hv, fun o ho => ?_, fun p o ho hb hc => ?_⟩
 ·by_cases hn : o ∈ othersL b a
  ·exact List.mem_append.2 (.inr hn)
  ·exact List.mem_append.2 (.inl (hmem o ho hn))
 ·rcases bef_append.1 hb with hb | ⟨hpa, hob⟩ | hb
  ·exact hl.2.2.2 p o ho (h.back hb hc) hc
  ·rcases bef_total (h.2.2.1 p hpa) (hin o ho) (fun e => (mem_others.1 hob).2 p hpa (by rw [e])) with h1 | h1
   ·exact hl.2.2.2 p o ho h1 hc
   ·have := h.2.2.2 o p hpa h1 (by rw [clashB_comm]; exact hc)
    exact ((mem_others.1 hob).2 o this.left rfl).elim
  ·exact (bef_others.1 hb).1
theorem Beg.meet_alike {a b : List Od} (ha : Val a) (h : Beg b (meetL a b)) : Beg (meetL a b) (meetL b a) ∧ (meetL a b).length = (meetL b a).length := by
 have h1 := Beg.meet_comm ha h
 have h2 := h1.meet (Beg.left (val_meet h.1 ha))
 have h3 := h.meet (Beg.left (val_meet ha h.1))
 have := h2.2.2.len
 have := h3.2.2.len
 exact ⟨h2.2.2, by omega⟩
theorem others_nil (b : List Od) : othersL [] b = b := by
 unfold othersL
 rw [List.filter_eq_self]
 intro x _
 rfl
theorem others_all {a b : List Od} (h : ∀ x ∈ b, x ∈ a) : othersL a b = [] := by
 rw [List.eq_nil_iff_forall_not_mem]
 intro x hx
 have := mem_others.1 hx
 exact this.2 x (h x this.1) rfl
end Go.Proofs.YtampniiehgimhaaGreat

/- Texts in order, none twice: what order.Touches and its reference make. No program -/
namespace Go.Proofs.YtampniiehgimhaaGreat
open Go.RowKit
def StrictB (l : List ByteArray) : Prop := l.Pairwise fun x y => bless x y = true
theorem mem_compactL {s : ByteArray} {l : List ByteArray} : s ∈ compactL l ↔ s ∈ l := by
 induction l using compactL.induct with
 | case1 => simp [compactL]
 | case2 x => simp [compactL]
 | case3 y r ih => rw [compactL, if_pos rfl, ih]; simp
 | case4 x y r hne ih => rw [compactL, if_neg hne, List.mem_cons, ih]; simp
theorem bless_asymm {a b : ByteArray} (h : bless a b = true) : bless b a = false := by
 cases hb : bless b a with
 | false => rfl
 | true =>
  have := bless_strict.trans _ _ _ h hb
  rw [bless_strict.irr] at this
  cases this
theorem compactL_strict {l : List ByteArray} (h : SortedB bless l) : StrictB (compactL l) := by
 induction l using compactL.induct with
 | case1 => exact List.Pairwise.nil
 | case2 x => exact List.pairwise_singleton _ _
 | case3 y r ih => rw [compactL, if_pos rfl]; exact ih (List.pairwise_cons.1 h).2
 | case4 x y r hne ih =>
  rw [compactL, if_neg hne]
  have h1 := List.pairwise_cons.1 h
  refine List.pairwise_cons.2 ⟨fun z hz => ?_, ih h1.2⟩
  have hz := mem_compactL.1 hz
  have hxy : bless x y = true := by
   cases hb : bless x y with
   | true => rfl
   | false => exact absurd (bless_tri hb (h1.1 y (by simp))) hne
  rcases List.mem_cons.1 hz with rfl | hzr
  ·exact hxy
  ·cases hb : bless x z with
   | true => rfl
   | false =>
    have := bless_tri hb (h1.1 z hz)
    subst this
    rw [(List.pairwise_cons.1 h1.2).1 x hzr] at hxy
    cases hxy
theorem strict_unique : ∀ {l m : List ByteArray}, StrictB l → StrictB m → (∀ s, s ∈ l ↔ s ∈ m) → l = m
 | [], [], _, _, _ => rfl
 | [], y :: s, _, _, h => absurd ((h y).2 (by simp)) (by simp)
 | x :: r, [], _, _, h => absurd ((h x).1 (by simp)) (by simp)
 | x :: r, y :: s, hl, hm, h => by
  have h1 := List.pairwise_cons.1 hl
  have h2 := List.pairwise_cons.1 hm
  have hxy : x = y := by
   rcases List.mem_cons.1 ((h x).1 (by simp)) with e | e
   ·exact e
   ·rcases List.mem_cons.1 ((h y).2 (by simp)) with e' | e'
    ·exact e'.symm
    ·have g1 := h2.1 x e
     have g2 := h1.1 y e'
     rw [bless_asymm g1] at g2
     cases g2
  subst hxy
  have hx : ∀ {t : List ByteArray}, (∀ z ∈ t, bless x z = true) → x ∉ t := fun ht hx => by
   have := ht x hx
   rw [bless_strict.irr] at this
   cases this
  rw [strict_unique h1.2 h2.2 fun z => ?_]
  have hz := h z
  simp only [List.mem_cons] at hz
  by_cases e : z = x
  ·subst e
   exact ⟨fun hr => absurd hr (hx h1.1), fun hs => absurd hs (hx h2.1)⟩
  ·simpa [e] using hz
/-- out holds the texts of done that are not empty, in order, none twice -/
def GoodT (out done : List ByteArray) : Prop := StrictB out ∧ ∀ s, s ∈ out ↔ s ∈ done ∧ nonE s = true
theorem GoodT.nil : GoodT [] [] := ⟨List.Pairwise.nil, fun s => by simp⟩
theorem GoodT.skip {out done : List ByteArray} {a : ByteArray} (h : GoodT out done) (ha : nonE a = false ∨ a ∈ out) : GoodT out (done ++ [a]) := by
 refine ⟨h.1, fun s => ?_⟩
 rw [h.2 s]
 simp only [List.mem_append, List.mem_singleton]
 constructor
 ·rintro ⟨h1, h2⟩; exact ⟨.inl h1, h2⟩
 ·rintro ⟨h1 | rfl, h2⟩
  ·exact ⟨h1, h2⟩
  ·rcases ha with ha | ha
   ·rw [ha] at h2; cases h2
   ·exact (h.2 s).1 ha
theorem GoodT.ins {out done : List ByteArray} {a : ByteArray} {k : Nat} (h : GoodT out done) (hk : k ≤ out.length) (hup : ∀ j (hj : j < out.length), k ≤ j → bless a out[j] = true) (hlo : ∀ (hk0 : 0 < k), bless a (out[k - 1]'(by omega)) = false ∧ out[k - 1]'(by omega) ≠ a) (hne : nonE a = true) :
  GoodT (out.take k ++ [a] ++ out.drop k) (done ++ [a]) := by
 have hlow : ∀ z ∈ out.take k, bless z a = true := fun z hz => by
  obtain ⟨j, hj, rfl⟩ := List.getElem_of_mem hz
  rw [List.length_take] at hj
  rw [List.getElem_take]
  obtain ⟨h1, h2⟩ := hlo (by omega)
  have h3 : bless (out[k - 1]'(by omega)) a = true := by
   cases hb : bless (out[k - 1]'(by omega)) a with
   | true => rfl
   | false => exact absurd (bless_tri hb h1) h2
  by_cases e : j = k - 1
  ·subst e; exact h3
  ·exact bless_strict.trans _ _ _ (List.pairwise_iff_getElem.1 h.1 j (k - 1) (by omega) (by omega) (by omega)) h3
 have hhigh : ∀ z ∈ out.drop k, bless a z = true := fun z hz => by
  obtain ⟨j, hj, rfl⟩ := List.getElem_of_mem hz
  rw [List.length_drop] at hj
  rw [List.getElem_drop]
  exact hup (k + j) (by omega) (by omega)
 refine ⟨?_, fun s => ?_⟩
 ·refine List.pairwise_append.2 ⟨List.pairwise_append.2 ⟨List.Pairwise.sublist (List.take_sublist _ _) h.1, List.pairwise_singleton _ _, fun z hz y hy => ?_⟩, List.Pairwise.sublist (List.drop_sublist _ _) h.1, fun z hz y hy => ?_⟩
  ·rw [List.mem_singleton.1 hy]; exact hlow z hz
  ·rcases List.mem_append.1 hz with hz | hz
   ·exact bless_strict.trans _ _ _ (hlow z hz) (hhigh y hy)
   ·rw [List.mem_singleton.1 hz]; exact hhigh y hy
 ·have hmem : s ∈ out ↔ s ∈ out.take k ∨ s ∈ out.drop k := by rw [← List.mem_append, List.take_append_drop]
  simp only [List.mem_append, List.mem_singleton]
  constructor
  ·rintro ((h1 | rfl) | h1)
   ·have := (h.2 s).1 (hmem.2 (.inl h1)); exact ⟨.inl this.1, this.2⟩
   ·exact ⟨.inr rfl, hne⟩
   ·have := (h.2 s).1 (hmem.2 (.inr h1)); exact ⟨.inl this.1, this.2⟩
  ·rintro ⟨h1 | rfl, h2⟩
   ·rcases hmem.1 ((h.2 s).2 ⟨h1, h2⟩) with h3 | h3
    ·exact .inl (.inl h3)
    ·exact .inr h3
   ·exact .inl (.inr rfl)
theorem GoodT.touches {x : Od} {out : List ByteArray} (h : GoodT out (x.acct :: x.peer :: x.legs.map Leg.acct)) : out = touches x := by
 refine strict_unique h.1 (compactL_strict (sortB_sorted bless_strict _)) fun s => ?_
 rw [h.2 s]
 show _ ↔ s ∈ compactL (sortS _)
 rw [mem_compactL, (sortB_perm (lt := bless) _).mem_iff, List.mem_filter]
end Go.Proofs.YtampniiehgimhaaGreat
