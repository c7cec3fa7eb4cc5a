/- The plain law of beginnings, lists that are alike, and meeting lists -/
import Derived.Test.YtogecfddkohigaaRows
import Derived.Test.YtogecfddkohigaaOthers
import Derived.Test.YtogecfddkohigaaSwap
import Derived.Test.YtogecfddkohigaaSameL
import Derived.Test.YtogecfddkohigaaFewBase
import Derived.WalkKit
import Derived.WalkSpells
import Derived.WalkLawsBesides
import Derived.Deep.QuietTactic
import Derived.BigQuiet
import Derived.Laws.StructEq
import Derived.Deep.DeepFit
import Derived.StillTailTactics
namespace Go.Proofs.Ytogecfddkohigaa
open Go.RowKit
section
variable {α : Type}
/-- x stands ahead of y -/
def Bef (l : List α) (x y : α) : Prop := List.Sublist [x, y] l
theorem Bef.left {l : List α} {x y : α} (h : Bef l x y) : x ∈ l := h.subset (by simp)
theorem Bef.right {l : List α} {x y : α} (h : Bef l x y) : y ∈ l := h.subset (by simp)
theorem bef_append {a b : List α} {x y : α} : Bef (a ++ b) x y ↔ Bef a x y ∨ (x ∈ a ∧ y ∈ b) ∨ Bef b x y := by
  unfold Bef
  rw [List.sublist_append_iff]
  constructor
  · rintro ⟨l1, l2, h, h1, h2⟩
    cases l1 with
    | nil => simp only [List.nil_append] at h; subst h; exact .inr (.inr h2)
    | cons u l1 =>
      cases l1 with
      | nil =>
        simp only [List.cons_append, List.nil_append, List.cons.injEq] at h
        obtain ⟨rfl, rfl⟩ := h
        exact .inr (.inl ⟨List.singleton_sublist.1 h1, List.singleton_sublist.1 h2⟩)
      | cons t l1 =>
        simp only [List.cons_append, List.cons.injEq] at h
        obtain ⟨rfl, rfl, h⟩ := h
        have h3 := List.append_eq_nil_iff.1 h.symm
        rw [h3.1] at h1
        exact .inl h1
  · rintro (h | ⟨h1, h2⟩ | h)
    · exact ⟨[x, y], [], rfl, h, List.nil_sublist _⟩
    · exact ⟨[x], [y], rfl, List.singleton_sublist.2 h1, List.singleton_sublist.2 h2⟩
    · exact ⟨[], [x, y], rfl, List.nil_sublist _, h⟩
theorem bef_filter {f : α → Bool} {l : List α} {x y : α} : Bef (l.filter f) x y ↔ Bef l x y ∧ f x = true ∧ f y = true := by
  constructor
  · intro h
    exact ⟨List.Sublist.trans h List.filter_sublist, (List.mem_filter.1 h.left).2, (List.mem_filter.1 h.right).2⟩
  · rintro ⟨h, h1, h2⟩
    have := List.Sublist.filter f h
    rw [List.filter_cons_of_pos h1, List.filter_cons_of_pos h2, List.filter_nil] at this
    exact this
theorem bef_cons {z x y : α} {t : List α} : Bef (z :: t) x y ↔ (x = z ∧ y ∈ t) ∨ Bef t x y := by
  rw [show z :: t = [z] ++ t from rfl, bef_append]
  constructor
  · rintro (h | ⟨h1, h2⟩ | h)
    · exact absurd h.length_le (by simp)
    · exact .inl ⟨by simpa using h1, h2⟩
    · exact .inr h
  · rintro (⟨rfl, h⟩ | h)
    · exact .inr (.inl ⟨by simp, h⟩)
    · exact .inr (.inr h)
theorem bef_nil {x y : α} : ¬ Bef ([] : List α) x y := fun h => absurd h.length_le (by simp)
theorem bef_total {l : List α} {x y : α} (hx : x ∈ l) (hy : y ∈ l) (hne : x ≠ y) : Bef l x y ∨ Bef l y x := by
  induction l with
  | nil => cases hx
  | cons z t ih =>
    rw [bef_cons, bef_cons]
    rcases List.mem_cons.1 hx with rfl | hx1 <;> rcases List.mem_cons.1 hy with rfl | hy1
    · exact absurd rfl hne
    · exact .inl (.inl ⟨rfl, hy1⟩)
    · exact .inr (.inl ⟨rfl, hx1⟩)
    · rcases ih hx1 hy1 with h | h
      · exact .inl (.inr h)
      · exact .inr (.inr h)
theorem bef_irrefl {l : List α} (hn : l.Nodup) {x : α} (h : Bef l x x) : False := by
  have := List.Pairwise.sublist h hn
  simp at this
theorem bef_asymm {l : List α} (hn : l.Nodup) {x y : α} (h : Bef l x y) (h' : Bef l y x) : False := by
  induction l with
  | nil => exact bef_nil h
  | cons z t ih =>
    rw [bef_cons] at h h'
    have hz := (List.nodup_cons.1 hn)
    rcases h with ⟨rfl, h⟩ | h <;> rcases h' with ⟨rfl, h'⟩ | h'
    · exact hz.1 h
    · exact hz.1 h'.right
    · exact hz.1 h.right
    · exact ih hz.2 h h'
theorem bef_get {l : List α} {x y : α} : Bef l x y ↔ ∃ n m : Nat, n < m ∧ l[n]? = some x ∧ l[m]? = some y := by
  have key := (List.pairwise_iff_forall_sublist (R := fun a b => ¬(a = x ∧ b = y)) (l := l)).symm.trans List.pairwise_iff_getElem
  constructor
  · intro h
    refine Classical.byContradiction fun hn => ?_
    exact key.2 (fun i j hi hj hij e => hn ⟨i, j, hij, by rw [List.getElem?_eq_getElem hi, e.1], by rw [List.getElem?_eq_getElem hj, e.2]⟩) h ⟨rfl, rfl⟩
  · rintro ⟨n, m, hnm, h1, h2⟩
    refine Classical.byContradiction fun hn => ?_
    obtain ⟨hi, e1⟩ := List.getElem?_eq_some_iff.1 h1
    obtain ⟨hj, e2⟩ := List.getElem?_eq_some_iff.1 h2
    exact key.1 (fun {a b} hs e => hn (by rw [← e.1, ← e.2]; exact hs)) n m hi hj hnm ⟨e1, e2⟩
theorem get_inj {l : List α} (hn : l.Nodup) {x : α} {n m : Nat} (h1 : l[n]? = some x) (h2 : l[m]? = some x) : n = m := by
  rcases Nat.lt_trichotomy n m with h | h | h
  · exact (bef_irrefl hn (bef_get.2 ⟨n, m, h, h1, h2⟩)).elim
  · exact h
  · exact (bef_irrefl hn (bef_get.2 ⟨m, n, h, h2, h1⟩)).elim
theorem length_sub {a : List α} (hn : a.Nodup) : ∀ {b : List α}, (∀ x ∈ a, x ∈ b) → a.length ≤ b.length := by
  induction a with
  | nil => intro b _; simp
  | cons x t ih =>
    intro b h
    obtain ⟨s, u, rfl⟩ := List.append_of_mem (h x (by simp))
    have hz := List.nodup_cons.1 hn
    have := ih hz.2 (b := s ++ u) fun y hy => by
      have h1 := h y (by simp [hy])
      simp only [List.mem_append, List.mem_cons] at h1 ⊢
      rcases h1 with h1 | rfl | h1
      · exact .inl h1
      · exact absurd hy hz.1
      · exact .inr h1
    simp only [List.length_append, List.length_cons] at this ⊢
    omega
theorem sub_of_length {a b : List α} (hn : a.Nodup) (h : ∀ x ∈ a, x ∈ b) (hl : b.length ≤ a.length) : ∀ x ∈ b, x ∈ a := by
  intro x hx
  refine Classical.byContradiction fun hxa => ?_
  obtain ⟨s, u, rfl⟩ := List.append_of_mem hx
  have := length_sub hn (b := s ++ u) fun y hy => by
    have h1 := h y hy
    simp only [List.mem_append, List.mem_cons] at h1 ⊢
    rcases h1 with h1 | rfl | h1
    · exact .inl h1
    · exact absurd hy hxa
    · exact .inr h1
  simp only [List.length_append, List.length_cons] at this hl
  omega
theorem filter_length (f : α → Bool) (l : List α) : (l.filter f).length + (l.filter fun x => !f x).length = l.length := by
  induction l with
  | nil => rfl
  | cons x t ih =>
    by_cases h : f x = true
    · rw [List.filter_cons_of_pos h, List.filter_cons_of_neg (by simp [h])]; simp only [List.length_cons]; omega
    · rw [List.filter_cons_of_neg h, List.filter_cons_of_pos (by simpa using h)]; simp only [List.length_cons]; omega
end

/-- no Id is there twice -/
def Val (l : List Od) : Prop := l.Pairwise fun x y => x.id ≠ y.id
theorem Val.nodup {l : List Od} (h : Val l) : l.Nodup := List.Pairwise.imp (fun h e => h (by rw [e])) h
theorem Val.inj {l : List Od} (h : Val l) {x y : Od} (hx : x ∈ l) (hy : y ∈ l) (e : x.id = y.id) : x = y := by
  refine Classical.byContradiction fun hne => ?_
  have h2 : ∀ {a b : Od}, List.Sublist [a, b] l → a.id ≠ b.id := List.pairwise_iff_forall_sublist.1 h
  rcases bef_total hx hy hne with hb | hb
  · exact h2 hb e
  · exact h2 hb e.symm
theorem Val.sub {l m : List Od} (h : Val l) (hs : List.Sublist m l) : Val m := List.Pairwise.sublist hs h
theorem val_append {a b : List Od} : Val (a ++ b) ↔ Val a ∧ Val b ∧ ∀ x ∈ a, ∀ y ∈ b, x.id ≠ y.id := List.pairwise_append
theorem val_snoc {l : List Od} {x : Od} : Val (l ++ [x]) ↔ Val l ∧ ∀ y ∈ l, y.id ≠ x.id := by
  rw [val_append]
  constructor
  · rintro ⟨h1, _, h2⟩
    exact ⟨h1, fun y hy => h2 y hy x (by simp)⟩
  · rintro ⟨h1, h2⟩
    exact ⟨h1, List.pairwise_singleton _ _, fun y hy z hz => by rw [List.mem_singleton.1 hz]; exact h2 y hy⟩
theorem val_nil : Val [] := List.Pairwise.nil

theorem posN_snoc (l : List Od) (x : Od) (i : Id) : posN (l ++ [x]) i = if x.id = i then some l.length else posN l i := by
  unfold posN
  rw [placesN_snoc, getM_put]
theorem posN_isSome (i : Id) (l : List Od) : (posN l i).isSome = true ↔ ∃ x ∈ l, x.id = i := by
  refine snoc_ind (Q := fun l => (posN l i).isSome = true ↔ ∃ x ∈ l, x.id = i) ?_ ?_ l
  · constructor
    · intro h; cases h
    · rintro ⟨x, hx, _⟩; cases hx
  · intro l x ih
    rw [posN_snoc]
    by_cases h : x.id = i
    · rw [if_pos h]
      exact ⟨fun _ => ⟨x, by simp, h⟩, fun _ => rfl⟩
    · rw [if_neg h, ih]
      constructor
      · rintro ⟨y, hy, e⟩; exact ⟨y, by simp [hy], e⟩
      · rintro ⟨y, hy, e⟩
        rcases List.mem_append.1 hy with hy | hy
        · exact ⟨y, hy, e⟩
        · rw [List.mem_singleton.1 hy] at e; exact absurd e h
theorem posN_get {i : Id} {l : List Od} : ∀ {k : Nat}, posN l i = some k → ∃ x, l[k]? = some x ∧ x.id = i := by
  refine snoc_ind (Q := fun l => ∀ {k : Nat}, posN l i = some k → ∃ x, l[k]? = some x ∧ x.id = i) ?_ ?_ l
  · intro k h; cases h
  · intro l x ih k h
    rw [posN_snoc] at h
    by_cases hx : x.id = i
    · rw [if_pos hx] at h
      injection h with h
      subst h
      exact ⟨x, by simp, hx⟩
    · rw [if_neg hx] at h
      obtain ⟨y, hy, e⟩ := ih h
      have hk := (List.getElem?_eq_some_iff.1 hy).1
      exact ⟨y, by rw [List.getElem?_append_left hk]; exact hy, e⟩
theorem posN_mem {l : List Od} (hv : Val l) {x : Od} (hx : x ∈ l) : ∃ k, posN l x.id = some k ∧ l[k]? = some x := by
  obtain ⟨k, hk⟩ := Option.isSome_iff_exists.1 ((posN_isSome x.id l).2 ⟨x, hx, rfl⟩)
  obtain ⟨y, hy, e⟩ := posN_get hk
  rw [hv.inj (List.mem_of_getElem? hy) hx e] at hy
  exact ⟨k, hk, hy⟩
theorem placesN_len (l : List Od) : (placesN l).length ≤ l.length ∧ ((placesN l).length = l.length ↔ Val l) := by
  refine snoc_ind (Q := fun l => (placesN l).length ≤ l.length ∧ ((placesN l).length = l.length ↔ Val l)) ⟨Nat.le_refl _, fun _ => val_nil, fun _ => rfl⟩ ?_ l
  intro l x ih
  rw [placesN_snoc, length_putM, val_snoc, List.length_append, List.length_singleton, ← ih.2]
  by_cases h : (posN l x.id).isSome = true
  · rw [if_pos h]
    obtain ⟨y, hy, e⟩ := (posN_isSome x.id l).1 h
    exact ⟨by omega, fun hl => by omega, fun hl => absurd e (hl.2 y hy)⟩
  · rw [if_neg h]
    refine ⟨by omega, fun hl => ⟨by omega, fun y hy e => h ((posN_isSome x.id l).2 ⟨y, hy, e⟩)⟩, fun hl => by omega⟩
theorem validL_iff {l : List Od} : validL l = true ↔ Val l := by
  unfold validL
  rw [decide_eq_true_eq]
  exact (placesN_len l).2

/-- an order without the place of its legs -/
def Od.core (x : Od) : Od := { x with la := none, lc := 0 }
theorem sameB_core {x y : Od} : sameB x y = true ↔ x.core = y.core := by
  unfold sameB Od.core
  rw [decide_eq_true_eq]
  cases x; cases y
  constructor
  · rintro ⟨h1, h2, h3, h4, h5, h6, h7, h8, h9⟩
    simp only [Od.id, Id.mk.injEq] at h1 h2 h3 h4 h5 h6 h7 h8 h9
    simp only [Od.mk.injEq]
    exact ⟨h4.1, h4.2, h5, h1, h2, h6, trivial, trivial, h9, h7, h8, h3⟩
  · intro h
    simp only [Od.mk.injEq] at h
    obtain ⟨h1, h2, h3, h4, h5, h6, _, _, h7, h8, h9, h10⟩ := h
    exact ⟨h4, h5, h10, by simp only [Od.id, h1, h2], h3, h6, h8, h9, h7⟩
theorem sameB_cc {x y : Od} : sameB x.core y.core = sameB x y := by rw [Bool.eq_iff_iff, sameB_core, sameB_core]; exact Iff.rfl
abbrev K (l : List Od) : List Od := l.map Od.core
theorem placesN_core (l : List Od) : placesN (K l) = placesN l := by
  refine snoc_ind (Q := fun l => placesN (K l) = placesN l) rfl ?_ l
  intro l x ih
  rw [K, List.map_append, List.map_singleton, placesN_snoc, placesN_snoc, ih, List.length_map]
  rfl
theorem posN_core (l : List Od) (i : Id) : posN (K l) i = posN l i := by unfold posN; rw [placesN_core]
theorem validL_core (l : List Od) : validL (K l) = validL l := by unfold validL; rw [placesN_core, List.length_map]
theorem beginsAt_core (a b : List Od) (i : Nat) (o : Od) : beginsAt (K a) (K b) i o.core = beginsAt a b i o := by
  unfold beginsAt
  rw [posN_core, show o.core.id = o.id from rfl]
  cases posN b o.id with
  | none => rfl
  | some k =>
    simp only [List.getElem?_map, ← List.map_take, List.all_map]
    congr 1
    · cases b[k]? with
      | none => rfl
      | some x => exact sameB_cc
    · congr 1
      funext p
      simp only [Function.comp, posN_core]
      rfl
theorem beginsB_core (a b : List Od) : beginsB (K a) (K b) = beginsB a b := by
  unfold beginsB
  rw [validL_core, validL_core, List.zipIdx_map, List.all_map]
  congr 1
  congr 1
  funext p
  exact beginsAt_core a b p.2 p.1
theorem othersL_core (a b : List Od) : othersL (K a) (K b) = K (othersL a b) := by
  unfold othersL
  rw [List.filter_map]
  congr 1
  congr 1
  funext x
  simp only [Function.comp, posN_core]
  rfl
theorem meetL_core (a b : List Od) : meetL (K a) (K b) = K (meetL a b) := by
  unfold meetL
  rw [othersL_core]
  exact List.map_append.symm
theorem meetOk_core (a b : List Od) : meetOk (K a) (K b) = meetOk a b := by
  unfold meetOk
  rw [meetL_core, beginsB_core, beginsB_core]
theorem alikeB_core (a b : List Od) : alikeB (K a) (K b) = alikeB a b := by
  unfold alikeB
  rw [beginsB_core, List.length_map, List.length_map]
theorem sameL_core {a b : List Od} : sameL a b = true ↔ K a = K b := by
  unfold sameL
  rw [Bool.and_eq_true, decide_eq_true_eq, List.all_eq_true]
  constructor
  · rintro ⟨hl, h⟩
    refine List.ext_getElem (by simp [hl]) fun i h1 h2 => ?_
    simp only [List.length_map] at h1 h2
    rw [List.getElem_map, List.getElem_map]
    exact sameB_core.1 (h (a[i], b[i]) (List.mem_iff_getElem.2 ⟨i, by simp; omega, by simp⟩))
  · intro h
    have hl : a.length = b.length := by simpa using congrArg List.length h
    refine ⟨hl, fun p hp => ?_⟩
    obtain ⟨i, hi, rfl⟩ := List.getElem_of_mem hp
    simp only [List.length_zip] at hi
    rw [List.getElem_zip]
    refine sameB_core.2 ?_
    have h1 : (K a)[i]'(by simp; omega) = (K b)[i]'(by simp; omega) := by simp only [h]
    simpa using h1

theorem any_any_comm (l m : List ByteArray) : (l.any fun s => m.any fun t => decide (s = t)) = (m.any fun s => l.any fun t => decide (s = t)) := by
  rw [Bool.eq_iff_iff]
  simp only [List.any_eq_true, decide_eq_true_eq]
  constructor
  · rintro ⟨s, hs, t, ht, e⟩; exact ⟨t, ht, s, hs, e.symm⟩
  · rintro ⟨s, hs, t, ht, e⟩; exact ⟨t, ht, s, hs, e.symm⟩
theorem clashB_comm (x y : Od) : clashB x y = clashB y x := by
  unfold clashB
  rw [any_any_comm (touches x) (touches y), show decide (x.id = y.id) = decide (y.id = x.id) from by simp [eq_comm], Bool.or_comm (decide (x.kind = 6)), Bool.and_comm (decide (x.kind = 1))]
theorem clashB_refl (x : Od) : clashB x x = true := by
  unfold clashB
  rw [decide_eq_true rfl]
  rfl

/-- a begins b: of lists whose legs have no place -/
def Beg (a b : List Od) : Prop := Val a ∧ Val b ∧ (∀ o ∈ a, o ∈ b) ∧ ∀ p o, o ∈ a → Bef b p o → clashB p o = true → Bef a p o
def Bare (l : List Od) : Prop := ∀ x ∈ l, x.core = x
theorem bare_K (l : List Od) : Bare (K l) := fun x hx => by
  obtain ⟨y, _, rfl⟩ := List.mem_map.1 hx
  rfl
theorem Bare.eq {l m : List Od} (h : Bare l) (k : Bare m) {x y : Od} (hx : x ∈ l) (hy : y ∈ m) (hs : sameB x y = true) : x = y := by
  rw [← h x hx, ← k y hy]
  exact sameB_core.1 hs
theorem beginsAt_iff {a b : List Od} {i : Nat} {o : Od} : beginsAt a b i o = true ↔ ∃ k x, posN b o.id = some k ∧ b[k]? = some x ∧ sameB o x = true ∧ ∀ p ∈ b.take k, clashB p o = true → ∃ n, posN a p.id = some n ∧ n ≤ i := by
  unfold beginsAt
  cases hk : posN b o.id with
  | none => simp
  | some k =>
    simp only
    cases hx : b[k]? with
    | none =>
      simp only [Bool.false_and, Bool.false_eq_true, false_iff]
      rintro ⟨k', x, h1, h2, _⟩
      injection h1 with h1
      subst h1
      rw [hx] at h2
      cases h2
    | some x =>
      simp only [Bool.and_eq_true, List.all_eq_true, Bool.not_eq_true']
      have h0 : ∀ p : Od, (clashB p o && (match posN a p.id with | none => true | some n => decide (i < n))) = false ↔ (clashB p o = true → ∃ n, posN a p.id = some n ∧ n ≤ i) := by
        intro p
        cases hp : posN a p.id with
        | none => cases clashB p o <;> simp
        | some n => cases clashB p o <;> simp
      constructor
      · rintro ⟨hs, h⟩
        exact ⟨k, x, rfl, hx, hs, fun p hp => (h0 p).1 (h p hp)⟩
      · rintro ⟨k', x', h1, h2, hs, h⟩
        injection h1 with h1
        subst h1
        rw [hx] at h2
        injection h2 with h2
        subst h2
        exact ⟨hs, fun p hp => (h0 p).2 (h p hp)⟩
theorem mem_take_get {α : Type} {l : List α} {k : Nat} {p : α} : p ∈ l.take k ↔ ∃ n, n < k ∧ l[n]? = some p := by
  rw [List.mem_take_iff_getElem]
  constructor
  · rintro ⟨i, hi, e⟩
    exact ⟨i, by omega, by rw [List.getElem?_eq_getElem (by omega), e]⟩
  · rintro ⟨n, hn, e⟩
    obtain ⟨h1, h2⟩ := List.getElem?_eq_some_iff.1 e
    exact ⟨n, by omega, h2⟩
theorem beginsB_iff {a b : List Od} (ha : Bare a) (hb : Bare b) : beginsB a b = true ↔ Beg a b := by
  unfold beginsB
  rw [Bool.and_eq_true, Bool.and_eq_true, validL_iff, validL_iff, List.all_eq_true]
  constructor
  · rintro ⟨⟨va, vb⟩, h⟩
    have hat : ∀ i o, a[i]? = some o → beginsAt a b i o = true := fun i o hi => h (o, i) (List.mem_zipIdx_iff_getElem?.2 hi)
    have hfull : ∀ i o, a[i]? = some o → ∃ k, b[k]? = some o ∧ ∀ p ∈ b.take k, clashB p o = true → ∃ n, posN a p.id = some n ∧ n ≤ i := by
      intro i o hi
      obtain ⟨k, x, _, hx, hs, hp⟩ := beginsAt_iff.1 (hat i o hi)
      rw [← ha.eq hb (List.mem_of_getElem? hi) (List.mem_of_getElem? hx) hs] at hx
      exact ⟨k, hx, hp⟩
    have hsub : ∀ o ∈ a, o ∈ b := fun o ho => by
      obtain ⟨i, hi⟩ := List.getElem?_of_mem ho
      obtain ⟨k, hk, _⟩ := hfull i o hi
      exact List.mem_of_getElem? hk
    refine ⟨va, vb, hsub, fun p o ho hbef hc => ?_⟩
    obtain ⟨i, hi⟩ := List.getElem?_of_mem ho
    obtain ⟨k, hk, hp⟩ := hfull i o hi
    obtain ⟨n, m, hnm, h1, h2⟩ := bef_get.1 hbef
    obtain rfl := get_inj vb.nodup h2 hk
    obtain ⟨n', hn', hle⟩ := hp p (mem_take_get.2 ⟨n, hnm, h1⟩) hc
    obtain ⟨z, hz, e⟩ := posN_get hn'
    rw [vb.inj (hsub z (List.mem_of_getElem? hz)) hbef.left e] at hz
    have hne : n' ≠ i := by
      rintro rfl
      rw [hz] at hi
      injection hi with hi
      subst hi
      exact bef_irrefl vb.nodup hbef
    exact bef_get.2 ⟨n', i, by omega, hz, hi⟩
  · rintro ⟨va, vb, hsub, h⟩
    refine ⟨⟨va, vb⟩, ?_⟩
    rintro ⟨o, i⟩ hp
    have hi : a[i]? = some o := List.mem_zipIdx_iff_getElem?.1 hp
    have ho := List.mem_of_getElem? hi
    obtain ⟨k, hk, hx⟩ := posN_mem vb (hsub o ho)
    refine beginsAt_iff.2 ⟨k, o, hk, hx, sameB_core.2 rfl, fun p hp hc => ?_⟩
    obtain ⟨n, hn, h1⟩ := mem_take_get.1 hp
    have hb2 := h p o ho (bef_get.2 ⟨n, k, hn, h1, hx⟩) hc
    obtain ⟨n', hn', hx'⟩ := posN_mem va hb2.left
    refine ⟨n', hn', Nat.le_of_not_lt fun hlt => ?_⟩
    exact bef_asymm va.nodup hb2 (bef_get.2 ⟨i, n', hlt, hi, hx'⟩)
theorem beginsB_K {a b : List Od} : beginsB a b = true ↔ Beg (K a) (K b) := by
  rw [← beginsB_core]
  exact beginsB_iff (bare_K a) (bare_K b)
end Go.Proofs.Ytogecfddkohigaa
