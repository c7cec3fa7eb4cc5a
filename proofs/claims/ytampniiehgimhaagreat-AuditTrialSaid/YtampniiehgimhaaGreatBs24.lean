/- Texts of this claim, laid together. -/
import Derived.Test.YtampniiehgimhaaGreatRows
import Derived.Test.YtampniiehgimhaaGreatBs23
import Derived.WalkKit
import Derived.WalkSpells
import Derived.WalkLawsBesides
import Derived.Deep.QuietTactic
import Derived.BigQuiet
import Derived.Laws.StructEq
import Derived.Deep.DeepFit
import Derived.StillTailTactics
import Derived.Test.YtampniiehgimhaaGreatBs3

/- The plain law of beginnings, lists that are alike, and meeting lists -/
namespace Go.Proofs.YtampniiehgimhaaGreat
open Go.RowKit
section
variable {α : Type}
/-- x stands ahead of y -/
def Bef (l : List α) (x y : α) : Prop := List.Sublist [x, y] l
theorem Bef.left {l : List α} {x y : α} (h : Bef l x y) : x ∈ l := h.subset (by simp)
theorem Bef.right {l : List α} {x y : α} (h : Bef l x y) : y ∈ l := h.subset (by simp)
theorem bef_append {a b : List α} {x y : α} : Bef (a ++ b) x y ↔ Bef a x y ∨ (x ∈ a ∧ y ∈ b) ∨ Bef b x y := by
 unfold Bef
 rw [List.sublist_append_iff]
 constructor
 ·rintro ⟨l1, l2, h, h1, h2⟩
  cases l1 with
  | nil => simp only [List.nil_append] at h; subst h; exact .inr (.inr h2)
  | cons u l1 =>
   cases l1 with
   | nil =>
    simp only [List.cons_append, List.nil_append, List.cons.injEq] at h
    obtain ⟨rfl, rfl⟩ := h
    exact .inr (.inl ⟨List.singleton_sublist.1 h1, List.singleton_sublist.1 h2⟩)
   | cons t l1 =>
    simp only [List.cons_append, List.cons.injEq] at h
    obtain ⟨rfl, rfl, h⟩ := h
    have h3 := List.append_eq_nil_iff.1 h.symm
    rw [h3.1] at h1
    exact .inl h1
 ·rintro (h | ⟨h1, h2⟩ | h)
  ·exact ⟨[x, y], [], rfl, h, List.nil_sublist _⟩
  ·exact ⟨[x], [y], rfl, List.singleton_sublist.2 h1, List.singleton_sublist.2 h2⟩
  ·exact ⟨[], [x, y], rfl, List.nil_sublist _, h⟩
theorem bef_filter {f : α → Bool} {l : List α} {x y : α} : Bef (l.filter f) x y ↔ Bef l x y ∧ f x = true ∧ f y = true := by
 constructor
 ·intro h
  exact ⟨List.Sublist.trans h List.filter_sublist, (List.mem_filter.1 h.left).2, (List.mem_filter.1 h.right).2⟩
 ·rintro ⟨h, h1, h2⟩
  have := List.Sublist.filter f h
  rw [List.filter_cons_of_pos h1, List.filter_cons_of_pos h2, List.filter_nil] at this
  exact this
theorem bef_cons {z x y : α} {t : List α} : Bef (z :: t) x y ↔ (x = z ∧ y ∈ t) ∨ Bef t x y := by
 rw [show z :: t = [z] ++ t from rfl, bef_append]
 constructor
 ·rintro (h | ⟨h1, h2⟩ | h)
  ·exact absurd h.length_le (by simp)
  ·exact .inl ⟨by simpa using h1, h2⟩
  ·exact .inr h
 ·rintro (⟨rfl, h⟩ | h)
  ·exact .inr (.inl ⟨by simp, h⟩)
  ·exact .inr (.inr h)
theorem bef_nil {x y : α} : ¬ Bef ([] : List α) x y := fun h => absurd h.length_le (by simp)
theorem bef_total {l : List α} {x y : α} (hx : x ∈ l) (hy : y ∈ l) (hne : x ≠ y) : Bef l x y ∨ Bef l y x := by
 induction l with
 | nil => cases hx
 | cons z t ih =>
  rw [bef_cons, bef_cons]
  rcases List.mem_cons.1 hx with rfl | hx1 <;> rcases List.mem_cons.1 hy with rfl | hy1
  ·exact absurd rfl hne
  ·exact .inl (.inl ⟨rfl, hy1⟩)
  ·exact .inr (.inl ⟨rfl, hx1⟩)
  ·rcases ih hx1 hy1 with h | h
   ·exact .inl (.inr h)
   ·exact .inr (.inr h)
theorem bef_irrefl {l : List α} (hn : l.Nodup) {x : α} (h : Bef l x x) : False := by
 have := List.Pairwise.sublist h hn
 simp at this
theorem bef_asymm {l : List α} (hn : l.Nodup) {x y : α} (h : Bef l x y) (h' : Bef l y x) : False := by
 induction l with
 | nil => exact bef_nil h
 | cons z t ih =>
  rw [bef_cons] at h h'
  have hz := (List.nodup_cons.1 hn)
  rcases h with ⟨rfl, h⟩ | h <;> rcases h' with ⟨rfl, h'⟩ | h'
  ·exact hz.1 h
  ·exact hz.1 h'.right
  ·exact hz.1 h.right
  ·exact ih hz.2 h h'
theorem length_sub {a : List α} (hn : a.Nodup) : ∀ {b : List α}, (∀ x ∈ a, x ∈ b) → a.length ≤ b.length := by
 induction a with
 | nil => intro b _; simp
 | cons x t ih =>
  intro b h
  obtain ⟨s, u, rfl⟩ := List.append_of_mem (h x (by simp))
  have hz := List.nodup_cons.1 hn
  have := ih hz.2 (b := s ++ u) fun y hy => by
   have h1 := h y (by simp [hy])
   simp only [List.mem_append, List.mem_cons] at h1 ⊢
   rcases h1 with h1 | rfl | h1
   ·exact .inl h1
   ·exact absurd hy hz.1
   ·exact .inr h1
  simp only [List.length_append, List.length_cons] at this ⊢
  omega
theorem sub_of_length {a b : List α} (hn : a.Nodup) (h : ∀ x ∈ a, x ∈ b) (hl : b.length ≤ a.length) : ∀ x ∈ b, x ∈ a := by
 intro x hx
 refine Classical.byContradiction fun hxa => ?_
 obtain ⟨s, u, rfl⟩ := List.append_of_mem hx
 have := length_sub hn (b := s ++ u) fun y hy => by
  have h1 := h y hy
  simp only [List.mem_append, List.mem_cons] at h1 ⊢
  rcases h1 with h1 | rfl | h1
  ·exact .inl h1
  ·exact absurd hy hxa
  ·exact .inr h1
 simp only [List.length_append, List.length_cons] at this hl
 omega
theorem filter_length (f : α → Bool) (l : List α) : (l.filter f).length + (l.filter fun x => !f x).length = l.length := by
 induction l with
 | nil => rfl
 | cons x t ih =>
  by_cases h : f x = true
  ·rw [List.filter_cons_of_pos h, List.filter_cons_of_neg (by simp [h])]; simp only [List.length_cons]; omega
  ·rw [List.filter_cons_of_neg h, List.filter_cons_of_pos (by simpa using h)]; simp only [List.length_cons]; omega
end
/-- no Id is there twice -/
def Val (l : List Od) : Prop := l.Pairwise fun x y => x.id ≠ y.id
theorem Val.nodup {l : List Od} (h : Val l) : l.Nodup := List.Pairwise.imp (fun h e => h (by rw [e])) h
theorem Val.inj {l : List Od} (h : Val l) {x y : Od} (hx : x ∈ l) (hy : y ∈ l) (e : x.id = y.id) : x = y := by
 refine Classical.byContradiction fun hne => ?_
 have h2 : ∀ {a b : Od}, List.Sublist [a, b] l → a.id ≠ b.id := List.pairwise_iff_forall_sublist.1 h
 rcases bef_total hx hy hne with hb | hb
 ·exact h2 hb e
 ·exact h2 hb e.symm
theorem Val.sub {l m : List Od} (h : Val l) (hs : List.Sublist m l) : Val m := List.Pairwise.sublist hs h
theorem val_append {a b : List Od} : Val (a ++ b) ↔ Val a ∧ Val b ∧ ∀ x ∈ a, ∀ y ∈ b, x.id ≠ y.id := List.pairwise_append
theorem val_snoc {l : List Od} {x : Od} : Val (l ++ [x]) ↔ Val l ∧ ∀ y ∈ l, y.id ≠ x.id := by
 rw [val_append]
 constructor
 ·rintro ⟨h1, _, h2⟩
  exact ⟨h1, fun y hy => h2 y hy x (by simp)⟩
 ·rintro ⟨h1, h2⟩
  exact ⟨h1, List.pairwise_singleton _ _, fun y hy z hz => by rw [List.mem_singleton.1 hz]; exact h2 y hy⟩
theorem val_nil : Val [] := List.Pairwise.nil
theorem posN_snoc (l : List Od) (x : Od) (i : Id) : posN (l ++ [x]) i = if x.id = i then some l.length else posN l i := by
 unfold posN
 rw [placesN_snoc, getM_put]
theorem posN_isSome (i : Id) (l : List Od) : (posN l i).isSome = true ↔ ∃ x ∈ l, x.id = i := by
 refine snoc_ind (Q := fun l => (posN l i).isSome = true ↔ ∃ x ∈ l, x.id = i) ?_ ?_ l
 ·constructor
  ·intro h; cases h
  ·rintro ⟨x, hx, _⟩; cases hx
 ·intro l x ih
  rw [posN_snoc]
  by_cases h : x.id = i
  ·rw [if_pos h]
   exact ⟨fun _ => ⟨x, by simp, h⟩, fun _ => rfl⟩
  ·rw [if_neg h, ih]
   constructor
   ·rintro ⟨y, hy, e⟩; exact ⟨y, by simp [hy], e⟩
   ·rintro ⟨y, hy, e⟩
    rcases List.mem_append.1 hy with hy | hy
    ·exact ⟨y, hy, e⟩
    ·rw [List.mem_singleton.1 hy] at e; exact absurd e h
abbrev K (l : List Od) : List Od := l.map Od.core
theorem any_any_comm (l m : List ByteArray) : (l.any fun s => m.any fun t => decide (s = t)) = (m.any fun s => l.any fun t => decide (s = t)) := by
 rw [Bool.eq_iff_iff]
 simp only [List.any_eq_true, decide_eq_true_eq]
 constructor
 ·rintro ⟨s, hs, t, ht, e⟩; exact ⟨t, ht, s, hs, e.symm⟩
 ·rintro ⟨s, hs, t, ht, e⟩; exact ⟨t, ht, s, hs, e.symm⟩
theorem clashB_comm (x y : Od) : clashB x y = clashB y x := by
 unfold clashB
 rw [any_any_comm (touches x) (touches y), show decide (x.id = y.id) = decide (y.id = x.id) from by simp [eq_comm], Bool.or_comm (decide (x.kind = 6)), Bool.and_comm (decide (x.kind = 1))]
/-- a begins b: of lists whose legs have no place -/
def Beg (a b : List Od) : Prop := Val a ∧ Val b ∧ (∀ o ∈ a, o ∈ b) ∧ ∀ p o, o ∈ a → Bef b p o → clashB p o = true → Bef a p o
def Bare (l : List Od) : Prop := ∀ x ∈ l, x.core = x
theorem Bare.eq {l m : List Od} (h : Bare l) (k : Bare m) {x y : Od} (hx : x ∈ l) (hy : y ∈ m) (hs : sameB x y = true) : x = y := by
 rw [← h x hx, ← k y hy]
 exact sameB_core.1 hs
end Go.Proofs.YtampniiehgimhaaGreat
/- Beginnings: order, beginnings of a list, swaps, what is behind, where two meet -/
namespace Go.Proofs.YtampniiehgimhaaGreat
open Go.RowKit
theorem Beg.refl {l : List Od} (h : Val l) : Beg l l := ⟨h, h, fun _ ho => ho, fun _ _ _ hb _ => hb⟩
theorem Beg.nil {l : List Od} (h : Val l) : Beg [] l := ⟨val_nil, h, fun _ ho => absurd ho (by simp), fun _ _ ho => absurd ho (by simp)⟩
theorem Beg.trans {a b c : List Od} (h : Beg a b) (k : Beg b c) : Beg a c :=
 ⟨h.1, k.2.1, fun o ho => k.2.2.1 o (h.2.2.1 o ho), fun p o ho hb hc => h.2.2.2 p o ho (k.2.2.2 p o (h.2.2.1 o ho) hb hc) hc⟩
/-- what stands ahead, and clashes, in the beginning stands ahead in the whole -/
theorem Beg.back {a b : List Od} (h : Beg a b) {p o : Od} (hb : Bef a p o) (hc : clashB p o = true) : Bef b p o := by
 rcases bef_total (h.2.2.1 p hb.left) (h.2.2.1 o hb.right) (fun e => by subst e; exact bef_irrefl h.1.nodup hb) with h1 | h1
 ·exact h1
 ·exact (bef_asymm h.1.nodup hb (h.2.2.2 o p hb.left h1 (by rw [clashB_comm]; exact hc))).elim
theorem Beg.symm {a b : List Od} (h : Beg a b) (hl : b.length ≤ a.length) : Beg b a :=
 ⟨h.2.1, h.1, sub_of_length h.1.nodup h.2.2.1 hl, fun _ _ _ hb hc => h.back hb hc⟩
theorem Beg.len {a b : List Od} (h : Beg a b) : a.length ≤ b.length := length_sub h.1.nodup h.2.2.1
theorem Beg.left {a b : List Od} (h : Val (a ++ b)) : Beg a (a ++ b) := by
 obtain ⟨h1, h2, h3⟩ := val_append.1 h
 refine ⟨h1, h, fun o ho => List.mem_append.2 (.inl ho), fun p o ho hb _ => ?_⟩
 rcases bef_append.1 hb with hb | ⟨_, hb⟩ | hb
 ·exact hb
 ·exact (h3 o ho o hb rfl).elim
 ·exact (h3 o ho o hb.right rfl).elim
theorem Beg.take {l : List Od} (h : Val l) (k : Nat) : Beg (l.take k) l := by
 have := Beg.left (a := l.take k) (b := l.drop k) (by rw [List.take_append_drop]; exact h)
 rw [List.take_append_drop] at this
 exact this
theorem val_perm_swap {u v : List Od} {x y : Od} (h : Val (u ++ x :: y :: v)) : Val (u ++ y :: x :: v) := by
 unfold Val at h ⊢
 refine List.Pairwise.perm h ?_ (fun h e => h e.symm)
 exact (List.Perm.refl u).append (List.Perm.swap y x v)
theorem bef_swap {u v : List Od} {x y p o : Od} (hn : clashB x y = false) (hb : Bef (u ++ y :: x :: v) p o) (hc : clashB p o = true) : Bef (u ++ x :: y :: v) p o := by
 rw [show u ++ y :: x :: v = u ++ ([y, x] ++ v) from rfl, bef_append, bef_append] at hb
 rw [show u ++ x :: y :: v = u ++ ([x, y] ++ v) from rfl, bef_append, bef_append]
 have hm : ∀ z, z ∈ [y, x] → z ∈ [x, y] := fun z hz => by simp only [List.mem_cons, List.not_mem_nil, or_false] at hz ⊢; exact hz.symm
 rcases hb with hb | ⟨h1, h2⟩ | hb | ⟨h1, h2⟩ | hb
 ·exact .inl hb
 ·refine .inr (.inl ⟨h1, ?_⟩)
  rcases List.mem_append.1 h2 with h2 | h2
  ·exact List.mem_append.2 (.inl (hm _ h2))
  ·exact List.mem_append.2 (.inr h2)
 ·rcases bef_cons.1 hb with ⟨rfl, h2⟩ | hb
  ·have h3 := List.mem_singleton.1 h2
   subst h3
   rw [clashB_comm, hn] at hc
   cases hc
  ·rcases bef_cons.1 hb with ⟨_, h2⟩ | hb
   ·cases h2
   ·exact (bef_nil hb).elim
 ·exact .inr (.inr (.inr (.inl ⟨hm _ h1, h2⟩)))
 ·exact .inr (.inr (.inr (.inr hb)))
theorem Beg.swap {u v : List Od} {x y : Od} (hn : clashB x y = false) (h : Val (u ++ x :: y :: v)) : Beg (u ++ x :: y :: v) (u ++ y :: x :: v) :=
 ⟨h, val_perm_swap h, fun o ho => by
  simp only [List.mem_append, List.mem_cons] at ho ⊢
  rcases ho with ho | ho | ho | ho
  ·exact .inl ho
  ·exact .inr (.inr (.inl ho))
  ·exact .inr (.inl ho)
  ·exact .inr (.inr (.inr ho)), fun _ _ _ hb hc => bef_swap hn hb hc⟩
/-- lists that clash.Swap makes of one another -/
inductive Mix : List Od → List Od → Prop
 | refl (l : List Od) : Mix l l
 | step {l : List Od} {u v : List Od} {x y : Od} (h : Mix l (u ++ x :: y :: v)) (hn : clashB x y = false) : Mix l (u ++ y :: x :: v)
theorem Mix.perm {l m : List Od} (h : Mix l m) : l.Perm m := by
 induction h with
 | refl => exact .refl _
 | step _ _ ih => exact ih.trans ((List.Perm.refl _).append (List.Perm.swap _ _ _))
theorem swapAt_form {l : List Od} {k : Nat} (h : k + 1 < l.length) : ∃ u v, l = u ++ l[k] :: l[k + 1] :: v ∧ swapAt l k = u ++ l[k + 1] :: l[k] :: v := by
 refine ⟨l.take k, l.drop (k + 2), ?_, ?_⟩
 ·rw [← List.drop_eq_getElem_cons h, ← List.drop_eq_getElem_cons (by omega : k < l.length), List.take_append_drop]
 ·rw [swapAt, dif_pos h]
  refine List.ext_getElem (by simp; omega) fun i h1 h2 => ?_
  simp only [List.length_set] at h1
  rw [List.getElem_set, List.getElem_set, List.getElem_append]
  have hl : (l.take k).length = k := by rw [List.length_take]; omega
  simp only [hl]
  by_cases h3 : i < k
  ·rw [dif_pos h3, if_neg (by omega), if_neg (by omega), List.getElem_take]
  ·rw [dif_neg h3, List.getElem_cons]
   by_cases h4 : i = k
   ·rw [if_neg (by omega), if_pos h4.symm, dif_pos (by omega)]
   ·rw [dif_neg (by omega), List.getElem_cons]
    by_cases h5 : i = k + 1
    ·rw [if_pos h5.symm, dif_pos (by omega)]
    ·rw [if_neg (by omega), if_neg (by omega), dif_neg (by omega), List.getElem_drop]
     congr 1
     omega
theorem Mix.swap {l m : List Od} (h : Mix l m) {i : Int} (hs : swapOk m i = true) : Mix l (swapR m i) := by
 rw [swapR, if_pos hs]
 unfold swapOk at hs
 by_cases hk : 0 ≤ i ∧ i.toNat + 1 < m.length
 ·rw [dif_pos hk] at hs
  obtain ⟨u, v, h1, h2⟩ := swapAt_form hk.2
  rw [h2]
  rw [h1] at h
  refine h.step ?_
  simpa using hs
 ·rw [dif_neg hk] at hs
  cases hs
theorem mem_others {a b : List Od} {x : Od} : x ∈ othersL a b ↔ x ∈ b ∧ ∀ y ∈ a, y.id ≠ x.id := by
 unfold othersL
 rw [List.mem_filter]
 refine and_congr_right fun _ => ?_
 rw [Bool.not_eq_true', ← Bool.not_eq_true, posN_isSome]
 constructor
 ·intro h y hy e; exact h ⟨y, hy, e⟩
 ·rintro h ⟨y, hy, e⟩; exact h y hy e
theorem bef_others {a b : List Od} {x y : Od} : Bef (othersL a b) x y ↔ Bef b x y ∧ x ∈ othersL a b ∧ y ∈ othersL a b := by
 have h := @bef_filter Od (fun x => !(posN a x.id).isSome) b x y
 unfold othersL
 rw [h, List.mem_filter, List.mem_filter]
 constructor
 ·rintro ⟨h1, h2, h3⟩; exact ⟨h1, ⟨h1.left, h2⟩, ⟨h1.right, h3⟩⟩
 ·rintro ⟨h1, h2, h3⟩; exact ⟨h1, h2.2, h3.2⟩
theorem val_meet {a b : List Od} (ha : Val a) (hb : Val b) : Val (meetL a b) :=
 val_append.2 ⟨ha, hb.sub List.filter_sublist, fun x hx _ hy e => (mem_others.1 hy).2 x hx e⟩
theorem others_len {a b : List Od} (ha : Val a) (hb : Val b) (hs : ∀ x ∈ a, x ∈ b) : a.length + (othersL a b).length = b.length := by
 have h := filter_length (fun x : Od => (posN a x.id).isSome) b
 have h1 : a.length ≤ (b.filter fun x : Od => (posN a x.id).isSome).length := length_sub ha.nodup fun x hx => List.mem_filter.2 ⟨hs x hx, (posN_isSome x.id a).2 ⟨x, hx, rfl⟩⟩
 have h2 : (b.filter fun x : Od => (posN a x.id).isSome).length ≤ a.length := length_sub (hb.nodup.sublist List.filter_sublist) fun x hx => by
  obtain ⟨hxb, hp⟩ := List.mem_filter.1 hx
  obtain ⟨y, hy, e⟩ := (posN_isSome x.id a).1 hp
  rw [← hb.inj (hs y hy) hxb e]
  exact hy
 unfold othersL
 omega
/-- a, and what is behind it, is the whole -/
theorem Beg.rest {a m : List Od} (h : Beg a m) : Beg (a ++ othersL a m) m ∧ (a ++ othersL a m).length = m.length := by
 have hv := val_meet h.1 h.2.1
 refine ⟨⟨hv, h.2.1, fun o ho => ?_, fun p o ho hb hc => ?_⟩, by rw [List.length_append]; exact others_len h.1 h.2.1 h.2.2.1⟩
 ·rcases List.mem_append.1 ho with ho | ho
  ·exact h.2.2.1 o ho
  ·exact (mem_others.1 ho).1
 ·rw [bef_append]
  rcases List.mem_append.1 ho with ho | ho
  ·exact .inl (h.2.2.2 p o ho hb hc)
  ·by_cases hp : ∃ y ∈ a, y.id = p.id
   ·obtain ⟨y, hy, e⟩ := hp
    rw [h.2.1.inj (h.2.2.1 y hy) hb.left e] at hy
    exact .inr (.inl ⟨hy, ho⟩)
   ·exact .inr (.inr (bef_others.2 ⟨hb, mem_others.2 ⟨hb.left, fun y hy e => hp ⟨y, hy, e⟩⟩, ho⟩))
end Go.Proofs.YtampniiehgimhaaGreat
/- Texts in order, none twice: what order.Touches and its reference make. No program -/
namespace Go.Proofs.YtampniiehgimhaaGreat
open Go.RowKit
def StrictB (l : List ByteArray) : Prop := l.Pairwise fun x y => bless x y = true
theorem mem_compactL {s : ByteArray} {l : List ByteArray} : s ∈ compactL l ↔ s ∈ l := by
 induction l using compactL.induct with
 | case1 => simp [compactL]
 | case2 x => simp [compactL]
 | case3 y r ih => rw [compactL, if_pos rfl, ih]; simp
 | case4 x y r hne ih => rw [compactL, if_neg hne, List.mem_cons, ih]; simp
theorem bless_asymm {a b : ByteArray} (h : bless a b = true) : bless b a = false := by
 cases hb : bless b a with
 | false => rfl
 | true =>
  have := bless_strict.trans _ _ _ h hb
  rw [bless_strict.irr] at this
  cases this
theorem compactL_strict {l : List ByteArray} (h : SortedB bless l) : StrictB (compactL l) := by
 induction l using compactL.induct with
 | case1 => exact List.Pairwise.nil
 | case2 x => exact List.pairwise_singleton _ _
 | case3 y r ih => rw [compactL, if_pos rfl]; exact ih (List.pairwise_cons.1 h).2
 | case4 x y r hne ih =>
  rw [compactL, if_neg hne]
  have h1 := List.pairwise_cons.1 h
  refine List.pairwise_cons.2 ⟨fun z hz => ?_, ih h1.2⟩
  have hz := mem_compactL.1 hz
  have hxy : bless x y = true := by
   cases hb : bless x y with
   | true => rfl
   | false => exact absurd (bless_tri hb (h1.1 y (by simp))) hne
  rcases List.mem_cons.1 hz with rfl | hzr
  ·exact hxy
  ·cases hb : bless x z with
   | true => rfl
   | false =>
    have := bless_tri hb (h1.1 z hz)
    subst this
    rw [(List.pairwise_cons.1 h1.2).1 x hzr] at hxy
    cases hxy
theorem strict_unique : ∀ {l m : List ByteArray}, StrictB l → StrictB m → (∀ s, s ∈ l ↔ s ∈ m) → l = m
 | [], [], _, _, _ => rfl
 | [], y :: s, _, _, h => absurd ((h y).2 (by simp)) (by simp)
 | x :: r, [], _, _, h => absurd ((h x).1 (by simp)) (by simp)
 | x :: r, y :: s, hl, hm, h => by
  have h1 := List.pairwise_cons.1 hl
  have h2 := List.pairwise_cons.1 hm
  have hxy : x = y := by
   rcases List.mem_cons.1 ((h x).1 (by simp)) with e | e
   ·exact e
   ·rcases List.mem_cons.1 ((h y).2 (by simp)) with e' | e'
    ·exact e'.symm
    ·have g1 := h2.1 x e
     have g2 := h1.1 y e'
     rw [bless_asymm g1] at g2
     cases g2
  subst hxy
  have hx : ∀ {t : List ByteArray}, (∀ z ∈ t, bless x z = true) → x ∉ t := fun ht hx => by
   have := ht x hx
   rw [bless_strict.irr] at this
   cases this
  rw [strict_unique h1.2 h2.2 fun z => ?_]
  have hz := h z
  simp only [List.mem_cons] at hz
  by_cases e : z = x
  ·subst e
   exact ⟨fun hr => absurd hr (hx h1.1), fun hs => absurd hs (hx h2.1)⟩
  ·simpa [e] using hz
/-- out holds the texts of done that are not empty, in order, none twice -/
def GoodT (out done : List ByteArray) : Prop := StrictB out ∧ ∀ s, s ∈ out ↔ s ∈ done ∧ nonE s = true
theorem GoodT.nil : GoodT [] [] := ⟨List.Pairwise.nil, fun s => by simp⟩
theorem GoodT.skip {out done : List ByteArray} {a : ByteArray} (h : GoodT out done) (ha : nonE a = false ∨ a ∈ out) : GoodT out (done ++ [a]) := by
 refine ⟨h.1, fun s => ?_⟩
 rw [h.2 s]
 simp only [List.mem_append, List.mem_singleton]
 constructor
 ·rintro ⟨h1, h2⟩; exact ⟨.inl h1, h2⟩
 ·rintro ⟨h1 | rfl, h2⟩
  ·exact ⟨h1, h2⟩
  ·rcases ha with ha | ha
   ·rw [ha] at h2; cases h2
   ·exact (h.2 s).1 ha
theorem GoodT.ins {out done : List ByteArray} {a : ByteArray} {k : Nat} (h : GoodT out done) (hk : k ≤ out.length) (hup : ∀ j (hj : j < out.length), k ≤ j → bless a out[j] = true) (hlo : ∀ (hk0 : 0 < k), bless a (out[k - 1]'(by omega)) = false ∧ out[k - 1]'(by omega) ≠ a) (hne : nonE a = true) :
  GoodT (out.take k ++ [a] ++ out.drop k) (done ++ [a]) := by
 have hlow : ∀ z ∈ out.take k, bless z a = true := fun z hz => by
  obtain ⟨j, hj, rfl⟩ := List.getElem_of_mem hz
  rw [List.length_take] at hj
  rw [List.getElem_take]
  obtain ⟨h1, h2⟩ := hlo (by omega)
  have h3 : bless (out[k - 1]'(by omega)) a = true := by
   cases hb : bless (out[k - 1]'(by omega)) a with
   | true => rfl
   | false => exact absurd (bless_tri hb h1) h2
  by_cases e : j = k - 1
  ·subst e; exact h3
  ·exact bless_strict.trans _ _ _ (List.pairwise_iff_getElem.1 h.1 j (k - 1) (by omega) (by omega) (by omega)) h3
 have hhigh : ∀ z ∈ out.drop k, bless a z = true := fun z hz => by
  obtain ⟨j, hj, rfl⟩ := List.getElem_of_mem hz
  rw [List.length_drop] at hj
  rw [List.getElem_drop]
  exact hup (k + j) (by omega) (by omega)
 refine ⟨?_, fun s => ?_⟩
 ·refine List.pairwise_append.2 ⟨List.pairwise_append.2 ⟨List.Pairwise.sublist (List.take_sublist _ _) h.1, List.pairwise_singleton _ _, fun z hz y hy => ?_⟩, List.Pairwise.sublist (List.drop_sublist _ _) h.1, fun z hz y hy => ?_⟩
  ·rw [List.mem_singleton.1 hy]; exact hlow z hz
  ·rcases List.mem_append.1 hz with hz | hz
   ·exact bless_strict.trans _ _ _ (hlow z hz) (hhigh y hy)
   ·rw [List.mem_singleton.1 hz]; exact hhigh y hy
 ·have hmem : s ∈ out ↔ s ∈ out.take k ∨ s ∈ out.drop k := by rw [← List.mem_append, List.take_append_drop]
  simp only [List.mem_append, List.mem_singleton]
  constructor
  ·rintro ((h1 | rfl) | h1)
   ·have := (h.2 s).1 (hmem.2 (.inl h1)); exact ⟨.inl this.1, this.2⟩
   ·exact ⟨.inr rfl, hne⟩
   ·have := (h.2 s).1 (hmem.2 (.inr h1)); exact ⟨.inl this.1, this.2⟩
  ·rintro ⟨h1 | rfl, h2⟩
   ·rcases hmem.1 ((h.2 s).2 ⟨h1, h2⟩) with h3 | h3
    ·exact .inl (.inl h3)
    ·exact .inr h3
   ·exact .inl (.inr rfl)
theorem GoodT.touches {x : Od} {out : List ByteArray} (h : GoodT out (x.acct :: x.peer :: x.legs.map Leg.acct)) : out = touches x := by
 refine strict_unique h.1 (compactL_strict (sortB_sorted bless_strict _)) fun s => ?_
 rw [h.2 s]
 show _ ↔ s ∈ compactL (sortS _)
 rw [mem_compactL, (sortB_perm (lt := bless) _).mem_iff, List.mem_filter]
end Go.Proofs.YtampniiehgimhaaGreat
