/- Beginnings: order, beginnings of a list, swaps, what is behind, where two meet -/
import Derived.Test.YtogecfddkohigaaRows
import Derived.Test.YtogecfddkohigaaPlain
import Derived.WalkKit
import Derived.WalkSpells
import Derived.WalkLawsBesides
import Derived.Deep.QuietTactic
import Derived.BigQuiet
import Derived.Laws.StructEq
import Derived.Deep.DeepFit
import Derived.StillTailTactics
namespace Go.Proofs.Ytogecfddkohigaa
open Go.RowKit
theorem Beg.refl {l : List Od} (h : Val l) : Beg l l := ⟨h, h, fun _ ho => ho, fun _ _ _ hb _ => hb⟩
theorem Beg.nil {l : List Od} (h : Val l) : Beg [] l := ⟨val_nil, h, fun _ ho => absurd ho (by simp), fun _ _ ho => absurd ho (by simp)⟩
theorem Beg.trans {a b c : List Od} (h : Beg a b) (k : Beg b c) : Beg a c :=
  ⟨h.1, k.2.1, fun o ho => k.2.2.1 o (h.2.2.1 o ho), fun p o ho hb hc => h.2.2.2 p o ho (k.2.2.2 p o (h.2.2.1 o ho) hb hc) hc⟩
/-- what stands ahead, and clashes, in the beginning stands ahead in the whole -/
theorem Beg.back {a b : List Od} (h : Beg a b) {p o : Od} (hb : Bef a p o) (hc : clashB p o = true) : Bef b p o := by
  rcases bef_total (h.2.2.1 p hb.left) (h.2.2.1 o hb.right) (fun e => by subst e; exact bef_irrefl h.1.nodup hb) with h1 | h1
  · exact h1
  · exact (bef_asymm h.1.nodup hb (h.2.2.2 o p hb.left h1 (by rw [clashB_comm]; exact hc))).elim
theorem Beg.symm {a b : List Od} (h : Beg a b) (hl : b.length ≤ a.length) : Beg b a :=
  ⟨h.2.1, h.1, sub_of_length h.1.nodup h.2.2.1 hl, fun _ _ _ hb hc => h.back hb hc⟩
theorem Beg.len {a b : List Od} (h : Beg a b) : a.length ≤ b.length := length_sub h.1.nodup h.2.2.1
theorem Beg.left {a b : List Od} (h : Val (a ++ b)) : Beg a (a ++ b) := by
  obtain ⟨h1, h2, h3⟩ := val_append.1 h
  refine ⟨h1, h, fun o ho => List.mem_append.2 (.inl ho), fun p o ho hb _ => ?_⟩
  rcases bef_append.1 hb with hb | ⟨_, hb⟩ | hb
  · exact hb
  · exact (h3 o ho o hb rfl).elim
  · exact (h3 o ho o hb.right rfl).elim
theorem Beg.take {l : List Od} (h : Val l) (k : Nat) : Beg (l.take k) l := by
  have := Beg.left (a := l.take k) (b := l.drop k) (by rw [List.take_append_drop]; exact h)
  rw [List.take_append_drop] at this
  exact this
theorem val_perm_swap {u v : List Od} {x y : Od} (h : Val (u ++ x :: y :: v)) : Val (u ++ y :: x :: v) := by
  unfold Val at h ⊢
  refine List.Pairwise.perm h ?_ (fun h e => h e.symm)
  exact (List.Perm.refl u).append (List.Perm.swap y x v)
theorem bef_swap {u v : List Od} {x y p o : Od} (hn : clashB x y = false) (hb : Bef (u ++ y :: x :: v) p o) (hc : clashB p o = true) : Bef (u ++ x :: y :: v) p o := by
  rw [show u ++ y :: x :: v = u ++ ([y, x] ++ v) from rfl, bef_append, bef_append] at hb
  rw [show u ++ x :: y :: v = u ++ ([x, y] ++ v) from rfl, bef_append, bef_append]
  have hm : ∀ z, z ∈ [y, x] → z ∈ [x, y] := fun z hz => by simp only [List.mem_cons, List.not_mem_nil, or_false] at hz ⊢; exact hz.symm
  rcases hb with hb | ⟨h1, h2⟩ | hb | ⟨h1, h2⟩ | hb
  · exact .inl hb
  · refine .inr (.inl ⟨h1, ?_⟩)
    rcases List.mem_append.1 h2 with h2 | h2
    · exact List.mem_append.2 (.inl (hm _ h2))
    · exact List.mem_append.2 (.inr h2)
  · rcases bef_cons.1 hb with ⟨rfl, h2⟩ | hb
    · have h3 := List.mem_singleton.1 h2
      subst h3
      rw [clashB_comm, hn] at hc
      cases hc
    · rcases bef_cons.1 hb with ⟨_, h2⟩ | hb
      · cases h2
      · exact (bef_nil hb).elim
  · exact .inr (.inr (.inr (.inl ⟨hm _ h1, h2⟩)))
  · exact .inr (.inr (.inr (.inr hb)))
theorem Beg.swap {u v : List Od} {x y : Od} (hn : clashB x y = false) (h : Val (u ++ x :: y :: v)) : Beg (u ++ x :: y :: v) (u ++ y :: x :: v) :=
  ⟨h, val_perm_swap h, fun o ho => by
    simp only [List.mem_append, List.mem_cons] at ho ⊢
    rcases ho with ho | ho | ho | ho
    · exact .inl ho
    · exact .inr (.inr (.inl ho))
    · exact .inr (.inl ho)
    · exact .inr (.inr (.inr ho)), fun _ _ _ hb hc => bef_swap hn hb hc⟩

/-- lists that clash.Swap makes of one another -/
inductive Mix : List Od → List Od → Prop
  | refl (l : List Od) : Mix l l
  | step {l : List Od} {u v : List Od} {x y : Od} (h : Mix l (u ++ x :: y :: v)) (hn : clashB x y = false) : Mix l (u ++ y :: x :: v)
theorem Mix.beg {l m : List Od} (h : Mix l m) (hv : Val l) : Beg l m ∧ Beg m l := by
  induction h with
  | refl => exact ⟨.refl hv, .refl hv⟩
  | step _ hn ih =>
    have h1 := Beg.swap hn ih.1.2.1
    have h2 := Beg.swap (by rw [clashB_comm]; exact hn) (val_perm_swap ih.1.2.1)
    exact ⟨ih.1.trans h1, h2.trans ih.2⟩
theorem Mix.perm {l m : List Od} (h : Mix l m) : l.Perm m := by
  induction h with
  | refl => exact .refl _
  | step _ _ ih => exact ih.trans ((List.Perm.refl _).append (List.Perm.swap _ _ _))
theorem swapAt_form {l : List Od} {k : Nat} (h : k + 1 < l.length) : ∃ u v, l = u ++ l[k] :: l[k + 1] :: v ∧ swapAt l k = u ++ l[k + 1] :: l[k] :: v := by
  refine ⟨l.take k, l.drop (k + 2), ?_, ?_⟩
  · rw [← List.drop_eq_getElem_cons h, ← List.drop_eq_getElem_cons (by omega : k < l.length), List.take_append_drop]
  · rw [swapAt, dif_pos h]
    refine List.ext_getElem (by simp; omega) fun i h1 h2 => ?_
    simp only [List.length_set] at h1
    rw [List.getElem_set, List.getElem_set, List.getElem_append]
    have hl : (l.take k).length = k := by rw [List.length_take]; omega
    simp only [hl]
    by_cases h3 : i < k
    · rw [dif_pos h3, if_neg (by omega), if_neg (by omega), List.getElem_take]
    · rw [dif_neg h3, List.getElem_cons]
      by_cases h4 : i = k
      · rw [if_neg (by omega), if_pos h4.symm, dif_pos (by omega)]
      · rw [dif_neg (by omega), List.getElem_cons]
        by_cases h5 : i = k + 1
        · rw [if_pos h5.symm, dif_pos (by omega)]
        · rw [if_neg (by omega), if_neg (by omega), dif_neg (by omega), List.getElem_drop]
          congr 1
          omega
theorem Mix.swap {l m : List Od} (h : Mix l m) {i : Int} (hs : swapOk m i = true) : Mix l (swapR m i) := by
  rw [swapR, if_pos hs]
  unfold swapOk at hs
  by_cases hk : 0 ≤ i ∧ i.toNat + 1 < m.length
  · rw [dif_pos hk] at hs
    obtain ⟨u, v, h1, h2⟩ := swapAt_form hk.2
    rw [h2]
    rw [h1] at h
    refine h.step ?_
    simpa using hs
  · rw [dif_neg hk] at hs
    cases hs

theorem mem_others {a b : List Od} {x : Od} : x ∈ othersL a b ↔ x ∈ b ∧ ∀ y ∈ a, y.id ≠ x.id := by
  unfold othersL
  rw [List.mem_filter]
  refine and_congr_right fun _ => ?_
  rw [Bool.not_eq_true', ← Bool.not_eq_true, posN_isSome]
  constructor
  · intro h y hy e; exact h ⟨y, hy, e⟩
  · rintro h ⟨y, hy, e⟩; exact h y hy e
theorem bef_others {a b : List Od} {x y : Od} : Bef (othersL a b) x y ↔ Bef b x y ∧ x ∈ othersL a b ∧ y ∈ othersL a b := by
  have h := @bef_filter Od (fun x => !(posN a x.id).isSome) b x y
  unfold othersL
  rw [h, List.mem_filter, List.mem_filter]
  constructor
  · rintro ⟨h1, h2, h3⟩; exact ⟨h1, ⟨h1.left, h2⟩, ⟨h1.right, h3⟩⟩
  · rintro ⟨h1, h2, h3⟩; exact ⟨h1, h2.2, h3.2⟩
theorem val_meet {a b : List Od} (ha : Val a) (hb : Val b) : Val (meetL a b) :=
  val_append.2 ⟨ha, hb.sub List.filter_sublist, fun x hx _ hy e => (mem_others.1 hy).2 x hx e⟩
theorem others_len {a b : List Od} (ha : Val a) (hb : Val b) (hs : ∀ x ∈ a, x ∈ b) : a.length + (othersL a b).length = b.length := by
  have h := filter_length (fun x : Od => (posN a x.id).isSome) b
  have h1 : a.length ≤ (b.filter fun x : Od => (posN a x.id).isSome).length := length_sub ha.nodup fun x hx => List.mem_filter.2 ⟨hs x hx, (posN_isSome x.id a).2 ⟨x, hx, rfl⟩⟩
  have h2 : (b.filter fun x : Od => (posN a x.id).isSome).length ≤ a.length := length_sub (hb.nodup.sublist List.filter_sublist) fun x hx => by
    obtain ⟨hxb, hp⟩ := List.mem_filter.1 hx
    obtain ⟨y, hy, e⟩ := (posN_isSome x.id a).1 hp
    rw [← hb.inj (hs y hy) hxb e]
    exact hy
  unfold othersL
  omega
/-- a, and what is behind it, is the whole -/
theorem Beg.rest {a m : List Od} (h : Beg a m) : Beg (a ++ othersL a m) m ∧ (a ++ othersL a m).length = m.length := by
  have hv := val_meet h.1 h.2.1
  refine ⟨⟨hv, h.2.1, fun o ho => ?_, fun p o ho hb hc => ?_⟩, by rw [List.length_append]; exact others_len h.1 h.2.1 h.2.2.1⟩
  · rcases List.mem_append.1 ho with ho | ho
    · exact h.2.2.1 o ho
    · exact (mem_others.1 ho).1
  · rw [bef_append]
    rcases List.mem_append.1 ho with ho | ho
    · exact .inl (h.2.2.2 p o ho hb hc)
    · by_cases hp : ∃ y ∈ a, y.id = p.id
      · obtain ⟨y, hy, e⟩ := hp
        rw [h.2.1.inj (h.2.2.1 y hy) hb.left e] at hy
        exact .inr (.inl ⟨hy, ho⟩)
      · exact .inr (.inr (bef_others.2 ⟨hb, mem_others.2 ⟨hb.left, fun y hy e => hp ⟨y, hy, e⟩⟩, ho⟩))
/-- two beginnings of one list meet in it -/
theorem Beg.meet {a b l : List Od} (h : Beg a l) (k : Beg b l) : Beg a (meetL a b) ∧ Beg b (meetL a b) ∧ Beg (meetL a b) l := by
  have hv := val_meet h.1 k.1
  have hmem : ∀ o ∈ b, o ∉ othersL a b → o ∈ a := fun o ho hn => by
    refine Classical.byContradiction fun hna => hn (mem_others.2 ⟨ho, fun y hy e => hna ?_⟩)
    rw [← h.2.1.inj (h.2.2.1 y hy) (k.2.2.1 o ho) e]
    exact hy
  refine ⟨Beg.left hv, ⟨k.1, hv, fun o ho => ?_, fun p o ho hb hc => ?_⟩, ⟨hv, h.2.1, fun o ho => ?_, fun p o ho hb hc => ?_⟩⟩
  · by_cases hn : o ∈ othersL a b
    · exact List.mem_append.2 (.inr hn)
    · exact List.mem_append.2 (.inl (hmem o ho hn))
  · rcases bef_append.1 hb with hb | ⟨hpa, hob⟩ | hb
    · exact k.2.2.2 p o ho (h.back hb hc) hc
    · rcases bef_total (h.2.2.1 p hpa) (k.2.2.1 o ho) (fun e => (mem_others.1 hob).2 p hpa (by rw [e])) with h1 | h1
      · exact k.2.2.2 p o ho h1 hc
      · have := h.2.2.2 o p hpa h1 (by rw [clashB_comm]; exact hc)
        exact ((mem_others.1 hob).2 o this.left rfl).elim
    · exact (bef_others.1 hb).1
  · rcases List.mem_append.1 ho with ho | ho
    · exact h.2.2.1 o ho
    · exact k.2.2.1 o (mem_others.1 ho).1
  · rw [bef_append]
    rcases List.mem_append.1 ho with ho | ho
    · exact .inl (h.2.2.2 p o ho hb hc)
    · have h1 := k.2.2.2 p o (mem_others.1 ho).1 hb hc
      by_cases hn : p ∈ othersL a b
      · exact .inr (.inr (bef_others.2 ⟨h1, hn, ho⟩))
      · exact .inr (.inl ⟨hmem p h1.left hn, ho⟩)
/-- where two meet they do so the other way round -/
theorem Beg.meet_comm {a b : List Od} (ha : Val a) (h : Beg b (meetL a b)) : Beg a (meetL b a) := by
  have hv := val_meet h.1 ha
  have hl := Beg.left (val_meet ha h.1)
  have hin : ∀ o ∈ a, o ∈ meetL a b := fun o ho => List.mem_append.2 (.inl ho)
  have hmem : ∀ o ∈ a, o ∉ othersL b a → o ∈ b := fun o ho hn => by
    refine Classical.byContradiction fun hna => hn (mem_others.2 ⟨ho, fun y hy e => hna ?_⟩)
    rw [← h.2.1.inj (h.2.2.1 y hy) (hin o ho) e]
    exact hy
  refine ⟨ha, hv, fun o ho => ?_, fun p o ho hb hc => ?_⟩
  · by_cases hn : o ∈ othersL b a
    · exact List.mem_append.2 (.inr hn)
    · exact List.mem_append.2 (.inl (hmem o ho hn))
  · rcases bef_append.1 hb with hb | ⟨hpa, hob⟩ | hb
    · exact hl.2.2.2 p o ho (h.back hb hc) hc
    · rcases bef_total (h.2.2.1 p hpa) (hin o ho) (fun e => (mem_others.1 hob).2 p hpa (by rw [e])) with h1 | h1
      · exact hl.2.2.2 p o ho h1 hc
      · have := h.2.2.2 o p hpa h1 (by rw [clashB_comm]; exact hc)
        exact ((mem_others.1 hob).2 o this.left rfl).elim
    · exact (bef_others.1 hb).1
theorem Beg.meet_alike {a b : List Od} (ha : Val a) (h : Beg b (meetL a b)) : Beg (meetL a b) (meetL b a) ∧ (meetL a b).length = (meetL b a).length := by
  have h1 := Beg.meet_comm ha h
  have h2 := h1.meet (Beg.left (val_meet h.1 ha))
  have h3 := h.meet (Beg.left (val_meet ha h.1))
  have := h2.2.2.len
  have := h3.2.2.len
  exact ⟨h2.2.2, by omega⟩
theorem others_nil (b : List Od) : othersL [] b = b := by
  unfold othersL
  rw [List.filter_eq_self]
  intro x _
  rfl
theorem others_all {a b : List Od} (h : ∀ x ∈ b, x ∈ a) : othersL a b = [] := by
  rw [List.eq_nil_iff_forall_not_mem]
  intro x hx
  have := mem_others.1 hx
  exact this.2 x (h x this.1) rfl
end Go.Proofs.Ytogecfddkohigaa
