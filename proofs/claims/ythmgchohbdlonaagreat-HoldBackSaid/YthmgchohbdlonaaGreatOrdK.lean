/- A map, and its entries in order. No program. -/
import Derived.Test.YthmgchohbdlonaaGreatOrd
import Derived.Test.YthmgchohbdlonaaGreatMap
namespace Go.Proofs.YthmgchohbdlonaaGreat

section
variable {α κ ν : Type} [DecidableEq κ] {lt : α → α → Bool}
/-- in order, none twice -/
def SrtL (lt : α → α → Bool) (L : List α) : Prop := L.Pairwise fun a b => lt a b = true
theorem SrtL.sorted (S : Strict lt) {L : List α} (h : SrtL lt L) : SortedB lt L := h.imp fun h => S.asymm h
theorem insB_srt (S : Strict lt) (x : α) : ∀ (L : List α), SrtL lt L → (∀ y ∈ L, lt x y = true ∨ lt y x = true) → SrtL lt (insB lt x L)
  | [], _, _ => List.pairwise_singleton _ _
  | y :: r, h, hx => by
    obtain ⟨h1, h2⟩ := List.pairwise_cons.1 h
    unfold insB
    by_cases hy : lt y x = true
    · rw [if_pos hy]
      refine List.pairwise_cons.2 ⟨fun z hz => ?_, insB_srt S x r h2 fun z hz => hx z (by simp [hz])⟩
      rcases List.mem_cons.1 ((insB_perm x r).mem_iff.1 hz) with rfl | hz
      · exact hy
      · exact h1 z hz
    · rw [if_neg hy]
      have hxy : lt x y = true := (hx y (by simp)).resolve_right hy
      refine List.pairwise_cons.2 ⟨fun z hz => ?_, h⟩
      rcases List.mem_cons.1 hz with rfl | hz
      · exact hxy
      · exact S.trans _ _ _ hxy (h1 z hz)
/-- the place of x in a list in order -/
theorem insB_at (S : Strict lt) (x : α) : ∀ (L : List α) (k : Nat), SrtL lt L → k ≤ L.length → (∀ j (h : j < L.length), j < k → lt L[j] x = true) → (∀ j (h : j < L.length), k ≤ j → lt L[j] x = false) → insB lt x L = L.take k ++ x :: L.drop k
  | [], k, _, _, _, _ => by simp [insB]
  | y :: r, k, h, hk, h1, h2 => by
    obtain ⟨g1, g2⟩ := List.pairwise_cons.1 h
    unfold insB
    cases k with
    | zero =>
      rw [if_neg (by rw [h2 0 (by simp) (Nat.le_refl _) |> fun e => (show lt y x = false from e)]; decide)]
      rfl
    | succ k =>
      rw [if_pos (show lt y x = true from h1 0 (by simp) (by omega)), insB_at S x r k g2 (by simpa using hk) (fun j hj hjk => h1 (j + 1) (by simpa using hj) (by omega)) (fun j hj hjk => h2 (j + 1) (by simpa using hj) (by omega))]
      simp
variable (kf : α → κ)
def getK (L : List α) (k : κ) : Option α := L.find? fun a => decide (kf a = k)
def setK (L : List α) (a : α) : List α := L.map fun x => if kf x = kf a then a else x
def delK (L : List α) (k : κ) : List α := L.filter fun x => !decide (kf x = k)
variable {kf}
theorem getK_mem {L : List α} {k : κ} {a : α} (h : getK kf L k = some a) : a ∈ L ∧ kf a = k := by
  unfold getK at h
  exact ⟨List.mem_of_find?_eq_some h, by simpa using List.find?_some h⟩
theorem getK_none {L : List α} {k : κ} : getK kf L k = none ↔ ∀ a ∈ L, kf a ≠ k := by
  unfold getK
  rw [List.find?_eq_none]
  simp
/-- keys part what is in order -/
structure KeyOrd (lt : α → α → Bool) (kf : α → κ) : Prop where
  strict : Strict lt
  ne : ∀ a b, lt a b = true → kf a ≠ kf b
  co : ∀ a b, kf a ≠ kf b → lt a b = true ∨ lt b a = true
  eq : ∀ a b, kf a = kf b → ∀ c, lt a c = lt b c ∧ lt c a = lt c b
omit [DecidableEq κ] in
theorem SrtL.one (O : KeyOrd lt kf) {L : List α} (h : SrtL lt L) : ∀ {a b : α}, a ∈ L → b ∈ L → kf a = kf b → a = b := by
  intro a b ha hb he
  obtain ⟨i, hi, rfl⟩ := List.getElem_of_mem ha
  obtain ⟨j, hj, rfl⟩ := List.getElem_of_mem hb
  rcases Nat.lt_trichotomy i j with hij | rfl | hij
  · exact absurd he (O.ne _ _ (List.pairwise_iff_getElem.1 h i j hi hj hij))
  · rfl
  · exact absurd he.symm (O.ne _ _ (List.pairwise_iff_getElem.1 h j i hj hi hij))
theorem getK_of (O : KeyOrd lt kf) {L : List α} (h : SrtL lt L) {a : α} (ha : a ∈ L) : getK kf L (kf a) = some a := by
  cases hg : getK kf L (kf a) with
  | none => exact absurd rfl (getK_none.1 hg a ha)
  | some b =>
    obtain ⟨h1, h2⟩ := getK_mem hg
    rw [h.one O h1 ha h2]
theorem setK_srt (O : KeyOrd lt kf) {L : List α} (h : SrtL lt L) (a : α) : SrtL lt (setK kf L a) := by
  unfold setK SrtL
  rw [List.pairwise_map]
  refine h.imp fun {x y} hxy => ?_
  have hne := O.ne _ _ hxy
  by_cases hx : kf x = kf a
  · rw [if_pos hx, if_neg (fun e => hne (by rw [hx, e])), ← (O.eq _ _ hx y).1]
    exact hxy
  · rw [if_neg hx]
    by_cases hy : kf y = kf a
    · rw [if_pos hy, ← (O.eq _ _ hy x).2]
      exact hxy
    · rw [if_neg hy]
      exact hxy
theorem delK_srt {L : List α} (h : SrtL lt L) (k : κ) : SrtL lt (delK kf L k) := List.Pairwise.sublist List.filter_sublist h
theorem setK_len (L : List α) (a : α) : (setK kf L a).length = L.length := List.length_map ..
theorem setK_mem {L : List α} {a x : α} (h : x ∈ setK kf L a) : x = a ∨ (x ∈ L ∧ kf x ≠ kf a) := by
  obtain ⟨y, hy, he⟩ := List.mem_map.1 h
  by_cases hk : kf y = kf a
  · rw [if_pos hk] at he; exact .inl he.symm
  · rw [if_neg hk] at he; subst he; exact .inr ⟨hy, hk⟩
theorem setK_set (O : KeyOrd lt kf) {L : List α} (h : SrtL lt L) {k : Nat} (hk : k < L.length) {a : α} (ha : kf L[k] = kf a) : setK kf L a = L.set k a := by
  apply List.ext_getElem
  · simp [setK]
  · intro j h1 h2
    have hj : j < L.length := by simpa [setK] using h1
    simp only [setK, List.getElem_map, List.getElem_set]
    by_cases hjk : k = j
    · subst hjk; simp [ha]
    · rw [if_neg hjk, if_neg]
      intro e
      exact hjk (by
        rcases Nat.lt_trichotomy j k with hlt | rfl | hlt
        · exact absurd (e.trans ha.symm) (O.ne _ _ (List.pairwise_iff_getElem.1 h j k hj hk hlt))
        · rfl
        · exact absurd (ha.trans e.symm) (O.ne _ _ (List.pairwise_iff_getElem.1 h k j hk hj hlt)))
theorem delK_at (O : KeyOrd lt kf) {L : List α} (h : SrtL lt L) {k : Nat} (hk : k < L.length) : delK kf L (kf L[k]) = L.take k ++ L.drop (k + 1) := by
  unfold delK
  have e : L = L.take k ++ L[k] :: L.drop (k + 1) := by rw [← List.drop_eq_getElem_cons hk, List.take_append_drop]
  have hp := h
  unfold SrtL at hp
  rw [e, List.pairwise_append] at hp
  obtain ⟨p1, p2, p3⟩ := hp
  obtain ⟨p4, p5⟩ := List.pairwise_cons.1 p2
  conv => lhs; arg 2; rw [e]
  rw [List.filter_append, List.filter_cons_of_neg (by simp), List.filter_eq_self.2, List.filter_eq_self.2]
  · intro x hx
    simpa using fun e => O.ne _ _ (p4 x hx) e.symm
  · intro x hx
    simpa using O.ne _ _ (p3 x hx _ (List.mem_cons_self ..))
variable (lt kf) in
/-- a map's entries, in order -/
structure RK (g : κ × ν → α) (M : List (κ × ν)) (L : List α) : Prop where
  perm : (M.map g).Perm L
  srt : SrtL lt L
  key : ∀ p ∈ M, kf (g p) = p.1
variable {g : κ × ν → α} {M : List (κ × ν)} {L : List α}
omit [DecidableEq κ] in
theorem RK.len (h : RK lt kf g M L) : M.length = L.length := by have := h.perm.length_eq; simpa using this
omit [DecidableEq κ] in
theorem RK.uniq (S : Strict lt) {L' : List α} (h : RK lt kf g M L) (h' : RK lt kf g M L') : L = L' :=
  sorted_unique (h.perm.symm.trans h'.perm) (h.srt.sorted S) (h'.srt.sorted S) fun a ha b hb e1 e2 => by
    obtain ⟨i, hi, rfl⟩ := List.getElem_of_mem ha
    obtain ⟨j, hj, rfl⟩ := List.getElem_of_mem hb
    rcases Nat.lt_trichotomy i j with hij | rfl | hij
    · rw [List.pairwise_iff_getElem.1 h.srt i j hi hj hij] at e1; cases e1
    · rfl
    · rw [List.pairwise_iff_getElem.1 h.srt j i hj hi hij] at e2; cases e2
theorem RK.get (O : KeyOrd lt kf) (h : RK lt kf g M L) (k : κ) : (getM M k).map (fun v => g (k, v)) = getK kf L k := by
  unfold getM
  cases hf : M.find? (fun p => decide (p.1 = k)) with
  | none =>
    refine (getK_none.2 fun a ha e => ?_).symm
    obtain ⟨p, hp, rfl⟩ := List.mem_map.1 (h.perm.mem_iff.2 ha)
    rw [List.find?_eq_none] at hf
    exact hf p hp (by simpa [h.key p hp] using e)
  | some p =>
    have hp := List.mem_of_find?_eq_some hf
    have hk : p.1 = k := by simpa using List.find?_some hf
    subst hk
    have hm : g p ∈ L := h.perm.mem_iff.1 (List.mem_map.2 ⟨p, hp, rfl⟩)
    have := getK_of O h.srt hm
    rw [h.key p hp] at this
    exact this.symm
theorem RK.put (O : KeyOrd lt kf) (h : RK lt kf g M L) {k : κ} {v : ν} (hk : kf (g (k, v)) = k) (hs : (getK kf L k).isSome = true) : RK lt kf g (putM M k v) (setK kf L (g (k, v))) := by
  have hany : M.any (fun p => decide (p.1 = k)) = true := by
    cases hg : getK kf L k with
    | none => rw [hg] at hs; cases hs
    | some a =>
      obtain ⟨ha, hka⟩ := getK_mem hg
      obtain ⟨p, hp, rfl⟩ := List.mem_map.1 (h.perm.mem_iff.2 ha)
      exact List.any_eq_true.2 ⟨p, hp, by rw [← hka, h.key p hp]; simp⟩
  unfold putM
  rw [if_pos hany]
  refine ⟨?_, setK_srt O h.srt _, ?_⟩
  · rw [List.map_map]
    have := h.perm.map (fun x => if kf x = kf (g (k, v)) then g (k, v) else x)
    rw [List.map_map] at this
    refine (List.Perm.of_eq (List.map_congr_left fun p hp => ?_)).trans this
    simp only [Function.comp_def]
    rw [h.key p hp, hk]
    split <;> rfl
  · intro p hp
    obtain ⟨q, hq, rfl⟩ := List.mem_map.1 hp
    split
    · exact hk
    · exact h.key q hq
theorem RK.add (O : KeyOrd lt kf) (h : RK lt kf g M L) {k : κ} {v : ν} (hk : kf (g (k, v)) = k) (hs : getK kf L k = none) : RK lt kf g (putM M k v) (insB lt (g (k, v)) L) := by
  have hno := getK_none.1 hs
  have hany : ¬ M.any (fun p => decide (p.1 = k)) = true := by
    rw [List.any_eq_true]
    rintro ⟨p, hp, e⟩
    exact hno (g p) (h.perm.mem_iff.1 (List.mem_map.2 ⟨p, hp, rfl⟩)) (by rw [h.key p hp]; simpa using e)
  unfold putM
  rw [if_neg hany]
  refine ⟨?_, insB_srt O.strict _ _ h.srt fun y hy => O.co _ _ (by rw [hk]; exact fun e => hno y hy e.symm), ?_⟩
  · rw [List.map_append, List.map_singleton]
    exact (List.perm_append_comm.trans (by simpa using h.perm.cons (g (k, v)))).trans (insB_perm _ _).symm
  · intro p hp
    rcases List.mem_append.1 hp with hp | hp
    · exact h.key p hp
    · simp only [List.mem_singleton] at hp; subst hp; exact hk
theorem RK.del (h : RK lt kf g M L) (k : κ) : RK lt kf g (delM M k) (delK kf L k) := by
  refine ⟨?_, delK_srt h.srt k, fun p hp => h.key p (List.mem_filter.1 hp).1⟩
  have := h.perm.filter (fun x => !decide (kf x = k))
  rw [List.filter_map] at this
  refine (List.Perm.of_eq ?_).trans this
  unfold delM
  congr 1
  refine List.filter_congr fun p hp => ?_
  simp only [Function.comp_def]
  rw [h.key p hp]
omit [DecidableEq κ] in
theorem RK.nil : RK lt kf g ([] : List (κ × ν)) [] := ⟨.refl _, List.Pairwise.nil, by simp⟩
end
end Go.Proofs.YthmgchohbdlonaaGreat
