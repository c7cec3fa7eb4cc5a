/- Texts of this claim, laid together: FoaP, SortF, FoCmp, Make. -/
import Derived.Test.YtdkkblhfjblpkaaGreatRows
import Derived.Test.YtdkkblhfjblpkaaGreatBi5
import Derived.Test.YtdkkblhfjblpkaaGreatBi8
import Derived.WalkKit
import Derived.WalkSpells
import Derived.WalkLawsBesides
import Derived.Deep.QuietTactic
import Derived.BigQuiet
import Derived.Laws.StructEq
import Derived.Deep.DeepFit
import Derived.StillTailTactics
import Derived.Test.YtdkkblhfjblpkaaGreatBi1
import Derived.Shelf.SlSortCmp.WholeK
import Derived.Shelf.SlSortCmp.NoneTotal
import Derived.Test.YtdkkblhfjblpkaaGreatBi14
import Derived.Test.YtdkkblhfjblpkaaGreatBi2
import Derived.Laws.MakeOwn

/- levels and steps of a list (plain) -/
namespace Go.Proofs.YtdkkblhfjblpkaaGreat
open Go.RowKit
/-- the level of an order behind others whose levels are known -/
def lvF (o : Od) (v : Int) (p : Od × Int) : Int := if v ≤ p.2 ∧ clashB p.1 o = true then p.2 + 1 else v
def lvAt (P : List (Od × Int)) (o : Od) : Int := P.foldl (lvF o) 1
theorem lvF_spec (o : Od) : ∀ (P : List (Od × Int)) (v : Int), v ≤ P.foldl (lvF o) v ∧ (∀ p ∈ P, clashB p.1 o = true → p.2 < P.foldl (lvF o) v) ∧ (P.foldl (lvF o) v = v ∨ ∃ p ∈ P, clashB p.1 o = true ∧ p.2 + 1 = P.foldl (lvF o) v)
  | [], v => ⟨Int.le_refl _, by simp, .inl rfl⟩
  | p :: r, v => by
    obtain ⟨h1, h2, h3⟩ := lvF_spec o r (lvF o v p)
    have hs : (p :: r).foldl (lvF o) v = r.foldl (lvF o) (lvF o v p) := rfl
    rw [hs]
    have hv : v ≤ lvF o v p ∧ (clashB p.1 o = true → p.2 < lvF o v p) ∧ (lvF o v p = v ∨ (clashB p.1 o = true ∧ p.2 + 1 = lvF o v p)) := by
      unfold lvF
      split
      · rename_i h; exact ⟨by omega, fun _ => by omega, .inr ⟨h.2, rfl⟩⟩
      · rename_i h; exact ⟨Int.le_refl _, fun hc => by
          have : ¬ v ≤ p.2 := fun e => h ⟨e, hc⟩
          omega, .inl rfl⟩
    refine ⟨by omega, fun q hq hc => ?_, ?_⟩
    · rcases List.mem_cons.1 hq with rfl | hq
      · have := hv.2.1 hc; omega
      · exact h2 q hq hc
    · rcases h3 with h3 | ⟨q, hq, hc, e⟩
      · rcases hv.2.2 with e | ⟨hc, e⟩
        · exact .inl (by omega)
        · exact .inr ⟨p, List.mem_cons_self .., hc, by omega⟩
      · exact .inr ⟨q, List.mem_cons_of_mem _ hq, hc, e⟩
theorem lvAt_pos (P : List (Od × Int)) (o : Od) : 1 ≤ lvAt P o := (lvF_spec o P 1).1
theorem lvAt_lt {P : List (Od × Int)} {o : Od} {p : Od × Int} (h : p ∈ P) (hc : clashB p.1 o = true) : p.2 < lvAt P o := (lvF_spec o P 1).2.1 p h hc
theorem lvAt_ex (P : List (Od × Int)) (o : Od) : lvAt P o = 1 ∨ ∃ p ∈ P, clashB p.1 o = true ∧ p.2 + 1 = lvAt P o := (lvF_spec o P 1).2.2
theorem lvAt_sub {P Q : List (Od × Int)} {o : Od} (h : ∀ p ∈ P, clashB p.1 o = true → p ∈ Q) : lvAt P o ≤ lvAt Q o := by
  rcases lvAt_ex P o with e | ⟨p, hp, hc, e⟩
  · rw [e]; exact lvAt_pos _ _
  · have := lvAt_lt (h p hp hc) hc; omega
theorem lvAt_eq {P Q : List (Od × Int)} {o : Od} (h : ∀ p, clashB p.1 o = true → (p ∈ P ↔ p ∈ Q)) : lvAt P o = lvAt Q o :=
  Int.le_antisymm (lvAt_sub fun p hp hc => (h p hc).1 hp) (lvAt_sub fun p hp hc => (h p hc).2 hp)
/-- orders with their levels -/
def levP (l : List Od) : List (Od × Int) := l.foldl (fun P o => P ++ [(o, lvAt P o)]) []
def levG (P : List (Od × Int)) (l : List Od) : List (Od × Int) := l.foldl (fun P o => P ++ [(o, lvAt P o)]) P
theorem levP_app (l m : List Od) : levP (l ++ m) = levG (levP l) m := List.foldl_append ..
theorem levP_snoc (l : List Od) (o : Od) : levP (l ++ [o]) = levP l ++ [(o, lvAt (levP l) o)] := by rw [levP_app]; rfl
theorem levG_cons (P : List (Od × Int)) (o : Od) (r : List Od) : levG P (o :: r) = levG (P ++ [(o, lvAt P o)]) r := rfl
theorem levG_fst : ∀ (l : List Od) (P : List (Od × Int)), (levG P l).map (·.1) = P.map (·.1) ++ l
  | [], P => (List.append_nil _).symm
  | o :: r, P => by rw [levG_cons, levG_fst r, List.map_append]; simp
theorem levP_fst (l : List Od) : (levP l).map (·.1) = l := levG_fst l []
theorem levP_len (l : List Od) : (levP l).length = l.length := by have := congrArg List.length (levP_fst l); simpa using this
theorem levG_pre : ∀ (l : List Od) (P : List (Od × Int)), ∃ Q, levG P l = P ++ Q ∧ Q.length = l.length
  | [], P => ⟨[], (List.append_nil _).symm, rfl⟩
  | o :: r, P => by
    obtain ⟨Q, h, hq⟩ := levG_pre r (P ++ [(o, lvAt P o)])
    exact ⟨(o, lvAt P o) :: Q, by rw [levG_cons, h]; simp, by simp [hq]⟩
theorem levP_take (l : List Od) (k : Nat) (hk : k ≤ l.length) : levP (l.take k) = (levP l).take k := by
  have h := levP_app (l.take k) (l.drop k)
  rw [List.take_append_drop] at h
  obtain ⟨Q, hQ, _⟩ := levG_pre (l.drop k) (levP (l.take k))
  have : (levP (l.take k)).length = k := by rw [levP_len, List.length_take]; omega
  have e : levP l = levP (l.take k) ++ Q := h.trans hQ
  conv => rhs; rw [e]
  exact (List.take_left' this).symm
theorem levP_get {l : List Od} {k : Nat} (hk : k < l.length) : (levP l)[k]'(by rw [levP_len]; exact hk) = (l[k], lvAt (levP (l.take k)) l[k]) := by
  have h : levP (l.take (k + 1)) = levP (l.take k) ++ [(l[k], lvAt (levP (l.take k)) l[k])] := by rw [List.take_succ_eq_append_getElem hk, levP_snoc]
  rw [levP_take l _ hk] at h
  have h2 : ((levP l).take (k + 1))[k]? = some (l[k], lvAt (levP (l.take k)) l[k]) := by
    rw [h, List.getElem?_append_right (by rw [levP_len, List.length_take]; omega)]
    have : k - (levP (l.take k)).length = 0 := by rw [levP_len, List.length_take]; omega
    rw [this]; rfl
  rw [List.getElem?_take_of_lt (by omega), List.getElem?_eq_getElem (by rw [levP_len]; exact hk)] at h2
  exact Option.some.inj h2
/-- what the levels say -/
theorem levP_ahead {l : List Od} {i j : Nat} (hij : i < j) (hj : j < l.length) (hc : clashB l[i] l[j] = true) : ((levP l)[i]'(by rw [levP_len]; omega)).2 < ((levP l)[j]'(by rw [levP_len]; exact hj)).2 := by
  rw [levP_get hj]
  have hi : i < (levP (l.take j)).length := by rw [levP_len, List.length_take]; omega
  have hm := List.getElem_mem hi
  have e : (levP (l.take j))[i]'hi = (levP l)[i]'(by rw [levP_len]; omega) := by
    have := levP_take l j (by omega)
    simp only [this, List.getElem_take]
  rw [e] at hm
  refine lvAt_lt hm ?_
  rw [levP_get (by omega)]
  exact hc
theorem levP_pos {l : List Od} {p : Od × Int} (h : p ∈ levP l) : 1 ≤ p.2 := by
  obtain ⟨k, hk, rfl⟩ := List.getElem_of_mem h
  rw [levP_len] at hk
  rw [levP_get hk]
  exact lvAt_pos _ _
theorem levP_step {l : List Od} {p : Od × Int} (h : p ∈ levP l) (h1 : 1 < p.2) : ∃ q ∈ levP l, clashB q.1 p.1 = true ∧ q.2 + 1 = p.2 := by
  obtain ⟨k, hk, rfl⟩ := List.getElem_of_mem h
  rw [levP_len] at hk
  rw [levP_get hk] at h1 ⊢
  rcases lvAt_ex (levP (l.take k)) l[k] with e | ⟨q, hq, hc, e⟩
  · dsimp only at h1; omega
  · rw [levP_take l k (by omega)] at hq
    exact ⟨q, List.mem_of_mem_take hq, hc, e⟩
/-- orders with one level do not clash -/
theorem levP_same {l : List Od} (_hv : Val l) {p q : Od × Int} (hp : p ∈ levP l) (hq : q ∈ levP l) (e : p.2 = q.2) (hne : p.1 ≠ q.1) : clashB p.1 q.1 = false := by
  obtain ⟨i, hi, rfl⟩ := List.getElem_of_mem hp
  obtain ⟨j, hj, rfl⟩ := List.getElem_of_mem hq
  rw [levP_len] at hi hj
  have e1 : ((levP l)[i]'(by rw [levP_len]; exact hi)).1 = l[i] := by rw [levP_get hi]
  have e2 : ((levP l)[j]'(by rw [levP_len]; exact hj)).1 = l[j] := by rw [levP_get hj]
  rw [e1, e2] at hne ⊢
  cases hc : clashB l[i] l[j] with
  | false => rfl
  | true =>
    rcases Nat.lt_trichotomy i j with h | rfl | h
    · have := levP_ahead h hj hc; omega
    · exact absurd rfl hne
    · have := levP_ahead h hi (by rw [clashB_comm]; exact hc); omega
/-- lists that swaps make of one another have the same levels -/
theorem levG_perm : ∀ {l : List Od} {P Q : List (Od × Int)}, P.Perm Q → (levG P l).Perm (levG Q l)
  | [], _, _, h => h
  | o :: r, P, Q, h => by
    rw [levG_cons, levG_cons, lvAt_eq (P := P) (Q := Q) fun p _ => h.mem_iff]
    exact levG_perm (h.append (List.Perm.refl _))
theorem levP_mix {l m : List Od} (h : Mix l m) : (levP l).Perm (levP m) := by
  induction h with
  | refl => exact .refl _
  | @step u v x y _ hn ih =>
    refine ih.trans ?_
    rw [levP_app, levP_app, levG_cons, levG_cons, levG_cons, levG_cons]
    have ex : lvAt (levP u ++ [(x, lvAt (levP u) x)]) y = lvAt (levP u) y := lvAt_eq fun p hc => by
      rw [List.mem_append, List.mem_singleton]
      constructor
      · rintro (h | rfl)
        · exact h
        · rw [show clashB (x, lvAt (levP u) x).1 y = clashB x y from rfl, hn] at hc; cases hc
      · exact .inl
    have ey : lvAt (levP u ++ [(y, lvAt (levP u) y)]) x = lvAt (levP u) x := lvAt_eq fun p hc => by
      rw [List.mem_append, List.mem_singleton]
      constructor
      · rintro (h | rfl)
        · exact h
        · rw [show clashB (y, lvAt (levP u) y).1 x = clashB y x from rfl, clashB_comm, hn] at hc; cases hc
      · exact .inl
    rw [ex, ey]
    refine levG_perm ?_
    rw [List.append_assoc, List.append_assoc]
    exact (List.Perm.refl _).append (List.Perm.swap _ _ _)
/-- the greatest level -/
def mostP (P : List (Od × Int)) : Int := P.foldl (fun m p => if m < p.2 then p.2 else m) 0
theorem most_spec : ∀ (P : List (Od × Int)) (m : Int), m ≤ P.foldl (fun m p => if m < p.2 then p.2 else m) m ∧ (∀ p ∈ P, p.2 ≤ P.foldl (fun m p => if m < p.2 then p.2 else m) m) ∧ (P.foldl (fun m p => if m < p.2 then p.2 else m) m = m ∨ ∃ p ∈ P, p.2 = P.foldl (fun m p => if m < p.2 then p.2 else m) m)
  | [], m => ⟨Int.le_refl _, by simp, .inl rfl⟩
  | p :: r, m => by
    obtain ⟨h1, h2, h3⟩ := most_spec r (if m < p.2 then p.2 else m)
    rw [List.foldl_cons]
    generalize hG : r.foldl (fun m p => if m < p.2 then p.2 else m) (if m < p.2 then p.2 else m) = G at *
    refine ⟨?_, fun q hq => ?_, ?_⟩
    · split at h1 <;> omega
    · rcases List.mem_cons.1 hq with rfl | hq
      · split at h1 <;> omega
      · exact h2 q hq
    · rcases h3 with h3 | ⟨q, hq, e⟩
      · split at h3
        · exact .inr ⟨p, List.mem_cons_self .., h3.symm⟩
        · exact .inl h3
      · exact .inr ⟨q, List.mem_cons_of_mem _ hq, e⟩
theorem mostP_perm {P Q : List (Od × Int)} (h : P.Perm Q) (hP : ∀ p ∈ P, 1 ≤ p.2) : mostP P = mostP Q := by
  obtain ⟨a1, a2, a3⟩ := most_spec P 0
  obtain ⟨b1, b2, b3⟩ := most_spec Q 0
  change 0 ≤ mostP P at a1
  change 0 ≤ mostP Q at b1
  change ∀ p ∈ P, p.2 ≤ mostP P at a2
  change ∀ p ∈ Q, p.2 ≤ mostP Q at b2
  change mostP P = 0 ∨ ∃ p ∈ P, p.2 = mostP P at a3
  change mostP Q = 0 ∨ ∃ p ∈ Q, p.2 = mostP Q at b3
  rcases a3 with a3 | ⟨p, hp, e⟩
  · rcases b3 with b3 | ⟨q, hq, e'⟩
    · omega
    · have := a2 q (h.mem_iff.2 hq); omega
  · have := b2 p (h.mem_iff.1 hp)
    rcases b3 with b3 | ⟨q, hq, e'⟩
    · have := hP p hp; omega
    · have := a2 q (h.mem_iff.2 hq); omega
/-- by Ids -/
def ltO (a b : Od) : Bool := decide (a.client < b.client) || (decide (a.client = b.client) && decide (a.seq < b.seq))
theorem strictO : Strict ltO := by
  refine ⟨fun a => by unfold ltO; simp, fun a b c h1 h2 => ?_, fun a b c h1 h2 => ?_⟩
  · unfold ltO at *
    simp only [Bool.or_eq_true, Bool.and_eq_true, decide_eq_true_eq] at *
    omega
  · unfold ltO at *
    simp only [Bool.or_eq_false_iff, Bool.and_eq_false_iff, decide_eq_false_iff_not] at *
    omega
theorem ltO_tri {a b : Od} (h1 : ltO a b = false) (h2 : ltO b a = false) : a.id = b.id := by
  unfold ltO at *
  simp only [Bool.or_eq_false_iff, Bool.and_eq_false_iff, decide_eq_false_iff_not] at *
  show Id.mk a.client a.seq = ⟨b.client, b.seq⟩
  rw [Id.mk.injEq]
  omega
/-- one step -/
def stepP (P : List (Od × Int)) (s : Nat) : List Od := sortB ltO ((P.filter fun p => decide (p.2 = (s : Int) + 1)).map (·.1))
/-- foata.Steps of a list that may be -/
def stepsV (l : List Od) : List (List Od) := (List.range (mostP (levP l)).toNat).map (stepP (levP l))
theorem val_filter {P : List (Od × Int)} (h : Val (P.map (·.1))) (f : Od × Int → Bool) : Val ((P.filter f).map (·.1)) := h.sub (List.Sublist.map _ List.filter_sublist)
theorem stepP_perm {P Q : List (Od × Int)} (h : P.Perm Q) (hv : Val (P.map (·.1))) (s : Nat) : stepP P s = stepP Q s := by
  unfold stepP
  have hp : ((P.filter fun p => decide (p.2 = (s : Int) + 1)).map (·.1)).Perm ((Q.filter fun p => decide (p.2 = (s : Int) + 1)).map (·.1)) := (h.filter _).map _
  refine sorted_unique (((sortB_perm _).trans hp).trans (sortB_perm _).symm) (sortB_sorted strictO _) (sortB_sorted strictO _) fun a ha b hb h1 h2 => ?_
  have ha := (sortB_perm _).mem_iff.1 ha
  have hb := (sortB_perm _).mem_iff.1 hb
  exact (val_filter hv _).inj ha hb (ltO_tri h1 h2)
theorem stepsV_mix {l m : List Od} (h : Mix l m) (hv : Val l) : stepsV l = stepsV m := by
  have hp := levP_mix h
  unfold stepsV
  rw [mostP_perm hp fun p hp => levP_pos hp]
  refine List.map_congr_left fun s _ => stepP_perm hp (by rw [levP_fst]; exact hv) s
theorem ltO_irr_id {a b : Od} (h : ltO a b = true) : a.id ≠ b.id := fun e => by
  have e : Id.mk a.client a.seq = ⟨b.client, b.seq⟩ := e
  rw [Id.mk.injEq] at e
  unfold ltO at h
  simp only [Bool.or_eq_true, Bool.and_eq_true, decide_eq_true_eq] at h
  omega
theorem mem_step {P : List (Od × Int)} {o : Od} {s : Nat} : o ∈ stepP P s ↔ (o, (s : Int) + 1) ∈ P := by
  unfold stepP
  rw [(sortB_perm _).mem_iff, List.mem_map]
  constructor
  · rintro ⟨p, hp, rfl⟩
    obtain ⟨h1, h2⟩ := List.mem_filter.1 hp
    have h2 : p.2 = (s : Int) + 1 := by simpa using h2
    rw [← h2]; exact h1
  · intro h
    exact ⟨_, List.mem_filter.2 ⟨h, by simp⟩, rfl⟩
theorem step_srt {P : List (Od × Int)} (hv : Val (P.map (·.1))) (s : Nat) : SrtL ltO (stepP P s) := by
  have h1 := sortB_sorted strictO ((P.filter fun p => decide (p.2 = (s : Int) + 1)).map (·.1))
  have h2 : Val (stepP P s) := by
    unfold stepP Val
    refine (sortB_perm _).symm.pairwise (val_filter hv _) fun {x y} h e => h e.symm
  unfold SortedB at h1
  unfold Val at h2
  refine (List.Pairwise.and h1 h2).imp fun {a b} h => ?_
  cases hab : ltO a b with
  | true => rfl
  | false => exact absurd (ltO_tri hab h.1) h.2
theorem flat_one {α : Type} {x : α} {k : Nat} (f : Nat → List α) : ∀ n, k < n → ((List.range n).flatMap fun s => if s = k then x :: f s else f s).Perm (x :: (List.range n).flatMap f)
  | 0, h => absurd h (by omega)
  | n + 1, h => by
    rw [List.range_succ, List.flatMap_append, List.flatMap_append]
    simp only [List.flatMap_cons, List.flatMap_nil, List.append_nil]
    by_cases hk : k = n
    · subst hk
      rw [if_pos rfl]
      have e : ((List.range k).flatMap fun s => if s = k then x :: f s else f s) = (List.range k).flatMap f := by
        rw [List.flatMap_def, List.flatMap_def]
        congr 1
        refine List.map_congr_left fun s hs => ?_
        have := List.mem_range.1 hs
        rw [if_neg (by omega)]
      rw [e]
      exact List.perm_middle
    · rw [if_neg (fun e => hk e.symm)]
      exact (flat_one f n (by omega)).append (List.Perm.refl _)
theorem flat_all : ∀ {P : List (Od × Int)} {n : Nat}, (∀ p ∈ P, 1 ≤ p.2 ∧ p.2 ≤ n) → ((List.range n).flatMap fun s : Nat => (P.filter fun p => decide (p.2 = (s : Int) + 1)).map (·.1)).Perm (P.map (·.1))
  | [], n, _ => by
    have : ∀ l : List Nat, (l.flatMap fun _ => ([] : List Od)) = [] := fun l => by induction l <;> simp_all
    show (List.flatMap (fun _ => ([] : List Od)) (List.range n)).Perm []
    rw [this]
  | p :: r, n, h => by
    have hp := h p (List.mem_cons_self ..)
    have ih := flat_all (P := r) (n := n) fun q hq => h q (List.mem_cons_of_mem _ hq)
    have e : ((List.range n).flatMap fun s : Nat => ((p :: r).filter fun p => decide (p.2 = (s : Int) + 1)).map (·.1)) = (List.range n).flatMap fun s : Nat => if s = (p.2 - 1).toNat then p.1 :: (r.filter fun p => decide (p.2 = (s : Int) + 1)).map (·.1) else (r.filter fun p => decide (p.2 = (s : Int) + 1)).map (·.1) := by
      rw [List.flatMap_def, List.flatMap_def]
      congr 1
      refine List.map_congr_left fun s _ => ?_
      by_cases hs : s = (p.2 - 1).toNat
      · rw [if_pos hs, List.filter_cons_of_pos (by simp; omega), List.map_cons]
      · rw [if_neg hs, List.filter_cons_of_neg (by simp; omega)]
    rw [e, List.map_cons]
    exact (flat_one _ n (by omega)).trans (ih.cons _)
theorem flatMap_permL {α β : Type} {f g : α → List β} (h : ∀ a, (f a).Perm (g a)) : ∀ {l : List α}, (l.flatMap f).Perm (l.flatMap g)
  | [] => .refl _
  | a :: r => by
    rw [List.flatMap_cons, List.flatMap_cons]
    exact (h a).append (flatMap_permL h)
/-- foata.Lay -/
def layL (S : List (List Od)) : List Od := S.flatten
theorem most_pos (P : List (Od × Int)) : 0 ≤ mostP P := (most_spec P 0).1
theorem most_le {P : List (Od × Int)} {p : Od × Int} (h : p ∈ P) : p.2 ≤ mostP P := (most_spec P 0).2.1 p h
theorem most_ex (P : List (Od × Int)) : mostP P = 0 ∨ ∃ p ∈ P, p.2 = mostP P := (most_spec P 0).2.2
theorem lay_perm (l : List Od) : (layL (stepsV l)).Perm l := by
  unfold layL stepsV
  rw [← List.flatMap_def]
  have h : ((List.range (mostP (levP l)).toNat).flatMap (stepP (levP l))).Perm ((List.range (mostP (levP l)).toNat).flatMap fun s : Nat => ((levP l).filter fun p => decide (p.2 = (s : Int) + 1)).map (·.1)) := flatMap_permL fun s => sortB_perm _
  refine h.trans ((flat_all fun p hp => ⟨levP_pos hp, ?_⟩).trans (.of_eq (levP_fst l)))
  have := most_le hp
  omega
theorem bef_flat {α : Type} {x y : α} : ∀ {S : List (List α)} {a b : Nat}, a < b → (hb : b < S.length) → (ha : a < S.length) → x ∈ S[a] → y ∈ S[b] → Bef S.flatten x y
  | [], _, _, _, hb, _, _, _ => absurd hb (by simp)
  | A :: R, 0, b + 1, _, hb, _, hx, hy => by
    rw [List.flatten_cons]
    refine bef_append.2 (.inr (.inl ⟨hx, ?_⟩))
    rw [List.getElem_cons_succ] at hy
    exact List.mem_flatten.2 ⟨_, List.getElem_mem _, hy⟩
  | A :: R, a + 1, b + 1, h, hb, ha, hx, hy => by
    rw [List.flatten_cons]
    rw [List.getElem_cons_succ] at hx hy
    exact bef_append.2 (.inr (.inr (bef_flat (by omega) _ (by simpa using ha) hx hy)))
theorem stepsV_get {l : List Od} {s : Nat} (h : s < (stepsV l).length) : (stepsV l)[s] = stepP (levP l) s := by
  have e : ∀ (S : List (List Od)) (_ : S = (List.range (mostP (levP l)).toNat).map (stepP (levP l))) (h : s < S.length), S[s] = stepP (levP l) s := fun S e h => by
    subst e
    rw [List.getElem_map, List.getElem_range]
  exact e _ rfl h
theorem stepsV_len (l : List Od) : (stepsV l).length = (mostP (levP l)).toNat := by unfold stepsV; rw [List.length_map, List.length_range]
/-- laid step by step, a list is alike -/
theorem lay_beg {l : List Od} (hv : Val l) : Beg l (layL (stepsV l)) := by
  have hp := lay_perm l
  have hvl : Val (layL (stepsV l)) := hp.symm.pairwise hv fun {x y} h e => h e.symm
  refine ⟨hv, hvl, fun o ho => hp.mem_iff.2 ho, fun p o ho hb hc => ?_⟩
  have hpm := hp.mem_iff.1 hb.left
  have hne : p ≠ o := fun e => by subst e; exact bef_irrefl hvl.nodup hb
  rcases bef_total hpm ho hne with h | h
  · exact h
  · exfalso
    obtain ⟨i, j, hij, e1, e2⟩ := bef_get.1 h
    obtain ⟨hi, rfl⟩ := List.getElem?_eq_some_iff.1 e1
    obtain ⟨hj, rfl⟩ := List.getElem?_eq_some_iff.1 e2
    have hlt := levP_ahead hij hj (by rw [clashB_comm]; exact hc)
    have mi : (l[i], ((levP l)[i]'(by rw [levP_len]; exact hi)).2) ∈ levP l := by
      have h := List.getElem_mem (l := levP l) (n := i) (by rw [levP_len]; exact hi)
      have e : ((levP l)[i]'(by rw [levP_len]; exact hi)).1 = l[i] := by rw [levP_get hi]
      rw [← e]; exact h
    have mj : (l[j], ((levP l)[j]'(by rw [levP_len]; exact hj)).2) ∈ levP l := by
      have h := List.getElem_mem (l := levP l) (n := j) (by rw [levP_len]; exact hj)
      have e : ((levP l)[j]'(by rw [levP_len]; exact hj)).1 = l[j] := by rw [levP_get hj]
      rw [← e]; exact h
    generalize ((levP l)[i]'(by rw [levP_len]; exact hi)).2 = a at *
    generalize ((levP l)[j]'(by rw [levP_len]; exact hj)).2 = b at *
    have a1 : 1 ≤ a := levP_pos mi
    have b1 : 1 ≤ b := levP_pos mj
    have am : a ≤ mostP (levP l) := most_le mi
    have bm : b ≤ mostP (levP l) := most_le mj
    have ha : (a - 1).toNat < (stepsV l).length := by rw [stepsV_len]; omega
    have hb' : (b - 1).toNat < (stepsV l).length := by rw [stepsV_len]; omega
    have := bef_flat (x := l[i]) (y := l[j]) (S := stepsV l) (a := (a - 1).toNat) (b := (b - 1).toNat) (by omega) hb' ha (by
      rw [stepsV_get ha, mem_step, show (((a - 1).toNat : Nat) : Int) + 1 = a from by omega]; exact mi) (by
      rw [stepsV_get hb', mem_step, show (((b - 1).toNat : Nat) : Int) + 1 = b from by omega]; exact mj)
    exact bef_asymm hvl.nodup hb this
/-- lists that are alike come of one another by swaps -/
theorem Bub.down {a b : List Od} {i : Nat} (hb : Beg (K a) (K b)) (hl : a.length = b.length) (hva : Val a) (hi : i < b.length) : ∀ {k : Nat} {l : List Od}, Bub a b l i → i ≤ k → k < l.length → (K l)[k]? = (K b)[i]? → ∃ l', Bub a b l' (i + 1)
  | k, l, h, hik, hk, e => by
    by_cases hki : k = i
    · subst hki; exact ⟨l, h.next e⟩
    · obtain ⟨k, rfl⟩ : ∃ k', k = k' + 1 := ⟨k - 1, by omega⟩
      obtain ⟨_, h2, h3, h4⟩ := h.swap hb hl hva hi (by omega) hk e
      exact Bub.down hb hl hva hi h2 (by omega) (by omega) h3
theorem alike_mix {a b : List Od} (hb : Beg (K a) (K b)) (hl : a.length = b.length) (hva : Val a) (hvb : Val b) : ∃ m, Mix a m ∧ K m = K b := by
  have key : ∀ i, i ≤ b.length → ∃ l, Bub a b l i := by
    intro i
    induction i with
    | zero => intro _; exact ⟨a, Bub.start a b⟩
    | succ i ih =>
      intro hi
      obtain ⟨l, h⟩ := ih (by omega)
      obtain ⟨k, _, h2, h3, h4⟩ := h.at_ hb hl hva hvb (by omega)
      exact Bub.down hb hl hva (by omega) h h2 h3 h4
  obtain ⟨l, h⟩ := key b.length (Nat.le_refl _)
  exact ⟨l, h.mix, h.done hl⟩
/-- what is behind so many steps -/
def restS (l : List Od) (s : Nat) : List Od := ((levP l).filter fun p => decide ((s : Int) < p.2)).map (·.1)
theorem restS_snoc (l : List Od) (o : Od) (s : Nat) : restS (l ++ [o]) s = if (s : Int) < lvAt (levP l) o then restS l s ++ [o] else restS l s := by
  unfold restS
  rw [levP_snoc, List.filter_append, List.map_append]
  split
  · rename_i h; rw [List.filter_cons_of_pos (by simpa using h)]; rfl
  · rename_i h; rw [List.filter_cons_of_neg (by simpa using h)]; simp
theorem levP_rest (s : Nat) (l : List Od) : levP (restS l s) = ((levP l).filter fun p => decide ((s : Int) < p.2)).map fun p => (p.1, p.2 - (s : Int)) := by
  have key : ∀ k, k ≤ l.length → levP (restS (l.take k) s) = ((levP (l.take k)).filter fun p => decide ((s : Int) < p.2)).map fun p => (p.1, p.2 - (s : Int)) := by
    intro k
    induction k with
    | zero => intro _; rfl
    | succ k ih =>
      intro hk
      have ih := ih (by omega)
      rw [List.take_succ_eq_append_getElem hk, restS_snoc, levP_snoc, List.filter_append, List.map_append]
      generalize l[k] = o at *
      generalize l.take k = m at *
      by_cases h : (s : Int) < lvAt (levP m) o
      · rw [if_pos h, List.filter_cons_of_pos (by simpa using h), levP_snoc, ih]
        congr 1
        show [(o, _)] = [(o, lvAt (levP m) o - s)]
        congr 2
        generalize hQ : ((levP m).filter fun p => decide ((s : Int) < p.2)).map (fun p => (p.1, p.2 - (s : Int))) = Q
        have hm : ∀ q, q ∈ Q ↔ (q.1, q.2 + s) ∈ levP m ∧ 0 < q.2 := by
          intro q
          rw [← hQ, List.mem_map]
          constructor
          · rintro ⟨p, hp, rfl⟩
            obtain ⟨h1, h2⟩ := List.mem_filter.1 hp
            have h2 : (s : Int) < p.2 := by simpa using h2
            refine ⟨?_, by show 0 < p.2 - s; omega⟩
            show (p.1, p.2 - s + s) ∈ _
            rw [show p.2 - s + s = p.2 from by omega]
            exact h1
          · rintro ⟨h1, h2⟩
            exact ⟨_, List.mem_filter.2 ⟨h1, by simp; omega⟩, by show (q.1, q.2 + s - s) = q; rw [show q.2 + (s : Int) - s = q.2 from by omega]⟩
        have u : lvAt Q o ≤ lvAt (levP m) o - s := by
          rcases lvAt_ex Q o with e | ⟨q, hq, hc, e⟩
          · omega
          · have := lvAt_lt ((hm q).1 hq).1 hc
            have h3 : q.2 + s < lvAt (levP m) o := this
            omega
        have v : lvAt (levP m) o - s ≤ lvAt Q o := by
          rcases lvAt_ex (levP m) o with e | ⟨p, hp, hc, e⟩
          · have := lvAt_pos Q o; omega
          · by_cases hs : (s : Int) < p.2
            · have hq : (p.1, p.2 - (s : Int)) ∈ Q := (hm _).2 ⟨by show (p.1, p.2 - (s : Int) + s) ∈ _; rw [show p.2 - (s : Int) + s = p.2 from by omega]; exact hp, by show 0 < p.2 - (s : Int); omega⟩
              have := lvAt_lt hq hc
              have h3 : p.2 - s < lvAt Q o := this
              omega
            · have := lvAt_pos Q o; omega
        omega
      · rw [if_neg h, List.filter_cons_of_neg (by simpa using h), ih]
        simp
  have := key l.length (Nat.le_refl _)
  rwa [List.take_length] at this
theorem step_rest (l : List Od) (s : Nat) : stepP (levP (restS l s)) 0 = stepP (levP l) s := by
  unfold stepP
  rw [levP_rest]
  congr 1
  rw [List.filter_map, List.map_map, List.filter_filter]
  have e : (levP l).filter (fun p => ((fun p : Od × Int => decide (p.2 = ((0 : Nat) : Int) + 1)) ∘ fun p => (p.1, p.2 - (s : Int))) p && decide ((s : Int) < p.2)) = (levP l).filter fun p => decide (p.2 = (s : Int) + 1) := by
    refine List.filter_congr fun p _ => ?_
    rw [Bool.eq_iff_iff]
    simp only [Function.comp_def, Bool.and_eq_true, decide_eq_true_eq]
    omega
  rw [e]
  rfl
theorem rest_rest (l : List Od) (s t : Nat) : restS (restS l s) t = restS l (s + t) := by
  show ((levP (restS l s)).filter _).map _ = _
  rw [levP_rest]
  unfold restS
  rw [List.filter_map, List.map_map, List.filter_filter]
  have e : (levP l).filter (fun p => ((fun p : Od × Int => decide ((t : Int) < p.2)) ∘ fun p => (p.1, p.2 - (s : Int))) p && decide ((s : Int) < p.2)) = (levP l).filter fun p => decide (((s + t : Nat) : Int) < p.2) := by
    refine List.filter_congr fun p _ => ?_
    rw [Bool.eq_iff_iff]
    simp only [Function.comp_def, Bool.and_eq_true, decide_eq_true_eq]
    omega
  rw [e]
  rfl
theorem rest_zero (l : List Od) : restS l 0 = l := by
  unfold restS
  rw [List.filter_eq_self.2, levP_fst]
  intro p hp
  have := levP_pos hp
  simp; omega
theorem restS_len (l : List Od) (s : Nat) : (restS l s).length = 0 ↔ (stepsV l).length ≤ s := by
  rw [stepsV_len]
  unfold restS
  rw [List.length_map, List.length_eq_zero_iff, List.filter_eq_nil_iff]
  constructor
  · intro h
    rcases most_ex (levP l) with e | ⟨p, hp, e⟩
    · omega
    · have := h p hp
      simp at this; omega
  · intro h p hp
    have := most_le hp
    simp; omega
/-- free: nothing ahead clashes -/
theorem free_iff (l : List Od) (o : Od) : lvAt (levP l) o = 1 ↔ ∀ x ∈ l, clashB x o = false := by
  constructor
  · intro h x hx
    rw [← levP_fst l] at hx
    obtain ⟨p, hp, rfl⟩ := List.mem_map.1 hx
    cases hc : clashB p.1 o with
    | false => rfl
    | true =>
      have := lvAt_lt hp hc
      have := levP_pos hp
      omega
  · intro h
    rcases lvAt_ex (levP l) o with e | ⟨p, hp, hc, _⟩
    · exact e
    · have := h p.1 (by rw [← levP_fst l]; exact List.mem_map.2 ⟨p, hp, rfl⟩)
      rw [this] at hc; cases hc
/-- the orders of the first step, as they come -/
def freeS (l : List Od) : List Od := ((levP l).filter fun p => decide (p.2 = ((0 : Nat) : Int) + 1)).map (·.1)
theorem freeS_snoc (l : List Od) (o : Od) : freeS (l ++ [o]) = if ∀ x ∈ l, clashB x o = false then freeS l ++ [o] else freeS l := by
  unfold freeS
  rw [levP_snoc, List.filter_append, List.map_append]
  split
  · rename_i h
    rw [← free_iff] at h
    rw [List.filter_cons_of_pos (by simpa using h)]; rfl
  · rename_i h
    rw [← free_iff] at h
    rw [List.filter_cons_of_neg (by simpa using h)]; simp
theorem rest1_snoc (l : List Od) (o : Od) : restS (l ++ [o]) 1 = if ∀ x ∈ l, clashB x o = false then restS l 1 else restS l 1 ++ [o] := by
  rw [restS_snoc]
  have h1 := lvAt_pos (levP l) o
  by_cases h : ∀ x ∈ l, clashB x o = false
  · rw [if_pos h, if_neg (by rw [(free_iff l o).2 h]; decide)]
  · rw [if_neg h, if_pos (by have : lvAt (levP l) o ≠ 1 := fun e => h ((free_iff l o).1 e); omega)]
theorem levP_le {l : List Od} : ∀ {k : Nat} (hk : k < l.length), ((levP l)[k]'(by rw [levP_len]; exact hk)).2 ≤ (k : Int) + 1 := by
  intro k
  induction k using Nat.strongRecOn with
  | ind k ih =>
    intro hk
    rw [levP_get hk]
    show lvAt (levP (l.take k)) l[k] ≤ _
    rcases lvAt_ex (levP (l.take k)) l[k] with e | ⟨p, hp, _, e⟩
    · omega
    · rw [levP_take l k (by omega)] at hp
      obtain ⟨j, hj, rfl⟩ := List.getElem_of_mem hp
      rw [List.length_take, levP_len] at hj
      rw [List.getElem_take] at e
      have := ih j (by omega) (by omega)
      omega
theorem levP_small {l : List Od} {p : Od × Int} (h : p ∈ levP l) : 1 ≤ p.2 ∧ p.2 ≤ l.length := by
  refine ⟨levP_pos h, ?_⟩
  obtain ⟨k, hk, rfl⟩ := List.getElem_of_mem h
  rw [levP_len] at hk
  have := levP_le hk
  omega
theorem most_small (l : List Od) : 0 ≤ mostP (levP l) ∧ mostP (levP l) ≤ l.length := by
  refine ⟨most_pos _, ?_⟩
  rcases most_ex (levP l) with e | ⟨p, hp, e⟩
  · omega
  · have := (levP_small hp).2; omega
theorem mostP_snoc (P : List (Od × Int)) (p : Od × Int) : mostP (P ++ [p]) = if mostP P < p.2 then p.2 else mostP P := by
  unfold mostP
  rw [List.foldl_append]
  rfl
end Go.Proofs.YtdkkblhfjblpkaaGreat

/- slices.SortFunc of a row of the call's own, at structs. No program. -/
namespace Go.Proofs.YtdkkblhfjblpkaaGreat
open Go.RowKit Go.Shelf Go.Sort

section
variable {α : Type} [Enc α] [Inhabited α]
theorem flatK_flat (l : List α) : (flatK Enc.cells (Enc.size α) l.toArray).toList = l.flatMap Enc.cells := by
  apply List.ext_getElem?
  intro t
  by_cases ht : t < l.length * Enc.size α
  · have hs : 0 < Enc.size α := by
      rcases Nat.eq_zero_or_pos (Enc.size α) with h | h
      · rw [h] at ht; simp at ht
      · exact h
    have h1 : t / Enc.size α < l.length := by rw [Nat.div_lt_iff_lt_mul hs]; exact ht
    have h2 : t % Enc.size α < Enc.size α := Nat.mod_lt _ hs
    have h3 : t < (flatK Enc.cells (Enc.size α) l.toArray).size := by simpa using ht
    have e1 : t / Enc.size α * Enc.size α + t % Enc.size α = t := by rw [Nat.mul_comm]; exact Nat.div_add_mod _ _
    have e2 := flat_get l _ _ h1 h2
    rw [e1] at e2
    rw [e2, Array.getElem?_toList, Array.getElem?_eq_getElem h3, ← getElem!_pos _ t h3, get_flatK _ _ _ _ (by simpa using ht)]
    rw [getElem!_pos l.toArray _ (by simpa using h1), getElem!_pos _ _ (by rw [Enc.len]; exact h2), List.getElem?_eq_getElem (by rw [Enc.len]; exact h2)]
    simp
  · rw [List.getElem?_eq_none (by rw [Array.length_toList]; simp; omega), List.getElem?_eq_none (by rw [flat_len]; omega)]
theorem putCells_take (F cur : Array Value) (h : F.size ≤ cur.size) : (putCells id 0 F cur).toList.take F.size = F.toList := by
  apply List.ext_getElem?
  intro t
  by_cases ht : t < F.size
  · rw [List.getElem?_take_of_lt ht, Array.getElem?_toList, Array.getElem?_toList, Array.getElem?_eq_getElem ht]
    unfold putCells
    rw [Array.getElem?_mapIdx, Array.getElem?_eq_getElem (by omega), Option.map_some, if_pos ⟨Nat.zero_le _, by omega⟩, Nat.sub_zero, getElem!_pos F t ht]
    rfl
  · rw [List.getElem?_eq_none (by simp; omega), List.getElem?_eq_none (by simp; omega)]
theorem heap_putRow {w : World} {g : Nat} {cur : Array Value} {e : TypeId} {fr : Nat × Nat} (F : Array Value) (n : Nat) (os : Array Obj) (h : w.heap[g]? = some (.cells cur e fr)) : (grow (putRow id (Sort.ahead w n) g 0 F) os).heap[g]? = some (.cells (putCells id 0 F cur) e fr) := by
  have hlt := (Array.getElem?_eq_some_iff.1 h).1
  unfold grow putRow mapBlock
  simp only
  rw [Array.getElem?_append_left (by simpa [Sort.ahead] using hlt), Array.getElem?_modify, if_pos rfl]
  show Option.map _ (w.heap[g]?) = _
  rw [h]
  rfl
theorem grown_putRow {w : World} {g : Nat} (F : Array Value) (n : Nat) (os : Array Obj) : w.grownBy (grow (putRow id (Sort.ahead w n) g 0 F) os) (some g) :=
  ⟨rfl, rfl, rfl, by simp [Sort.ahead], fun k hk hne => by
    unfold grow putRow mapBlock
    simp only
    rw [Array.getElem?_append_left (by simpa [Sort.ahead] using hk), Array.getElem?_modify, if_neg (fun e => hne (by rw [e]))]
    rfl⟩
/-- the row's own block turned into d' -/
theorem Own.sorted {w : World} {base : Nat} {e : TypeId} {g cap : Nat} {l : List α} {d' : Array α} (h : Own w base e (.slice (some ⟨g, 0, none⟩) l.length cap) l) (hp : d'.toList.Perm l) (n : Nat) (os : Array Obj) :
    Own (grow (putRow id (Sort.ahead w n) g 0 (flatK Enc.cells (Enc.size α) d')) os) base e (.slice (some ⟨g, 0, none⟩) l.length cap) d'.toList := by
  obtain ⟨cur, hg, hb, hn, hc, hm, hz, ht⟩ := h.cells
  have hlen : d'.toList.length = l.length := hp.length_eq
  have hF : (flatK Enc.cells (Enc.size α) d').size = l.length * Enc.size α := by rw [size_flatK, ← Array.length_toList, hlen]
  have hle : l.length * Enc.size α ≤ cap * Enc.size α := Nat.mul_le_mul_right _ hc
  have hgr := grown_putRow (w := w) (g := g) (flatK Enc.cells (Enc.size α) d') n os
  refine ⟨⟨by rw [flat_len], .inr ⟨g, cap, _, by rw [hlen], hb, heap_putRow _ n os hg, by omega, hm, by simp [putCells, hz], ?_⟩⟩, fun x hx => ?_⟩
  · rw [hlen, ← hF, putCells_take _ _ (by omega)]
    have := flatK_flat d'.toList
    simpa using this
  · refine Enc.keep (h.2 x (hp.mem_iff.1 hx)) (fun p hp => World.cell?_of_block (hgr.block _ hp.1 hp.2)) (fun b hb => ⟨Nat.lt_of_lt_of_le hb.1 hgr.size, hb.2⟩)
variable {P : Program} {ρ : Ren}
/-- slices.SortFunc(v, cmp) -/
theorem sortF_own (L : SlLaysF0.n6 P ρ) (aE : ∀ w, (isAgg (ρ.t 24)).run P w = .ok true w) (zE : ∀ w, (Go.sizeOf (ρ.t 24)).run P w = .ok (Enc.size α) w) (cf : α → α → Int) (lt : α → α → Bool) (hlt : ∀ x y, lt x y = decide (cf x y < 0)) (S : Strict lt) (g : Nat) (cb : Array Value)
    (eg : ∀ args w, (callFunc g args).run P w = .ok (.enter g args) w) (hcmp : ∀ (x y : α) (W : World), Calls P g (#[.agg (Enc.cells x).toArray, .agg (Enc.cells y).toArray] ++ cb) W fun e w' => e = .returned (.int .i64 (cf x y)) ∧ ∃ q os', w' = grow (W.drewN q) os')
    (base : Nat) (T : TypeId) (v : Value) (l : List α) (w : World) (h : Own w base T v l) (hn : l.length ≤ 1000000) :
    Calls P (ρ.f 6) #[v, .func (.func g) #[] cb] w fun e w' => e = .returned (.tuple #[]) ∧ ∃ l', l'.Perm l ∧ SortedB lt l' ∧ Own w' base T v l' ∧ w.grownBy w' v.ownBlock := by
  have hO : SWO (ltOf cf) := ⟨fun x => by unfold ltOf; rw [← hlt]; exact S.irr x, fun x y z => by unfold ltOf; rw [← hlt, ← hlt, ← hlt]; exact S.trans x y z, fun x y z => by unfold ltOf; rw [← hlt, ← hlt, ← hlt]; exact S.co x y z⟩
  rcases Nat.eq_zero_or_pos l.length with h0 | hpos
  · obtain rfl := List.length_eq_zero_iff.1 h0
    obtain ⟨A, c, hv, _⟩ := h.sl
    subst hv
    exact (AnyF.slices_SortFunc_none { L with } A c (.func (.func g) #[] cb) w).mono fun e w' ⟨he, hw⟩ => ⟨he, [], .refl _, List.Pairwise.nil, by subst hw; exact h, by subst hw; exact World.grownBy.refl _ _⟩
  · obtain ⟨gb, cap, cur, rfl, hb, hg, hc, hm, hz, ht⟩ := h.form hpos
    have hH : HoldsK Enc.cells (Enc.size α) w gb 0 l.toArray := by
      intro j hj
      rw [size_flatK, List.size_toArray] at hj
      have hle : l.length * Enc.size α ≤ cap * Enc.size α := Nat.mul_le_mul_right _ hc
      rw [Nat.zero_add]
      refine ⟨?_, frozen_of_row w gb j cur T hg⟩
      rw [cell_of_row w gb j cur T (0, 0) hg]
      have e1 : (flatK Enc.cells (Enc.size α) l.toArray)[j]? = cur[j]? := by
        rw [← Array.getElem?_toList, flatK_flat, ← ht, List.getElem?_take_of_lt hj, Array.getElem?_toList]
      have hj2 : j < (flatK Enc.cells (Enc.size α) l.toArray).size := by simpa using hj
      rw [← e1, Array.getElem?_eq_getElem hj2, getElem!_pos _ j hj2]
      rfl
    have hl1 : l.toArray.size = l.length := List.size_toArray ..
    have hcon := AnyQ.slices_SortFunc L (Enc.size α) aE zE Enc.cells Enc.len Enc.one cf hO g cb gb 0 cap l.toArray w eg (fun m os dk _ x y => hcmp x y _) hH (Array.getElem?_eq_some_iff.1 hg).1 (by rw [hl1]; omega)
    rw [hl1] at hcon
    refine hcon.mono fun e w' ⟨he, d', n, os, hp, hs, hw⟩ => ⟨he, ?_⟩
    obtain ⟨hsz, _, hperm⟩ := hp
    have hpe : d'.toList.Perm l := by
      have e1 : d'.extract 0 l.length = d' := by rw [← hl1, ← hsz]; exact Array.extract_size
      have e2 : l.toArray.extract 0 l.length = l.toArray := by rw [← hl1]; exact Array.extract_size
      rw [e1, e2] at hperm
      simpa using hperm
    refine ⟨d'.toList, hpe, ?_, ?_, ?_⟩
    · unfold SortedB
      rw [List.pairwise_iff_getElem]
      intro i j hi hj hij
      have hi' : i < d'.size := by simpa using hi
      have hj' : j < d'.size := by simpa using hj
      have := hs i j (Nat.zero_le _) hij (by rw [hsz, hl1] at hj'; exact hj')
      unfold ltOf at this
      rw [← hlt, getElem!_pos d' i hi', getElem!_pos d' j hj'] at this
      simpa using this
    · rw [hw]; exact h.sorted hpe n os
    · rw [hw]; exact grown_putRow _ n os
end
end Go.Proofs.YtdkkblhfjblpkaaGreat

/- foata.Steps: the order of the sort -/
namespace Go.Proofs.YtdkkblhfjblpkaaGreat
open Go.RowKit
open Go.Sort in
set_option maxRecDepth 100000 in
set_option maxHeartbeats 1600000 in
theorem focmp_c (x y : Od) (w : World) :
    Calls Tryz.prog 68 #[x.v, y.v] w fun e w' => e = .returned (i64 (orI (cmpI x.client y.client) (cmpI x.seq y.seq))) ∧ ∃ q os, w' = grow (w.drewN q) os := by
  have k1 := fun W => cmpI_c x.client y.client W
  have k2 := fun W => cmpI_c x.seq y.seq W
  have k3 := fun g W h0 h1 => orI_c (cmpI x.client y.client) (cmpI x.seq y.seq) g W h0 h1
  have hg1 := heap_alloc2_old w (.cells #[i64 x.client, i64 x.seq, i64 x.kind, .string x.acct, .string x.peer, i64 x.sum, .slice x.la x.legs.length x.lc, i64 x.period, i64 x.hold, .string x.note] 50) (.cells #[i64 y.client, i64 y.seq, i64 y.kind, .string y.acct, .string y.peer, i64 y.sum, .slice y.la y.legs.length y.lc, i64 y.period, i64 y.hold, .string y.note] 50)
  have hg2 := heap_alloc2_new w (.cells #[i64 x.client, i64 x.seq, i64 x.kind, .string x.acct, .string x.peer, i64 x.sum, .slice x.la x.legs.length x.lc, i64 x.period, i64 x.hold, .string x.note] 50) (.cells #[i64 y.client, i64 y.seq, i64 y.kind, .string y.acct, .string y.peer, i64 y.sum, .slice y.la y.legs.length y.lc, i64 y.period, i64 y.hold, .string y.note] 50)
  have hend : ∀ o1 o2 o3 : Obj, ∃ q os, (((w.alloc o1).alloc o2).drew.alloc o3) = grow (w.drewN q) os := fun o1 o2 o3 => ⟨1, #[o1, o2, o3], by
    simp only [alloc_eq_grow, drew_grow, grow_grow]; rfl⟩
  have Hend := Lib.hid hend
  generalize cmpI x.client y.client = p at *
  generalize cmpI x.seq y.seq = q at *
  have K1 := Lib.hid k1
  have K2 := Lib.hid k2
  have K3 := Lib.hid k3
  have n1 := cell_of_row _ w.heap.size 0 _ _ (0, 0) hg1
  have n2 := cell_of_row _ w.heap.size 1 _ _ (0, 0) hg1
  have m1 := cell_of_row _ (w.heap.size + 1) 0 _ _ (0, 0) hg2
  have m2 := cell_of_row _ (w.heap.size + 1) 1 _ _ (0, 0) hg2
  simp only [List.getElem?_toArray, List.getElem?_cons_zero, List.getElem?_cons_succ] at n1 n2 m1 m2
  clear hg1 hg2 k1 k2 k3 hend
  have hS : ∀ o, (fun V => V.cell? ⟨w.heap.size, 0, none⟩ = some (i64 x.client) ∧ V.cell? ⟨w.heap.size, 1, none⟩ = some (i64 x.seq) ∧ V.cell? ⟨w.heap.size + 1, 0, none⟩ = some (i64 y.client) ∧ V.cell? ⟨w.heap.size + 1, 1, none⟩ = some (i64 y.seq)) ((((w.alloc (.cells #[i64 x.client, i64 x.seq, i64 x.kind, .string x.acct, .string x.peer, i64 x.sum, .slice x.la x.legs.length x.lc, i64 x.period, i64 x.hold, .string x.note] 50)).alloc (.cells #[i64 y.client, i64 y.seq, i64 y.kind, .string y.acct, .string y.peer, i64 y.sum, .slice y.la y.legs.length y.lc, i64 y.period, i64 y.hold, .string y.note] 50)).drew).alloc o) := fun o => ⟨(World.cell?_alloc_lt _ _ _ (by simp; omega)).trans n1, (World.cell?_alloc_lt _ _ _ (by simp; omega)).trans n2, (World.cell?_alloc_lt _ _ _ (by simp)).trans m1, (World.cell?_alloc_lt _ _ _ (by simp)).trans m2⟩
  have HS := Lib.hid hS
  clear hS
  unfold Od.v
  go_enter Tryz.func68, Tryz.ntmps68
  go_wp2_with fail
  refine wp_region_noPanic ?_
  refine wp_region_l 16 (fun V => V.cell? ⟨w.heap.size, 0, none⟩ = some (i64 x.client) ∧ V.cell? ⟨w.heap.size, 1, none⟩ = some (i64 x.seq) ∧ V.cell? ⟨w.heap.size + 1, 0, none⟩ = some (i64 y.client) ∧ V.cell? ⟨w.heap.size + 1, 1, none⟩ = some (i64 y.seq)) (by kernel_rfl) (⟨n1, n2, m1, m2⟩) (fun hH => ?_)
  refine wpAnyL_take (i := 0) (v := ?v20001) rfl (by kernel_rfl) (by kernel_rfl) (by kernel_rfl) (by kernel_rfl) (fun _ _ _ h => h) (Or.inl ⟨by kernel_rfl, ?hy20001⟩) (by assumption) ?r20001
  case hy20001 => (intro W hSW; obtain ⟨s1, s2, s3, s4⟩ := hSW; go_simp; try with_reducible rfl)
  try simp only [Act.put, List.getElem_toArray, List.getElem_cons_zero, List.setIfInBounds_toArray, List.set_cons_zero, List.set_cons_succ]
  refine wpAnyL_take (i := 1) (v := ?v20002) rfl (by kernel_rfl) (by kernel_rfl) (by kernel_rfl) (by kernel_rfl) (fun _ _ _ h => h) (Or.inl ⟨by kernel_rfl, ?hy20002⟩) (by assumption) ?r20002
  case hy20002 => (intro W hSW; obtain ⟨s1, s2, s3, s4⟩ := hSW; go_simp; try with_reducible rfl)
  try simp only [Act.put, List.getElem_toArray, List.getElem_cons_zero, List.getElem_cons_succ, List.setIfInBounds_toArray, List.set_cons_zero, List.set_cons_succ]
  refine wpAnyL_take (i := 2) (v := ?v20003) rfl (by kernel_rfl) (by kernel_rfl) (by kernel_rfl) (by kernel_rfl) (fun _ _ _ h => h) (Or.inl ⟨by kernel_rfl, ?hy20003⟩) (by assumption) ?r20003
  case hy20003 => (intro W hSW; obtain ⟨s1, s2, s3, s4⟩ := hSW; go_simp; try with_reducible rfl)
  try simp only [Act.put, List.getElem_toArray, List.getElem_cons_zero, List.getElem_cons_succ, List.setIfInBounds_toArray, List.set_cons_zero, List.set_cons_succ]
  refine wpAnyL_take (i := 3) (v := ?v20004) rfl (by kernel_rfl) (by kernel_rfl) (by kernel_rfl) (by kernel_rfl) (fun _ _ _ h => h) (Or.inl ⟨by kernel_rfl, ?hy20004⟩) (by assumption) ?r20004
  case hy20004 => (intro W hSW; obtain ⟨s1, s2, s3, s4⟩ := hSW; go_simp; try with_reducible rfl)
  try simp only [Act.put, List.getElem_toArray, List.getElem_cons_zero, List.getElem_cons_succ, List.setIfInBounds_toArray, List.set_cons_zero, List.set_cons_succ]
  refine wpAnyL_take (i := 4) (v := ?v20005) rfl (by kernel_rfl) (by kernel_rfl) (by kernel_rfl) (by kernel_rfl) (fun _ _ _ h => h) (Or.inl ⟨by kernel_rfl, ?hy20005⟩) (by assumption) ?r20005
  case hy20005 => (intro W hSW; obtain ⟨s1, s2, s3, s4⟩ := hSW; go_simp; try with_reducible rfl)
  try simp only [Act.put, List.getElem_toArray, List.getElem_cons_zero, List.getElem_cons_succ, List.setIfInBounds_toArray, List.set_cons_zero, List.set_cons_succ]
  refine wpAnyL_take (i := 5) (v := ?v20006) rfl (by kernel_rfl) (by kernel_rfl) (by kernel_rfl) (by kernel_rfl) (fun _ _ _ h => h) (Or.inl ⟨by kernel_rfl, ?hy20006⟩) (by assumption) ?r20006
  case hy20006 => (intro W hSW; obtain ⟨s1, s2, s3, s4⟩ := hSW; go_simp; try with_reducible rfl)
  try simp only [Act.put, List.getElem_toArray, List.getElem_cons_zero, List.getElem_cons_succ, List.setIfInBounds_toArray, List.set_cons_zero, List.set_cons_succ]
  refine wpAnyL_take (i := 7) (v := ?v20007) rfl (by kernel_rfl) (by kernel_rfl) (by kernel_rfl) (by kernel_rfl) (fun _ _ _ h => h) (Or.inl ⟨by kernel_rfl, ?hy20007⟩) (by assumption) ?r20007
  case hy20007 => (intro W hSW; obtain ⟨s1, s2, s3, s4⟩ := hSW; go_simp; try with_reducible rfl)
  try simp only [Act.put, List.getElem_toArray, List.getElem_cons_zero, List.getElem_cons_succ, List.setIfInBounds_toArray, List.set_cons_zero, List.set_cons_succ]
  refine wpAnyL_take (i := 8) (v := ?v20008) rfl (by kernel_rfl) (by kernel_rfl) (by kernel_rfl) (by kernel_rfl) (fun _ _ _ h => h) (Or.inl ⟨by kernel_rfl, ?hy20008⟩) (by assumption) ?r20008
  case hy20008 => (intro W hSW; obtain ⟨s1, s2, s3, s4⟩ := hSW; go_simp; try with_reducible rfl)
  try simp only [Act.put, List.getElem_toArray, List.getElem_cons_zero, List.getElem_cons_succ, List.setIfInBounds_toArray, List.set_cons_zero, List.set_cons_succ]
  refine wpAnyL_take (i := 9) (v := ?v20009) rfl (by kernel_rfl) (by kernel_rfl) (by kernel_rfl) (by kernel_rfl) (fun _ _ _ h => h) (Or.inl ⟨by kernel_rfl, ?hy20009⟩) (by assumption) ?r20009
  case hy20009 => (intro W hSW; obtain ⟨s1, s2, s3, s4⟩ := hSW; go_simp; try with_reducible rfl)
  try simp only [Act.put, List.getElem_toArray, List.getElem_cons_zero, List.getElem_cons_succ, List.setIfInBounds_toArray, List.set_cons_zero, List.set_cons_succ]
  refine wpAnyL_take (i := 10) (v := ?v20010) rfl (by kernel_rfl) (by kernel_rfl) (by kernel_rfl) (by kernel_rfl) (fun _ _ _ h => h) (Or.inl ⟨by kernel_rfl, ?hy20010⟩) (by assumption) ?r20010
  case hy20010 => (intro W hSW; obtain ⟨s1, s2, s3, s4⟩ := hSW; go_simp; try with_reducible rfl)
  try simp only [Act.put, List.getElem_toArray, List.getElem_cons_zero, List.getElem_cons_succ, List.setIfInBounds_toArray, List.set_cons_zero, List.set_cons_succ]
  refine wpAnyL_take (i := 11) (v := ?v20011) rfl (by kernel_rfl) (by kernel_rfl) (by kernel_rfl) (by kernel_rfl) (fun _ _ _ h => h) (Or.inl ⟨by kernel_rfl, ?hy20011⟩) (by assumption) ?r20011
  case hy20011 => (intro W hSW; obtain ⟨s1, s2, s3, s4⟩ := hSW; go_simp; try with_reducible rfl)
  try simp only [Act.put, List.getElem_toArray, List.getElem_cons_zero, List.getElem_cons_succ, List.setIfInBounds_toArray, List.set_cons_zero, List.set_cons_succ]
  refine wpAnyL_take (i := 12) (v := ?v20012) rfl (by kernel_rfl) (by kernel_rfl) (by kernel_rfl) (by kernel_rfl) (fun _ _ _ h => h) (Or.inl ⟨by kernel_rfl, ?hy20012⟩) (by assumption) ?r20012
  case hy20012 => (intro W hSW; obtain ⟨s1, s2, s3, s4⟩ := hSW; go_simp; try with_reducible rfl)
  try simp only [Act.put, List.getElem_toArray, List.getElem_cons_zero, List.getElem_cons_succ, List.setIfInBounds_toArray, List.set_cons_zero, List.set_cons_succ]
  refine wpAnyL_one (i := 6) (by kernel_rfl) rfl (by decide) (fun K hK => ?_)
  go_simp
  with_reducible refine (K1.out _).mono ?_
  rintro e u1 ⟨rfl, rfl⟩
  refine hK.out _ _ (hH) (fun hH => ?_)
  clear hK K
  try simp only [Act.put, List.getElem_toArray, List.getElem_cons_zero, List.getElem_cons_succ, List.setIfInBounds_toArray, List.set_cons_zero, List.set_cons_succ]
  refine wpAnyL_one (i := 13) (by kernel_rfl) rfl (by decide) (fun K hK => ?_)
  go_simp
  with_reducible refine (K2.out _).mono ?_
  rintro e u1 ⟨rfl, rfl⟩
  refine hK.out _ _ (hH) (fun hH => ?_)
  clear hK K
  try simp only [Act.put, List.getElem_toArray, List.getElem_cons_zero, List.getElem_cons_succ, List.setIfInBounds_toArray, List.set_cons_zero, List.set_cons_succ]
  refine wpAnyL_one (i := 14) (by kernel_rfl) rfl (by decide) (fun K hK => ?_)
  go_simp
  refine hK.out _ _ (HS.out _) (fun hH => ?_)
  clear hK K
  try simp only [Act.put, List.getElem_toArray, List.getElem_cons_zero, List.getElem_cons_succ, List.setIfInBounds_toArray, List.set_cons_zero, List.set_cons_succ]
  refine wpAnyL_one (i := 15) (by kernel_rfl) rfl (by decide) (fun K hK => ?_)
  go_simp
  with_reducible refine (K3.out _ _ ?c0 ?c1).mono ?_
  case c0 => go_simp
  case c1 => go_simp
  rintro e u1 ⟨rfl, rfl⟩
  refine hK.out _ _ (hH) (fun hH => ?_)
  clear hK K
  try simp only [Act.put, List.getElem_toArray, List.getElem_cons_zero, List.getElem_cons_succ, List.setIfInBounds_toArray, List.set_cons_zero, List.set_cons_succ]
  refine wpAnyL_last (by kernel_rfl) rfl (fun K hK => ?_)
  go_simp
  refine hK.out _ _ ?_
  clear hK K
  try simp only [Act.put, List.getElem_toArray, List.getElem_cons_zero, List.getElem_cons_succ, List.setIfInBounds_toArray, List.set_cons_zero, List.set_cons_succ]
  refine wpAnyL_done (by kernel_rfl) ?_ _
  refine NoPanic.normal ?_
  go_wp2
  go_ret
  exact ⟨rfl, Hend.out _ _ _⟩
theorem focmp_lt (x y : Od) : ltO x y = decide (orI (cmpI x.client y.client) (cmpI x.seq y.seq) < 0) := by
  unfold ltO orI cmpI
  by_cases h1 : x.client < y.client
  · simp [h1]
  · by_cases h2 : y.client < x.client
    · have hne : x.client ≠ y.client := by omega
      simp [h1, h2, hne]
    · have he : x.client = y.client := by omega
      by_cases h3 : x.seq < y.seq
      · simp [he, h3]
      · by_cases h4 : y.seq < x.seq
        · simp [he, h3, h4]
        · simp [he, h3, h4]
end Go.Proofs.YtdkkblhfjblpkaaGreat

/- A slice that is made: so many equal cells. No program. -/
namespace Go.Proofs.YtdkkblhfjblpkaaGreat
open Go.RowKit
theorem madeCells_one (c : Value) (n : Nat) : (madeCells #[c] n).toList = List.replicate n c := by
  refine List.ext_getElem (by simp [madeCells]) fun i h1 h2 => ?_
  simp [madeCells, Nat.mod_one]
section
variable {α : Type} [Enc α]
theorem flat_rep {z : α} {c : Value} (h : Enc.cells z = [c]) : ∀ n : Nat, (List.replicate n z).flatMap Enc.cells = List.replicate n c
  | 0 => rfl
  | n + 1 => by rw [List.replicate_succ, List.flatMap_cons, h, flat_rep h n]; rfl
/-- make([]T, n), of a type of one cell -/
theorem make_own {P : Program} (w : World) (base : Nat) (t e : TypeId) (z : Value) (bytes : Nat) (ht : P.underlying t = some (.slice e)) (hinf : (P.info? e).map (fun i => (i.zero, i.size, i.bytes)) = some (some z, Enc.size α, bytes)) (hby : bytes ≤ 1000)
    (z0 : α) (c : Value) (hz : z.cells = #[c]) (hc : Enc.cells z0 = [c]) (h1 : Enc.size α = 1) (hok : ∀ W S, Enc.ok W S z0) (n : Nat) (hn : n ≤ 65536) (hbase : base ≤ w.heap.size) :
    (Instr.makeSlice t (.int .i64 (n : Int)) (.int .i64 (n : Int))).run P w = .ok (.slice (some ⟨w.heap.size, 0, none⟩) n n) (w.alloc (.cells (Array.replicate n c) e)) ∧
      Own (w.alloc (.cells (Array.replicate n c) e)) base e (.slice (some ⟨w.heap.size, 0, none⟩) n n) (List.replicate n z0) := by
  obtain ⟨i, hi, hz0, hz1, hz2⟩ := info_parts hinf
  have hr := run_make (P := P) w t e i z ht hi hz0 .i64 .i64 n n (by omega) (Int.le_refl _) (by rw [hz2]; have : (bytes : Int) * (n : Int) ≤ 1000 * 1000000000 := Int.mul_le_mul (by omega) (by omega) (by omega) (by omega); omega) (by omega)
  rw [Int.toNat_natCast, hz1, h1, Nat.mul_one, hz] at hr
  have e1 : madeCells #[c] n = Array.replicate n c := by
    rw [← List.toArray_replicate, ← madeCells_one c n, Array.toArray_toList]
  rw [e1] at hr
  refine ⟨hr, ?_⟩
  have := own_lit (w := w) (base := base) e (Array.replicate n c) (List.replicate n z0) hbase (by rw [flat_rep hc, Array.toList_replicate]) (by rw [List.length_replicate]; exact hn) (fun x hx => by rw [List.eq_of_mem_replicate hx]; exact hok _ _)
  simpa using this
end
end Go.Proofs.YtdkkblhfjblpkaaGreat
