/- levels and steps of a list (plain) -/
import Derived.Test.YtogipnfhcimeoaaGreatRows
import Derived.Test.YtogipnfhcimeoaaGreatBaBubP
import Derived.Test.YtogipnfhcimeoaaGreatBc19
import Derived.WalkKit
import Derived.WalkSpells
import Derived.WalkLawsBesides
import Derived.Deep.QuietTactic
import Derived.BigQuiet
import Derived.Laws.StructEq
import Derived.Deep.DeepFit
import Derived.StillTailTactics
namespace Go.Proofs.YtogipnfhcimeoaaGreat
open Go.RowKit
/-- the level of an order behind others whose levels are known -/
def lvF (o : Od) (v : Int) (p : Od × Int) : Int := if v ≤ p.2 ∧ clashB p.1 o = true then p.2 + 1 else v
def lvAt (P : List (Od × Int)) (o : Od) : Int := P.foldl (lvF o) 1
theorem lvF_spec (o : Od) : ∀ (P : List (Od × Int)) (v : Int), v ≤ P.foldl (lvF o) v ∧ (∀ p ∈ P, clashB p.1 o = true → p.2 < P.foldl (lvF o) v) ∧ (P.foldl (lvF o) v = v ∨ ∃ p ∈ P, clashB p.1 o = true ∧ p.2 + 1 = P.foldl (lvF o) v)
  | [], v => ⟨Int.le_refl _, by simp, .inl rfl⟩
  | p :: r, v => by
    obtain ⟨h1, h2, h3⟩ := lvF_spec o r (lvF o v p)
    have hs : (p :: r).foldl (lvF o) v = r.foldl (lvF o) (lvF o v p) := rfl
    rw [hs]
    have hv : v ≤ lvF o v p ∧ (clashB p.1 o = true → p.2 < lvF o v p) ∧ (lvF o v p = v ∨ (clashB p.1 o = true ∧ p.2 + 1 = lvF o v p)) := by
      unfold lvF
      split
      · rename_i h; exact ⟨by omega, fun _ => by omega, .inr ⟨h.2, rfl⟩⟩
      · rename_i h; exact ⟨Int.le_refl _, fun hc => by
          have : ¬ v ≤ p.2 := fun e => h ⟨e, hc⟩
          omega, .inl rfl⟩
    refine ⟨by omega, fun q hq hc => ?_, ?_⟩
    · rcases List.mem_cons.1 hq with rfl | hq
      · have := hv.2.1 hc; omega
      · exact h2 q hq hc
    · rcases h3 with h3 | ⟨q, hq, hc, e⟩
      · rcases hv.2.2 with e | ⟨hc, e⟩
        · exact .inl (by omega)
        · exact .inr ⟨p, List.mem_cons_self .., hc, by omega⟩
      · exact .inr ⟨q, List.mem_cons_of_mem _ hq, hc, e⟩
theorem lvAt_pos (P : List (Od × Int)) (o : Od) : 1 ≤ lvAt P o := (lvF_spec o P 1).1
theorem lvAt_lt {P : List (Od × Int)} {o : Od} {p : Od × Int} (h : p ∈ P) (hc : clashB p.1 o = true) : p.2 < lvAt P o := (lvF_spec o P 1).2.1 p h hc
theorem lvAt_ex (P : List (Od × Int)) (o : Od) : lvAt P o = 1 ∨ ∃ p ∈ P, clashB p.1 o = true ∧ p.2 + 1 = lvAt P o := (lvF_spec o P 1).2.2
theorem lvAt_sub {P Q : List (Od × Int)} {o : Od} (h : ∀ p ∈ P, clashB p.1 o = true → p ∈ Q) : lvAt P o ≤ lvAt Q o := by
  rcases lvAt_ex P o with e | ⟨p, hp, hc, e⟩
  · rw [e]; exact lvAt_pos _ _
  · have := lvAt_lt (h p hp hc) hc; omega
theorem lvAt_eq {P Q : List (Od × Int)} {o : Od} (h : ∀ p, clashB p.1 o = true → (p ∈ P ↔ p ∈ Q)) : lvAt P o = lvAt Q o :=
  Int.le_antisymm (lvAt_sub fun p hp hc => (h p hc).1 hp) (lvAt_sub fun p hp hc => (h p hc).2 hp)
/-- orders with their levels -/
def levP (l : List Od) : List (Od × Int) := l.foldl (fun P o => P ++ [(o, lvAt P o)]) []
def levG (P : List (Od × Int)) (l : List Od) : List (Od × Int) := l.foldl (fun P o => P ++ [(o, lvAt P o)]) P
theorem levP_app (l m : List Od) : levP (l ++ m) = levG (levP l) m := List.foldl_append ..
theorem levP_snoc (l : List Od) (o : Od) : levP (l ++ [o]) = levP l ++ [(o, lvAt (levP l) o)] := by rw [levP_app]; rfl
theorem levG_cons (P : List (Od × Int)) (o : Od) (r : List Od) : levG P (o :: r) = levG (P ++ [(o, lvAt P o)]) r := rfl
theorem levG_fst : ∀ (l : List Od) (P : List (Od × Int)), (levG P l).map (·.1) = P.map (·.1) ++ l
  | [], P => (List.append_nil _).symm
  | o :: r, P => by rw [levG_cons, levG_fst r, List.map_append]; simp
theorem levP_fst (l : List Od) : (levP l).map (·.1) = l := levG_fst l []
theorem levP_len (l : List Od) : (levP l).length = l.length := by have := congrArg List.length (levP_fst l); simpa using this
theorem levG_pre : ∀ (l : List Od) (P : List (Od × Int)), ∃ Q, levG P l = P ++ Q ∧ Q.length = l.length
  | [], P => ⟨[], (List.append_nil _).symm, rfl⟩
  | o :: r, P => by
    obtain ⟨Q, h, hq⟩ := levG_pre r (P ++ [(o, lvAt P o)])
    exact ⟨(o, lvAt P o) :: Q, by rw [levG_cons, h]; simp, by simp [hq]⟩
theorem levP_take (l : List Od) (k : Nat) (hk : k ≤ l.length) : levP (l.take k) = (levP l).take k := by
  have h := levP_app (l.take k) (l.drop k)
  rw [List.take_append_drop] at h
  obtain ⟨Q, hQ, _⟩ := levG_pre (l.drop k) (levP (l.take k))
  have : (levP (l.take k)).length = k := by rw [levP_len, List.length_take]; omega
  have e : levP l = levP (l.take k) ++ Q := h.trans hQ
  conv => rhs; rw [e]
  exact (List.take_left' this).symm
theorem levP_get {l : List Od} {k : Nat} (hk : k < l.length) : (levP l)[k]'(by rw [levP_len]; exact hk) = (l[k], lvAt (levP (l.take k)) l[k]) := by
  have h : levP (l.take (k + 1)) = levP (l.take k) ++ [(l[k], lvAt (levP (l.take k)) l[k])] := by rw [List.take_succ_eq_append_getElem hk, levP_snoc]
  rw [levP_take l _ hk] at h
  have h2 : ((levP l).take (k + 1))[k]? = some (l[k], lvAt (levP (l.take k)) l[k]) := by
    rw [h, List.getElem?_append_right (by rw [levP_len, List.length_take]; omega)]
    have : k - (levP (l.take k)).length = 0 := by rw [levP_len, List.length_take]; omega
    rw [this]; rfl
  rw [List.getElem?_take_of_lt (by omega), List.getElem?_eq_getElem (by rw [levP_len]; exact hk)] at h2
  exact Option.some.inj h2
/-- what the levels say -/
theorem levP_ahead {l : List Od} {i j : Nat} (hij : i < j) (hj : j < l.length) (hc : clashB l[i] l[j] = true) : ((levP l)[i]'(by rw [levP_len]; omega)).2 < ((levP l)[j]'(by rw [levP_len]; exact hj)).2 := by
  rw [levP_get hj]
  have hi : i < (levP (l.take j)).length := by rw [levP_len, List.length_take]; omega
  have hm := List.getElem_mem hi
  have e : (levP (l.take j))[i]'hi = (levP l)[i]'(by rw [levP_len]; omega) := by
    have := levP_take l j (by omega)
    simp only [this, List.getElem_take]
  rw [e] at hm
  refine lvAt_lt hm ?_
  rw [levP_get (by omega)]
  exact hc
theorem levP_pos {l : List Od} {p : Od × Int} (h : p ∈ levP l) : 1 ≤ p.2 := by
  obtain ⟨k, hk, rfl⟩ := List.getElem_of_mem h
  rw [levP_len] at hk
  rw [levP_get hk]
  exact lvAt_pos _ _
theorem levP_step {l : List Od} {p : Od × Int} (h : p ∈ levP l) (h1 : 1 < p.2) : ∃ q ∈ levP l, clashB q.1 p.1 = true ∧ q.2 + 1 = p.2 := by
  obtain ⟨k, hk, rfl⟩ := List.getElem_of_mem h
  rw [levP_len] at hk
  rw [levP_get hk] at h1 ⊢
  rcases lvAt_ex (levP (l.take k)) l[k] with e | ⟨q, hq, hc, e⟩
  · dsimp only at h1; omega
  · rw [levP_take l k (by omega)] at hq
    exact ⟨q, List.mem_of_mem_take hq, hc, e⟩
/-- orders with one level do not clash -/
theorem levP_same {l : List Od} (hv : Val l) {p q : Od × Int} (hp : p ∈ levP l) (hq : q ∈ levP l) (e : p.2 = q.2) (hne : p.1 ≠ q.1) : clashB p.1 q.1 = false := by
  obtain ⟨i, hi, rfl⟩ := List.getElem_of_mem hp
  obtain ⟨j, hj, rfl⟩ := List.getElem_of_mem hq
  rw [levP_len] at hi hj
  have e1 : ((levP l)[i]'(by rw [levP_len]; exact hi)).1 = l[i] := by rw [levP_get hi]
  have e2 : ((levP l)[j]'(by rw [levP_len]; exact hj)).1 = l[j] := by rw [levP_get hj]
  rw [e1, e2] at hne ⊢
  cases hc : clashB l[i] l[j] with
  | false => rfl
  | true =>
    rcases Nat.lt_trichotomy i j with h | rfl | h
    · have := levP_ahead h hj hc; omega
    · exact absurd rfl hne
    · have := levP_ahead h hi (by rw [clashB_comm]; exact hc); omega
/-- lists that swaps make of one another have the same levels -/
theorem levG_perm : ∀ {l : List Od} {P Q : List (Od × Int)}, P.Perm Q → (levG P l).Perm (levG Q l)
  | [], _, _, h => h
  | o :: r, P, Q, h => by
    rw [levG_cons, levG_cons, lvAt_eq (P := P) (Q := Q) fun p _ => h.mem_iff]
    exact levG_perm (h.append (List.Perm.refl _))
theorem levP_mix {l m : List Od} (h : Mix l m) : (levP l).Perm (levP m) := by
  induction h with
  | refl => exact .refl _
  | @step u v x y _ hn ih =>
    refine ih.trans ?_
    rw [levP_app, levP_app, levG_cons, levG_cons, levG_cons, levG_cons]
    have ex : lvAt (levP u ++ [(x, lvAt (levP u) x)]) y = lvAt (levP u) y := lvAt_eq fun p hc => by
      rw [List.mem_append, List.mem_singleton]
      constructor
      · rintro (h | rfl)
        · exact h
        · rw [show clashB (x, lvAt (levP u) x).1 y = clashB x y from rfl, hn] at hc; cases hc
      · exact .inl
    have ey : lvAt (levP u ++ [(y, lvAt (levP u) y)]) x = lvAt (levP u) x := lvAt_eq fun p hc => by
      rw [List.mem_append, List.mem_singleton]
      constructor
      · rintro (h | rfl)
        · exact h
        · rw [show clashB (y, lvAt (levP u) y).1 x = clashB y x from rfl, clashB_comm, hn] at hc; cases hc
      · exact .inl
    rw [ex, ey]
    refine levG_perm ?_
    rw [List.append_assoc, List.append_assoc]
    exact (List.Perm.refl _).append (List.Perm.swap _ _ _)
/-- the greatest level -/
def mostP (P : List (Od × Int)) : Int := P.foldl (fun m p => if m < p.2 then p.2 else m) 0
theorem most_spec : ∀ (P : List (Od × Int)) (m : Int), m ≤ P.foldl (fun m p => if m < p.2 then p.2 else m) m ∧ (∀ p ∈ P, p.2 ≤ P.foldl (fun m p => if m < p.2 then p.2 else m) m) ∧ (P.foldl (fun m p => if m < p.2 then p.2 else m) m = m ∨ ∃ p ∈ P, p.2 = P.foldl (fun m p => if m < p.2 then p.2 else m) m)
  | [], m => ⟨Int.le_refl _, by simp, .inl rfl⟩
  | p :: r, m => by
    obtain ⟨h1, h2, h3⟩ := most_spec r (if m < p.2 then p.2 else m)
    rw [List.foldl_cons]
    generalize hG : r.foldl (fun m p => if m < p.2 then p.2 else m) (if m < p.2 then p.2 else m) = G at *
    refine ⟨?_, fun q hq => ?_, ?_⟩
    · split at h1 <;> omega
    · rcases List.mem_cons.1 hq with rfl | hq
      · split at h1 <;> omega
      · exact h2 q hq
    · rcases h3 with h3 | ⟨q, hq, e⟩
      · split at h3
        · exact .inr ⟨p, List.mem_cons_self .., h3.symm⟩
        · exact .inl h3
      · exact .inr ⟨q, List.mem_cons_of_mem _ hq, e⟩
theorem mostP_perm {P Q : List (Od × Int)} (h : P.Perm Q) (hP : ∀ p ∈ P, 1 ≤ p.2) : mostP P = mostP Q := by
  obtain ⟨a1, a2, a3⟩ := most_spec P 0
  obtain ⟨b1, b2, b3⟩ := most_spec Q 0
  change 0 ≤ mostP P at a1
  change 0 ≤ mostP Q at b1
  change ∀ p ∈ P, p.2 ≤ mostP P at a2
  change ∀ p ∈ Q, p.2 ≤ mostP Q at b2
  change mostP P = 0 ∨ ∃ p ∈ P, p.2 = mostP P at a3
  change mostP Q = 0 ∨ ∃ p ∈ Q, p.2 = mostP Q at b3
  rcases a3 with a3 | ⟨p, hp, e⟩
  · rcases b3 with b3 | ⟨q, hq, e'⟩
    · omega
    · have := a2 q (h.mem_iff.2 hq); omega
  · have := b2 p (h.mem_iff.1 hp)
    rcases b3 with b3 | ⟨q, hq, e'⟩
    · have := hP p hp; omega
    · have := a2 q (h.mem_iff.2 hq); omega
/-- by Ids -/
def ltO (a b : Od) : Bool := decide (a.client < b.client) || (decide (a.client = b.client) && decide (a.seq < b.seq))
theorem strictO : Strict ltO := by
  refine ⟨fun a => by unfold ltO; simp, fun a b c h1 h2 => ?_, fun a b c h1 h2 => ?_⟩
  · unfold ltO at *
    simp only [Bool.or_eq_true, Bool.and_eq_true, decide_eq_true_eq] at *
    omega
  · unfold ltO at *
    simp only [Bool.or_eq_false_iff, Bool.and_eq_false_iff, decide_eq_false_iff_not] at *
    omega
theorem ltO_tri {a b : Od} (h1 : ltO a b = false) (h2 : ltO b a = false) : a.id = b.id := by
  unfold ltO at *
  simp only [Bool.or_eq_false_iff, Bool.and_eq_false_iff, decide_eq_false_iff_not] at *
  show Id.mk a.client a.seq = ⟨b.client, b.seq⟩
  rw [Id.mk.injEq]
  omega
/-- one step -/
def stepP (P : List (Od × Int)) (s : Nat) : List Od := sortB ltO ((P.filter fun p => decide (p.2 = (s : Int) + 1)).map (·.1))
/-- foata.Steps of a list that may be -/
def stepsV (l : List Od) : List (List Od) := (List.range (mostP (levP l)).toNat).map (stepP (levP l))
theorem val_filter {P : List (Od × Int)} (h : Val (P.map (·.1))) (f : Od × Int → Bool) : Val ((P.filter f).map (·.1)) := h.sub (List.Sublist.map _ List.filter_sublist)
theorem stepP_perm {P Q : List (Od × Int)} (h : P.Perm Q) (hv : Val (P.map (·.1))) (s : Nat) : stepP P s = stepP Q s := by
  unfold stepP
  have hp : ((P.filter fun p => decide (p.2 = (s : Int) + 1)).map (·.1)).Perm ((Q.filter fun p => decide (p.2 = (s : Int) + 1)).map (·.1)) := (h.filter _).map _
  refine sorted_unique (((sortB_perm _).trans hp).trans (sortB_perm _).symm) (sortB_sorted strictO _) (sortB_sorted strictO _) fun a ha b hb h1 h2 => ?_
  have ha := (sortB_perm _).mem_iff.1 ha
  have hb := (sortB_perm _).mem_iff.1 hb
  exact (val_filter hv _).inj ha hb (ltO_tri h1 h2)
theorem stepsV_mix {l m : List Od} (h : Mix l m) (hv : Val l) : stepsV l = stepsV m := by
  have hp := levP_mix h
  unfold stepsV
  rw [mostP_perm hp fun p hp => levP_pos hp]
  refine List.map_congr_left fun s _ => stepP_perm hp (by rw [levP_fst]; exact hv) s
theorem ltO_irr_id {a b : Od} (h : ltO a b = true) : a.id ≠ b.id := fun e => by
  have e : Id.mk a.client a.seq = ⟨b.client, b.seq⟩ := e
  rw [Id.mk.injEq] at e
  unfold ltO at h
  simp only [Bool.or_eq_true, Bool.and_eq_true, decide_eq_true_eq] at h
  omega
theorem mem_step {P : List (Od × Int)} {o : Od} {s : Nat} : o ∈ stepP P s ↔ (o, (s : Int) + 1) ∈ P := by
  unfold stepP
  rw [(sortB_perm _).mem_iff, List.mem_map]
  constructor
  · rintro ⟨p, hp, rfl⟩
    obtain ⟨h1, h2⟩ := List.mem_filter.1 hp
    have h2 : p.2 = (s : Int) + 1 := by simpa using h2
    rw [← h2]; exact h1
  · intro h
    exact ⟨_, List.mem_filter.2 ⟨h, by simp⟩, rfl⟩
theorem step_srt {P : List (Od × Int)} (hv : Val (P.map (·.1))) (s : Nat) : SrtL ltO (stepP P s) := by
  have h1 := sortB_sorted strictO ((P.filter fun p => decide (p.2 = (s : Int) + 1)).map (·.1))
  have h2 : Val (stepP P s) := by
    unfold stepP Val
    refine (sortB_perm _).symm.pairwise (val_filter hv _) fun {x y} h e => h e.symm
  unfold SortedB at h1
  unfold Val at h2
  refine (List.Pairwise.and h1 h2).imp fun {a b} h => ?_
  cases hab : ltO a b with
  | true => rfl
  | false => exact absurd (ltO_tri hab h.1) h.2
theorem flat_one {α : Type} {x : α} {k : Nat} (f : Nat → List α) : ∀ n, k < n → ((List.range n).flatMap fun s => if s = k then x :: f s else f s).Perm (x :: (List.range n).flatMap f)
  | 0, h => absurd h (by omega)
  | n + 1, h => by
    rw [List.range_succ, List.flatMap_append, List.flatMap_append]
    simp only [List.flatMap_cons, List.flatMap_nil, List.append_nil]
    by_cases hk : k = n
    · subst hk
      rw [if_pos rfl]
      have e : ((List.range k).flatMap fun s => if s = k then x :: f s else f s) = (List.range k).flatMap f := by
        rw [List.flatMap_def, List.flatMap_def]
        congr 1
        refine List.map_congr_left fun s hs => ?_
        have := List.mem_range.1 hs
        rw [if_neg (by omega)]
      rw [e]
      exact List.perm_middle
    · rw [if_neg (fun e => hk e.symm)]
      exact (flat_one f n (by omega)).append (List.Perm.refl _)
theorem flat_all : ∀ {P : List (Od × Int)} {n : Nat}, (∀ p ∈ P, 1 ≤ p.2 ∧ p.2 ≤ n) → ((List.range n).flatMap fun s : Nat => (P.filter fun p => decide (p.2 = (s : Int) + 1)).map (·.1)).Perm (P.map (·.1))
  | [], n, _ => by
    have : ∀ l : List Nat, (l.flatMap fun _ => ([] : List Od)) = [] := fun l => by induction l <;> simp_all
    show (List.flatMap (fun _ => ([] : List Od)) (List.range n)).Perm []
    rw [this]
  | p :: r, n, h => by
    have hp := h p (List.mem_cons_self ..)
    have ih := flat_all (P := r) (n := n) fun q hq => h q (List.mem_cons_of_mem _ hq)
    have e : ((List.range n).flatMap fun s : Nat => ((p :: r).filter fun p => decide (p.2 = (s : Int) + 1)).map (·.1)) = (List.range n).flatMap fun s : Nat => if s = (p.2 - 1).toNat then p.1 :: (r.filter fun p => decide (p.2 = (s : Int) + 1)).map (·.1) else (r.filter fun p => decide (p.2 = (s : Int) + 1)).map (·.1) := by
      rw [List.flatMap_def, List.flatMap_def]
      congr 1
      refine List.map_congr_left fun s _ => ?_
      by_cases hs : s = (p.2 - 1).toNat
      · rw [if_pos hs, List.filter_cons_of_pos (by simp; omega), List.map_cons]
      · rw [if_neg hs, List.filter_cons_of_neg (by simp; omega)]
    rw [e, List.map_cons]
    exact (flat_one _ n (by omega)).trans (ih.cons _)
theorem flatMap_permL {α β : Type} {f g : α → List β} (h : ∀ a, (f a).Perm (g a)) : ∀ {l : List α}, (l.flatMap f).Perm (l.flatMap g)
  | [] => .refl _
  | a :: r => by
    rw [List.flatMap_cons, List.flatMap_cons]
    exact (h a).append (flatMap_permL h)
/-- foata.Lay -/
def layL (S : List (List Od)) : List Od := S.flatten
theorem most_pos (P : List (Od × Int)) : 0 ≤ mostP P := (most_spec P 0).1
theorem most_le {P : List (Od × Int)} {p : Od × Int} (h : p ∈ P) : p.2 ≤ mostP P := (most_spec P 0).2.1 p h
theorem most_ex (P : List (Od × Int)) : mostP P = 0 ∨ ∃ p ∈ P, p.2 = mostP P := (most_spec P 0).2.2
theorem lay_perm (l : List Od) : (layL (stepsV l)).Perm l := by
  unfold layL stepsV
  rw [← List.flatMap_def]
  have h : ((List.range (mostP (levP l)).toNat).flatMap (stepP (levP l))).Perm ((List.range (mostP (levP l)).toNat).flatMap fun s : Nat => ((levP l).filter fun p => decide (p.2 = (s : Int) + 1)).map (·.1)) := flatMap_permL fun s => sortB_perm _
  refine h.trans ((flat_all fun p hp => ⟨levP_pos hp, ?_⟩).trans (.of_eq (levP_fst l)))
  have := most_le hp
  omega
theorem bef_flat {α : Type} {x y : α} : ∀ {S : List (List α)} {a b : Nat}, a < b → (hb : b < S.length) → (ha : a < S.length) → x ∈ S[a] → y ∈ S[b] → Bef S.flatten x y
  | [], _, _, _, hb, _, _, _ => absurd hb (by simp)
  | A :: R, 0, b + 1, _, hb, _, hx, hy => by
    rw [List.flatten_cons]
    refine bef_append.2 (.inr (.inl ⟨hx, ?_⟩))
    rw [List.getElem_cons_succ] at hy
    exact List.mem_flatten.2 ⟨_, List.getElem_mem _, hy⟩
  | A :: R, a + 1, b + 1, h, hb, ha, hx, hy => by
    rw [List.flatten_cons]
    rw [List.getElem_cons_succ] at hx hy
    exact bef_append.2 (.inr (.inr (bef_flat (by omega) _ (by simpa using ha) hx hy)))
theorem stepsV_get {l : List Od} {s : Nat} (h : s < (stepsV l).length) : (stepsV l)[s] = stepP (levP l) s := by
  have e : ∀ (S : List (List Od)) (_ : S = (List.range (mostP (levP l)).toNat).map (stepP (levP l))) (h : s < S.length), S[s] = stepP (levP l) s := fun S e h => by
    subst e
    rw [List.getElem_map, List.getElem_range]
  exact e _ rfl h
theorem stepsV_len (l : List Od) : (stepsV l).length = (mostP (levP l)).toNat := by unfold stepsV; rw [List.length_map, List.length_range]
/-- laid step by step, a list is alike -/
theorem lay_beg {l : List Od} (hv : Val l) : Beg l (layL (stepsV l)) := by
  have hp := lay_perm l
  have hvl : Val (layL (stepsV l)) := hp.symm.pairwise hv fun {x y} h e => h e.symm
  refine ⟨hv, hvl, fun o ho => hp.mem_iff.2 ho, fun p o ho hb hc => ?_⟩
  have hpm := hp.mem_iff.1 hb.left
  have hne : p ≠ o := fun e => by subst e; exact bef_irrefl hvl.nodup hb
  rcases bef_total hpm ho hne with h | h
  · exact h
  · exfalso
    obtain ⟨i, j, hij, e1, e2⟩ := bef_get.1 h
    obtain ⟨hi, rfl⟩ := List.getElem?_eq_some_iff.1 e1
    obtain ⟨hj, rfl⟩ := List.getElem?_eq_some_iff.1 e2
    have hlt := levP_ahead hij hj (by rw [clashB_comm]; exact hc)
    have mi : (l[i], ((levP l)[i]'(by rw [levP_len]; exact hi)).2) ∈ levP l := by
      have h := List.getElem_mem (l := levP l) (n := i) (by rw [levP_len]; exact hi)
      have e : ((levP l)[i]'(by rw [levP_len]; exact hi)).1 = l[i] := by rw [levP_get hi]
      rw [← e]; exact h
    have mj : (l[j], ((levP l)[j]'(by rw [levP_len]; exact hj)).2) ∈ levP l := by
      have h := List.getElem_mem (l := levP l) (n := j) (by rw [levP_len]; exact hj)
      have e : ((levP l)[j]'(by rw [levP_len]; exact hj)).1 = l[j] := by rw [levP_get hj]
      rw [← e]; exact h
    generalize ((levP l)[i]'(by rw [levP_len]; exact hi)).2 = a at *
    generalize ((levP l)[j]'(by rw [levP_len]; exact hj)).2 = b at *
    have a1 : 1 ≤ a := levP_pos mi
    have b1 : 1 ≤ b := levP_pos mj
    have am : a ≤ mostP (levP l) := most_le mi
    have bm : b ≤ mostP (levP l) := most_le mj
    have ha : (a - 1).toNat < (stepsV l).length := by rw [stepsV_len]; omega
    have hb' : (b - 1).toNat < (stepsV l).length := by rw [stepsV_len]; omega
    have := bef_flat (x := l[i]) (y := l[j]) (S := stepsV l) (a := (a - 1).toNat) (b := (b - 1).toNat) (by omega) hb' ha (by
      rw [stepsV_get ha, mem_step, show (((a - 1).toNat : Nat) : Int) + 1 = a from by omega]; exact mi) (by
      rw [stepsV_get hb', mem_step, show (((b - 1).toNat : Nat) : Int) + 1 = b from by omega]; exact mj)
    exact bef_asymm hvl.nodup hb this
/-- lists that are alike come of one another by swaps -/
theorem Bub.down {a b l : List Od} {i : Nat} (hb : Beg (K a) (K b)) (hl : a.length = b.length) (hva : Val a) (hi : i < b.length) : ∀ {k : Nat} {l : List Od}, Bub a b l i → i ≤ k → k < l.length → (K l)[k]? = (K b)[i]? → ∃ l', Bub a b l' (i + 1)
  | k, l, h, hik, hk, e => by
    by_cases hki : k = i
    · subst hki; exact ⟨l, h.next e⟩
    · obtain ⟨k, rfl⟩ : ∃ k', k = k' + 1 := ⟨k - 1, by omega⟩
      obtain ⟨_, h2, h3, h4⟩ := h.swap hb hl hva hi (by omega) hk e
      exact Bub.down (l := l) hb hl hva hi h2 (by omega) (by omega) h3
theorem alike_mix {a b : List Od} (hb : Beg (K a) (K b)) (hl : a.length = b.length) (hva : Val a) (hvb : Val b) : ∃ m, Mix a m ∧ K m = K b := by
  have key : ∀ i, i ≤ b.length → ∃ l, Bub a b l i := by
    intro i
    induction i with
    | zero => intro _; exact ⟨a, Bub.start a b⟩
    | succ i ih =>
      intro hi
      obtain ⟨l, h⟩ := ih (by omega)
      obtain ⟨k, _, h2, h3, h4⟩ := h.at_ hb hl hva hvb (by omega)
      exact Bub.down (l := l) hb hl hva (by omega) h h2 h3 h4
  obtain ⟨l, h⟩ := key b.length (Nat.le_refl _)
  exact ⟨l, h.mix, h.done hl⟩
/-- what is behind so many steps -/
def restS (l : List Od) (s : Nat) : List Od := ((levP l).filter fun p => decide ((s : Int) < p.2)).map (·.1)
theorem restS_snoc (l : List Od) (o : Od) (s : Nat) : restS (l ++ [o]) s = if (s : Int) < lvAt (levP l) o then restS l s ++ [o] else restS l s := by
  unfold restS
  rw [levP_snoc, List.filter_append, List.map_append]
  split
  · rename_i h; rw [List.filter_cons_of_pos (by simpa using h)]; rfl
  · rename_i h; rw [List.filter_cons_of_neg (by simpa using h)]; simp
theorem levP_rest (s : Nat) (l : List Od) : levP (restS l s) = ((levP l).filter fun p => decide ((s : Int) < p.2)).map fun p => (p.1, p.2 - (s : Int)) := by
  have key : ∀ k, k ≤ l.length → levP (restS (l.take k) s) = ((levP (l.take k)).filter fun p => decide ((s : Int) < p.2)).map fun p => (p.1, p.2 - (s : Int)) := by
    intro k
    induction k with
    | zero => intro _; rfl
    | succ k ih =>
      intro hk
      have ih := ih (by omega)
      rw [List.take_succ_eq_append_getElem hk, restS_snoc, levP_snoc, List.filter_append, List.map_append]
      generalize l[k] = o at *
      generalize l.take k = m at *
      by_cases h : (s : Int) < lvAt (levP m) o
      · rw [if_pos h, List.filter_cons_of_pos (by simpa using h), levP_snoc, ih]
        congr 1
        show [(o, _)] = [(o, lvAt (levP m) o - s)]
        congr 2
        generalize hQ : ((levP m).filter fun p => decide ((s : Int) < p.2)).map (fun p => (p.1, p.2 - (s : Int))) = Q
        have hm : ∀ q, q ∈ Q ↔ (q.1, q.2 + s) ∈ levP m ∧ 0 < q.2 := by
          intro q
          rw [← hQ, List.mem_map]
          constructor
          · rintro ⟨p, hp, rfl⟩
            obtain ⟨h1, h2⟩ := List.mem_filter.1 hp
            have h2 : (s : Int) < p.2 := by simpa using h2
            refine ⟨?_, by show 0 < p.2 - s; omega⟩
            show (p.1, p.2 - s + s) ∈ _
            rw [show p.2 - s + s = p.2 from by omega]
            exact h1
          · rintro ⟨h1, h2⟩
            exact ⟨_, List.mem_filter.2 ⟨h1, by simp; omega⟩, by show (q.1, q.2 + s - s) = q; rw [show q.2 + (s : Int) - s = q.2 from by omega]⟩
        have u : lvAt Q o ≤ lvAt (levP m) o - s := by
          rcases lvAt_ex Q o with e | ⟨q, hq, hc, e⟩
          · omega
          · have := lvAt_lt ((hm q).1 hq).1 hc
            have h3 : q.2 + s < lvAt (levP m) o := this
            omega
        have v : lvAt (levP m) o - s ≤ lvAt Q o := by
          rcases lvAt_ex (levP m) o with e | ⟨p, hp, hc, e⟩
          · have := lvAt_pos Q o; omega
          · by_cases hs : (s : Int) < p.2
            · have hq : (p.1, p.2 - (s : Int)) ∈ Q := (hm _).2 ⟨by show (p.1, p.2 - (s : Int) + s) ∈ _; rw [show p.2 - (s : Int) + s = p.2 from by omega]; exact hp, by show 0 < p.2 - (s : Int); omega⟩
              have := lvAt_lt hq hc
              have h3 : p.2 - s < lvAt Q o := this
              omega
            · have := lvAt_pos Q o; omega
        omega
      · rw [if_neg h, List.filter_cons_of_neg (by simpa using h), ih]
        simp
  have := key l.length (Nat.le_refl _)
  rwa [List.take_length] at this
theorem step_rest (l : List Od) (s : Nat) : stepP (levP (restS l s)) 0 = stepP (levP l) s := by
  unfold stepP
  rw [levP_rest]
  congr 1
  rw [List.filter_map, List.map_map, List.filter_filter]
  have e : (levP l).filter (fun p => ((fun p : Od × Int => decide (p.2 = ((0 : Nat) : Int) + 1)) ∘ fun p => (p.1, p.2 - (s : Int))) p && decide ((s : Int) < p.2)) = (levP l).filter fun p => decide (p.2 = (s : Int) + 1) := by
    refine List.filter_congr fun p _ => ?_
    rw [Bool.eq_iff_iff]
    simp only [Function.comp_def, Bool.and_eq_true, decide_eq_true_eq]
    omega
  rw [e]
  rfl
theorem rest_rest (l : List Od) (s t : Nat) : restS (restS l s) t = restS l (s + t) := by
  show ((levP (restS l s)).filter _).map _ = _
  rw [levP_rest]
  unfold restS
  rw [List.filter_map, List.map_map, List.filter_filter]
  have e : (levP l).filter (fun p => ((fun p : Od × Int => decide ((t : Int) < p.2)) ∘ fun p => (p.1, p.2 - (s : Int))) p && decide ((s : Int) < p.2)) = (levP l).filter fun p => decide (((s + t : Nat) : Int) < p.2) := by
    refine List.filter_congr fun p _ => ?_
    rw [Bool.eq_iff_iff]
    simp only [Function.comp_def, Bool.and_eq_true, decide_eq_true_eq]
    omega
  rw [e]
  rfl
theorem rest_zero (l : List Od) : restS l 0 = l := by
  unfold restS
  rw [List.filter_eq_self.2, levP_fst]
  intro p hp
  have := levP_pos hp
  simp; omega
theorem restS_len (l : List Od) (s : Nat) : (restS l s).length = 0 ↔ (stepsV l).length ≤ s := by
  rw [stepsV_len]
  unfold restS
  rw [List.length_map, List.length_eq_zero_iff, List.filter_eq_nil_iff]
  constructor
  · intro h
    rcases most_ex (levP l) with e | ⟨p, hp, e⟩
    · omega
    · have := h p hp
      simp at this; omega
  · intro h p hp
    have := most_le hp
    simp; omega
/-- free: nothing ahead clashes -/
theorem free_iff (l : List Od) (o : Od) : lvAt (levP l) o = 1 ↔ ∀ x ∈ l, clashB x o = false := by
  constructor
  · intro h x hx
    rw [← levP_fst l] at hx
    obtain ⟨p, hp, rfl⟩ := List.mem_map.1 hx
    cases hc : clashB p.1 o with
    | false => rfl
    | true =>
      have := lvAt_lt hp hc
      have := levP_pos hp
      omega
  · intro h
    rcases lvAt_ex (levP l) o with e | ⟨p, hp, hc, _⟩
    · exact e
    · have := h p.1 (by rw [← levP_fst l]; exact List.mem_map.2 ⟨p, hp, rfl⟩)
      rw [this] at hc; cases hc
/-- the orders of the first step, as they come -/
def freeS (l : List Od) : List Od := ((levP l).filter fun p => decide (p.2 = ((0 : Nat) : Int) + 1)).map (·.1)
theorem freeS_snoc (l : List Od) (o : Od) : freeS (l ++ [o]) = if ∀ x ∈ l, clashB x o = false then freeS l ++ [o] else freeS l := by
  unfold freeS
  rw [levP_snoc, List.filter_append, List.map_append]
  split
  · rename_i h
    rw [← free_iff] at h
    rw [List.filter_cons_of_pos (by simpa using h)]; rfl
  · rename_i h
    rw [← free_iff] at h
    rw [List.filter_cons_of_neg (by simpa using h)]; simp
theorem rest1_snoc (l : List Od) (o : Od) : restS (l ++ [o]) 1 = if ∀ x ∈ l, clashB x o = false then restS l 1 else restS l 1 ++ [o] := by
  rw [restS_snoc]
  have h1 := lvAt_pos (levP l) o
  by_cases h : ∀ x ∈ l, clashB x o = false
  · rw [if_pos h, if_neg (by rw [(free_iff l o).2 h]; decide)]
  · rw [if_neg h, if_pos (by have : lvAt (levP l) o ≠ 1 := fun e => h ((free_iff l o).1 e); omega)]
theorem levP_le {l : List Od} : ∀ {k : Nat} (hk : k < l.length), ((levP l)[k]'(by rw [levP_len]; exact hk)).2 ≤ (k : Int) + 1 := by
  intro k
  induction k using Nat.strongRecOn with
  | ind k ih =>
    intro hk
    rw [levP_get hk]
    show lvAt (levP (l.take k)) l[k] ≤ _
    rcases lvAt_ex (levP (l.take k)) l[k] with e | ⟨p, hp, _, e⟩
    · omega
    · rw [levP_take l k (by omega)] at hp
      obtain ⟨j, hj, rfl⟩ := List.getElem_of_mem hp
      rw [List.length_take, levP_len] at hj
      rw [List.getElem_take] at e
      have := ih j (by omega) (by omega)
      omega
theorem levP_small {l : List Od} {p : Od × Int} (h : p ∈ levP l) : 1 ≤ p.2 ∧ p.2 ≤ l.length := by
  refine ⟨levP_pos h, ?_⟩
  obtain ⟨k, hk, rfl⟩ := List.getElem_of_mem h
  rw [levP_len] at hk
  have := levP_le hk
  omega
theorem most_small (l : List Od) : 0 ≤ mostP (levP l) ∧ mostP (levP l) ≤ l.length := by
  refine ⟨most_pos _, ?_⟩
  rcases most_ex (levP l) with e | ⟨p, hp, e⟩
  · omega
  · have := (levP_small hp).2; omega
theorem mostP_snoc (P : List (Od × Int)) (p : Od × Int) : mostP (P ++ [p]) = if mostP P < p.2 then p.2 else mostP P := by
  unfold mostP
  rw [List.foldl_append]
  rfl
end Go.Proofs.YtogipnfhcimeoaaGreat
