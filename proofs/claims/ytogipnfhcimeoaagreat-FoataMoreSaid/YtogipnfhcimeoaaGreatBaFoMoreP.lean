/- FoataMore: the plain law -/
import Derived.Test.YtogipnfhcimeoaaGreatRows
import Derived.Test.YtogipnfhcimeoaaGreatBaFoSt
import Derived.WalkKit
import Derived.WalkSpells
import Derived.WalkLawsBesides
import Derived.Deep.QuietTactic
import Derived.BigQuiet
import Derived.Laws.StructEq
import Derived.Deep.DeepFit
import Derived.StillTailTactics
namespace Go.Proofs.YtogipnfhcimeoaaGreat
open Go.RowKit
theorem sort_unique_val {l m : List Od} (hp : l.Perm m) (hv : Val l) (hl : SortedB ltO l) (hm : SortedB ltO m) : l = m :=
  sorted_unique hp hl hm fun a ha b hb h1 h2 => hv.inj ha hb (ltO_tri h1 h2)
/-- one order more: its step, and the others -/
theorem step_more {M : List Od} {o : Od} (hv : Val (M ++ [o])) (i : Nat) :
    (stepP (levP (M ++ [o])) i).filter (fun x => !decide (x.id = o.id)) = stepP (levP M) i ∧ ((o ∈ stepP (levP (M ++ [o])) i) ↔ (i : Int) + 1 = lvAt (levP M) o) := by
  have hM : Val M := hv.sub (List.sublist_append_left _ _)
  have hno : ∀ y ∈ M, y.id ≠ o.id := fun y hy => by
    have := (List.pairwise_append.1 hv).2.2 y hy o (List.mem_singleton.2 rfl)
    exact this
  have hmem : ∀ y, y ∈ stepP (levP M) i → y ∈ M := fun y hy => by
    rw [mem_step] at hy
    have : y ∈ (levP M).map (·.1) := List.mem_map.2 ⟨_, hy, rfl⟩
    rwa [levP_fst] at this
  have hoM : o ∉ M := fun h => hno o h rfl
  refine ⟨?_, ?_⟩
  · refine sort_unique_val ?_ ?_ ?_ (sortB_sorted strictO _)
    · unfold stepP
      have h1 : (sortB ltO (((levP (M ++ [o])).filter fun p => decide (p.2 = (i : Int) + 1)).map (·.1))).Perm (((levP (M ++ [o])).filter fun p => decide (p.2 = (i : Int) + 1)).map (·.1)) := sortB_perm _
      refine (h1.filter _).trans (List.Perm.trans ?_ (sortB_perm _).symm)
      rw [levP_snoc, List.filter_append, List.map_append, List.filter_append]
      have e1 : (((levP M).filter fun p => decide (p.2 = (i : Int) + 1)).map (·.1)).filter (fun x => !decide (x.id = o.id)) = ((levP M).filter fun p => decide (p.2 = (i : Int) + 1)).map (·.1) := by
        rw [List.filter_eq_self]
        intro y hy
        have : y ∈ M := hmem y ((sortB_perm _).mem_iff.2 hy)
        simpa using hno y this
      rw [e1]
      have e2 : ((([(o, lvAt (levP M) o)] : List (Od × Int)).filter fun p => decide (p.2 = (i : Int) + 1)).map (·.1)).filter (fun x => !decide (x.id = o.id)) = [] := by
        rw [List.filter_eq_nil_iff]
        intro y hy
        obtain ⟨p, hp, rfl⟩ := List.mem_map.1 hy
        have := List.mem_singleton.1 (List.mem_filter.1 hp).1
        subst this
        simp
      rw [e2, List.append_nil]
    · exact (show Val (stepP (levP (M ++ [o])) i) from by
        have := step_srt (P := levP (M ++ [o])) (by rw [levP_fst]; exact hv) i
        exact this.imp fun h => ltO_irr_id h).sub List.filter_sublist
    · exact List.Pairwise.sublist List.filter_sublist (sortB_sorted strictO _)
  · rw [mem_step, levP_snoc, List.mem_append]
    constructor
    · rintro (h | h)
      · have : o ∈ (levP M).map (·.1) := List.mem_map.2 ⟨_, h, rfl⟩
        rw [levP_fst] at this
        exact absurd this hoM
      · have := List.mem_singleton.1 h
        injection this
    · intro h
      right
      rw [h]
      exact List.mem_singleton.2 rfl
/-- the first step behind all that clash: as the statement finds it -/
def wantF (o : Od) : List (List Od) → Nat → Nat → Nat
  | [], _, w => w
  | s :: r, i, w => wantF o r (i + 1) (if s.any (fun x => clashB x o) then i + 1 else w)
theorem wantF_spec (o : Od) : ∀ (S : List (List Od)) (i w : Nat), w ≤ i → (∀ k (hk : k < S.length), (S[k].any (fun x => clashB x o)) = true → i + k + 1 ≤ wantF o S i w) ∧ w ≤ wantF o S i w ∧ (wantF o S i w = w ∨ ∃ k, ∃ hk : k < S.length, (S[k].any (fun x => clashB x o)) = true ∧ wantF o S i w = i + k + 1)
  | [], i, w, _ => ⟨fun k hk => absurd hk (by simp), Nat.le_refl _, .inl rfl⟩
  | s :: r, i, w, hw => by
    unfold wantF
    by_cases hs : s.any (fun x => clashB x o) = true
    · rw [if_pos hs]
      obtain ⟨h1, h2, h3⟩ := wantF_spec o r (i + 1) (i + 1) (Nat.le_refl _)
      refine ⟨fun k hk hc => ?_, by omega, ?_⟩
      · cases k with
        | zero => omega
        | succ k =>
          rw [List.getElem_cons_succ] at hc
          have := h1 k (by simpa using hk) hc
          omega
      · rcases h3 with h3 | ⟨k, hk, hc, e⟩
        · exact .inr ⟨0, by simp, hs, h3⟩
        · exact .inr ⟨k + 1, by simpa using hk, by rw [List.getElem_cons_succ]; exact hc, by omega⟩
    · rw [if_neg hs]
      obtain ⟨h1, h2, h3⟩ := wantF_spec o r (i + 1) w (by omega)
      refine ⟨fun k hk hc => ?_, h2, ?_⟩
      · cases k with
        | zero => exact absurd hc (by simpa using hs)
        | succ k =>
          rw [List.getElem_cons_succ] at hc
          have := h1 k (by simpa using hk) hc
          omega
      · rcases h3 with h3 | ⟨k, hk, hc, e⟩
        · exact .inl h3
        · exact .inr ⟨k + 1, by simpa using hk, by rw [List.getElem_cons_succ]; exact hc, by omega⟩
theorem want_lv {M : List Od} {o : Od} : ((wantF o (stepsV M) 0 0 : Nat) : Int) + 1 = lvAt (levP M) o := by
  obtain ⟨h1, _, h3⟩ := wantF_spec o (stepsV M) 0 0 (Nat.le_refl _)
  have up : ∀ p ∈ levP M, clashB p.1 o = true → p.2 ≤ (wantF o (stepsV M) 0 0 : Int) := fun p hp hc => by
    have hs := levP_small hp
    have hm := most_le hp
    have hk : (p.2 - 1).toNat < (stepsV M).length := by rw [stepsV_len]; omega
    have := h1 (p.2 - 1).toNat hk (by
      rw [stepsV_get hk, List.any_eq_true]
      exact ⟨p.1, mem_step.2 (by rw [show (((p.2 - 1).toNat : Nat) : Int) + 1 = p.2 from by omega]; exact hp), hc⟩)
    omega
  rcases h3 with h3 | ⟨k, hk, hc, e⟩
  · rw [h3]
    rcases lvAt_ex (levP M) o with e | ⟨p, hp, hc, e⟩
    · rw [e]; rfl
    · have := up p hp hc
      have h5 := (levP_small hp).1
      rw [h3] at this
      omega
  · rw [stepsV_get hk, List.any_eq_true] at hc
    obtain ⟨x, hx, hc⟩ := hc
    rw [mem_step] at hx
    have h4 := lvAt_lt hx hc
    have h4 : (k : Int) + 1 < lvAt (levP M) o := h4
    rcases lvAt_ex (levP M) o with e2 | ⟨p, hp, hc, e2⟩
    · omega
    · have := up p hp hc
      omega
/-- what the statement finds: the step behind all that clash -/
def wantU (o : Od) (S : List (List Od)) : Nat := wantF o S 0 0
theorem wantF_app (o : Od) : ∀ (S T : List (List Od)) (i w : Nat), wantF o (S ++ T) i w = wantF o T (i + S.length) (wantF o S i w)
  | [], T, i, w => by rw [List.nil_append, List.length_nil, Nat.add_zero]; rfl
  | s :: S, T, i, w => by
    rw [List.cons_append, List.length_cons]
    unfold wantF
    rw [wantF_app o S T, show i + 1 + S.length = i + (S.length + 1) by omega]
    cases T <;> rfl
theorem wantU_next (o : Od) {S : List (List Od)} {k : Nat} (hk : k < S.length) : wantU o (S.take (k + 1)) = if S[k].any (fun x => clashB x o) then k + 1 else wantU o (S.take k) := by
  unfold wantU
  rw [List.take_succ_eq_append_getElem hk, wantF_app, List.length_take, Nat.min_eq_left (Nat.le_of_lt hk), Nat.zero_add]
  rfl
theorem wantU_le (o : Od) (S : List (List Od)) : wantU o S ≤ S.length := by
  obtain ⟨_, _, h⟩ := wantF_spec o S 0 0 (Nat.le_refl _)
  unfold wantU
  rcases h with h | ⟨k, hk, _, e⟩ <;> omega
theorem most_snoc (P : List (Od × Int)) (p : Od × Int) : mostP (P ++ [p]) = max (mostP P) p.2 := by
  unfold mostP
  rw [List.foldl_append]
  show (if _ < p.2 then p.2 else _) = _
  split <;> omega
theorem more_plain {M : List Od} {o : Od} (hv : Val (M ++ [o])) {S1 S2 : List (SV Od)} (h1 : S1.map SV.l = stepsL M) (h2 : S2.map SV.l = stepsL (M ++ [o])) :
    S2.length = max S1.length (wantU o (S1.map SV.l) + 1) ∧ ∀ i (hi : i < S2.length), (∀ h : i < S1.length, (S2[i].l.filter (fun x => !decide (x.id = o.id))) = S1[i].l) ∧ (((S2[i].l.filter (fun x => !decide (x.id = o.id))).length < S2[i].l.length) ↔ i = wantU o (S1.map SV.l)) := by
  have hM : Val M := hv.sub (List.sublist_append_left _ _)
  have e1 : stepsL M = stepsV M := by unfold stepsL; rw [if_pos (validL_iff.2 hM)]
  have e2 : stepsL (M ++ [o]) = stepsV (M ++ [o]) := by unfold stepsL; rw [if_pos (validL_iff.2 hv)]
  rw [e1] at h1
  rw [e2] at h2
  have l1 : S1.length = (stepsV M).length := by rw [← h1, List.length_map]
  have l2 : S2.length = (stepsV (M ++ [o])).length := by rw [← h2, List.length_map]
  have hw : ((wantU o (S1.map SV.l) : Nat) : Int) + 1 = lvAt (levP M) o := by rw [h1]; exact want_lv
  have hg1 : ∀ i (h : i < S1.length), S1[i].l = stepP (levP M) i := fun i h => by
    have e : (S1.map SV.l)[i]? = (stepsV M)[i]? := by rw [h1]
    rw [List.getElem?_eq_getElem (by rw [List.length_map]; exact h), List.getElem?_eq_getElem (by omega), List.getElem_map, stepsV_get] at e
    exact Option.some.inj e
  have hg2 : ∀ i (h : i < S2.length), S2[i].l = stepP (levP (M ++ [o])) i := fun i h => by
    have e : (S2.map SV.l)[i]? = (stepsV (M ++ [o]))[i]? := by rw [h2]
    rw [List.getElem?_eq_getElem (by rw [List.length_map]; exact h), List.getElem?_eq_getElem (by omega), List.getElem_map, stepsV_get] at e
    exact Option.some.inj e
  refine ⟨?_, fun i hi => ?_⟩
  · rw [l1, l2, stepsV_len, stepsV_len, levP_snoc, most_snoc]
    show (max (mostP (levP M)) (lvAt (levP M) o)).toNat = _
    omega
  · obtain ⟨a, b⟩ := step_more hv i
    rw [hg2 i hi]
    refine ⟨fun h => by rw [a, hg1 i h], ?_⟩
    constructor
    · intro hlt
      have : o ∈ stepP (levP (M ++ [o])) i := by
        obtain ⟨x, hx, hxo⟩ := List.length_filter_lt_length_iff_exists.1 hlt
        have hid : x.id = o.id := by simpa using hxo
        have hxm : x ∈ M ++ [o] := by
          rw [mem_step] at hx
          have : x ∈ (levP (M ++ [o])).map (·.1) := List.mem_map.2 ⟨_, hx, rfl⟩
          rwa [levP_fst] at this
        have : x = o := hv.inj hxm (by simp) hid
        rw [this] at hx; exact hx
      have := b.1 this
      omega
    · intro e
      exact List.length_filter_lt_length_iff_exists.2 ⟨o, b.2 (by omega), by simp⟩
theorem more_at {L : List Od} {k : Nat} (hk : L.length = k + 1) (hv : Val L) {S1 S2 : List (SV Od)} (h1 : S1.map SV.l = stepsL (L.take k)) (h2 : S2.map SV.l = stepsL L) :
    S2.length = max S1.length (wantU (L[k]'(by omega)) (S1.map SV.l) + 1) ∧ ∀ i (hi : i < S2.length), (∀ h : i < S1.length, (S2[i].l.filter (fun x => !decide (x.id = (L[k]'(by omega)).id))) = S1[i].l) ∧ (((S2[i].l.filter (fun x => !decide (x.id = (L[k]'(by omega)).id))).length < S2[i].l.length) ↔ i = wantU (L[k]'(by omega)) (S1.map SV.l)) := by
  have hkl : k < L.length := by omega
  have e : L.take k ++ [L[k]] = L := by rw [← List.take_succ_eq_append_getElem hkl, ← hk, List.take_length]
  exact more_plain (M := L.take k) (o := L[k]) (by rw [e]; exact hv) h1 (by rw [e]; exact h2)
/-- the step behind all that clash, of the first steps alone -/
def wantS (o : Od) (S : List (SV Od)) (n : Nat) : Nat := wantU o ((S.take n).map SV.l)
theorem wantS_zero (o : Od) (S : List (SV Od)) : wantS o S 0 = 0 := rfl
theorem wantS_all (o : Od) (S : List (SV Od)) : wantS o S S.length = wantU o (S.map SV.l) := by unfold wantS; rw [List.take_length]
theorem wantS_next (o : Od) {S : List (SV Od)} {k : Nat} (hk : k < S.length) : wantS o S (k + 1) = if S[k].l.any (fun x => clashB x o) then k + 1 else wantS o S k := by
  unfold wantS
  rw [List.map_take, List.map_take, wantU_next o (by rw [List.length_map]; exact hk), List.getElem_map]
theorem wantS_le (o : Od) (S : List (SV Od)) (n : Nat) : wantS o S n ≤ S.length := by
  have := wantU_le o ((S.take n).map SV.l)
  unfold wantS
  rw [List.length_map, List.length_take] at this
  omega
theorem filter_next {l : List Od} {f : Od → Bool} {p : Nat} (hp : p < l.length) : (l.take (p + 1)).filter f = (l.take p).filter f ++ (if f l[p] then [l[p]] else []) := by
  rw [List.take_succ_eq_append_getElem hp, List.filter_append]
  cases h : f l[p] <;> simp [h]
theorem filter_len_le (l : List Od) (f : Od → Bool) (p : Nat) : ((l.take p).filter f).length ≤ l.length :=
  Nat.le_trans (List.length_filter_le _ _) (by rw [List.length_take]; omega)
theorem row_on {w w' : World} {g : Nat} {o : Obj} (h : w.heap[g]? = some o) (hb : Below w.heap.size w w') : w'.heap[g]? = some o := (hb.block g (Array.getElem?_eq_some_iff.1 h).1).trans h
end Go.Proofs.YtogipnfhcimeoaaGreat
