/- lists that are alike: reached by changing places (plain) -/
import Derived.Test.YtogipnfhcimeoaaGreatRows
import Derived.Test.YtogipnfhcimeoaaGreatBc6
import Derived.Test.YtogipnfhcimeoaaGreatBc5
import Derived.WalkKit
import Derived.WalkSpells
import Derived.WalkLawsBesides
import Derived.Deep.QuietTactic
import Derived.BigQuiet
import Derived.Laws.StructEq
import Derived.Deep.DeepFit
import Derived.StillTailTactics
namespace Go.Proofs.YtogipnfhcimeoaaGreat
open Go.RowKit
theorem clashB_core (x y : Od) : clashB x.core y.core = clashB x y := rfl
theorem Mix.K {l m : List Od} (h : Mix l m) : Mix (K l) (K m) := by
  induction h with
  | refl => exact .refl _
  | step _ hn ih =>
    simp only [List.map_append, List.map_cons] at ih ⊢
    exact ih.step (by rw [clashB_core]; exact hn)
/-- a list that comes of a by swaps, and begins as b does -/
structure Bub (a b l : List Od) (i : Nat) : Prop where
  mix : Mix a l
  tk : (K l).take i = (K b).take i
theorem Bub.start (a b : List Od) : Bub a b a 0 := ⟨.refl _, rfl⟩
theorem Bub.len {a b l : List Od} {i : Nat} (h : Bub a b l i) : l.length = a.length := h.mix.perm.length_eq.symm
theorem Bub.val {a b l : List Od} {i : Nat} (h : Bub a b l i) (hv : Val a) : Val l := (h.mix.beg hv).2.1
theorem K_getEq {l : List Od} {k : Nat} : (K l)[k]? = (l[k]?).map Od.core := by rw [List.getElem?_map]
theorem Bub.at_ {a b l : List Od} {i : Nat} (h : Bub a b l i) (hb : Beg (K a) (K b)) (hl : a.length = b.length) (hva : Val a) (hvb : Val b) (hi : i < b.length) :
    ∃ k : Nat, atIdx l b[i].id = k ∧ i ≤ k ∧ k < l.length ∧ (K l)[k]? = (K b)[i]? := by
  have hll : l.length = b.length := h.len.trans hl
  have hsym : Beg (K b) (K a) := hb.symm (by rw [List.length_map, List.length_map]; omega)
  have hm : (b[i]).core ∈ K l := h.mix.K.perm.mem_iff.1 (hsym.2.2.1 _ (List.mem_map.2 ⟨b[i], List.getElem_mem hi, rfl⟩))
  obtain ⟨k, hk, ek⟩ := List.getElem_of_mem hm
  rw [List.length_map] at hk
  rw [List.getElem_map] at ek
  have hid : l[k].id = b[i].id := by
    have : l[k].core.id = b[i].core.id := by rw [ek]
    exact this
  have hvl := h.val hva
  refine ⟨k, ?_, ?_, hk, ?_⟩
  · refine idxP_hit hk (by simpa using hid) fun j hj hjk => ?_
    have := List.pairwise_iff_getElem.1 hvl j k hj hk hjk
    simp only [decide_eq_false_iff_not]
    exact fun e => this (e.trans hid.symm)
  · refine Nat.le_of_not_lt fun hki => ?_
    have h1 : ((K l).take i)[k]? = some l[k].core := by
      rw [List.getElem?_take_of_lt hki, K_getEq, List.getElem?_eq_getElem hk]; rfl
    rw [h.tk, List.getElem?_take_of_lt hki, K_getEq, List.getElem?_eq_getElem (by omega : k < b.length)] at h1
    have h2 : b[k].core.id = l[k].core.id := congrArg Od.id (Option.some.inj h1)
    exact List.pairwise_iff_getElem.1 hvb k i (by omega) hi hki (Eq.trans (show b[k].id = l[k].id from h2) hid)
  · rw [K_getEq, K_getEq, List.getElem?_eq_getElem hk, List.getElem?_eq_getElem hi]
    exact congrArg some ek
theorem swapOk_nat {l : List Od} {k : Nat} (hk : k + 1 < l.length) : swapOk l (k : Int) = !clashB l[k] l[k + 1] := by
  unfold swapOk
  rw [dif_pos ⟨by omega, by simpa using hk⟩]
  rfl
theorem swapR_nat {l : List Od} {k : Nat} (h : swapOk l (k : Int) = true) : swapR l (k : Int) = swapAt l k := by
  unfold swapR
  rw [if_pos h]
  rfl
theorem Bub.swap {a b l : List Od} {i k : Nat} (h : Bub a b l i) (hb : Beg (K a) (K b)) (hl : a.length = b.length) (_hva : Val a) (hi : i < b.length) (hk : i < k + 1) (hkl : k + 1 < l.length) (e : (K l)[k + 1]? = (K b)[i]?) :
    swapOk l (k : Int) = true ∧ Bub a b (swapR l (k : Int)) i ∧ (K (swapR l (k : Int)))[k]? = (K b)[i]? ∧ (swapR l (k : Int)).length = l.length := by
  have hll : l.length = b.length := h.len.trans hl
  have hmb := (h.mix.K).beg hb.1
  have hlb : Beg (K l) (K b) := hmb.2.trans hb
  have hbl : Beg (K b) (K l) := hlb.symm (by rw [List.length_map, List.length_map]; omega)
  have hok : swapOk l (k : Int) = true := by
    rw [swapOk_nat hkl]
    cases hc : clashB l[k] l[k + 1] with
    | false => rfl
    | true =>
      exfalso
      rw [← clashB_core] at hc
      have hbef : Bef (K l) l[k].core l[k + 1].core := bef_get.2 ⟨k, k + 1, by omega, by rw [K_getEq, List.getElem?_eq_getElem (by omega)]; rfl, by rw [K_getEq, List.getElem?_eq_getElem hkl]; rfl⟩
      have hm : l[k + 1].core ∈ K b := hlb.2.2.1 _ (List.mem_map.2 ⟨_, List.getElem_mem hkl, rfl⟩)
      have hbb := hbl.2.2.2 _ _ hm hbef hc
      obtain ⟨n, m, hnm, en, em⟩ := bef_get.1 hbb
      have hmi : m = i := by
        refine get_inj hb.2.1.nodup em ?_
        rw [← e, K_getEq, List.getElem?_eq_getElem hkl]; rfl
      subst hmi
      have hn : ((K b).take m)[n]? = some l[k].core := by rw [List.getElem?_take_of_lt hnm]; exact en
      rw [← h.tk, List.getElem?_take_of_lt hnm] at hn
      have : n = k := get_inj hlb.1.nodup hn (by rw [K_getEq, List.getElem?_eq_getElem (by omega)]; rfl)
      omega
  refine ⟨hok, ⟨h.mix.swap hok, ?_⟩, ?_, ?_⟩
  · rw [swapR_nat hok, ← h.tk]
    refine List.ext_getElem? fun j => ?_
    by_cases hj : j < i
    · rw [List.getElem?_take_of_lt hj, List.getElem?_take_of_lt hj, K_getEq, K_getEq]
      unfold swapAt
      rw [dif_pos hkl, List.getElem?_set_ne (by omega), List.getElem?_set_ne (by omega)]
    · rw [List.getElem?_take_eq_none (by omega), List.getElem?_take_eq_none (by omega)]
  · rw [swapR_nat hok, ← e, K_getEq, K_getEq]
    unfold swapAt
    rw [dif_pos hkl, List.getElem?_set_ne (by omega), List.getElem?_set_self (by omega), List.getElem?_eq_getElem hkl]
  · rw [swapR_nat hok]
    unfold swapAt
    rw [dif_pos hkl, List.length_set, List.length_set]
theorem Bub.next {a b l : List Od} {i : Nat} (h : Bub a b l i) (e : (K l)[i]? = (K b)[i]?) : Bub a b l (i + 1) :=
  ⟨h.mix, by rw [List.take_add_one, List.take_add_one, h.tk, e]⟩
theorem Bub.done {a b l : List Od} (h : Bub a b l b.length) (hl : a.length = b.length) : K l = K b := by
  have := h.tk
  rw [List.take_of_length_le (by rw [List.length_map, h.len, hl]; exact Nat.le_refl _), List.take_of_length_le (by rw [List.length_map]; exact Nat.le_refl _)] at this
  exact this
end Go.Proofs.YtogipnfhcimeoaaGreat
