/- Texts of this claim, laid together. -/
import Derived.Test.YtampniiehgimhaaGreatRows
import Derived.Test.YtampniiehgimhaaGreatBs11
import Derived.Test.YtampniiehgimhaaGreatBs2
import Derived.Test.YtampniiehgimhaaGreatBs3
import Derived.Test.YtampniiehgimhaaGreatBs23
import Derived.WalkKit
import Derived.WalkSpells
import Derived.WalkLawsBesides
import Derived.Deep.QuietTactic
import Derived.BigQuiet
import Derived.Laws.StructEq
import Derived.Deep.DeepFit
import Derived.StillTailTactics
import Derived.Test.YtampniiehgimhaaGreatBs9
import Derived.Test.YtampniiehgimhaaGreatBs24

/- rows and maps under a frame of many blocks -/
namespace Go.Proofs.YtampniiehgimhaaGreat
open Go.RowKit
theorem Own.sl_at {α : Type} [Enc α] {w : World} {base : Nat} {e : TypeId} {v : Value} {l : List α} {S : Nat → Prop} (h : Own w base e v l) (hb : ∀ b, v.ownBlock = some b → S b) (hx : ∀ x ∈ l, Enc.ok w S x) : ∃ A c, v = .slice A l.length c ∧ SlS w S A c l := by
 obtain ⟨⟨h1, h2⟩, h3⟩ := h
 rcases h2 with ⟨rfl, h0⟩ | ⟨g, cap, cur, rfl, hg, hh, hn, hm, hz, ht⟩
 ·have : l = [] := List.length_eq_zero_iff.1 h0
  subst this
  exact ⟨none, 0, rfl, SlS.nil_ _ _⟩
 ·refine ⟨_, _, rfl, hn, hm, fun _ => ⟨g, 0, rfl, hb g rfl, fun j u hu => ?_⟩, hx⟩
  rw [cell_of_row w g (0 + j) cur e (0, 0) hh, Nat.zero_add]
  rw [← ht, List.getElem?_take] at hu
  split at hu
  ·rw [← hu]; simp
  ·cases hu
theorem MapIs.gr {κ : Type} [DecidableEq κ] {enc : κ → Value} {w w' : World} {b : Nat} {M : List (κ × Value)} {S : Nat → Prop} (h : MapIs enc w b M) (hg : Gr w w' S) (hb : ¬ S b) : MapIs enc w' b M := by
 have hl := h.lt
 obtain ⟨es, cl, h1, h2, h3, h4, h5⟩ := h
 exact ⟨es, cl, by rw [hg.block b hl hb]; exact h1, h2, h3, h4, h5⟩
theorem mem_putM {κ ν : Type} [DecidableEq κ] {M : List (κ × ν)} {k : κ} {v : ν} {p : κ × ν} (h : p ∈ putM M k v) : p = (k, v) ∨ (p ∈ M ∧ p.1 ≠ k) := by
 unfold putM at h
 split at h
 ·obtain ⟨q, hq, rfl⟩ := List.mem_map.1 h
  by_cases e : q.1 = k
  ·rw [if_pos e]; exact .inl rfl
  ·rw [if_neg e]; exact .inr ⟨hq, e⟩
 ·rename_i hn
  rcases List.mem_append.1 h with h | h
  ·refine .inr ⟨h, fun e => hn ?_⟩
   rw [List.any_eq_true]
   exact ⟨p, h, decide_eq_true e⟩
  ·exact .inl (List.mem_singleton.1 h)
theorem getM_in {κ ν : Type} [DecidableEq κ] {M : List (κ × ν)} {k : κ} {v : ν} (h : getM M k = some v) : (k, v) ∈ M := by
 unfold getM at h
 cases hf : M.find? (fun p => decide (p.1 = k)) with
 | none => rw [hf] at h; cases h
 | some p =>
  rw [hf] at h
  have h1 := List.find?_some hf
  have h2 := List.mem_of_find?_eq_some hf
  obtain ⟨a, b⟩ := p
  have h3 : a = k := by simpa using h1
  have h4 : b = v := by simpa using h
  rw [← h3, ← h4]; exact h2
end Go.Proofs.YtampniiehgimhaaGreat
/- book: orders that do not clash may change places (plain) -/
namespace Go.Proofs.YtampniiehgimhaaGreat
open Go.RowKit
theorem mem_touches {x : Od} {s : ByteArray} : s ∈ touches x ↔ (s = x.acct ∨ s = x.peer ∨ s ∈ x.legs.map Leg.acct) ∧ s.toList ≠ [] := by
 unfold touches
 rw [mem_compactL, (sortB_perm _).mem_iff, List.mem_filter, List.mem_cons, List.mem_cons]
 refine and_congr_right fun _ => ?_
 unfold nonE
 simp
section
variable {α κ : Type} [DecidableEq κ] {lt : α → α → Bool} {kf : α → κ}
theorem get_setK (L : List α) (a : α) (k : κ) : getK kf (setK kf L a) k = if kf a = k then (getK kf L k).map fun _ => a else getK kf L k := by
 unfold getK setK
 induction L with
 | nil => simp
 | cons x r ih =>
  rw [List.map_cons]
  by_cases hx : kf x = kf a
  ·rw [if_pos hx]
   by_cases ha : kf a = k
   ·rw [if_pos ha, List.find?_cons_of_pos (by simpa using ha), List.find?_cons_of_pos (by simpa using hx.trans ha)]
    rfl
   ·rw [if_neg ha] at ih ⊢
    rw [List.find?_cons_of_neg (by simpa using ha), List.find?_cons_of_neg (by simpa [hx] using ha)]
    exact ih
  ·rw [if_neg hx]
   by_cases hk : kf x = k
   ·have ha : ¬ kf a = k := fun e => hx (hk.trans e.symm)
    rw [if_neg ha, List.find?_cons_of_pos (by simpa using hk), List.find?_cons_of_pos (by simpa using hk)]
   ·rw [List.find?_cons_of_neg (by simpa using hk), List.find?_cons_of_neg (by simpa using hk)]
    exact ih
theorem get_insB (L : List α) (a : α) (k : κ) (h : getK kf L (kf a) = none) : getK kf (insB lt a L) k = if kf a = k then some a else getK kf L k := by
 have hn := getK_none.1 h
 clear h
 unfold getK
 induction L with
 | nil =>
  show List.find? _ [a] = _
  by_cases ha : kf a = k
  ·rw [if_pos ha, List.find?_cons_of_pos (by simpa using ha)]
  ·rw [if_neg ha, List.find?_cons_of_neg (by simpa using ha)]
 | cons x r ih =>
  have ih := ih fun y hy => hn y (List.mem_cons_of_mem _ hy)
  have hx := hn x (List.mem_cons_self ..)
  unfold insB
  split
  ·by_cases hk : kf x = k
   ·have ha : ¬ kf a = k := fun e => hx (hk.trans e.symm)
    rw [if_neg ha, List.find?_cons_of_pos (by simpa using hk), List.find?_cons_of_pos (by simpa using hk)]
   ·rw [List.find?_cons_of_neg (by simpa using hk), List.find?_cons_of_neg (by simpa using hk)]
    exact ih
  ·by_cases ha : kf a = k
   ·rw [if_pos ha, List.find?_cons_of_pos (by simpa using ha)]
   ·rw [if_neg ha, List.find?_cons_of_neg (by simpa using ha)]
end
/-- accounts of some names are the same -/
def AgA (T : ByteArray → Prop) (L L' : List Ac) : Prop := ∀ k, T k → getK Ac.name L k = getK Ac.name L' k
theorem ofL_del (H : List Held) (k : ByteArray) (n : Int) (s : ByteArray) : ofL (delK Held.key H ⟨k, n⟩) s = delK Held.key (ofL H s) ⟨k, n⟩ := by
 unfold ofL delK
 rw [List.filter_filter, List.filter_filter]
 exact List.filter_congr fun x _ => Bool.and_comm ..
theorem del_other (H : List Held) {k s : ByteArray} (n : Int) (h : s ≠ k) : delK Held.key (ofL H s) ⟨k, n⟩ = ofL H s := by
 unfold delK
 rw [List.filter_eq_self]
 intro x hx
 have hs : x.acct = s := by simpa using (List.mem_filter.1 hx).2
 have : ¬ x.key = ⟨k, n⟩ := fun e => h (hs.symm.trans (congrArg Hk.acct e))
 simpa using this
section
variable {T : ByteArray → Prop} {L L' : List Ac} {H H' : List Held}
theorem AgA.sub {U : ByteArray → Prop} (h : AgA T L L') (hU : ∀ k, U k → T k) : AgA U L L' := fun k hk => h k (hU k hk)
theorem turn_frame {D : Ac → Ac × Int} (hD : ∀ a, (D a).1.name = a.name) (L : List Ac) {k j : ByteArray} (hne : j ≠ k) (x : Int) : getK Ac.name (turnL D L k x).2 j = getK Ac.name L j := by
 rcases turnL_cases D L k x with ⟨_, e⟩ | ⟨_, a, hg, _, _, _, e⟩
 ·rw [e]
 ·rw [e, get_setK, if_neg]
  rw [hD a, (getK_mem hg).2]
  exact fun e => hne e.symm
theorem free_frame (L : List Ac) (H : List Held) {k j : ByteArray} (hne : j ≠ k) (n : Int) : getK Ac.name (freeHL L H k n).2.1 j = getK Ac.name L j ∧ ofL (freeHL L H k n).2.2 j = ofL H j := by
 unfold freeHL
 cases getK Held.key H ⟨k, n⟩ with
 | none => exact ⟨rfl, rfl⟩
 | some y =>
  refine ⟨turn_frame (fun _ => rfl) L hne _, ?_⟩
  dsimp only
  split
  ·rw [ofL_del, del_other H n hne]
  ·rfl
end
/-- the accounts that an order names -/
def Nm (x : Od) (s : ByteArray) : Prop := s ∈ touches x
end Go.Proofs.YtampniiehgimhaaGreat
