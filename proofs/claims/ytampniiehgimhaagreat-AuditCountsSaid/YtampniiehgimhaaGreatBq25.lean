/- Texts of this claim, laid together: BkComm, GrM. -/
import Derived.Test.YtampniiehgimhaaGreatRows
import Derived.Test.YtampniiehgimhaaGreatBq9
import Derived.Test.YtampniiehgimhaaGreatBq24
import Derived.WalkKit
import Derived.WalkSpells
import Derived.WalkLawsBesides
import Derived.Deep.QuietTactic
import Derived.BigQuiet
import Derived.Laws.StructEq
import Derived.Deep.DeepFit
import Derived.StillTailTactics
import Derived.Test.YtampniiehgimhaaGreatBq11
import Derived.Test.YtampniiehgimhaaGreatBq2
import Derived.Test.YtampniiehgimhaaGreatBq3
import Derived.Test.YtampniiehgimhaaGreatBq23

/- book: orders that do not clash may change places (plain) -/
namespace Go.Proofs.YtampniiehgimhaaGreat
open Go.RowKit
theorem mem_touches {x : Od} {s : ByteArray} : s ∈ touches x ↔ (s = x.acct ∨ s = x.peer ∨ s ∈ x.legs.map Leg.acct) ∧ s.toList ≠ [] := by
 unfold touches
 rw [mem_compactL, (sortB_perm _).mem_iff, List.mem_filter, List.mem_cons, List.mem_cons]
 refine and_congr_right fun _ => ?_
 unfold nonE
 simp
theorem nameB_ne {s : ByteArray} (h : nameB s = true) : s.toList ≠ [] := by
 unfold nameB at h
 simp only [Bool.and_eq_true] at h
 intro e
 rw [e] at h
 simp at h
theorem legsB_names {l : List Leg} (h : legsB l = true) : ∀ x ∈ l, nameB x.acct = true := fun x hx => by
 unfold legsB at h
 simp only [Bool.and_eq_true, List.all_eq_true] at h
 have := h.1.2 x hx
 unfold legB at this
 simp only [Bool.and_eq_true] at this
 exact this.1
theorem rightB_kinds {x : Od} (h : rightB x = true) : (x.kind = 2 → legsB x.legs = true) ∧ (x.kind ≠ 2 → x.kind ≠ 6 → nameB x.acct = true) ∧ (x.kind = 4 → nameB x.peer = true) := by
 have hf := rightB_fits h
 unfold fitsO at hf
 refine ⟨fun k => ?_, fun k2 k6 => ?_, fun k => ?_⟩
 ·rw [if_neg (by omega), if_pos k] at hf
  unfold fits2 at hf
  simp only [Bool.and_eq_true] at hf
  exact hf.1.1
 ·by_cases k1 : x.kind = 1
  ·rw [if_pos k1] at hf
   unfold fits1 at hf
   simp only [Bool.and_eq_true] at hf
   exact hf.1
  rw [if_neg k1, if_neg k2] at hf
  by_cases k3 : x.kind = 3
  ·rw [if_pos k3] at hf
   unfold fits3 at hf
   simp only [Bool.and_eq_true] at hf
   exact hf.1
  rw [if_neg k3] at hf
  by_cases k4 : x.kind = 4
  ·rw [if_pos k4] at hf
   unfold fits4 at hf
   simp only [Bool.and_eq_true] at hf
   exact hf.1.1.1.1.1
  rw [if_neg k4] at hf
  by_cases k5 : x.kind = 5
  ·rw [if_pos k5] at hf
   unfold fits5 at hf
   simp only [Bool.and_eq_true] at hf
   exact hf.1
  rw [if_neg k5, if_neg k6] at hf
  exact hf
 ·rw [if_neg (by omega), if_neg (by omega), if_neg (by omega), if_pos k] at hf
  unfold fits4 at hf
  simp only [Bool.and_eq_true] at hf
  exact hf.1.1.1.1.2
/-- but for an Open, no order changes how many accounts there are -/
theorem do_lenK {B : Bk} {x : Od} (h : InvB B) (h1 : x.kind ≠ 1) : (doL B x).2.L.length = B.L.length := by
 unfold doL
 by_cases hr : rightB x = false
 ·rw [if_pos hr]
 rw [if_neg hr]
 unfold kindD
 rw [if_neg h1]
 by_cases k2 : x.kind = 2
 ·rw [if_pos k2]
  unfold postD
  split
  ·rfl
  ·exact (makeL_ss h.inv.srtA _).1.len
 rw [if_neg k2]
 by_cases k3 : x.kind = 3
 ·rw [if_pos k3]
  exact putH_lenA _ _ _
 rw [if_neg k3]
 by_cases k4 : x.kind = 4
 ·rw [if_pos k4]
  unfold capD
  split
  ·rfl
  ·exact takeH_lenA _ _ h.inv.srtA _ _ _ _
 rw [if_neg k4]
 by_cases k5 : x.kind = 5
 ·rw [if_pos k5]
  exact freeHL_lenA _ _ _ _
 rw [if_neg k5]
 by_cases k6 : x.kind = 6
 ·rw [if_pos k6]
  unfold shutD
  split <;> rfl
 rw [if_neg k6]
 rfl
section
variable {α κ : Type} [DecidableEq κ] {lt : α → α → Bool} {kf : α → κ}
theorem srt_ext (S : Strict lt) : ∀ {L L' : List α}, SrtL lt L → SrtL lt L' → (∀ x, x ∈ L ↔ x ∈ L') → L = L'
 | [], [], _, _, _ => rfl
 | [], b :: s, _, _, h => absurd ((h b).2 (List.mem_cons_self ..)) (by simp)
 | a :: r, [], _, _, h => absurd ((h a).1 (List.mem_cons_self ..)) (by simp)
 | a :: r, b :: s, h1, h2, h => by
  obtain ⟨p1, p2⟩ := List.pairwise_cons.1 h1
  obtain ⟨q1, q2⟩ := List.pairwise_cons.1 h2
  have hab : a = b := by
   rcases List.mem_cons.1 ((h a).1 (List.mem_cons_self ..)) with e | e
   ·exact e
   ·rcases List.mem_cons.1 ((h b).2 (List.mem_cons_self ..)) with e' | e'
    ·exact e'.symm
    ·have := S.asymm (p1 b e')
     rw [q1 a e] at this
     cases this
  subst hab
  rw [srt_ext S p2 q2 fun x => ?_]
  constructor
  ·intro hx
   rcases List.mem_cons.1 ((h x).1 (List.mem_cons_of_mem _ hx)) with e | e
   ·have := p1 x hx; rw [e, S.irr] at this; cases this
   ·exact e
  ·intro hx
   rcases List.mem_cons.1 ((h x).2 (List.mem_cons_of_mem _ hx)) with e | e
   ·have := q1 x hx; rw [e, S.irr] at this; cases this
   ·exact e
theorem get_setK (L : List α) (a : α) (k : κ) : getK kf (setK kf L a) k = if kf a = k then (getK kf L k).map fun _ => a else getK kf L k := by
 unfold getK setK
 induction L with
 | nil => simp
 | cons x r ih =>
  rw [List.map_cons]
  by_cases hx : kf x = kf a
  ·rw [if_pos hx]
   by_cases ha : kf a = k
   ·rw [if_pos ha, List.find?_cons_of_pos (by simpa using ha), List.find?_cons_of_pos (by simpa using hx.trans ha)]
    rfl
   ·rw [if_neg ha] at ih ⊢
    rw [List.find?_cons_of_neg (by simpa using ha), List.find?_cons_of_neg (by simpa [hx] using ha)]
    exact ih
  ·rw [if_neg hx]
   by_cases hk : kf x = k
   ·have ha : ¬ kf a = k := fun e => hx (hk.trans e.symm)
    rw [if_neg ha, List.find?_cons_of_pos (by simpa using hk), List.find?_cons_of_pos (by simpa using hk)]
   ·rw [List.find?_cons_of_neg (by simpa using hk), List.find?_cons_of_neg (by simpa using hk)]
    exact ih
theorem get_insB (L : List α) (a : α) (k : κ) (h : getK kf L (kf a) = none) : getK kf (insB lt a L) k = if kf a = k then some a else getK kf L k := by
 have hn := getK_none.1 h
 clear h
 unfold getK
 induction L with
 | nil =>
  show List.find? _ [a] = _
  by_cases ha : kf a = k
  ·rw [if_pos ha, List.find?_cons_of_pos (by simpa using ha)]
  ·rw [if_neg ha, List.find?_cons_of_neg (by simpa using ha)]
 | cons x r ih =>
  have ih := ih fun y hy => hn y (List.mem_cons_of_mem _ hy)
  have hx := hn x (List.mem_cons_self ..)
  unfold insB
  split
  ·by_cases hk : kf x = k
   ·have ha : ¬ kf a = k := fun e => hx (hk.trans e.symm)
    rw [if_neg ha, List.find?_cons_of_pos (by simpa using hk), List.find?_cons_of_pos (by simpa using hk)]
   ·rw [List.find?_cons_of_neg (by simpa using hk), List.find?_cons_of_neg (by simpa using hk)]
    exact ih
  ·by_cases ha : kf a = k
   ·rw [if_pos ha, List.find?_cons_of_pos (by simpa using ha)]
   ·rw [if_neg ha, List.find?_cons_of_neg (by simpa using ha)]
end
/-- accounts of some names are the same -/
def AgA (T : ByteArray → Prop) (L L' : List Ac) : Prop := ∀ k, T k → getK Ac.name L k = getK Ac.name L' k
/-- and holds of them -/
def AgH (T : ByteArray → Prop) (H H' : List Held) : Prop := ∀ k, T k → ofL H k = ofL H' k
theorem getK_ofL (H : List Held) (k : ByteArray) (n : Int) : getK Held.key H ⟨k, n⟩ = getK Held.key (ofL H k) ⟨k, n⟩ := by
 unfold getK ofL
 induction H with
 | nil => rfl
 | cons x r ih =>
  by_cases ha : x.acct = k
  ·rw [List.filter_cons_of_pos (by simpa using ha)]
   by_cases hk : x.key = ⟨k, n⟩
   ·rw [List.find?_cons_of_pos (by simpa using hk), List.find?_cons_of_pos (by simpa using hk)]
   ·rw [List.find?_cons_of_neg (by simpa using hk), List.find?_cons_of_neg (by simpa using hk)]
    exact ih
  ·rw [List.filter_cons_of_neg (by simpa using ha), List.find?_cons_of_neg (by simpa using fun e => ha (congrArg Hk.acct e))]
   exact ih
theorem ofL_del (H : List Held) (k : ByteArray) (n : Int) (s : ByteArray) : ofL (delK Held.key H ⟨k, n⟩) s = delK Held.key (ofL H s) ⟨k, n⟩ := by
 unfold ofL delK
 rw [List.filter_filter, List.filter_filter]
 exact List.filter_congr fun x _ => Bool.and_comm ..
theorem del_other (H : List Held) {k s : ByteArray} (n : Int) (h : s ≠ k) : delK Held.key (ofL H s) ⟨k, n⟩ = ofL H s := by
 unfold delK
 rw [List.filter_eq_self]
 intro x hx
 have hs : x.acct = s := by simpa using (List.mem_filter.1 hx).2
 have : ¬ x.key = ⟨k, n⟩ := fun e => h (hs.symm.trans (congrArg Hk.acct e))
 simpa using this
theorem ins_before {x : Held} : ∀ {L : List Held}, (∀ z ∈ L, ltH z x = false) → insB ltH x L = x :: L
 | [], _ => rfl
 | z :: r, h => by
  unfold insB
  rw [if_neg (by rw [h z (List.mem_cons_self ..)]; decide)]
theorem ofL_ins (x : Held) (s : ByteArray) : ∀ {H : List Held}, SrtL ltH H → ofL (insB ltH x H) s = if x.acct = s then insB ltH x (ofL H s) else ofL H s
 | [], _ => by
  unfold ofL
  show List.filter _ [x] = _
  by_cases h : x.acct = s
  ·rw [if_pos h, List.filter_cons_of_pos (by simpa using h)]; rfl
  ·rw [if_neg h, List.filter_cons_of_neg (by simpa using h)]
 | y :: r, h => by
  obtain ⟨h1, h2⟩ := List.pairwise_cons.1 h
  have ih := ofL_ins x s h2
  unfold ofL at ih ⊢
  rw [insB]
  by_cases hy : ltH y x = true
  ·rw [if_pos hy]
   by_cases hys : y.acct = s
   ·rw [List.filter_cons_of_pos (by simpa using hys), List.filter_cons_of_pos (by simpa using hys), ih, insB, if_pos hy]
    split
    ·rfl
    ·rfl
   ·rw [List.filter_cons_of_neg (by simpa using hys), List.filter_cons_of_neg (by simpa using hys), ih]
  ·rw [if_neg hy]
   by_cases hx : x.acct = s
   ·rw [if_pos hx, List.filter_cons_of_pos (by simpa using hx)]
    refine (ins_before fun z hz => ?_).symm
    have hz := (List.mem_filter.1 hz).1
    have hy' : ltH y x = false := by simpa using hy
    rcases List.mem_cons.1 hz with rfl | hz
    ·exact hy'
    ·cases hzx : ltH z x with
     | false => rfl
     | true =>
      have := keyH.strict.trans _ _ _ (h1 z hz) hzx
      rw [hy'] at this; cases this
   ·rw [if_neg hx, List.filter_cons_of_neg (by simpa using hx)]
section
variable {T : ByteArray → Prop} {L L' : List Ac} {H H' : List Held}
theorem AgA.sub {U : ByteArray → Prop} (h : AgA T L L') (hU : ∀ k, U k → T k) : AgA U L L' := fun k hk => h k (hU k hk)
theorem turn_local (h : AgA T L L') {k : ByteArray} (hk : T k) (D : Ac → Ac × Int) (x : Int) : (turnL D L k x).1 = (turnL D L' k x).1 ∧ AgA T (turnL D L k x).2 (turnL D L' k x).2 := by
 unfold turnL
 rw [← h k hk]
 cases getK Ac.name L k with
 | none => exact ⟨rfl, h⟩
 | some a =>
  dsimp only
  split
  ·exact ⟨rfl, h⟩
  ·split
   ·exact ⟨rfl, h⟩
   ·split
    ·exact ⟨rfl, h⟩
    ·refine ⟨rfl, fun j hj => ?_⟩
     rw [get_setK, get_setK, h j hj]
theorem turn_frame {D : Ac → Ac × Int} (hD : ∀ a, (D a).1.name = a.name) (L : List Ac) {k j : ByteArray} (hne : j ≠ k) (x : Int) : getK Ac.name (turnL D L k x).2 j = getK Ac.name L j := by
 rcases turnL_cases D L k x with ⟨_, e⟩ | ⟨_, a, hg, _, _, _, e⟩
 ·rw [e]
 ·rw [e, get_setK, if_neg]
  rw [hD a, (getK_mem hg).2]
  exact fun e => hne e.symm
theorem getLR_local (h : AgA T L L') {k : ByteArray} (hk : T k) : getLR L k = getLR L' k := by
 unfold getLR
 rw [h k hk]
theorem tells_local (h : AgA T L L') {k : ByteArray} (hk : T k) (e : Int) : tellsL L k e = tellsL L' k e := by
 unfold tellsL
 rw [getLR_local h hk]
theorem open_local (h : AgA T L L') {k : ByteArray} (hk : T k) (lim : Int) (hl : L.length = L'.length) : (openL L k lim).1 = (openL L' k lim).1 ∧ AgA T (openL L k lim).2 (openL L' k lim).2 := by
 unfold openL
 rw [← h k hk, ← hl]
 split
 ·exact ⟨rfl, h⟩
 ·split
  ·exact ⟨rfl, h⟩
  ·rename_i hs
   split
   ·exact ⟨rfl, h⟩
   ·refine ⟨rfl, fun j hj => ?_⟩
    have h0 : getK Ac.name L k = none := by simpa using hs
    rw [get_insB L _ j h0, get_insB L' _ j (by rw [← h k hk]; exact h0), h j hj]
theorem open_frame (L : List Ac) {k j : ByteArray} (hne : j ≠ k) (lim : Int) : getK Ac.name (openL L k lim).2 j = getK Ac.name L j := by
 rcases openL_cases L k lim with ⟨_, e⟩ | ⟨_, _, _, hg, _, e⟩
 ·rw [e]
 ·rw [e, get_insB L _ j hg, if_neg (fun e => hne e.symm)]
theorem post_local (h : AgA T L L') {x : Leg} (hk : T x.acct) : (postL L x).1 = (postL L' x).1 ∧ AgA T (postL L x).2 (postL L' x).2 := by
 unfold postL
 rw [← getLR_local h hk]
 split
 ·exact ⟨rfl, h⟩
 ·split
  ·exact ⟨rfl, h⟩
  ·exact turn_local h hk _ _
theorem post_frame (L : List Ac) {x : Leg} {j : ByteArray} (hne : j ≠ x.acct) : getK Ac.name (postL L x).2 j = getK Ac.name L j := by
 unfold postL
 split
 ·rfl
 ·split
  ·rfl
  ·exact turn_frame (fun _ => rfl) L hne _
theorem all_local : ∀ {l : List Leg} {L L' : List Ac}, AgA T L L' → (∀ x ∈ l, T x.acct) → (allL L l).1 = (allL L' l).1 ∧ AgA T (allL L l).2 (allL L' l).2
 | [], _, _, h, _ => ⟨rfl, h⟩
 | x :: r, L, L', h, hT => by
  obtain ⟨h1, h2⟩ := post_local h (hT x (List.mem_cons_self ..))
  unfold allL
  rw [← h1]
  split
  ·exact ⟨h1, h2⟩
  ·exact all_local h2 fun y hy => hT y (List.mem_cons_of_mem _ hy)
theorem all_frame {j : ByteArray} : ∀ (l : List Leg) (L : List Ac), (∀ x ∈ l, j ≠ x.acct) → getK Ac.name (allL L l).2 j = getK Ac.name L j
 | [], _, _ => rfl
 | x :: r, L, h => by
  unfold allL
  split
  ·exact post_frame L (h x (List.mem_cons_self ..))
  ·rw [all_frame r _ fun y hy => h y (List.mem_cons_of_mem _ hy), post_frame L (h x (List.mem_cons_self ..))]
theorem check_local (h : AgA T L L') {l : List Leg} (hT : ∀ x ∈ l, T x.acct) : checkL L l = checkL L' l := by
 unfold checkL
 rw [(all_local h hT).1]
theorem make_local (h : AgA T L L') {l : List Leg} (hT : ∀ x ∈ l, T x.acct) : (makeL L l).1 = (makeL L' l).1 ∧ AgA T (makeL L l).2 (makeL L' l).2 := by
 unfold makeL
 rw [check_local h hT]
 split
 ·exact ⟨rfl, h⟩
 ·exact all_local h hT
theorem make_frame (L : List Ac) {l : List Leg} {j : ByteArray} (hne : ∀ x ∈ l, j ≠ x.acct) : getK Ac.name (makeL L l).2 j = getK Ac.name L j := by
 unfold makeL
 split
 ·rfl
 ·exact all_frame l L hne
theorem free_local (h : AgA T L L') (hH : AgH T H H') {k : ByteArray} (hk : T k) (n : Int) : (freeHL L H k n).1 = (freeHL L' H' k n).1 ∧ AgA T (freeHL L H k n).2.1 (freeHL L' H' k n).2.1 ∧ AgH T (freeHL L H k n).2.2 (freeHL L' H' k n).2.2 := by
 unfold freeHL
 rw [getK_ofL H, getK_ofL H', ← hH k hk]
 cases getK Held.key (ofL H k) ⟨k, n⟩ with
 | none => exact ⟨rfl, h, hH⟩
 | some y =>
  obtain ⟨h1, h2⟩ := turn_local h hk (asiD (-y.sum)) (-y.sum)
  refine ⟨h1, h2, ?_⟩
  dsimp only
  rw [← h1]
  split
  ·intro j hj
   rw [ofL_del, ofL_del, hH j hj]
  ·exact hH
theorem free_frame (L : List Ac) (H : List Held) {k j : ByteArray} (hne : j ≠ k) (n : Int) : getK Ac.name (freeHL L H k n).2.1 j = getK Ac.name L j ∧ ofL (freeHL L H k n).2.2 j = ofL H j := by
 unfold freeHL
 cases getK Held.key H ⟨k, n⟩ with
 | none => exact ⟨rfl, rfl⟩
 | some y =>
  refine ⟨turn_frame (fun _ => rfl) L hne _, ?_⟩
  dsimp only
  split
  ·rw [ofL_del, del_other H n hne]
  ·rfl
theorem put_local (h : AgA T L L') (hH : AgH T H H') (hs : SrtL ltH H) (hs' : SrtL ltH H') {x : Held} (hk : T x.acct) : (putH L H x).1 = (putH L' H' x).1 ∧ AgA T (putH L H x).2.1 (putH L' H' x).2.1 ∧ AgH T (putH L H x).2.2 (putH L' H' x).2.2 := by
 unfold putH
 have e : getK Held.key H x.key = getK Held.key H' x.key := by
  show getK Held.key H ⟨x.acct, x.num⟩ = getK Held.key H' ⟨x.acct, x.num⟩
  rw [getK_ofL H, getK_ofL H', hH _ hk]
 rw [← e, ← hH _ hk]
 split
 ·exact ⟨rfl, h, hH⟩
 ·split
  ·exact ⟨rfl, h, hH⟩
  ·split
   ·exact ⟨rfl, h, hH⟩
   ·obtain ⟨h1, h2⟩ := turn_local h hk (asiD x.sum) x.sum
    refine ⟨h1, h2, ?_⟩
    dsimp only
    rw [← h1]
    split
    ·intro j hj
     rw [ofL_ins x j hs, ofL_ins x j hs', hH j hj]
    ·exact hH
theorem put_frame (L : List Ac) {H : List Held} (hs : SrtL ltH H) {x : Held} {j : ByteArray} (hne : j ≠ x.acct) : getK Ac.name (putH L H x).2.1 j = getK Ac.name L j ∧ ofL (putH L H x).2.2 j = ofL H j := by
 unfold putH
 split
 ·exact ⟨rfl, rfl⟩
 ·split
  ·exact ⟨rfl, rfl⟩
  ·split
   ·exact ⟨rfl, rfl⟩
   ·refine ⟨turn_frame (fun _ => rfl) L hne _, ?_⟩
    dsimp only
    split
    ·rw [ofL_ins x j hs, if_neg (fun e => hne e.symm)]
    ·rfl
theorem take_local (h : AgA T L L') (hH : AgH T H H') {k p : ByteArray} (hk : T k) (hp : T p) (n s : Int) : (takeH L H k n p s).1 = (takeH L' H' k n p s).1 ∧ AgA T (takeH L H k n p s).2.1 (takeH L' H' k n p s).2.1 ∧ AgH T (takeH L H k n p s).2.2 (takeH L' H' k n p s).2.2 := by
 obtain ⟨f1, f2, f3⟩ := free_local h hH hk n
 have hT : ∀ x ∈ legs2 k p s, T x.acct := by
  intro x hx
  simp only [legs2, List.mem_cons, List.not_mem_nil, or_false] at hx
  rcases hx with rfl | rfl
  ·exact hk
  ·exact hp
 obtain ⟨m1, m2⟩ := make_local f2 hT
 unfold takeH
 rw [getK_ofL H, getK_ofL H', ← hH k hk]
 cases getK Held.key (ofL H k) ⟨k, n⟩ with
 | none => exact ⟨rfl, h, hH⟩
 | some y =>
  dsimp only
  obtain ⟨t1, t2⟩ := turn_local h hk (asiD (-y.sum)) (-y.sum)
  rw [← t1, ← check_local t2 hT]
  split
  ·exact ⟨rfl, h, hH⟩
  ·split
   ·exact ⟨rfl, h, hH⟩
   ·split
    ·exact ⟨rfl, h, hH⟩
    ·exact ⟨m1, m2, f3⟩
theorem take_frame (L : List Ac) (H : List Held) {k p j : ByteArray} (hk : j ≠ k) (hp : j ≠ p) (n s : Int) : getK Ac.name (takeH L H k n p s).2.1 j = getK Ac.name L j ∧ ofL (takeH L H k n p s).2.2 j = ofL H j := by
 unfold takeH
 cases getK Held.key H ⟨k, n⟩ with
 | none => exact ⟨rfl, rfl⟩
 | some y =>
  dsimp only
  split
  ·exact ⟨rfl, rfl⟩
  ·split
   ·exact ⟨rfl, rfl⟩
   ·split
    ·exact ⟨rfl, rfl⟩
    ·obtain ⟨f1, f2⟩ := free_frame L H hk n
     refine ⟨?_, f2⟩
     rw [make_frame _ ?_, f1]
     intro x hx
     simp only [legs2, List.mem_cons, List.not_mem_nil, or_false] at hx
     rcases hx with rfl | rfl
     ·exact hk
     ·exact hp
end
/-- the accounts that an order names -/
def Nm (x : Od) (s : ByteArray) : Prop := s ∈ touches x
theorem nm_acct {x : Od} (h : nameB x.acct = true) : Nm x x.acct := mem_touches.2 ⟨.inl rfl, nameB_ne h⟩
theorem nm_peer {x : Od} (h : nameB x.peer = true) : Nm x x.peer := mem_touches.2 ⟨.inr (.inl rfl), nameB_ne h⟩
theorem nm_legs {x : Od} (h : legsB x.legs = true) : ∀ y ∈ x.legs, Nm x y.acct := fun y hy => mem_touches.2 ⟨.inr (.inr (List.mem_map.2 ⟨y, hy, rfl⟩)), nameB_ne (legsB_names h y hy)⟩
/-- the names that a right order's kind stands on -/
theorem rightB_names {x : Od} (h : rightB x = true) (h6 : x.kind ≠ 6) : (x.kind = 2 → ∀ y ∈ x.legs, Nm x y.acct) ∧ (x.kind ≠ 2 → Nm x x.acct) ∧ (x.kind = 4 → Nm x x.peer) := by
 obtain ⟨h1, h2, h3⟩ := rightB_kinds h
 exact ⟨fun e => nm_legs (h1 e), fun e => nm_acct (h2 e h6), fun e => nm_peer (h3 e)⟩
/-- what an order tells and does hangs on what it names -/
theorem do_local {B B' : Bk} {x : Od} (hS : SrtL ltH B.H) (hS' : SrtL ltH B'.H) (h6 : x.kind ≠ 6) (hA : AgA (Nm x) B.L B'.L) (hH : AgH (Nm x) B.H B'.H) (hc : B.cl = B'.cl) (hl : x.kind = 1 → B.L.length = B'.L.length) :
  (doL B x).1 = (doL B' x).1 ∧ AgA (Nm x) (doL B x).2.L (doL B' x).2.L ∧ AgH (Nm x) (doL B x).2.H (doL B' x).2.H ∧ (doL B x).2.cl = (doL B' x).2.cl := by
 unfold doL
 by_cases hr : rightB x = false
 ·rw [if_pos hr, if_pos hr]; exact ⟨rfl, hA, hH, hc⟩
 rw [if_neg hr, if_neg hr]
 have hr : rightB x = true := by simpa using hr
 obtain ⟨n2, na, n4⟩ := rightB_names hr h6
 unfold kindD
 by_cases k1 : x.kind = 1
 ·rw [if_pos k1, if_pos k1]
  have na := na (by omega)
  obtain ⟨o1, o2⟩ := open_local hA na x.sum (hl k1)
  refine ⟨?_, o2, hH, hc⟩
  unfold openD
  dsimp only
  rw [o1, tells_local o2 na]
 rw [if_neg k1, if_neg k1]
 by_cases k2 : x.kind = 2
 ·rw [if_pos k2, if_pos k2]
  obtain ⟨m1, m2⟩ := make_local hA (n2 k2)
  unfold postD
  rw [← hc]
  split
  ·exact ⟨rfl, hA, hH, hc⟩
  ·exact ⟨by dsimp only; rw [m1], m2, hH, rfl⟩
 rw [if_neg k2, if_neg k2]
 have na := na k2
 by_cases k3 : x.kind = 3
 ·rw [if_pos k3, if_pos k3]
  obtain ⟨p1, p2, p3⟩ := put_local (x := ⟨numO x, x.acct, x.sum⟩) hA hH hS hS' na
  refine ⟨?_, p2, p3, hc⟩
  unfold holdD
  dsimp only
  rw [p1, tells_local p2 na]
 rw [if_neg k3, if_neg k3]
 by_cases k4 : x.kind = 4
 ·rw [if_pos k4, if_pos k4]
  obtain ⟨p1, p2, p3⟩ := take_local hA hH na (n4 k4) x.hold x.sum
  unfold capD
  rw [← hc]
  split
  ·exact ⟨rfl, hA, hH, hc⟩
  ·exact ⟨by dsimp only; rw [p1, tells_local p2 na], p2, p3, rfl⟩
 rw [if_neg k4, if_neg k4]
 by_cases k5 : x.kind = 5
 ·rw [if_pos k5, if_pos k5]
  obtain ⟨p1, p2, p3⟩ := free_local hA hH na x.hold
  refine ⟨?_, p2, p3, hc⟩
  unfold relD
  dsimp only
  rw [p1, tells_local p2 na]
 rw [if_neg k5, if_neg k5, if_neg h6, if_neg h6]
 refine ⟨?_, hA, hH, hc⟩
 unfold askD
 dsimp only
 rw [tells_local hA na]
/-- what an order does not name stays -/
theorem do_frame {B : Bk} {x : Od} (hS : SrtL ltH B.H) (h6 : x.kind ≠ 6) {j : ByteArray} (hj : ¬ Nm x j) : getK Ac.name (doL B x).2.L j = getK Ac.name B.L j ∧ ofL (doL B x).2.H j = ofL B.H j := by
 unfold doL
 by_cases hr : rightB x = false
 ·rw [if_pos hr]; exact ⟨rfl, rfl⟩
 rw [if_neg hr]
 have hr : rightB x = true := by simpa using hr
 obtain ⟨n2, na, n4⟩ := rightB_names hr h6
 have ne : ∀ {s}, Nm x s → j ≠ s := fun h e => hj (e ▸ h)
 unfold kindD
 by_cases k1 : x.kind = 1
 ·rw [if_pos k1]
  exact ⟨open_frame _ (ne (na (by omega))) _, rfl⟩
 rw [if_neg k1]
 by_cases k2 : x.kind = 2
 ·rw [if_pos k2]
  unfold postD
  split
  ·exact ⟨rfl, rfl⟩
  ·exact ⟨make_frame _ fun y hy => ne (n2 k2 y hy), rfl⟩
 rw [if_neg k2]
 have na := na k2
 by_cases k3 : x.kind = 3
 ·rw [if_pos k3]
  exact put_frame (x := ⟨numO x, x.acct, x.sum⟩) _ hS (ne na)
 rw [if_neg k3]
 by_cases k4 : x.kind = 4
 ·rw [if_pos k4]
  unfold capD
  split
  ·exact ⟨rfl, rfl⟩
  ·exact take_frame _ _ (ne na) (ne (n4 k4)) _ _
 rw [if_neg k4]
 by_cases k5 : x.kind = 5
 ·rw [if_pos k5]
  exact free_frame _ _ (ne na) _
 rw [if_neg k5, if_neg h6]
 exact ⟨rfl, rfl⟩
theorem do_clK {B : Bk} {x : Od} (h6 : x.kind ≠ 6) : (doL B x).2.cl = B.cl := by
 unfold doL
 by_cases hr : rightB x = false
 ·rw [if_pos hr]
 rw [if_neg hr]
 unfold kindD
 by_cases k1 : x.kind = 1
 ·rw [if_pos k1]; rfl
 rw [if_neg k1]
 by_cases k2 : x.kind = 2
 ·rw [if_pos k2]
  unfold postD
  split <;> rfl
 rw [if_neg k2]
 by_cases k3 : x.kind = 3
 ·rw [if_pos k3]; rfl
 rw [if_neg k3]
 by_cases k4 : x.kind = 4
 ·rw [if_pos k4]
  unfold capD
  split <;> rfl
 rw [if_neg k4]
 by_cases k5 : x.kind = 5
 ·rw [if_pos k5]; rfl
 rw [if_neg k5, if_neg h6]
 rfl
/-- a book is what it has of each account -/
theorem bk_ext {B B' : Bk} (h1 : SrtL ltA B.L) (h2 : SrtL ltA B'.L) (h3 : SrtL ltH B.H) (h4 : SrtL ltH B'.H) (hA : ∀ k, getK Ac.name B.L k = getK Ac.name B'.L k) (hH : ∀ k, ofL B.H k = ofL B'.H k) (hc : B.cl = B'.cl) : B = B' := by
 refine Bk.ext_ (srt_ext keyA.strict h1 h2 fun a => ?_) (srt_ext keyH.strict h3 h4 fun x => ?_) hc
 ·constructor
  ·intro h
   have := getK_of keyA h1 h
   rw [hA] at this
   exact (getK_mem this).1
  ·intro h
   have := getK_of keyA h2 h
   rw [← hA] at this
   exact (getK_mem this).1
 ·have hm : ∀ H : List Held, x ∈ H ↔ x ∈ ofL H x.acct := fun H => by unfold ofL; simp [List.mem_filter]
  exact (hm B.H).trans ((by rw [hH x.acct] : x ∈ ofL B.H x.acct ↔ x ∈ ofL B'.H x.acct).trans (hm B'.H).symm)
/-- orders that name no account together, none a Close, not both an Open, may change places -/
theorem do_comm {B : Bk} {x y : Od} (hI : InvB B) (hx : OdB x) (hy : OdB y) (hn : ∀ s, ¬ (Nm x s ∧ Nm y s)) (hx6 : x.kind ≠ 6) (hy6 : y.kind ≠ 6) (h1 : ¬ (x.kind = 1 ∧ y.kind = 1)) :
  (doL (doL B x).2 y).1 = (doL B y).1 ∧ (doL (doL B y).2 x).1 = (doL B x).1 ∧ (doL (doL B x).2 y).2 = (doL (doL B y).2 x).2 := by
 have hIx := hI.do_ hx
 have hIy := hI.do_ hy
 have one : ∀ {u v : Od}, InvB (doL B u).2 → (∀ s, ¬ (Nm u s ∧ Nm v s)) → u.kind ≠ 6 → v.kind ≠ 6 → ¬ (u.kind = 1 ∧ v.kind = 1) → (doL (doL B u).2 v).1 = (doL B v).1 ∧ AgA (Nm v) (doL (doL B u).2 v).2.L (doL B v).2.L ∧ AgH (Nm v) (doL (doL B u).2 v).2.H (doL B v).2.H := fun {u v} hIu hd hu hv h1 => by
  have := do_local (B := (doL B u).2) (B' := B) (x := v) hIu.inv.srtH hI.inv.srtH hv (fun k hk => (do_frame hI.inv.srtH hu fun h => hd k ⟨h, hk⟩).1) (fun k hk => (do_frame hI.inv.srtH hu fun h => hd k ⟨h, hk⟩).2) (do_clK hu) (fun e => do_lenK hI fun e' => h1 ⟨e', e⟩)
  exact ⟨this.1, this.2.1, this.2.2.1⟩
 obtain ⟨a1, a2, a3⟩ := one hIx hn hx6 hy6 h1
 obtain ⟨b1, b2, b3⟩ := one hIy (fun s h => hn s ⟨h.2, h.1⟩) hy6 hx6 (fun h => h1 ⟨h.2, h.1⟩)
 refine ⟨a1, b1, ?_⟩
 have hIxy := hIx.do_ hy
 have hIyx := hIy.do_ hx
 have key : ∀ k, getK Ac.name (doL (doL B x).2 y).2.L k = getK Ac.name (doL (doL B y).2 x).2.L k ∧ ofL (doL (doL B x).2 y).2.H k = ofL (doL (doL B y).2 x).2.H k := fun k => by
  by_cases hkx : Nm x k
  ·have hky : ¬ Nm y k := fun h => hn k ⟨hkx, h⟩
   have f := do_frame (B := (doL B x).2) hIx.inv.srtH hy6 hky
   exact ⟨f.1.trans (b2 k hkx).symm, f.2.trans (b3 k hkx).symm⟩
  ·have f := do_frame (B := (doL B y).2) hIy.inv.srtH hx6 hkx
   by_cases hky : Nm y k
   ·exact ⟨(a2 k hky).trans f.1.symm, (a3 k hky).trans f.2.symm⟩
   ·have g := do_frame (B := (doL B x).2) hIx.inv.srtH hy6 hky
    have g1 := do_frame hI.inv.srtH hx6 hkx
    have f1 := do_frame hI.inv.srtH hy6 hky
    exact ⟨(g.1.trans g1.1).trans (f.1.trans f1.1).symm, (g.2.trans g1.2).trans (f.2.trans f1.2).symm⟩
 exact bk_ext hIxy.inv.srtA hIyx.inv.srtA hIxy.inv.srtH hIyx.inv.srtH (fun k => (key k).1) (fun k => (key k).2) (by rw [do_clK hy6, do_clK hx6, do_clK hx6, do_clK hy6])
/-- orders, each with what it is told -/
def toldZ (B : Bk) (l : List Od) : List (Od × Rp) := l.zip (toldL B l)
theorem toldZ_app (l m : List Od) (B : Bk) : toldZ B (l ++ m) = toldZ B l ++ toldZ (foldL B l) m := by
 unfold toldZ
 rw [toldL_app, List.zip_append (toldL_len l B).symm]
theorem toldZ_cons (B : Bk) (x : Od) (l : List Od) : toldZ B (x :: l) = (x, (doL B x).1) :: toldZ (doL B x).2 l := rfl
theorem clash_apart {x y : Od} (h : clashB x y = false) : (∀ s, ¬ (Nm x s ∧ Nm y s)) ∧ x.kind ≠ 6 ∧ y.kind ≠ 6 ∧ ¬ (x.kind = 1 ∧ y.kind = 1) := by
 unfold clashB at h
 simp only [Bool.or_eq_false_iff, Bool.and_eq_false_iff, decide_eq_false_iff_not] at h
 obtain ⟨⟨⟨_, h2, h3⟩, h4⟩, h5⟩ := h
 refine ⟨fun s hs => ?_, h2, h3, fun e => ?_⟩
 ·rw [List.any_eq_false] at h5
  refine h5 s hs.1 ?_
  rw [List.any_eq_true]
  exact ⟨s, hs.2, decide_eq_true rfl⟩
 ·rcases h4 with h | h
  ·exact h e.1
  ·exact h e.2
/-- two that change places: the same book, the same replies -/
theorem swap_told {B : Bk} (hI : InvB B) {u v : List Od} {x y : Od} (hl : ∀ z ∈ u ++ x :: y :: v, OdB z) (hn : clashB x y = false) :
  foldL B (u ++ x :: y :: v) = foldL B (u ++ y :: x :: v) ∧ (toldZ B (u ++ x :: y :: v)).Perm (toldZ B (u ++ y :: x :: v)) := by
 have hIu := hI.fold u fun z hz => hl z (List.mem_append.2 (.inl hz))
 obtain ⟨h1, h2, h3, h4⟩ := clash_apart hn
 obtain ⟨c1, c2, c3⟩ := do_comm hIu (hl x (by simp)) (hl y (by simp)) h1 h2 h3 h4
 rw [foldL_app, foldL_app, toldZ_app, toldZ_app]
 refine ⟨?_, (List.Perm.refl _).append ?_⟩
 ·show foldL (doL (doL (foldL B u) x).2 y).2 v = foldL (doL (doL (foldL B u) y).2 x).2 v
  rw [c3]
 ·rw [toldZ_cons, toldZ_cons, toldZ_cons, toldZ_cons, c1, c2, c3]
  exact List.Perm.swap _ _ _
theorem mix_told {B : Bk} (hI : InvB B) {l m : List Od} (h : Mix l m) (hl : ∀ z ∈ l, OdB z) : foldL B l = foldL B m ∧ (toldZ B l).Perm (toldZ B m) := by
 induction h with
 | refl => exact ⟨rfl, .refl _⟩
 | step hm hn ih =>
  obtain ⟨e1, e2⟩ := swap_told hI (fun z hz => hl z (hm.perm.mem_iff.2 hz)) hn
  exact ⟨ih.1.trans e1, ih.2.trans e2⟩
theorem toldZ_get {B : Bk} {l : List Od} {k : Nat} (hk : k < l.length) : (l[k], (toldL B l)[k]'(by rw [toldL_len]; exact hk)) ∈ toldZ B l := by
 unfold toldZ
 have : k < (l.zip (toldL B l)).length := by rw [List.length_zip, toldL_len]; omega
 have h := List.getElem_mem this
 rw [List.getElem_zip] at h
 exact h
/-- wherever an order stands, it is told the same -/
theorem mix_reply {B : Bk} (hI : InvB B) {l m : List Od} (h : Mix l m) (hl : ∀ z ∈ l, OdB z) (hv : Val m) {i k : Nat} (hi : i < l.length) (hk : k < m.length) (e : m[k].id = l[i].id) : (toldL B m)[k]'(by rw [toldL_len]; exact hk) = (toldL B l)[i]'(by rw [toldL_len]; exact hi) := by
 have h1 := (mix_told hI h hl).2.mem_iff.1 (toldZ_get (B := B) hi)
 unfold toldZ at h1
 obtain ⟨j, hj, ej⟩ := List.getElem_of_mem h1
 rw [List.length_zip, toldL_len] at hj
 rw [List.getElem_zip] at ej
 have hjm : j < m.length := by omega
 have e1 : m[j] = l[i] := congrArg Prod.fst ej
 have e2 := congrArg Prod.snd ej
 have : j = k := by
  rcases Nat.lt_trichotomy j k with hlt | rfl | hlt
  ·exact absurd (show m[j].id = m[k].id by rw [e1, e]) (List.pairwise_iff_getElem.1 hv j k hjm hk hlt)
  ·rfl
  ·exact absurd (show m[k].id = m[j].id by rw [e1, e]) (List.pairwise_iff_getElem.1 hv k j hk hjm hlt)
 subst this
 exact e2
theorem rightB_core (x : Od) : rightB x.core = rightB x := by
 have e : (dress x.core (bareO x.core)).core = (dress x (bareO x)).core := by
  unfold bareO
  show (dress x.core (if x.kind = 1 then _ else if x.kind = 2 then _ else if x.kind = 3 then _ else if x.kind = 4 then _ else if x.kind = 5 then _ else if x.kind = 6 then _ else _)).core = _
  repeat' split
  all_goals rfl
 have hs : sameB x.core (dress x.core (bareO x.core)) = sameB x (dress x (bareO x)) := by
  rw [Bool.eq_iff_iff, sameB_core, sameB_core, e]
  exact Iff.rfl
 have hf : fitsO x.core = fitsO x := rfl
 unfold rightB
 rw [hs, hf]
 rfl
theorem doL_core (B : Bk) (x : Od) : doL B x.core = doL B x := by
 unfold doL
 rw [rightB_core]
 rfl
theorem foldL_core : ∀ (l : List Od) (B : Bk), foldL B (K l) = foldL B l
 | [], _ => rfl
 | x :: r, B => by
  show foldL (doL B x.core).2 (K r) = foldL (doL B x).2 r
  rw [doL_core, foldL_core r]
end Go.Proofs.YtampniiehgimhaaGreat

/- rows and maps under a frame of many blocks -/
namespace Go.Proofs.YtampniiehgimhaaGreat
open Go.RowKit
theorem Own.sl_at {α : Type} [Enc α] {w : World} {base : Nat} {e : TypeId} {v : Value} {l : List α} {S : Nat → Prop} (h : Own w base e v l) (hb : ∀ b, v.ownBlock = some b → S b) (hx : ∀ x ∈ l, Enc.ok w S x) : ∃ A c, v = .slice A l.length c ∧ SlS w S A c l := by
 obtain ⟨⟨h1, h2⟩, h3⟩ := h
 rcases h2 with ⟨rfl, h0⟩ | ⟨g, cap, cur, rfl, hg, hh, hn, hm, hz, ht⟩
 ·have : l = [] := List.length_eq_zero_iff.1 h0
  subst this
  exact ⟨none, 0, rfl, SlS.nil_ _ _⟩
 ·refine ⟨_, _, rfl, hn, hm, fun _ => ⟨g, 0, rfl, hb g rfl, fun j u hu => ?_⟩, hx⟩
  rw [cell_of_row w g (0 + j) cur e (0, 0) hh, Nat.zero_add]
  rw [← ht, List.getElem?_take] at hu
  split at hu
  ·rw [← hu]; simp
  ·cases hu
theorem MapIs.gr {κ : Type} [DecidableEq κ] {enc : κ → Value} {w w' : World} {b : Nat} {M : List (κ × Value)} {S : Nat → Prop} (h : MapIs enc w b M) (hg : Gr w w' S) (hb : ¬ S b) : MapIs enc w' b M := by
 have hl := h.lt
 obtain ⟨es, cl, h1, h2, h3, h4, h5⟩ := h
 exact ⟨es, cl, by rw [hg.block b hl hb]; exact h1, h2, h3, h4, h5⟩
theorem mem_putM {κ ν : Type} [DecidableEq κ] {M : List (κ × ν)} {k : κ} {v : ν} {p : κ × ν} (h : p ∈ putM M k v) : p = (k, v) ∨ (p ∈ M ∧ p.1 ≠ k) := by
 unfold putM at h
 split at h
 ·obtain ⟨q, hq, rfl⟩ := List.mem_map.1 h
  by_cases e : q.1 = k
  ·rw [if_pos e]; exact .inl rfl
  ·rw [if_neg e]; exact .inr ⟨hq, e⟩
 ·rename_i hn
  rcases List.mem_append.1 h with h | h
  ·refine .inr ⟨h, fun e => hn ?_⟩
   rw [List.any_eq_true]
   exact ⟨p, h, decide_eq_true e⟩
  ·exact .inl (List.mem_singleton.1 h)
theorem getM_in {κ ν : Type} [DecidableEq κ] {M : List (κ × ν)} {k : κ} {v : ν} (h : getM M k = some v) : (k, v) ∈ M := by
 unfold getM at h
 cases hf : M.find? (fun p => decide (p.1 = k)) with
 | none => rw [hf] at h; cases h
 | some p =>
  rw [hf] at h
  have h1 := List.find?_some hf
  have h2 := List.mem_of_find?_eq_some hf
  obtain ⟨a, b⟩ := p
  have h3 : a = k := by simpa using h1
  have h4 : b = v := by simpa using h
  rw [← h3, ← h4]; exact h2
/-- what reads as cells is no map's block -/
theorem SlS.off_map {α κ : Type} [Enc α] {enc : κ → Value} {w : World} {S : Nat → Prop} {A : Option Addr} {c b : Nat} {l : List α} {M : List (κ × Value)} (h : SlS w S A c l) (hm : MapIs enc w b M) (hs : 0 < Enc.size α) (hx : ∀ x ∈ l, Enc.ok w (fun k => S k ∧ k ≠ b) x) : SlS w (fun k => S k ∧ k ≠ b) A c l := by
 obtain ⟨h1, h2, h3, _⟩ := h
 refine ⟨h1, h2, fun hn => ?_, hx⟩
 obtain ⟨b1, o, e, hb, hc⟩ := h3 hn
 refine ⟨b1, o, e, ⟨hb, fun e2 => ?_⟩, hc⟩
 have hlen : 0 < (l.flatMap Enc.cells).length := by rw [flat_len]; exact Nat.mul_pos hn hs
 have h0 := hc 0 _ (List.getElem?_eq_getElem hlen)
 obtain ⟨es, cl, hh, _⟩ := hm
 subst e2
 unfold World.cell? at h0
 simp [hh] at h0
end Go.Proofs.YtampniiehgimhaaGreat
