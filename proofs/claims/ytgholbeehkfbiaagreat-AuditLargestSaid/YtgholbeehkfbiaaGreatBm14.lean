/- Texts of this claim, laid together: Hinv, BkP, MapKeys, ChAll. -/
import Derived.Test.YtgholbeehkfbiaaGreatRows
import Derived.Test.YtgholbeehkfbiaaGreatBm13
import Derived.WalkKit
import Derived.WalkSpells
import Derived.WalkLawsBesides
import Derived.Deep.QuietTactic
import Derived.BigQuiet
import Derived.Laws.StructEq
import Derived.Deep.DeepFit
import Derived.StillTailTactics
import Derived.Test.YtgholbeehkfbiaaGreatBm7
import Derived.Maps.Own
import Derived.Sort.KeysCollected
import Derived.Test.YtgholbeehkfbiaaGreatBm1
import Derived.Test.YtgholbeehkfbiaaGreatBm3
import Derived.Test.YtgholbeehkfbiaaGreatBm11
import Derived.Test.YtgholbeehkfbiaaGreatShelf
import Derived.Test.YtgholbeehkfbiaaGreatBm12

/- law08: what holds and accounts keep -/
namespace Go.Proofs.YtgholbeehkfbiaaGreat
open Go.RowKit
def sumH : List Held → Int
  | [] => 0
  | x :: r => x.sum + sumH r
theorem sumH_perm {l m : List Held} (h : l.Perm m) : sumH l = sumH m := by
  induction h with
  | nil => rfl
  | cons x _ ih => unfold sumH; rw [ih]
  | swap x y l => unfold sumH; unfold sumH; omega
  | trans _ _ h1 h2 => rw [h1, h2]
theorem turnL_srt {D : Ac → Ac × Int} {L : List Ac} (h : SrtL ltA L) (k : ByteArray) (x : Int) : SrtL ltA (turnL D L k x).2 := by
  rcases turnL_cases D L k x with ⟨_, e⟩ | ⟨_, a, _, _, _, _, e⟩
  · rw [e]; exact h
  · rw [e]; exact setK_srt keyA h _
/-- name, set aside, limit -/
def nsl (a : Ac) : ByteArray × Int × Int := (a.name, a.set_, a.lim)
/-- all but what they have -/
def SS (L L' : List Ac) : Prop := L.map nsl = L'.map nsl
theorem setK_ss {L : List Ac} (h : SrtL ltA L) {a a' : Ac} (ha : a ∈ L) (e : nsl a' = nsl a) : SS L (setK Ac.name L a') := by
  have hn : a'.name = a.name := congrArg Prod.fst e
  unfold SS setK
  rw [List.map_map]
  refine (List.map_congr_left fun x hx => ?_).symm
  simp only [Function.comp_def]
  by_cases hx' : x.name = a'.name
  · rw [if_pos hx', h.one keyA hx ha (by rw [hx', hn]), e]
  · rw [if_neg hx']
theorem turnL_ss {L : List Ac} (h : SrtL ltA L) (k : ByteArray) (x y : Int) : SS L (turnL (givD y) L k x).2 := by
  rcases turnL_cases (givD y) L k x with ⟨_, e⟩ | ⟨_, a, hg, _, _, _, e⟩
  · rw [e]; rfl
  · rw [e]; exact setK_ss h (getK_mem hg).1 rfl
theorem postL_ss {L : List Ac} (h : SrtL ltA L) (x : Leg) : SS L (postL L x).2 ∧ SrtL ltA (postL L x).2 := by
  unfold postL
  split
  · exact ⟨rfl, h⟩
  · split
    · exact ⟨rfl, h⟩
    · exact ⟨turnL_ss h _ _ _, turnL_srt h _ _⟩
theorem allL_ss : ∀ (l : List Leg) {L : List Ac}, SrtL ltA L → SS L (allL L l).2 ∧ SrtL ltA (allL L l).2
  | [], _, h => ⟨rfl, h⟩
  | x :: r, L, h => by
    obtain ⟨h1, h2⟩ := postL_ss h x
    unfold allL
    split
    · exact ⟨h1, h2⟩
    · obtain ⟨h3, h4⟩ := allL_ss r h2
      exact ⟨Eq.trans h1 h3, h4⟩
theorem makeL_ss {L : List Ac} (h : SrtL ltA L) (l : List Leg) : SS L (makeL L l).2 ∧ SrtL ltA (makeL L l).2 := by
  unfold makeL
  split
  · exact ⟨rfl, h⟩
  · exact allL_ss l h
theorem SS.mem {L L' : List Ac} (h : SS L L') {a : Ac} (ha : a ∈ L') : ∃ b ∈ L, nsl b = nsl a := by
  have : nsl a ∈ L'.map nsl := List.mem_map.2 ⟨a, ha, rfl⟩
  rw [← h] at this
  obtain ⟨b, hb, e⟩ := List.mem_map.1 this
  exact ⟨b, hb, e⟩
theorem SS.symm {L L' : List Ac} (h : SS L L') : SS L' L := Eq.symm h
/-- what a chart and holds keep -/
structure InvH (L : List Ac) (H : List Held) : Prop where
  okA : OkA L
  srtA : SrtL ltA L
  okH : OkH H
  srtH : SrtL ltH H
  set : ∀ a ∈ L, a.set_ = sumH (ofL H a.name)
  few : ∀ s, (ofL H s).length ≤ 8
  at_ : ∀ x ∈ H, ∃ a ∈ L, a.name = x.acct
theorem InvH.ss {L L' : List Ac} {H : List Held} (h : InvH L H) (hs : SS L L') (hok : OkA L') (hsr : SrtL ltA L') : InvH L' H where
  okA := hok
  srtA := hsr
  okH := h.okH
  srtH := h.srtH
  few := h.few
  set a ha := by
    obtain ⟨b, hb, e⟩ := hs.mem ha
    have e1 : b.name = a.name := congrArg Prod.fst e
    have e2 : b.set_ = a.set_ := congrArg (fun p => p.2.1) e
    rw [← e1, ← e2]; exact h.set b hb
  at_ x hx := by
    obtain ⟨a, ha, e⟩ := h.at_ x hx
    obtain ⟨b, hb, e2⟩ := hs.symm.mem ha
    exact ⟨b, hb, (congrArg Prod.fst e2).trans e⟩
theorem ofL_perm {l m : List Held} (h : l.Perm m) (s : ByteArray) : (ofL l s).Perm (ofL m s) := h.filter _
theorem ofL_cons (x : Held) (l : List Held) (s : ByteArray) : ofL (x :: l) s = if x.acct = s then x :: ofL l s else ofL l s := by
  unfold ofL
  by_cases h : x.acct = s
  · rw [if_pos h, List.filter_cons_of_pos (by simpa using h)]
  · rw [if_neg h, List.filter_cons_of_neg (by simpa using h)]
/-- an account's set aside, and a hold: both turn alike -/
theorem InvH.turn {L : List Ac} {H H' : List Held} (h : InvH L H) {a : Ac} {k : ByteArray} (hg : getK Ac.name L k = some a) {d : Int} {v : Ac} (hv : v = { a with set_ := a.set_ + d }) (hok : OkA (setK Ac.name L v))
    (h1 : OkH H') (h2 : SrtL ltH H') (h3 : ∀ s, (ofL H' s).length ≤ 8) (h4 : ∀ s, sumH (ofL H' s) = sumH (ofL H s) + if s = k then d else 0) (h5 : ∀ x ∈ H', x ∈ H ∨ x.acct = k) : InvH (setK Ac.name L v) H' where
  okA := hok
  srtA := setK_srt keyA h.srtA _
  okH := h1
  srtH := h2
  few := h3
  set b hb := by
    obtain ⟨ha, hk⟩ := getK_mem hg
    have hvn : v.name = k := by rw [hv]; exact hk
    rw [h4]
    rcases setK_mem hb with rfl | ⟨hb, hne⟩
    · rw [if_pos hvn, hvn, ← hk, ← h.set a ha, hv]
    · rw [if_neg (fun e => hne (by rw [e, hvn])), Int.add_zero]
      exact h.set b hb
  at_ x hx := by
    obtain ⟨ha, hk⟩ := getK_mem hg
    have hvn : v.name = a.name := by rw [hv]
    have key : ∀ b ∈ L, ∃ c ∈ setK Ac.name L v, c.name = b.name := fun b hb => by
      by_cases he : b.name = v.name
      · exact ⟨v, List.mem_map.2 ⟨b, hb, by rw [if_pos he]⟩, he.symm⟩
      · exact ⟨b, List.mem_map.2 ⟨b, hb, by rw [if_neg he]⟩, rfl⟩
    rcases h5 x hx with hx | hx
    · obtain ⟨b, hb, e⟩ := h.at_ x hx
      obtain ⟨c, hc, e2⟩ := key b hb
      exact ⟨c, hc, e2.trans e⟩
    · obtain ⟨c, hc, e2⟩ := key a ha
      exact ⟨c, hc, by rw [e2, hk, hx]⟩
/-- one hold taken out -/
theorem del_perm {H : List Held} (h : SrtL ltH H) {k : Hk} {y : Held} (hg : getK Held.key H k = some y) : H.Perm (y :: delK Held.key H k) := by
  obtain ⟨hy, hk⟩ := getK_mem hg
  obtain ⟨i, hi, rfl⟩ := List.getElem_of_mem hy
  rw [← hk, delK_at keyH h hi]
  have e : H = H.take i ++ H[i] :: H.drop (i + 1) := by rw [← List.drop_eq_getElem_cons hi, List.take_append_drop]
  conv => lhs; rw [e]
  exact List.perm_middle
theorem asiD_0 {x : Int} {a : Ac} (h : (asiD x a).2 = 0) : (asiD x a).1 = { a with set_ := a.set_ + x } := by
  have h1 : (sumR (a.set_ + x)).2 = 0 := h
  show ({ a with set_ := (sumR (a.set_ + x)).1 } : Ac) = _
  rw [sumR_0 h1]
theorem InvH.free {L : List Ac} {H : List Held} (h : InvH L H) (k : ByteArray) (n : Int) : InvH (freeHL L H k n).2.1 (freeHL L H k n).2.2 := by
  have hokA := freeHL_ok h.okA H k n
  have hokH := freeHL_okH h.okH L k n
  unfold freeHL at *
  cases hg : getK Held.key H ⟨k, n⟩ with
  | none => rw [hg] at hokA hokH; exact h
  | some y =>
    rw [hg] at hokA hokH
    dsimp only at *
    rcases turnL_cases (asiD (-y.sum)) L k (-y.sum) with ⟨e0, e⟩ | ⟨e0, a, ha, hz, _, _, e⟩
    · rw [if_neg e0, e]; exact h
    · rw [if_pos e0] at hokH ⊢
      rw [e] at hokA ⊢
      have hp := del_perm h.srtH hg
      have hyk : y.acct = k := congrArg Hk.acct (getK_mem hg).2
      refine h.turn ha (asiD_0 hz) hokA hokH (delK_srt h.srtH _) (fun s => ?_) (fun s => ?_) (fun x hx => .inl (List.mem_filter.1 hx).1)
      · have h1 := (ofL_perm hp s).length_eq
        have h2 := h.few s
        rw [ofL_cons] at h1
        split at h1
        · rw [List.length_cons] at h1; omega
        · omega
      · have h1 := sumH_perm (ofL_perm hp s)
        rw [ofL_cons] at h1
        by_cases hs : s = k
        · rw [if_pos (by rw [hyk, hs])] at h1
          rw [if_pos hs, h1]
          show _ = y.sum + _ + -y.sum
          omega
        · rw [if_neg (by rw [hyk]; exact fun e => hs e.symm)] at h1
          rw [if_neg hs, h1, Int.add_zero]
theorem InvH.put {L : List Ac} {H : List Held} (h : InvH L H) (x : Held) (hx : R64 x.sum) (hk : x.acct.size ≤ maxLen) : InvH (putH L H x).2.1 (putH L H x).2.2 := by
  unfold putH
  by_cases h1 : x.num < 1 ∨ 9999 < x.num ∨ x.sum < 1
  · rw [if_pos h1]; exact h
  · rw [if_neg h1]
    by_cases h2 : (getK Held.key H x.key).isSome = true
    · rw [if_pos h2]; exact h
    · rw [if_neg h2]
      by_cases h3 : (ofL H x.acct).length = 8
      · rw [if_pos h3]; exact h
      · rw [if_neg h3]
        have hok := turnL_ok (asiD_ok x.sum) h.okA x.acct x.sum
        dsimp only
        rcases turnL_cases (asiD x.sum) L x.acct x.sum with ⟨e0, e⟩ | ⟨e0, a, ha, hz, _, _, e⟩
        · rw [if_neg e0, e]; exact h
        · rw [if_pos e0]
          rw [e] at hok ⊢
          have hp := insB_perm (lt := ltH) x H
          have hno : getK Held.key H x.key = none := by simpa using h2
          refine h.turn ha (asiD_0 hz) hok (fun y hy => ?_) (insB_srt keyH.strict x H h.srtH fun y hy => keyH.co _ _ fun e => getK_none.1 hno y hy e.symm) (fun s => ?_) (fun s => ?_) (fun y hy => ?_)
          · rcases List.mem_cons.1 (hp.mem_iff.1 hy) with rfl | hy
            · obtain ⟨g1, g2⟩ := hx
              exact ⟨by omega, by omega, by omega, g2, hk⟩
            · exact h.okH y hy
          · have h4 := (ofL_perm hp s).length_eq
            have h5 := h.few s
            rw [ofL_cons] at h4
            split at h4
            · rename_i hs
              have := h.few x.acct
              rw [hs] at this h3
              simp only [List.length_cons] at h4
              omega
            · omega
          · have h4 := sumH_perm (ofL_perm hp s)
            rw [ofL_cons] at h4
            by_cases hs : s = x.acct
            · rw [if_pos hs.symm] at h4
              rw [if_pos hs, h4]
              show x.sum + _ = _
              omega
            · rw [if_neg (fun e => hs e.symm)] at h4
              rw [if_neg hs, h4, Int.add_zero]
          · rcases List.mem_cons.1 (hp.mem_iff.1 hy) with rfl | hy
            · exact .inr rfl
            · exact .inl hy
theorem InvH.take {L : List Ac} {H : List Held} (h : InvH L H) (k : ByteArray) (n : Int) (p : ByteArray) (s : Int) : InvH (takeH L H k n p s).2.1 (takeH L H k n p s).2.2 := by
  unfold takeH
  cases hg : getK Held.key H ⟨k, n⟩ with
  | none => exact h
  | some y =>
    dsimp only
    by_cases h1 : s < 1 ∨ y.sum < s
    · rw [if_pos h1]; exact h
    · rw [if_neg h1]
      by_cases h2 : (turnL (asiD (-y.sum)) L k (-y.sum)).1 ≠ 0
      · rw [if_pos h2]; exact h
      · rw [if_neg h2]
        by_cases h3 : checkL (turnL (asiD (-y.sum)) L k (-y.sum)).2 (legs2 k p s) ≠ 0
        · rw [if_pos h3]; exact h
        · rw [if_neg h3]
          have hf := h.free k n
          obtain ⟨g1, g2⟩ := makeL_ss hf.srtA (legs2 k p s)
          exact hf.ss g1 (makeL_ok hf.okA _) g2
theorem freeHL_err {L : List Ac} {H : List Held} {k : ByteArray} {n : Int} (h : (freeHL L H k n).1 ≠ 0) : (freeHL L H k n).2 = (L, H) := by
  unfold freeHL at *
  cases hg : getK Held.key H ⟨k, n⟩ with
  | none => rfl
  | some y =>
    rw [hg] at h
    dsimp only at *
    rcases turnL_cases (asiD (-y.sum)) L k (-y.sum) with ⟨e0, e⟩ | ⟨e0, _⟩
    · rw [if_neg e0, e]
    · exact absurd e0 h
theorem putH_err {L : List Ac} {H : List Held} {x : Held} (h : (putH L H x).1 ≠ 0) : (putH L H x).2 = (L, H) := by
  unfold putH at *
  split
  · rfl
  · rename_i h1
    rw [if_neg h1] at h
    split
    · rfl
    · rename_i h2
      rw [if_neg h2] at h
      split
      · rfl
      · rename_i h3
        rw [if_neg h3] at h
        dsimp only at *
        rcases turnL_cases (asiD x.sum) L x.acct x.sum with ⟨e0, e⟩ | ⟨e0, _⟩
        · rw [if_neg e0, e]
        · exact absurd e0 h
/-- behind a check that found nothing, legs are posted -/
theorem make_of_check {L : List Ac} {l : List Leg} (h : checkL L l = 0) : makeL L l = allL L l ∧ (makeL L l).1 = 0 := by
  have h1 : makeL L l = allL L l := by unfold makeL; rw [if_neg (by rw [h]; simp)]
  refine ⟨h1, ?_⟩
  rw [h1]
  unfold checkL at h
  split at h
  · cases h
  · split at h
    · cases h
    · exact h
theorem freeHL_of {L : List Ac} {H : List Held} {k : ByteArray} {n : Int} {y : Held} (hg : getK Held.key H ⟨k, n⟩ = some y) (h : ¬ (turnL (asiD (-y.sum)) L k (-y.sum)).1 ≠ 0) : freeHL L H k n = (0, (turnL (asiD (-y.sum)) L k (-y.sum)).2, delK Held.key H ⟨k, n⟩) := by
  have h0 : (turnL (asiD (-y.sum)) L k (-y.sum)).1 = 0 := by simpa using h
  unfold freeHL
  rw [hg]
  dsimp only
  rw [if_pos h0, h0]
theorem takeH_err {L : List Ac} {H : List Held} {k p : ByteArray} {n s : Int} (h : (takeH L H k n p s).1 ≠ 0) : (takeH L H k n p s).2 = (L, H) := by
  unfold takeH at *
  cases hg : getK Held.key H ⟨k, n⟩ with
  | none => rfl
  | some y =>
    rw [hg] at h
    dsimp only at *
    split
    · rfl
    · rename_i h1
      rw [if_neg h1] at h
      split
      · rfl
      · rename_i h2
        rw [if_neg h2] at h
        split
        · rfl
        · rename_i h3
          rw [if_neg h3] at h
          rw [freeHL_of hg h2] at h
          exact absurd (make_of_check (by simpa using h3)).2 h
theorem freeHL_len (L : List Ac) (H : List Held) (k : ByteArray) (n : Int) : (freeHL L H k n).2.2.length ≤ H.length := by
  unfold freeHL
  cases getK Held.key H ⟨k, n⟩ with
  | none => exact Nat.le_refl _
  | some y =>
    dsimp only
    split
    · exact List.length_filter_le _ _
    · exact Nat.le_refl _
theorem turnL_len (D : Ac → Ac × Int) (L : List Ac) (k : ByteArray) (x : Int) : (turnL D L k x).2.length = L.length := by
  rcases turnL_cases D L k x with ⟨_, e⟩ | ⟨_, a, _, _, _, _, e⟩
  · rw [e]
  · rw [e, setK_len]
theorem SS.len {L L' : List Ac} (h : SS L L') : L'.length = L.length := by
  have := congrArg List.length h
  simpa using this.symm
theorem freeHL_lenA (L : List Ac) (H : List Held) (k : ByteArray) (n : Int) : (freeHL L H k n).2.1.length = L.length := by
  unfold freeHL
  cases getK Held.key H ⟨k, n⟩ with
  | none => rfl
  | some y => exact turnL_len _ _ _ _
/-- the loop's sum -/
theorem sumH_snoc (l : List Held) (x : Held) : sumH (l ++ [x]) = sumH l + x.sum := by
  induction l with
  | nil => show x.sum + 0 = 0 + x.sum; omega
  | cons y r ih => rw [List.cons_append]; unfold sumH; rw [ih]; omega
theorem sumH_pos {l : List Held} (h : ∀ x ∈ l, 1 ≤ x.sum) : 0 ≤ sumH l := by
  induction l with
  | nil => exact Int.le_refl _
  | cons y r ih =>
    unfold sumH
    have := ih fun x hx => h x (List.mem_cons_of_mem _ hx)
    have := h y (List.mem_cons_self ..)
    omega
theorem sumH_take_le {l : List Held} (h : ∀ x ∈ l, 1 ≤ x.sum) (k : Nat) : 0 ≤ sumH (l.take k) ∧ sumH (l.take k) ≤ sumH l := by
  refine ⟨sumH_pos fun x hx => h x (List.mem_of_mem_take hx), ?_⟩
  induction l generalizing k with
  | nil => simp
  | cons y r ih =>
    cases k with
    | zero => exact sumH_pos h
    | succ k =>
      rw [List.take_succ_cons]
      unfold sumH
      have := ih (fun x hx => h x (List.mem_cons_of_mem _ hx)) k
      omega
theorem ofL_sums {H : List Held} (h : OkH H) (s : ByteArray) : ∀ x ∈ ofL H s, 1 ≤ x.sum := fun x hx => (h x (List.mem_filter.1 hx).1).2.2.1
end Go.Proofs.YtgholbeehkfbiaaGreat

/- book: what orders do, in plain Lean -/
namespace Go.Proofs.YtgholbeehkfbiaaGreat
open Go.RowKit
/-- a book: accounts and holds in order, the last closed period -/
structure Bk where
  L : List Ac
  H : List Held
  cl : Int
theorem Bk.ext_ {a b : Bk} (h1 : a.L = b.L) (h2 : a.H = b.H) (h3 : a.cl = b.cl) : a = b := by cases a; cases b; simp_all
def rpE (e : Int) : Rp := ⟨e, 0, 0, 0⟩
/-- (*book.Book).tells -/
def tellsL (L : List Ac) (k : ByteArray) (e : Int) : Rp := if e ≠ 0 then rpE e else if (getLR L k).2 ≠ 0 then rpE (getLR L k).2 else ⟨0, (getLR L k).1.hav, (getLR L k).1.set_, 0⟩
/-- order.Number -/
def numO (x : Od) : Int := 1000 * x.client + x.seq
def withN (r : Rp) (n : Int) : Rp := if r.err = 0 then { r with num := n } else r
def openD (B : Bk) (x : Od) : Rp × Bk := (tellsL (openL B.L x.acct x.sum).2 x.acct (openL B.L x.acct x.sum).1, ⟨(openL B.L x.acct x.sum).2, B.H, B.cl⟩)
def postD (B : Bk) (x : Od) : Rp × Bk := if x.period ≤ B.cl then (rpE 10, B) else (rpE (makeL B.L x.legs).1, ⟨(makeL B.L x.legs).2, B.H, B.cl⟩)
def holdD (B : Bk) (x : Od) : Rp × Bk := (withN (tellsL (putH B.L B.H ⟨numO x, x.acct, x.sum⟩).2.1 x.acct (putH B.L B.H ⟨numO x, x.acct, x.sum⟩).1) (numO x), ⟨(putH B.L B.H ⟨numO x, x.acct, x.sum⟩).2.1, (putH B.L B.H ⟨numO x, x.acct, x.sum⟩).2.2, B.cl⟩)
def capD (B : Bk) (x : Od) : Rp × Bk := if x.period ≤ B.cl then (rpE 10, B) else (tellsL (takeH B.L B.H x.acct x.hold x.peer x.sum).2.1 x.acct (takeH B.L B.H x.acct x.hold x.peer x.sum).1, ⟨(takeH B.L B.H x.acct x.hold x.peer x.sum).2.1, (takeH B.L B.H x.acct x.hold x.peer x.sum).2.2, B.cl⟩)
def relD (B : Bk) (x : Od) : Rp × Bk := (tellsL (freeHL B.L B.H x.acct x.hold).2.1 x.acct (freeHL B.L B.H x.acct x.hold).1, ⟨(freeHL B.L B.H x.acct x.hold).2.1, (freeHL B.L B.H x.acct x.hold).2.2, B.cl⟩)
def shutD (B : Bk) (x : Od) : Rp × Bk := if x.period ≤ B.cl then (rpE 10, B) else (⟨0, 0, 0, x.period⟩, ⟨B.L, B.H, x.period⟩)
def askD (B : Bk) (x : Od) : Rp × Bk := (tellsL B.L x.acct 0, B)
def kindD (B : Bk) (x : Od) : Rp × Bk := if x.kind = 1 then openD B x else if x.kind = 2 then postD B x else if x.kind = 3 then holdD B x else if x.kind = 4 then capD B x else if x.kind = 5 then relD B x else if x.kind = 6 then shutD B x else askD B x
/-- (*book.Book).Do -/
def doL (B : Bk) (x : Od) : Rp × Bk := if rightB x = false then (rpE 1, B) else kindD B x
def bk0 : Bk := ⟨[], [], 0⟩
/-- the book behind orders -/
def foldL (B : Bk) : List Od → Bk
  | [] => B
  | x :: r => foldL (doL B x).2 r
/-- what they are told -/
def toldL (B : Bk) : List Od → List Rp
  | [] => []
  | x :: r => (doL B x).1 :: toldL (doL B x).2 r
theorem foldL_app (l m : List Od) : ∀ B : Bk, foldL B (l ++ m) = foldL (foldL B l) m := by
  induction l with
  | nil => intro B; rfl
  | cons x r ih => intro B; exact ih _
theorem toldL_app (l m : List Od) : ∀ B : Bk, toldL B (l ++ m) = toldL B l ++ toldL (foldL B l) m := by
  induction l with
  | nil => intro B; rfl
  | cons x r ih => intro B; show _ :: toldL _ (r ++ m) = _; rw [ih]; rfl
theorem toldL_len (l : List Od) : ∀ B : Bk, (toldL B l).length = l.length := by
  induction l with
  | nil => intro B; rfl
  | cons x r ih => intro B; show (toldL _ r).length + 1 = r.length + 1; rw [ih]
theorem foldL_snoc (B : Bk) (l : List Od) (x : Od) : foldL B (l ++ [x]) = (doL (foldL B l) x).2 := foldL_app l [x] B
theorem toldL_snoc (B : Bk) (l : List Od) (x : Od) : toldL B (l ++ [x]) = toldL B l ++ [(doL (foldL B l) x).1] := toldL_app l [x] B
/-- what a right order is -/
theorem rightB_ids {x : Od} (h : rightB x = true) : (1 ≤ x.kind ∧ x.kind ≤ 7) ∧ (0 ≤ x.client ∧ x.client ≤ 9) ∧ 1 ≤ x.seq ∧ x.seq ≤ 999 := by
  unfold rightB at h
  simp only [Bool.and_eq_true, decide_eq_true_eq] at h
  exact ⟨h.1, h.2.1.1, h.2.1.2⟩
theorem rightB_fits {x : Od} (h : rightB x = true) : fitsO x = true := by
  unfold rightB at h
  simp only [Bool.and_eq_true] at h
  exact h.2.2.2
theorem numO_range {x : Od} (h : rightB x = true) : 1 ≤ numO x ∧ numO x ≤ 9999 := by
  obtain ⟨_, h1, h2⟩ := rightB_ids h
  unfold numO
  omega
theorem insB_mem {α : Type} {lt : α → α → Bool} {x y : α} {L : List α} : y ∈ insB lt x L ↔ y = x ∨ y ∈ L := by rw [(insB_perm x L).mem_iff, List.mem_cons]
theorem openL_cases (L : List Ac) (k : ByteArray) (lim : Int) : ((openL L k lim).1 ≠ 0 ∧ (openL L k lim).2 = L) ∨ ((openL L k lim).1 = 0 ∧ nameB k = true ∧ 0 ≤ lim ∧ getK Ac.name L k = none ∧ L.length ≠ 12 ∧ (openL L k lim).2 = insB ltA ⟨k, 0, 0, lim⟩ L) := by
  unfold openL
  by_cases h1 : nameB k = false ∨ lim < 0
  · rw [if_pos h1]; exact .inl ⟨by show (1 : Int) ≠ 0; decide, rfl⟩
  · rw [if_neg h1]
    by_cases h2 : (getK Ac.name L k).isSome = true
    · rw [if_pos h2]; exact .inl ⟨by show (7 : Int) ≠ 0; decide, rfl⟩
    · rw [if_neg h2]
      by_cases h3 : L.length = 12
      · rw [if_pos h3]; exact .inl ⟨by show (5 : Int) ≠ 0; decide, rfl⟩
      · rw [if_neg h3]
        exact .inr ⟨rfl, by simpa using fun e => h1 (.inl e), by omega, by simpa using h2, h3, rfl⟩
theorem InvH.open_ {L : List Ac} {H : List Held} (h : InvH L H) (k : ByteArray) {lim : Int} (hl : R64 lim) : InvH (openL L k lim).2 H := by
  have hok := openL_ok h.okA k hl
  rcases openL_cases L k lim with ⟨_, e⟩ | ⟨_, _, _, hg, _, e⟩
  · rw [e]; exact h
  · rw [e] at hok ⊢
    have hno := getK_none.1 hg
    refine ⟨hok, insB_srt keyA.strict _ _ h.srtA (fun y hy => keyA.co _ _ (fun e => hno y hy e.symm)), h.okH, h.srtH, ?_, h.few, ?_⟩
    · intro a ha
      rcases insB_mem.1 ha with rfl | ha
      · have hn : ofL H k = [] := by
          unfold ofL
          rw [List.filter_eq_nil_iff]
          intro x hx
          obtain ⟨a, ha, hk⟩ := h.at_ x hx
          have := hno a ha
          simp only [decide_eq_true_eq]
          rw [← hk]
          exact this
        show (0 : Int) = sumH (ofL H k)
        rw [hn]; rfl
      · exact h.set a ha
    · intro x hx
      obtain ⟨a, ha, hk⟩ := h.at_ x hx
      exact ⟨a, insB_mem.2 (.inr ha), hk⟩
theorem InvH.make_ {L : List Ac} {H : List Held} (h : InvH L H) (l : List Leg) : InvH (makeL L l).2 H :=
  h.ss (makeL_ss h.srtA l).1 (makeL_ok h.okA l) (makeL_ss h.srtA l).2
theorem few_names : ∀ (N : List ByteArray) (H : List Held), (∀ x ∈ H, x.acct ∈ N) → (∀ s, (ofL H s).length ≤ 8) → H.length ≤ 8 * N.length
  | [], H, h, _ => by
    cases H with
    | nil => exact Nat.zero_le _
    | cons x r => exact absurd (h x (List.mem_cons_self ..)) (by simp)
  | n :: r, H, h, hf => by
    have e : H.length = (ofL H n).length + (H.filter fun x => !decide (x.acct = n)).length := by
      unfold ofL
      induction H with
      | nil => rfl
      | cons x q ih =>
        have ih := ih (fun y hy => h y (List.mem_cons_of_mem _ hy)) (fun s => Nat.le_trans (by rw [ofL_cons]; split <;> simp) (hf s))
        by_cases hx : x.acct = n
        · rw [List.filter_cons_of_pos (by simpa using hx), List.filter_cons_of_neg (by simpa using hx)]
          simp only [List.length_cons]
          omega
        · rw [List.filter_cons_of_neg (by simpa using hx), List.filter_cons_of_pos (by simpa using hx)]
          simp only [List.length_cons]
          omega
    have h2 := few_names r (H.filter fun x => !decide (x.acct = n)) (fun x hx => by
      obtain ⟨hx, hn⟩ := List.mem_filter.1 hx
      rcases List.mem_cons.1 (h x hx) with e | hr
      · simp [e] at hn
      · exact hr) (fun s => Nat.le_trans ((List.Sublist.filter _ List.filter_sublist).length_le) (hf s))
    have h1 := hf n
    simp only [List.length_cons]
    omega
/-- what a book keeps -/
structure InvB (B : Bk) : Prop where
  inv : InvH B.L B.H
  len : B.L.length ≤ 12
  cl : 0 ≤ B.cl ∧ B.cl ≤ 1000
theorem InvB.lenH {B : Bk} (h : InvB B) : B.H.length ≤ 96 := by
  have := few_names (B.L.map Ac.name) B.H (fun x hx => by
    obtain ⟨a, ha, e⟩ := h.inv.at_ x hx
    exact List.mem_map.2 ⟨a, ha, e⟩) h.inv.few
  rw [List.length_map] at this
  have := h.len
  omega
theorem inv_bk0 : InvB bk0 where
  inv := ⟨by simp [bk0, OkA], List.Pairwise.nil, by simp [bk0, OkH], List.Pairwise.nil, by simp [bk0], fun s => by show ([] : List Held).length ≤ 8; decide, by simp [bk0]⟩
  len := by decide
  cl := by decide
/-- an order as a book takes it: its texts are short, its numbers of 64 bits -/
structure OdB (x : Od) : Prop where
  acct : x.acct.size ≤ maxLen
  peer : x.peer.size ≤ maxLen
  rng : InR x
theorem takeH_lenA (L : List Ac) (H : List Held) (hs : SrtL ltA L) (k : ByteArray) (n : Int) (p : ByteArray) (s : Int) : (takeH L H k n p s).2.1.length = L.length := by
  unfold takeH
  cases getK Held.key H ⟨k, n⟩ with
  | none => rfl
  | some y =>
    dsimp only
    split
    · rfl
    · split
      · rfl
      · split
        · rfl
        · have h1 := freeHL_lenA L H k n
          have hs1 : SrtL ltA (freeHL L H k n).2.1 := by
            unfold freeHL
            cases getK Held.key H ⟨k, n⟩ with
            | none => exact hs
            | some y => exact turnL_srt hs _ _
          rw [(makeL_ss hs1 (legs2 k p s)).1.len, h1]
theorem putH_lenA (L : List Ac) (H : List Held) (x : Held) : (putH L H x).2.1.length = L.length := by
  unfold putH
  split
  · rfl
  · split
    · rfl
    · split
      · rfl
      · exact turnL_len _ _ _ _
theorem openL_len {L : List Ac} (k : ByteArray) (lim : Int) (h : L.length ≤ 12) : (openL L k lim).2.length ≤ 12 := by
  rcases openL_cases L k lim with ⟨_, e⟩ | ⟨_, _, _, _, hn, e⟩
  · rw [e]; exact h
  · rw [e, (insB_perm _ _).length_eq, List.length_cons]; omega
theorem InvB.do_ {B : Bk} (h : InvB B) {x : Od} (hx : OdB x) : InvB (doL B x).2 := by
  obtain ⟨r1, r2, r3, r4, r5, r6, r7⟩ := hx.rng
  unfold doL
  by_cases hr : rightB x = false
  · rw [if_pos hr]; exact h
  rw [if_neg hr]
  have hr' : rightB x = true := by simpa using hr
  have hf := rightB_fits hr'
  unfold kindD
  unfold fitsO at hf
  by_cases k1 : x.kind = 1
  · rw [if_pos k1]
    exact ⟨h.inv.open_ _ r4, openL_len _ _ h.len, h.cl⟩
  rw [if_neg k1] at hf ⊢
  by_cases k2 : x.kind = 2
  · rw [if_pos k2]
    unfold postD
    split
    · exact h
    · exact ⟨h.inv.make_ _, by show (makeL B.L x.legs).2.length ≤ 12; rw [(makeL_ss h.inv.srtA _).1.len]; exact h.len, h.cl⟩
  rw [if_neg k2] at hf ⊢
  by_cases k3 : x.kind = 3
  · rw [if_pos k3]
    exact ⟨h.inv.put _ r4 hx.acct, by show (putH B.L B.H ⟨numO x, x.acct, x.sum⟩).2.1.length ≤ 12; rw [putH_lenA]; exact h.len, h.cl⟩
  rw [if_neg k3] at hf ⊢
  by_cases k4 : x.kind = 4
  · rw [if_pos k4]
    unfold capD
    split
    · exact h
    · exact ⟨h.inv.take _ _ _ _, by show (takeH B.L B.H x.acct x.hold x.peer x.sum).2.1.length ≤ 12; rw [takeH_lenA _ _ h.inv.srtA]; exact h.len, h.cl⟩
  rw [if_neg k4] at hf ⊢
  by_cases k5 : x.kind = 5
  · rw [if_pos k5]
    exact ⟨h.inv.free _ _, by show (freeHL B.L B.H x.acct x.hold).2.1.length ≤ 12; rw [freeHL_lenA]; exact h.len, h.cl⟩
  rw [if_neg k5] at hf ⊢
  by_cases k6 : x.kind = 6
  · rw [if_pos k6] at hf ⊢
    unfold shutD
    unfold fits6 periodB at hf
    simp only [Bool.and_eq_true, decide_eq_true_eq] at hf
    split
    · exact h
    · exact ⟨h.inv, h.len, by show 0 ≤ x.period ∧ x.period ≤ 1000; omega⟩
  rw [if_neg k6]
  exact h
theorem InvB.fold {B : Bk} (h : InvB B) : ∀ (l : List Od), (∀ x ∈ l, OdB x) → InvB (foldL B l) := by
  intro l
  induction l generalizing B with
  | nil => intro _; exact h
  | cons x r ih => intro hl; exact ih (h.do_ (hl x (List.mem_cons_self ..))) fun y hy => hl y (List.mem_cons_of_mem _ hy)
end Go.Proofs.YtgholbeehkfbiaaGreat

/- A map with texts as keys, as the kit's sorted keys read it. No program. -/
namespace Go.Proofs.YtgholbeehkfbiaaGreat
open Go.WideElems (Fit rd rg rd_mk rg_of)

def anyR : Value → Option (DataW Unit × List MemPlace) := fun _ => some (.lit (.bool true), [])
def bytesOf : Value → List UInt8
  | .string s => s.data.toList
  | _ => []
theorem ownsMap_of {P : Program} {k : TypeId} (hk : P.underlying k = some .string) {w : World} {b : Nat} {M : List (ByteArray × Value)} (h : MapIs Value.string w b M) (hn : M.length ≤ maxLen) (hs : ∀ p ∈ M, p.1.size ≤ maxLen) :
    ∃ D0 : DataW Unit, w.ownsMap P k anyR b M.length D0 ∧ (strKeys D0).Perm (M.map fun p => p.1.data.toList) ∧ Maps.size D0 = M.length := by
  obtain ⟨es, clock, hb, he, hpw, hcl, hnd⟩ := h
  have hlen : es.size = M.length := by have := congrArg List.length he; simpa using this
  have hkey : ∀ x ∈ es.toList, ∃ p ∈ M, x.key = .string p.1 := fun x hx => by
    have : (x.key, x.val) ∈ M.map (fun p => (Value.string p.1, p.2)) := by rw [← he]; exact List.mem_map.2 ⟨x, hx, rfl⟩
    obtain ⟨p, hp, e⟩ := List.mem_map.1 this
    injection e with e1 e2
    exact ⟨p, hp, e1.symm⟩
  have hrd : ∀ x ∈ es.toList, rd P k anyR x = some (.string (bytesOf x.key), .lit (.bool true)) := fun x hx => by
    obtain ⟨p, hp, e⟩ := hkey x hx
    have h1 : keyOf P k x.key = some (.string p.1.data.toList) := by rw [e]; exact WideMaps.keyOf_string_mk hk (hs p hp)
    have := rd_mk (R := anyR) (val := x.val) (born := x.born) h1 rfl
    rw [e]
    exact this
  have hkeys : (es.toList.map (·.key)) = M.map (fun p => Value.string p.1) := by
    have := congrArg (List.map Prod.fst) he
    simpa [List.map_map, Function.comp_def] using this
  refine ⟨_, ⟨es, clock, hb, ⟨by omega, ⟨hcl, ?_, ?_⟩, fun x hx => ⟨_, hrd x hx⟩⟩, by omega, rfl⟩, ?_, ?_⟩
  · exact List.pairwise_map.2 (hpw.imp fun h => Nat.ne_of_lt h)
  · rw [hkeys]
    exact List.pairwise_map.2 (hnd.imp fun h e => h (by injection e))
  · show ((List.foldr DataW.insert [] (es.toList.map (rg P k anyR))).map fun p => strOf p.1).Perm _
    refine ((WideShapes.sorted_perm _).map _).trans (List.Perm.of_eq ?_)
    rw [List.map_map]
    have h1 : es.toList.map ((fun p : Lit × DataW Unit => strOf p.1) ∘ rg P k anyR) = es.toList.map (fun x => bytesOf x.key) := List.map_congr_left fun x hx => by
      simp only [Function.comp_def, rg_of (hrd x hx)]
      rfl
    rw [h1]
    have := congrArg (List.map bytesOf) hkeys
    rw [List.map_map, List.map_map] at this
    exact this
  · show (List.foldr DataW.insert [] (es.toList.map (rg P k anyR))).length = _
    rw [(WideShapes.sorted_perm _).length_eq, List.length_map, Array.length_toList, hlen]
theorem bl_lt : ∀ {a b : List UInt8}, Op.bytesLess a b = true → a < b
  | _, [], h => by simp [Op.bytesLess] at h
  | [], _ :: _, _ => List.nil_lt_cons _ _
  | x :: r, y :: s, h => by
    simp only [Op.bytesLess, Bool.or_eq_true, decide_eq_true_eq, Bool.and_eq_true, beq_iff_eq] at h
    rcases h with h | ⟨rfl, h⟩
    · exact List.cons_lt_cons_iff.2 (.inl h)
    · exact List.cons_lt_cons_iff.2 (.inr ⟨rfl, bl_lt h⟩)
theorem bless_le {a b : ByteArray} (h : bless a b = true) : a.data.toList ≤ b.data.toList := by
  unfold bless at h
  rw [ByteArray.toList_eq, ByteArray.toList_eq] at h
  exact List.le_of_lt (bl_lt h)
/-- what the kit's sort hands back, where the keys are known in order -/
theorem sorted_keys {ss : List (List UInt8)} {N : List ByteArray} (hp : ss.Perm (N.map fun a => a.data.toList)) (hs : N.Pairwise fun a b => bless a b = true) : (ss.mergeSort (fun x y => decide (x ≤ y))).map _root_.Go.Proofs.encStr = N.map Value.string := by
  have e : ss.mergeSort (fun x y => decide (x ≤ y)) = N.map fun a => a.data.toList := by
    have tr : ∀ a b c : List UInt8, leB a b = true → leB b c = true → leB a c = true := fun a b c h1 h2 => by simp only [leB, decide_eq_true_eq] at *; exact List.le_trans h1 h2
    have to : ∀ a b : List UInt8, (leB a b || leB b a) = true := fun a b => by simp only [leB, Bool.or_eq_true, decide_eq_true_eq]; exact List.le_total a b
    refine List.Perm.eq_of_pairwise (le := fun a b => leB a b = true) (fun a b _ _ h1 h2 => ?_) (List.pairwise_mergeSort tr to ss) ?_ ((List.mergeSort_perm ss leB).trans hp)
    · simp only [leB, decide_eq_true_eq] at h1 h2
      exact List.le_antisymm h1 h2
    · rw [List.pairwise_map]
      exact hs.imp fun h => decide_eq_true (bless_le h)
  rw [e, List.map_map]
  refine List.map_congr_left fun a _ => ?_
  obtain ⟨⟨x⟩⟩ := a
  rfl
end Go.Proofs.YtgholbeehkfbiaaGreat

/- chart.All -/
namespace Go.Proofs.YtgholbeehkfbiaaGreat
open Go.RowKit
theorem acInfo_ : (Tryz.prog.info? 113).map (fun i => (i.zero, i.size, i.bytes)) = some (some (.agg #[.string ByteArray.empty, i64 0, i64 0, i64 0]), Enc.size Ac, 40) := by kernel_rfl
theorem keysA_c (mb : Option Nat) (W : World) : Calls Tryz.prog 144 #[.map mb] W fun e w' => e = .returned (.func (.func 192) #[] #[.pointer (some ⟨W.heap.size, 0, none⟩)]) ∧ w' = W.alloc (.cells #[.map mb] 196) :=
  (callsIn_wide (n := 5)).1 (AnyZ.keys_in Tryz.keysA Fence.wide 5 trivial rfl mb W)
theorem sortsA (m : Nat) : AnyZ.SortsIn Tryz.prog Tryz.sortedA_ren Fence.wide m :=
  ⟨fun blk off cap ss W hH hblk hsz => callsIn_wide.2 (Tryz.slices_Sort_string blk off cap ss W hH hblk hsz),
   fun p cap W => callsIn_wide.2 (Tryz.slices_Sort_string_none p cap W)⟩
theorem RkA.names {M : List (ByteArray × Ac)} {L : List Ac} (h : RkA M L) : (M.map (·.1)).Perm (L.map Ac.name) := by
  have h1 := h.perm.map Ac.name
  rw [List.map_map] at h1
  refine (List.Perm.of_eq (List.map_congr_left fun p hp => ?_)).trans h1
  exact (h.key p hp).symm
theorem srt_names {L : List Ac} (h : SrtL ltA L) : (L.map Ac.name).Pairwise fun a b => bless a b = true := List.pairwise_map.2 h
theorem nameB_sz {s : ByteArray} (h : nameB s = true) : s.size ≤ 8 := by
  unfold nameB at h
  simp only [Bool.and_eq_true, decide_eq_true_eq] at h
  exact h.2.2
theorem flat1 (N : List ByteArray) : N.flatMap Enc.cells = N.map Value.string := by
  induction N with
  | nil => rfl
  | cons a r ih => rw [List.flatMap_cons, ih]; rfl
theorem OkA.sizes {L : List Ac} (h : OkA L) : ∀ a ∈ L, a.name.size ≤ 8 := fun a ha => nameB_sz (h a ha).2.2
theorem mergeSort_len_ (ss : List (List UInt8)) : (ss.mergeSort fun x y => decide (x ≤ y)).length = ss.length := (List.mergeSort_perm ss _).length_eq
set_option maxRecDepth 100000 in
set_option maxHeartbeats 2000000 in
theorem sortedA_c (b : Nat) (M : List (ByteArray × Ac)) (L : List Ac) (W : World) (h : MapIs Value.string W b (mv M)) (hr : RkA M L) (hok : OkA L) (hn : L.length ≤ 65536) :
    Calls Tryz.prog 94 #[.func (.func 192) #[] #[.pointer (some ⟨W.heap.size, 0, none⟩)]] (W.alloc (.cells #[.map (some b)] 196)) fun e w' =>
      ∃ v, e = .returned v ∧ Own w' (W.heap.size + 1) 9 v (L.map Ac.name) ∧ Below (W.heap.size + 1) (W.alloc (.cells #[.map (some b)] 196)) w' := by
  have hML : (mv M).length = L.length := by unfold mv; rw [List.length_map]; exact hr.len
  have hsz : ∀ p ∈ mv M, p.1.size ≤ 8 := fun p hp => by
    obtain ⟨q, hq, rfl⟩ := List.mem_map.1 hp
    have h1 : q.1 ∈ L.map Ac.name := hr.names.mem_iff.1 (List.mem_map.2 ⟨q, hq, rfl⟩)
    obtain ⟨a, ha, e⟩ := List.mem_map.1 h1
    have := hok.sizes a ha
    show q.1.size ≤ 8
    rw [← e]; exact this
  obtain ⟨D0, hown, hk, hz⟩ := ownsMap_of (P := Tryz.prog) (k := 9) Tryz.underlying9 h (by rw [hML]; unfold maxLen; omega) (fun p hp => by have := hsz p hp; unfold maxLen; omega)
  refine (callsIn_wide (n := 5)).1 ?_
  have hbl := hown.lt
  have hseq : SeqGives Fence.wide 2 Tryz.prog 192 #[.pointer (some ⟨W.heap.size, 0, none⟩)] _root_.Go.Proofs.encStr (fun ss => ss.Perm (strKeys D0)) (Maps.size D0) (W.alloc (.cells #[.map (some b)] 196)) :=
    AnyZ.keys_gives (ρ := Tryz.keysA_ren) { Tryz.keysA with } Fence.wide _ trivial rfl (by omega) W.heap.size b (mv M).length D0 _ (by simp) (by simp) (by
      obtain ⟨es, clock, hb, Ft, hs, hD⟩ := hown
      exact ⟨es, clock, (Below.heap_alloc _ _ b hbl).trans hb, Ft, hs, hD⟩)
  have cS := AnyZ.sorted_in Tryz.sortedA Fence.wide 5 trivial trivial trivial trivial rfl (by omega) (sortsA _) (enters_of Tryz.func129 (by kernel_rfl) rfl) 192 #[.pointer (some ⟨W.heap.size, 0, none⟩)] trivial (enters_of Tryz.func192 (by kernel_rfl) rfl) _ _ (by rw [hz, hML]; unfold maxLen; omega) (by rw [hz, hML]; omega) _ hseq
  change CallsIn _ _ Tryz.prog 94 _ _ _ at cS
  refine cS.mono ?_
  rintro e w' ⟨v, ss, rfl, hS, hrow, hnil, hb⟩
  have hp : ss.Perm ((L.map Ac.name).map fun a => a.data.toList) := by
    refine (hS.trans hk).trans ?_
    have := hr.names.map (fun a : ByteArray => a.data.toList)
    refine List.Perm.trans (List.Perm.of_eq ?_) this
    unfold mv
    rw [List.map_map, List.map_map]
    rfl
  have hlen : ss.length = (L.map Ac.name).length := by rw [hp.length_eq, List.length_map]
  rw [sorted_keys hp (srt_names hr.srt), hlen] at hrow
  refine ⟨v, rfl, ⟨?_, fun x hx => ?_⟩, by simpa using hb⟩
  · rw [flat1]
    have hs : (W.alloc (.cells #[.map (some b)] 196)).heap.size = W.heap.size + 1 := by simp
    rw [hs] at hrow
    exact hrow
  · obtain ⟨a, ha, rfl⟩ := List.mem_map.1 hx
    have := hok.sizes a ha
    show a.name.size ≤ maxLen
    unfold maxLen; omega
set_option maxRecDepth 100000 in
set_option maxHeartbeats 4000000 in
theorem challA_c (g b : Nat) (L : List Ac) (w : World) (h : ChA w g b L) (hok : OkA L) (hn : L.length ≤ 65536) :
    Calls Tryz.prog 104 #[.pointer (some ⟨g, 0, none⟩)] w fun e w' => ∃ v, e = .returned v ∧ Own w' w.heap.size 113 v L ∧ Below w.heap.size w w' := by
  have hsrt := h.srt
  obtain ⟨M, h, hr⟩ := h
  have hlg := h.lt.1
  have Hr := Lib.hid hr
  have Hok := Lib.hid hok
  have c0 := cell_of_row _ g 0 _ _ (0, 0) h.cell
  simp only [List.getElem?_toArray, List.getElem?_cons_zero] at c0
  have Hch := Lib.hid h
  have Hsr := Lib.hid hsrt
  have hK := Lib.hid fun W => keysA_c (some b) W
  have hS := Lib.hid (sortedA_c b M L w h.map hr hok hn)
  clear h hr hok hsrt
  go_enter Tryz.func104, Tryz.ntmps104
  go_wp2_with fail
  refine (hK.out _).mono ?_
  rintro e w1 ⟨rfl, rfl⟩
  go_wp2_with fail
  refine hS.out.mono ?_
  rintro e w2 ⟨kv, rfl, hkv, hF⟩
  have hB2 : Below w.heap.size w w2 := ((Below.refl _ w).alloc (Nat.le_refl _) _).trans (hF.mono (Nat.le_succ _))
  have Hkv := Lib.hid hkv
  clear hK hS hF hkv
  have hkl : (L.map Ac.name).length = L.length := List.length_map ..
  obtain ⟨A, c, rfl⟩ : ∃ A c, kv = .slice A L.length c := by
    obtain ⟨-, hrw⟩ := Hkv.out.1
    rw [hkl] at hrw
    rcases hrw with ⟨e, e0⟩ | ⟨gb, cap, _, e, _⟩
    · exact ⟨none, 0, by rw [e, e0]⟩
    · exact ⟨_, _, e⟩
  have hsz2 := hB2.size
  go_wp2_with fail
  go_loopw [3, 15] (fun v i wr => ∃ n : Nat, i = i64 n ∧ n ≤ L.length ∧ Own wr w2.heap.size 113 v (L.take n) ∧ Below w2.heap.size w2 wr) (fun _ i _ => L.length - (intOf i).toNat)
  case atStart => exact ⟨0, rfl, Nat.zero_le _, Own.nil_ _ _ _, Below.refl _ _⟩
  case round =>
    obtain ⟨n, rfl, hnl, hO, hB⟩ := hrel
    by_cases hlt : n < L.length
    · obtain ⟨gb, cap, cur, hkv1, hgb, hrow, -⟩ := Hkv.out.form (by rw [hkl]; omega)
      injection hkv1 with eA eL eC
      subst eA eC
      clear eL
      have hkn : n < (L.map Ac.name).length := by rw [hkl]; exact hlt
      have hK2 := Hkv.out.later hB
      have hat : wr.cell? ⟨gb, n, none⟩ = some (.string (L[n]).name) := by
        have := hK2.at_ hkn 0 (.string (L[n]).name) (by simp only [List.getElem_map]; rfl)
        rw [show Enc.size ByteArray = 1 from rfl, Nat.mul_one, Nat.add_zero] at this
        exact this
      have hBw := hB2.trans (hB.mono hB2.size)
      have hm := (Hch.out.later hBw).map
      have hlk := run_lookup (P := Tryz.prog) strKey Tryz.underlying196 hm (L[n]).name (ac0.v) (by kernel_rfl) false
      rw [getM_mv, Hr.out.get_ _, getK_of keyA Hsr.out (List.getElem_mem hlt)] at hlk
      have c1 := (hBw.cell (p := ⟨g, 0, none⟩) hlg).trans c0
      unfold ac0 at hlk
      obtain ⟨a, ha⟩ : ∃ a, L[n] = a := ⟨_, rfl⟩
      rw [ha] at hat hlk
      have hal : a.name.size ≤ maxLen := by have := Hok.out.sizes _ (List.getElem_mem hlt); rw [ha] at this; unfold maxLen; omega
      have HO2 := Lib.hid (hO.later ((Below.refl _ _).alloc (Nat.le_refl _) (.cells #[.string a.name, i64 a.hav, i64 a.set_, i64 a.lim] 113)))
      have Hne := Lib.hid (hO.new_ne (Nat.le_refl wr.heap.size))
      have HH := Lib.hid (heap_alloc_new wr (.cells #[.string a.name, i64 a.hav, i64 a.set_, i64 a.lim] 113))
      have HB2 := Lib.hid (hB.alloc hB.size (.cells #[.string a.name, i64 a.hav, i64 a.set_, i64 a.lim] 113))
      have Hal := Lib.hid hal
      have Htk := Lib.hid (show L.take n ++ [a] = L.take (n + 1) by rw [← ha]; exact (List.take_succ_eq_append_getElem hlt).symm)
      have Hln := Lib.hid (show (L.take n).length + 1 ≤ 65536 by rw [List.length_take]; omega)
      have g1 : decide ((n : Int) < (L.length : Int)) = true := decide_eq_true (by omega)
      have g2 : decide (n < L.length) = true := decide_eq_true hlt
      have hm1 : (n : Int) + 1 ≤ 65536 := by omega
      clear ha
      clear hK2 hm hBw hB hkl hkn hn hnl hO hal
      simp only [Bool.false_eq_true, if_false, Option.map_some, Option.getD_some] at hlk
      go_wp2_with (at_builtin; refine wpList_append_one rfl (some 27) (.tmp 19) (.tmp 26) 110 rfl rfl (.agg #[.string ByteArray.empty, i64 0, i64 0, i64 0]) 40 Tryz.underlying110 acInfo_ rfl (by decide) (by decide) rfl HO2.out wr.heap.size a rfl _ 113 HH.out rfl Hne.out Hal.out (by have := Hln.out; omega) HB2.out.size ?_; intro v3 w3 hO3 hg3 hat3)
      rw [Htk.out] at hO3
      have hB3 := HB2.out.trans (HO2.out.below hg3 (Nat.le_refl _) HB2.out.size)
      clear hg3 hat3 HO2 HB2
      go_roundw
      case rel => exact ⟨n + 1, by go_num, by omega, hO3, hB3⟩
      case measure => simp [intOf]; omega
    · have g1 : decide ((n : Int) < (L.length : Int)) = false := decide_eq_false (by omega)
      have g2 : decide (n < L.length) = false := decide_eq_false hlt
      go_wp2
      go_ret
      rw [List.take_of_length_le (by omega)] at hO
      exact ⟨_, rfl, hO.mono hsz2, hB2.trans (hB.mono hB2.size)⟩
end Go.Proofs.YtgholbeehkfbiaaGreat
