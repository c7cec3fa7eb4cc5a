/- Texts of this claim, laid together: Hinv, At, Same. -/
import Derived.Test.YtmljlkjomjflpaaGreatRows
import Derived.Test.YtmljlkjomjflpaaGreatBb13
import Derived.WalkKit
import Derived.WalkSpells
import Derived.WalkLawsBesides
import Derived.Deep.QuietTactic
import Derived.BigQuiet
import Derived.Laws.StructEq
import Derived.Deep.DeepFit
import Derived.StillTailTactics
import Derived.Test.YtmljlkjomjflpaaGreatBb1
import Derived.Test.YtmljlkjomjflpaaGreatBb2

/- law08: what holds and accounts keep -/
namespace Go.Proofs.YtmljlkjomjflpaaGreat
open Go.RowKit
def sumH : List Held → Int
  | [] => 0
  | x :: r => x.sum + sumH r
theorem sumH_perm {l m : List Held} (h : l.Perm m) : sumH l = sumH m := by
  induction h with
  | nil => rfl
  | cons x _ ih => unfold sumH; rw [ih]
  | swap x y l => unfold sumH; unfold sumH; omega
  | trans _ _ h1 h2 => rw [h1, h2]
theorem turnL_srt {D : Ac → Ac × Int} {L : List Ac} (h : SrtL ltA L) (k : ByteArray) (x : Int) : SrtL ltA (turnL D L k x).2 := by
  rcases turnL_cases D L k x with ⟨_, e⟩ | ⟨_, a, _, _, _, _, e⟩
  · rw [e]; exact h
  · rw [e]; exact setK_srt keyA h _
/-- name, set aside, limit -/
def nsl (a : Ac) : ByteArray × Int × Int := (a.name, a.set_, a.lim)
/-- all but what they have -/
def SS (L L' : List Ac) : Prop := L.map nsl = L'.map nsl
theorem setK_ss {L : List Ac} (h : SrtL ltA L) {a a' : Ac} (ha : a ∈ L) (e : nsl a' = nsl a) : SS L (setK Ac.name L a') := by
  have hn : a'.name = a.name := congrArg Prod.fst e
  unfold SS setK
  rw [List.map_map]
  refine (List.map_congr_left fun x hx => ?_).symm
  simp only [Function.comp_def]
  by_cases hx' : x.name = a'.name
  · rw [if_pos hx', h.one keyA hx ha (by rw [hx', hn]), e]
  · rw [if_neg hx']
theorem turnL_ss {L : List Ac} (h : SrtL ltA L) (k : ByteArray) (x y : Int) : SS L (turnL (givD y) L k x).2 := by
  rcases turnL_cases (givD y) L k x with ⟨_, e⟩ | ⟨_, a, hg, _, _, _, e⟩
  · rw [e]; rfl
  · rw [e]; exact setK_ss h (getK_mem hg).1 rfl
theorem postL_ss {L : List Ac} (h : SrtL ltA L) (x : Leg) : SS L (postL L x).2 ∧ SrtL ltA (postL L x).2 := by
  unfold postL
  split
  · exact ⟨rfl, h⟩
  · split
    · exact ⟨rfl, h⟩
    · exact ⟨turnL_ss h _ _ _, turnL_srt h _ _⟩
theorem allL_ss : ∀ (l : List Leg) {L : List Ac}, SrtL ltA L → SS L (allL L l).2 ∧ SrtL ltA (allL L l).2
  | [], _, h => ⟨rfl, h⟩
  | x :: r, L, h => by
    obtain ⟨h1, h2⟩ := postL_ss h x
    unfold allL
    split
    · exact ⟨h1, h2⟩
    · obtain ⟨h3, h4⟩ := allL_ss r h2
      exact ⟨Eq.trans h1 h3, h4⟩
theorem makeL_ss {L : List Ac} (h : SrtL ltA L) (l : List Leg) : SS L (makeL L l).2 ∧ SrtL ltA (makeL L l).2 := by
  unfold makeL
  split
  · exact ⟨rfl, h⟩
  · exact allL_ss l h
theorem SS.mem {L L' : List Ac} (h : SS L L') {a : Ac} (ha : a ∈ L') : ∃ b ∈ L, nsl b = nsl a := by
  have : nsl a ∈ L'.map nsl := List.mem_map.2 ⟨a, ha, rfl⟩
  rw [← h] at this
  obtain ⟨b, hb, e⟩ := List.mem_map.1 this
  exact ⟨b, hb, e⟩
theorem SS.symm {L L' : List Ac} (h : SS L L') : SS L' L := Eq.symm h
/-- what a chart and holds keep -/
structure InvH (L : List Ac) (H : List Held) : Prop where
  okA : OkA L
  srtA : SrtL ltA L
  okH : OkH H
  srtH : SrtL ltH H
  set : ∀ a ∈ L, a.set_ = sumH (ofL H a.name)
  few : ∀ s, (ofL H s).length ≤ 8
  at_ : ∀ x ∈ H, ∃ a ∈ L, a.name = x.acct
theorem InvH.ss {L L' : List Ac} {H : List Held} (h : InvH L H) (hs : SS L L') (hok : OkA L') (hsr : SrtL ltA L') : InvH L' H where
  okA := hok
  srtA := hsr
  okH := h.okH
  srtH := h.srtH
  few := h.few
  set a ha := by
    obtain ⟨b, hb, e⟩ := hs.mem ha
    have e1 : b.name = a.name := congrArg Prod.fst e
    have e2 : b.set_ = a.set_ := congrArg (fun p => p.2.1) e
    rw [← e1, ← e2]; exact h.set b hb
  at_ x hx := by
    obtain ⟨a, ha, e⟩ := h.at_ x hx
    obtain ⟨b, hb, e2⟩ := hs.symm.mem ha
    exact ⟨b, hb, (congrArg Prod.fst e2).trans e⟩
theorem ofL_perm {l m : List Held} (h : l.Perm m) (s : ByteArray) : (ofL l s).Perm (ofL m s) := h.filter _
theorem ofL_cons (x : Held) (l : List Held) (s : ByteArray) : ofL (x :: l) s = if x.acct = s then x :: ofL l s else ofL l s := by
  unfold ofL
  by_cases h : x.acct = s
  · rw [if_pos h, List.filter_cons_of_pos (by simpa using h)]
  · rw [if_neg h, List.filter_cons_of_neg (by simpa using h)]
/-- an account's set aside, and a hold: both turn alike -/
theorem InvH.turn {L : List Ac} {H H' : List Held} (h : InvH L H) {a : Ac} {k : ByteArray} (hg : getK Ac.name L k = some a) {d : Int} {v : Ac} (hv : v = { a with set_ := a.set_ + d }) (hok : OkA (setK Ac.name L v))
    (h1 : OkH H') (h2 : SrtL ltH H') (h3 : ∀ s, (ofL H' s).length ≤ 8) (h4 : ∀ s, sumH (ofL H' s) = sumH (ofL H s) + if s = k then d else 0) (h5 : ∀ x ∈ H', x ∈ H ∨ x.acct = k) : InvH (setK Ac.name L v) H' where
  okA := hok
  srtA := setK_srt keyA h.srtA _
  okH := h1
  srtH := h2
  few := h3
  set b hb := by
    obtain ⟨ha, hk⟩ := getK_mem hg
    have hvn : v.name = k := by rw [hv]; exact hk
    rw [h4]
    rcases setK_mem hb with rfl | ⟨hb, hne⟩
    · rw [if_pos hvn, hvn, ← hk, ← h.set a ha, hv]
    · rw [if_neg (fun e => hne (by rw [e, hvn])), Int.add_zero]
      exact h.set b hb
  at_ x hx := by
    obtain ⟨ha, hk⟩ := getK_mem hg
    have hvn : v.name = a.name := by rw [hv]
    have key : ∀ b ∈ L, ∃ c ∈ setK Ac.name L v, c.name = b.name := fun b hb => by
      by_cases he : b.name = v.name
      · exact ⟨v, List.mem_map.2 ⟨b, hb, by rw [if_pos he]⟩, he.symm⟩
      · exact ⟨b, List.mem_map.2 ⟨b, hb, by rw [if_neg he]⟩, rfl⟩
    rcases h5 x hx with hx | hx
    · obtain ⟨b, hb, e⟩ := h.at_ x hx
      obtain ⟨c, hc, e2⟩ := key b hb
      exact ⟨c, hc, e2.trans e⟩
    · obtain ⟨c, hc, e2⟩ := key a ha
      exact ⟨c, hc, by rw [e2, hk, hx]⟩
/-- one hold taken out -/
theorem del_perm {H : List Held} (h : SrtL ltH H) {k : Hk} {y : Held} (hg : getK Held.key H k = some y) : H.Perm (y :: delK Held.key H k) := by
  obtain ⟨hy, hk⟩ := getK_mem hg
  obtain ⟨i, hi, rfl⟩ := List.getElem_of_mem hy
  rw [← hk, delK_at keyH h hi]
  have e : H = H.take i ++ H[i] :: H.drop (i + 1) := by rw [← List.drop_eq_getElem_cons hi, List.take_append_drop]
  conv => lhs; rw [e]
  exact List.perm_middle
theorem asiD_0 {x : Int} {a : Ac} (h : (asiD x a).2 = 0) : (asiD x a).1 = { a with set_ := a.set_ + x } := by
  have h1 : (sumR (a.set_ + x)).2 = 0 := h
  show ({ a with set_ := (sumR (a.set_ + x)).1 } : Ac) = _
  rw [sumR_0 h1]
theorem InvH.free {L : List Ac} {H : List Held} (h : InvH L H) (k : ByteArray) (n : Int) : InvH (freeHL L H k n).2.1 (freeHL L H k n).2.2 := by
  have hokA := freeHL_ok h.okA H k n
  have hokH := freeHL_okH h.okH L k n
  unfold freeHL at *
  cases hg : getK Held.key H ⟨k, n⟩ with
  | none => rw [hg] at hokA hokH; exact h
  | some y =>
    rw [hg] at hokA hokH
    dsimp only at *
    rcases turnL_cases (asiD (-y.sum)) L k (-y.sum) with ⟨e0, e⟩ | ⟨e0, a, ha, hz, _, _, e⟩
    · rw [if_neg e0, e]; exact h
    · rw [if_pos e0] at hokH ⊢
      rw [e] at hokA ⊢
      have hp := del_perm h.srtH hg
      have hyk : y.acct = k := congrArg Hk.acct (getK_mem hg).2
      refine h.turn ha (asiD_0 hz) hokA hokH (delK_srt h.srtH _) (fun s => ?_) (fun s => ?_) (fun x hx => .inl (List.mem_filter.1 hx).1)
      · have h1 := (ofL_perm hp s).length_eq
        have h2 := h.few s
        rw [ofL_cons] at h1
        split at h1
        · rw [List.length_cons] at h1; omega
        · omega
      · have h1 := sumH_perm (ofL_perm hp s)
        rw [ofL_cons] at h1
        by_cases hs : s = k
        · rw [if_pos (by rw [hyk, hs])] at h1
          rw [if_pos hs, h1]
          show _ = y.sum + _ + -y.sum
          omega
        · rw [if_neg (by rw [hyk]; exact fun e => hs e.symm)] at h1
          rw [if_neg hs, h1, Int.add_zero]
theorem InvH.put {L : List Ac} {H : List Held} (h : InvH L H) (x : Held) (hx : R64 x.sum) (hk : x.acct.size ≤ maxLen) : InvH (putH L H x).2.1 (putH L H x).2.2 := by
  unfold putH
  by_cases h1 : x.num < 1 ∨ 9999 < x.num ∨ x.sum < 1
  · rw [if_pos h1]; exact h
  · rw [if_neg h1]
    by_cases h2 : (getK Held.key H x.key).isSome = true
    · rw [if_pos h2]; exact h
    · rw [if_neg h2]
      by_cases h3 : (ofL H x.acct).length = 8
      · rw [if_pos h3]; exact h
      · rw [if_neg h3]
        have hok := turnL_ok (asiD_ok x.sum) h.okA x.acct x.sum
        dsimp only
        rcases turnL_cases (asiD x.sum) L x.acct x.sum with ⟨e0, e⟩ | ⟨e0, a, ha, hz, _, _, e⟩
        · rw [if_neg e0, e]; exact h
        · rw [if_pos e0]
          rw [e] at hok ⊢
          have hp := insB_perm (lt := ltH) x H
          have hno : getK Held.key H x.key = none := by simpa using h2
          refine h.turn ha (asiD_0 hz) hok (fun y hy => ?_) (insB_srt keyH.strict x H h.srtH fun y hy => keyH.co _ _ fun e => getK_none.1 hno y hy e.symm) (fun s => ?_) (fun s => ?_) (fun y hy => ?_)
          · rcases List.mem_cons.1 (hp.mem_iff.1 hy) with rfl | hy
            · obtain ⟨g1, g2⟩ := hx
              exact ⟨by omega, by omega, by omega, g2, hk⟩
            · exact h.okH y hy
          · have h4 := (ofL_perm hp s).length_eq
            have h5 := h.few s
            rw [ofL_cons] at h4
            split at h4
            · rename_i hs
              have := h.few x.acct
              rw [hs] at this h3
              simp only [List.length_cons] at h4
              omega
            · omega
          · have h4 := sumH_perm (ofL_perm hp s)
            rw [ofL_cons] at h4
            by_cases hs : s = x.acct
            · rw [if_pos hs.symm] at h4
              rw [if_pos hs, h4]
              show x.sum + _ = _
              omega
            · rw [if_neg (fun e => hs e.symm)] at h4
              rw [if_neg hs, h4, Int.add_zero]
          · rcases List.mem_cons.1 (hp.mem_iff.1 hy) with rfl | hy
            · exact .inr rfl
            · exact .inl hy
theorem InvH.take {L : List Ac} {H : List Held} (h : InvH L H) (k : ByteArray) (n : Int) (p : ByteArray) (s : Int) : InvH (takeH L H k n p s).2.1 (takeH L H k n p s).2.2 := by
  unfold takeH
  cases hg : getK Held.key H ⟨k, n⟩ with
  | none => exact h
  | some y =>
    dsimp only
    by_cases h1 : s < 1 ∨ y.sum < s
    · rw [if_pos h1]; exact h
    · rw [if_neg h1]
      by_cases h2 : (turnL (asiD (-y.sum)) L k (-y.sum)).1 ≠ 0
      · rw [if_pos h2]; exact h
      · rw [if_neg h2]
        by_cases h3 : checkL (turnL (asiD (-y.sum)) L k (-y.sum)).2 (legs2 k p s) ≠ 0
        · rw [if_pos h3]; exact h
        · rw [if_neg h3]
          have hf := h.free k n
          obtain ⟨g1, g2⟩ := makeL_ss hf.srtA (legs2 k p s)
          exact hf.ss g1 (makeL_ok hf.okA _) g2
theorem InvH.step {L : List Ac} {H : List Held} (h : InvH L H) (x : Op8) (hx : x.acct.size ≤ maxLen ∧ x.peer.size ≤ maxLen ∧ R64 x.sum) : InvH (stepH L H x).2.1 (stepH L H x).2.2 := by
  unfold stepH
  split
  · exact h.put _ hx.2.2 hx.1
  · split
    · exact h.take _ _ _ _
    · split
      · exact h.free _ _
      · exact h.ss (turnL_ss h.srtA _ _ _) (turnL_ok (givD_ok _) h.okA _ _) (turnL_srt h.srtA _ _)
theorem freeHL_err {L : List Ac} {H : List Held} {k : ByteArray} {n : Int} (h : (freeHL L H k n).1 ≠ 0) : (freeHL L H k n).2 = (L, H) := by
  unfold freeHL at *
  cases hg : getK Held.key H ⟨k, n⟩ with
  | none => rfl
  | some y =>
    rw [hg] at h
    dsimp only at *
    rcases turnL_cases (asiD (-y.sum)) L k (-y.sum) with ⟨e0, e⟩ | ⟨e0, _⟩
    · rw [if_neg e0, e]
    · exact absurd e0 h
theorem putH_err {L : List Ac} {H : List Held} {x : Held} (h : (putH L H x).1 ≠ 0) : (putH L H x).2 = (L, H) := by
  unfold putH at *
  split
  · rfl
  · rename_i h1
    rw [if_neg h1] at h
    split
    · rfl
    · rename_i h2
      rw [if_neg h2] at h
      split
      · rfl
      · rename_i h3
        rw [if_neg h3] at h
        dsimp only at *
        rcases turnL_cases (asiD x.sum) L x.acct x.sum with ⟨e0, e⟩ | ⟨e0, _⟩
        · rw [if_neg e0, e]
        · exact absurd e0 h
/-- behind a check that found nothing, legs are posted -/
theorem make_of_check {L : List Ac} {l : List Leg} (h : checkL L l = 0) : makeL L l = allL L l ∧ (makeL L l).1 = 0 := by
  have h1 : makeL L l = allL L l := by unfold makeL; rw [if_neg (by rw [h]; simp)]
  refine ⟨h1, ?_⟩
  rw [h1]
  unfold checkL at h
  split at h
  · cases h
  · split at h
    · cases h
    · exact h
theorem freeHL_of {L : List Ac} {H : List Held} {k : ByteArray} {n : Int} {y : Held} (hg : getK Held.key H ⟨k, n⟩ = some y) (h : ¬ (turnL (asiD (-y.sum)) L k (-y.sum)).1 ≠ 0) : freeHL L H k n = (0, (turnL (asiD (-y.sum)) L k (-y.sum)).2, delK Held.key H ⟨k, n⟩) := by
  have h0 : (turnL (asiD (-y.sum)) L k (-y.sum)).1 = 0 := by simpa using h
  unfold freeHL
  rw [hg]
  dsimp only
  rw [if_pos h0, h0]
theorem takeH_err {L : List Ac} {H : List Held} {k p : ByteArray} {n s : Int} (h : (takeH L H k n p s).1 ≠ 0) : (takeH L H k n p s).2 = (L, H) := by
  unfold takeH at *
  cases hg : getK Held.key H ⟨k, n⟩ with
  | none => rfl
  | some y =>
    rw [hg] at h
    dsimp only at *
    split
    · rfl
    · rename_i h1
      rw [if_neg h1] at h
      split
      · rfl
      · rename_i h2
        rw [if_neg h2] at h
        split
        · rfl
        · rename_i h3
          rw [if_neg h3] at h
          rw [freeHL_of hg h2] at h
          exact absurd (make_of_check (by simpa using h3)).2 h
theorem stepH_err {L : List Ac} {H : List Held} {x : Op8} (h : (stepH L H x).1 ≠ 0) : (stepH L H x).2 = (L, H) := by
  unfold stepH at *
  split
  · rename_i h1; rw [if_pos h1] at h; exact putH_err h
  · rename_i h1
    rw [if_neg h1] at h
    split
    · rename_i h2; rw [if_pos h2] at h; exact takeH_err h
    · rename_i h2
      rw [if_neg h2] at h
      split
      · rename_i h3; rw [if_pos h3] at h; exact freeHL_err h
      · rename_i h3
        rw [if_neg h3] at h
        dsimp only at *
        rcases turnL_cases (givD x.sum) L x.acct x.sum with ⟨e0, e⟩ | ⟨e0, _⟩
        · rw [e]
        · exact absurd e0 h
theorem freeHL_len (L : List Ac) (H : List Held) (k : ByteArray) (n : Int) : (freeHL L H k n).2.2.length ≤ H.length := by
  unfold freeHL
  cases getK Held.key H ⟨k, n⟩ with
  | none => exact Nat.le_refl _
  | some y =>
    dsimp only
    split
    · exact List.length_filter_le _ _
    · exact Nat.le_refl _
theorem stepH_len (L : List Ac) (H : List Held) (x : Op8) : (stepH L H x).2.2.length ≤ H.length + 1 := by
  unfold stepH
  split
  · unfold putH
    split
    · exact Nat.le_succ _
    · split
      · exact Nat.le_succ _
      · split
        · exact Nat.le_succ _
        · dsimp only
          split
          · rw [(insB_perm _ H).length_eq, List.length_cons]; exact Nat.le_refl _
          · exact Nat.le_succ _
  · split
    · unfold takeH
      cases getK Held.key H ⟨x.acct, x.num⟩ with
      | none => exact Nat.le_succ _
      | some y =>
        dsimp only
        split
        · exact Nat.le_succ _
        · split
          · exact Nat.le_succ _
          · split
            · exact Nat.le_succ _
            · exact Nat.le_succ_of_le (freeHL_len L H _ _)
    · split
      · exact Nat.le_succ_of_le (freeHL_len L H _ _)
      · exact Nat.le_succ _
theorem inv_L0 : InvH L0 [] where
  okA := ok_L0
  srtA := srt_L0
  okH := okH_nil
  srtH := List.Pairwise.nil
  set a ha := by
    have : a.set_ = 0 := by
      unfold L0 at ha
      simp only [List.mem_cons, List.not_mem_nil, or_false] at ha
      rcases ha with rfl | rfl | rfl <;> rfl
    rw [this]; rfl
  few s := Nat.zero_le _
  at_ x hx := by cases hx
theorem turnL_len (D : Ac → Ac × Int) (L : List Ac) (k : ByteArray) (x : Int) : (turnL D L k x).2.length = L.length := by
  rcases turnL_cases D L k x with ⟨_, e⟩ | ⟨_, a, _, _, _, _, e⟩
  · rw [e]
  · rw [e, setK_len]
theorem SS.len {L L' : List Ac} (h : SS L L') : L'.length = L.length := by
  have := congrArg List.length h
  simpa using this.symm
theorem freeHL_lenA (L : List Ac) (H : List Held) (k : ByteArray) (n : Int) : (freeHL L H k n).2.1.length = L.length := by
  unfold freeHL
  cases getK Held.key H ⟨k, n⟩ with
  | none => rfl
  | some y => exact turnL_len _ _ _ _
theorem stepH_lenA {L : List Ac} {H : List Held} (h : InvH L H) (x : Op8) : (stepH L H x).2.1.length = L.length := by
  unfold stepH
  split
  · unfold putH
    split
    · rfl
    · split
      · rfl
      · split
        · rfl
        · exact turnL_len _ _ _ _
  · split
    · unfold takeH
      cases getK Held.key H ⟨x.acct, x.num⟩ with
      | none => rfl
      | some y =>
        dsimp only
        split
        · rfl
        · split
          · rfl
          · split
            · rfl
            · rw [(makeL_ss (h.free _ _).srtA _).1.len, freeHL_lenA]
    · split
      · exact freeHL_lenA _ _ _ _
      · exact turnL_len _ _ _ _
/-- the loop's sum -/
theorem sumH_snoc (l : List Held) (x : Held) : sumH (l ++ [x]) = sumH l + x.sum := by
  induction l with
  | nil => show x.sum + 0 = 0 + x.sum; omega
  | cons y r ih => rw [List.cons_append]; unfold sumH; rw [ih]; omega
theorem sumH_pos {l : List Held} (h : ∀ x ∈ l, 1 ≤ x.sum) : 0 ≤ sumH l := by
  induction l with
  | nil => exact Int.le_refl _
  | cons y r ih =>
    unfold sumH
    have := ih fun x hx => h x (List.mem_cons_of_mem _ hx)
    have := h y (List.mem_cons_self ..)
    omega
theorem sumH_take_le {l : List Held} (h : ∀ x ∈ l, 1 ≤ x.sum) (k : Nat) : 0 ≤ sumH (l.take k) ∧ sumH (l.take k) ≤ sumH l := by
  refine ⟨sumH_pos fun x hx => h x (List.mem_of_mem_take hx), ?_⟩
  induction l generalizing k with
  | nil => simp
  | cons y r ih =>
    cases k with
    | zero => exact sumH_pos h
    | succ k =>
      rw [List.take_succ_cons]
      unfold sumH
      have := ih (fun x hx => h x (List.mem_cons_of_mem _ hx)) k
      omega
theorem ofL_sums {H : List Held} (h : OkH H) (s : ByteArray) : ∀ x ∈ ofL H s, 1 ≤ x.sum := fun x hx => (h x (List.mem_filter.1 hx).1).2.2.1
end Go.Proofs.YtmljlkjomjflpaaGreat

/- ref10.At. -/
namespace Go.Proofs.YtmljlkjomjflpaaGreat
open Go.RowKit

theorem eq_id (a b c d : Int) (w : World) : (binOp .eql 62 (.agg #[i64 a, i64 b]) (.agg #[i64 c, i64 d])).run Tryz.prog w = .ok (.bool (decide (Id.mk a b = ⟨c, d⟩))) w := by
  have u3 := Tryz.underlying3
  have a3 := Tryz.isAgg3
  have z3 := Tryz.sizeOf3
  have hS : Tryz.prog.underlying 62 = some (.struct (Tryz.prog.fieldsOf 62)) := by kernel_rfl
  have hp : Tryz.prog.stoodInHeld 62 = false := by kernel_rfl
  rw [run_eql_struct, show (10000 : Nat) = 9999 + 1 from rfl, run_equalIn_agg w 9999 62 _ _ hS hp]
  simp only [Program.fieldsOf, Tryz.underlying62]
  go_simp
  by_cases h1 : a = c <;> by_cases h2 : b = d <;> simp [h1, h2]

abbrev atIdx (l : List Od) (id : Id) : Int := idxP (fun x => decide (x.id = id)) l

set_option maxHeartbeats 400000 in
theorem at_any (A : Option Addr) (c : Nat) (l : List Od) (id : Id) (w : World) (h : Sl w w.heap.size A c l) (hn : l.length ≤ 65536) :
    Calls Tryz.prog 45 #[.slice A l.length c, .agg #[i64 id.client, i64 id.seq]] w fun e w' => e = .returned (i64 (atIdx l id)) ∧ Below w.heap.size w w' := by
  go_enter Tryz.func45, Tryz.ntmps45
  go_wp2
  go_loopw [5] (fun i wr => ∃ k n : Nat, k ≤ l.length ∧ i = i64 k ∧ (∀ j (hj : j < l.length), j < k → l[j].id ≠ id) ∧ wr = (w.alloc (.cells #[i64 id.client, i64 id.seq] 62)).drewN n) (fun i _ => l.length - (intOf i).toNat)
  case atStart => exact ⟨0, 0, Nat.zero_le _, rfl, by omega, rfl⟩
  case round =>
    obtain ⟨k, n, hk, rfl, hno, rfl⟩ := hrel
    by_cases hlt : k < l.length
    · obtain ⟨b, o, rfl, hb, _, hc⟩ := h.at_ hlt
      have c0 := hc 0 _ rfl
      have c1 := hc 1 _ rfl
      have d0 : w.cell? ⟨b, o + k * 10, none⟩ = some (i64 l[k].client) := c0
      have d1 : w.cell? ⟨b, o + k * 10 + 1, none⟩ = some (i64 l[k].seq) := c1
      have hne : b ≠ w.heap.size := by omega
      clear hc c0 c1
      have he := eq_id l[k].client l[k].seq id.client id.seq
      by_cases heq : l[k].id = id
      · simp only [show Id.mk l[k].client l[k].seq = l[k].id from rfl, show Id.mk id.client id.seq = id from rfl, heq, decide_true] at he
        have Heq := Lib.hid heq
        have Hno := Lib.hid hno
        clear heq hno
        go_wp2
        go_quiet (fail)
        go_wp2
        go_ret
        exact ⟨by rw [show atIdx l id = k from idxP_hit hlt (by simpa using Heq.out) (fun j hj h => by simpa using Hno.out j hj h)]; rfl, below_drewN (below_drewN ((Below.refl _ _).alloc (Nat.le_refl _) _) _) _⟩
      · simp only [show Id.mk l[k].client l[k].seq = l[k].id from rfl, show Id.mk id.client id.seq = id from rfl, heq, decide_false] at he
        have Heq := Lib.hid heq
        have Hno := Lib.hid hno
        clear heq hno
        go_wp2
        go_quiet (fail)
        go_wp2
        go_roundw
        case rel => exact ⟨k + 1, n + _, by omega, by go_num, fun j hj h => by
            rcases Nat.lt_succ_iff_lt_or_eq.1 h with h | rfl
            · exact Hno.out j hj h
            · exact Heq.out, rfl⟩
        case measure => simp [intOf]; omega
    · have hkl : k = l.length := by omega
      subst hkl
      go_wp2
      go_ret
      exact ⟨by rw [show atIdx l id = -1 from idxP_miss (fun j hj => by simpa using hno j hj hj)]; rfl, below_drewN ((Below.refl _ _).alloc (Nat.le_refl _) _) _⟩
end Go.Proofs.YtmljlkjomjflpaaGreat

/- slices.Equal at legs, order.Same -/
namespace Go.Proofs.YtmljlkjomjflpaaGreat
open Go.RowKit
theorem neq_leg (a b : ByteArray) (c d : Int) (w : World) : (binOp .neq 137 (.agg #[.string a, i64 c]) (.agg #[.string b, i64 d])).run Tryz.prog w = .ok (.bool (!decide (Leg.mk a c = ⟨b, d⟩))) w := by
  have u3 := Tryz.underlying2
  have a3 := Tryz.isAgg2
  have z3 := Tryz.sizeOf2
  have u9 := Tryz.underlying9
  have a9 := Tryz.isAgg9
  have z9 := Tryz.sizeOf9
  have hS : Tryz.prog.underlying 137 = some (.struct (Tryz.prog.fieldsOf 137)) := by kernel_rfl
  have hp : Tryz.prog.stoodInHeld 137 = false := by kernel_rfl
  rw [run_neq_struct, show (10000 : Nat) = 9999 + 1 from rfl, run_equalIn_agg w 9999 137 _ _ hS hp]
  simp only [Program.fieldsOf, Tryz.underlying137]
  go_simp
  by_cases h1 : a = b
  · have h3 := beqS_of_eq h1
    by_cases h2 : c = d <;> simp_all
  · have h3 := beqS_of_ne h1
    by_cases h2 : c = d <;> simp_all

set_option maxRecDepth 100000 in
set_option maxHeartbeats 400000 in
theorem equal_leg (A C : Option Addr) (c d : Nat) (l m : List Leg) (w : World) (h : Sl w w.heap.size A c l) (k : Sl w w.heap.size C d m) (hl : l.length ≤ 65536) (hm : m.length ≤ 65536) :
    Calls Tryz.prog 169 #[.slice A l.length c, .slice C m.length d] w fun e w' => e = .returned (.bool (decide (l = m))) ∧ ∃ n, w.drewN n = w' := by
  by_cases hlm : l.length = m.length
  · have hne : ((l.length : Int) != (m.length : Int)) = false := by rw [hlm]; simp
    have HL := Lib.hid hlm
    clear hlm
    go_enter Tryz.func169, Tryz.ntmps169
    go_wp2
    go_loopw [13] (fun i wr => ∃ (j n : Nat), i = i64 j ∧ j ≤ l.length ∧ l.take j = m.take j ∧ wr = w.drewN n) (fun i _ => l.length - (intOf i).toNat)
    case atStart => exact ⟨0, 0, rfl, by omega, rfl, rfl⟩
    case round =>
      obtain ⟨j, n, rfl, hj, ht, rfl⟩ := hrel
      have HT := Lib.hid ht
      clear ht
      by_cases hlt : j < l.length
      · have hltm : j < m.length := by have := HL.out; omega
        obtain ⟨b, o, rfl, hb, -, c0, c1⟩ := h.leg hlt
        obtain ⟨b', o', rfl, hb', -, c0', c1'⟩ := k.leg hltm
        have he : ∀ W : World, (binOp .neq 137 (.agg #[.string l[j].acct, i64 l[j].sum]) (.agg #[.string m[j].acct, i64 m[j].sum])).run Tryz.prog W = .ok (.bool (!decide (l[j] = m[j]))) W := neq_leg _ _ _ _
        by_cases heq : l[j] = m[j]
        · simp only [decide_eq_true heq, Bool.not_true] at he
          have Heq := Lib.hid heq
          clear heq
          go_wp2
          go_quiet (fail)
          go_wp2
          go_roundw
          case rel => exact ⟨j + 1, n + _, by go_num, by omega, by rw [List.take_succ_eq_append_getElem hlt, List.take_succ_eq_append_getElem hltm, HT.out, Heq.out], rfl⟩
          case measure => simp [intOf]; omega
        · simp only [decide_eq_false heq, Bool.not_false] at he
          have Heq := Lib.hid heq
          clear heq
          go_wp2
          go_quiet (fail)
          go_wp2
          go_ret
          refine ⟨?_, _, (World.drewN_drewN _ _ _).symm⟩
          rw [decide_eq_false (show ¬ l = m from fun e => Heq.out (by subst e; rfl))]
          rfl
      · have hjl : j = l.length := by omega
        subst hjl
        go_wp2
        go_ret
        refine ⟨?_, _, rfl⟩
        rw [decide_eq_true (show l = m by
          have := HT.out
          rwa [List.take_length, List.take_of_length_le (by have := HL.out; omega)] at this)]
        rfl
  · have hne : ((l.length : Int) != (m.length : Int)) = true := by rw [bne_iff_ne]; omega
    have HL := Lib.hid hlm
    clear hlm
    go_enter Tryz.func169, Tryz.ntmps169
    go_wp2
    go_ret
    refine ⟨?_, 0, rfl⟩
    rw [decide_eq_false (show ¬ l = m from fun e => HL.out (by rw [e]))]
    rfl

/-- order.Same -/
structure SameOd (a b : Od) : Prop where
  acct : a.acct = b.acct
  peer : a.peer = b.peer
  note : a.note = b.note
  id : a.id = b.id
  kind : a.kind = b.kind
  sum : a.sum = b.sum
  period : a.period = b.period
  hold : a.hold = b.hold
  legs : a.legs = b.legs
instance (a b : Od) : Decidable (SameOd a b) :=
  if h : a.acct = b.acct ∧ a.peer = b.peer ∧ a.note = b.note ∧ a.id = b.id ∧ a.kind = b.kind ∧ a.sum = b.sum ∧ a.period = b.period ∧ a.hold = b.hold ∧ a.legs = b.legs then
    isTrue ⟨h.1, h.2.1, h.2.2.1, h.2.2.2.1, h.2.2.2.2.1, h.2.2.2.2.2.1, h.2.2.2.2.2.2.1, h.2.2.2.2.2.2.2.1, h.2.2.2.2.2.2.2.2⟩
  else isFalse fun k => h ⟨k.1, k.2, k.3, k.4, k.5, k.6, k.7, k.8, k.9⟩
abbrev sameB (a b : Od) : Bool := decide (SameOd a b)

set_option maxRecDepth 100000 in
set_option maxHeartbeats 1000000 in
theorem same_c (x y : Od) (w : World) (hx : Okb w w.heap.size x) (hy : Okb w w.heap.size y) (hlx : x.legs.length ≤ 65536) (hly : y.legs.length ≤ 65536) :
    Calls Tryz.prog 110 #[x.v, y.v] w fun e w' => e = .returned (.bool (sameB x y)) ∧ Below w.heap.size w w' := by
  obtain ⟨-, -, -, hgx⟩ := hx
  obtain ⟨-, -, -, hgy⟩ := hy
  unfold Od.v
  by_cases h0 : x.acct = y.acct
  · have q0 := beqS_of_eq h0
    by_cases h1 : x.peer = y.peer
    · have q1 := beqS_of_eq h1
      by_cases h2 : x.note = y.note
      · have q2 := beqS_of_eq h2
        by_cases h3 : x.id = y.id
        · have q3 : ∀ W : World, (binOp .eql 62 (.agg #[i64 x.client, i64 x.seq]) (.agg #[i64 y.client, i64 y.seq])).run Tryz.prog W = .ok (.bool true) W := fun W => by rw [eq_id, decide_eq_true (show Id.mk x.client x.seq = ⟨y.client, y.seq⟩ from h3)]
          by_cases h4 : x.kind = y.kind
          · have q4 : (x.kind == y.kind) = true := beq_iff_eq.2 h4
            by_cases h5 : x.sum = y.sum
            · have q5 : (x.sum == y.sum) = true := beq_iff_eq.2 h5
              by_cases h6 : x.period = y.period
              · have q6 : (x.period == y.period) = true := beq_iff_eq.2 h6
                by_cases h7 : x.hold = y.hold
                · have q7 : (x.hold == y.hold) = true := beq_iff_eq.2 h7
                  have H : Hid (x.acct = y.acct ∧ x.peer = y.peer ∧ x.note = y.note ∧ x.id = y.id ∧ x.kind = y.kind ∧ x.sum = y.sum ∧ x.period = y.period ∧ x.hold = y.hold) := Lib.hid ⟨h0, h1, h2, h3, h4, h5, h6, h7⟩
                  clear h0 h1 h2 h3 h4 h5 h6 h7
                  go_enter Tryz.func110, Tryz.ntmps110
                  go_wp2_with fail
                  have hb1 : Below w.heap.size w ((w.alloc (.cells #[i64 x.client, i64 x.seq, i64 x.kind, .string x.acct, .string x.peer, i64 x.sum, .slice x.la x.legs.length x.lc, i64 x.period, i64 x.hold, .string x.note] 65)).alloc (.cells #[i64 y.client, i64 y.seq, i64 y.kind, .string y.acct, .string y.peer, i64 y.sum, .slice y.la y.legs.length y.lc, i64 y.period, i64 y.hold, .string y.note] 65)) := ((Below.refl _ _).alloc (Nat.le_refl _) _).alloc (by simp) _
                  refine (equal_leg _ _ _ _ _ _ _ (hgx.later hb1) (hgy.later hb1) hlx hly).mono ?_
                  rintro e w1 ⟨rfl, n, rfl⟩
                  go_wp2
                  go_ret
                  refine ⟨?_, below_drewN hb1 n⟩
                  obtain ⟨h0, h1, h2, h3, h4, h5, h6, h7⟩ := H.out
                  have hs : sameB x y = decide (x.legs = y.legs) := by
                    by_cases hl : x.legs = y.legs
                    · rw [decide_eq_true hl]; exact decide_eq_true ⟨h0, h1, h2, h3, h4, h5, h6, h7, hl⟩
                    · rw [decide_eq_false hl]; exact decide_eq_false fun k => hl k.legs
                  rw [hs]
                  rfl
                · have q7 : (x.hold == y.hold) = false := beq_eq_false_iff_ne.2 h7
                  have Hs : Hid (sameB x y = false) := Lib.hid (decide_eq_false fun k => h7 k.hold)
                  clear h0 h1 h2 h3 h4 h5 h6 h7
                  go_enter Tryz.func110, Tryz.ntmps110
                  go_wp2
                  go_ret
                  exact ⟨by rw [Hs.out]; rfl, ((Below.refl _ _).alloc (Nat.le_refl _) _).alloc (by simp) _⟩
              · have q6 : (x.period == y.period) = false := beq_eq_false_iff_ne.2 h6
                have Hs : Hid (sameB x y = false) := Lib.hid (decide_eq_false fun k => h6 k.period)
                clear h0 h1 h2 h3 h4 h5 h6
                go_enter Tryz.func110, Tryz.ntmps110
                go_wp2
                go_ret
                exact ⟨by rw [Hs.out]; rfl, ((Below.refl _ _).alloc (Nat.le_refl _) _).alloc (by simp) _⟩
            · have q5 : (x.sum == y.sum) = false := beq_eq_false_iff_ne.2 h5
              have Hs : Hid (sameB x y = false) := Lib.hid (decide_eq_false fun k => h5 k.sum)
              clear h0 h1 h2 h3 h4 h5
              go_enter Tryz.func110, Tryz.ntmps110
              go_wp2
              go_ret
              exact ⟨by rw [Hs.out]; rfl, ((Below.refl _ _).alloc (Nat.le_refl _) _).alloc (by simp) _⟩
          · have q4 : (x.kind == y.kind) = false := beq_eq_false_iff_ne.2 h4
            have Hs : Hid (sameB x y = false) := Lib.hid (decide_eq_false fun k => h4 k.kind)
            clear h0 h1 h2 h3 h4
            go_enter Tryz.func110, Tryz.ntmps110
            go_wp2
            go_ret
            exact ⟨by rw [Hs.out]; rfl, ((Below.refl _ _).alloc (Nat.le_refl _) _).alloc (by simp) _⟩
        · have q3 : ∀ W : World, (binOp .eql 62 (.agg #[i64 x.client, i64 x.seq]) (.agg #[i64 y.client, i64 y.seq])).run Tryz.prog W = .ok (.bool false) W := fun W => by rw [eq_id, decide_eq_false (show ¬ Id.mk x.client x.seq = ⟨y.client, y.seq⟩ from h3)]
          have Hs : Hid (sameB x y = false) := Lib.hid (decide_eq_false fun k => h3 k.id)
          clear h0 h1 h2 h3
          go_enter Tryz.func110, Tryz.ntmps110
          go_wp2
          go_ret
          exact ⟨by rw [Hs.out]; rfl, ((Below.refl _ _).alloc (Nat.le_refl _) _).alloc (by simp) _⟩
      · have q2 := beqS_of_ne h2
        have Hs : Hid (sameB x y = false) := Lib.hid (decide_eq_false fun k => h2 k.note)
        clear h0 h1 h2
        go_enter Tryz.func110, Tryz.ntmps110
        go_wp2
        go_ret
        exact ⟨by rw [Hs.out]; rfl, ((Below.refl _ _).alloc (Nat.le_refl _) _).alloc (by simp) _⟩
    · have q1 := beqS_of_ne h1
      have Hs : Hid (sameB x y = false) := Lib.hid (decide_eq_false fun k => h1 k.peer)
      clear h0 h1
      go_enter Tryz.func110, Tryz.ntmps110
      go_wp2
      go_ret
      exact ⟨by rw [Hs.out]; rfl, ((Below.refl _ _).alloc (Nat.le_refl _) _).alloc (by simp) _⟩
  · have q0 := beqS_of_ne h0
    have Hs : Hid (sameB x y = false) := Lib.hid (decide_eq_false fun k => h0 k.acct)
    clear h0
    go_enter Tryz.func110, Tryz.ntmps110
    go_wp2
    go_ret
    exact ⟨by rw [Hs.out]; rfl, ((Below.refl _ _).alloc (Nat.le_refl _) _).alloc (by simp) _⟩
/-- an order without the place of its legs -/
def Od.core (x : Od) : Od := { x with la := none, lc := 0 }
theorem sameB_core {x y : Od} : sameB x y = true ↔ x.core = y.core := by
  unfold sameB Od.core
  rw [decide_eq_true_eq]
  cases x; cases y
  constructor
  · rintro ⟨h1, h2, h3, h4, h5, h6, h7, h8, h9⟩
    simp only [Od.id, Id.mk.injEq] at h1 h2 h3 h4 h5 h6 h7 h8 h9
    simp only [Od.mk.injEq]
    exact ⟨h4.1, h4.2, h5, h1, h2, h6, trivial, trivial, h9, h7, h8, h3⟩
  · intro h
    simp only [Od.mk.injEq] at h
    obtain ⟨h1, h2, h3, h4, h5, h6, _, _, h7, h8, h9, h10⟩ := h
    exact ⟨h4, h5, h10, by simp only [Od.id, h1, h2], h3, h6, h8, h9, h7⟩
theorem sameB_cc {x y : Od} : sameB x.core y.core = sameB x y := by rw [Bool.eq_iff_iff, sameB_core, sameB_core]; exact Iff.rfl
end Go.Proofs.YtmljlkjomjflpaaGreat
