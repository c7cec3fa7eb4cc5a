/- law08.HoldBack: the plain law, the walk -/
import Derived.Test.YthmgchohbdlonaaGreatRows
import Derived.Test.YthmgchohbdlonaaGreatHaside
import Derived.WalkKit
import Derived.WalkSpells
import Derived.WalkLawsBesides
import Derived.Deep.QuietTactic
import Derived.BigQuiet
import Derived.Laws.StructEq
import Derived.Deep.DeepFit
import Derived.StillTailTactics
namespace Go.Proofs.YthmgchohbdlonaaGreat
open Go.RowKit
theorem sumR_in {n : Int} (h : R64 n) : sumR n = (n, 0) := by
  unfold sumR overB
  rw [decide_eq_true h.1, decide_eq_true h.2]
  rfl
section
variable {α κ : Type} [DecidableEq κ] {lt : α → α → Bool} {kf : α → κ}
theorem getK_set_same (O : KeyOrd lt kf) {L : List α} (h : SrtL lt L) {a v : α} {k : κ} (ha : a ∈ L) (e : kf v = kf a) (hk : kf a = k) : getK kf (setK kf L v) k = some v := by
  rw [← hk, ← e]
  exact getK_of O (setK_srt O h v) (List.mem_map.2 ⟨a, ha, by rw [if_pos e.symm]⟩)
theorem getK_set_ne (L : List α) {v : α} {k : κ} (e : kf v ≠ k) : getK kf (setK kf L v) k = getK kf L k := by
  unfold getK setK
  induction L with
  | nil => rfl
  | cons x r ih =>
    rw [List.map_cons]
    by_cases hx : kf x = kf v
    · rw [if_pos hx, List.find?_cons_of_neg (by simpa using e), List.find?_cons_of_neg (by simpa [hx] using e)]
      exact ih
    · rw [if_neg hx]
      by_cases hk : kf x = k
      · rw [List.find?_cons_of_pos (by simpa using hk), List.find?_cons_of_pos (by simpa using hk)]
      · rw [List.find?_cons_of_neg (by simpa using hk), List.find?_cons_of_neg (by simpa using hk)]
        exact ih
theorem setK_back (O : KeyOrd lt kf) {L : List α} (h : SrtL lt L) {a v : α} (ha : a ∈ L) (e : kf v = kf a) : setK kf (setK kf L v) a = L := by
  unfold setK
  rw [List.map_map]
  conv => rhs; rw [← List.map_id L]
  refine List.map_congr_left fun x hx => ?_
  simp only [Function.comp_def, id_eq]
  by_cases hk : kf x = kf v
  · rw [if_pos hk, if_pos e, h.one O hx ha (hk.trans e)]
  · rw [if_neg hk, if_neg (fun e2 => hk (e2.trans e.symm))]
theorem srt_unique (S : Strict lt) {l m : List α} (hp : l.Perm m) (h1 : SrtL lt l) (h2 : SrtL lt m) : l = m :=
  sorted_unique hp (h1.sorted S) (h2.sorted S) fun a ha b hb e1 e2 => by
    obtain ⟨i, hi, rfl⟩ := List.getElem_of_mem (hp.mem_iff.1 ha)
    obtain ⟨j, hj, rfl⟩ := List.getElem_of_mem (hp.mem_iff.1 hb)
    rcases Nat.lt_trichotomy i j with hij | rfl | hij
    · rw [List.pairwise_iff_getElem.1 h2 i j hi hj hij] at e1; cases e1
    · rfl
    · rw [List.pairwise_iff_getElem.1 h2 j i hj hi hij] at e2; cases e2
theorem del_ins (O : KeyOrd lt kf) {L : List α} (h : SrtL lt L) {x : α} (hn : getK kf L (kf x) = none) : delK kf (insB lt x L) (kf x) = L ∧ getK kf (insB lt x L) (kf x) = some x := by
  have hs := insB_srt O.strict x L h fun y hy => O.co _ _ fun e => getK_none.1 hn y hy e.symm
  refine ⟨srt_unique O.strict ?_ (delK_srt hs _) h, getK_of O hs ((insB_perm x L).mem_iff.2 (List.mem_cons_self ..))⟩
  unfold delK
  refine ((insB_perm x L).filter _).trans ?_
  rw [List.filter_cons_of_neg (by simp), List.filter_eq_self.2]
  intro y hy
  have := getK_none.1 hn y hy
  simpa using this
end
theorem freeA_le {a : Ac} {x : Int} (h : freeA a x = true) : -a.lim ≤ a.hav - a.set_ - x := by
  unfold freeA at h
  simp only [Bool.and_eq_true, decide_eq_true_eq] at h
  obtain ⟨h1, h2, h3⟩ := h
  rw [sumR_0 h2, sumR_0 h1] at h3
  exact h3
theorem getLR_some {L : List Ac} {k : ByteArray} {a : Ac} (h : getK Ac.name L k = some a) : getLR L k = (a, 0) := by unfold getLR; rw [h]
theorem turn_ok {D : Ac → Ac × Int} {L : List Ac} {k : ByteArray} {a : Ac} {x : Int} (hg : getK Ac.name L k = some a) (h1 : (D a).2 = 0) (h2 : ¬ 0 < x ∨ freeA a x = true) (h3 : 0 ≤ (D a).1.set_) : turnL D L k x = (0, setK Ac.name L (D a).1) := by
  unfold turnL
  rw [hg]
  dsimp only
  rw [if_neg (by rw [h1]; simp), if_neg (fun e => by rcases h2 with h | h; exact h e.1; rw [h] at e; cases e.2), if_neg (by omega)]
theorem turn_over {D : Ac → Ac × Int} {L : List Ac} {k : ByteArray} {a : Ac} {x : Int} (hg : getK Ac.name L k = some a) (h1 : (D a).2 ≠ 0) : turnL D L k x = ((D a).2, L) := by
  unfold turnL
  rw [hg]
  dsimp only
  rw [if_pos h1]
theorem sumL_two (a b : Int) : sumL [a, b] = a + b := by simp only [sumL]; omega
/-- two legs of one sum, posted -/
theorem allL_two {L : List Ac} (hs : SrtL ltA L) (hok : OkA L) {k p : ByteArray} (hkp : k ≠ p) {s : Int} (hs1 : 1 ≤ s) (hs2 : s ≤ 9223372036854775807) {a c : Ac} (ha : getK Ac.name L k = some a) (hc : getK Ac.name L p = some c) (hf : freeA a s = true) :
    R64 (a.hav - s) ∧ ((allL L (legs2 k p s)).1 = 2 ∨ ((allL L (legs2 k p s)).1 = 0 ∧ getK Ac.name (allL L (legs2 k p s)).2 k = some { a with hav := a.hav - s })) := by
  obtain ⟨ham, hak⟩ := getK_mem ha
  obtain ⟨hcm, hck⟩ := getK_mem hc
  have hoa := hok a ham
  have hoc := hok c hcm
  have hfl := freeA_le hf
  have hr : R64 (a.hav - s) := by
    have h1 := hoa.1.1
    have h2 := hoa.1.2.2
    have h3 := hoa.2.1
    unfold R64 at *
    omega
  refine ⟨hr, ?_⟩
  have p1 : postL L ⟨k, -s⟩ = (0, setK Ac.name L { a with hav := a.hav - s }) := by
    unfold postL
    rw [getLR_some ha]
    dsimp only
    rw [if_neg (by simp), show (0 : Int) - -s = s by omega, sumR_in (show R64 s by unfold R64; omega)]
    dsimp only
    rw [if_neg (by simp), turn_ok ha (by show (sumR (a.hav - s)).2 = 0; rw [sumR_in hr]) (.inr hf) hoa.2.1]
    show (_, setK Ac.name L { a with hav := (sumR (a.hav - s)).1 }) = _
    rw [sumR_in hr]
  have g1 : getK Ac.name (setK Ac.name L { a with hav := a.hav - s }) k = some { a with hav := a.hav - s } := getK_set_same keyA hs ham rfl hak
  have g2 : getK Ac.name (setK Ac.name L { a with hav := a.hav - s }) p = some c := by
    rw [getK_set_ne L (fun e => hkp (by rw [← hak]; exact e)), hc]
  unfold legs2 allL
  rw [p1]
  dsimp only
  rw [if_neg (by simp)]
  generalize setK Ac.name L { a with hav := a.hav - s } = L' at *
  unfold allL allL
  have p2 : postL L' ⟨p, s⟩ = turnL (givD (-s)) L' p (-s) := by
    unfold postL
    rw [getLR_some g2]
    dsimp only
    rw [if_neg (by simp), show (0 : Int) - s = -s by omega, sumR_in (show R64 (-s) by unfold R64; omega)]
    dsimp only
    rw [if_neg (by simp)]
  rw [p2]
  by_cases ho : (givD (-s) c).2 = 0
  · rw [turn_ok g2 ho (.inl (by omega)) hoc.2.1]
    right
    dsimp only
    rw [if_neg (by simp)]
    refine ⟨rfl, ?_⟩
    rw [getK_set_ne L' (fun e => hkp (by rw [← hck]; exact e.symm)), g1]
  · rw [turn_over g2 ho]
    left
    dsimp only
    rw [if_pos ho]
    show (sumR (c.hav - -s)).2 = 2
    have : (sumR (c.hav - -s)).2 ≠ 0 := ho
    unfold sumR at *
    split
    · rfl
    · rename_i h; rw [if_neg h] at this; simp at this
theorem back_plain {L : List Ac} {H : List Held} (h : InvH L H) {c : Ac} (hc : getK Ac.name L sC = some c) {y : Held} (hy : R64 y.sum) (hp : (putH L H y).1 = 0) :
    ∃ a : Ac, freeHL (putH L H y).2.1 (putH L H y).2.2 y.acct y.num = (0, L, H) ∧ getLR (putH L H y).2.1 y.acct = ({ a with set_ := a.set_ + y.sum }, 0) ∧ R64 a.hav ∧ R64 (a.hav - y.sum) ∧ R64 (a.set_ + y.sum) ∧ R64 a.set_ ∧
      ((y.acct = sC ∧ takeH (putH L H y).2.1 (putH L H y).2.2 y.acct y.num sC y.sum = (1, (putH L H y).2.1, (putH L H y).2.2)) ∨
       (y.acct ≠ sC ∧ takeH (putH L H y).2.1 (putH L H y).2.2 y.acct y.num sC y.sum = (2, (putH L H y).2.1, (putH L H y).2.2)) ∨
       (y.acct ≠ sC ∧ ∃ L3, takeH (putH L H y).2.1 (putH L H y).2.2 y.acct y.num sC y.sum = (0, L3, H) ∧ getLR L3 y.acct = ({ a with hav := a.hav - y.sum }, 0))) := by
  unfold putH at hp
  by_cases h1 : y.num < 1 ∨ 9999 < y.num ∨ y.sum < 1
  · rw [if_pos h1] at hp; cases hp
  rw [if_neg h1] at hp
  by_cases h2 : (getK Held.key H y.key).isSome = true
  · rw [if_pos h2] at hp; cases hp
  rw [if_neg h2] at hp
  by_cases h3 : (ofL H y.acct).length = 8
  · rw [if_pos h3] at hp; cases hp
  rw [if_neg h3] at hp
  have hP : putH L H y = (0, (turnL (asiD y.sum) L y.acct y.sum).2, insB ltH y H) := by
    unfold putH
    rw [if_neg h1, if_neg h2, if_neg h3]
    dsimp only at hp ⊢
    rw [if_pos hp, hp]
  rw [hP]
  dsimp only
  rcases turnL_cases (asiD y.sum) L y.acct y.sum with ⟨e0, _⟩ | ⟨e0, a, ha, hz, hge, hfr, e⟩
  · exact absurd hp e0
  rw [e, asiD_0 hz]
  rw [asiD_0 hz] at hge
  obtain ⟨ham, hak⟩ := getK_mem ha
  have hoa := h.okA a ham
  have hno : getK Held.key H y.key = none := by simpa using h2
  obtain ⟨hd1, hd2⟩ := del_ins keyH h.srtH hno
  have hg1 : getK Ac.name (setK Ac.name L { a with set_ := a.set_ + y.sum }) y.acct = some { a with set_ := a.set_ + y.sum } := getK_set_same keyA h.srtA ham rfl hak
  have hrs : R64 (a.set_ + y.sum) := by have := sumR_R64 (a.set_ + y.sum); rwa [sumR_0 hz] at this
  have ht : turnL (asiD (-y.sum)) (setK Ac.name L { a with set_ := a.set_ + y.sum }) y.acct (-y.sum) = (0, L) := by
    have e3 : a.set_ + y.sum + -y.sum = a.set_ := by omega
    rw [turn_ok hg1 (by show (sumR (a.set_ + y.sum + -y.sum)).2 = 0; rw [e3, sumR_in hoa.1.2.1]) (.inl (by omega)) (by show 0 ≤ (sumR (a.set_ + y.sum + -y.sum)).1; rw [e3, sumR_in hoa.1.2.1]; exact hoa.2.1)]
    show (_, setK Ac.name _ { a with set_ := (sumR (a.set_ + y.sum + -y.sum)).1 }) = _
    rw [e3, sumR_in hoa.1.2.1]
    exact congrArg (Prod.mk 0) (setK_back keyA h.srtA ham rfl)
  have hfree : freeHL (setK Ac.name L { a with set_ := a.set_ + y.sum }) (insB ltH y H) y.acct y.num = (0, L, H) := by
    rw [freeHL_of hd2 (by rw [ht]; simp), ht]
    show (0, L, delK Held.key (insB ltH y H) y.key) = _
    rw [hd1]
  have hf : freeA a y.sum = true := hfr (by omega)
  have hT : ∀ X, X = takeH (setK Ac.name L { a with set_ := a.set_ + y.sum }) (insB ltH y H) y.acct y.num sC y.sum → X = if checkL L (legs2 y.acct sC y.sum) ≠ 0 then (checkL L (legs2 y.acct sC y.sum), setK Ac.name L { a with set_ := a.set_ + y.sum }, insB ltH y H) else ((makeL L (legs2 y.acct sC y.sum)).1, (makeL L (legs2 y.acct sC y.sum)).2, H) := fun X hX => by
    rw [hX]
    unfold takeH
    rw [show (⟨y.acct, y.num⟩ : Hk) = y.key from rfl, hd2]
    dsimp only
    rw [if_neg (by omega), if_neg (by rw [ht]; simp), ht, hfree]
  have hT := hT _ rfl
  refine ⟨a, hfree, getLR_some hg1, hoa.1.1, ?_, hrs, hoa.1.2.1, ?_⟩
  · have := freeA_le hf
    have h4 := hoa.1.1
    have h5 := hoa.1.2.2
    have h6 := hoa.2.1
    unfold R64 at *
    omega
  · rw [hT]
    by_cases hk : y.acct = sC
    · left
      have hl : legsB (legs2 y.acct sC y.sum) = false := legsB_seen (k := 1) (by unfold legs2; simp) (by unfold legs2; simp [hk])
      have hcl : checkL L (legs2 y.acct sC y.sum) = 1 := by unfold checkL; rw [if_pos hl]
      exact ⟨hk, by rw [if_pos (by rw [hcl]; simp), hcl]⟩
    · right
      have hnm : nameB y.acct = true := by rw [← hak]; exact hoa.2.2
      have hl : ¬ legsB (legs2 y.acct sC y.sum) = false := by
        unfold legsB legs2 legB
        simp [hk, hnm, nameC]
        omega
      have hw : ¬ weighB (legs2 y.acct sC y.sum) = false := by
        unfold weighB legs2
        simp only [List.map_cons, List.map_nil]
        rw [sumL_two, show -y.sum + y.sum = 0 by omega, sumR_in ⟨by decide, by decide⟩]
        decide
      have hcl : checkL L (legs2 y.acct sC y.sum) = (allL L (legs2 y.acct sC y.sum)).1 := by unfold checkL; rw [if_neg hl, if_neg hw]
      obtain ⟨_, h5⟩ := allL_two h.srtA h.okA hk (by omega) hy.2 ha hc hf
      rcases h5 with h5 | ⟨h5, h6⟩
      · left
        rw [h5] at hcl
        exact ⟨hk, by rw [if_pos (by rw [hcl]; simp), hcl]⟩
      · right
        rw [h5] at hcl
        obtain ⟨m1, m2⟩ := make_of_check hcl
        exact ⟨hk, (makeL L (legs2 y.acct sC y.sum)).2, by rw [if_neg (by rw [hcl]; simp), m2], getLR_some (by rw [m1]; exact h6)⟩
theorem blk_b {w w' : World} {k : Nat} {o : Obj} (hF : Below w.heap.size w w') (h : w.heap[k]? = some o) : w'.heap[k]? = some o := (hF.block _ (Array.getElem?_eq_some_iff.1 h).1).trans h
theorem blk_g {w w' : World} {S : Nat → Prop} {k : Nat} {o : Obj} (hG : Gr w w' S) (h : w.heap[k]? = some o) (hn : ¬ S k) : w'.heap[k]? = some o := (hG.block _ (Array.getElem?_eq_some_iff.1 h).1 hn).trans h
def NM (L : List Ac) : Prop := L.map Ac.name = [sA, sB, sC]
theorem setK_names (L : List Ac) (v : Ac) : (setK Ac.name L v).map Ac.name = L.map Ac.name := by
  unfold setK
  rw [List.map_map]
  refine List.map_congr_left fun x _ => ?_
  simp only [Function.comp_def]
  by_cases h : x.name = v.name
  · rw [if_pos h, h]
  · rw [if_neg h]
theorem turnL_names (D : Ac → Ac × Int) (L : List Ac) (k : ByteArray) (x : Int) : (turnL D L k x).2.map Ac.name = L.map Ac.name := by
  rcases turnL_cases D L k x with ⟨_, e⟩ | ⟨_, a, _, _, _, _, e⟩
  · rw [e]
  · rw [e, setK_names]
theorem SS.names {L L' : List Ac} (h : SS L L') : L'.map Ac.name = L.map Ac.name := by
  have := congrArg (List.map Prod.fst) h
  rw [List.map_map, List.map_map] at this
  exact this.symm
theorem freeHL_names (L : List Ac) (H : List Held) (k : ByteArray) (n : Int) : (freeHL L H k n).2.1.map Ac.name = L.map Ac.name := by
  unfold freeHL
  cases getK Held.key H ⟨k, n⟩ with
  | none => rfl
  | some y => exact turnL_names _ _ _ _
theorem stepH_names {L : List Ac} {H : List Held} (h : InvH L H) (x : Op8) : (stepH L H x).2.1.map Ac.name = L.map Ac.name := by
  unfold stepH
  split
  · unfold putH
    split
    · rfl
    · split
      · rfl
      · split
        · rfl
        · exact turnL_names _ _ _ _
  · split
    · unfold takeH
      cases getK Held.key H ⟨x.acct, x.num⟩ with
      | none => rfl
      | some y =>
        dsimp only
        split
        · rfl
        · split
          · rfl
          · split
            · rfl
            · rw [(makeL_ss (h.free _ _).srtA _).1.names, freeHL_names]
    · split
      · exact freeHL_names _ _ _ _
      · exact turnL_names _ _ _ _
theorem NM.c {L : List Ac} (h : NM L) : ∃ c, getK Ac.name L sC = some c := by
  cases hg : getK Ac.name L sC with
  | some c => exact ⟨c, rfl⟩
  | none =>
    have h1 : sC ∈ L.map Ac.name := by rw [h]; simp
    obtain ⟨a, ha, e⟩ := List.mem_map.1 h1
    exact absurd e (getK_none.1 hg a ha)
theorem NM.len {L : List Ac} (h : NM L) : L.length = 3 := by
  have := congrArg List.length h
  simpa using this
theorem hocopyA_c (g b : Nat) (H : List Held) (w : World) (h : HoA w g b H) :
    Calls Tryz.prog 20 #[.pointer (some ⟨g, 0, none⟩)] w fun e w' => ∃ g' b', e = .returned (.pointer (some ⟨g', 0, none⟩)) ∧ HoA w' g' b' H ∧ w.heap.size ≤ g' ∧ w.heap.size ≤ b' ∧ Below w.heap.size w w' := by
  obtain ⟨M, h, hr⟩ := h
  exact (hocopy_c g b M w h).mono fun _ _ ⟨g', b', h1, h2, h3⟩ => ⟨g', b', h1, ⟨M, h2, hr⟩, h3⟩
theorem putH_len (L : List Ac) (H : List Held) (x : Held) : (putH L H x).2.2.length ≤ H.length + 1 := by
  unfold putH
  split
  · exact Nat.le_succ _
  · split
    · exact Nat.le_succ _
    · split
      · exact Nat.le_succ _
      · dsimp only
        split
        · rw [(insB_perm _ H).length_eq, List.length_cons]; exact Nat.le_refl _
        · exact Nat.le_succ _
theorem putH_names (L : List Ac) (H : List Held) (x : Held) : (putH L H x).2.1.map Ac.name = L.map Ac.name := by
  unfold putH
  split
  · rfl
  · split
    · rfl
    · split
      · rfl
      · exact turnL_names _ _ _ _
set_option maxRecDepth 100000 in
set_option maxHeartbeats 16000000 in
theorem holdBack_c (A : Option Addr) (c : Nat) (l : List Op8) (x : Op8) (w : World) (h : Sl w w.heap.size A c l) (hx : Okb w w.heap.size x) :
    Calls Tryz.prog 5 #[.slice A l.length c, x.v] w fun e w' => e = .returned (.bool true) ∧ Below w.heap.size w w' := by
  have hL := Lib.hid fun W => lives8_c W
  have hBg := Lib.hid fun W => begin_c W
  have hH := Lib.hid fun W => honewA_c W
  have Hl := Lib.hid h
  have Hx := Lib.hid (show x.acct.size ≤ maxLen ∧ x.peer.size ≤ maxLen ∧ R64 x.sum from hx)
  have hb0 := (Below.refl w.heap.size w).alloc (Nat.le_refl _) (.cells #[i64 x.kind, i64 x.num, .string x.acct, .string x.peer, i64 x.sum] 38)
  have hk0 := heap_alloc_new w (.cells #[i64 x.kind, i64 x.num, .string x.acct, .string x.peer, i64 x.sum] 38)
  have hs0 : w.heap.size < (w.alloc (.cells #[i64 x.kind, i64 x.num, .string x.acct, .string x.peer, i64 x.sum] 38)).heap.size := by simp
  clear h hx
  go_enter Tryz.func5, Tryz.ntmps5
  go_wp2_with fail
  generalize w.alloc (.cells #[i64 x.kind, i64 x.num, .string x.acct, .string x.peer, i64 x.sum] 38) = w0 at *
  refine (hL.out _).mono ?_
  rintro e w1 ⟨rfl, hF⟩
  have hb1 := below_on hb0 (Nat.le_refl _) hF
  have hk1 := blk_b hF hk0
  have hs1 := Nat.lt_of_lt_of_le hs0 hF.size
  clear hL hF hb0 hk0 hs0
  go_wp2_with fail
  refine (hBg.out _).mono ?_
  rintro e w2 ⟨g, b, r, rfl, hB⟩
  have hb2 := below_on hb1 (Nat.le_refl _) hB.be
  have hk2 := blk_b hB.be hk1
  have hc2 := hB.ch
  have hgb : w.heap.size < g ∧ w.heap.size < b := by have := hB.ge; omega
  clear hBg hB hb1 hk1
  go_wp2_with fail
  refine (hH.out _).mono ?_
  rintro e w3 ⟨rfl, hh3, hF⟩
  have hb3 := below_on hb2 (Nat.le_refl _) hF
  have hk3 := blk_b hF hk2
  have hc3 := hc2.later hF
  have hd : w2.heap.size + 1 ≠ b ∧ w2.heap.size ≠ b ∧ g ≠ w2.heap.size := by have := hc2.lt; omega
  have hbh : w.heap.size < w2.heap.size := (Array.getElem?_eq_some_iff.1 hk2).1
  generalize w2.heap.size + 1 = gh at *
  generalize w2.heap.size = bh at *
  have hE := Lib.hid (early_c A c l w3 (Hl.out.later hb3))
  clear hH hF hc2 hb2 hk2 hs1
  go_wp2_with fail
  refine hE.out.mono ?_
  rintro e w4 ⟨en, rfl, hm, hF⟩
  have hb4 := below_on hb3 (Nat.le_refl _) hF
  have hk4 := blk_b hF hk3
  have hc4 := hc3.later hF
  have hh4 := hh3.later hF
  have Hm := Lib.hid (Hl.out.take en)
  generalize l.take en = m at *
  have hmc : m.length ≤ c := Hm.out.1
  clear hE hF hc3 hh3 hb3 Hl hk3
  go_wp2_with fail
  go_loopw [8] (fun i wr => ∃ (n : Nat) (L : List Ac) (H : List Held), i = i64 n ∧ n ≤ m.length ∧ ChA wr g b L ∧ HoA wr gh bh H ∧ InvH L H ∧ H.length ≤ n ∧ NM L ∧ wr.heap[w.heap.size]? = some (.cells #[i64 x.kind, i64 x.num, .string x.acct, .string x.peer, i64 x.sum] 38 (0, 0)) ∧ Below w.heap.size w wr) (fun i _ => m.length - (intOf i).toNat)
  case atStart => exact ⟨0, L0, [], rfl, Nat.zero_le _, hc4, hh4, inv_L0, Nat.le_refl _, rfl, hk4, hb4⟩
  case round =>
    obtain ⟨n, L, H, rfl, hn, hc, hh, hI, hHn, hNM, hk, hB⟩ := hrel
    clear hc4 hh4 hb4 hk4
    by_cases hlt : n < m.length
    · have g1 : decide ((n : Int) < (m.length : Int)) = true := decide_eq_true (by omega)
      have g2 : decide (n < m.length) = true := decide_eq_true hlt
      obtain ⟨sb, so, rfl, hsb, hok, _, _, _, _, _⟩ := Hm.out.op8 hlt
      have i0 : (0 : Int) ≤ (n : Int) := by omega
      obtain ⟨sb', so', hsb', _, _, d0, d1, d2, d3, d4⟩ := (Hm.out.below hB).op8 hlt
      injection hsb' with hsb'
      injection hsb' with e1 e2
      subst e1 e2
      have HD := Lib.hid (does_c g b gh bh L H m[n] wr hc hh hd hI.okA hI.okH (by omega) hok)
      have hI2 := hI.step m[n] hok
      have hnm := stepH_names hI m[n]
      have hlH := stepH_len L H m[n]
      obtain ⟨R, hR⟩ : ∃ R, stepH L H m[n] = R := ⟨_, rfl⟩
      rw [hR] at HD hI2 hnm hlH
      obtain ⟨er, L2, H2⟩ := R
      dsimp only at HD hI2 hnm hlH
      have HI2 := Lib.hid hI2
      have HNM := Lib.hid (show NM L2 from hnm.trans hNM)
      have HlH := Lib.hid (show H2.length ≤ n + 1 by omega)
      have Hk := Lib.hid hk
      clear hI2 hlH hNM hnm hR hok hI hc hh hk
      go_wp2_with fail
      refine HD.out.mono ?_
      rintro e x3 ⟨rfl, hc3, hh3, hG⟩
      have hB3 := hB.trans (hG.below hB.size (fun k hk => by rcases hk with rfl | rfl <;> omega))
      have hk3 := blk_g hG Hk.out (fun e => by rcases e with e | e <;> omega)
      clear HD hG hB Hk
      go_wp2_with fail
      go_roundw
      case rel => exact ⟨n + 1, L2, H2, by go_num, by omega, hc3, hh3, HI2.out, HlH.out, HNM.out, hk3, hB3⟩
      case measure => simp [intOf]; omega
    · have g1 : decide ((n : Int) < (m.length : Int)) = false := decide_eq_false (by omega)
      have g2 : decide (n < m.length) = false := decide_eq_false hlt
      have HI := Lib.hid hI
      have HHn := Lib.hid (show H.length ≤ 120 by omega)
      have HNM := Lib.hid hNM
      clear hI hHn hNM hn
      have HA := Lib.hid (challA_c g b L wr hc HI.out.okA (by have := HNM.out.len; omega))
      go_wp2_with fail
      refine HA.out.mono ?_
      rintro e x1 ⟨v1, rfl, hO1, hF⟩
      have hT : ∀ k, wr.heap.size ≤ k → k ≠ b ∧ k ≠ bh := fun k hk => by have := hc.lt.2.1; have := hh.lt.2.1; omega
      obtain ⟨A1, c1, rfl, s1, -⟩ := hO1.slT hT (fun y hy => hO1.2 y hy)
      have hc1 := hc.later hF
      have hh1 := hh.later hF
      have hk1 := blk_b hF hk
      have hB1 := hB.trans (hF.mono hB.size)
      have HA2 := Lib.hid (hoall_c gh bh H x1 hh1 HI.out.okH (by have := HHn.out; omega))
      clear HA hO1 hF hc hh hB hk hT
      go_wp2_with fail
      refine HA2.out.mono ?_
      rintro e x2 ⟨v2, rfl, hO2, hF⟩
      obtain ⟨A2, c2, rfl, -⟩ := hO2.sl
      have hc2 := hc1.later hF
      have hh2 := hh1.later hF
      have hk2 := blk_b hF hk1
      have hs2 := s1.below_ hF
      have hB2 := hB1.trans (hF.mono hB1.size)
      have m1 := cell_of_row _ w.heap.size 1 _ _ (0, 0) hk2
      have m2 := cell_of_row _ w.heap.size 2 _ _ (0, 0) hk2
      have m4 := cell_of_row _ w.heap.size 4 _ _ (0, 0) hk2
      simp only [List.getElem?_toArray, List.getElem?_cons_zero, List.getElem?_cons_succ] at m1 m2 m4
      clear HA2 hO2 hF hc1 hh1 hk1 hB1 s1
      have hba := (Below.refl x2.heap.size x2).alloc (Nat.le_refl _) (.cells #[i64 x.num, .string x.acct, i64 x.sum] 54)
      have hP := Lib.hid (hoput_c g b gh bh L H ⟨x.num, x.acct, x.sum⟩ _ (hc2.later hba) (hh2.later hba) hd HI.out.okA HI.out.okH Hx.out.2.2 (by have := HHn.out; omega))
      have hk2' := blk_b hba hk2
      have hs2' := hs2.below_ hba
      have hB2' := hB2.trans (hba.mono hB2.size)
      clear hc2 hh2 hk2 hs2 hB2 hba
      go_wp2_with fail
      generalize x2.alloc (.cells #[i64 x.num, .string x.acct, i64 x.sum] 54) = x2' at *
      refine hP.out.mono ?_
      rintro e x3 ⟨rfl, hc3, hh3, hG⟩
      have hG := Gr.of_g2 hG
      have hk3 := blk_g hG hk2' (fun e => by rcases e with e | e <;> omega)
      have hs3 : SlS x3 (fun k => k < x3.heap.size ∧ k ≠ b ∧ k ≠ bh) A1 c1 L := (hs2'.grs hG (fun k hk => ⟨hk.1, fun e => by rcases e with e | e; exact hk.2.1 e; exact hk.2.2 e⟩)).mono (fun k hk => ⟨Nat.lt_of_lt_of_le hk.1 hG.size, hk.2⟩)
      have hB3 := hB2'.trans (hG.below hB2'.size (fun k hk => by rcases hk with rfl | rfl <;> omega))
      have m1 := cell_of_row _ w.heap.size 1 _ _ (0, 0) hk3
      have m2 := cell_of_row _ w.heap.size 2 _ _ (0, 0) hk3
      have m4 := cell_of_row _ w.heap.size 4 _ _ (0, 0) hk3
      simp only [List.getElem?_toArray, List.getElem?_cons_zero, List.getElem?_cons_succ] at m1 m2 m4
      obtain ⟨y, hy⟩ : ∃ y : Held, y = ⟨x.num, x.acct, x.sum⟩ := ⟨_, rfl⟩
      rw [← hy] at hc3 hh3 ⊢
      have hy1 : y.num = x.num := by rw [hy]
      have hy2 : y.acct = x.acct := by rw [hy]
      have hy3 : y.sum = x.sum := by rw [hy]
      clear hP hG hk2' hs2' hB2' hy
      by_cases he : (putH L H y).1 = 0
      · obtain ⟨cc, hcc⟩ := HNM.out.c
        have hbp := back_plain HI.out hcc (y := y) (by rw [hy3]; exact Hx.out.2.2) he
        have hI1 := HI.out.put y (by rw [hy3]; exact Hx.out.2.2) (by rw [hy2]; exact Hx.out.1)
        have hn1 := putH_len L H y
        have hq1 := putH_names L H y
        obtain ⟨R, hR⟩ : ∃ R, putH L H y = R := ⟨_, rfl⟩
        rw [hR] at hc3 hh3 he hbp hI1 hn1 hq1 ⊢
        obtain ⟨er, L1, H1⟩ := R
        dsimp only at hc3 hh3 he hbp hI1 hn1 hq1 ⊢
        subst he
        rw [hy2, hy1, hy3] at hbp
        obtain ⟨a, hfr, hgl, r1, r2, r3, r4, hcs⟩ := hbp
        obtain ⟨st, hst⟩ : ∃ st, a.set_ + x.sum = st := ⟨_, rfl⟩
        obtain ⟨hv, hhv⟩ : ∃ hv, a.hav - x.sum = hv := ⟨_, rfl⟩
        rw [hst] at hgl r3
        rw [hhv] at hcs r2
        have Hst := Lib.hid (show st - x.sum = a.set_ by omega)
        have Hhv := Lib.hid hhv
        clear hst hhv
        have HI1 := Lib.hid hI1
        have HNM1 := Lib.hid (show NM L1 from hq1.trans HNM.out)
        have HHn1 := Lib.hid (show H1.length ≤ 121 by have := HHn.out; omega)
        have Hfr := Lib.hid hfr
        have Hgl := Lib.hid hgl
        have HR := Lib.hid (⟨r1, r2, r3, r4⟩ : _ ∧ _ ∧ _ ∧ _)
        have Hcs := Lib.hid hcs
        have hCp := Lib.hid (chcopyA_c g b L1 x3 hc3)
        clear hR hcc hI1 hn1 hq1 hfr hgl r1 r2 r3 r4 hcs hy1 hy2 hy3
        clear y
        go_wp2_with fail
        refine hCp.out.mono ?_
        rintro e x4 ⟨gd, bd, rfl, hd4, hgd, hbd, hF⟩
        have hc4 := hc3.later hF
        have hh4 := hh3.later hF
        have hk4 := blk_b hF hk3
        have hs4 := hs3.below_ hF
        have hB4 := hB3.trans (hF.mono hB3.size)
        have hCp := Lib.hid (hocopyA_c gh bh H1 x4 hh4)
        have hdd : b < x3.heap.size ∧ bh < x3.heap.size ∧ gd < x4.heap.size ∧ bd < x4.heap.size := ⟨hc3.lt.2.1, hh3.lt.2.1, hd4.lt.1, hd4.lt.2.1⟩
        have hw3 := hB3.size
        clear hF hc3 hh3 hk3 hs3 hB3 m1 m2 m4
        go_wp2_with fail
        refine hCp.out.mono ?_
        rintro e x5 ⟨gg, bg, rfl, hg5, hgg, hbg, hF⟩
        have hc5 := hc4.later hF
        have hh5 := hh4.later hF
        have hd5 := hd4.later hF
        have hk5 := blk_b hF hk4
        have hs5 := hs4.below_ hF
        have hB5 := hB4.trans (hF.mono hB4.size)
        have hdg : gg ≠ bd ∧ bg ≠ bd ∧ gd ≠ bg := by omega
        have hdb : gd ≠ b ∧ gd ≠ bh ∧ bd ≠ b ∧ bd ≠ bh ∧ gg ≠ b ∧ gg ≠ bh ∧ bg ≠ b ∧ bg ≠ bh ∧ w.heap.size ≠ bd ∧ w.heap.size ≠ bg ∧ w.heap.size ≤ bd ∧ w.heap.size ≤ bg := by
          have := hF.size
          omega
        have Hdb := Lib.hid hdb
        have Hdg := Lib.hid hdg
        have hFr := hofreeA_c g b gh bh L1 H1 x.acct x.num x5 hc5 hh5 hd HI1.out.okA HI1.out.okH
        rw [Hfr.out] at hFr
        have HFr := Lib.hid hFr
        have m1 := cell_of_row _ w.heap.size 1 _ _ (0, 0) hk5
        have m2 := cell_of_row _ w.heap.size 2 _ _ (0, 0) hk5
        simp only [List.getElem?_toArray, List.getElem?_cons_zero, List.getElem?_cons_succ] at m1 m2
        clear hF hc4 hh4 hd4 hk4 hs4 hB4 hdd hdg hdb hFr hgd hbd hgg hbg hc5 hh5 hCp
        go_wp2_with fail
        refine HFr.out.mono ?_
        rintro e x6 ⟨rfl, hc6, hh6, hG⟩
        have hG := Gr.of_g2 hG
        have hk6 := blk_g hG hk5 (fun e => by rcases e with e | e <;> omega)
        have hs6 : SlS x6 (fun k => k < x6.heap.size ∧ k ≠ b ∧ k ≠ bh) A1 c1 L := (hs5.grs hG (fun k hk => ⟨hk.1, fun e => by rcases e with e | e; exact hk.2.1 e; exact hk.2.2 e⟩)).mono (fun k hk => ⟨Nat.lt_of_lt_of_le hk.1 hG.size, hk.2⟩)
        have hd6 := hd5.kept hG (fun e => by have := Hdb.out; rcases e with e | e <;> omega) (fun e => by have := Hdb.out; rcases e with e | e <;> omega)
        have hg6 := hg5.kept hG (fun e => by have := Hdb.out; rcases e with e | e <;> omega) (fun e => by have := Hdb.out; rcases e with e | e <;> omega)
        have hB6 := hB5.trans (hG.below hB5.size (fun k hk => by rcases hk with rfl | rfl <;> omega))
        have HA := Lib.hid (challA_c g b L x6 hc6 HI.out.okA (by have := HNM.out.len; omega))
        clear hG hk5 hs5 hd5 hg5 hB5 HFr m1 m2
        go_wp2_with fail
        refine HA.out.mono ?_
        rintro e x7 ⟨v7, rfl, hO7, hF⟩
        obtain ⟨A7, c7, rfl, s7⟩ := hO7.sl
        have hh7 := hh6.later hF
        have hk7 := blk_b hF hk6
        have hs7 := hs6.below_ hF
        have hd7 := hd6.later hF
        have hg7 := hg6.later hF
        have hB7 := hB6.trans (hF.mono hB6.size)
        have HS := rsame5_c _ _ A7 A1 c7 c1 L L x7 s7 hs7 (by have := HNM.out.len; omega) (by have := HNM.out.len; omega)
        rw [decide_eq_true (show L = L from rfl)] at HS
        have HS := Lib.hid HS
        clear HA hO7 hF hc6 hh6 hk6 hs6 hd6 hg6 hB6 s7 hs7
        go_wp2_with fail
        refine HS.out.mono ?_
        rintro e x8 ⟨rfl, hF⟩
        have hh8 := hh7.later hF
        have hk8 := blk_b hF hk7
        have hd8 := hd7.later hF
        have hg8 := hg7.later hF
        have hB8 := hB7.trans (hF.mono hB7.size)
        have HA := Lib.hid (hoall_c gh bh H x8 hh8 HI.out.okH (by have := HHn.out; omega))
        clear HS hF hh7 hk7 hd7 hg7 hB7
        go_wp2_with fail
        refine HA.out.mono ?_
        rintro e x9 ⟨v9, rfl, hO9, hF⟩
        obtain ⟨A9, c9, rfl, -⟩ := hO9.sl
        have hk9 := blk_b hF hk8
        have hd9 := hd8.later hF
        have hg9 := hg8.later hF
        have hB9 := hB8.trans (hF.mono hB8.size)
        have m2 := cell_of_row _ w.heap.size 2 _ _ (0, 0) hk9
        simp only [List.getElem?_toArray, List.getElem?_cons_zero, List.getElem?_cons_succ] at m2
        have hGt := getA_c gd bd L1 x.acct x9 hd9
        rw [Hgl.out] at hGt
        have HGt := Lib.hid hGt
        have q9 : ((H.length : Int) != (H.length : Int)) = false := by simp
        clear HA hO9 hF hh8 hk8 hd8 hg8 hB8 hGt
        go_wp2_with fail
        refine HGt.out.mono ?_
        rintro e x10 ⟨rfl, hF⟩
        have hk10 := blk_b hF hk9
        have hd10 := hd9.later hF
        have hg10 := hg9.later hF
        have hB10 := hB9.trans (hF.mono hB9.size)
        have hlt10 : bd < x10.heap.size ∧ bg < x10.heap.size := ⟨hd10.lt.2.1, hg10.lt.2.1⟩
        have hba := (Below.refl x10.heap.size x10).alloc (Nat.le_refl _) (.cells #[.string a.name, i64 a.hav, i64 st, i64 a.lim] 52)
        have ht11 := heap_alloc_new x10 (.cells #[.string a.name, i64 a.hav, i64 st, i64 a.lim] 52)
        have hk11 := blk_b hba hk10
        have hd11 := hd10.later hba
        have hg11 := hg10.later hba
        have hB11 := hB10.trans (hba.mono hB10.size)
        have hTk := hotake_c gd bd gg bg L1 H1 x.acct x.num sC x.sum _ hd11 hg11 Hdg.out HI1.out.okA HI1.out.okH Hx.out.2.2 Hx.out.1 (sz_s _)
        have m1 := cell_of_row _ w.heap.size 1 _ _ (0, 0) hk11
        have m2 := cell_of_row _ w.heap.size 2 _ _ (0, 0) hk11
        have m4 := cell_of_row _ w.heap.size 4 _ _ (0, 0) hk11
        simp only [List.getElem?_toArray, List.getElem?_cons_zero, List.getElem?_cons_succ] at m1 m2 m4
        clear HGt hF hk9 hd9 hg9 hB9 hk10 hd10 hg10 hB10 hba
        rcases Hcs.out with ⟨hkc', htk⟩ | ⟨hkc', htk⟩ | ⟨hkc', L3, htk, hgl3⟩
        · rw [htk] at hTk
          have HTk := Lib.hid hTk
          have hkc := Lib.hid hkc'
          have hk11 := Lib.hid hk11
          have ht11 := Lib.hid ht11
          clear hTk htk hd11 hg11 hkc'
          go_wp2_with fail
          have hk11 := hk11.out
          have ht11 := ht11.out
          generalize x10.alloc (.cells #[.string a.name, i64 a.hav, i64 st, i64 a.lim] 52) = x11 at *
          refine HTk.out.mono ?_
          rintro e x12 ⟨rfl, hd12, hg12, hG⟩
          have hG := Gr.of_g2 hG
          have hk12 := blk_g hG hk11 (fun e => by have := Hdb.out; rcases e with e | e <;> omega)
          have ht12 := blk_g hG ht11 (fun e => by rcases e with e | e <;> omega)
          have hB12 := hB11.trans (hG.below hB11.size (fun k hk => by have := Hdb.out; rcases hk with rfl | rfl <;> omega))
          have m2 := cell_of_row _ w.heap.size 2 _ _ (0, 0) hk12
          simp only [List.getElem?_toArray, List.getElem?_cons_zero, List.getElem?_cons_succ] at m2
          have hGt := getA_c gd bd L1 x.acct x12 hd12
          rw [Hgl.out] at hGt
          have HGt := Lib.hid hGt
          clear HTk hG hk11 ht11 hB11 hGt m1 m4 hlt10
          go_wp2_with fail
          refine HGt.out.mono ?_
          rintro e x13 ⟨rfl, hF⟩
          have hk13 := blk_b hF hk12
          have ht13 := blk_b hF ht12
          have hg13 := hg12.later hF
          have hB13 := hB12.trans (hF.mono hB12.size)
          have hba := (Below.refl x13.heap.size x13).alloc (Nat.le_refl _) (.cells #[.string a.name, i64 a.hav, i64 st, i64 a.lim] 52)
          have hu14 := heap_alloc_new x13 (.cells #[.string a.name, i64 a.hav, i64 st, i64 a.lim] 52)
          have hk14 := blk_b hba hk13
          have ht14 := blk_b hba ht13
          have hg14 := hg13.later hba
          have hB14 := hB13.trans (hba.mono hB13.size)
          have m2 := cell_of_row _ w.heap.size 2 _ _ (0, 0) hk14
          have m4 := cell_of_row _ w.heap.size 4 _ _ (0, 0) hk14
          have t0 := cell_of_row _ x10.heap.size 0 _ _ (0, 0) ht14
          have t1 := cell_of_row _ x10.heap.size 1 _ _ (0, 0) ht14
          have t2 := cell_of_row _ x10.heap.size 2 _ _ (0, 0) ht14
          have t3 := cell_of_row _ x10.heap.size 3 _ _ (0, 0) ht14
          have u0 := cell_of_row _ x13.heap.size 0 _ _ (0, 0) hu14
          have u1 := cell_of_row _ x13.heap.size 1 _ _ (0, 0) hu14
          have u2 := cell_of_row _ x13.heap.size 2 _ _ (0, 0) hu14
          have u3 := cell_of_row _ x13.heap.size 3 _ _ (0, 0) hu14
          simp only [List.getElem?_toArray, List.getElem?_cons_zero, List.getElem?_cons_succ] at m2 m4 t0 t1 t2 t3 u0 u1 u2 u3
          have heq : ∀ W : World, (binOp .eql 52 (.agg #[.string a.name, i64 a.hav, i64 st, i64 a.lim]) (.agg #[.string a.name, i64 a.hav, i64 st, i64 a.lim])).run Tryz.prog W = .ok (.bool true) W := fun W => by
            have := eq_ac ⟨a.name, a.hav, st, a.lim⟩ ⟨a.name, a.hav, st, a.lim⟩ W
            rw [decide_eq_true rfl] at this
            exact this
          have hs : (x.acct.toList == [99]) = true := by have := beqS_of_eq hkc.out; rwa [show sC.toList = [99] from toL 99] at this
          clear HGt hF hk12 ht12 hg12 hB12 hk13 ht13 hg13 hB13 hba hu14 hk14 ht14 hg14 hkc
          go_wp2_with fail
          go_ret
          exact ⟨rfl, hB14⟩
        · rw [htk] at hTk
          have HTk := Lib.hid hTk
          have hkc := Lib.hid hkc'
          have hk11 := Lib.hid hk11
          have ht11 := Lib.hid ht11
          clear hTk htk hd11 hg11 hkc'
          go_wp2_with fail
          have hk11 := hk11.out
          have ht11 := ht11.out
          generalize x10.alloc (.cells #[.string a.name, i64 a.hav, i64 st, i64 a.lim] 52) = x11 at *
          refine HTk.out.mono ?_
          rintro e x12 ⟨rfl, hd12, hg12, hG⟩
          have hG := Gr.of_g2 hG
          have hk12 := blk_g hG hk11 (fun e => by have := Hdb.out; rcases e with e | e <;> omega)
          have ht12 := blk_g hG ht11 (fun e => by rcases e with e | e <;> omega)
          have hB12 := hB11.trans (hG.below hB11.size (fun k hk => by have := Hdb.out; rcases hk with rfl | rfl <;> omega))
          have m2 := cell_of_row _ w.heap.size 2 _ _ (0, 0) hk12
          simp only [List.getElem?_toArray, List.getElem?_cons_zero, List.getElem?_cons_succ] at m2
          have hGt := getA_c gd bd L1 x.acct x12 hd12
          rw [Hgl.out] at hGt
          have HGt := Lib.hid hGt
          clear HTk hG hk11 ht11 hB11 hGt m1 m4 hlt10
          go_wp2_with fail
          refine HGt.out.mono ?_
          rintro e x13 ⟨rfl, hF⟩
          have hk13 := blk_b hF hk12
          have ht13 := blk_b hF ht12
          have hg13 := hg12.later hF
          have hB13 := hB12.trans (hF.mono hB12.size)
          have hba := (Below.refl x13.heap.size x13).alloc (Nat.le_refl _) (.cells #[.string a.name, i64 a.hav, i64 st, i64 a.lim] 52)
          have hu14 := heap_alloc_new x13 (.cells #[.string a.name, i64 a.hav, i64 st, i64 a.lim] 52)
          have hk14 := blk_b hba hk13
          have ht14 := blk_b hba ht13
          have hg14 := hg13.later hba
          have hB14 := hB13.trans (hba.mono hB13.size)
          have m2 := cell_of_row _ w.heap.size 2 _ _ (0, 0) hk14
          have m4 := cell_of_row _ w.heap.size 4 _ _ (0, 0) hk14
          have t0 := cell_of_row _ x10.heap.size 0 _ _ (0, 0) ht14
          have t1 := cell_of_row _ x10.heap.size 1 _ _ (0, 0) ht14
          have t2 := cell_of_row _ x10.heap.size 2 _ _ (0, 0) ht14
          have t3 := cell_of_row _ x10.heap.size 3 _ _ (0, 0) ht14
          have u0 := cell_of_row _ x13.heap.size 0 _ _ (0, 0) hu14
          have u1 := cell_of_row _ x13.heap.size 1 _ _ (0, 0) hu14
          have u2 := cell_of_row _ x13.heap.size 2 _ _ (0, 0) hu14
          have u3 := cell_of_row _ x13.heap.size 3 _ _ (0, 0) hu14
          simp only [List.getElem?_toArray, List.getElem?_cons_zero, List.getElem?_cons_succ] at m2 m4 t0 t1 t2 t3 u0 u1 u2 u3
          have heq : ∀ W : World, (binOp .eql 52 (.agg #[.string a.name, i64 a.hav, i64 st, i64 a.lim]) (.agg #[.string a.name, i64 a.hav, i64 st, i64 a.lim])).run Tryz.prog W = .ok (.bool true) W := fun W => by
            have := eq_ac ⟨a.name, a.hav, st, a.lim⟩ ⟨a.name, a.hav, st, a.lim⟩ W
            rw [decide_eq_true rfl] at this
            exact this
          have hs : (x.acct.toList == [99]) = false := by have := beqS_of_ne hkc.out; rwa [show sC.toList = [99] from toL 99] at this
          clear HGt hF hk12 ht12 hg12 hB12 hk13 ht13 hg13 hB13 hba hu14 hk14 ht14 hg14 hkc
          go_wp2_with fail
          go_ret
          exact ⟨rfl, hB14⟩
        · rw [htk] at hTk
          have HTk := Lib.hid hTk
          have hkc := Lib.hid hkc'
          have hk11 := Lib.hid hk11
          have ht11 := Lib.hid ht11
          clear hTk htk hd11 hg11 hkc'
          go_wp2_with fail
          have hk11 := hk11.out
          have ht11 := ht11.out
          generalize x10.alloc (.cells #[.string a.name, i64 a.hav, i64 st, i64 a.lim] 52) = x11 at *
          refine HTk.out.mono ?_
          rintro e x12 ⟨rfl, hd12, hg12, hG⟩
          have hG := Gr.of_g2 hG
          have hk12 := blk_g hG hk11 (fun e => by have := Hdb.out; rcases e with e | e <;> omega)
          have ht12 := blk_g hG ht11 (fun e => by rcases e with e | e <;> omega)
          have hB12 := hB11.trans (hG.below hB11.size (fun k hk => by have := Hdb.out; rcases hk with rfl | rfl <;> omega))
          have m2 := cell_of_row _ w.heap.size 2 _ _ (0, 0) hk12
          simp only [List.getElem?_toArray, List.getElem?_cons_zero, List.getElem?_cons_succ] at m2
          have hGt := getA_c gd bd L3 x.acct x12 hd12
          rw [hgl3] at hGt
          have HGt := Lib.hid hGt
          clear HTk hG hk11 ht11 hB11 hGt m1 m4 hlt10
          go_wp2_with fail
          refine HGt.out.mono ?_
          rintro e x13 ⟨rfl, hF⟩
          have hk13 := blk_b hF hk12
          have ht13 := blk_b hF ht12
          have hg13 := hg12.later hF
          have hB13 := hB12.trans (hF.mono hB12.size)
          have hba := (Below.refl x13.heap.size x13).alloc (Nat.le_refl _) (.cells #[.string a.name, i64 hv, i64 a.set_, i64 a.lim] 52)
          have hu14 := heap_alloc_new x13 (.cells #[.string a.name, i64 hv, i64 a.set_, i64 a.lim] 52)
          have hk14 := blk_b hba hk13
          have ht14 := blk_b hba ht13
          have hg14 := hg13.later hba
          have hB14 := hB13.trans (hba.mono hB13.size)
          have m2 := cell_of_row _ w.heap.size 2 _ _ (0, 0) hk14
          have m4 := cell_of_row _ w.heap.size 4 _ _ (0, 0) hk14
          have t0 := cell_of_row _ x10.heap.size 0 _ _ (0, 0) ht14
          have t1 := cell_of_row _ x10.heap.size 1 _ _ (0, 0) ht14
          have t2 := cell_of_row _ x10.heap.size 2 _ _ (0, 0) ht14
          have t3 := cell_of_row _ x10.heap.size 3 _ _ (0, 0) ht14
          have u0 := cell_of_row _ x13.heap.size 0 _ _ (0, 0) hu14
          have u1 := cell_of_row _ x13.heap.size 1 _ _ (0, 0) hu14
          have u2 := cell_of_row _ x13.heap.size 2 _ _ (0, 0) hu14
          have u3 := cell_of_row _ x13.heap.size 3 _ _ (0, 0) hu14
          simp only [List.getElem?_toArray, List.getElem?_cons_zero, List.getElem?_cons_succ] at m2 m4 t0 t1 t2 t3 u0 u1 u2 u3
          have hs : (x.acct.toList == [99]) = false := by have := beqS_of_ne hkc.out; rwa [show sC.toList = [99] from toL 99] at this
          have w1 : IntKind.i64.wrap (a.hav - x.sum) = hv := by rw [Hhv.out, IntKind.wrap_i64]; have := HR.out.2.1; unfold R64 at this; omega
          have w2 : IntKind.i64.wrap (st - x.sum) = a.set_ := by rw [Hst.out, IntKind.wrap_i64]; have := HR.out.2.2.2; unfold R64 at this; omega
          have b1 : (hv == hv) = true := by simp
          have b2 : (a.set_ == a.set_) = true := by simp
          have HA := Lib.hid (hoall_c gg bg H _ hg14 HI.out.okH (by have := HHn.out; omega))
          clear HGt hF hk12 ht12 hg12 hB12 hk13 ht13 hg13 hB13 hba hu14 hk14 ht14 hg14 hkc
          go_wp2_with fail
          refine HA.out.mono ?_
          rintro e x15 ⟨v15, rfl, hO15, hF⟩
          obtain ⟨A15, c15, rfl, -⟩ := hO15.sl
          have hB15 := hB14.trans (hF.mono hB14.size)
          have q2 : ((H.length : Int) == (H.length : Int)) = true := by simp
          clear HA hO15 hF hB14
          go_wp2
          go_ret
          exact ⟨rfl, hB15⟩
      · have q0 : ((putH L H y).1 != 0) = true := bne_iff_ne.2 he
        have hpe := putH_err he
        rw [hpe] at hc3 hh3
        dsimp only at hc3 hh3
        generalize (putH L H y).1 = er at *
        have HA := Lib.hid (challA_c g b L x3 hc3 HI.out.okA (by have := HNM.out.len; omega))
        clear he hpe hy1 hy2 hy3
        go_wp2_with fail
        refine HA.out.mono ?_
        rintro e x4 ⟨v4, rfl, hO4, hF⟩
        obtain ⟨A4, c4, rfl, s4⟩ := hO4.sl
        have hh4 := hh3.later hF
        have hs4 := hs3.below_ hF
        have hB4 := hB3.trans (hF.mono hB3.size)
        have HS := rsame5_c _ _ A4 A1 c4 c1 L L x4 s4 hs4 (by have := HNM.out.len; omega) (by have := HNM.out.len; omega)
        rw [decide_eq_true (show L = L from rfl)] at HS
        have HS := Lib.hid HS
        clear HA hO4 hF hc3 hh3 hs3 hB3 s4 hs4 hk3 m1 m2 m4
        go_wp2_with fail
        refine HS.out.mono ?_
        rintro e x5 ⟨rfl, hF⟩
        have hh5 := hh4.later hF
        have hB5 := hB4.trans (hF.mono hB4.size)
        have HA := Lib.hid (hoall_c gh bh H x5 hh5 HI.out.okH (by have := HHn.out; omega))
        clear HS hF hh4 hB4
        go_wp2_with fail
        refine HA.out.mono ?_
        rintro e x6 ⟨v6, rfl, hO6, hF⟩
        obtain ⟨A6, c6, rfl, -⟩ := hO6.sl
        have hB6 := hB5.trans (hF.mono hB5.size)
        have q1 : ((H.length : Int) == (H.length : Int)) = true := by simp
        clear HA hO6 hF hh5 hB5
        go_wp2
        go_ret
        exact ⟨rfl, hB6⟩
end Go.Proofs.YthmgchohbdlonaaGreat
