/- Texts of this claim, laid together: RegL, RegM, OrdK. -/
import Derived.WalkKit
import Derived.Deep.RegionHeld3
import Derived.Test.YtgholbeehkfbiaaGreatBm1
import Derived.Test.YtgholbeehkfbiaaGreatBm3

/- A region that draws its order, its last operation one that waits for all others: S need not hold behind that one. No program. -/
namespace Go.Proofs.YtgholbeehkfbiaaGreat
open Go.RowKit

section
variable {P : Program} {ops : Array Oper} {Q : Exit → Act → World → Prop} {md : Region.Mode} {S : World → Prop} {d : Nat}
def wpAnyL (P : Program) (md : Region.Mode) (ops : Array Oper) (Q : Exit → Act → World → Prop) (S : World → Prop) (d : Nat) : Nat → Array Bool → Act → World → Prop
  | 0, listed, a, w => Region.ready md ops listed = [] ∧ Q .normal a w
  | fuel + 1, listed, a, w =>
    (Region.ready md ops listed = [] → Q .normal a w) ∧
    ∀ i ∈ Region.ready md ops listed, wpOp P ops Q i (fun a' w' => (i ≠ d → S w') ∧ wpAnyL P md ops Q S d fuel (listed.setIfInBounds i true) a' w') a w
theorem wpAny_of_l : ∀ (fuel : Nat) (listed : Array Bool) (a : Act) (w : World), wpAnyL P md ops Q S d fuel listed a w → wpAny P md ops Q fuel listed a w
  | 0, _, _, _, h => h
  | fuel + 1, _, _, _, h => ⟨h.1, fun i hi => wpOp_mono (fun a' w' h' => wpAny_of_l fuel _ a' w' h'.2) (h.2 i hi)⟩
/-- which operations wait for operation i, straight or through others -/
def depGo (md : Region.Mode) (i : Nat) : List Oper → Array Bool → Array Bool
  | [], acc => acc
  | o :: r, acc => depGo md i r (acc.push (o.after.any fun e => Region.binds md e && (e.on == i || acc.getD e.on false)))
def waits (md : Region.Mode) (ops : Array Oper) (d i : Nat) : Bool := (depGo md i ops.toList #[]).getD d false
/-- what is listed, all that it waits for is listed -/
def Closed (md : Region.Mode) (ops : Array Oper) (listed : Array Bool) : Prop := ∀ j oj, ops[j]? = some oj → listed.getD j true = true → ∀ e ∈ oj.after, Region.binds md e = true → listed.getD e.on true = true
theorem getD_up {listed : Array Bool} {k : Nat} (h : listed.getD k false = true) : listed.getD k true = true := by
  rw [Array.getD_eq_getD_getElem?] at h ⊢
  cases hk : listed[k]? with
  | none => rfl
  | some v => rw [hk] at h; exact h
def Good (md : Region.Mode) (ops : Array Oper) (listed : Array Bool) (i : Nat) (acc : Array Bool) : Prop := ∀ j, acc.getD j false = true → ∀ oj, ops[j]? = some oj → (∀ e ∈ oj.after, Region.binds md e = true → listed.getD e.on true = true) → listed.getD i true = true
theorem depGo_good {listed : Array Bool} (hc : Closed md ops listed) {i : Nat} : ∀ (r : List Oper) (pre : List Oper) (acc : Array Bool), ops.toList = pre ++ r → acc.size = pre.length → Good md ops listed i acc → Good md ops listed i (depGo md i r acc)
  | [], _, _, _, _, hg => hg
  | o :: r, pre, acc, he, hs, hg => by
    unfold depGo
    refine depGo_good hc r (pre ++ [o]) _ (by rw [he]; simp) (by simp [hs]) fun j hj oj hoj hall => ?_
    rw [Array.getD_eq_getD_getElem?, Array.getElem?_push] at hj
    by_cases hje : j = acc.size
    · rw [if_pos hje] at hj
      have ho : oj = o := by
        have h1 : ops.toList[j]? = some oj := by rw [Array.getElem?_toList]; exact hoj
        rw [he, hje, hs, List.getElem?_append_right (Nat.le_refl _), Nat.sub_self] at h1
        simpa using h1.symm
      subst ho
      obtain ⟨e, hem, hb⟩ := Array.any_eq_true'.1 (show (oj.after.any fun e => Region.binds md e && (e.on == i || acc.getD e.on false)) = true from hj)
      rw [Bool.and_eq_true, Bool.or_eq_true, beq_iff_eq] at hb
      have hl := hall e hem hb.1
      rcases hb.2 with h1 | h1
      · rw [← h1]; exact hl
      · cases ho : ops[e.on]? with
        | none =>
          have h2 : acc.getD e.on false = false := by
            have hsz : acc.size ≤ ops.size := by
              have := congrArg List.length he
              simp at this
              omega
            rw [Array.getElem?_eq_none_iff] at ho
            rw [Array.getD_eq_getD_getElem?, Array.getElem?_eq_none (by omega)]
            rfl
          rw [h2] at h1; cases h1
        | some oe => exact hg e.on h1 oe ho fun e' he' hb' => hc e.on oe ho hl e' he' hb'
    · rw [if_neg hje] at hj
      exact hg j (by rw [Array.getD_eq_getD_getElem?]; exact hj) oj hoj hall
theorem waits_listed {listed : Array Bool} (hc : Closed md ops listed) {i d : Nat} (od : Oper) (hd : ops[d]? = some od) (hall : ∀ e ∈ od.after, Region.binds md e = true → listed.getD e.on true = true) (h : waits md ops d i = true) : listed.getD i true = true :=
  depGo_good hc ops.toList [] #[] (by simp) rfl (fun j hj => by simp [Array.getD] at hj) d h od hd hall
theorem Closed.set {listed : Array Bool} (hc : Closed md ops listed) {j : Nat} {oj : Oper} (hoj : ops[j]? = some oj) (hall : ∀ e ∈ oj.after, Region.binds md e = true → listed.getD e.on true = true) : Closed md ops (listed.setIfInBounds j true) := fun k ok hk hl e he hb => by
  have up : ∀ m, listed.getD m true = true → (listed.setIfInBounds j true).getD m true = true := fun m hm => by
    by_cases hjm : j = m
    · subst hjm
      rw [Array.getD_eq_getD_getElem?, Array.getElem?_setIfInBounds]
      split <;> (try split) <;> simp_all
    · rw [getD_set_ne true hjm]; exact hm
  by_cases hjk : j = k
  · subst hjk
    rw [hoj] at hk
    injection hk with hk
    subst hk
    exact up _ (hall e he hb)
  · rw [getD_set_ne true hjk] at hl
    exact up _ (hc k ok hk hl e he hb)
theorem wpAnyL_first {i : Nat} {oi : Oper} {v : Value} (hi : ops[i]? = some oi) (hd : waits md ops d i = true) (hsel : ∀ (j : Nat) (o : Oper) cs b, ops[j]? = some o → o.op ≠ .select cs b)
    (hQ : ∀ c a w, Q (.panic c) (a.put oi.dst v) w → Q (.panic c) a w) :
    ∀ (fuel : Nat) (listed : Array Bool) (a : Act) (w : World),
      (∀ j oj, ops[j]? = some oj → j ≠ i → listed.getD j true = false → (∀ e ∈ oj.after, Region.binds md e = true → e.on ≠ i) → oi.apart ops oj = true) →
      Closed md ops listed → i ∈ Region.ready md ops listed → YieldsIf P ops S oi v a → S w →
      wpAnyL P md ops Q S d fuel (listed.setIfInBounds i true) (a.put oi.dst v) w → wpAnyL P md ops Q S d (fuel + 1) listed a w := by
  intro fuel
  induction fuel with
  | zero =>
    intro listed a w _ _ hr hy hS H
    refine ⟨fun h => (by rw [h] at hr; cases hr), fun j hj => ?_⟩
    by_cases hji : j = i
    · subst hji; exact hy.wpOp hi hS ⟨fun _ => hS, H⟩
    · have := ready_mono hj hji
      rw [H.1] at this
      cases this
  | succ fuel ih =>
    intro listed a w hfree hcl hr hy hS H
    refine ⟨fun h => (by rw [h] at hr; cases hr), fun j hj => ?_⟩
    by_cases hji : j = i
    · subst hji; exact hy.wpOp hi hS ⟨fun _ => hS, H⟩
    · have h1 := H.2 j (ready_mono hj hji)
      obtain ⟨hjun, oj, hoj, hall⟩ := mem_ready.1 hj
      have hnot : ∀ e ∈ oj.after, Region.binds md e = true → e.on ≠ i := fun e he hb heq => by
        have h1 := hall e he hb
        have h0 := (mem_ready.1 hr).1
        rw [heq] at h1
        rcases Nat.lt_or_ge i listed.size with h' | h'
        · simp [h'] at h0 h1; rw [h0] at h1; cases h1
        · simp [Array.getElem?_eq_none h'] at h1
      have hall' : ∀ e ∈ oj.after, Region.binds md e = true → listed.getD e.on true = true := fun e he hb => getD_up (hall e he hb)
      have hjd : j ≠ d := fun e => by
        subst e
        have h5 := waits_listed hcl _ hoj hall' hd
        have h6 := (mem_ready.1 hr).1
        rw [h5] at h6
        cases h6
      have h2 := wpOp_putIf hoj (hfree j oj hoj hji hjun hnot) (fun cs b => hsel i oi cs b hi) (fun cs b => hsel j oj cs b hoj) hQ hy h1
      have hfree' : ∀ k ok, ops[k]? = some ok → k ≠ i → (listed.setIfInBounds j true).getD k true = false →
          (∀ e ∈ ok.after, Region.binds md e = true → e.on ≠ i) → oi.apart ops ok = true := fun k ok hk hki hun hno => by
        refine hfree k ok hk hki ?_ hno
        by_cases hjk : j = k
        · subst hjk; exact hjun
        · rw [getD_set_ne true hjk] at hun; exact hun
      refine wpOp_mono (fun a' w' h3 => ⟨h3.2.1, ih (listed.setIfInBounds j true) a' w' hfree' (hcl.set hoj hall') (ready_mono hr (Ne.symm hji)) h3.1 (h3.2.1 hjd) ?_⟩) h2
      rw [Array.setIfInBounds_comm _ _ hji]
      exact h3.2.2
/-- .. where what is listed is closed -/
def wpAnyC (P : Program) (md : Region.Mode) (ops : Array Oper) (Q : Exit → Act → World → Prop) (S : World → Prop) (d fuel : Nat) (listed : Array Bool) (a : Act) (w : World) : Prop := Closed md ops listed → wpAnyL P md ops Q S d fuel listed a w
theorem ready_closed {listed : Array Bool} (hcl : Closed md ops listed) {j : Nat} (hj : j ∈ Region.ready md ops listed) : Closed md ops (listed.setIfInBounds j true) := by
  obtain ⟨_, oj, hoj, hall⟩ := mem_ready.1 hj
  exact hcl.set hoj fun e he hb => getD_up (hall e he hb)
theorem wpAnyL_take {i : Nat} {oi : Oper} {v : Value} {fuel : Nat} {listed : Array Bool} {a : Act} {w : World} (hi : ops[i]? = some oi) (hd : waits md ops d i = true)
    (hs : Region.noSelect ops = true) (hf : Region.free md ops listed i = true) (hr : (Region.ready md ops listed).contains i = true)
    (hQ : ∀ c a w, Q (.panic c) (a.put oi.dst v) w → Q (.panic c) a w) (hy : YieldsIf P ops S oi v a) (hS : S w)
    (h : wpAnyC P md ops Q S d fuel (listed.setIfInBounds i true) (a.put oi.dst v) w) : wpAnyC P md ops Q S d (fuel + 1) listed a w := fun hcl =>
  have hr' : i ∈ Region.ready md ops listed := by simpa using hr
  wpAnyL_first hi hd (Region.noSelect_spec hs) hQ fuel listed a w (Region.free_spec hi hf) hcl hr' hy hS (h (ready_closed hcl hr'))
theorem wpAnyL_done {listed : Array Bool} {a : Act} {w : World} (hr : Region.ready md ops listed = []) (h : Q .normal a w) :
    ∀ fuel, wpAnyC P md ops Q S d fuel listed a w
  | 0 => fun _ => ⟨hr, h⟩
  | _ + 1 => fun _ => ⟨fun _ => h, by rw [hr]; simp⟩
/-- one operation alone may come up -/
theorem wpAnyL_one {i : Nat} {o : Oper} {fuel : Nat} {listed : Array Bool} {a : Act} {w : World} (hr : Region.ready md ops listed = [i]) (ho : ops[i]? = some o) (_hid : i ≠ d)
    (h : ∀ K' : Act → World → Prop, Shut (∀ a w, S w → (S w → wpAnyC P md ops Q S d fuel (listed.setIfInBounds i true) a w) → K' a w) → if Region.wanted o (yielded ops a.tmps) = true then Oper.wp P o a w K' Q else K' (a.put o.dst undef) w) :
    wpAnyC P md ops Q S d (fuel + 1) listed a w := fun hcl =>
  ⟨fun h0 => absurd (hr ▸ h0) (by simp), hr ▸ fun j hj => by
    have hj' : j ∈ Region.ready md ops listed := by rw [hr]; exact hj
    simp only [List.mem_singleton] at hj
    subst hj
    exact wpOp_step ho fun K' hK => h K' fun a w hS hW => hK a w ⟨fun _ => hS, hW hS (ready_closed hcl hj')⟩⟩
/-- each of some may come up -/
def AllReadyL (P : Program) (md : Region.Mode) (ops : Array Oper) (Q : Exit → Act → World → Prop) (S : World → Prop) (d : Nat) (fuel : Nat) (listed : Array Bool) (a : Act) (w : World) (rs : List Nat) : Prop :=
  ∀ i ∈ rs, wpOp P ops Q i (fun a' w' => (i ≠ d → S w') ∧ (i ∈ Region.ready md ops listed → Closed md ops listed → wpAnyL P md ops Q S d fuel (listed.setIfInBounds i true) a' w')) a w
theorem AllReadyL.nil {fuel : Nat} {listed : Array Bool} {a : Act} {w : World} : AllReadyL P md ops Q S d fuel listed a w [] := fun _ h => by cases h
theorem AllReadyL.cons {fuel : Nat} {listed : Array Bool} {a : Act} {w : World} {i : Nat} {o : Oper} {rs : List Nat} (ho : ops[i]? = some o)
    (h : ∀ K' : Act → World → Prop, Shut (∀ a w, S w → (S w → wpAnyC P md ops Q S d fuel (listed.setIfInBounds i true) a w) → K' a w) → if Region.wanted o (yielded ops a.tmps) = true then Oper.wp P o a w K' Q else K' (a.put o.dst undef) w)
    (hs : AllReadyL P md ops Q S d fuel listed a w rs) : AllReadyL P md ops Q S d fuel listed a w (i :: rs) := fun j hj => by
  rcases List.mem_cons.1 hj with rfl | hj
  · exact wpOp_step ho (fun K' hK => h K' (fun a w hS hW => hK a w ⟨fun _ => hS, fun hr hcl => hW hS (ready_closed hcl hr)⟩))
  · exact hs j hj
theorem wpAnyL_ready {rs : List Nat} {fuel : Nat} {listed : Array Bool} {a : Act} {w : World} (hr : Region.ready md ops listed = rs) (hne : rs ≠ [])
    (h : AllReadyL P md ops Q S d fuel listed a w rs) : wpAnyC P md ops Q S d (fuel + 1) listed a w := fun hcl =>
  ⟨fun h0 => absurd (hr ▸ h0) hne, fun i hi => wpOp_mono (fun _ _ hh => ⟨hh.1, hh.2 hi hcl⟩) (h i (hr ▸ hi))⟩
/-- the last one -/
theorem wpAnyL_last {o : Oper} {fuel : Nat} {listed : Array Bool} {a : Act} {w : World} (hr : Region.ready md ops listed = [d]) (ho : ops[d]? = some o)
    (h : ∀ K' : Act → World → Prop, Shut (∀ a w, wpAnyC P md ops Q S d fuel (listed.setIfInBounds d true) a w → K' a w) → if Region.wanted o (yielded ops a.tmps) = true then Oper.wp P o a w K' Q else K' (a.put o.dst undef) w) :
    wpAnyC P md ops Q S d (fuel + 1) listed a w := fun hcl =>
  ⟨fun h0 => absurd (hr ▸ h0) (by simp), hr ▸ fun j hj => by
    have hj' : j ∈ Region.ready md ops listed := by rw [hr]; exact hj
    simp only [List.mem_singleton] at hj
    subst hj
    exact wpOp_step ho fun K' hK => h K' fun a w hW => hK a w ⟨fun e => absurd rfl e, hW (ready_closed hcl hj')⟩⟩
theorem wp_region_l {id : Nat} {a : Act} {w : World} (d : Nat) (S : World → Prop) (hm : P.follows .mixedOrders = true) (hS : S w.drew)
    (h : S w.drew → wpAnyC P .any ops Q S d ops.size (Array.replicate ops.size false) a w.drew) : (Code.region id ops true).wp P Q a w :=
  wp_region_any hm (wpAny_of_l _ _ _ _ (h hS fun j oj hj hl => by
    have hlt := (Array.getElem?_eq_some_iff.1 hj).1
    rw [Array.getD_eq_getD_getElem?, Array.getElem?_replicate, if_pos hlt] at hl
    cases hl))
end
end Go.Proofs.YtgholbeehkfbiaaGreat

/- A region that draws its order: what it keeps may grow on the way. No program. -/
namespace Go.Proofs.YtgholbeehkfbiaaGreat
open Go.RowKit

section
variable {P : Program} {ops : Array Oper} {Q : Exit → Act → World → Prop} {md : Region.Mode} {S S' : World → Prop} {d : Nat}
theorem wpAnyL_mono (h : ∀ w, S' w → S w) : ∀ (fuel : Nat) (listed : Array Bool) (a : Act) (w : World), wpAnyL P md ops Q S' d fuel listed a w → wpAnyL P md ops Q S d fuel listed a w
  | 0, _, _, _, k => k
  | fuel + 1, _, _, _, k => ⟨k.1, fun i hi => wpOp_mono (fun a' w' k' => ⟨fun e => h _ (k'.1 e), wpAnyL_mono h fuel _ a' w' k'.2⟩) (k.2 i hi)⟩
theorem wpAnyC_mono (S' : World → Prop) {fuel : Nat} {listed : Array Bool} {a : Act} {w : World} (h : ∀ w, S' w → S w) (hS : S' w) (k : S' w → wpAnyC P md ops Q S' d fuel listed a w) : wpAnyC P md ops Q S d fuel listed a w :=
  fun hcl => wpAnyL_mono h _ _ _ _ (k hS hcl)
end
end Go.Proofs.YtgholbeehkfbiaaGreat

/- A map, and its entries in order. No program. -/
namespace Go.Proofs.YtgholbeehkfbiaaGreat

section
variable {α κ ν : Type} [DecidableEq κ] {lt : α → α → Bool}
/-- in order, none twice -/
def SrtL (lt : α → α → Bool) (L : List α) : Prop := L.Pairwise fun a b => lt a b = true
theorem SrtL.sorted (S : Strict lt) {L : List α} (h : SrtL lt L) : SortedB lt L := h.imp fun h => S.asymm h
theorem insB_srt (S : Strict lt) (x : α) : ∀ (L : List α), SrtL lt L → (∀ y ∈ L, lt x y = true ∨ lt y x = true) → SrtL lt (insB lt x L)
  | [], _, _ => List.pairwise_singleton _ _
  | y :: r, h, hx => by
    obtain ⟨h1, h2⟩ := List.pairwise_cons.1 h
    unfold insB
    by_cases hy : lt y x = true
    · rw [if_pos hy]
      refine List.pairwise_cons.2 ⟨fun z hz => ?_, insB_srt S x r h2 fun z hz => hx z (by simp [hz])⟩
      rcases List.mem_cons.1 ((insB_perm x r).mem_iff.1 hz) with rfl | hz
      · exact hy
      · exact h1 z hz
    · rw [if_neg hy]
      have hxy : lt x y = true := (hx y (by simp)).resolve_right hy
      refine List.pairwise_cons.2 ⟨fun z hz => ?_, h⟩
      rcases List.mem_cons.1 hz with rfl | hz
      · exact hxy
      · exact S.trans _ _ _ hxy (h1 z hz)
/-- the place of x in a list in order -/
theorem insB_at (S : Strict lt) (x : α) : ∀ (L : List α) (k : Nat), SrtL lt L → k ≤ L.length → (∀ j (h : j < L.length), j < k → lt L[j] x = true) → (∀ j (h : j < L.length), k ≤ j → lt L[j] x = false) → insB lt x L = L.take k ++ x :: L.drop k
  | [], k, _, _, _, _ => by simp [insB]
  | y :: r, k, h, hk, h1, h2 => by
    obtain ⟨g1, g2⟩ := List.pairwise_cons.1 h
    unfold insB
    cases k with
    | zero =>
      rw [if_neg (by rw [h2 0 (by simp) (Nat.le_refl _) |> fun e => (show lt y x = false from e)]; decide)]
      rfl
    | succ k =>
      rw [if_pos (show lt y x = true from h1 0 (by simp) (by omega)), insB_at S x r k g2 (by simpa using hk) (fun j hj hjk => h1 (j + 1) (by simpa using hj) (by omega)) (fun j hj hjk => h2 (j + 1) (by simpa using hj) (by omega))]
      simp
variable (kf : α → κ)
def getK (L : List α) (k : κ) : Option α := L.find? fun a => decide (kf a = k)
def setK (L : List α) (a : α) : List α := L.map fun x => if kf x = kf a then a else x
def delK (L : List α) (k : κ) : List α := L.filter fun x => !decide (kf x = k)
variable {kf}
theorem getK_mem {L : List α} {k : κ} {a : α} (h : getK kf L k = some a) : a ∈ L ∧ kf a = k := by
  unfold getK at h
  exact ⟨List.mem_of_find?_eq_some h, by simpa using List.find?_some h⟩
theorem getK_none {L : List α} {k : κ} : getK kf L k = none ↔ ∀ a ∈ L, kf a ≠ k := by
  unfold getK
  rw [List.find?_eq_none]
  simp
/-- keys part what is in order -/
structure KeyOrd (lt : α → α → Bool) (kf : α → κ) : Prop where
  strict : Strict lt
  ne : ∀ a b, lt a b = true → kf a ≠ kf b
  co : ∀ a b, kf a ≠ kf b → lt a b = true ∨ lt b a = true
  eq : ∀ a b, kf a = kf b → ∀ c, lt a c = lt b c ∧ lt c a = lt c b
omit [DecidableEq κ] in
theorem SrtL.one (O : KeyOrd lt kf) {L : List α} (h : SrtL lt L) : ∀ {a b : α}, a ∈ L → b ∈ L → kf a = kf b → a = b := by
  intro a b ha hb he
  obtain ⟨i, hi, rfl⟩ := List.getElem_of_mem ha
  obtain ⟨j, hj, rfl⟩ := List.getElem_of_mem hb
  rcases Nat.lt_trichotomy i j with hij | rfl | hij
  · exact absurd he (O.ne _ _ (List.pairwise_iff_getElem.1 h i j hi hj hij))
  · rfl
  · exact absurd he.symm (O.ne _ _ (List.pairwise_iff_getElem.1 h j i hj hi hij))
theorem getK_of (O : KeyOrd lt kf) {L : List α} (h : SrtL lt L) {a : α} (ha : a ∈ L) : getK kf L (kf a) = some a := by
  cases hg : getK kf L (kf a) with
  | none => exact absurd rfl (getK_none.1 hg a ha)
  | some b =>
    obtain ⟨h1, h2⟩ := getK_mem hg
    rw [h.one O h1 ha h2]
theorem setK_srt (O : KeyOrd lt kf) {L : List α} (h : SrtL lt L) (a : α) : SrtL lt (setK kf L a) := by
  unfold setK SrtL
  rw [List.pairwise_map]
  refine h.imp fun {x y} hxy => ?_
  have hne := O.ne _ _ hxy
  by_cases hx : kf x = kf a
  · rw [if_pos hx, if_neg (fun e => hne (by rw [hx, e])), ← (O.eq _ _ hx y).1]
    exact hxy
  · rw [if_neg hx]
    by_cases hy : kf y = kf a
    · rw [if_pos hy, ← (O.eq _ _ hy x).2]
      exact hxy
    · rw [if_neg hy]
      exact hxy
theorem delK_srt {L : List α} (h : SrtL lt L) (k : κ) : SrtL lt (delK kf L k) := List.Pairwise.sublist List.filter_sublist h
theorem setK_len (L : List α) (a : α) : (setK kf L a).length = L.length := List.length_map ..
theorem setK_mem {L : List α} {a x : α} (h : x ∈ setK kf L a) : x = a ∨ (x ∈ L ∧ kf x ≠ kf a) := by
  obtain ⟨y, hy, he⟩ := List.mem_map.1 h
  by_cases hk : kf y = kf a
  · rw [if_pos hk] at he; exact .inl he.symm
  · rw [if_neg hk] at he; subst he; exact .inr ⟨hy, hk⟩
theorem setK_set (O : KeyOrd lt kf) {L : List α} (h : SrtL lt L) {k : Nat} (hk : k < L.length) {a : α} (ha : kf L[k] = kf a) : setK kf L a = L.set k a := by
  apply List.ext_getElem
  · simp [setK]
  · intro j h1 h2
    have hj : j < L.length := by simpa [setK] using h1
    simp only [setK, List.getElem_map, List.getElem_set]
    by_cases hjk : k = j
    · subst hjk; simp [ha]
    · rw [if_neg hjk, if_neg]
      intro e
      exact hjk (by
        rcases Nat.lt_trichotomy j k with hlt | rfl | hlt
        · exact absurd (e.trans ha.symm) (O.ne _ _ (List.pairwise_iff_getElem.1 h j k hj hk hlt))
        · rfl
        · exact absurd (ha.trans e.symm) (O.ne _ _ (List.pairwise_iff_getElem.1 h k j hk hj hlt)))
theorem delK_at (O : KeyOrd lt kf) {L : List α} (h : SrtL lt L) {k : Nat} (hk : k < L.length) : delK kf L (kf L[k]) = L.take k ++ L.drop (k + 1) := by
  unfold delK
  have e : L = L.take k ++ L[k] :: L.drop (k + 1) := by rw [← List.drop_eq_getElem_cons hk, List.take_append_drop]
  have hp := h
  unfold SrtL at hp
  rw [e, List.pairwise_append] at hp
  obtain ⟨p1, p2, p3⟩ := hp
  obtain ⟨p4, p5⟩ := List.pairwise_cons.1 p2
  conv => lhs; arg 2; rw [e]
  rw [List.filter_append, List.filter_cons_of_neg (by simp), List.filter_eq_self.2, List.filter_eq_self.2]
  · intro x hx
    simpa using fun e => O.ne _ _ (p4 x hx) e.symm
  · intro x hx
    simpa using O.ne _ _ (p3 x hx _ (List.mem_cons_self ..))
variable (lt kf) in
/-- a map's entries, in order -/
structure RK (g : κ × ν → α) (M : List (κ × ν)) (L : List α) : Prop where
  perm : (M.map g).Perm L
  srt : SrtL lt L
  key : ∀ p ∈ M, kf (g p) = p.1
variable {g : κ × ν → α} {M : List (κ × ν)} {L : List α}
omit [DecidableEq κ] in
theorem RK.len (h : RK lt kf g M L) : M.length = L.length := by have := h.perm.length_eq; simpa using this
omit [DecidableEq κ] in
theorem RK.uniq (S : Strict lt) {L' : List α} (h : RK lt kf g M L) (h' : RK lt kf g M L') : L = L' :=
  sorted_unique (h.perm.symm.trans h'.perm) (h.srt.sorted S) (h'.srt.sorted S) fun a ha b hb e1 e2 => by
    obtain ⟨i, hi, rfl⟩ := List.getElem_of_mem ha
    obtain ⟨j, hj, rfl⟩ := List.getElem_of_mem hb
    rcases Nat.lt_trichotomy i j with hij | rfl | hij
    · rw [List.pairwise_iff_getElem.1 h.srt i j hi hj hij] at e1; cases e1
    · rfl
    · rw [List.pairwise_iff_getElem.1 h.srt j i hj hi hij] at e2; cases e2
theorem RK.get (O : KeyOrd lt kf) (h : RK lt kf g M L) (k : κ) : (getM M k).map (fun v => g (k, v)) = getK kf L k := by
  unfold getM
  cases hf : M.find? (fun p => decide (p.1 = k)) with
  | none =>
    refine (getK_none.2 fun a ha e => ?_).symm
    obtain ⟨p, hp, rfl⟩ := List.mem_map.1 (h.perm.mem_iff.2 ha)
    rw [List.find?_eq_none] at hf
    exact hf p hp (by simpa [h.key p hp] using e)
  | some p =>
    have hp := List.mem_of_find?_eq_some hf
    have hk : p.1 = k := by simpa using List.find?_some hf
    subst hk
    have hm : g p ∈ L := h.perm.mem_iff.1 (List.mem_map.2 ⟨p, hp, rfl⟩)
    have := getK_of O h.srt hm
    rw [h.key p hp] at this
    exact this.symm
theorem RK.put (O : KeyOrd lt kf) (h : RK lt kf g M L) {k : κ} {v : ν} (hk : kf (g (k, v)) = k) (hs : (getK kf L k).isSome = true) : RK lt kf g (putM M k v) (setK kf L (g (k, v))) := by
  have hany : M.any (fun p => decide (p.1 = k)) = true := by
    cases hg : getK kf L k with
    | none => rw [hg] at hs; cases hs
    | some a =>
      obtain ⟨ha, hka⟩ := getK_mem hg
      obtain ⟨p, hp, rfl⟩ := List.mem_map.1 (h.perm.mem_iff.2 ha)
      exact List.any_eq_true.2 ⟨p, hp, by rw [← hka, h.key p hp]; simp⟩
  unfold putM
  rw [if_pos hany]
  refine ⟨?_, setK_srt O h.srt _, ?_⟩
  · rw [List.map_map]
    have := h.perm.map (fun x => if kf x = kf (g (k, v)) then g (k, v) else x)
    rw [List.map_map] at this
    refine (List.Perm.of_eq (List.map_congr_left fun p hp => ?_)).trans this
    simp only [Function.comp_def]
    rw [h.key p hp, hk]
    split <;> rfl
  · intro p hp
    obtain ⟨q, hq, rfl⟩ := List.mem_map.1 hp
    split
    · exact hk
    · exact h.key q hq
theorem RK.add (O : KeyOrd lt kf) (h : RK lt kf g M L) {k : κ} {v : ν} (hk : kf (g (k, v)) = k) (hs : getK kf L k = none) : RK lt kf g (putM M k v) (insB lt (g (k, v)) L) := by
  have hno := getK_none.1 hs
  have hany : ¬ M.any (fun p => decide (p.1 = k)) = true := by
    rw [List.any_eq_true]
    rintro ⟨p, hp, e⟩
    exact hno (g p) (h.perm.mem_iff.1 (List.mem_map.2 ⟨p, hp, rfl⟩)) (by rw [h.key p hp]; simpa using e)
  unfold putM
  rw [if_neg hany]
  refine ⟨?_, insB_srt O.strict _ _ h.srt fun y hy => O.co _ _ (by rw [hk]; exact fun e => hno y hy e.symm), ?_⟩
  · rw [List.map_append, List.map_singleton]
    exact (List.perm_append_comm.trans (by simpa using h.perm.cons (g (k, v)))).trans (insB_perm _ _).symm
  · intro p hp
    rcases List.mem_append.1 hp with hp | hp
    · exact h.key p hp
    · simp only [List.mem_singleton] at hp; subst hp; exact hk
theorem RK.del (h : RK lt kf g M L) (k : κ) : RK lt kf g (delM M k) (delK kf L k) := by
  refine ⟨?_, delK_srt h.srt k, fun p hp => h.key p (List.mem_filter.1 hp).1⟩
  have := h.perm.filter (fun x => !decide (kf x = k))
  rw [List.filter_map] at this
  refine (List.Perm.of_eq ?_).trans this
  unfold delM
  congr 1
  refine List.filter_congr fun p hp => ?_
  simp only [Function.comp_def]
  rw [h.key p hp]
omit [DecidableEq κ] in
theorem RK.nil : RK lt kf g ([] : List (κ × ν)) [] := ⟨.refl _, List.Pairwise.nil, by simp⟩
end
end Go.Proofs.YtgholbeehkfbiaaGreat
