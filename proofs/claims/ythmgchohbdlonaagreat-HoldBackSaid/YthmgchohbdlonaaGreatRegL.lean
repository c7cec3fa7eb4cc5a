/- A region that draws its order, its last operation one that waits for all others: S need not hold behind that one. No program. -/
import Derived.WalkKit
import Derived.Deep.RegionHeld3
namespace Go.Proofs.YthmgchohbdlonaaGreat
open Go.RowKit

section
variable {P : Program} {ops : Array Oper} {Q : Exit → Act → World → Prop} {md : Region.Mode} {S : World → Prop} {d : Nat}
def wpAnyL (P : Program) (md : Region.Mode) (ops : Array Oper) (Q : Exit → Act → World → Prop) (S : World → Prop) (d : Nat) : Nat → Array Bool → Act → World → Prop
  | 0, listed, a, w => Region.ready md ops listed = [] ∧ Q .normal a w
  | fuel + 1, listed, a, w =>
    (Region.ready md ops listed = [] → Q .normal a w) ∧
    ∀ i ∈ Region.ready md ops listed, wpOp P ops Q i (fun a' w' => (i ≠ d → S w') ∧ wpAnyL P md ops Q S d fuel (listed.setIfInBounds i true) a' w') a w
theorem wpAny_of_l : ∀ (fuel : Nat) (listed : Array Bool) (a : Act) (w : World), wpAnyL P md ops Q S d fuel listed a w → wpAny P md ops Q fuel listed a w
  | 0, _, _, _, h => h
  | fuel + 1, _, _, _, h => ⟨h.1, fun i hi => wpOp_mono (fun a' w' h' => wpAny_of_l fuel _ a' w' h'.2) (h.2 i hi)⟩
/-- operation d waits for operation i, straight or through others -/
def waits (md : Region.Mode) (ops : Array Oper) : Nat → Nat → Nat → Bool
  | 0, _, _ => false
  | n + 1, d, i => match ops[d]? with
    | some o => o.after.any fun e => Region.binds md e && (e.on == i || waits md ops n e.on i)
    | none => false
/-- what is listed, all that it waits for is listed -/
def Closed (md : Region.Mode) (ops : Array Oper) (listed : Array Bool) : Prop := ∀ j oj, ops[j]? = some oj → listed.getD j true = true → ∀ e ∈ oj.after, Region.binds md e = true → listed.getD e.on true = true
def closedB (md : Region.Mode) (ops : Array Oper) (listed : Array Bool) : Bool := (List.range ops.size).all fun j => !listed.getD j true || match ops[j]? with
  | some oj => oj.after.all fun e => !Region.binds md e || listed.getD e.on true
  | none => true
theorem closed_of {listed : Array Bool} (h : closedB md ops listed = true) : Closed md ops listed := fun j oj hj hl e he hb => by
  have hlt := (Array.getElem?_eq_some_iff.1 hj).1
  have h1 := List.all_eq_true.1 h j (List.mem_range.2 hlt)
  rw [hj, hl] at h1
  simp only [Bool.not_true, Bool.false_or] at h1
  have h2 := Array.all_eq_true'.1 h1 e he
  rw [hb] at h2
  simpa using h2
theorem getD_up {listed : Array Bool} {k : Nat} (h : listed.getD k false = true) : listed.getD k true = true := by
  rw [Array.getD_eq_getD_getElem?] at h ⊢
  cases hk : listed[k]? with
  | none => rfl
  | some v => rw [hk] at h; exact h
theorem waits_listed {listed : Array Bool} (hc : Closed md ops listed) {i : Nat} : ∀ (n d : Nat) (od : Oper), ops[d]? = some od → (∀ e ∈ od.after, Region.binds md e = true → listed.getD e.on true = true) → waits md ops n d i = true → listed.getD i true = true
  | 0, _, _, _, _, h => by cases h
  | n + 1, d, od, hd, hall, h => by
    rw [waits, hd] at h
    obtain ⟨e, he, hb⟩ := Array.any_eq_true'.1 h
    rw [Bool.and_eq_true, Bool.or_eq_true, beq_iff_eq] at hb
    rcases hb.2 with h1 | h1
    · rw [← h1]; exact hall e he hb.1
    · have hl := hall e he hb.1
      cases ho : ops[e.on]? with
      | none => cases n <;> simp [waits, ho] at h1
      | some oe => exact waits_listed hc n e.on oe ho (fun e' he' hb' => hc e.on oe ho hl e' he' hb') h1
theorem Closed.set {listed : Array Bool} (hc : Closed md ops listed) {j : Nat} {oj : Oper} (hoj : ops[j]? = some oj) (hall : ∀ e ∈ oj.after, Region.binds md e = true → listed.getD e.on true = true) : Closed md ops (listed.setIfInBounds j true) := fun k ok hk hl e he hb => by
  have up : ∀ m, listed.getD m true = true → (listed.setIfInBounds j true).getD m true = true := fun m hm => by
    by_cases hjm : j = m
    · subst hjm
      rw [Array.getD_eq_getD_getElem?, Array.getElem?_setIfInBounds]
      split <;> (try split) <;> simp_all
    · rw [getD_set_ne true hjm]; exact hm
  by_cases hjk : j = k
  · subst hjk
    rw [hoj] at hk
    injection hk with hk
    subst hk
    exact up _ (hall e he hb)
  · rw [getD_set_ne true hjk] at hl
    exact up _ (hc k ok hk hl e he hb)
theorem wpAnyL_first {i : Nat} {oi : Oper} {v : Value} (hi : ops[i]? = some oi) (hd : waits md ops ops.size d i = true) (hsel : ∀ (j : Nat) (o : Oper) cs b, ops[j]? = some o → o.op ≠ .select cs b)
    (hQ : ∀ c a w, Q (.panic c) (a.put oi.dst v) w → Q (.panic c) a w) :
    ∀ (fuel : Nat) (listed : Array Bool) (a : Act) (w : World),
      (∀ j oj, ops[j]? = some oj → j ≠ i → listed.getD j true = false → (∀ e ∈ oj.after, Region.binds md e = true → e.on ≠ i) → oi.apart ops oj = true) →
      Closed md ops listed → i ∈ Region.ready md ops listed → YieldsIf P ops S oi v a → S w →
      wpAnyL P md ops Q S d fuel (listed.setIfInBounds i true) (a.put oi.dst v) w → wpAnyL P md ops Q S d (fuel + 1) listed a w := by
  intro fuel
  induction fuel with
  | zero =>
    intro listed a w _ _ hr hy hS H
    refine ⟨fun h => (by rw [h] at hr; cases hr), fun j hj => ?_⟩
    by_cases hji : j = i
    · subst hji; exact hy.wpOp hi hS ⟨fun _ => hS, H⟩
    · have := ready_mono hj hji
      rw [H.1] at this
      cases this
  | succ fuel ih =>
    intro listed a w hfree hcl hr hy hS H
    refine ⟨fun h => (by rw [h] at hr; cases hr), fun j hj => ?_⟩
    by_cases hji : j = i
    · subst hji; exact hy.wpOp hi hS ⟨fun _ => hS, H⟩
    · have h1 := H.2 j (ready_mono hj hji)
      obtain ⟨hjun, oj, hoj, hall⟩ := mem_ready.1 hj
      have hnot : ∀ e ∈ oj.after, Region.binds md e = true → e.on ≠ i := fun e he hb heq => by
        have h1 := hall e he hb
        have h0 := (mem_ready.1 hr).1
        rw [heq] at h1
        rcases Nat.lt_or_ge i listed.size with h' | h'
        · simp [h'] at h0 h1; rw [h0] at h1; cases h1
        · simp [Array.getElem?_eq_none h'] at h1
      have hall' : ∀ e ∈ oj.after, Region.binds md e = true → listed.getD e.on true = true := fun e he hb => getD_up (hall e he hb)
      have hjd : j ≠ d := fun e => by
        subst e
        have h5 := waits_listed hcl _ _ _ hoj hall' hd
        have h6 := (mem_ready.1 hr).1
        rw [h5] at h6
        cases h6
      have h2 := wpOp_putIf hoj (hfree j oj hoj hji hjun hnot) (fun cs b => hsel i oi cs b hi) (fun cs b => hsel j oj cs b hoj) hQ hy h1
      have hfree' : ∀ k ok, ops[k]? = some ok → k ≠ i → (listed.setIfInBounds j true).getD k true = false →
          (∀ e ∈ ok.after, Region.binds md e = true → e.on ≠ i) → oi.apart ops ok = true := fun k ok hk hki hun hno => by
        refine hfree k ok hk hki ?_ hno
        by_cases hjk : j = k
        · subst hjk; exact hjun
        · rw [getD_set_ne true hjk] at hun; exact hun
      refine wpOp_mono (fun a' w' h3 => ⟨h3.2.1, ih (listed.setIfInBounds j true) a' w' hfree' (hcl.set hoj hall') (ready_mono hr (Ne.symm hji)) h3.1 (h3.2.1 hjd) ?_⟩) h2
      rw [Array.setIfInBounds_comm _ _ hji]
      exact h3.2.2
theorem wpAnyL_take {i : Nat} {oi : Oper} {v : Value} {fuel : Nat} {listed : Array Bool} {a : Act} {w : World} (hi : ops[i]? = some oi) (hd : (waits md ops ops.size d i && closedB md ops listed) = true)
    (hs : Region.noSelect ops = true) (hf : Region.free md ops listed i = true) (hr : (Region.ready md ops listed).contains i = true)
    (hQ : ∀ c a w, Q (.panic c) (a.put oi.dst v) w → Q (.panic c) a w) (hy : YieldsIf P ops S oi v a) (hS : S w)
    (h : wpAnyL P md ops Q S d fuel (listed.setIfInBounds i true) (a.put oi.dst v) w) : wpAnyL P md ops Q S d (fuel + 1) listed a w :=
  wpAnyL_first hi (Bool.and_eq_true_iff.1 hd).1 (Region.noSelect_spec hs) hQ fuel listed a w (Region.free_spec hi hf) (closed_of (Bool.and_eq_true_iff.1 hd).2) (by simpa using hr) hy hS h
theorem wpAnyL_done {listed : Array Bool} {a : Act} {w : World} (hr : Region.ready md ops listed = []) (h : Q .normal a w) :
    ∀ fuel, wpAnyL P md ops Q S d fuel listed a w
  | 0 => ⟨hr, h⟩
  | _ + 1 => ⟨fun _ => h, by rw [hr]; simp⟩
/-- one operation alone may come up -/
theorem wpAnyL_one {i : Nat} {o : Oper} {fuel : Nat} {listed : Array Bool} {a : Act} {w : World} (hr : Region.ready md ops listed = [i]) (ho : ops[i]? = some o) (hid : i ≠ d)
    (h : ∀ K' : Act → World → Prop, Shut (∀ a w, S w → (S w → wpAnyL P md ops Q S d fuel (listed.setIfInBounds i true) a w) → K' a w) → if Region.wanted o (yielded ops a.tmps) = true then Oper.wp P o a w K' Q else K' (a.put o.dst undef) w) :
    wpAnyL P md ops Q S d (fuel + 1) listed a w :=
  ⟨fun h0 => absurd (hr ▸ h0) (by simp), hr ▸ fun j hj => by
    simp only [List.mem_singleton] at hj
    subst hj
    exact wpOp_step ho fun K' hK => h K' fun a w hS hW => hK a w ⟨fun _ => hS, hW hS⟩⟩
/-- each of some may come up -/
def AllReadyL (P : Program) (md : Region.Mode) (ops : Array Oper) (Q : Exit → Act → World → Prop) (S : World → Prop) (d : Nat) (fuel : Nat) (listed : Array Bool) (a : Act) (w : World) (rs : List Nat) : Prop :=
  ∀ i ∈ rs, wpOp P ops Q i (fun a' w' => (i ≠ d → S w') ∧ wpAnyL P md ops Q S d fuel (listed.setIfInBounds i true) a' w') a w
theorem AllReadyL.nil {fuel : Nat} {listed : Array Bool} {a : Act} {w : World} : AllReadyL P md ops Q S d fuel listed a w [] := fun _ h => by cases h
theorem AllReadyL.cons {fuel : Nat} {listed : Array Bool} {a : Act} {w : World} {i : Nat} {o : Oper} {rs : List Nat} (ho : ops[i]? = some o)
    (h : ∀ K' : Act → World → Prop, Shut (∀ a w, S w → (S w → wpAnyL P md ops Q S d fuel (listed.setIfInBounds i true) a w) → K' a w) → if Region.wanted o (yielded ops a.tmps) = true then Oper.wp P o a w K' Q else K' (a.put o.dst undef) w)
    (hs : AllReadyL P md ops Q S d fuel listed a w rs) : AllReadyL P md ops Q S d fuel listed a w (i :: rs) := fun j hj => by
  rcases List.mem_cons.1 hj with rfl | hj
  · exact wpOp_step ho (fun K' hK => h K' (fun a w hS hW => hK a w ⟨fun _ => hS, hW hS⟩))
  · exact hs j hj
theorem wpAnyL_ready {rs : List Nat} {fuel : Nat} {listed : Array Bool} {a : Act} {w : World} (hr : Region.ready md ops listed = rs) (hne : rs ≠ [])
    (h : AllReadyL P md ops Q S d fuel listed a w rs) : wpAnyL P md ops Q S d (fuel + 1) listed a w := ⟨fun h0 => absurd (hr ▸ h0) hne, hr ▸ h⟩
/-- the last one -/
theorem wpAnyL_last {o : Oper} {fuel : Nat} {listed : Array Bool} {a : Act} {w : World} (hr : Region.ready md ops listed = [d]) (ho : ops[d]? = some o)
    (h : ∀ K' : Act → World → Prop, Shut (∀ a w, wpAnyL P md ops Q S d fuel (listed.setIfInBounds d true) a w → K' a w) → if Region.wanted o (yielded ops a.tmps) = true then Oper.wp P o a w K' Q else K' (a.put o.dst undef) w) :
    wpAnyL P md ops Q S d (fuel + 1) listed a w :=
  ⟨fun h0 => absurd (hr ▸ h0) (by simp), hr ▸ fun j hj => by
    simp only [List.mem_singleton] at hj
    subst hj
    exact wpOp_step ho fun K' hK => h K' fun a w hW => hK a w ⟨fun e => absurd rfl e, hW⟩⟩
theorem wp_region_l {id : Nat} {a : Act} {w : World} (d : Nat) (S : World → Prop) (hm : P.follows .mixedOrders = true) (hS : S w.drew)
    (h : S w.drew → wpAnyL P .any ops Q S d ops.size (Array.replicate ops.size false) a w.drew) : (Code.region id ops true).wp P Q a w :=
  wp_region_any hm (wpAny_of_l _ _ _ _ (h hS))
end
end Go.Proofs.YthmgchohbdlonaaGreat
