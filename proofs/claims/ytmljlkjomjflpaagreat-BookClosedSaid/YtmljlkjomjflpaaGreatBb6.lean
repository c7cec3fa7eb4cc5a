/- Texts of this claim, laid together: RegL, RfName, SumL, Rf01. -/
import Derived.WalkKit
import Derived.Deep.RegionHeld3
import Derived.Test.YtmljlkjomjflpaaGreatRows
import Derived.Test.YtmljlkjomjflpaaGreatBb4
import Derived.WalkSpells
import Derived.WalkLawsBesides
import Derived.Deep.QuietTactic
import Derived.BigQuiet
import Derived.Laws.StructEq
import Derived.Deep.DeepFit
import Derived.StillTailTactics
import Derived.Test.YtmljlkjomjflpaaGreatBb1
import Derived.Test.YtmljlkjomjflpaaGreatBb2

/- A region that draws its order, its last operation one that waits for all others: S need not hold behind that one. No program. -/
namespace Go.Proofs.YtmljlkjomjflpaaGreat
open Go.RowKit

section
variable {P : Program} {ops : Array Oper} {Q : Exit → Act → World → Prop} {md : Region.Mode} {S : World → Prop} {d : Nat}
def wpAnyL (P : Program) (md : Region.Mode) (ops : Array Oper) (Q : Exit → Act → World → Prop) (S : World → Prop) (d : Nat) : Nat → Array Bool → Act → World → Prop
  | 0, listed, a, w => Region.ready md ops listed = [] ∧ Q .normal a w
  | fuel + 1, listed, a, w =>
    (Region.ready md ops listed = [] → Q .normal a w) ∧
    ∀ i ∈ Region.ready md ops listed, wpOp P ops Q i (fun a' w' => (i ≠ d → S w') ∧ wpAnyL P md ops Q S d fuel (listed.setIfInBounds i true) a' w') a w
theorem wpAny_of_l : ∀ (fuel : Nat) (listed : Array Bool) (a : Act) (w : World), wpAnyL P md ops Q S d fuel listed a w → wpAny P md ops Q fuel listed a w
  | 0, _, _, _, h => h
  | fuel + 1, _, _, _, h => ⟨h.1, fun i hi => wpOp_mono (fun a' w' h' => wpAny_of_l fuel _ a' w' h'.2) (h.2 i hi)⟩
/-- which operations wait for operation i, straight or through others -/
def depGo (md : Region.Mode) (i : Nat) : List Oper → Array Bool → Array Bool
  | [], acc => acc
  | o :: r, acc => depGo md i r (acc.push (o.after.any fun e => Region.binds md e && (e.on == i || acc.getD e.on false)))
def waits (md : Region.Mode) (ops : Array Oper) (d i : Nat) : Bool := (depGo md i ops.toList #[]).getD d false
/-- what is listed, all that it waits for is listed -/
def Closed (md : Region.Mode) (ops : Array Oper) (listed : Array Bool) : Prop := ∀ j oj, ops[j]? = some oj → listed.getD j true = true → ∀ e ∈ oj.after, Region.binds md e = true → listed.getD e.on true = true
theorem getD_up {listed : Array Bool} {k : Nat} (h : listed.getD k false = true) : listed.getD k true = true := by
  rw [Array.getD_eq_getD_getElem?] at h ⊢
  cases hk : listed[k]? with
  | none => rfl
  | some v => rw [hk] at h; exact h
def Good (md : Region.Mode) (ops : Array Oper) (listed : Array Bool) (i : Nat) (acc : Array Bool) : Prop := ∀ j, acc.getD j false = true → ∀ oj, ops[j]? = some oj → (∀ e ∈ oj.after, Region.binds md e = true → listed.getD e.on true = true) → listed.getD i true = true
theorem depGo_good {listed : Array Bool} (hc : Closed md ops listed) {i : Nat} : ∀ (r : List Oper) (pre : List Oper) (acc : Array Bool), ops.toList = pre ++ r → acc.size = pre.length → Good md ops listed i acc → Good md ops listed i (depGo md i r acc)
  | [], _, _, _, _, hg => hg
  | o :: r, pre, acc, he, hs, hg => by
    unfold depGo
    refine depGo_good hc r (pre ++ [o]) _ (by rw [he]; simp) (by simp [hs]) fun j hj oj hoj hall => ?_
    rw [Array.getD_eq_getD_getElem?, Array.getElem?_push] at hj
    by_cases hje : j = acc.size
    · rw [if_pos hje] at hj
      have ho : oj = o := by
        have h1 : ops.toList[j]? = some oj := by rw [Array.getElem?_toList]; exact hoj
        rw [he, hje, hs, List.getElem?_append_right (Nat.le_refl _), Nat.sub_self] at h1
        simpa using h1.symm
      subst ho
      obtain ⟨e, hem, hb⟩ := Array.any_eq_true'.1 (show (oj.after.any fun e => Region.binds md e && (e.on == i || acc.getD e.on false)) = true from hj)
      rw [Bool.and_eq_true, Bool.or_eq_true, beq_iff_eq] at hb
      have hl := hall e hem hb.1
      rcases hb.2 with h1 | h1
      · rw [← h1]; exact hl
      · cases ho : ops[e.on]? with
        | none =>
          have h2 : acc.getD e.on false = false := by
            have hsz : acc.size ≤ ops.size := by
              have := congrArg List.length he
              simp at this
              omega
            rw [Array.getElem?_eq_none_iff] at ho
            rw [Array.getD_eq_getD_getElem?, Array.getElem?_eq_none (by omega)]
            rfl
          rw [h2] at h1; cases h1
        | some oe => exact hg e.on h1 oe ho fun e' he' hb' => hc e.on oe ho hl e' he' hb'
    · rw [if_neg hje] at hj
      exact hg j (by rw [Array.getD_eq_getD_getElem?]; exact hj) oj hoj hall
theorem waits_listed {listed : Array Bool} (hc : Closed md ops listed) {i d : Nat} (od : Oper) (hd : ops[d]? = some od) (hall : ∀ e ∈ od.after, Region.binds md e = true → listed.getD e.on true = true) (h : waits md ops d i = true) : listed.getD i true = true :=
  depGo_good hc ops.toList [] #[] (by simp) rfl (fun j hj => by simp [Array.getD] at hj) d h od hd hall
theorem Closed.set {listed : Array Bool} (hc : Closed md ops listed) {j : Nat} {oj : Oper} (hoj : ops[j]? = some oj) (hall : ∀ e ∈ oj.after, Region.binds md e = true → listed.getD e.on true = true) : Closed md ops (listed.setIfInBounds j true) := fun k ok hk hl e he hb => by
  have up : ∀ m, listed.getD m true = true → (listed.setIfInBounds j true).getD m true = true := fun m hm => by
    by_cases hjm : j = m
    · subst hjm
      rw [Array.getD_eq_getD_getElem?, Array.getElem?_setIfInBounds]
      split <;> (try split) <;> simp_all
    · rw [getD_set_ne true hjm]; exact hm
  by_cases hjk : j = k
  · subst hjk
    rw [hoj] at hk
    injection hk with hk
    subst hk
    exact up _ (hall e he hb)
  · rw [getD_set_ne true hjk] at hl
    exact up _ (hc k ok hk hl e he hb)
theorem wpAnyL_first {i : Nat} {oi : Oper} {v : Value} (hi : ops[i]? = some oi) (hd : waits md ops d i = true) (hsel : ∀ (j : Nat) (o : Oper) cs b, ops[j]? = some o → o.op ≠ .select cs b)
    (hQ : ∀ c a w, Q (.panic c) (a.put oi.dst v) w → Q (.panic c) a w) :
    ∀ (fuel : Nat) (listed : Array Bool) (a : Act) (w : World),
      (∀ j oj, ops[j]? = some oj → j ≠ i → listed.getD j true = false → (∀ e ∈ oj.after, Region.binds md e = true → e.on ≠ i) → oi.apart ops oj = true) →
      Closed md ops listed → i ∈ Region.ready md ops listed → YieldsIf P ops S oi v a → S w →
      wpAnyL P md ops Q S d fuel (listed.setIfInBounds i true) (a.put oi.dst v) w → wpAnyL P md ops Q S d (fuel + 1) listed a w := by
  intro fuel
  induction fuel with
  | zero =>
    intro listed a w _ _ hr hy hS H
    refine ⟨fun h => (by rw [h] at hr; cases hr), fun j hj => ?_⟩
    by_cases hji : j = i
    · subst hji; exact hy.wpOp hi hS ⟨fun _ => hS, H⟩
    · have := ready_mono hj hji
      rw [H.1] at this
      cases this
  | succ fuel ih =>
    intro listed a w hfree hcl hr hy hS H
    refine ⟨fun h => (by rw [h] at hr; cases hr), fun j hj => ?_⟩
    by_cases hji : j = i
    · subst hji; exact hy.wpOp hi hS ⟨fun _ => hS, H⟩
    · have h1 := H.2 j (ready_mono hj hji)
      obtain ⟨hjun, oj, hoj, hall⟩ := mem_ready.1 hj
      have hnot : ∀ e ∈ oj.after, Region.binds md e = true → e.on ≠ i := fun e he hb heq => by
        have h1 := hall e he hb
        have h0 := (mem_ready.1 hr).1
        rw [heq] at h1
        rcases Nat.lt_or_ge i listed.size with h' | h'
        · simp [h'] at h0 h1; rw [h0] at h1; cases h1
        · simp [Array.getElem?_eq_none h'] at h1
      have hall' : ∀ e ∈ oj.after, Region.binds md e = true → listed.getD e.on true = true := fun e he hb => getD_up (hall e he hb)
      have hjd : j ≠ d := fun e => by
        subst e
        have h5 := waits_listed hcl _ hoj hall' hd
        have h6 := (mem_ready.1 hr).1
        rw [h5] at h6
        cases h6
      have h2 := wpOp_putIf hoj (hfree j oj hoj hji hjun hnot) (fun cs b => hsel i oi cs b hi) (fun cs b => hsel j oj cs b hoj) hQ hy h1
      have hfree' : ∀ k ok, ops[k]? = some ok → k ≠ i → (listed.setIfInBounds j true).getD k true = false →
          (∀ e ∈ ok.after, Region.binds md e = true → e.on ≠ i) → oi.apart ops ok = true := fun k ok hk hki hun hno => by
        refine hfree k ok hk hki ?_ hno
        by_cases hjk : j = k
        · subst hjk; exact hjun
        · rw [getD_set_ne true hjk] at hun; exact hun
      refine wpOp_mono (fun a' w' h3 => ⟨h3.2.1, ih (listed.setIfInBounds j true) a' w' hfree' (hcl.set hoj hall') (ready_mono hr (Ne.symm hji)) h3.1 (h3.2.1 hjd) ?_⟩) h2
      rw [Array.setIfInBounds_comm _ _ hji]
      exact h3.2.2
/-- .. where what is listed is closed -/
def wpAnyC (P : Program) (md : Region.Mode) (ops : Array Oper) (Q : Exit → Act → World → Prop) (S : World → Prop) (d fuel : Nat) (listed : Array Bool) (a : Act) (w : World) : Prop := Closed md ops listed → wpAnyL P md ops Q S d fuel listed a w
theorem ready_closed {listed : Array Bool} (hcl : Closed md ops listed) {j : Nat} (hj : j ∈ Region.ready md ops listed) : Closed md ops (listed.setIfInBounds j true) := by
  obtain ⟨_, oj, hoj, hall⟩ := mem_ready.1 hj
  exact hcl.set hoj fun e he hb => getD_up (hall e he hb)
theorem wpAnyL_take {i : Nat} {oi : Oper} {v : Value} {fuel : Nat} {listed : Array Bool} {a : Act} {w : World} (hi : ops[i]? = some oi) (hd : waits md ops d i = true)
    (hs : Region.noSelect ops = true) (hf : Region.free md ops listed i = true) (hr : (Region.ready md ops listed).contains i = true)
    (hQ : ∀ c a w, Q (.panic c) (a.put oi.dst v) w → Q (.panic c) a w) (hy : YieldsIf P ops S oi v a) (hS : S w)
    (h : wpAnyC P md ops Q S d fuel (listed.setIfInBounds i true) (a.put oi.dst v) w) : wpAnyC P md ops Q S d (fuel + 1) listed a w := fun hcl =>
  have hr' : i ∈ Region.ready md ops listed := by simpa using hr
  wpAnyL_first hi hd (Region.noSelect_spec hs) hQ fuel listed a w (Region.free_spec hi hf) hcl hr' hy hS (h (ready_closed hcl hr'))
theorem wpAnyL_done {listed : Array Bool} {a : Act} {w : World} (hr : Region.ready md ops listed = []) (h : Q .normal a w) :
    ∀ fuel, wpAnyC P md ops Q S d fuel listed a w
  | 0 => fun _ => ⟨hr, h⟩
  | _ + 1 => fun _ => ⟨fun _ => h, by rw [hr]; simp⟩
/-- one operation alone may come up -/
theorem wpAnyL_one {i : Nat} {o : Oper} {fuel : Nat} {listed : Array Bool} {a : Act} {w : World} (hr : Region.ready md ops listed = [i]) (ho : ops[i]? = some o) (_hid : i ≠ d)
    (h : ∀ K' : Act → World → Prop, Shut (∀ a w, S w → (S w → wpAnyC P md ops Q S d fuel (listed.setIfInBounds i true) a w) → K' a w) → if Region.wanted o (yielded ops a.tmps) = true then Oper.wp P o a w K' Q else K' (a.put o.dst undef) w) :
    wpAnyC P md ops Q S d (fuel + 1) listed a w := fun hcl =>
  ⟨fun h0 => absurd (hr ▸ h0) (by simp), hr ▸ fun j hj => by
    have hj' : j ∈ Region.ready md ops listed := by rw [hr]; exact hj
    simp only [List.mem_singleton] at hj
    subst hj
    exact wpOp_step ho fun K' hK => h K' fun a w hS hW => hK a w ⟨fun _ => hS, hW hS (ready_closed hcl hj')⟩⟩
/-- each of some may come up -/
def AllReadyL (P : Program) (md : Region.Mode) (ops : Array Oper) (Q : Exit → Act → World → Prop) (S : World → Prop) (d : Nat) (fuel : Nat) (listed : Array Bool) (a : Act) (w : World) (rs : List Nat) : Prop :=
  ∀ i ∈ rs, wpOp P ops Q i (fun a' w' => (i ≠ d → S w') ∧ (i ∈ Region.ready md ops listed → Closed md ops listed → wpAnyL P md ops Q S d fuel (listed.setIfInBounds i true) a' w')) a w
theorem AllReadyL.nil {fuel : Nat} {listed : Array Bool} {a : Act} {w : World} : AllReadyL P md ops Q S d fuel listed a w [] := fun _ h => by cases h
theorem AllReadyL.cons {fuel : Nat} {listed : Array Bool} {a : Act} {w : World} {i : Nat} {o : Oper} {rs : List Nat} (ho : ops[i]? = some o)
    (h : ∀ K' : Act → World → Prop, Shut (∀ a w, S w → (S w → wpAnyC P md ops Q S d fuel (listed.setIfInBounds i true) a w) → K' a w) → if Region.wanted o (yielded ops a.tmps) = true then Oper.wp P o a w K' Q else K' (a.put o.dst undef) w)
    (hs : AllReadyL P md ops Q S d fuel listed a w rs) : AllReadyL P md ops Q S d fuel listed a w (i :: rs) := fun j hj => by
  rcases List.mem_cons.1 hj with rfl | hj
  · exact wpOp_step ho (fun K' hK => h K' (fun a w hS hW => hK a w ⟨fun _ => hS, fun hr hcl => hW hS (ready_closed hcl hr)⟩))
  · exact hs j hj
theorem wpAnyL_ready {rs : List Nat} {fuel : Nat} {listed : Array Bool} {a : Act} {w : World} (hr : Region.ready md ops listed = rs) (hne : rs ≠ [])
    (h : AllReadyL P md ops Q S d fuel listed a w rs) : wpAnyC P md ops Q S d (fuel + 1) listed a w := fun hcl =>
  ⟨fun h0 => absurd (hr ▸ h0) hne, fun i hi => wpOp_mono (fun _ _ hh => ⟨hh.1, hh.2 hi hcl⟩) (h i (hr ▸ hi))⟩
/-- the last one -/
theorem wpAnyL_last {o : Oper} {fuel : Nat} {listed : Array Bool} {a : Act} {w : World} (hr : Region.ready md ops listed = [d]) (ho : ops[d]? = some o)
    (h : ∀ K' : Act → World → Prop, Shut (∀ a w, wpAnyC P md ops Q S d fuel (listed.setIfInBounds d true) a w → K' a w) → if Region.wanted o (yielded ops a.tmps) = true then Oper.wp P o a w K' Q else K' (a.put o.dst undef) w) :
    wpAnyC P md ops Q S d (fuel + 1) listed a w := fun hcl =>
  ⟨fun h0 => absurd (hr ▸ h0) (by simp), hr ▸ fun j hj => by
    have hj' : j ∈ Region.ready md ops listed := by rw [hr]; exact hj
    simp only [List.mem_singleton] at hj
    subst hj
    exact wpOp_step ho fun K' hK => h K' fun a w hW => hK a w ⟨fun e => absurd rfl e, hW (ready_closed hcl hj')⟩⟩
theorem wp_region_l {id : Nat} {a : Act} {w : World} (d : Nat) (S : World → Prop) (hm : P.follows .mixedOrders = true) (hS : S w.drew)
    (h : S w.drew → wpAnyC P .any ops Q S d ops.size (Array.replicate ops.size false) a w.drew) : (Code.region id ops true).wp P Q a w :=
  wp_region_any hm (wpAny_of_l _ _ _ _ (h hS fun j oj hj hl => by
    have hlt := (Array.getElem?_eq_some_iff.1 hj).1
    rw [Array.getD_eq_getD_getElem?, Array.getElem?_replicate, if_pos hlt] at hl
    cases hl))
end
end Go.Proofs.YtmljlkjomjflpaaGreat

/- ref05.Name -/
namespace Go.Proofs.YtmljlkjomjflpaaGreat
open Go.RowKit
set_option maxRecDepth 100000 in
set_option maxHeartbeats 4000000 in
theorem rname_c (s : ByteArray) (hs : s.size ≤ maxLen) (w : World) : Calls Tryz.prog 88 #[.string s] w fun e w' => e = .returned (.bool (nameB s)) ∧ Below w.heap.size w w' := by
  have hs' : s.size ≤ 9223372036854775807 := Nat.le_trans hs (by decide)
  clear hs
  go_enter Tryz.func88, Tryz.ntmps88
  go_wp2_with fail
  go_loopw [3] (fun i wr => ∃ k : Nat, i = i64 k ∧ k ≤ s.size ∧ signTo s k ∧ w = wr) (fun i _ => s.size - (intOf i).toNat)
  case atStart => exact ⟨0, rfl, by omega, fun _ _ h => absurd h (by omega), rfl⟩
  case round =>
    obtain ⟨k, rfl, hk, hst, rfl⟩ := hrel
    have Hst := Lib.hid hst
    clear hst
    by_cases hlt : k < s.size
    · have i0 : (0 : Int) ≤ (k : Int) := by omega
      have i1 : (k : Int) < (s.size : Int) := by omega
      have hb8 := s[k].toNat_lt
      have HS := Lib.hid (show signB s[k] = (decide (97 ≤ s[k].toNat ∧ s[k].toNat ≤ 122) || decide (48 ≤ s[k].toNat ∧ s[k].toNat ≤ 57)) from rfl)
      by_cases hc : s[k].toNat ≤ 47
      · have t1 : decide ((97 : Int) ≤ ((s[k].toNat : Nat) : Int)) = false := by rw [decide_eq_false_iff_not]; omega
        have t2 : decide (((s[k].toNat : Nat) : Int) ≤ 122) = true := by rw [decide_eq_true_eq]; omega
        have t3 : decide ((48 : Int) ≤ ((s[k].toNat : Nat) : Int)) = false := by rw [decide_eq_false_iff_not]; omega
        have t4 : decide (((s[k].toNat : Nat) : Int) ≤ 57) = true := by rw [decide_eq_true_eq]; omega
        have Hs := Lib.hid (show signB s[k] = false by rw [HS.out]; simp; omega)
        clear hc HS hb8
        go_wp2
        go_ret
        exact ⟨by rw [nameB_bad hlt Hs.out]; rfl, Below.refl _ _⟩
      by_cases hc : 48 ≤ s[k].toNat ∧ s[k].toNat ≤ 57
      · have t1 : decide ((97 : Int) ≤ ((s[k].toNat : Nat) : Int)) = false := by rw [decide_eq_false_iff_not]; omega
        have t2 : decide (((s[k].toNat : Nat) : Int) ≤ 122) = true := by rw [decide_eq_true_eq]; omega
        have t3 : decide ((48 : Int) ≤ ((s[k].toNat : Nat) : Int)) = true := by rw [decide_eq_true_eq]; omega
        have t4 : decide (((s[k].toNat : Nat) : Int) ≤ 57) = true := by rw [decide_eq_true_eq]; omega
        have Hs := Lib.hid (show signB s[k] = true by rw [HS.out]; simp; omega)
        clear hc HS hb8
        go_wp2
        go_roundw
        case rel => exact ⟨k + 1, by go_num, by omega, Hst.out.next hlt Hs.out, trivial⟩
        case measure => simp [intOf]; omega
      by_cases hc : 58 ≤ s[k].toNat ∧ s[k].toNat ≤ 96
      · have t1 : decide ((97 : Int) ≤ ((s[k].toNat : Nat) : Int)) = false := by rw [decide_eq_false_iff_not]; omega
        have t2 : decide (((s[k].toNat : Nat) : Int) ≤ 122) = true := by rw [decide_eq_true_eq]; omega
        have t3 : decide ((48 : Int) ≤ ((s[k].toNat : Nat) : Int)) = true := by rw [decide_eq_true_eq]; omega
        have t4 : decide (((s[k].toNat : Nat) : Int) ≤ 57) = false := by rw [decide_eq_false_iff_not]; omega
        have Hs := Lib.hid (show signB s[k] = false by rw [HS.out]; simp; omega)
        clear hc HS hb8
        go_wp2
        go_ret
        exact ⟨by rw [nameB_bad hlt Hs.out]; rfl, Below.refl _ _⟩
      by_cases hc : 97 ≤ s[k].toNat ∧ s[k].toNat ≤ 122
      · have t1 : decide ((97 : Int) ≤ ((s[k].toNat : Nat) : Int)) = true := by rw [decide_eq_true_eq]; omega
        have t2 : decide (((s[k].toNat : Nat) : Int) ≤ 122) = true := by rw [decide_eq_true_eq]; omega
        have t3 : decide ((48 : Int) ≤ ((s[k].toNat : Nat) : Int)) = true := by rw [decide_eq_true_eq]; omega
        have t4 : decide (((s[k].toNat : Nat) : Int) ≤ 57) = false := by rw [decide_eq_false_iff_not]; omega
        have Hs := Lib.hid (show signB s[k] = true by rw [HS.out]; simp; omega)
        clear hc HS hb8
        go_wp2
        go_roundw
        case rel => exact ⟨k + 1, by go_num, by omega, Hst.out.next hlt Hs.out, trivial⟩
        case measure => simp [intOf]; omega
      by_cases hc : 123 ≤ s[k].toNat
      · have t1 : decide ((97 : Int) ≤ ((s[k].toNat : Nat) : Int)) = true := by rw [decide_eq_true_eq]; omega
        have t2 : decide (((s[k].toNat : Nat) : Int) ≤ 122) = false := by rw [decide_eq_false_iff_not]; omega
        have t3 : decide ((48 : Int) ≤ ((s[k].toNat : Nat) : Int)) = true := by rw [decide_eq_true_eq]; omega
        have t4 : decide (((s[k].toNat : Nat) : Int) ≤ 57) = false := by rw [decide_eq_false_iff_not]; omega
        have Hs := Lib.hid (show signB s[k] = false by rw [HS.out]; simp; omega)
        clear hc HS hb8
        go_wp2
        go_ret
        exact ⟨by rw [nameB_bad hlt Hs.out]; rfl, Below.refl _ _⟩
      omega
    · obtain rfl : k = s.size := by omega
      have hal := Hst.out.all
      have hem : s.toList.isEmpty = decide (s.size = 0) := by
        rw [Bool.eq_iff_iff, List.isEmpty_iff, decide_eq_true_eq, ← List.length_eq_zero_iff]
        rw [ByteArray.toList_eq]
        simp
      have Hs := Lib.hid (show nameB s = (decide (1 ≤ s.size) && decide (s.size ≤ 8)) by unfold nameB; rw [hal, hem, Bool.true_and]; congr 1; rw [Bool.eq_iff_iff]; simp only [Bool.not_eq_true', decide_eq_false_iff_not, decide_eq_true_eq]; omega)
      clear hal hem Hst
      by_cases h1 : 1 ≤ s.size
      · have t1 : decide ((1 : Int) ≤ (s.size : Int)) = true := decide_eq_true (by omega)
        have H1 := Lib.hid (decide_eq_true h1)
        by_cases h8 : s.size ≤ 8
        · have t2 : decide ((s.size : Int) ≤ 8) = true := decide_eq_true (by omega)
          have H8 := Lib.hid (decide_eq_true h8)
          clear h1 h8
          go_wp2
          go_ret
          exact ⟨by rw [Hs.out, H1.out, H8.out]; rfl, Below.refl _ _⟩
        · have t2 : decide ((s.size : Int) ≤ 8) = false := decide_eq_false (by omega)
          have H8 := Lib.hid (decide_eq_false h8)
          clear h1 h8
          go_wp2
          go_ret
          exact ⟨by rw [Hs.out, H1.out, H8.out]; rfl, Below.refl _ _⟩
      · have t1 : decide ((1 : Int) ≤ (s.size : Int)) = false := decide_eq_false (by omega)
        have H1 := Lib.hid (decide_eq_false h1)
        clear h1
        go_wp2
        go_ret
        exact ⟨by rw [Hs.out, H1.out]; rfl, Below.refl _ _⟩
end Go.Proofs.YtmljlkjomjflpaaGreat

/- Sums of lists -/
namespace Go.Proofs.YtmljlkjomjflpaaGreat
open Go.RowKit
def sumL : List Int → Int
  | [] => 0
  | a :: r => a + sumL r
theorem sumL_app (l m : List Int) : sumL (l ++ m) = sumL l + sumL m := by
  induction l with
  | nil => simp [sumL]
  | cons b r ih => rw [List.cons_append, sumL, sumL, ih]; omega
theorem sumL_one (a : Int) : sumL [a] = a := by simp [sumL]
theorem sumL_perm {l m : List Int} (h : l.Perm m) : sumL l = sumL m := by
  induction h with
  | nil => rfl
  | cons x _ ih => rw [sumL, sumL, ih]
  | swap x y l => simp only [sumL]; omega
  | trans _ _ h1 h2 => rw [h1, h2]
theorem sumL_in : ∀ (l : List Int), (∀ a ∈ l, R64 a) → -(l.length * 9223372036854775808 : Int) ≤ sumL l ∧ sumL l ≤ l.length * 9223372036854775808
  | [], _ => by simp [sumL]
  | a :: r, h => by
    have h1 := sumL_in r fun b hb => h b (by simp [hb])
    have h2 := h a (by simp)
    unfold R64 at h2
    rw [sumL, List.length_cons]
    push_cast
    omega
theorem sumL_take {l : List Int} {k : Nat} (h : k < l.length) : sumL (l.take (k + 1)) = sumL (l.take k) + l[k] := by rw [List.take_succ_eq_append_getElem h, sumL_app, sumL_one]
end Go.Proofs.YtmljlkjomjflpaaGreat

/- ref01: sums in two halves -/
namespace Go.Proofs.YtmljlkjomjflpaaGreat
open Go.RowKit
/-- countinghouseref01.Wide: a number in two halves -/
abbrev wdV (n : Int) : Value := .agg #[i64 (n / 18446744073709551616), .int .u64 (n % 18446744073709551616)]
/-- small enough -/
def RW (n : Int) : Prop := -1208925819614629174706176 ≤ n ∧ n ≤ 1208925819614629174706176
theorem RW.hi {n : Int} (h : RW n) : -65536 ≤ n / 18446744073709551616 ∧ n / 18446744073709551616 ≤ 65536 := by unfold RW at h; omega
theorem RW.of64 {n : Int} (h : R64 n) : RW n := by unfold R64 at h; unfold RW; omega
set_option maxRecDepth 100000 in
set_option maxHeartbeats 2000000 in
theorem of_c (a : Int) (w : World) (ha : R64 a) : Calls Tryz.prog 135 #[i64 a] w fun e w' => e = .returned (wdV a) ∧ Below w.heap.size w w' := by
  obtain ⟨h1, h2⟩ := ha
  have hu : IntKind.u64.wrap a = a % 18446744073709551616 := by rw [IntKind.wrap_u64]
  have hb := fun o p => ((Below.refl w.heap.size w).alloc (Nat.le_refl _) o).alloc (by simp) p
  by_cases hn : a < 0
  · have g : decide (a < 0) = true := decide_eq_true hn
    have hq : a / 18446744073709551616 = -1 := by omega
    unfold wdV
    rw [hq]
    generalize a % 18446744073709551616 = lo at *
    clear hq h1 h2 hn
    go_enter Tryz.func135, Tryz.ntmps135
    go_wp2
    exact bodyPost_ret (results_cell_row rfl _ _ w.heap.size 175 _ (0, 0) _ rfl (heap_alloc2_old w _ _) Tryz.underlying175 rfl (by kernel_rfl)) rfl ⟨rfl, hb _ _⟩
  · have g : decide (a < 0) = false := decide_eq_false hn
    have hq : a / 18446744073709551616 = 0 := by omega
    unfold wdV
    rw [hq]
    generalize a % 18446744073709551616 = lo at *
    clear hq h1 h2 hn
    go_enter Tryz.func135, Tryz.ntmps135
    go_wp2
    exact bodyPost_ret (results_cell_row rfl _ _ w.heap.size 175 _ (0, 0) _ rfl (heap_alloc2_old w _ _) Tryz.underlying175 rfl (by kernel_rfl)) rfl ⟨rfl, hb _ _⟩
theorem wdV_of {n h l : Int} (h0 : 0 ≤ l) (h1 : l < 18446744073709551616) (h2 : n = h * 18446744073709551616 + l) : wdV n = .agg #[i64 h, .int .u64 l] := by
  have e1 : n / 18446744073709551616 = h := by omega
  have e2 : n % 18446744073709551616 = l := by omega
  unfold wdV
  rw [e1, e2]
theorem heap_alloc3_b (w : World) (o p q : Obj) : (((w.alloc o).alloc p).alloc q).heap[w.heap.size + 1]? = some p := by
  have := heap_alloc2_old (w.alloc o) p q
  simpa using this
theorem heap_alloc4_c (w : World) (o p q r : Obj) : ((((w.alloc o).alloc p).alloc q).alloc r).heap[w.heap.size + 1 + 1]? = some q := by
  have := heap_alloc2_old ((w.alloc o).alloc p) q r
  simpa using this
set_option maxRecDepth 100000 in
set_option maxHeartbeats 4000000 in
theorem plus_c (m n : Int) (w : World) (hm : RW m) (hn : RW n) : Calls Tryz.prog 134 #[wdV m, wdV n] w fun e w' => e = .returned (wdV (m + n)) ∧ Below w.heap.size w w' := by
  have hm' := hm.hi
  have hn' := hn.hi
  have hV : ∃ V, wdV (m + n) = V := ⟨_, rfl⟩
  obtain ⟨V, hV⟩ := hV
  rw [hV]
  have dm : 0 ≤ m % 18446744073709551616 ∧ m % 18446744073709551616 < 18446744073709551616 := by omega
  have dn : 0 ≤ n % 18446744073709551616 ∧ n % 18446744073709551616 < 18446744073709551616 := by omega
  have em : m = m / 18446744073709551616 * 18446744073709551616 + m % 18446744073709551616 := by omega
  have en : n = n / 18446744073709551616 * 18446744073709551616 + n % 18446744073709551616 := by omega
  unfold wdV
  generalize m / 18446744073709551616 = a at *
  generalize m % 18446744073709551616 = b at *
  generalize n / 18446744073709551616 = c at *
  generalize n % 18446744073709551616 = d at *
  have e1 : IntKind.i64.wrap (a + c) = a + c := by rw [IntKind.wrap_i64]; omega
  have e2 : IntKind.i64.wrap (a + c + 1) = a + c + 1 := by rw [IntKind.wrap_i64]; omega
  have hb := fun o p q r => ((((Below.refl w.heap.size w).alloc (Nat.le_refl _) o).alloc (by simp) p).alloc (by simp; omega) q).alloc (by simp; omega) r
  have h4 := heap_alloc4_c w
  by_cases ho : b + d < 18446744073709551616
  · have hu : IntKind.u64.wrap (b + d) = b + d := by rw [IntKind.wrap_u64]; omega
    have g : decide (b + d < b) = false := decide_eq_false (by omega)
    have HV := Lib.hid (hV.symm.trans (wdV_of (n := m + n) (h := a + c) (l := b + d) (by omega) ho (by omega)))
    clear hV em en ho dm dn hm' hn' hm hn e2
    go_enter Tryz.func134, Tryz.ntmps134
    go_wp2
    refine bodyPost_ret (results_cell_row rfl _ _ _ 175 _ (0, 0) _ rfl (h4 _ _ _ _) Tryz.underlying175 rfl (by kernel_rfl)) rfl ⟨by rw [HV.out], hb _ _ _ _⟩
  · have hu : IntKind.u64.wrap (b + d) = b + d - 18446744073709551616 := by rw [IntKind.wrap_u64]; omega
    have g : decide (b + d - 18446744073709551616 < b) = true := decide_eq_true (by omega)
    have HV := Lib.hid (hV.symm.trans (wdV_of (n := m + n) (h := a + c + 1) (l := b + d - 18446744073709551616) (by omega) (by omega) (by omega)))
    clear hV em en ho dm dn hm' hn' hm hn
    go_enter Tryz.func134, Tryz.ntmps134
    go_wp2
    refine bodyPost_ret (results_cell_row rfl _ _ _ 175 _ (0, 0) _ rfl (h4 _ _ _ _) Tryz.underlying175 rfl (by kernel_rfl)) rfl ⟨by rw [HV.out], hb _ _ _ _⟩
set_option maxRecDepth 100000 in
set_option maxHeartbeats 4000000 in
theorem minus_c (m : Int) (w : World) (hm : RW m) : Calls Tryz.prog 136 #[wdV m] w fun e w' => e = .returned (wdV (-m)) ∧ Below w.heap.size w w' := by
  have hm' := hm.hi
  have hV : ∃ V, wdV (-m) = V := ⟨_, rfl⟩
  obtain ⟨V, hV⟩ := hV
  rw [hV]
  have dm : 0 ≤ m % 18446744073709551616 ∧ m % 18446744073709551616 < 18446744073709551616 := by omega
  have em : m = m / 18446744073709551616 * 18446744073709551616 + m % 18446744073709551616 := by omega
  unfold wdV
  generalize m / 18446744073709551616 = a at *
  generalize m % 18446744073709551616 = b at *
  have e1 : IntKind.i64.wrap (-a) = -a := by rw [IntKind.wrap_i64]; omega
  have e2 : IntKind.i64.wrap (-a - 1) = -a - 1 := by rw [IntKind.wrap_i64]; omega
  have hb := fun o p q => (((Below.refl w.heap.size w).alloc (Nat.le_refl _) o).alloc (by simp) p).alloc (by simp; omega) q
  have h4 := heap_alloc3_b w
  by_cases ho : b = 0
  · have hu : IntKind.u64.wrap (-b) = 0 := by rw [IntKind.wrap_u64]; omega
    have g : (b != 0) = false := by rw [ho]; rfl
    have HV := Lib.hid (hV.symm.trans (wdV_of (n := -m) (h := -a) (l := 0) (by omega) (by omega) (by omega)))
    clear hV em ho dm hm' hm e2
    go_enter Tryz.func136, Tryz.ntmps136
    go_wp2
    refine bodyPost_ret (results_cell_row rfl _ _ _ 175 _ (0, 0) _ rfl (h4 _ _ _) Tryz.underlying175 rfl (by kernel_rfl)) rfl ⟨by rw [HV.out], hb _ _ _⟩
  · have hu : IntKind.u64.wrap (-b) = 18446744073709551616 - b := by rw [IntKind.wrap_u64]; omega
    have g : (b != 0) = true := by simpa using ho
    have HV := Lib.hid (hV.symm.trans (wdV_of (n := -m) (h := -a - 1) (l := 18446744073709551616 - b) (by omega) (by omega) (by omega)))
    clear hV em ho dm hm' hm
    go_enter Tryz.func136, Tryz.ntmps136
    go_wp2
    refine bodyPost_ret (results_cell_row rfl _ _ _ 175 _ (0, 0) _ rfl (h4 _ _ _) Tryz.underlying175 rfl (by kernel_rfl)) rfl ⟨by rw [HV.out], hb _ _ _⟩
theorem neq_wd (a b c d : Int) (w : World) : (binOp .neq 175 (.agg #[i64 a, .int .u64 b]) (.agg #[i64 c, .int .u64 d])).run Tryz.prog w = .ok (.bool (!(decide (a = c) && decide (b = d)))) w := by
  have u3 := Tryz.underlying2
  have a3 := Tryz.isAgg2
  have z3 := Tryz.sizeOf2
  have u4 := Tryz.underlying173
  have a4 := Tryz.isAgg173
  have z4 := Tryz.sizeOf173
  have hS : Tryz.prog.underlying 175 = some (.struct (Tryz.prog.fieldsOf 175)) := by kernel_rfl
  have hp : Tryz.prog.stoodInHeld 175 = false := by kernel_rfl
  rw [run_neq_struct, show (10000 : Nat) = 9999 + 1 from rfl, run_equalIn_agg w 9999 175 _ _ hS hp]
  simp only [Program.fieldsOf, Tryz.underlying175]
  go_simp
  by_cases h1 : a = c <;> by_cases h2 : b = d <;> simp [h1, h2]
set_option maxRecDepth 100000 in
set_option maxHeartbeats 4000000 in
theorem rsum_c (n : Int) (w : World) : Calls Tryz.prog 133 #[wdV n] w fun e w' => e = .returned (.tuple #[i64 (sumR n).1, i64 (sumR n).2]) ∧ Below w.heap.size w w' := by
  have en : n = n / 18446744073709551616 * 18446744073709551616 + n % 18446744073709551616 := by omega
  obtain ⟨lo, hlo⟩ : ∃ lo, IntKind.i64.wrap (n % 18446744073709551616) = lo := ⟨_, rfl⟩
  have hl : lo = if n % 18446744073709551616 < 9223372036854775808 then n % 18446744073709551616 else n % 18446744073709551616 - 18446744073709551616 := by
    rw [← hlo, IntKind.wrap_i64]
    split <;> omega
  have h64 : R64 lo := by rw [← hlo]; exact wrap_R64 _
  have ho : sumR n = if (!(decide (n / 18446744073709551616 = lo / 18446744073709551616) && decide (n % 18446744073709551616 = lo % 18446744073709551616))) = true then (0, 2) else (lo, 0) := by
    unfold sumR overB
    by_cases h1 : -9223372036854775808 ≤ n ∧ n ≤ 9223372036854775807
    · rw [decide_eq_true h1.1, decide_eq_true h1.2]
      have : n = lo := by split at hl <;> omega
      subst this
      simp
    · rw [if_pos (by rw [Bool.not_eq_true', Bool.and_eq_false_iff, decide_eq_false_iff_not, decide_eq_false_iff_not]; omega), if_pos]
      rw [Bool.not_eq_true', Bool.and_eq_false_iff, decide_eq_false_iff_not, decide_eq_false_iff_not]
      unfold R64 at h64
      split at hl <;> omega
  have HO := Lib.hid ho
  have hC := Lib.hid fun W => of_c lo W h64
  have hN := fun W => neq_wd (n / 18446744073709551616) (n % 18446744073709551616) (lo / 18446744073709551616) (lo % 18446744073709551616) W
  unfold wdV at hC ⊢
  generalize (!(decide (n / 18446744073709551616 = lo / 18446744073709551616) && decide (n % 18446744073709551616 = lo % 18446744073709551616))) = t at *
  generalize sumR n = R at *
  generalize n / 18446744073709551616 = a at *
  generalize n % 18446744073709551616 = b at *
  generalize lo / 18446744073709551616 = c at *
  generalize lo % 18446744073709551616 = d at *
  clear en hl h64 ho
  have hb := (Below.refl w.heap.size w).alloc (Nat.le_refl _) (.cells #[i64 a, .int .u64 b] 175)
  have hg := heap_alloc_new w (.cells #[i64 a, .int .u64 b] 175)
  have k0 := cell_of_row _ w.heap.size 0 _ _ (0, 0) hg
  have k1 := cell_of_row _ w.heap.size 1 _ _ (0, 0) hg
  simp only [List.getElem?_toArray, List.getElem?_cons_zero, List.getElem?_cons_succ] at k0 k1
  have hz : w.heap.size < (w.alloc (.cells #[i64 a, .int .u64 b] 175)).heap.size := by simp
  go_enter Tryz.func133, Tryz.ntmps133
  go_wp2_with fail
  generalize w.alloc (.cells #[i64 a, .int .u64 b] 175) = w0 at *
  have hS : ∀ W, Below w0.heap.size w0 W → Below w0.heap.size w0 W ∧ W.cell? ⟨w.heap.size, 0, none⟩ = some (i64 a) ∧ W.cell? ⟨w.heap.size, 1, none⟩ = some (.int .u64 b) := fun W h => ⟨h, (h.cell (p := ⟨w.heap.size, 0, none⟩) hz).trans k0, (h.cell (p := ⟨w.heap.size, 1, none⟩) hz).trans k1⟩
  have h0 := (Below.refl w0.heap.size w0).drew
  clear k0 k1 hg
  go_region_held3 (fun W => Below w0.heap.size w0 W ∧ W.cell? ⟨w.heap.size, 0, none⟩ = some (i64 a) ∧ W.cell? ⟨w.heap.size, 1, none⟩ = some (.int .u64 b)) (first | exact hS _ h0 | (go_split_ands; exact hS _ (below_on (by assumption) (Nat.le_refl _) hbX)))
    (first | (go_at_call 135; with_reducible refine (hC.out _).mono ?_; rintro e w' ⟨rfl, hbX⟩))
  rename_i hh
  have hb2 := below_on hb (Nat.le_refl _) hh.1
  have c1 := hh.2.2
  clear hh hS h0 hb hz
  cases t with
  | true =>
    have HR := Lib.hid (show R = (0, 2) by rw [HO.out]; rfl)
    clear HO
    go_wp2
    go_ret2
    exact ⟨by rw [HR.out]; rfl, hb2⟩
  | false =>
    have HR := Lib.hid (show R = (lo, 0) by rw [HO.out]; rfl)
    clear HO
    go_wp2
    go_ret2
    exact ⟨by rw [HR.out]; rfl, hb2⟩
set_option maxRecDepth 100000 in
set_option maxHeartbeats 4000000 in
theorem rless_c (a b : Int) (w : World) (ha : R64 a) (hb : R64 b) : Calls Tryz.prog 94 #[i64 a, i64 b] w fun e w' => e = .returned (.tuple #[i64 (sumR (a - b)).1, i64 (sumR (a - b)).2]) ∧ Below w.heap.size w w' := by
  have k1 := Lib.hid fun W => of_c a W ha
  have k2 := Lib.hid fun W => of_c b W hb
  have k3 := Lib.hid fun W => minus_c b W (.of64 hb)
  have k4 := Lib.hid fun W => plus_c a (-b) W (.of64 ha) (by unfold R64 at hb; unfold RW; omega)
  have k5 := Lib.hid fun W => rsum_c (a + -b) W
  rw [show a + -b = a - b by omega] at k4 k5
  generalize wdV a = A at *
  generalize wdV b = B at *
  generalize wdV (-b) = C at *
  generalize wdV (a - b) = D at *
  generalize sumR (a - b) = R at *
  clear ha hb
  go_enter Tryz.func94, Tryz.ntmps94
  go_wp2_with fail
  refine (k1.out _).mono ?_
  rintro e w1 ⟨rfl, h1⟩
  go_wp2_with fail
  refine (k2.out _).mono ?_
  rintro e w2 ⟨rfl, h2⟩
  have h2 := below_on h1 (Nat.le_refl _) h2
  go_wp2_with fail
  refine (k3.out _).mono ?_
  rintro e w3 ⟨rfl, h3⟩
  have h3 := below_on h2 (Nat.le_refl _) h3
  go_wp2_with fail
  refine (k4.out _).mono ?_
  rintro e w4 ⟨rfl, h4⟩
  have h4 := below_on h3 (Nat.le_refl _) h4
  go_wp2_with fail
  refine (k5.out _).mono ?_
  rintro e w5 ⟨rfl, h5⟩
  have h5 := below_on h4 (Nat.le_refl _) h5
  go_wp2
  go_ret2
  exact ⟨rfl, h5⟩
end Go.Proofs.YtmljlkjomjflpaaGreat
