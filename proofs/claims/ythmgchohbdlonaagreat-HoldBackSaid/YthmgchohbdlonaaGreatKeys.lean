/- Keys of maps: texts, integers, Ids -/
import Derived.Test.YthmgchohbdlonaaGreatRows
import Derived.Test.YthmgchohbdlonaaGreatMap
import Derived.WalkKit
import Derived.WalkSpells
import Derived.WalkLawsBesides
import Derived.Deep.QuietTactic
import Derived.BigQuiet
import Derived.Laws.StructEq
import Derived.Deep.DeepFit
import Derived.StillTailTactics
namespace Go.Proofs.YthmgchohbdlonaaGreat
open Go.RowKit
section
variable {P : Program} {κ : Type} [DecidableEq κ] {enc : κ → Value}
theorem findNow_fit (d : TypeDesc) (hs : ∀ a b, Instr.sameNow d (enc a) (enc b) = some (decide (b = a))) (k : κ) : ∀ (es : List MapEntry) (M : List (κ × Value)) (i : Nat), es.map (fun e => (e.key, e.val)) = M.map (fun p => (enc p.1, p.2)) →
    Instr.findNow d (enc k) es i = some ((M.findIdx? fun p => decide (p.1 = k)).map fun j => (i + j, ((M[j]?).map (·.2)).getD undef))
  | [], [], i, _ => rfl
  | [], _ :: _, _, h => by simp at h
  | _ :: _, [], _, h => by simp at h
  | e :: es, p :: M, i, h => by
    simp only [List.map_cons, List.cons.injEq, Prod.mk.injEq] at h
    obtain ⟨⟨h1, h2⟩, h3⟩ := h
    rw [Instr.findNow, h1, hs, List.findIdx?_cons]
    by_cases hp : p.1 = k
    · simp [hp, h2]
    · have hd : decide (p.1 = k) = false := decide_eq_false hp
      rw [hd]
      simp only [Bool.false_eq_true, if_false]
      rw [findNow_fit d hs k es M (i + 1) h3]
      cases M.findIdx? fun p => decide (p.1 = k) with
      | none => rfl
      | some j => simp; omega
theorem findAsking_fit (K : TypeId) (heq : ∀ a b w, (Op.equal K (enc a) (enc b)).run P w = .ok (decide (a = b)) w) (k : κ) : ∀ (es : List MapEntry) (M : List (κ × Value)) (i : Nat) (w : World), es.map (fun e => (e.key, e.val)) = M.map (fun p => (enc p.1, p.2)) →
    (Instr.findAsking K (enc k) es i).run P w = .ok ((M.findIdx? fun p => decide (p.1 = k)).map fun j => (i + j, ((M[j]?).map (·.2)).getD undef)) w
  | [], [], i, w, _ => rfl
  | [], _ :: _, _, _, h => by simp at h
  | _ :: _, [], _, _, h => by simp at h
  | e :: es, p :: M, i, w, h => by
    simp only [List.map_cons, List.cons.injEq, Prod.mk.injEq] at h
    obtain ⟨⟨h1, h2⟩, h3⟩ := h
    rw [Instr.findAsking, h1, List.findIdx?_cons]
    by_cases hp : p.1 = k
    · simp [heq, hp, h2]
    · have hd : decide (p.1 = k) = false := decide_eq_false hp
      have hd' : decide (k = p.1) = false := decide_eq_false fun e => hp e.symm
      rw [hd]
      simp only [Sem.run_bind, heq, Result.andThen_ok, hd', Bool.false_eq_true, if_false]
      rw [findAsking_fit K heq k es M (i + 1) w h3]
      cases M.findIdx? fun p => decide (p.1 = k) with
      | none => rfl
      | some j => simp; omega
theorem fit_now {K : TypeId} {d : TypeDesc} (hd : P.underlying K = some d) (hs : ∀ a b, Instr.sameNow d (enc a) (enc b) = some (decide (b = a))) (hc : ∀ (empty : Bool) (k : κ) (w : World), (Instr.checkKey empty 10000 K (enc k)).run P w = .ok () w) (hb : ∀ k, Instr.sameBits 10000 (enc k) (enc k) = true) : KeyFit P K enc where
  check := hc
  bits := hb
  find k es M w h := by
    have := findNow_fit d hs k es M 0 h
    simp only [Nat.zero_add] at this
    simp [Instr.findKey, run_underlying hd, this]
theorem fit_asking {K : TypeId} {d : TypeDesc} (hd : P.underlying K = some d) (hs : ∀ a b, Instr.sameNow d (enc a) (enc b) = none) (heq : ∀ a b w, (Op.equal K (enc a) (enc b)).run P w = .ok (decide (a = b)) w) (hc : ∀ (empty : Bool) (k : κ) (w : World), (Instr.checkKey empty 10000 K (enc k)).run P w = .ok () w) (hb : ∀ k, Instr.sameBits 10000 (enc k) (enc k) = true) : KeyFit P K enc where
  check := hc
  bits := hb
  find k es M w h := by
    have h1 := findAsking_fit (P := P) K heq k es M 0 w h
    simp only [Nat.zero_add] at h1
    cases es with
    | nil =>
      cases M with
      | nil => simp [Instr.findKey, run_underlying hd, Instr.findNow]
      | cons p M => simp at h
    | cons e es =>
      cases M with
      | nil => simp at h
      | cons p M =>
        have h0 : e.key = enc p.1 := by
          simp only [List.map_cons, List.cons.injEq, Prod.mk.injEq] at h
          exact h.1.1
        have h2 : Instr.findNow d (enc k) (e :: es) 0 = none := by rw [Instr.findNow, h0, hs]
        simp only [Instr.findKey, Sem.run_bind, run_underlying hd, Result.andThen_ok, h2]
        exact h1
end
theorem check_str (empty : Bool) (n : Nat) (s : ByteArray) (w : World) : (Instr.checkKey empty (n + 1) 9 (.string s)).run Tryz.prog w = .ok () w := by
  simp [Instr.checkKey, run_underlying Tryz.underlying9]
theorem check_int (empty : Bool) (n : Nat) (k : Int) (w : World) : (Instr.checkKey empty (n + 1) 3 (i64 k)).run Tryz.prog w = .ok () w := by
  simp [Instr.checkKey, run_underlying Tryz.underlying3]
theorem beqS_self (s : ByteArray) : (s == s) = true := by rw [beq_toListBytes]; simp
theorem strKey : KeyFit Tryz.prog 9 Value.string :=
  fit_now Tryz.underlying9 (fun a b => by
      simp only [Instr.sameNow, Option.some.injEq]
      by_cases h : a = b
      · subst h; rw [beqS_self]; simp
      · rw [decide_eq_false (fun e => h e.symm)]
        have := beqS_of_ne h
        rw [beq_toListBytes]; exact this)
    (fun empty k w => check_str empty 9999 k w) (fun k => by simp only [Instr.sameBits]; exact beqS_self k)
theorem intKey : KeyFit Tryz.prog 3 i64 :=
  fit_now Tryz.underlying3 (fun a b => by
      simp only [Instr.sameNow, Option.some.injEq, if_true]
      by_cases h : a = b
      · subst h; simp
      · rw [decide_eq_false (fun e => h e.symm)]; simpa using h)
    (fun empty k w => check_int empty 9999 k w) (fun k => by simp [Instr.sameBits])
end Go.Proofs.YthmgchohbdlonaaGreat
