/- Texts of this claim, laid together: Keys, More, Chart. -/
import Derived.Test.YtmljlkjomjflpaaGreatRows
import Derived.Test.YtmljlkjomjflpaaGreatHp2
import Derived.WalkKit
import Derived.WalkSpells
import Derived.WalkLawsBesides
import Derived.Deep.QuietTactic
import Derived.BigQuiet
import Derived.Laws.StructEq
import Derived.Deep.DeepFit
import Derived.StillTailTactics
import Derived.Laws.ResultCell

/- Keys of maps: texts, integers, Ids -/
namespace Go.Proofs.YtmljlkjomjflpaaGreat
open Go.RowKit
section
variable {P : Program} {κ : Type} [DecidableEq κ] {enc : κ → Value}
theorem findNow_fit (d : TypeDesc) (hs : ∀ a b, Instr.sameNow d (enc a) (enc b) = some (decide (b = a))) (k : κ) : ∀ (es : List MapEntry) (M : List (κ × Value)) (i : Nat), es.map (fun e => (e.key, e.val)) = M.map (fun p => (enc p.1, p.2)) →
    Instr.findNow d (enc k) es i = some ((M.findIdx? fun p => decide (p.1 = k)).map fun j => (i + j, ((M[j]?).map (·.2)).getD undef))
  | [], [], i, _ => rfl
  | [], _ :: _, _, h => by simp at h
  | _ :: _, [], _, h => by simp at h
  | e :: es, p :: M, i, h => by
    simp only [List.map_cons, List.cons.injEq, Prod.mk.injEq] at h
    obtain ⟨⟨h1, h2⟩, h3⟩ := h
    rw [Instr.findNow, h1, hs, List.findIdx?_cons]
    by_cases hp : p.1 = k
    · simp [hp, h2]
    · have hd : decide (p.1 = k) = false := decide_eq_false hp
      rw [hd]
      simp only [Bool.false_eq_true, if_false]
      rw [findNow_fit d hs k es M (i + 1) h3]
      cases M.findIdx? fun p => decide (p.1 = k) with
      | none => rfl
      | some j => simp; omega
theorem findAsking_fit (K : TypeId) (heq : ∀ a b w, (Op.equal K (enc a) (enc b)).run P w = .ok (decide (a = b)) w) (k : κ) : ∀ (es : List MapEntry) (M : List (κ × Value)) (i : Nat) (w : World), es.map (fun e => (e.key, e.val)) = M.map (fun p => (enc p.1, p.2)) →
    (Instr.findAsking K (enc k) es i).run P w = .ok ((M.findIdx? fun p => decide (p.1 = k)).map fun j => (i + j, ((M[j]?).map (·.2)).getD undef)) w
  | [], [], i, w, _ => rfl
  | [], _ :: _, _, _, h => by simp at h
  | _ :: _, [], _, _, h => by simp at h
  | e :: es, p :: M, i, w, h => by
    simp only [List.map_cons, List.cons.injEq, Prod.mk.injEq] at h
    obtain ⟨⟨h1, h2⟩, h3⟩ := h
    rw [Instr.findAsking, h1, List.findIdx?_cons]
    by_cases hp : p.1 = k
    · simp [heq, hp, h2]
    · have hd : decide (p.1 = k) = false := decide_eq_false hp
      have hd' : decide (k = p.1) = false := decide_eq_false fun e => hp e.symm
      rw [hd]
      simp only [Sem.run_bind, heq, Result.andThen_ok, hd', Bool.false_eq_true, if_false]
      rw [findAsking_fit K heq k es M (i + 1) w h3]
      cases M.findIdx? fun p => decide (p.1 = k) with
      | none => rfl
      | some j => simp; omega
theorem fit_now {K : TypeId} {d : TypeDesc} (hd : P.underlying K = some d) (hs : ∀ a b, Instr.sameNow d (enc a) (enc b) = some (decide (b = a))) (hc : ∀ (empty : Bool) (k : κ) (w : World), (Instr.checkKey empty 10000 K (enc k)).run P w = .ok () w) (hb : ∀ k, Instr.sameBits 10000 (enc k) (enc k) = true) : KeyFit P K enc where
  check := hc
  bits := hb
  find k es M w h := by
    have := findNow_fit d hs k es M 0 h
    simp only [Nat.zero_add] at this
    simp [Instr.findKey, run_underlying hd, this]
theorem fit_asking {K : TypeId} {d : TypeDesc} (hd : P.underlying K = some d) (hs : ∀ a b, Instr.sameNow d (enc a) (enc b) = none) (heq : ∀ a b w, (Op.equal K (enc a) (enc b)).run P w = .ok (decide (a = b)) w) (hc : ∀ (empty : Bool) (k : κ) (w : World), (Instr.checkKey empty 10000 K (enc k)).run P w = .ok () w) (hb : ∀ k, Instr.sameBits 10000 (enc k) (enc k) = true) : KeyFit P K enc where
  check := hc
  bits := hb
  find k es M w h := by
    have h1 := findAsking_fit (P := P) K heq k es M 0 w h
    simp only [Nat.zero_add] at h1
    cases es with
    | nil =>
      cases M with
      | nil => simp [Instr.findKey, run_underlying hd, Instr.findNow]
      | cons p M => simp at h
    | cons e es =>
      cases M with
      | nil => simp at h
      | cons p M =>
        have h0 : e.key = enc p.1 := by
          simp only [List.map_cons, List.cons.injEq, Prod.mk.injEq] at h
          exact h.1.1
        have h2 : Instr.findNow d (enc k) (e :: es) 0 = none := by rw [Instr.findNow, h0, hs]
        simp only [Instr.findKey, Sem.run_bind, run_underlying hd, Result.andThen_ok, h2]
        exact h1
end
theorem check_str (empty : Bool) (n : Nat) (s : ByteArray) (w : World) : (Instr.checkKey empty (n + 1) 9 (.string s)).run Tryz.prog w = .ok () w := by
  simp [Instr.checkKey, run_underlying Tryz.underlying9]
theorem check_int (empty : Bool) (n : Nat) (k : Int) (w : World) : (Instr.checkKey empty (n + 1) 3 (i64 k)).run Tryz.prog w = .ok () w := by
  simp [Instr.checkKey, run_underlying Tryz.underlying3]
theorem beqS_self (s : ByteArray) : (s == s) = true := by rw [beq_toListBytes]; simp
theorem strKey : KeyFit Tryz.prog 9 Value.string :=
  fit_now Tryz.underlying9 (fun a b => by
      simp only [Instr.sameNow, Option.some.injEq]
      by_cases h : a = b
      · subst h; rw [beqS_self]; simp
      · rw [decide_eq_false (fun e => h e.symm)]
        have := beqS_of_ne h
        rw [beq_toListBytes]; exact this)
    (fun empty k w => check_str empty 9999 k w) (fun k => by simp only [Instr.sameBits]; exact beqS_self k)
theorem intKey : KeyFit Tryz.prog 3 i64 :=
  fit_now Tryz.underlying3 (fun a b => by
      simp only [Instr.sameNow, Option.some.injEq, if_true]
      by_cases h : a = b
      · subst h; simp
      · rw [decide_eq_false (fun e => h e.symm)]; simpa using h)
    (fun empty k w => check_int empty 9999 k w) (fun k => by simp [Instr.sameBits])
end Go.Proofs.YtmljlkjomjflpaaGreat

/- Small things -/
namespace Go.Proofs.YtmljlkjomjflpaaGreat
open Go.RowKit
theorem below_on {n : Nat} {a b c : World} (h : Below n a b) (hn : n ≤ a.heap.size) (k : Below b.heap.size b c) : Below n a c := h.trans (k.mono (Nat.le_trans hn h.size))
theorem Own.sl_of {α : Type} [Enc α] {w : World} {base : Nat} {e : TypeId} {A : Option Addr} {n c : Nat} {l : List α} (h : Own w base e (.slice A n c) l) : Sl w w.heap.size A c l := by
  obtain ⟨A', c', hv, hs⟩ := h.sl
  injection hv with h1 h2 h3
  subst h1 h3
  exact hs
theorem results_cell_row_tmp {P : Program} {fn : Func} {p u : Tmp} {ty : TypeId} (h : fn.results = #[.cell p ty, .tmp u]) (tmps : Array Value) (w : World) (g : Nat) (t : TypeId) (cs : Array Value) (fr : Nat × Nat) (d : TypeDesc)
    (hp : tmps.getD p undef = .pointer (some ⟨g, 0, none⟩)) (hg : w.heap[g]? = some (.cells cs t fr))
    (hu : P.underlying ty = some d) (hd : (match d with | .struct _ | .array _ _ => true | _ => false) = true) (hi : (P.info? ty).map (·.size) = some cs.size) :
    (results fn tmps).run P w = .ok (.tuple #[.agg cs, tmps.getD u undef]) w := by
  rw [results_cell_tmp h, hp]
  simp [asAddr, run_loadVar_row w g t ty cs fr d hg hu hd hi, Result.andThen]
end Go.Proofs.YtmljlkjomjflpaaGreat

/- chart: New, Get, free -/
namespace Go.Proofs.YtmljlkjomjflpaaGreat
open Go.RowKit
/-- api.Acct -/
structure Ac where
  name : ByteArray
  hav : Int
  set_ : Int
  lim : Int
abbrev Ac.v (a : Ac) : Value := .agg #[.string a.name, i64 a.hav, i64 a.set_, i64 a.lim]
/-- its numbers are of 64 bits -/
def InA (a : Ac) : Prop := R64 a.hav ∧ R64 a.set_ ∧ 0 ≤ a.lim ∧ a.lim ≤ 9223372036854775807
def mv (M : List (ByteArray × Ac)) : List (ByteArray × Value) := M.map fun p => (p.1, p.2.v)
theorem getM_mv (M : List (ByteArray × Ac)) (k : ByteArray) : getM (mv M) k = (getM M k).map Ac.v := by
  unfold getM mv
  induction M with
  | nil => rfl
  | cons p r ih =>
    rw [List.map_cons]
    by_cases h : p.1 = k
    · rw [List.find?_cons_of_pos (by simpa using h), List.find?_cons_of_pos (by simpa using h)]
      rfl
    · rw [List.find?_cons_of_neg (by simpa using h), List.find?_cons_of_neg (by simpa using h)]
      exact ih
theorem putM_mv (M : List (ByteArray × Ac)) (k : ByteArray) (a : Ac) : putM (mv M) k a.v = mv (putM M k a) := by
  unfold putM mv
  rw [List.any_map]
  by_cases h : (M.any fun p => decide (p.1 = k)) = true
  · rw [if_pos h, if_pos (by simpa [Function.comp_def] using h), List.map_map, List.map_map]
    refine List.map_congr_left fun p _ => ?_
    simp only [Function.comp_def]
    split <;> rfl
  · rw [if_neg h, if_neg (by simpa [Function.comp_def] using h), List.map_append]
    rfl
/-- block g holds a chart, whose map lies in block b -/
structure ChIs (w : World) (g b : Nat) (M : List (ByteArray × Ac)) : Prop where
  ne : b ≠ g
  cell : w.heap[g]? = some (.cells #[.map (some b)] 122 (0, 0))
  map : MapIs Value.string w b (mv M)
theorem ChIs.kept {w w' : World} {g b : Nat} {M : List (ByteArray × Ac)} {row : Option Nat} (h : ChIs w g b M) (hk : w.grownBy w' row) (h1 : some g ≠ row) (h2 : some b ≠ row) : ChIs w' g b M :=
  ⟨h.ne, (hk.block g (Array.getElem?_eq_some_iff.1 h.cell).1 h1).trans h.cell, h.map.kept hk h2⟩
theorem ChIs.later {w w' : World} {g b : Nat} {M : List (ByteArray × Ac)} (h : ChIs w g b M) (hb : Below w.heap.size w w') : ChIs w' g b M := h.kept (grown_of_below hb none) (by simp) (by simp)
theorem ChIs.lt {w : World} {g b : Nat} {M : List (ByteArray × Ac)} (h : ChIs w g b M) : g < w.heap.size ∧ b < w.heap.size := ⟨(Array.getElem?_eq_some_iff.1 h.cell).1, h.map.lt⟩
set_option maxRecDepth 100000 in
set_option maxHeartbeats 2000000 in
theorem chnew_c (w : World) : Calls Tryz.prog 51 #[] w fun e w' => e = .returned (.pointer (some ⟨w.heap.size + 1, 0, none⟩)) ∧ ChIs w' (w.heap.size + 1) w.heap.size [] ∧ Below w.heap.size w w' := by
  have hmm := @run_makeMap Tryz.prog
  go_enter Tryz.func51, Tryz.ntmps51
  go_wp2
  go_ret
  have hB := ((Below.refl w.heap.size w).alloc (Nat.le_refl _) (.map #[] 0)).alloc (by simp) (.cells #[.map (some w.heap.size)] 122)
  exact ⟨rfl, ⟨by omega, heap_alloc2_new w _ _, (MapIs.made (enc := Value.string) w).later ((Below.refl _ _).alloc (Nat.le_refl _) _)⟩, hB⟩
def ac0 : Ac := ⟨⟨#[]⟩, 0, 0, 0⟩
/-- chart.Get -/
def getC (M : List (ByteArray × Ac)) (k : ByteArray) : Ac × Int := match getM M k with
  | some a => (a, 0)
  | none => (ac0, 6)
set_option maxRecDepth 100000 in
set_option maxHeartbeats 4000000 in
theorem get_c (g b : Nat) (M : List (ByteArray × Ac)) (k : ByteArray) (w : World) (h : ChIs w g b M) :
    Calls Tryz.prog 50 #[.pointer (some ⟨g, 0, none⟩), .string k] w fun e w' => e = .returned (.tuple #[(getC M k).1.v, i64 (getC M k).2]) ∧ Below w.heap.size w w' := by
  have hb0 := (Below.refl w.heap.size w).alloc (Nat.le_refl _) (.cells #[.string ⟨#[]⟩, i64 0, i64 0, i64 0] 70)
  have h1 := h.later hb0
  have hres := heap_alloc_new w (.cells #[.string ⟨#[]⟩, i64 0, i64 0, i64 0] 70)
  have c0 := cell_of_row _ g 0 _ _ (0, 0) h1.cell
  simp only [List.getElem?_toArray, List.getElem?_cons_zero] at c0
  have hlk := run_lookup (P := Tryz.prog) strKey Tryz.underlying120 h1.map k (ac0.v) (by kernel_rfl) true
  rw [getM_mv] at hlk
  have hb1 := fun o => hb0.alloc (by simp) o
  cases hm : getM M k with
  | none =>
    rw [hm] at hlk
    have HC := Lib.hid (show getC M k = (ac0, 6) by unfold getC; rw [hm])
    clear hm
    unfold ac0 at hlk
    go_enter Tryz.func50, Tryz.ntmps50
    go_wp2
    refine bodyPost_ret (results_cell_row_tmp rfl _ _ w.heap.size 70 _ (0, 0) _ rfl (heap_alloc2_old w _ _) Tryz.underlying70 rfl (by kernel_rfl)) rfl ?_
    exact ⟨by rw [HC.out]; rfl, hb1 _⟩
  | some a =>
    rw [hm] at hlk
    have HC := Lib.hid (show getC M k = (a, 0) by unfold getC; rw [hm])
    clear hm
    unfold ac0 at hlk
    go_enter Tryz.func50, Tryz.ntmps50
    go_wp2
    refine bodyPost_ret (results_cell_row_tmp rfl _ _ w.heap.size 70 _ (0, 0) _ rfl (heap_alloc2_old w _ _) Tryz.underlying70 rfl (by kernel_rfl)) rfl ?_
    exact ⟨by rw [HC.out]; rfl, ((Below.refl _ _).alloc (Nat.le_refl _) _).alloc (by simp) _⟩
/-- chart.free -/
def freeA (a : Ac) (x : Int) : Bool := decide ((sumR (a.hav - a.set_)).2 = 0) && (decide ((sumR ((sumR (a.hav - a.set_)).1 - x)).2 = 0) && decide (-a.lim ≤ (sumR ((sumR (a.hav - a.set_)).1 - x)).1))
set_option maxRecDepth 100000 in
set_option maxHeartbeats 4000000 in
theorem free_c (a : Ac) (x : Int) (w : World) (ha : InA a) (hx : R64 x) :
    Calls Tryz.prog 132 #[a.v, i64 x] w fun e w' => e = .returned (.bool (freeA a x)) ∧ Below w.heap.size w w' := by
  have hb0 := (Below.refl w.heap.size w).alloc (Nat.le_refl _) (.cells #[.string a.name, i64 a.hav, i64 a.set_, i64 a.lim] 70)
  have hg := heap_alloc_new w (.cells #[.string a.name, i64 a.hav, i64 a.set_, i64 a.lim] 70)
  have k1 := cell_of_row _ w.heap.size 1 _ _ (0, 0) hg
  have k2 := cell_of_row _ w.heap.size 2 _ _ (0, 0) hg
  have k3 := cell_of_row _ w.heap.size 3 _ _ (0, 0) hg
  simp only [List.getElem?_toArray, List.getElem?_cons_zero, List.getElem?_cons_succ] at k1 k2 k3
  have hz : w.heap.size < (w.alloc (.cells #[.string a.name, i64 a.hav, i64 a.set_, i64 a.lim] 70)).heap.size := by simp
  obtain ⟨h1, h2, h3, h4⟩ := ha
  have L1 := Lib.hid fun W => less_c a.hav a.set_ W h1 h2
  have L2 := Lib.hid fun W => less_c (sumR (a.hav - a.set_)).1 x W (sumR_R64 _) hx
  have hw : IntKind.i64.wrap (-a.lim) = -a.lim := by rw [IntKind.wrap_i64]; omega
  have HD := Lib.hid (show freeA a x = (decide ((sumR (a.hav - a.set_)).2 = 0) && (decide ((sumR ((sumR (a.hav - a.set_)).1 - x)).2 = 0) && decide (-a.lim ≤ (sumR ((sumR (a.hav - a.set_)).1 - x)).1))) from rfl)
  generalize freeA a x = F at *
  generalize sumR (a.hav - a.set_) = r1 at *
  generalize sumR (r1.1 - x) = r2 at *
  clear hg h1 h2
  go_enter Tryz.func132, Tryz.ntmps132
  go_wp2_with fail
  generalize w.alloc (.cells #[.string a.name, i64 a.hav, i64 a.set_, i64 a.lim] 70) = w0 at *
  refine (L1.out _).mono ?_
  rintro e w1 ⟨rfl, hF⟩
  have k3 := (hF.cell (p := ⟨w.heap.size, 3, none⟩) hz).trans k3
  have hb1 := below_on hb0 (Nat.le_refl _) hF
  have hz := Nat.lt_of_lt_of_le hz hF.size
  clear hF L1 k1 k2
  by_cases e1 : r1.2 = 0
  · have g1 : (r1.2 != 0) = false := by rw [e1]; rfl
    have E1 := Lib.hid (decide_eq_true e1)
    clear e1
    go_wp2_with fail
    refine (L2.out _).mono ?_
    rintro e w2 ⟨rfl, hF⟩
    have k3 := (hF.cell (p := ⟨w.heap.size, 3, none⟩) hz).trans k3
    have hb2 := below_on hb1 (Nat.le_refl _) hF
    clear hF L2
    by_cases e2 : r2.2 = 0
    · have g2 : (r2.2 == 0) = true := by rw [e2]; rfl
      have E2 := Lib.hid (decide_eq_true e2)
      clear e2
      by_cases e3 : -a.lim ≤ r2.1
      · have g3 : decide (-a.lim ≤ r2.1) = true := decide_eq_true e3
        have HF := Lib.hid (show F = true by rw [HD.out, E1.out, E2.out, g3]; rfl)
        clear e3
        go_wp2
        go_ret
        exact ⟨by rw [HF.out]; rfl, hb2⟩
      · have g3 : decide (-a.lim ≤ r2.1) = false := decide_eq_false e3
        have HF := Lib.hid (show F = false by rw [HD.out, E1.out, E2.out, g3]; rfl)
        clear e3
        go_wp2
        go_ret
        exact ⟨by rw [HF.out]; rfl, hb2⟩
    · have g2 : (r2.2 == 0) = false := beq_eq_false_iff_ne.2 e2
      have HF := Lib.hid (show F = false by rw [HD.out, E1.out, decide_eq_false e2]; rfl)
      clear e2
      go_wp2
      go_ret
      exact ⟨by rw [HF.out]; rfl, hb2⟩
  · have g1 : (r1.2 != 0) = true := by simpa using e1
    have HF := Lib.hid (show F = false by rw [HD.out, decide_eq_false e1]; rfl)
    clear e1
    go_wp2
    go_ret
    exact ⟨by rw [HF.out]; rfl, hb1⟩
end Go.Proofs.YtmljlkjomjflpaaGreat
