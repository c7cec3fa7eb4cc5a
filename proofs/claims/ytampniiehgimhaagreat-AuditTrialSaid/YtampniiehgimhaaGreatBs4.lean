/- Texts of this claim, laid together. -/
import Derived.Test.YtampniiehgimhaaGreatRows
import Derived.Test.YtampniiehgimhaaGreatBs2
import Derived.WalkKit
import Derived.WalkSpells
import Derived.WalkLawsBesides
import Derived.Deep.QuietTactic
import Derived.BigQuiet
import Derived.Laws.StructEq
import Derived.Deep.DeepFit
import Derived.StillTailTactics
import Derived.Deep.RegionHeld3
import Derived.Test.YtampniiehgimhaaGreatBs3
import Derived.Test.YtampniiehgimhaaGreatBs1
import Derived.Shelf.SlSortCmp.WholeK
import Derived.Shelf.SlSortCmp.NoneTotal
import Derived.Test.YtampniiehgimhaaGreatShelf
import Derived.Shelf.SlMaps.Clone

/- hold: the keys, New, Free -/
namespace Go.Proofs.YtampniiehgimhaaGreat
open Go.RowKit
/-- hold.key -/
structure Hk where
 acct : ByteArray
 num : Int
theorem Hk.ext_ {a b : Hk} (h1 : a.acct = b.acct) (h2 : a.num = b.num) : a = b := by cases a; cases b; simp_all
instance : DecidableEq Hk := fun a b => if h : a.acct = b.acct ∧ a.num = b.num then isTrue (Hk.ext_ h.1 h.2) else isFalse (fun e => h (by rw [e]; exact ⟨rfl, rfl⟩))
abbrev Hk.v (x : Hk) : Value := .agg #[.string x.acct, i64 x.num]
theorem check_hk (empty : Bool) (n : Nat) (k : Hk) (w : World) : (Instr.checkKey empty (n + 2) 227 k.v).run Tryz.prog w = .ok () w := by
 have u3 := Tryz.underlying3
 have a3 := Tryz.isAgg3
 have z3 := Tryz.sizeOf3
 have u9 := Tryz.underlying9
 have a9 := Tryz.isAgg9
 have z9 := Tryz.sizeOf9
 rw [Instr.checkKey]
 simp only [Sem.run_bind, run_underlying Tryz.underlying227, Result.andThen_ok, Hk.v]
 go_simp
 simp [check_int, check_str]
theorem bits_hk (n : Nat) (k : Hk) : Instr.sameBits (n + 1) k.v k.v = true := by
 simp [Instr.sameBits, beqS_self]
theorem hkKey : KeyFit Tryz.prog 227 Hk.v :=
 fit_asking (d := .struct (Tryz.prog.fieldsOf 227)) (by kernel_rfl) (fun a b => rfl) (fun a b w => by
   have u3 := Tryz.underlying3
   have a3 := Tryz.isAgg3
   have z3 := Tryz.sizeOf3
   have u9 := Tryz.underlying9
   have a9 := Tryz.isAgg9
   have z9 := Tryz.sizeOf9
   have hS : Tryz.prog.underlying 227 = some (.struct (Tryz.prog.fieldsOf 227)) := by kernel_rfl
   have hp : Tryz.prog.stoodInHeld 227 = false := by kernel_rfl
   simp only [Op.equal, Op.maxDepth]
   rw [show (10000 : Nat) = 9999 + 1 from rfl, run_equalIn_agg w 9999 227 _ _ hS hp]
   simp only [Program.fieldsOf, Tryz.underlying227]
   go_simp
   by_cases h1 : a.acct = b.acct
   ·by_cases h2 : a.num = b.num
    ·rw [decide_eq_true (Hk.ext_ h1 h2)]; simp [h1, h2]
    ·rw [decide_eq_false (fun e => h2 (by rw [e]))]; simp [h1, h2]
   ·have t1 := beqS_of_ne h1
    have t2 : ¬ a.acct.toList = b.acct.toList := by simpa using t1
    rw [decide_eq_false (fun e => h1 (by rw [e]))]; simp [t2])
  (fun empty k w => check_hk empty 9998 k w) (fun k => bits_hk 9999 k)
def hv (H : List (Hk × Int)) : List (Hk × Value) := H.map fun p => (p.1, i64 p.2)
theorem getM_hv (H : List (Hk × Int)) (k : Hk) : getM (hv H) k = (getM H k).map i64 := by
 unfold getM hv
 induction H with
 | nil => rfl
 | cons p r ih =>
  rw [List.map_cons]
  by_cases h : p.1 = k
  ·rw [List.find?_cons_of_pos (by simpa using h), List.find?_cons_of_pos (by simpa using h)]
   rfl
  ·rw [List.find?_cons_of_neg (by simpa using h), List.find?_cons_of_neg (by simpa using h)]
   exact ih
theorem putM_hv (H : List (Hk × Int)) (k : Hk) (a : Int) : putM (hv H) k (i64 a) = hv (putM H k a) := by
 unfold putM hv
 rw [List.any_map]
 by_cases h : (H.any fun p => decide (p.1 = k)) = true
 ·rw [if_pos h, if_pos (by simpa [Function.comp_def] using h), List.map_map, List.map_map]
  refine List.map_congr_left fun p _ => ?_
  simp only [Function.comp_def]
  split <;> rfl
 ·rw [if_neg h, if_neg (by simpa [Function.comp_def] using h), List.map_append]
  rfl
theorem delM_hv (H : List (Hk × Int)) (k : Hk) : delM (hv H) k = hv (delM H k) := by
 unfold delM hv
 rw [List.filter_map]
 rfl
/-- block g holds holds, whose map lies in block b -/
structure HoIs (w : World) (g b : Nat) (H : List (Hk × Int)) : Prop where
 ne : b ≠ g
 cell : w.heap[g]? = some (.cells #[.map (some b)] 194 (0, 0))
 map : MapIs Hk.v w b (hv H)
theorem HoIs.kept {w w' : World} {g b : Nat} {H : List (Hk × Int)} {row : Option Nat} (h : HoIs w g b H) (hk : w.grownBy w' row) (h1 : some g ≠ row) (h2 : some b ≠ row) : HoIs w' g b H :=
 ⟨h.ne, (hk.block g (Array.getElem?_eq_some_iff.1 h.cell).1 h1).trans h.cell, h.map.kept hk h2⟩
theorem HoIs.later {w w' : World} {g b : Nat} {H : List (Hk × Int)} (h : HoIs w g b H) (hb : Below w.heap.size w w') : HoIs w' g b H := h.kept (grown_of_below hb none) (by simp) (by simp)
theorem HoIs.lt {w : World} {g b : Nat} {H : List (Hk × Int)} (h : HoIs w g b H) : g < w.heap.size ∧ b < w.heap.size := ⟨(Array.getElem?_eq_some_iff.1 h.cell).1, h.map.lt⟩
set_option maxRecDepth 100000 in
set_option maxHeartbeats 2000000 in
theorem honew_c (w : World) : Calls Tryz.prog 58 #[] w fun e w' => e = .returned (.pointer (some ⟨w.heap.size + 1, 0, none⟩)) ∧ HoIs w' (w.heap.size + 1) w.heap.size [] ∧ Below w.heap.size w w' := by
 have hmm := @run_makeMap Tryz.prog
 go_enter Tryz.func58, Tryz.ntmps58
 go_wp2
 go_ret
 have hB := ((Below.refl w.heap.size w).alloc (Nat.le_refl _) (.map #[] 0)).alloc (by simp) (.cells #[.map (some w.heap.size)] 194)
 exact ⟨rfl, ⟨by omega, heap_alloc2_new w _ _, (MapIs.made (enc := Hk.v) w).later ((Below.refl _ _).alloc (Nat.le_refl _) _)⟩, hB⟩
/-- hold.Free: what is told, the accounts, the holds -/
def freeH (M : List (ByteArray × Ac)) (H : List (Hk × Int)) (k : ByteArray) (n : Int) : Int × List (ByteArray × Ac) × List (Hk × Int) := match getM H ⟨k, n⟩ with
 | none => (6, M, H)
 | some s => ((turnC (asiD (-s)) M k (-s)).1, (turnC (asiD (-s)) M k (-s)).2, if (turnC (asiD (-s)) M k (-s)).1 = 0 then delM H ⟨k, n⟩ else H)
/-- nothing of w has turned but blocks b and c -/
structure G2 (w w' : World) (b c : Nat) : Prop where
 os : w'.os = w.os
 tape : w'.tape = w.tape
 output : w'.output = w.output
 size : w.heap.size ≤ w'.heap.size
 block : ∀ k, k < w.heap.size → k ≠ b → k ≠ c → w'.heap[k]? = w.heap[k]?
theorem G2.fst {w w' : World} {b : Nat} (h : w.grownBy w' (some b)) (c : Nat) : G2 w w' b c := ⟨h.os, h.tape, h.output, h.size, fun k hk h1 _ => h.block k hk (fun e => h1 (by injection e))⟩
theorem G2.snd {w w' : World} {c : Nat} (h : w.grownBy w' (some c)) (b : Nat) : G2 w w' b c := ⟨h.os, h.tape, h.output, h.size, fun k hk _ h2 => h.block k hk (fun e => h2 (by injection e))⟩
theorem G2.of_below {w w' : World} (h : Below w.heap.size w w') (b c : Nat) : G2 w w' b c := G2.fst (grown_of_below h (some b)) c
theorem G2.trans {w w' w'' : World} {b c : Nat} (h : G2 w w' b c) (k : G2 w' w'' b c) : G2 w w'' b c := ⟨k.os.trans h.os, k.tape.trans h.tape, k.output.trans h.output, Nat.le_trans h.size k.size, fun n hn h1 h2 => (k.block n (Nat.lt_of_lt_of_le hn h.size) h1 h2).trans (h.block n hn h1 h2)⟩
set_option maxRecDepth 100000 in
set_option maxHeartbeats 8000000 in
theorem hofree_c (g b gh bh : Nat) (M : List (ByteArray × Ac)) (H : List (Hk × Int)) (k : ByteArray) (n : Int) (w : World) (h : ChIs w g b M) (hh : HoIs w gh bh H) (hd : gh ≠ b ∧ bh ≠ b ∧ g ≠ bh) (hM : ∀ y ∈ M, InA y.2) (hH : ∀ y ∈ H, 1 ≤ y.2 ∧ y.2 ≤ 9223372036854775807) :
  Calls Tryz.prog 168 #[.pointer (some ⟨gh, 0, none⟩), .pointer (some ⟨g, 0, none⟩), .string k, i64 n] w fun e w' => e = .returned (i64 (freeH M H k n).1) ∧ ChIs w' g b (freeH M H k n).2.1 ∧ HoIs w' gh bh (freeH M H k n).2.2 ∧ G2 w w' b bh := by
 have hb0 := (Below.refl w.heap.size w).alloc (Nat.le_refl _) (.cells #[.string k, i64 n] 227)
 have hk0 := heap_alloc_new w (.cells #[.string k, i64 n] 227)
 have h1 := h.later hb0
 have hh1 := hh.later hb0
 have hlk := run_lookup (P := Tryz.prog) hkKey Tryz.underlying192 (hh1.later (Below.refl _ _).drew).map ⟨k, n⟩ (i64 0) (by kernel_rfl) true
 rw [getM_hv] at hlk
 obtain ⟨o, ho⟩ : ∃ o, getM H ⟨k, n⟩ = o := ⟨_, rfl⟩
 rw [ho] at hlk
 have c0 := cell_of_row _ gh 0 _ _ (0, 0) hh1.cell
 have c1 := cell_of_row _ w.heap.size 0 _ _ (0, 0) hk0
 have c2 := cell_of_row _ w.heap.size 1 _ _ (0, 0) hk0
 simp only [List.getElem?_toArray, List.getElem?_cons_zero, List.getElem?_cons_succ] at c0 c1 c2
 have hlg := h.lt
 have hlh := hh.lt
 unfold Hk.v at hlk
 go_enter Tryz.func168, Tryz.ntmps168
 go_upto_region 4 with fail
 generalize w.alloc (.cells #[.string k, i64 n] 227) = w0 at *
 go_cut [10, 11] from 13 (fun s10 s11 wx => s10 = i64 (o.getD 0) ∧ s11 = .bool o.isSome ∧ w0.drew = wx)
 case first =>
  go_region_with fail
  all_goals (go_wp2_with fail; go_meet; exact ⟨rfl, by simp, rfl⟩)
 case rest =>
 obtain ⟨rfl, rfl, rfl⟩ := hcut
 have h2 := h1.later (Below.refl _ _).drew
 have hh2 := hh1.later (Below.refl _ _).drew
 have hb2 := hb0.drew
 have hk2 : w0.drew.heap[w.heap.size]? = some (.cells #[.string k, i64 n] 227 (0, 0)) := hk0
 generalize w0.drew = w1 at *
 clear hlk c0 c1 c2 hb0 hk0 h1 hh1 h hh
 cases o with
 | none =>
  have HR := Lib.hid (show freeH M H k n = (6, M, H) by unfold freeH; rw [ho])
  clear ho
  go_wp2
  go_ret
  exact ⟨by rw [HR.out]; rfl, by rw [HR.out]; exact h2, by rw [HR.out]; exact hh2, G2.of_below hb2 _ _⟩
 | some s =>
  have hs : 1 ≤ s ∧ s ≤ 9223372036854775807 := by
   unfold getM at ho
   rw [Option.map_eq_some_iff] at ho
   obtain ⟨p, hp, rfl⟩ := ho
   exact hH p (List.mem_of_find?_eq_some hp)
  have hA := Lib.hid (aside_c g b M k (-s) w1 h2 hM ⟨by omega, by omega⟩)
  have HR := Lib.hid (show freeH M H k n = ((turnC (asiD (-s)) M k (-s)).1, (turnC (asiD (-s)) M k (-s)).2, if (turnC (asiD (-s)) M k (-s)).1 = 0 then delM H ⟨k, n⟩ else H) by unfold freeH; rw [ho])
  generalize turnC (asiD (-s)) M k (-s) = T at *
  have hw : wrap64 (-s) = -s := by rw [← IntWalk.i64_left, IntKind.wrap_i64]; omega
  clear ho hM hH
  go_wp2_with fail
  refine hA.out.mono ?_
  rintro e w2 ⟨rfl, h3, hG⟩
  have hh3 := hh2.kept hG (fun e => by injection e with e; exact hd.1 e) (fun e => by injection e with e; exact hd.2.1 e)
  have hk3 := (hG.block _ (Array.getElem?_eq_some_iff.1 hk2).1 (fun e => by injection e with e; omega)).trans hk2
  have hg2 := (G2.of_below hb2 b bh).trans (G2.fst hG bh)
  clear hA h2 hh2 hk2 hG hb2
  by_cases ht : T.1 = 0
  ·have g1 : (T.1 == 0) = true := by rw [ht]; rfl
   have HR2 := Lib.hid (show freeH M H k n = (T.1, T.2, delM H ⟨k, n⟩) by rw [HR.out, if_pos ht])
   clear ht HR
   have hh4 := hh3.later (Below.refl _ _).drew
   have h4 := h3.later (Below.refl _ _).drew
   obtain ⟨w5, hrun, hm5, hg5⟩ := run_del (P := Tryz.prog) hkKey Tryz.underlying192 hh4.map ⟨k, n⟩ 0 227
   rw [delM_hv] at hm5
   unfold Hk.v at hrun
   have c0 := cell_of_row _ gh 0 _ _ (0, 0) hh3.cell
   have c1 := cell_of_row _ w.heap.size 0 _ _ (0, 0) hk3
   have c2 := cell_of_row _ w.heap.size 1 _ _ (0, 0) hk3
   simp only [List.getElem?_toArray, List.getElem?_cons_zero, List.getElem?_cons_succ] at c0 c1 c2
   have HM := Lib.hid hm5
   have HG := Lib.hid hg5
   clear hm5 hg5
   go_wp2_with fail
   go_region_with fail
   all_goals (
    go_wp2
    go_ret
    exact ⟨by rw [HR2.out]; rfl, by rw [HR2.out]; exact h4.kept HG.out (fun e => by injection e with e; exact hd.2.2 e) (fun e => by injection e with e; exact hd.2.1 e.symm), by rw [HR2.out]; exact ⟨hh4.ne, (HG.out.block gh hh4.lt.1 (fun e => hh4.ne (by injection e with e; exact e.symm))).trans hh4.cell, HM.out⟩, (hg2.trans (G2.of_below (Below.refl _ _).drew _ _)).trans (G2.snd HG.out b)⟩)
  ·have g1 : (T.1 == 0) = false := beq_eq_false_iff_ne.2 ht
   have HR2 := Lib.hid (show freeH M H k n = (T.1, T.2, H) by rw [HR.out, if_neg ht])
   clear ht HR
   go_wp2
   go_ret
   exact ⟨by rw [HR2.out]; rfl, by rw [HR2.out]; exact h3, by rw [HR2.out]; exact hh3, hg2⟩
end Go.Proofs.YtampniiehgimhaaGreat
/- A region that draws its order, its last operation one that waits for all others: S need not hold behind that one. No program. -/
namespace Go.Proofs.YtampniiehgimhaaGreat
open Go.RowKit
section
variable {P : Program} {ops : Array Oper} {Q : Exit → Act → World → Prop} {md : Region.Mode} {S : World → Prop} {d : Nat}
def wpAnyL (P : Program) (md : Region.Mode) (ops : Array Oper) (Q : Exit → Act → World → Prop) (S : World → Prop) (d : Nat) : Nat → Array Bool → Act → World → Prop
 | 0, listed, a, w => Region.ready md ops listed = [] ∧ Q .normal a w
 | fuel + 1, listed, a, w =>
  (Region.ready md ops listed = [] → Q .normal a w) ∧
  ∀ i ∈ Region.ready md ops listed, wpOp P ops Q i (fun a' w' => (i ≠ d → S w') ∧ wpAnyL P md ops Q S d fuel (listed.setIfInBounds i true) a' w') a w
theorem wpAny_of_l : ∀ (fuel : Nat) (listed : Array Bool) (a : Act) (w : World), wpAnyL P md ops Q S d fuel listed a w → wpAny P md ops Q fuel listed a w
 | 0, _, _, _, h => h
 | fuel + 1, _, _, _, h => ⟨h.1, fun i hi => wpOp_mono (fun a' w' h' => wpAny_of_l fuel _ a' w' h'.2) (h.2 i hi)⟩
/-- which operations wait for operation i, straight or through others -/
def depGo (md : Region.Mode) (i : Nat) : List Oper → Array Bool → Array Bool
 | [], acc => acc
 | o :: r, acc => depGo md i r (acc.push (o.after.any fun e => Region.binds md e && (e.on == i || acc.getD e.on false)))
def waits (md : Region.Mode) (ops : Array Oper) (d i : Nat) : Bool := (depGo md i ops.toList #[]).getD d false
/-- what is listed, all that it waits for is listed -/
def Closed (md : Region.Mode) (ops : Array Oper) (listed : Array Bool) : Prop := ∀ j oj, ops[j]? = some oj → listed.getD j true = true → ∀ e ∈ oj.after, Region.binds md e = true → listed.getD e.on true = true
theorem getD_up {listed : Array Bool} {k : Nat} (h : listed.getD k false = true) : listed.getD k true = true := by
 rw [Array.getD_eq_getD_getElem?] at h ⊢
 cases hk : listed[k]? with
 | none => rfl
 | some v => rw [hk] at h; exact h
def Good (md : Region.Mode) (ops : Array Oper) (listed : Array Bool) (i : Nat) (acc : Array Bool) : Prop := ∀ j, acc.getD j false = true → ∀ oj, ops[j]? = some oj → (∀ e ∈ oj.after, Region.binds md e = true → listed.getD e.on true = true) → listed.getD i true = true
theorem depGo_good {listed : Array Bool} (hc : Closed md ops listed) {i : Nat} : ∀ (r : List Oper) (pre : List Oper) (acc : Array Bool), ops.toList = pre ++ r → acc.size = pre.length → Good md ops listed i acc → Good md ops listed i (depGo md i r acc)
 | [], _, _, _, _, hg => hg
 | o :: r, pre, acc, he, hs, hg => by
  unfold depGo
  refine depGo_good hc r (pre ++ [o]) _ (by rw [he]; simp) (by simp [hs]) fun j hj oj hoj hall => ?_
  rw [Array.getD_eq_getD_getElem?, Array.getElem?_push] at hj
  by_cases hje : j = acc.size
  ·rw [if_pos hje] at hj
   have ho : oj = o := by
    have h1 : ops.toList[j]? = some oj := by rw [Array.getElem?_toList]; exact hoj
    rw [he, hje, hs, List.getElem?_append_right (Nat.le_refl _), Nat.sub_self] at h1
    simpa using h1.symm
   subst ho
   obtain ⟨e, hem, hb⟩ := Array.any_eq_true'.1 (show (oj.after.any fun e => Region.binds md e && (e.on == i || acc.getD e.on false)) = true from hj)
   rw [Bool.and_eq_true, Bool.or_eq_true, beq_iff_eq] at hb
   have hl := hall e hem hb.1
   rcases hb.2 with h1 | h1
   ·rw [← h1]; exact hl
   ·cases ho : ops[e.on]? with
    | none =>
     have h2 : acc.getD e.on false = false := by
      have hsz : acc.size ≤ ops.size := by
       have := congrArg List.length he
       simp at this
       omega
      rw [Array.getElem?_eq_none_iff] at ho
      rw [Array.getD_eq_getD_getElem?, Array.getElem?_eq_none (by omega)]
      rfl
     rw [h2] at h1; cases h1
    | some oe => exact hg e.on h1 oe ho fun e' he' hb' => hc e.on oe ho hl e' he' hb'
  ·rw [if_neg hje] at hj
   exact hg j (by rw [Array.getD_eq_getD_getElem?]; exact hj) oj hoj hall
theorem waits_listed {listed : Array Bool} (hc : Closed md ops listed) {i d : Nat} (od : Oper) (hd : ops[d]? = some od) (hall : ∀ e ∈ od.after, Region.binds md e = true → listed.getD e.on true = true) (h : waits md ops d i = true) : listed.getD i true = true :=
 depGo_good hc ops.toList [] #[] (by simp) rfl (fun j hj => by simp [Array.getD] at hj) d h od hd hall
theorem Closed.set {listed : Array Bool} (hc : Closed md ops listed) {j : Nat} {oj : Oper} (hoj : ops[j]? = some oj) (hall : ∀ e ∈ oj.after, Region.binds md e = true → listed.getD e.on true = true) : Closed md ops (listed.setIfInBounds j true) := fun k ok hk hl e he hb => by
 have up : ∀ m, listed.getD m true = true → (listed.setIfInBounds j true).getD m true = true := fun m hm => by
  by_cases hjm : j = m
  ·subst hjm
   rw [Array.getD_eq_getD_getElem?, Array.getElem?_setIfInBounds]
   split <;> (try split) <;> simp_all
  ·rw [getD_set_ne true hjm]; exact hm
 by_cases hjk : j = k
 ·subst hjk
  rw [hoj] at hk
  injection hk with hk
  subst hk
  exact up _ (hall e he hb)
 ·rw [getD_set_ne true hjk] at hl
  exact up _ (hc k ok hk hl e he hb)
theorem wpAnyL_first {i : Nat} {oi : Oper} {v : Value} (hi : ops[i]? = some oi) (hd : waits md ops d i = true) (hsel : ∀ (j : Nat) (o : Oper) cs b, ops[j]? = some o → o.op ≠ .select cs b)
  (hQ : ∀ c a w, Q (.panic c) (a.put oi.dst v) w → Q (.panic c) a w) :
  ∀ (fuel : Nat) (listed : Array Bool) (a : Act) (w : World),
   (∀ j oj, ops[j]? = some oj → j ≠ i → listed.getD j true = false → (∀ e ∈ oj.after, Region.binds md e = true → e.on ≠ i) → oi.apart ops oj = true) →
   Closed md ops listed → i ∈ Region.ready md ops listed → YieldsIf P ops S oi v a → S w →
   wpAnyL P md ops Q S d fuel (listed.setIfInBounds i true) (a.put oi.dst v) w → wpAnyL P md ops Q S d (fuel + 1) listed a w := by
 intro fuel
 induction fuel with
 | zero =>
  intro listed a w _ _ hr hy hS H
  refine ⟨fun h => (by rw [h] at hr; cases hr), fun j hj => ?_⟩
  by_cases hji : j = i
  ·subst hji; exact hy.wpOp hi hS ⟨fun _ => hS, H⟩
  ·have := ready_mono hj hji
   rw [H.1] at this
   cases this
 | succ fuel ih =>
  intro listed a w hfree hcl hr hy hS H
  refine ⟨fun h => (by rw [h] at hr; cases hr), fun j hj => ?_⟩
  by_cases hji : j = i
  ·subst hji; exact hy.wpOp hi hS ⟨fun _ => hS, H⟩
  ·have h1 := H.2 j (ready_mono hj hji)
   obtain ⟨hjun, oj, hoj, hall⟩ := mem_ready.1 hj
   have hnot : ∀ e ∈ oj.after, Region.binds md e = true → e.on ≠ i := fun e he hb heq => by
    have h1 := hall e he hb
    have h0 := (mem_ready.1 hr).1
    rw [heq] at h1
    rcases Nat.lt_or_ge i listed.size with h' | h'
    ·simp [h'] at h0 h1; rw [h0] at h1; cases h1
    ·simp [Array.getElem?_eq_none h'] at h1
   have hall' : ∀ e ∈ oj.after, Region.binds md e = true → listed.getD e.on true = true := fun e he hb => getD_up (hall e he hb)
   have hjd : j ≠ d := fun e => by
    subst e
    have h5 := waits_listed hcl _ hoj hall' hd
    have h6 := (mem_ready.1 hr).1
    rw [h5] at h6
    cases h6
   have h2 := wpOp_putIf hoj (hfree j oj hoj hji hjun hnot) (fun cs b => hsel i oi cs b hi) (fun cs b => hsel j oj cs b hoj) hQ hy h1
   have hfree' : ∀ k ok, ops[k]? = some ok → k ≠ i → (listed.setIfInBounds j true).getD k true = false →
     (∀ e ∈ ok.after, Region.binds md e = true → e.on ≠ i) → oi.apart ops ok = true := fun k ok hk hki hun hno => by
    refine hfree k ok hk hki ?_ hno
    by_cases hjk : j = k
    ·subst hjk; exact hjun
    ·rw [getD_set_ne true hjk] at hun; exact hun
   refine wpOp_mono (fun a' w' h3 => ⟨h3.2.1, ih (listed.setIfInBounds j true) a' w' hfree' (hcl.set hoj hall') (ready_mono hr (Ne.symm hji)) h3.1 (h3.2.1 hjd) ?_⟩) h2
   rw [Array.setIfInBounds_comm _ _ hji]
   exact h3.2.2
/-- .. where what is listed is closed -/
def wpAnyC (P : Program) (md : Region.Mode) (ops : Array Oper) (Q : Exit → Act → World → Prop) (S : World → Prop) (d fuel : Nat) (listed : Array Bool) (a : Act) (w : World) : Prop := Closed md ops listed → wpAnyL P md ops Q S d fuel listed a w
theorem ready_closed {listed : Array Bool} (hcl : Closed md ops listed) {j : Nat} (hj : j ∈ Region.ready md ops listed) : Closed md ops (listed.setIfInBounds j true) := by
 obtain ⟨_, oj, hoj, hall⟩ := mem_ready.1 hj
 exact hcl.set hoj fun e he hb => getD_up (hall e he hb)
theorem wpAnyL_take {i : Nat} {oi : Oper} {v : Value} {fuel : Nat} {listed : Array Bool} {a : Act} {w : World} (hi : ops[i]? = some oi) (hd : waits md ops d i = true)
  (hs : Region.noSelect ops = true) (hf : Region.free md ops listed i = true) (hr : (Region.ready md ops listed).contains i = true)
  (hQ : ∀ c a w, Q (.panic c) (a.put oi.dst v) w → Q (.panic c) a w) (hy : YieldsIf P ops S oi v a) (hS : S w)
  (h : wpAnyC P md ops Q S d fuel (listed.setIfInBounds i true) (a.put oi.dst v) w) : wpAnyC P md ops Q S d (fuel + 1) listed a w := fun hcl =>
 have hr' : i ∈ Region.ready md ops listed := by simpa using hr
 wpAnyL_first hi hd (Region.noSelect_spec hs) hQ fuel listed a w (Region.free_spec hi hf) hcl hr' hy hS (h (ready_closed hcl hr'))
theorem wpAnyL_done {listed : Array Bool} {a : Act} {w : World} (hr : Region.ready md ops listed = []) (h : Q .normal a w) :
  ∀ fuel, wpAnyC P md ops Q S d fuel listed a w
 | 0 => fun _ => ⟨hr, h⟩
 | _ + 1 => fun _ => ⟨fun _ => h, by rw [hr]; simp⟩
/-- one operation alone may come up -/
theorem wpAnyL_one {i : Nat} {o : Oper} {fuel : Nat} {listed : Array Bool} {a : Act} {w : World} (hr : Region.ready md ops listed = [i]) (ho : ops[i]? = some o) (_hid : i ≠ d)
  (h : ∀ K' : Act → World → Prop, Shut (∀ a w, S w → (S w → wpAnyC P md ops Q S d fuel (listed.setIfInBounds i true) a w) → K' a w) → if Region.wanted o (yielded ops a.tmps) = true then Oper.wp P o a w K' Q else K' (a.put o.dst undef) w) :
  wpAnyC P md ops Q S d (fuel + 1) listed a w := fun hcl =>
 ⟨fun h0 => absurd (hr ▸ h0) (by simp), hr ▸ fun j hj => by
  have hj' : j ∈ Region.ready md ops listed := by rw [hr]; exact hj
  simp only [List.mem_singleton] at hj
  subst hj
  exact wpOp_step ho fun K' hK => h K' fun a w hS hW => hK a w ⟨fun _ => hS, hW hS (ready_closed hcl hj')⟩⟩
/-- each of some may come up -/
def AllReadyL (P : Program) (md : Region.Mode) (ops : Array Oper) (Q : Exit → Act → World → Prop) (S : World → Prop) (d : Nat) (fuel : Nat) (listed : Array Bool) (a : Act) (w : World) (rs : List Nat) : Prop :=
 ∀ i ∈ rs, wpOp P ops Q i (fun a' w' => (i ≠ d → S w') ∧ (i ∈ Region.ready md ops listed → Closed md ops listed → wpAnyL P md ops Q S d fuel (listed.setIfInBounds i true) a' w')) a w
theorem AllReadyL.nil {fuel : Nat} {listed : Array Bool} {a : Act} {w : World} : AllReadyL P md ops Q S d fuel listed a w [] := fun _ h => by cases h
theorem AllReadyL.cons {fuel : Nat} {listed : Array Bool} {a : Act} {w : World} {i : Nat} {o : Oper} {rs : List Nat} (ho : ops[i]? = some o)
  (h : ∀ K' : Act → World → Prop, Shut (∀ a w, S w → (S w → wpAnyC P md ops Q S d fuel (listed.setIfInBounds i true) a w) → K' a w) → if Region.wanted o (yielded ops a.tmps) = true then Oper.wp P o a w K' Q else K' (a.put o.dst undef) w)
  (hs : AllReadyL P md ops Q S d fuel listed a w rs) : AllReadyL P md ops Q S d fuel listed a w (i :: rs) := fun j hj => by
 rcases List.mem_cons.1 hj with rfl | hj
 ·exact wpOp_step ho (fun K' hK => h K' (fun a w hS hW => hK a w ⟨fun _ => hS, fun hr hcl => hW hS (ready_closed hcl hr)⟩))
 ·exact hs j hj
theorem wpAnyL_ready {rs : List Nat} {fuel : Nat} {listed : Array Bool} {a : Act} {w : World} (hr : Region.ready md ops listed = rs) (hne : rs ≠ [])
  (h : AllReadyL P md ops Q S d fuel listed a w rs) : wpAnyC P md ops Q S d (fuel + 1) listed a w := fun hcl =>
 ⟨fun h0 => absurd (hr ▸ h0) hne, fun i hi => wpOp_mono (fun _ _ hh => ⟨hh.1, hh.2 hi hcl⟩) (h i (hr ▸ hi))⟩
/-- the last one -/
theorem wpAnyL_last {o : Oper} {fuel : Nat} {listed : Array Bool} {a : Act} {w : World} (hr : Region.ready md ops listed = [d]) (ho : ops[d]? = some o)
  (h : ∀ K' : Act → World → Prop, Shut (∀ a w, wpAnyC P md ops Q S d fuel (listed.setIfInBounds d true) a w → K' a w) → if Region.wanted o (yielded ops a.tmps) = true then Oper.wp P o a w K' Q else K' (a.put o.dst undef) w) :
  wpAnyC P md ops Q S d (fuel + 1) listed a w := fun hcl =>
 ⟨fun h0 => absurd (hr ▸ h0) (by simp), hr ▸ fun j hj => by
  have hj' : j ∈ Region.ready md ops listed := by rw [hr]; exact hj
  simp only [List.mem_singleton] at hj
  subst hj
  exact wpOp_step ho fun K' hK => h K' fun a w hW => hK a w ⟨fun e => absurd rfl e, hW (ready_closed hcl hj')⟩⟩
theorem wp_region_l {id : Nat} {a : Act} {w : World} (d : Nat) (S : World → Prop) (hm : P.follows .mixedOrders = true) (hS : S w.drew)
  (h : S w.drew → wpAnyC P .any ops Q S d ops.size (Array.replicate ops.size false) a w.drew) : (Code.region id ops true).wp P Q a w :=
 wp_region_any hm (wpAny_of_l _ _ _ _ (h hS fun j oj hj hl => by
  have hlt := (Array.getElem?_eq_some_iff.1 hj).1
  rw [Array.getD_eq_getD_getElem?, Array.getElem?_replicate, if_pos hlt] at hl
  cases hl))
end
end Go.Proofs.YtampniiehgimhaaGreat
/- slices.SortFunc of a row of the call's own, at structs. No program. -/
namespace Go.Proofs.YtampniiehgimhaaGreat
open Go.RowKit Go.Shelf Go.Sort
section
variable {α : Type} [Enc α] [Inhabited α]
theorem flatK_flat (l : List α) : (flatK Enc.cells (Enc.size α) l.toArray).toList = l.flatMap Enc.cells := by
 apply List.ext_getElem?
 intro t
 by_cases ht : t < l.length * Enc.size α
 ·have hs : 0 < Enc.size α := by
   rcases Nat.eq_zero_or_pos (Enc.size α) with h | h
   ·rw [h] at ht; simp at ht
   ·exact h
  have h1 : t / Enc.size α < l.length := by rw [Nat.div_lt_iff_lt_mul hs]; exact ht
  have h2 : t % Enc.size α < Enc.size α := Nat.mod_lt _ hs
  have h3 : t < (flatK Enc.cells (Enc.size α) l.toArray).size := by simpa using ht
  have e1 : t / Enc.size α * Enc.size α + t % Enc.size α = t := by rw [Nat.mul_comm]; exact Nat.div_add_mod _ _
  have e2 := flat_get l _ _ h1 h2
  rw [e1] at e2
  rw [e2, Array.getElem?_toList, Array.getElem?_eq_getElem h3, ← getElem!_pos _ t h3, get_flatK _ _ _ _ (by simpa using ht)]
  rw [getElem!_pos l.toArray _ (by simpa using h1), getElem!_pos _ _ (by rw [Enc.len]; exact h2), List.getElem?_eq_getElem (by rw [Enc.len]; exact h2)]
  simp
 ·rw [List.getElem?_eq_none (by rw [Array.length_toList]; simp; omega), List.getElem?_eq_none (by rw [flat_len]; omega)]
theorem putCells_take (F cur : Array Value) (h : F.size ≤ cur.size) : (putCells id 0 F cur).toList.take F.size = F.toList := by
 apply List.ext_getElem?
 intro t
 by_cases ht : t < F.size
 ·rw [List.getElem?_take_of_lt ht, Array.getElem?_toList, Array.getElem?_toList, Array.getElem?_eq_getElem ht]
  unfold putCells
  rw [Array.getElem?_mapIdx, Array.getElem?_eq_getElem (by omega), Option.map_some, if_pos ⟨Nat.zero_le _, by omega⟩, Nat.sub_zero, getElem!_pos F t ht]
  rfl
 ·rw [List.getElem?_eq_none (by simp; omega), List.getElem?_eq_none (by simp; omega)]
theorem heap_putRow {w : World} {g : Nat} {cur : Array Value} {e : TypeId} {fr : Nat × Nat} (F : Array Value) (n : Nat) (os : Array Obj) (h : w.heap[g]? = some (.cells cur e fr)) : (grow (putRow id (Sort.ahead w n) g 0 F) os).heap[g]? = some (.cells (putCells id 0 F cur) e fr) := by
 have hlt := (Array.getElem?_eq_some_iff.1 h).1
 unfold grow putRow mapBlock
 simp only
 rw [Array.getElem?_append_left (by simpa [Sort.ahead] using hlt), Array.getElem?_modify, if_pos rfl]
 show Option.map _ (w.heap[g]?) = _
 rw [h]
 rfl
theorem grown_putRow {w : World} {g : Nat} (F : Array Value) (n : Nat) (os : Array Obj) : w.grownBy (grow (putRow id (Sort.ahead w n) g 0 F) os) (some g) :=
 ⟨rfl, rfl, rfl, by simp [Sort.ahead], fun k hk hne => by
  unfold grow putRow mapBlock
  simp only
  rw [Array.getElem?_append_left (by simpa [Sort.ahead] using hk), Array.getElem?_modify, if_neg (fun e => hne (by rw [e]))]
  rfl⟩
/-- the row's own block turned into d' -/
theorem Own.sorted {w : World} {base : Nat} {e : TypeId} {g cap : Nat} {l : List α} {d' : Array α} (h : Own w base e (.slice (some ⟨g, 0, none⟩) l.length cap) l) (hp : d'.toList.Perm l) (n : Nat) (os : Array Obj) :
  Own (grow (putRow id (Sort.ahead w n) g 0 (flatK Enc.cells (Enc.size α) d')) os) base e (.slice (some ⟨g, 0, none⟩) l.length cap) d'.toList := by
 obtain ⟨cur, hg, hb, hn, hc, hm, hz, ht⟩ := h.cells
 have hlen : d'.toList.length = l.length := hp.length_eq
 have hF : (flatK Enc.cells (Enc.size α) d').size = l.length * Enc.size α := by rw [size_flatK, ← Array.length_toList, hlen]
 have hle : l.length * Enc.size α ≤ cap * Enc.size α := Nat.mul_le_mul_right _ hc
 have hgr := grown_putRow (w := w) (g := g) (flatK Enc.cells (Enc.size α) d') n os
 refine ⟨⟨by rw [flat_len], .inr ⟨g, cap, _, by rw [hlen], hb, heap_putRow _ n os hg, by omega, hm, by simp [putCells, hz], ?_⟩⟩, fun x hx => ?_⟩
 ·rw [hlen, ← hF, putCells_take _ _ (by omega)]
  have := flatK_flat d'.toList
  simpa using this
 ·refine Enc.keep (h.2 x (hp.mem_iff.1 hx)) (fun p hp => World.cell?_of_block (hgr.block _ hp.1 hp.2)) (fun b hb => ⟨Nat.lt_of_lt_of_le hb.1 hgr.size, hb.2⟩)
variable {P : Program} {ρ : Ren}
/-- slices.SortFunc(v, cmp) -/
theorem sortF_own (L : SlLaysF0.n6 P ρ) (aE : ∀ w, (isAgg (ρ.t 24)).run P w = .ok true w) (zE : ∀ w, (Go.sizeOf (ρ.t 24)).run P w = .ok (Enc.size α) w) (cf : α → α → Int) (lt : α → α → Bool) (hlt : ∀ x y, lt x y = decide (cf x y < 0)) (S : Strict lt) (g : Nat) (cb : Array Value)
  (eg : ∀ args w, (callFunc g args).run P w = .ok (.enter g args) w) (hcmp : ∀ (x y : α) (W : World), Calls P g (#[.agg (Enc.cells x).toArray, .agg (Enc.cells y).toArray] ++ cb) W fun e w' => e = .returned (.int .i64 (cf x y)) ∧ ∃ q os', w' = grow (W.drewN q) os')
  (base : Nat) (T : TypeId) (v : Value) (l : List α) (w : World) (h : Own w base T v l) (hn : l.length ≤ 1000000) :
  Calls P (ρ.f 6) #[v, .func (.func g) #[] cb] w fun e w' => e = .returned (.tuple #[]) ∧ ∃ l', l'.Perm l ∧ SortedB lt l' ∧ Own w' base T v l' ∧ w.grownBy w' v.ownBlock := by
 have hO : SWO (ltOf cf) := ⟨fun x => by unfold ltOf; rw [← hlt]; exact S.irr x, fun x y z => by unfold ltOf; rw [← hlt, ← hlt, ← hlt]; exact S.trans x y z, fun x y z => by unfold ltOf; rw [← hlt, ← hlt, ← hlt]; exact S.co x y z⟩
 rcases Nat.eq_zero_or_pos l.length with h0 | hpos
 ·obtain rfl := List.length_eq_zero_iff.1 h0
  obtain ⟨A, c, hv, _⟩ := h.sl
  subst hv
  exact (AnyF.slices_SortFunc_none { L with } A c (.func (.func g) #[] cb) w).mono fun e w' ⟨he, hw⟩ => ⟨he, [], .refl _, List.Pairwise.nil, by subst hw; exact h, by subst hw; exact World.grownBy.refl _ _⟩
 ·obtain ⟨gb, cap, cur, rfl, hb, hg, hc, hm, hz, ht⟩ := h.form hpos
  have hH : HoldsK Enc.cells (Enc.size α) w gb 0 l.toArray := by
   intro j hj
   rw [size_flatK, List.size_toArray] at hj
   have hle : l.length * Enc.size α ≤ cap * Enc.size α := Nat.mul_le_mul_right _ hc
   rw [Nat.zero_add]
   refine ⟨?_, frozen_of_row w gb j cur T hg⟩
   rw [cell_of_row w gb j cur T (0, 0) hg]
   have e1 : (flatK Enc.cells (Enc.size α) l.toArray)[j]? = cur[j]? := by
    rw [← Array.getElem?_toList, flatK_flat, ← ht, List.getElem?_take_of_lt hj, Array.getElem?_toList]
   have hj2 : j < (flatK Enc.cells (Enc.size α) l.toArray).size := by simpa using hj
   rw [← e1, Array.getElem?_eq_getElem hj2, getElem!_pos _ j hj2]
   rfl
  have hl1 : l.toArray.size = l.length := List.size_toArray ..
  have hcon := AnyQ.slices_SortFunc L (Enc.size α) aE zE Enc.cells Enc.len Enc.one cf hO g cb gb 0 cap l.toArray w eg (fun m os dk _ x y => hcmp x y _) hH (Array.getElem?_eq_some_iff.1 hg).1 (by rw [hl1]; omega)
  rw [hl1] at hcon
  refine hcon.mono fun e w' ⟨he, d', n, os, hp, hs, hw⟩ => ⟨he, ?_⟩
  obtain ⟨hsz, _, hperm⟩ := hp
  have hpe : d'.toList.Perm l := by
   have e1 : d'.extract 0 l.length = d' := by rw [← hl1, ← hsz]; exact Array.extract_size
   have e2 : l.toArray.extract 0 l.length = l.toArray := by rw [← hl1]; exact Array.extract_size
   rw [e1, e2] at hperm
   simpa using hperm
  refine ⟨d'.toList, hpe, ?_, ?_, ?_⟩
  ·unfold SortedB
   rw [List.pairwise_iff_getElem]
   intro i j hi hj hij
   have hi' : i < d'.size := by simpa using hi
   have hj' : j < d'.size := by simpa using hj
   have := hs i j (Nat.zero_le _) hij (by rw [hsz, hl1] at hj'; exact hj')
   unfold ltOf at this
   rw [← hlt, getElem!_pos d' i hi', getElem!_pos d' j hj'] at this
   simpa using this
  ·rw [hw]; exact h.sorted hpe n os
  ·rw [hw]; exact grown_putRow _ n os
end
end Go.Proofs.YtampniiehgimhaaGreat
/- hold.Held: data; cmp.Compare, cmp.Or; the order of holds -/
namespace Go.Proofs.YtampniiehgimhaaGreat
open Go.RowKit
/-- hold.Held -/
structure Held where
 num : Int
 acct : ByteArray
 sum : Int
instance : Inhabited Held := ⟨⟨0, ⟨#[]⟩, 0⟩⟩
abbrev Held.v (x : Held) : Value := .agg #[i64 x.num, .string x.acct, i64 x.sum]
instance encHeld : Enc Held where
 size := 3
 cells x := [i64 x.num, .string x.acct, i64 x.sum]
 val := Held.v
 ok _ _ x := x.acct.size ≤ maxLen
 len _ := rfl
 one _ v hv := by simp only [List.mem_cons, List.not_mem_nil, or_false] at hv; rcases hv with rfl | rfl | rfl <;> rfl
 keep h _ _ := h
theorem Held.ext_ {a b : Held} (h1 : a.num = b.num) (h2 : a.acct = b.acct) (h3 : a.sum = b.sum) : a = b := by cases a; cases b; simp_all
instance : DecidableEq Held := fun a b => if h : a.num = b.num ∧ a.acct = b.acct ∧ a.sum = b.sum then isTrue (Held.ext_ h.1 h.2.1 h.2.2) else isFalse (fun e => h (by rw [e]; exact ⟨rfl, rfl, rfl⟩))
theorem SlS.held {w : World} {S : Nat → Prop} {c : Nat} {A : Option Addr} {l : List Held} (h : SlS w S A c l) {k : Nat} (hk : k < l.length) : ∃ b o, A = some ⟨b, o, none⟩ ∧ S b ∧ l[k].acct.size ≤ maxLen ∧
  w.cell? ⟨b, o + k * 3, none⟩ = some (i64 l[k].num) ∧ w.cell? ⟨b, o + k * 3 + 1, none⟩ = some (.string l[k].acct) ∧ w.cell? ⟨b, o + k * 3 + 2, none⟩ = some (i64 l[k].sum) := by
 obtain ⟨b, o, hA, hb, hok, hc⟩ := h.at_ hk
 exact ⟨b, o, hA, hb, hok, hc 0 _ rfl, hc 1 _ rfl, hc 2 _ rfl⟩
def Held.key (x : Held) : Hk := ⟨x.acct, x.num⟩
def ltH (a b : Held) : Bool := bless a.acct b.acct || (decide (a.acct = b.acct) && decide (a.num < b.num))
theorem keyH : KeyOrd ltH Held.key where
 strict := by
  refine ⟨fun a => by unfold ltH; rw [bless_strict.irr]; simp, fun a b c h1 h2 => ?_, fun a b c h1 h2 => ?_⟩
  ·unfold ltH at *
   simp only [Bool.or_eq_true, Bool.and_eq_true, decide_eq_true_eq] at *
   rcases h1 with h1 | ⟨h1, h1'⟩
   ·rcases h2 with h2 | ⟨h2, h2'⟩
    ·exact .inl (bless_strict.trans _ _ _ h1 h2)
    ·rw [← h2]; exact .inl h1
   ·rcases h2 with h2 | ⟨h2, h2'⟩
    ·rw [h1]; exact .inl h2
    ·exact .inr ⟨h1.trans h2, by omega⟩
  ·unfold ltH at *
   simp only [Bool.or_eq_false_iff, Bool.and_eq_false_iff, decide_eq_false_iff_not] at *
   refine ⟨bless_strict.co _ _ _ h1.1 h2.1, ?_⟩
   by_cases e : a.acct = c.acct
   ·right
    have e1 : a.acct = b.acct := bless_tri h1.1 (by rw [e]; exact h2.1)
    have e2 : b.acct = c.acct := by rw [← e1]; exact e
    have := h1.2.resolve_left (fun h => h e1)
    have := h2.2.resolve_left (fun h => h e2)
    omega
   ·exact .inl e
 ne a b h e := by
  unfold Held.key at e
  injection e with e1 e2
  unfold ltH at h
  rw [e1, bless_strict.irr, e2] at h
  simp at h
 co a b h := by
  unfold ltH
  by_cases e : a.acct = b.acct
  ·have : a.num ≠ b.num := fun e2 => h (by unfold Held.key; rw [e, e2])
   rcases Int.lt_or_gt_of_ne this with h1 | h1
   ·left; simp [e, h1]
   ·right; simp [e, h1]
  ·cases h1 : bless a.acct b.acct with
   | true => left; simp
   | false =>
    cases h2 : bless b.acct a.acct with
    | true => right; simp
    | false => exact absurd (bless_tri h1 h2) e
 eq a b h c := by
  unfold Held.key at h
  injection h with e1 e2
  unfold ltH
  rw [e1, e2]
  exact ⟨rfl, rfl⟩
/-- cmp.Compare -/
def cmpS (s t : ByteArray) : Int := if bless s t then -1 else if bless t s then 1 else 0
def cmpN (s t : Int) : Int := if s < t then -1 else if t < s then 1 else 0
set_option maxRecDepth 100000 in
set_option maxHeartbeats 400000 in
theorem isNaNs_c (s : ByteArray) (w : World) : Calls Tryz.prog 184 #[.string s] w fun e w' => e = .returned (.bool false) ∧ w = w' := by
 have e1 := beqS_of_eq (rfl : s = s)
 go_enter Tryz.func184, Tryz.ntmps184
 go_wp2
 go_ret
 exact ⟨rfl, rfl⟩
set_option maxRecDepth 100000 in
set_option maxHeartbeats 400000 in
theorem isNaNn_c (s : Int) (w : World) : Calls Tryz.prog 185 #[i64 s] w fun e w' => e = .returned (.bool false) ∧ w = w' := by
 go_enter Tryz.func185, Tryz.ntmps185
 go_wp2
 go_ret
 exact ⟨rfl, rfl⟩
set_option maxRecDepth 100000 in
set_option maxHeartbeats 2000000 in
theorem cmpS_c (s t : ByteArray) (w : World) : Calls Tryz.prog 140 #[.string s, .string t] w fun e w' => e = .returned (i64 (cmpS s t)) ∧ w = w' := by
 have HC := Lib.hid (show cmpS s t = if bless s t then -1 else if bless t s then 1 else 0 from rfl)
 generalize cmpS s t = r at *
 go_enter Tryz.func140, Tryz.ntmps140
 go_wp2_with fail
 refine (isNaNs_c _ _).mono ?_
 rintro e w1 ⟨rfl, rfl⟩
 go_wp2_with fail
 refine (isNaNs_c _ _).mono ?_
 rintro e w1 ⟨rfl, rfl⟩
 cases h1 : bless s t with
 | true =>
  have g1 : Op.bytesLess s.toList t.toList = true := h1
  have HR := Lib.hid (show r = -1 by rw [HC.out, h1]; rfl)
  clear h1
  go_wp2
  go_ret
  exact ⟨by rw [HR.out]; rfl, rfl⟩
 | false =>
  have g1 : Op.bytesLess s.toList t.toList = false := h1
  cases h2 : bless t s with
  | true =>
   have g2 : (s.toList == t.toList) = false := beqS_of_ne (fun e => by rw [e, bless_strict.irr] at h2; cases h2)
   have HR := Lib.hid (show r = 1 by rw [HC.out, h1, h2]; rfl)
   clear h1 h2
   go_wp2
   go_ret
   exact ⟨by rw [HR.out]; rfl, rfl⟩
  | false =>
   have g2 : (s.toList == t.toList) = true := beqS_of_eq (bless_tri h1 h2)
   have HR := Lib.hid (show r = 0 by rw [HC.out, h1, h2]; rfl)
   clear h1 h2
   go_wp2
   go_ret
   exact ⟨by rw [HR.out]; rfl, rfl⟩
set_option maxRecDepth 100000 in
set_option maxHeartbeats 2000000 in
theorem cmpN_c (s t : Int) (w : World) : Calls Tryz.prog 141 #[i64 s, i64 t] w fun e w' => e = .returned (i64 (cmpN s t)) ∧ w = w' := by
 have HC := Lib.hid (show cmpN s t = if s < t then -1 else if t < s then 1 else 0 from rfl)
 generalize cmpN s t = r at *
 go_enter Tryz.func141, Tryz.ntmps141
 go_wp2_with fail
 refine (isNaNn_c _ _).mono ?_
 rintro e w1 ⟨rfl, rfl⟩
 go_wp2_with fail
 refine (isNaNn_c _ _).mono ?_
 rintro e w1 ⟨rfl, rfl⟩
 by_cases h1 : s < t
 ·have g1 : decide (s < t) = true := decide_eq_true h1
  have HR := Lib.hid (show r = -1 by rw [HC.out, if_pos h1])
  clear h1
  go_wp2
  go_ret
  exact ⟨by rw [HR.out]; rfl, rfl⟩
 ·have g1 : decide (s < t) = false := decide_eq_false h1
  by_cases h2 : t < s
  ·have g2 : decide (t < s) = true := decide_eq_true h2
   have HR := Lib.hid (show r = 1 by rw [HC.out, if_neg h1, if_pos h2])
   clear h1 h2
   go_wp2
   go_ret
   exact ⟨by rw [HR.out]; rfl, rfl⟩
  ·have g2 : decide (t < s) = false := decide_eq_false h2
   have HR := Lib.hid (show r = 0 by rw [HC.out, if_neg h1, if_neg h2])
   clear h1 h2
   go_wp2
   go_ret
   exact ⟨by rw [HR.out]; rfl, rfl⟩
/-- cmp.Or at two ints -/
def orN (a b : Int) : Int := if a ≠ 0 then a else b
set_option maxRecDepth 100000 in
set_option maxHeartbeats 4000000 in
theorem or2_c (a b : Int) (g : Nat) (w : World) (h0 : w.cell? ⟨g, 0, none⟩ = some (i64 a)) (h1 : w.cell? ⟨g, 1, none⟩ = some (i64 b)) :
  Calls Tryz.prog 139 #[.slice (some ⟨g, 0, none⟩) 2 2] w fun e w' => e = .returned (i64 (orN a b)) ∧ w = w' := by
 have HC := Lib.hid (show orN a b = if a ≠ 0 then a else b from rfl)
 generalize orN a b = r at *
 go_enter Tryz.func139, Tryz.ntmps139
 go_wp2
 by_cases ha : a = 0
 ·have HR := Lib.hid (show r = b by rw [HC.out, if_neg (by simpa using ha)])
  subst ha
  refine wp_loop_rounds 3 ?_
  rw [rounds_succ]
  by_cases hb : b = 0
  ·have HR := Lib.hid (show r = 0 by rw [HR.out, hb])
   subst hb
   go_wp2
   rw [rounds_succ]
   go_wp2
   rw [rounds_succ]
   go_wp2
   go_ret
   exact ⟨by rw [HR.out]; rfl, rfl⟩
  ·have g2 : (b != 0) = true := by simpa using hb
   clear hb
   go_wp2
   rw [rounds_succ]
   go_wp2
   go_ret
   exact ⟨by rw [HR.out]; rfl, rfl⟩
 ·have g1 : (a != 0) = true := by simpa using ha
  have HR := Lib.hid (show r = a by rw [HC.out, if_pos ha])
  clear ha
  refine wp_loop_rounds 1 ?_
  rw [rounds_succ]
  go_wp2
  go_ret
  exact ⟨by rw [HR.out]; rfl, rfl⟩
end Go.Proofs.YtampniiehgimhaaGreat
/- IndexFunc, ContainsFunc, DeleteFunc at hold.Held -/
namespace Go.Proofs.YtampniiehgimhaaGreat
open Go.RowKit
set_option maxRecDepth 100000 in
set_option maxHeartbeats 400000 in
theorem indexFunc_held (A : Option Addr) (c : Nat) (l : List Held) (g : FuncId) (cap : Array Value) (p : Held → Bool) (w : World) (h : Sl w w.heap.size A c l) (hn : l.length ≤ 65536)
  (eg : ∀ args w, (callFunc g args).run Tryz.prog w = .ok (.enter g args) w)
  (hf : ∀ x, x ∈ l → ∀ w1, Below w.heap.size w w1 → Calls Tryz.prog g (#[x.v] ++ cap) w1 fun e w2 => e = .returned (.bool (p x)) ∧ Below w1.heap.size w1 w2) :
  Calls Tryz.prog 232 #[.slice A l.length c, .func (.func g) #[] cap] w fun e w' => e = .returned (i64 (idxP p l)) ∧ Below w.heap.size w w' := by
 have Hf := Lib.hid hf
 clear hf
 go_enter Tryz.func232, Tryz.ntmps232
 go_wp2
 go_loopw [8] (fun i wr => ∃ k : Nat, k ≤ l.length ∧ i = i64 k ∧ (∀ j (hj : j < l.length), j < k → p l[j] = false) ∧ Below w.heap.size w wr) (fun i _ => l.length - (intOf i).toNat)
 case atStart => exact ⟨0, Nat.zero_le _, rfl, by omega, Below.refl _ _⟩
 case round =>
  obtain ⟨k, hk, rfl, hno, hb⟩ := hrel
  by_cases hlt : k < l.length
  ·obtain ⟨b, o, rfl, hbb, -, d0, d1, d2⟩ := (h.later hb).held hlt
   have Hno := Lib.hid hno
   clear hno
   go_wp2_with fail
   refine (Hf.out _ (List.getElem_mem hlt) _ hb).mono ?_
   rintro e w2 ⟨rfl, hb2⟩
   have hb3 := hb.trans (hb2.mono hb.size)
   by_cases hp : p l[k] = true
   ·rw [hp]
    have Hp := Lib.hid hp
    clear hp
    go_wp2
    go_ret
    exact ⟨by rw [show idxP p l = k from idxP_hit hlt Hp.out Hno.out]; rfl, hb3⟩
   ·have hp' : p l[k] = false := by simpa using hp
    rw [hp']
    have Hp := Lib.hid hp'
    clear hp hp'
    go_wp2
    go_roundw
    case rel => exact ⟨k + 1, by omega, by go_num, fun j hj h => by
      rcases Nat.lt_succ_iff_lt_or_eq.1 h with h | rfl
      ·exact Hno.out j hj h
      ·exact Hp.out, hb3⟩
    case measure => simp [intOf]; omega
  ·have hkl : k = l.length := by omega
   subst hkl
   go_wp2
   go_ret
   exact ⟨by rw [show idxP p l = -1 from idxP_miss (fun j hj => hno j hj hj)]; rfl, hb⟩
theorem one_held : ∀ u ∈ (Value.agg #[i64 0, .string ByteArray.empty, i64 0]).cells.toList, u.oneCell' = true := by
 intro u hu
 simp only [Value.cells, List.mem_cons, List.not_mem_nil, or_false] at hu
 rcases hu with rfl | rfl | rfl <;> rfl
set_option maxRecDepth 100000 in
set_option maxHeartbeats 1000000 in
theorem deleteFunc_held (base : Nat) (v : Value) (l : List Held) (g : FuncId) (cap : Array Value) (p : Held → Bool) (w : World) (h : Own w base 145 v l) (hn : l.length ≤ 65536)
  (eg : ∀ args w, (callFunc g args).run Tryz.prog w = .ok (.enter g args) w)
  (hf : ∀ x, x ∈ l → ∀ w1, w.grownBy w1 v.ownBlock → Calls Tryz.prog g (#[x.v] ++ cap) w1 fun e w2 => e = .returned (.bool (p x)) ∧ Below w1.heap.size w1 w2) :
  Calls Tryz.prog 216 #[v, .func (.func g) #[] cap] w fun e w' => ∃ v', e = .returned v' ∧ Own w' base 145 v' (l.filter fun x => !p x) ∧ w.grownBy w' v.ownBlock ∧ v'.ownBlock = v.ownBlock := by
 obtain ⟨A, c, hv, hs⟩ := h.sl
 have HI := Lib.hid (indexFunc_held A c l g cap p w hs hn eg (fun x hx w1 hb => hf x hx w1 (grown_of_below hb _)))
 by_cases hno : ∀ j (hj : j < l.length), p l[j] = false
 ·have hfil : l.filter (fun x => !p x) = l := List.filter_eq_self.2 (fun x hx => by
   obtain ⟨j, hj, rfl⟩ := List.getElem_of_mem hx
   simp [hno j hj])
  rw [show idxP p l = -1 from idxP_miss hno] at HI
  rw [hfil, hv]
  rw [hv] at h hf
  have Hf := Lib.hid h
  clear hfil hno hf hv h hs eg
  go_enter Tryz.func216, Tryz.ntmps216
  go_wp2_with (go_at_call 232; refine (HI.out).mono ?_; rintro e w' ⟨rfl, hb⟩)
  go_ret
  exact ⟨_, rfl, Hf.out.later hb, grown_of_below hb _, rfl⟩
 ·obtain ⟨i0, hi0, hpi0, hbef⟩ : ∃ i0, ∃ h : i0 < l.length, p l[i0] = true ∧ ∀ j (hj : j < l.length), j < i0 → p l[j] = false := by
   have hex : ∃ k, l.findIdx? p = some k := by
    cases hq : l.findIdx? p with
    | some k => exact ⟨k, rfl⟩
    | none => exact absurd (fun j hj => List.findIdx?_eq_none_iff.1 hq _ (List.getElem_mem hj)) hno
   obtain ⟨k, hk⟩ := hex
   obtain ⟨h1, h2, h3⟩ := List.findIdx?_eq_some_iff_getElem.1 hk
   exact ⟨k, h1, h2, fun j hj hjk => by simpa using h3 j hjk⟩
  rw [show idxP p l = i0 from idxP_hit hi0 hpi0 hbef] at HI
  have hfil0 : (l.take (i0 + 1)).filter (fun x => !p x) = l.take i0 := by
   rw [List.take_succ_eq_append_getElem hi0, List.filter_append, List.filter_eq_self.2 (fun x hx => by
    obtain ⟨j, hj, rfl⟩ := List.getElem_of_mem hx
    simp only [List.length_take] at hj
    rw [List.getElem_take, hbef j (by omega) (by omega)]; rfl)]
   simp [hpi0]
  clear hno hbef hpi0
  obtain ⟨gb, cp, cur0, rfl, hgb, _, hcap, hcapm, _, _⟩ := h.form (by omega)
  injection hv with hA hB hC
  subst hA hC
  have HF := Lib.hid hf
  have HF0 := Lib.hid hfil0
  have hcm : cp ≤ 9223372036854775807 := by unfold maxLen at hcapm; exact hcapm
  clear hf hfil0 hs hcapm hB
  have hne : ((i0 : Int) == -1) = false := by rw [beq_eq_false_iff_ne]; omega
  go_enter Tryz.func216, Tryz.ntmps216
  go_wp2_with (go_at_call 232; refine (HI.out).mono ?_; rintro e w' ⟨rfl, hb⟩)
  have hO' := h.later hb
  have hgr' := grown_of_below hb (some gb)
  go_loopw [5, 6] (fun i j wr => ∃ (ni nj : Nat) (cur : List Held), i = i64 ni ∧ j = i64 nj ∧ ni < nj ∧ nj ≤ l.length ∧ cur.length = l.length ∧ Own wr base 145 (.slice (some ⟨gb, 0, none⟩) l.length cp) cur ∧ w.grownBy wr (some gb) ∧
   cur.take ni = (l.take nj).filter (fun x => !p x) ∧ cur.drop nj = l.drop nj) (fun _ j _ => l.length - (intOf j).toNat)
  case atStart => exact ⟨i0, i0 + 1, l, rfl, by go_num, by omega, by omega, rfl, hO', hgr', HF0.out.symm, rfl⟩
  case round =>
   obtain ⟨ni, nj, cur, rfl, rfl, hij, hjn, hcl, hO, hgr, htk, hdr⟩ := hrel
   by_cases hlt : nj < l.length
   ·have hjc : nj < cur.length := by omega
    have hcj : cur[nj] = l[nj] := by
     have h1 : (cur.drop nj)[0]? = (l.drop nj)[0]? := by rw [hdr]
     simpa [hjc, hlt] using h1
    obtain ⟨A', c', hv', hs'⟩ := hO.sl
    injection hv' with hA' hB' hC'
    clear hB'
    subst hA' hC'
    have hz := hO.base_le.2
    obtain ⟨b', o', hb', hlb, hok, d0, d1, d2⟩ := hs'.held hjc
    injection hb' with hb'
    injection hb' with hb1' ho'
    subst hb1' ho'
    have HC := Lib.hid hcl
    rw [hcj] at d0 d1 d2 hok
    simp only [Nat.zero_add] at d0 d1 d2
    have Hok := Lib.hid hok
    have HT := Lib.hid htk
    have HD := Lib.hid hdr
    have HJ := Lib.hid hcj
    have HO := Lib.hid hO
    have hlt2 : gb < wr.heap.size := hz
    have hBx := (Below.refl wr.heap.size wr).alloc (Nat.le_refl _) (.cells #[i64 l[nj].num, .string l[nj].acct, i64 l[nj].sum] 145)
    have HBx := Lib.hid hBx
    have hokO := hO.2 cur[nj] (List.getElem_mem hjc)
    rw [hcj] at hokO
    have HokO := Lib.hid hokO
    clear hcl htk hdr hcj hs' hok hz hBx hO hokO
    go_wp2_with fail
    refine (HF.out _ (List.getElem_mem hlt) _ (grown_trans hgr (grown_of_below HBx.out (some gb)))).mono ?_
    rintro e w2 ⟨rfl, hb2⟩
    have hO2 := (HO.out.later HBx.out).later hb2
    have hgr2 := grown_trans hgr (grown_of_below (HBx.out.trans (hb2.mono (by simp))) (some gb))
    by_cases hp : p l[nj] = true
    ·rw [hp]
     have Hp := Lib.hid hp
     clear hp
     go_wp2
     go_roundw
     case rel => exact ⟨ni, nj + 1, cur, rfl, by go_num, by omega, by omega, HC.out, hO2, hgr2, by rw [HT.out, List.take_succ_eq_append_getElem hlt, List.filter_append]; simp [Hp.out], by
      rw [← List.drop_drop, HD.out, List.drop_drop]⟩
     case measure => simp [intOf]; omega
    ·have hp' : p l[nj] = false := by simpa using hp
     rw [hp']
     have Hp := Lib.hid hp'
     clear hp hp'
     have hcx : ∀ o, w2.cell? ⟨wr.heap.size, o, none⟩ = _ := fun o => hb2.cell (p := ⟨wr.heap.size, o, none⟩) (by simp)
     have hok : Enc.ok w2 (Oth w2 (.slice (some ⟨gb, 0, none⟩) l.length cp)) l[nj] :=
      oth_grown (grown_of_below (HBx.out.trans (hb2.mono (by simp))) _) (.inl rfl) HokO.out
     have HokN := Lib.hid hok
     clear hok
     have hni : ni < cur.length := by rw [HC.out]; omega
     go_wp2_with (refine wpList_store_own rfl none (.tmp 33) (.tmp 32) 145 rfl rfl (by kernel_rfl) gb l.length cp ni (ni * 3) l[nj] hO2 hni rfl rfl rfl HokN.out ?_; intro w3 hO3 hg3)
     go_roundw
     case rel => exact ⟨ni + 1, nj + 1, cur.set ni l[nj], by go_num, by go_num, by omega, by omega, by rw [List.length_set]; exact HC.out, hO3, grown_trans hgr2 hg3, by
       rw [List.take_succ_eq_append_getElem (by rw [List.length_set]; exact hni), List.getElem_set_self, List.take_set_of_le (Nat.le_refl _), HT.out, List.take_succ_eq_append_getElem hlt, List.filter_append]; simp [Hp.out], by
       rw [List.drop_set_of_lt (by omega), ← List.drop_drop, HD.out, List.drop_drop]⟩
     case measure => simp [intOf]; omega
   ·obtain rfl : nj = l.length := by omega
    have HC := Lib.hid hcl
    have HT := Lib.hid htk
    clear hcl htk hdr
    have hni : ni ≤ cur.length := by have := HC.out; omega
    go_wp2_with (refine wpList_clear_own rfl none (.tmp 38) 111 rfl rfl 145 Tryz.underlying111 (.agg #[i64 0, .string ByteArray.empty, i64 0]) (fun _ => by kernel_rfl) rfl one_held gb l.length cp ni (ni * 3) _ _ hO hni rfl rfl (fun _ => rfl) ?_; intro w3 hO3 hg3)
    go_ret
    exact ⟨_, rfl, by rw [HT.out, List.take_length] at hO3; exact hO3, grown_trans hgr hg3, rfl⟩
end Go.Proofs.YtampniiehgimhaaGreat
/- chart.Copy, hold.Copy -/
namespace Go.Proofs.YtampniiehgimhaaGreat
open Go.RowKit
theorem MapIs.cloned {κ : Type} {enc : κ → Value} {w : World} {b : Nat} {M : List (κ × Value)} {es : Array MapEntry} {clock : Nat} (h : MapIs enc w b M) (hb : w.heap[b]? = some (.map es clock)) : MapIs enc (w.alloc (.map es clock)) w.heap.size M := by
 obtain ⟨es', clock', hb', r⟩ := h
 rw [hb] at hb'
 injection hb' with hb'
 injection hb' with e1 e2
 subst e1 e2
 exact ⟨es, clock, heap_alloc_new w _, r⟩
set_option maxRecDepth 100000 in
set_option maxHeartbeats 4000000 in
theorem chcopy_c (g b : Nat) (M : List (ByteArray × Ac)) (w : World) (h : ChIs w g b M) :
  Calls Tryz.prog 100 #[.pointer (some ⟨g, 0, none⟩)] w fun e w' => ∃ g' b', e = .returned (.pointer (some ⟨g', 0, none⟩)) ∧ ChIs w' g' b' M ∧ w.heap.size ≤ g' ∧ w.heap.size ≤ b' ∧ Below w.heap.size w w' := by
 obtain ⟨es, clock, hb, hr⟩ := h.map
 have hm := h.map.cloned hb
 have hC := AnyW.maps_Clone Tryz.lcloneA b es clock w hb
 change Calls Tryz.prog 142 _ _ _ at hC
 have HC := Lib.hid hC
 have c0 := cell_of_row _ g 0 _ _ (0, 0) h.cell
 simp only [List.getElem?_toArray, List.getElem?_cons_zero] at c0
 have hB := ((Below.refl w.heap.size w).alloc (Nat.le_refl _) (.map es clock)).alloc (by simp) (.cells #[.map (some w.heap.size)] 191)
 clear hb hr h hC
 go_enter Tryz.func100, Tryz.ntmps100
 go_wp2_with fail
 refine HC.out.mono ?_
 rintro e w1 ⟨rfl, rfl⟩
 go_wp2
 go_ret
 exact ⟨w.heap.size + 1, w.heap.size, rfl, ⟨by omega, heap_alloc2_new w _ _, hm.later ((Below.refl _ _).alloc (Nat.le_refl _) _)⟩, by omega, by omega, hB⟩
set_option maxRecDepth 100000 in
set_option maxHeartbeats 4000000 in
theorem hocopy_c (g b : Nat) (H : List (Hk × Int)) (w : World) (h : HoIs w g b H) :
  Calls Tryz.prog 101 #[.pointer (some ⟨g, 0, none⟩)] w fun e w' => ∃ g' b', e = .returned (.pointer (some ⟨g', 0, none⟩)) ∧ HoIs w' g' b' H ∧ w.heap.size ≤ g' ∧ w.heap.size ≤ b' ∧ Below w.heap.size w w' := by
 obtain ⟨es, clock, hb, hr⟩ := h.map
 have hm := h.map.cloned hb
 have hC := AnyW.maps_Clone Tryz.lcloneH b es clock w hb
 change Calls Tryz.prog 143 _ _ _ at hC
 have HC := Lib.hid hC
 have c0 := cell_of_row _ g 0 _ _ (0, 0) h.cell
 simp only [List.getElem?_toArray, List.getElem?_cons_zero] at c0
 have hB := ((Below.refl w.heap.size w).alloc (Nat.le_refl _) (.map es clock)).alloc (by simp) (.cells #[.map (some w.heap.size)] 194)
 clear hb hr h hC
 go_enter Tryz.func101, Tryz.ntmps101
 go_wp2_with fail
 refine HC.out.mono ?_
 rintro e w1 ⟨rfl, rfl⟩
 go_wp2
 go_ret
 exact ⟨w.heap.size + 1, w.heap.size, rfl, ⟨by omega, heap_alloc2_new w _ _, hm.later ((Below.refl _ _).alloc (Nat.le_refl _) _)⟩, by omega, by omega, hB⟩
end Go.Proofs.YtampniiehgimhaaGreat
/- A step of a drawn region in one short line. No program. -/
namespace Go.Proofs.YtampniiehgimhaaGreat
open Go.RowKit
section
variable {P : Program} {ops : Array Oper} {Q : Exit → Act → World → Prop} {md : Region.Mode} {S : World → Prop} {d : Nat}
/-- an operation that is wanted: its value, and the frame with it -/
theorem tkY (i : Nat) {k : Nat} {oi : Oper} {v : Value} {fuel : Nat} {listed : Array Bool} {l : List Value} {df : List Deferred} {w : World} (hv : ∀ W, S W → (execOp (Act.mk l.toArray df).eval oi).run P W = .ok (.value v) W)
  (h : wpAnyC P md ops Q S d fuel (listed.setIfInBounds i true) ⟨(l.set k v).toArray, df⟩ w) (hi : ops[i]? = some oi := by rfl) (hk : oi.dst = some k := by rfl) (hd : waits md ops d i = true := by kernel_rfl)
  (hs : Region.noSelect ops = true := by kernel_rfl) (hf : Region.free md ops listed i = true := by kernel_rfl) (hr : (Region.ready md ops listed).contains i = true := by kernel_rfl)
  (hQ : ∀ c a w, Q (.panic c) (a.put oi.dst v) w → Q (.panic c) a w := by exact fun _ _ _ h => h) (hw : Region.wanted oi (yielded ops l.toArray) = true := by kernel_rfl) (hS : S w := by assumption) :
  wpAnyC P md ops Q S d (fuel + 1) listed ⟨l.toArray, df⟩ w :=
 wpAnyL_take hi hd hs hf hr hQ (.inl ⟨hw, hv⟩) hS (by rw [hk]; simpa [Act.put] using h)
/-- an operation that is not wanted -/
theorem tkN (i : Nat) {k : Nat} {oi : Oper} {fuel : Nat} {listed : Array Bool} {l : List Value} {df : List Deferred} {w : World}
  (h : wpAnyC P md ops Q S d fuel (listed.setIfInBounds i true) ⟨(l.set k undef).toArray, df⟩ w) (hi : ops[i]? = some oi := by rfl) (hk : oi.dst = some k := by rfl) (hd : waits md ops d i = true := by kernel_rfl)
  (hs : Region.noSelect ops = true := by kernel_rfl) (hf : Region.free md ops listed i = true := by kernel_rfl) (hr : (Region.ready md ops listed).contains i = true := by kernel_rfl)
  (hQ : ∀ c a w, Q (.panic c) (a.put oi.dst undef) w → Q (.panic c) a w := by exact fun _ _ _ h => h) (hw : Region.wanted oi (yielded ops l.toArray) = false := by kernel_rfl) (hS : S w := by assumption) :
  wpAnyC P md ops Q S d (fuel + 1) listed ⟨l.toArray, df⟩ w :=
 wpAnyL_take hi hd hs hf hr hQ (.inr ⟨hw, rfl⟩) hS (by rw [hk]; simpa [Act.put] using h)
end
end Go.Proofs.YtampniiehgimhaaGreat
