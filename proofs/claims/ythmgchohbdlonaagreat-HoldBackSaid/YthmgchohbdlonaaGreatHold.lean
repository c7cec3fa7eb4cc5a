/- hold: the keys, New, Free -/
import Derived.Test.YthmgchohbdlonaaGreatRows
import Derived.Test.YthmgchohbdlonaaGreatChTurn
import Derived.WalkKit
import Derived.WalkSpells
import Derived.WalkLawsBesides
import Derived.Deep.QuietTactic
import Derived.BigQuiet
import Derived.Laws.StructEq
import Derived.Deep.DeepFit
import Derived.StillTailTactics
namespace Go.Proofs.YthmgchohbdlonaaGreat
open Go.RowKit
/-- hold.key -/
structure Hk where
  acct : ByteArray
  num : Int
theorem Hk.ext_ {a b : Hk} (h1 : a.acct = b.acct) (h2 : a.num = b.num) : a = b := by cases a; cases b; simp_all
instance : DecidableEq Hk := fun a b => if h : a.acct = b.acct ∧ a.num = b.num then isTrue (Hk.ext_ h.1 h.2) else isFalse (fun e => h (by rw [e]; exact ⟨rfl, rfl⟩))
abbrev Hk.v (x : Hk) : Value := .agg #[.string x.acct, i64 x.num]
theorem check_hk (empty : Bool) (n : Nat) (k : Hk) (w : World) : (Instr.checkKey empty (n + 2) 73 k.v).run Tryz.prog w = .ok () w := by
  have u3 := Tryz.underlying3
  have a3 := Tryz.isAgg3
  have z3 := Tryz.sizeOf3
  have u9 := Tryz.underlying9
  have a9 := Tryz.isAgg9
  have z9 := Tryz.sizeOf9
  rw [Instr.checkKey]
  simp only [Sem.run_bind, run_underlying Tryz.underlying73, Result.andThen_ok, Hk.v]
  go_simp
  simp [check_int, check_str]
theorem bits_hk (n : Nat) (k : Hk) : Instr.sameBits (n + 1) k.v k.v = true := by
  simp [Instr.sameBits, beqS_self]
theorem hkKey : KeyFit Tryz.prog 73 Hk.v :=
  fit_asking (d := .struct (Tryz.prog.fieldsOf 73)) (by kernel_rfl) (fun a b => rfl) (fun a b w => by
      have u3 := Tryz.underlying3
      have a3 := Tryz.isAgg3
      have z3 := Tryz.sizeOf3
      have u9 := Tryz.underlying9
      have a9 := Tryz.isAgg9
      have z9 := Tryz.sizeOf9
      have hS : Tryz.prog.underlying 73 = some (.struct (Tryz.prog.fieldsOf 73)) := by kernel_rfl
      have hp : Tryz.prog.stoodInHeld 73 = false := by kernel_rfl
      simp only [Op.equal, Op.maxDepth]
      rw [show (10000 : Nat) = 9999 + 1 from rfl, run_equalIn_agg w 9999 73 _ _ hS hp]
      simp only [Program.fieldsOf, Tryz.underlying73]
      go_simp
      by_cases h1 : a.acct = b.acct
      · by_cases h2 : a.num = b.num
        · rw [decide_eq_true (Hk.ext_ h1 h2)]; simp [h1, h2]
        · rw [decide_eq_false (fun e => h2 (by rw [e]))]; simp [h1, h2]
      · have t1 := beqS_of_ne h1
        have t2 : ¬ a.acct.toList = b.acct.toList := by simpa using t1
        rw [decide_eq_false (fun e => h1 (by rw [e]))]; simp [t2])
    (fun empty k w => check_hk empty 9998 k w) (fun k => bits_hk 9999 k)
def hv (H : List (Hk × Int)) : List (Hk × Value) := H.map fun p => (p.1, i64 p.2)
theorem getM_hv (H : List (Hk × Int)) (k : Hk) : getM (hv H) k = (getM H k).map i64 := by
  unfold getM hv
  induction H with
  | nil => rfl
  | cons p r ih =>
    rw [List.map_cons]
    by_cases h : p.1 = k
    · rw [List.find?_cons_of_pos (by simpa using h), List.find?_cons_of_pos (by simpa using h)]
      rfl
    · rw [List.find?_cons_of_neg (by simpa using h), List.find?_cons_of_neg (by simpa using h)]
      exact ih
theorem putM_hv (H : List (Hk × Int)) (k : Hk) (a : Int) : putM (hv H) k (i64 a) = hv (putM H k a) := by
  unfold putM hv
  rw [List.any_map]
  by_cases h : (H.any fun p => decide (p.1 = k)) = true
  · rw [if_pos h, if_pos (by simpa [Function.comp_def] using h), List.map_map, List.map_map]
    refine List.map_congr_left fun p _ => ?_
    simp only [Function.comp_def]
    split <;> rfl
  · rw [if_neg h, if_neg (by simpa [Function.comp_def] using h), List.map_append]
    rfl
theorem delM_hv (H : List (Hk × Int)) (k : Hk) : delM (hv H) k = hv (delM H k) := by
  unfold delM hv
  rw [List.filter_map]
  rfl
/-- block g holds holds, whose map lies in block b -/
structure HoIs (w : World) (g b : Nat) (H : List (Hk × Int)) : Prop where
  ne : b ≠ g
  cell : w.heap[g]? = some (.cells #[.map (some b)] 66 (0, 0))
  map : MapIs Hk.v w b (hv H)
theorem HoIs.kept {w w' : World} {g b : Nat} {H : List (Hk × Int)} {row : Option Nat} (h : HoIs w g b H) (hk : w.grownBy w' row) (h1 : some g ≠ row) (h2 : some b ≠ row) : HoIs w' g b H :=
  ⟨h.ne, (hk.block g (Array.getElem?_eq_some_iff.1 h.cell).1 h1).trans h.cell, h.map.kept hk h2⟩
theorem HoIs.later {w w' : World} {g b : Nat} {H : List (Hk × Int)} (h : HoIs w g b H) (hb : Below w.heap.size w w') : HoIs w' g b H := h.kept (grown_of_below hb none) (by simp) (by simp)
theorem HoIs.lt {w : World} {g b : Nat} {H : List (Hk × Int)} (h : HoIs w g b H) : g < w.heap.size ∧ b < w.heap.size := ⟨(Array.getElem?_eq_some_iff.1 h.cell).1, h.map.lt⟩
set_option maxRecDepth 100000 in
set_option maxHeartbeats 2000000 in
theorem honew_c (w : World) : Calls Tryz.prog 8 #[] w fun e w' => e = .returned (.pointer (some ⟨w.heap.size + 1, 0, none⟩)) ∧ HoIs w' (w.heap.size + 1) w.heap.size [] ∧ Below w.heap.size w w' := by
  have hmm := @run_makeMap Tryz.prog
  go_enter Tryz.func8, Tryz.ntmps8
  go_wp2
  go_ret
  have hB := ((Below.refl w.heap.size w).alloc (Nat.le_refl _) (.map #[] 0)).alloc (by simp) (.cells #[.map (some w.heap.size)] 66)
  exact ⟨rfl, ⟨by omega, heap_alloc2_new w _ _, (MapIs.made (enc := Hk.v) w).later ((Below.refl _ _).alloc (Nat.le_refl _) _)⟩, hB⟩
/-- hold.Free: what is told, the accounts, the holds -/
def freeH (M : List (ByteArray × Ac)) (H : List (Hk × Int)) (k : ByteArray) (n : Int) : Int × List (ByteArray × Ac) × List (Hk × Int) := match getM H ⟨k, n⟩ with
  | none => (6, M, H)
  | some s => ((turnC (asiD (-s)) M k (-s)).1, (turnC (asiD (-s)) M k (-s)).2, if (turnC (asiD (-s)) M k (-s)).1 = 0 then delM H ⟨k, n⟩ else H)
/-- nothing of w has turned but blocks b and c -/
structure G2 (w w' : World) (b c : Nat) : Prop where
  os : w'.os = w.os
  tape : w'.tape = w.tape
  output : w'.output = w.output
  size : w.heap.size ≤ w'.heap.size
  block : ∀ k, k < w.heap.size → k ≠ b → k ≠ c → w'.heap[k]? = w.heap[k]?
theorem G2.fst {w w' : World} {b : Nat} (h : w.grownBy w' (some b)) (c : Nat) : G2 w w' b c := ⟨h.os, h.tape, h.output, h.size, fun k hk h1 _ => h.block k hk (fun e => h1 (by injection e))⟩
theorem G2.snd {w w' : World} {c : Nat} (h : w.grownBy w' (some c)) (b : Nat) : G2 w w' b c := ⟨h.os, h.tape, h.output, h.size, fun k hk _ h2 => h.block k hk (fun e => h2 (by injection e))⟩
theorem G2.of_below {w w' : World} (h : Below w.heap.size w w') (b c : Nat) : G2 w w' b c := G2.fst (grown_of_below h (some b)) c
theorem G2.trans {w w' w'' : World} {b c : Nat} (h : G2 w w' b c) (k : G2 w' w'' b c) : G2 w w'' b c := ⟨k.os.trans h.os, k.tape.trans h.tape, k.output.trans h.output, Nat.le_trans h.size k.size, fun n hn h1 h2 => (k.block n (Nat.lt_of_lt_of_le hn h.size) h1 h2).trans (h.block n hn h1 h2)⟩
set_option maxRecDepth 100000 in
set_option maxHeartbeats 8000000 in
theorem hofree_c (g b gh bh : Nat) (M : List (ByteArray × Ac)) (H : List (Hk × Int)) (k : ByteArray) (n : Int) (w : World) (h : ChIs w g b M) (hh : HoIs w gh bh H) (hd : gh ≠ b ∧ bh ≠ b ∧ g ≠ bh) (hM : ∀ y ∈ M, InA y.2) (hH : ∀ y ∈ H, 1 ≤ y.2 ∧ y.2 ≤ 9223372036854775807) :
    Calls Tryz.prog 21 #[.pointer (some ⟨gh, 0, none⟩), .pointer (some ⟨g, 0, none⟩), .string k, i64 n] w fun e w' => e = .returned (i64 (freeH M H k n).1) ∧ ChIs w' g b (freeH M H k n).2.1 ∧ HoIs w' gh bh (freeH M H k n).2.2 ∧ G2 w w' b bh := by
  have hb0 := (Below.refl w.heap.size w).alloc (Nat.le_refl _) (.cells #[.string k, i64 n] 73)
  have hk0 := heap_alloc_new w (.cells #[.string k, i64 n] 73)
  have h1 := h.later hb0
  have hh1 := hh.later hb0
  have hlk := run_lookup (P := Tryz.prog) hkKey Tryz.underlying64 (hh1.later (Below.refl _ _).drew).map ⟨k, n⟩ (i64 0) (by kernel_rfl) true
  rw [getM_hv] at hlk
  obtain ⟨o, ho⟩ : ∃ o, getM H ⟨k, n⟩ = o := ⟨_, rfl⟩
  rw [ho] at hlk
  have c0 := cell_of_row _ gh 0 _ _ (0, 0) hh1.cell
  have c1 := cell_of_row _ w.heap.size 0 _ _ (0, 0) hk0
  have c2 := cell_of_row _ w.heap.size 1 _ _ (0, 0) hk0
  simp only [List.getElem?_toArray, List.getElem?_cons_zero, List.getElem?_cons_succ] at c0 c1 c2
  have hlg := h.lt
  have hlh := hh.lt
  unfold Hk.v at hlk
  go_enter Tryz.func21, Tryz.ntmps21
  go_upto_region 4 with fail
  generalize w.alloc (.cells #[.string k, i64 n] 73) = w0 at *
  go_cut [10, 11] from 13 (fun s10 s11 wx => s10 = i64 (o.getD 0) ∧ s11 = .bool o.isSome ∧ w0.drew = wx)
  case first =>
    go_region_with fail
    all_goals (go_wp2_with fail; go_meet; exact ⟨rfl, by simp, rfl⟩)
  case rest =>
  obtain ⟨rfl, rfl, rfl⟩ := hcut
  have h2 := h1.later (Below.refl _ _).drew
  have hh2 := hh1.later (Below.refl _ _).drew
  have hb2 := hb0.drew
  have hk2 : w0.drew.heap[w.heap.size]? = some (.cells #[.string k, i64 n] 73 (0, 0)) := hk0
  generalize w0.drew = w1 at *
  clear hlk c0 c1 c2 hb0 hk0 h1 hh1 h hh
  cases o with
  | none =>
    have HR := Lib.hid (show freeH M H k n = (6, M, H) by unfold freeH; rw [ho])
    clear ho
    go_wp2
    go_ret
    exact ⟨by rw [HR.out]; rfl, by rw [HR.out]; exact h2, by rw [HR.out]; exact hh2, G2.of_below hb2 _ _⟩
  | some s =>
    have hs : 1 ≤ s ∧ s ≤ 9223372036854775807 := by
      unfold getM at ho
      rw [Option.map_eq_some_iff] at ho
      obtain ⟨p, hp, rfl⟩ := ho
      exact hH p (List.mem_of_find?_eq_some hp)
    have hA := Lib.hid (aside_c g b M k (-s) w1 h2 hM ⟨by omega, by omega⟩)
    have HR := Lib.hid (show freeH M H k n = ((turnC (asiD (-s)) M k (-s)).1, (turnC (asiD (-s)) M k (-s)).2, if (turnC (asiD (-s)) M k (-s)).1 = 0 then delM H ⟨k, n⟩ else H) by unfold freeH; rw [ho])
    generalize turnC (asiD (-s)) M k (-s) = T at *
    have hw : wrap64 (-s) = -s := by rw [← IntWalk.i64_left, IntKind.wrap_i64]; omega
    clear ho hM hH
    go_wp2_with fail
    refine hA.out.mono ?_
    rintro e w2 ⟨rfl, h3, hG⟩
    have hh3 := hh2.kept hG (fun e => by injection e with e; exact hd.1 e) (fun e => by injection e with e; exact hd.2.1 e)
    have hk3 := (hG.block _ (Array.getElem?_eq_some_iff.1 hk2).1 (fun e => by injection e with e; omega)).trans hk2
    have hg2 := (G2.of_below hb2 b bh).trans (G2.fst hG bh)
    clear hA h2 hh2 hk2 hG hb2
    by_cases ht : T.1 = 0
    · have g1 : (T.1 == 0) = true := by rw [ht]; rfl
      have HR2 := Lib.hid (show freeH M H k n = (T.1, T.2, delM H ⟨k, n⟩) by rw [HR.out, if_pos ht])
      clear ht HR
      have hh4 := hh3.later (Below.refl _ _).drew
      have h4 := h3.later (Below.refl _ _).drew
      obtain ⟨w5, hrun, hm5, hg5⟩ := run_del (P := Tryz.prog) hkKey Tryz.underlying64 hh4.map ⟨k, n⟩ 0 73
      rw [delM_hv] at hm5
      unfold Hk.v at hrun
      have c0 := cell_of_row _ gh 0 _ _ (0, 0) hh3.cell
      have c1 := cell_of_row _ w.heap.size 0 _ _ (0, 0) hk3
      have c2 := cell_of_row _ w.heap.size 1 _ _ (0, 0) hk3
      simp only [List.getElem?_toArray, List.getElem?_cons_zero, List.getElem?_cons_succ] at c0 c1 c2
      have HM := Lib.hid hm5
      have HG := Lib.hid hg5
      clear hm5 hg5
      go_wp2_with fail
      go_region_with fail
      all_goals (
        go_wp2
        go_ret
        exact ⟨by rw [HR2.out]; rfl, by rw [HR2.out]; exact h4.kept HG.out (fun e => by injection e with e; exact hd.2.2 e) (fun e => by injection e with e; exact hd.2.1 e.symm), by rw [HR2.out]; exact ⟨hh4.ne, (HG.out.block gh hh4.lt.1 (fun e => hh4.ne (by injection e with e; exact e.symm))).trans hh4.cell, HM.out⟩, (hg2.trans (G2.of_below (Below.refl _ _).drew _ _)).trans (G2.snd HG.out b)⟩)
    · have g1 : (T.1 == 0) = false := beq_eq_false_iff_ne.2 ht
      have HR2 := Lib.hid (show freeH M H k n = (T.1, T.2, H) by rw [HR.out, if_neg ht])
      clear ht HR
      go_wp2
      go_ret
      exact ⟨by rw [HR2.out]; rfl, by rw [HR2.out]; exact h3, by rw [HR2.out]; exact hh3, hg2⟩
end Go.Proofs.YthmgchohbdlonaaGreat
