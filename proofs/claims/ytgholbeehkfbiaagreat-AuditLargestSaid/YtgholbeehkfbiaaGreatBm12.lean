/- Texts of this claim, laid together: Hold, Held, FnH, CopyM, Hcmp, HoAll, HoOf. -/
import Derived.Test.YtgholbeehkfbiaaGreatRows
import Derived.Test.YtgholbeehkfbiaaGreatBm11
import Derived.WalkKit
import Derived.WalkSpells
import Derived.WalkLawsBesides
import Derived.Deep.QuietTactic
import Derived.BigQuiet
import Derived.Laws.StructEq
import Derived.Deep.DeepFit
import Derived.StillTailTactics
import Derived.Test.YtgholbeehkfbiaaGreatBm8
import Derived.Test.YtgholbeehkfbiaaGreatBm10
import Derived.Deep.RegionHeld3
import Derived.Test.YtgholbeehkfbiaaGreatBm1
import Derived.Test.YtgholbeehkfbiaaGreatShelf
import Derived.Shelf.SlMaps.Clone
import Derived.Test.YtgholbeehkfbiaaGreatShelfS

/- hold: the keys, New, Free -/
namespace Go.Proofs.YtgholbeehkfbiaaGreat
open Go.RowKit
/-- hold.key -/
structure Hk where
  acct : ByteArray
  num : Int
theorem Hk.ext_ {a b : Hk} (h1 : a.acct = b.acct) (h2 : a.num = b.num) : a = b := by cases a; cases b; simp_all
instance : DecidableEq Hk := fun a b => if h : a.acct = b.acct ∧ a.num = b.num then isTrue (Hk.ext_ h.1 h.2) else isFalse (fun e => h (by rw [e]; exact ⟨rfl, rfl⟩))
abbrev Hk.v (x : Hk) : Value := .agg #[.string x.acct, i64 x.num]
theorem check_hk (empty : Bool) (n : Nat) (k : Hk) (w : World) : (Instr.checkKey empty (n + 2) 234 k.v).run Tryz.prog w = .ok () w := by
  have u3 := Tryz.underlying3
  have a3 := Tryz.isAgg3
  have z3 := Tryz.sizeOf3
  have u9 := Tryz.underlying9
  have a9 := Tryz.isAgg9
  have z9 := Tryz.sizeOf9
  rw [Instr.checkKey]
  simp only [Sem.run_bind, run_underlying Tryz.underlying234, Result.andThen_ok, Hk.v]
  go_simp
  simp [check_int, check_str]
theorem bits_hk (n : Nat) (k : Hk) : Instr.sameBits (n + 1) k.v k.v = true := by
  simp [Instr.sameBits, beqS_self]
theorem hkKey : KeyFit Tryz.prog 234 Hk.v :=
  fit_asking (d := .struct (Tryz.prog.fieldsOf 234)) (by kernel_rfl) (fun a b => rfl) (fun a b w => by
      have u3 := Tryz.underlying3
      have a3 := Tryz.isAgg3
      have z3 := Tryz.sizeOf3
      have u9 := Tryz.underlying9
      have a9 := Tryz.isAgg9
      have z9 := Tryz.sizeOf9
      have hS : Tryz.prog.underlying 234 = some (.struct (Tryz.prog.fieldsOf 234)) := by kernel_rfl
      have hp : Tryz.prog.stoodInHeld 234 = false := by kernel_rfl
      simp only [Op.equal, Op.maxDepth]
      rw [show (10000 : Nat) = 9999 + 1 from rfl, run_equalIn_agg w 9999 234 _ _ hS hp]
      simp only [Program.fieldsOf, Tryz.underlying234]
      go_simp
      by_cases h1 : a.acct = b.acct
      · by_cases h2 : a.num = b.num
        · rw [decide_eq_true (Hk.ext_ h1 h2)]; simp [h1, h2]
        · rw [decide_eq_false (fun e => h2 (by rw [e]))]; simp [h1, h2]
      · have t1 := beqS_of_ne h1
        have t2 : ¬ a.acct.toList = b.acct.toList := by simpa using t1
        rw [decide_eq_false (fun e => h1 (by rw [e]))]; simp [t2])
    (fun empty k w => check_hk empty 9998 k w) (fun k => bits_hk 9999 k)
def hv (H : List (Hk × Int)) : List (Hk × Value) := H.map fun p => (p.1, i64 p.2)
theorem getM_hv (H : List (Hk × Int)) (k : Hk) : getM (hv H) k = (getM H k).map i64 := by
  unfold getM hv
  induction H with
  | nil => rfl
  | cons p r ih =>
    rw [List.map_cons]
    by_cases h : p.1 = k
    · rw [List.find?_cons_of_pos (by simpa using h), List.find?_cons_of_pos (by simpa using h)]
      rfl
    · rw [List.find?_cons_of_neg (by simpa using h), List.find?_cons_of_neg (by simpa using h)]
      exact ih
theorem putM_hv (H : List (Hk × Int)) (k : Hk) (a : Int) : putM (hv H) k (i64 a) = hv (putM H k a) := by
  unfold putM hv
  rw [List.any_map]
  by_cases h : (H.any fun p => decide (p.1 = k)) = true
  · rw [if_pos h, if_pos (by simpa [Function.comp_def] using h), List.map_map, List.map_map]
    refine List.map_congr_left fun p _ => ?_
    simp only [Function.comp_def]
    split <;> rfl
  · rw [if_neg h, if_neg (by simpa [Function.comp_def] using h), List.map_append]
    rfl
theorem delM_hv (H : List (Hk × Int)) (k : Hk) : delM (hv H) k = hv (delM H k) := by
  unfold delM hv
  rw [List.filter_map]
  rfl
/-- block g holds holds, whose map lies in block b -/
structure HoIs (w : World) (g b : Nat) (H : List (Hk × Int)) : Prop where
  ne : b ≠ g
  cell : w.heap[g]? = some (.cells #[.map (some b)] 201 (0, 0))
  map : MapIs Hk.v w b (hv H)
theorem HoIs.kept {w w' : World} {g b : Nat} {H : List (Hk × Int)} {row : Option Nat} (h : HoIs w g b H) (hk : w.grownBy w' row) (h1 : some g ≠ row) (h2 : some b ≠ row) : HoIs w' g b H :=
  ⟨h.ne, (hk.block g (Array.getElem?_eq_some_iff.1 h.cell).1 h1).trans h.cell, h.map.kept hk h2⟩
theorem HoIs.later {w w' : World} {g b : Nat} {H : List (Hk × Int)} (h : HoIs w g b H) (hb : Below w.heap.size w w') : HoIs w' g b H := h.kept (grown_of_below hb none) (by simp) (by simp)
theorem HoIs.lt {w : World} {g b : Nat} {H : List (Hk × Int)} (h : HoIs w g b H) : g < w.heap.size ∧ b < w.heap.size := ⟨(Array.getElem?_eq_some_iff.1 h.cell).1, h.map.lt⟩
set_option maxRecDepth 100000 in
set_option maxHeartbeats 2000000 in
theorem honew_c (w : World) : Calls Tryz.prog 64 #[] w fun e w' => e = .returned (.pointer (some ⟨w.heap.size + 1, 0, none⟩)) ∧ HoIs w' (w.heap.size + 1) w.heap.size [] ∧ Below w.heap.size w w' := by
  have hmm := @run_makeMap Tryz.prog
  go_enter Tryz.func64, Tryz.ntmps64
  go_wp2
  go_ret
  have hB := ((Below.refl w.heap.size w).alloc (Nat.le_refl _) (.map #[] 0)).alloc (by simp) (.cells #[.map (some w.heap.size)] 201)
  exact ⟨rfl, ⟨by omega, heap_alloc2_new w _ _, (MapIs.made (enc := Hk.v) w).later ((Below.refl _ _).alloc (Nat.le_refl _) _)⟩, hB⟩
/-- hold.Free: what is told, the accounts, the holds -/
def freeH (M : List (ByteArray × Ac)) (H : List (Hk × Int)) (k : ByteArray) (n : Int) : Int × List (ByteArray × Ac) × List (Hk × Int) := match getM H ⟨k, n⟩ with
  | none => (6, M, H)
  | some s => ((turnC (asiD (-s)) M k (-s)).1, (turnC (asiD (-s)) M k (-s)).2, if (turnC (asiD (-s)) M k (-s)).1 = 0 then delM H ⟨k, n⟩ else H)
/-- nothing of w has turned but blocks b and c -/
structure G2 (w w' : World) (b c : Nat) : Prop where
  os : w'.os = w.os
  tape : w'.tape = w.tape
  output : w'.output = w.output
  size : w.heap.size ≤ w'.heap.size
  block : ∀ k, k < w.heap.size → k ≠ b → k ≠ c → w'.heap[k]? = w.heap[k]?
theorem G2.fst {w w' : World} {b : Nat} (h : w.grownBy w' (some b)) (c : Nat) : G2 w w' b c := ⟨h.os, h.tape, h.output, h.size, fun k hk h1 _ => h.block k hk (fun e => h1 (by injection e))⟩
theorem G2.snd {w w' : World} {c : Nat} (h : w.grownBy w' (some c)) (b : Nat) : G2 w w' b c := ⟨h.os, h.tape, h.output, h.size, fun k hk _ h2 => h.block k hk (fun e => h2 (by injection e))⟩
theorem G2.of_below {w w' : World} (h : Below w.heap.size w w') (b c : Nat) : G2 w w' b c := G2.fst (grown_of_below h (some b)) c
theorem G2.trans {w w' w'' : World} {b c : Nat} (h : G2 w w' b c) (k : G2 w' w'' b c) : G2 w w'' b c := ⟨k.os.trans h.os, k.tape.trans h.tape, k.output.trans h.output, Nat.le_trans h.size k.size, fun n hn h1 h2 => (k.block n (Nat.lt_of_lt_of_le hn h.size) h1 h2).trans (h.block n hn h1 h2)⟩
set_option maxRecDepth 100000 in
set_option maxHeartbeats 8000000 in
theorem hofree_c (g b gh bh : Nat) (M : List (ByteArray × Ac)) (H : List (Hk × Int)) (k : ByteArray) (n : Int) (w : World) (h : ChIs w g b M) (hh : HoIs w gh bh H) (hd : gh ≠ b ∧ bh ≠ b ∧ g ≠ bh) (hM : ∀ y ∈ M, InA y.2) (hH : ∀ y ∈ H, 1 ≤ y.2 ∧ y.2 ≤ 9223372036854775807) :
    Calls Tryz.prog 178 #[.pointer (some ⟨gh, 0, none⟩), .pointer (some ⟨g, 0, none⟩), .string k, i64 n] w fun e w' => e = .returned (i64 (freeH M H k n).1) ∧ ChIs w' g b (freeH M H k n).2.1 ∧ HoIs w' gh bh (freeH M H k n).2.2 ∧ G2 w w' b bh := by
  have hb0 := (Below.refl w.heap.size w).alloc (Nat.le_refl _) (.cells #[.string k, i64 n] 234)
  have hk0 := heap_alloc_new w (.cells #[.string k, i64 n] 234)
  have h1 := h.later hb0
  have hh1 := hh.later hb0
  have hlk := run_lookup (P := Tryz.prog) hkKey Tryz.underlying199 (hh1.later (Below.refl _ _).drew).map ⟨k, n⟩ (i64 0) (by kernel_rfl) true
  rw [getM_hv] at hlk
  obtain ⟨o, ho⟩ : ∃ o, getM H ⟨k, n⟩ = o := ⟨_, rfl⟩
  rw [ho] at hlk
  have c0 := cell_of_row _ gh 0 _ _ (0, 0) hh1.cell
  have c1 := cell_of_row _ w.heap.size 0 _ _ (0, 0) hk0
  have c2 := cell_of_row _ w.heap.size 1 _ _ (0, 0) hk0
  simp only [List.getElem?_toArray, List.getElem?_cons_zero, List.getElem?_cons_succ] at c0 c1 c2
  have hlg := h.lt
  have hlh := hh.lt
  unfold Hk.v at hlk
  go_enter Tryz.func178, Tryz.ntmps178
  go_upto_region 4 with fail
  generalize w.alloc (.cells #[.string k, i64 n] 234) = w0 at *
  go_cut [10, 11] from 13 (fun s10 s11 wx => s10 = i64 (o.getD 0) ∧ s11 = .bool o.isSome ∧ w0.drew = wx)
  case first =>
    go_region_with fail
    all_goals (go_wp2_with fail; go_meet; exact ⟨rfl, by simp, rfl⟩)
  case rest =>
  obtain ⟨rfl, rfl, rfl⟩ := hcut
  have h2 := h1.later (Below.refl _ _).drew
  have hh2 := hh1.later (Below.refl _ _).drew
  have hb2 := hb0.drew
  have hk2 : w0.drew.heap[w.heap.size]? = some (.cells #[.string k, i64 n] 234 (0, 0)) := hk0
  generalize w0.drew = w1 at *
  clear hlk c0 c1 c2 hb0 hk0 h1 hh1 h hh
  cases o with
  | none =>
    have HR := Lib.hid (show freeH M H k n = (6, M, H) by unfold freeH; rw [ho])
    clear ho
    go_wp2
    go_ret
    exact ⟨by rw [HR.out]; rfl, by rw [HR.out]; exact h2, by rw [HR.out]; exact hh2, G2.of_below hb2 _ _⟩
  | some s =>
    have hs : 1 ≤ s ∧ s ≤ 9223372036854775807 := by
      unfold getM at ho
      rw [Option.map_eq_some_iff] at ho
      obtain ⟨p, hp, rfl⟩ := ho
      exact hH p (List.mem_of_find?_eq_some hp)
    have hA := Lib.hid (aside_c g b M k (-s) w1 h2 hM ⟨by omega, by omega⟩)
    have HR := Lib.hid (show freeH M H k n = ((turnC (asiD (-s)) M k (-s)).1, (turnC (asiD (-s)) M k (-s)).2, if (turnC (asiD (-s)) M k (-s)).1 = 0 then delM H ⟨k, n⟩ else H) by unfold freeH; rw [ho])
    generalize turnC (asiD (-s)) M k (-s) = T at *
    have hw : wrap64 (-s) = -s := by rw [← IntWalk.i64_left, IntKind.wrap_i64]; omega
    clear ho hM hH
    go_wp2_with fail
    refine hA.out.mono ?_
    rintro e w2 ⟨rfl, h3, hG⟩
    have hh3 := hh2.kept hG (fun e => by injection e with e; exact hd.1 e) (fun e => by injection e with e; exact hd.2.1 e)
    have hk3 := (hG.block _ (Array.getElem?_eq_some_iff.1 hk2).1 (fun e => by injection e with e; omega)).trans hk2
    have hg2 := (G2.of_below hb2 b bh).trans (G2.fst hG bh)
    clear hA h2 hh2 hk2 hG hb2
    by_cases ht : T.1 = 0
    · have g1 : (T.1 == 0) = true := by rw [ht]; rfl
      have HR2 := Lib.hid (show freeH M H k n = (T.1, T.2, delM H ⟨k, n⟩) by rw [HR.out, if_pos ht])
      clear ht HR
      have hh4 := hh3.later (Below.refl _ _).drew
      have h4 := h3.later (Below.refl _ _).drew
      obtain ⟨w5, hrun, hm5, hg5⟩ := run_del (P := Tryz.prog) hkKey Tryz.underlying199 hh4.map ⟨k, n⟩ 0 234
      rw [delM_hv] at hm5
      unfold Hk.v at hrun
      have c0 := cell_of_row _ gh 0 _ _ (0, 0) hh3.cell
      have c1 := cell_of_row _ w.heap.size 0 _ _ (0, 0) hk3
      have c2 := cell_of_row _ w.heap.size 1 _ _ (0, 0) hk3
      simp only [List.getElem?_toArray, List.getElem?_cons_zero, List.getElem?_cons_succ] at c0 c1 c2
      have HM := Lib.hid hm5
      have HG := Lib.hid hg5
      clear hm5 hg5
      go_wp2_with fail
      go_region_with fail
      all_goals (
        go_wp2
        go_ret
        exact ⟨by rw [HR2.out]; rfl, by rw [HR2.out]; exact h4.kept HG.out (fun e => by injection e with e; exact hd.2.2 e) (fun e => by injection e with e; exact hd.2.1 e.symm), by rw [HR2.out]; exact ⟨hh4.ne, (HG.out.block gh hh4.lt.1 (fun e => hh4.ne (by injection e with e; exact e.symm))).trans hh4.cell, HM.out⟩, (hg2.trans (G2.of_below (Below.refl _ _).drew _ _)).trans (G2.snd HG.out b)⟩)
    · have g1 : (T.1 == 0) = false := beq_eq_false_iff_ne.2 ht
      have HR2 := Lib.hid (show freeH M H k n = (T.1, T.2, H) by rw [HR.out, if_neg ht])
      clear ht HR
      go_wp2
      go_ret
      exact ⟨by rw [HR2.out]; rfl, by rw [HR2.out]; exact h3, by rw [HR2.out]; exact hh3, hg2⟩
end Go.Proofs.YtgholbeehkfbiaaGreat

/- hold.Held: data; cmp.Compare, cmp.Or; the order of holds -/
namespace Go.Proofs.YtgholbeehkfbiaaGreat
open Go.RowKit
/-- hold.Held -/
structure Held where
  num : Int
  acct : ByteArray
  sum : Int
instance : Inhabited Held := ⟨⟨0, ⟨#[]⟩, 0⟩⟩
abbrev Held.v (x : Held) : Value := .agg #[i64 x.num, .string x.acct, i64 x.sum]
instance encHeld : Enc Held where
  size := 3
  cells x := [i64 x.num, .string x.acct, i64 x.sum]
  val := Held.v
  ok _ _ x := x.acct.size ≤ maxLen
  len _ := rfl
  one _ v hv := by simp only [List.mem_cons, List.not_mem_nil, or_false] at hv; rcases hv with rfl | rfl | rfl <;> rfl
  keep h _ _ := h
theorem Held.ext_ {a b : Held} (h1 : a.num = b.num) (h2 : a.acct = b.acct) (h3 : a.sum = b.sum) : a = b := by cases a; cases b; simp_all
instance : DecidableEq Held := fun a b => if h : a.num = b.num ∧ a.acct = b.acct ∧ a.sum = b.sum then isTrue (Held.ext_ h.1 h.2.1 h.2.2) else isFalse (fun e => h (by rw [e]; exact ⟨rfl, rfl, rfl⟩))
theorem SlS.held {w : World} {S : Nat → Prop} {c : Nat} {A : Option Addr} {l : List Held} (h : SlS w S A c l) {k : Nat} (hk : k < l.length) : ∃ b o, A = some ⟨b, o, none⟩ ∧ S b ∧ l[k].acct.size ≤ maxLen ∧
    w.cell? ⟨b, o + k * 3, none⟩ = some (i64 l[k].num) ∧ w.cell? ⟨b, o + k * 3 + 1, none⟩ = some (.string l[k].acct) ∧ w.cell? ⟨b, o + k * 3 + 2, none⟩ = some (i64 l[k].sum) := by
  obtain ⟨b, o, hA, hb, hok, hc⟩ := h.at_ hk
  exact ⟨b, o, hA, hb, hok, hc 0 _ rfl, hc 1 _ rfl, hc 2 _ rfl⟩
def Held.key (x : Held) : Hk := ⟨x.acct, x.num⟩
def ltH (a b : Held) : Bool := bless a.acct b.acct || (decide (a.acct = b.acct) && decide (a.num < b.num))
theorem keyH : KeyOrd ltH Held.key where
  strict := by
    refine ⟨fun a => by unfold ltH; rw [bless_strict.irr]; simp, fun a b c h1 h2 => ?_, fun a b c h1 h2 => ?_⟩
    · unfold ltH at *
      simp only [Bool.or_eq_true, Bool.and_eq_true, decide_eq_true_eq] at *
      rcases h1 with h1 | ⟨h1, h1'⟩
      · rcases h2 with h2 | ⟨h2, h2'⟩
        · exact .inl (bless_strict.trans _ _ _ h1 h2)
        · rw [← h2]; exact .inl h1
      · rcases h2 with h2 | ⟨h2, h2'⟩
        · rw [h1]; exact .inl h2
        · exact .inr ⟨h1.trans h2, by omega⟩
    · unfold ltH at *
      simp only [Bool.or_eq_false_iff, Bool.and_eq_false_iff, decide_eq_false_iff_not] at *
      refine ⟨bless_strict.co _ _ _ h1.1 h2.1, ?_⟩
      by_cases e : a.acct = c.acct
      · right
        have e1 : a.acct = b.acct := bless_tri h1.1 (by rw [e]; exact h2.1)
        have e2 : b.acct = c.acct := by rw [← e1]; exact e
        have := h1.2.resolve_left (fun h => h e1)
        have := h2.2.resolve_left (fun h => h e2)
        omega
      · exact .inl e
  ne a b h e := by
    unfold Held.key at e
    injection e with e1 e2
    unfold ltH at h
    rw [e1, bless_strict.irr, e2] at h
    simp at h
  co a b h := by
    unfold ltH
    by_cases e : a.acct = b.acct
    · have : a.num ≠ b.num := fun e2 => h (by unfold Held.key; rw [e, e2])
      rcases Int.lt_or_gt_of_ne this with h1 | h1
      · left; simp [e, h1]
      · right; simp [e, h1]
    · cases h1 : bless a.acct b.acct with
      | true => left; simp
      | false =>
        cases h2 : bless b.acct a.acct with
        | true => right; simp
        | false => exact absurd (bless_tri h1 h2) e
  eq a b h c := by
    unfold Held.key at h
    injection h with e1 e2
    unfold ltH
    rw [e1, e2]
    exact ⟨rfl, rfl⟩
/-- cmp.Compare -/
def cmpS (s t : ByteArray) : Int := if bless s t then -1 else if bless t s then 1 else 0
def cmpN (s t : Int) : Int := if s < t then -1 else if t < s then 1 else 0
set_option maxRecDepth 100000 in
set_option maxHeartbeats 400000 in
theorem isNaNs_c (s : ByteArray) (w : World) : Calls Tryz.prog 194 #[.string s] w fun e w' => e = .returned (.bool false) ∧ w = w' := by
  have e1 := beqS_of_eq (rfl : s = s)
  go_enter Tryz.func194, Tryz.ntmps194
  go_wp2
  go_ret
  exact ⟨rfl, rfl⟩
set_option maxRecDepth 100000 in
set_option maxHeartbeats 400000 in
theorem isNaNn_c (s : Int) (w : World) : Calls Tryz.prog 195 #[i64 s] w fun e w' => e = .returned (.bool false) ∧ w = w' := by
  go_enter Tryz.func195, Tryz.ntmps195
  go_wp2
  go_ret
  exact ⟨rfl, rfl⟩
set_option maxRecDepth 100000 in
set_option maxHeartbeats 2000000 in
theorem cmpS_c (s t : ByteArray) (w : World) : Calls Tryz.prog 150 #[.string s, .string t] w fun e w' => e = .returned (i64 (cmpS s t)) ∧ w = w' := by
  have HC := Lib.hid (show cmpS s t = if bless s t then -1 else if bless t s then 1 else 0 from rfl)
  generalize cmpS s t = r at *
  go_enter Tryz.func150, Tryz.ntmps150
  go_wp2_with fail
  refine (isNaNs_c _ _).mono ?_
  rintro e w1 ⟨rfl, rfl⟩
  go_wp2_with fail
  refine (isNaNs_c _ _).mono ?_
  rintro e w1 ⟨rfl, rfl⟩
  cases h1 : bless s t with
  | true =>
    have g1 : Op.bytesLess s.toList t.toList = true := h1
    have HR := Lib.hid (show r = -1 by rw [HC.out, h1]; rfl)
    clear h1
    go_wp2
    go_ret
    exact ⟨by rw [HR.out]; rfl, rfl⟩
  | false =>
    have g1 : Op.bytesLess s.toList t.toList = false := h1
    cases h2 : bless t s with
    | true =>
      have g2 : (s.toList == t.toList) = false := beqS_of_ne (fun e => by rw [e, bless_strict.irr] at h2; cases h2)
      have HR := Lib.hid (show r = 1 by rw [HC.out, h1, h2]; rfl)
      clear h1 h2
      go_wp2
      go_ret
      exact ⟨by rw [HR.out]; rfl, rfl⟩
    | false =>
      have g2 : (s.toList == t.toList) = true := beqS_of_eq (bless_tri h1 h2)
      have HR := Lib.hid (show r = 0 by rw [HC.out, h1, h2]; rfl)
      clear h1 h2
      go_wp2
      go_ret
      exact ⟨by rw [HR.out]; rfl, rfl⟩
set_option maxRecDepth 100000 in
set_option maxHeartbeats 2000000 in
theorem cmpN_c (s t : Int) (w : World) : Calls Tryz.prog 151 #[i64 s, i64 t] w fun e w' => e = .returned (i64 (cmpN s t)) ∧ w = w' := by
  have HC := Lib.hid (show cmpN s t = if s < t then -1 else if t < s then 1 else 0 from rfl)
  generalize cmpN s t = r at *
  go_enter Tryz.func151, Tryz.ntmps151
  go_wp2_with fail
  refine (isNaNn_c _ _).mono ?_
  rintro e w1 ⟨rfl, rfl⟩
  go_wp2_with fail
  refine (isNaNn_c _ _).mono ?_
  rintro e w1 ⟨rfl, rfl⟩
  by_cases h1 : s < t
  · have g1 : decide (s < t) = true := decide_eq_true h1
    have HR := Lib.hid (show r = -1 by rw [HC.out, if_pos h1])
    clear h1
    go_wp2
    go_ret
    exact ⟨by rw [HR.out]; rfl, rfl⟩
  · have g1 : decide (s < t) = false := decide_eq_false h1
    by_cases h2 : t < s
    · have g2 : decide (t < s) = true := decide_eq_true h2
      have HR := Lib.hid (show r = 1 by rw [HC.out, if_neg h1, if_pos h2])
      clear h1 h2
      go_wp2
      go_ret
      exact ⟨by rw [HR.out]; rfl, rfl⟩
    · have g2 : decide (t < s) = false := decide_eq_false h2
      have HR := Lib.hid (show r = 0 by rw [HC.out, if_neg h1, if_neg h2])
      clear h1 h2
      go_wp2
      go_ret
      exact ⟨by rw [HR.out]; rfl, rfl⟩
/-- cmp.Or at two ints -/
def orN (a b : Int) : Int := if a ≠ 0 then a else b
set_option maxRecDepth 100000 in
set_option maxHeartbeats 4000000 in
theorem or2_c (a b : Int) (g : Nat) (w : World) (h0 : w.cell? ⟨g, 0, none⟩ = some (i64 a)) (h1 : w.cell? ⟨g, 1, none⟩ = some (i64 b)) :
    Calls Tryz.prog 149 #[.slice (some ⟨g, 0, none⟩) 2 2] w fun e w' => e = .returned (i64 (orN a b)) ∧ w = w' := by
  have HC := Lib.hid (show orN a b = if a ≠ 0 then a else b from rfl)
  generalize orN a b = r at *
  go_enter Tryz.func149, Tryz.ntmps149
  go_wp2
  by_cases ha : a = 0
  · have HR := Lib.hid (show r = b by rw [HC.out, if_neg (by simpa using ha)])
    subst ha
    refine wp_loop_rounds 3 ?_
    rw [rounds_succ]
    by_cases hb : b = 0
    · have HR := Lib.hid (show r = 0 by rw [HR.out, hb])
      subst hb
      go_wp2
      rw [rounds_succ]
      go_wp2
      rw [rounds_succ]
      go_wp2
      go_ret
      exact ⟨by rw [HR.out]; rfl, rfl⟩
    · have g2 : (b != 0) = true := by simpa using hb
      clear hb
      go_wp2
      rw [rounds_succ]
      go_wp2
      go_ret
      exact ⟨by rw [HR.out]; rfl, rfl⟩
  · have g1 : (a != 0) = true := by simpa using ha
    have HR := Lib.hid (show r = a by rw [HC.out, if_pos ha])
    clear ha
    refine wp_loop_rounds 1 ?_
    rw [rounds_succ]
    go_wp2
    go_ret
    exact ⟨by rw [HR.out]; rfl, rfl⟩
end Go.Proofs.YtgholbeehkfbiaaGreat

/- IndexFunc, ContainsFunc, DeleteFunc at hold.Held -/
namespace Go.Proofs.YtgholbeehkfbiaaGreat
open Go.RowKit
set_option maxRecDepth 100000 in
set_option maxHeartbeats 400000 in
theorem indexFunc_held (A : Option Addr) (c : Nat) (l : List Held) (g : FuncId) (cap : Array Value) (p : Held → Bool) (w : World) (h : Sl w w.heap.size A c l) (hn : l.length ≤ 65536)
    (eg : ∀ args w, (callFunc g args).run Tryz.prog w = .ok (.enter g args) w)
    (hf : ∀ x, x ∈ l → ∀ w1, Below w.heap.size w w1 → Calls Tryz.prog g (#[x.v] ++ cap) w1 fun e w2 => e = .returned (.bool (p x)) ∧ Below w1.heap.size w1 w2) :
    Calls Tryz.prog 242 #[.slice A l.length c, .func (.func g) #[] cap] w fun e w' => e = .returned (i64 (idxP p l)) ∧ Below w.heap.size w w' := by
  have Hf := Lib.hid hf
  clear hf
  go_enter Tryz.func242, Tryz.ntmps242
  go_wp2
  go_loopw [8] (fun i wr => ∃ k : Nat, k ≤ l.length ∧ i = i64 k ∧ (∀ j (hj : j < l.length), j < k → p l[j] = false) ∧ Below w.heap.size w wr) (fun i _ => l.length - (intOf i).toNat)
  case atStart => exact ⟨0, Nat.zero_le _, rfl, by omega, Below.refl _ _⟩
  case round =>
    obtain ⟨k, hk, rfl, hno, hb⟩ := hrel
    by_cases hlt : k < l.length
    · obtain ⟨b, o, rfl, hbb, -, d0, d1, d2⟩ := (h.later hb).held hlt
      have Hno := Lib.hid hno
      clear hno
      go_wp2_with fail
      refine (Hf.out _ (List.getElem_mem hlt) _ hb).mono ?_
      rintro e w2 ⟨rfl, hb2⟩
      have hb3 := hb.trans (hb2.mono hb.size)
      by_cases hp : p l[k] = true
      · rw [hp]
        have Hp := Lib.hid hp
        clear hp
        go_wp2
        go_ret
        exact ⟨by rw [show idxP p l = k from idxP_hit hlt Hp.out Hno.out]; rfl, hb3⟩
      · have hp' : p l[k] = false := by simpa using hp
        rw [hp']
        have Hp := Lib.hid hp'
        clear hp hp'
        go_wp2
        go_roundw
        case rel => exact ⟨k + 1, by omega, by go_num, fun j hj h => by
            rcases Nat.lt_succ_iff_lt_or_eq.1 h with h | rfl
            · exact Hno.out j hj h
            · exact Hp.out, hb3⟩
        case measure => simp [intOf]; omega
    · have hkl : k = l.length := by omega
      subst hkl
      go_wp2
      go_ret
      exact ⟨by rw [show idxP p l = -1 from idxP_miss (fun j hj => hno j hj hj)]; rfl, hb⟩

theorem one_held : ∀ u ∈ (Value.agg #[i64 0, .string ByteArray.empty, i64 0]).cells.toList, u.oneCell' = true := by
  intro u hu
  simp only [Value.cells, List.mem_cons, List.not_mem_nil, or_false] at hu
  rcases hu with rfl | rfl | rfl <;> rfl

set_option maxRecDepth 100000 in
set_option maxHeartbeats 1000000 in
theorem deleteFunc_held (base : Nat) (v : Value) (l : List Held) (g : FuncId) (cap : Array Value) (p : Held → Bool) (w : World) (h : Own w base 151 v l) (hn : l.length ≤ 65536)
    (eg : ∀ args w, (callFunc g args).run Tryz.prog w = .ok (.enter g args) w)
    (hf : ∀ x, x ∈ l → ∀ w1, w.grownBy w1 v.ownBlock → Calls Tryz.prog g (#[x.v] ++ cap) w1 fun e w2 => e = .returned (.bool (p x)) ∧ Below w1.heap.size w1 w2) :
    Calls Tryz.prog 226 #[v, .func (.func g) #[] cap] w fun e w' => ∃ v', e = .returned v' ∧ Own w' base 151 v' (l.filter fun x => !p x) ∧ w.grownBy w' v.ownBlock ∧ v'.ownBlock = v.ownBlock := by
  obtain ⟨A, c, hv, hs⟩ := h.sl
  have HI := Lib.hid (indexFunc_held A c l g cap p w hs hn eg (fun x hx w1 hb => hf x hx w1 (grown_of_below hb _)))
  by_cases hno : ∀ j (hj : j < l.length), p l[j] = false
  · have hfil : l.filter (fun x => !p x) = l := List.filter_eq_self.2 (fun x hx => by
      obtain ⟨j, hj, rfl⟩ := List.getElem_of_mem hx
      simp [hno j hj])
    rw [show idxP p l = -1 from idxP_miss hno] at HI
    rw [hfil, hv]
    rw [hv] at h hf
    have Hf := Lib.hid h
    clear hfil hno hf hv h hs eg
    go_enter Tryz.func226, Tryz.ntmps226
    go_wp2_with (go_at_call 242; refine (HI.out).mono ?_; rintro e w' ⟨rfl, hb⟩)
    go_ret
    exact ⟨_, rfl, Hf.out.later hb, grown_of_below hb _, rfl⟩
  · obtain ⟨i0, hi0, hpi0, hbef⟩ : ∃ i0, ∃ h : i0 < l.length, p l[i0] = true ∧ ∀ j (hj : j < l.length), j < i0 → p l[j] = false := by
      have hex : ∃ k, l.findIdx? p = some k := by
        cases hq : l.findIdx? p with
        | some k => exact ⟨k, rfl⟩
        | none => exact absurd (fun j hj => List.findIdx?_eq_none_iff.1 hq _ (List.getElem_mem hj)) hno
      obtain ⟨k, hk⟩ := hex
      obtain ⟨h1, h2, h3⟩ := List.findIdx?_eq_some_iff_getElem.1 hk
      exact ⟨k, h1, h2, fun j hj hjk => by simpa using h3 j hjk⟩
    rw [show idxP p l = i0 from idxP_hit hi0 hpi0 hbef] at HI
    have hfil0 : (l.take (i0 + 1)).filter (fun x => !p x) = l.take i0 := by
      rw [List.take_succ_eq_append_getElem hi0, List.filter_append, List.filter_eq_self.2 (fun x hx => by
        obtain ⟨j, hj, rfl⟩ := List.getElem_of_mem hx
        simp only [List.length_take] at hj
        rw [List.getElem_take, hbef j (by omega) (by omega)]; rfl)]
      simp [hpi0]
    clear hno hbef hpi0
    obtain ⟨gb, cp, cur0, rfl, hgb, _, hcap, hcapm, _, _⟩ := h.form (by omega)
    injection hv with hA hB hC
    subst hA hC
    have HF := Lib.hid hf
    have HF0 := Lib.hid hfil0
    have hcm : cp ≤ 9223372036854775807 := by unfold maxLen at hcapm; exact hcapm
    clear hf hfil0 hs hcapm hB
    have hne : ((i0 : Int) == -1) = false := by rw [beq_eq_false_iff_ne]; omega
    go_enter Tryz.func226, Tryz.ntmps226
    go_wp2_with (go_at_call 242; refine (HI.out).mono ?_; rintro e w' ⟨rfl, hb⟩)
    have hO' := h.later hb
    have hgr' := grown_of_below hb (some gb)
    go_loopw [5, 6] (fun i j wr => ∃ (ni nj : Nat) (cur : List Held), i = i64 ni ∧ j = i64 nj ∧ ni < nj ∧ nj ≤ l.length ∧ cur.length = l.length ∧ Own wr base 151 (.slice (some ⟨gb, 0, none⟩) l.length cp) cur ∧ w.grownBy wr (some gb) ∧
      cur.take ni = (l.take nj).filter (fun x => !p x) ∧ cur.drop nj = l.drop nj) (fun _ j _ => l.length - (intOf j).toNat)
    case atStart => exact ⟨i0, i0 + 1, l, rfl, by go_num, by omega, by omega, rfl, hO', hgr', HF0.out.symm, rfl⟩
    case round =>
      obtain ⟨ni, nj, cur, rfl, rfl, hij, hjn, hcl, hO, hgr, htk, hdr⟩ := hrel
      by_cases hlt : nj < l.length
      · have hjc : nj < cur.length := by omega
        have hcj : cur[nj] = l[nj] := by
          have h1 : (cur.drop nj)[0]? = (l.drop nj)[0]? := by rw [hdr]
          simpa [hjc, hlt] using h1
        obtain ⟨A', c', hv', hs'⟩ := hO.sl
        injection hv' with hA' hB' hC'
        clear hB'
        subst hA' hC'
        have hz := hO.base_le.2
        obtain ⟨b', o', hb', hlb, hok, d0, d1, d2⟩ := hs'.held hjc
        injection hb' with hb'
        injection hb' with hb1' ho'
        subst hb1' ho'
        have HC := Lib.hid hcl
        rw [hcj] at d0 d1 d2 hok
        simp only [Nat.zero_add] at d0 d1 d2
        have Hok := Lib.hid hok
        have HT := Lib.hid htk
        have HD := Lib.hid hdr
        have HJ := Lib.hid hcj
        have HO := Lib.hid hO
        have hlt2 : gb < wr.heap.size := hz
        have hBx := (Below.refl wr.heap.size wr).alloc (Nat.le_refl _) (.cells #[i64 l[nj].num, .string l[nj].acct, i64 l[nj].sum] 151)
        have HBx := Lib.hid hBx
        have hokO := hO.2 cur[nj] (List.getElem_mem hjc)
        rw [hcj] at hokO
        have HokO := Lib.hid hokO
        clear hcl htk hdr hcj hs' hok hz hBx hO hokO
        go_wp2_with fail
        refine (HF.out _ (List.getElem_mem hlt) _ (grown_trans hgr (grown_of_below HBx.out (some gb)))).mono ?_
        rintro e w2 ⟨rfl, hb2⟩
        have hO2 := (HO.out.later HBx.out).later hb2
        have hgr2 := grown_trans hgr (grown_of_below (HBx.out.trans (hb2.mono (by simp))) (some gb))
        by_cases hp : p l[nj] = true
        · rw [hp]
          have Hp := Lib.hid hp
          clear hp
          go_wp2
          go_roundw
          case rel => exact ⟨ni, nj + 1, cur, rfl, by go_num, by omega, by omega, HC.out, hO2, hgr2, by rw [HT.out, List.take_succ_eq_append_getElem hlt, List.filter_append]; simp [Hp.out], by
            rw [← List.drop_drop, HD.out, List.drop_drop]⟩
          case measure => simp [intOf]; omega
        · have hp' : p l[nj] = false := by simpa using hp
          rw [hp']
          have Hp := Lib.hid hp'
          clear hp hp'
          have hcx : ∀ o, w2.cell? ⟨wr.heap.size, o, none⟩ = _ := fun o => hb2.cell (p := ⟨wr.heap.size, o, none⟩) (by simp)
          have hok : Enc.ok w2 (Oth w2 (.slice (some ⟨gb, 0, none⟩) l.length cp)) l[nj] :=
            oth_grown (grown_of_below (HBx.out.trans (hb2.mono (by simp))) _) (.inl rfl) HokO.out
          have HokN := Lib.hid hok
          clear hok
          have hni : ni < cur.length := by rw [HC.out]; omega
          go_wp2_with (refine wpList_store_own rfl none (.tmp 33) (.tmp 32) 151 rfl rfl (by kernel_rfl) gb l.length cp ni (ni * 3) l[nj] hO2 hni rfl rfl rfl HokN.out ?_; intro w3 hO3 hg3)
          go_roundw
          case rel => exact ⟨ni + 1, nj + 1, cur.set ni l[nj], by go_num, by go_num, by omega, by omega, by rw [List.length_set]; exact HC.out, hO3, grown_trans hgr2 hg3, by
              rw [List.take_succ_eq_append_getElem (by rw [List.length_set]; exact hni), List.getElem_set_self, List.take_set_of_le (Nat.le_refl _), HT.out, List.take_succ_eq_append_getElem hlt, List.filter_append]; simp [Hp.out], by
              rw [List.drop_set_of_lt (by omega), ← List.drop_drop, HD.out, List.drop_drop]⟩
          case measure => simp [intOf]; omega
      · obtain rfl : nj = l.length := by omega
        have HC := Lib.hid hcl
        have HT := Lib.hid htk
        clear hcl htk hdr
        have hni : ni ≤ cur.length := by have := HC.out; omega
        go_wp2_with (refine wpList_clear_own rfl none (.tmp 38) 119 rfl rfl 151 Tryz.underlying119 (.agg #[i64 0, .string ByteArray.empty, i64 0]) (fun _ => by kernel_rfl) rfl one_held gb l.length cp ni (ni * 3) _ _ hO hni rfl rfl (fun _ => rfl) ?_; intro w3 hO3 hg3)
        go_ret
        exact ⟨_, rfl, by rw [HT.out, List.take_length] at hO3; exact hO3, grown_trans hgr hg3, rfl⟩
end Go.Proofs.YtgholbeehkfbiaaGreat

/- chart.Copy, hold.Copy -/
namespace Go.Proofs.YtgholbeehkfbiaaGreat
open Go.RowKit
theorem MapIs.cloned {κ : Type} {enc : κ → Value} {w : World} {b : Nat} {M : List (κ × Value)} {es : Array MapEntry} {clock : Nat} (h : MapIs enc w b M) (hb : w.heap[b]? = some (.map es clock)) : MapIs enc (w.alloc (.map es clock)) w.heap.size M := by
  obtain ⟨es', clock', hb', r⟩ := h
  rw [hb] at hb'
  injection hb' with hb'
  injection hb' with e1 e2
  subst e1 e2
  exact ⟨es, clock, heap_alloc_new w _, r⟩
set_option maxRecDepth 100000 in
set_option maxHeartbeats 4000000 in
theorem chcopy_c (g b : Nat) (M : List (ByteArray × Ac)) (w : World) (h : ChIs w g b M) :
    Calls Tryz.prog 108 #[.pointer (some ⟨g, 0, none⟩)] w fun e w' => ∃ g' b', e = .returned (.pointer (some ⟨g', 0, none⟩)) ∧ ChIs w' g' b' M ∧ w.heap.size ≤ g' ∧ w.heap.size ≤ b' ∧ Below w.heap.size w w' := by
  obtain ⟨es, clock, hb, hr⟩ := h.map
  have hm := h.map.cloned hb
  have hC := AnyW.maps_Clone Tryz.lcloneA b es clock w hb
  change Calls Tryz.prog 152 _ _ _ at hC
  have HC := Lib.hid hC
  have c0 := cell_of_row _ g 0 _ _ (0, 0) h.cell
  simp only [List.getElem?_toArray, List.getElem?_cons_zero] at c0
  have hB := ((Below.refl w.heap.size w).alloc (Nat.le_refl _) (.map es clock)).alloc (by simp) (.cells #[.map (some w.heap.size)] 198)
  clear hb hr h hC
  go_enter Tryz.func108, Tryz.ntmps108
  go_wp2_with fail
  refine HC.out.mono ?_
  rintro e w1 ⟨rfl, rfl⟩
  go_wp2
  go_ret
  exact ⟨w.heap.size + 1, w.heap.size, rfl, ⟨by omega, heap_alloc2_new w _ _, hm.later ((Below.refl _ _).alloc (Nat.le_refl _) _)⟩, by omega, by omega, hB⟩
set_option maxRecDepth 100000 in
set_option maxHeartbeats 4000000 in
theorem hocopy_c (g b : Nat) (H : List (Hk × Int)) (w : World) (h : HoIs w g b H) :
    Calls Tryz.prog 109 #[.pointer (some ⟨g, 0, none⟩)] w fun e w' => ∃ g' b', e = .returned (.pointer (some ⟨g', 0, none⟩)) ∧ HoIs w' g' b' H ∧ w.heap.size ≤ g' ∧ w.heap.size ≤ b' ∧ Below w.heap.size w w' := by
  obtain ⟨es, clock, hb, hr⟩ := h.map
  have hm := h.map.cloned hb
  have hC := AnyW.maps_Clone Tryz.lcloneH b es clock w hb
  change Calls Tryz.prog 153 _ _ _ at hC
  have HC := Lib.hid hC
  have c0 := cell_of_row _ g 0 _ _ (0, 0) h.cell
  simp only [List.getElem?_toArray, List.getElem?_cons_zero] at c0
  have hB := ((Below.refl w.heap.size w).alloc (Nat.le_refl _) (.map es clock)).alloc (by simp) (.cells #[.map (some w.heap.size)] 201)
  clear hb hr h hC
  go_enter Tryz.func109, Tryz.ntmps109
  go_wp2_with fail
  refine HC.out.mono ?_
  rintro e w1 ⟨rfl, rfl⟩
  go_wp2
  go_ret
  exact ⟨w.heap.size + 1, w.heap.size, rfl, ⟨by omega, heap_alloc2_new w _ _, hm.later ((Below.refl _ _).alloc (Nat.le_refl _) _)⟩, by omega, by omega, hB⟩
end Go.Proofs.YtgholbeehkfbiaaGreat

/- hold.All: the order of the sort -/
namespace Go.Proofs.YtgholbeehkfbiaaGreat
open Go.RowKit
open Go.Sort in
set_option maxRecDepth 100000 in
set_option maxHeartbeats 800000 in
theorem hcmp_c (x y : Held) (w : World) :
    Calls Tryz.prog 148 #[x.v, y.v] w fun e w' => e = .returned (i64 (orN (cmpS x.acct y.acct) (cmpN x.num y.num))) ∧ ∃ q os, w' = grow (w.drewN q) os := by
  have k1 := fun W => cmpS_c x.acct y.acct W
  have k2 := fun W => cmpN_c x.num y.num W
  have k3 := fun g W h0 h1 => or2_c (cmpS x.acct y.acct) (cmpN x.num y.num) g W h0 h1
  have hg1 := heap_alloc2_old w (.cells #[i64 x.num, .string x.acct, i64 x.sum] 151) (.cells #[i64 y.num, .string y.acct, i64 y.sum] 151)
  have hg2 := heap_alloc2_new w (.cells #[i64 x.num, .string x.acct, i64 x.sum] 151) (.cells #[i64 y.num, .string y.acct, i64 y.sum] 151)
  have hend : ∀ o1 o2 o3 : Obj, ∃ q os, (((w.alloc o1).alloc o2).drew.alloc o3) = grow (w.drewN q) os := fun o1 o2 o3 => ⟨1, #[o1, o2, o3], by
    simp only [alloc_eq_grow, drew_grow, grow_grow]; rfl⟩
  have Hend := Lib.hid hend
  generalize cmpS x.acct y.acct = p at *
  generalize cmpN x.num y.num = q at *
  have K1 := Lib.hid k1
  have K2 := Lib.hid k2
  have K3 := Lib.hid k3
  have n1 := cell_of_row _ w.heap.size 0 _ _ (0, 0) hg1
  have n2 := cell_of_row _ w.heap.size 1 _ _ (0, 0) hg1
  have m1 := cell_of_row _ (w.heap.size + 1) 0 _ _ (0, 0) hg2
  have m2 := cell_of_row _ (w.heap.size + 1) 1 _ _ (0, 0) hg2
  simp only [List.getElem?_toArray, List.getElem?_cons_zero, List.getElem?_cons_succ] at n1 n2 m1 m2
  clear hg1 hg2 k1 k2 k3 hend
  go_enter Tryz.func148, Tryz.ntmps148
  go_wp2_with fail
  have hS : ∀ o, (fun V => V.cell? ⟨w.heap.size, 0, none⟩ = some (i64 x.num) ∧ V.cell? ⟨w.heap.size, 1, none⟩ = some (.string x.acct) ∧ V.cell? ⟨w.heap.size + 1, 0, none⟩ = some (i64 y.num) ∧ V.cell? ⟨w.heap.size + 1, 1, none⟩ = some (.string y.acct)) ((((w.alloc (.cells #[i64 x.num, .string x.acct, i64 x.sum] 151)).alloc (.cells #[i64 y.num, .string y.acct, i64 y.sum] 151)).drew).alloc o) := fun o => ⟨(World.cell?_alloc_lt _ _ _ (by simp; omega)).trans n1, (World.cell?_alloc_lt _ _ _ (by simp; omega)).trans n2, (World.cell?_alloc_lt _ _ _ (by simp)).trans m1, (World.cell?_alloc_lt _ _ _ (by simp)).trans m2⟩
  have HS := Lib.hid hS
  clear hS
  refine wp_region_noPanic ?_
  refine wp_region_l 12 (fun V => V.cell? ⟨w.heap.size, 0, none⟩ = some (i64 x.num) ∧ V.cell? ⟨w.heap.size, 1, none⟩ = some (.string x.acct) ∧ V.cell? ⟨w.heap.size + 1, 0, none⟩ = some (i64 y.num) ∧ V.cell? ⟨w.heap.size + 1, 1, none⟩ = some (.string y.acct)) (by kernel_rfl) (⟨n1, n2, m1, m2⟩) (fun hH => ?_)
  refine wpAnyL_take (i := 0) (v := ?v1) rfl (by kernel_rfl) (by kernel_rfl) (by kernel_rfl) (by kernel_rfl) (fun _ _ _ h => h) (Or.inl ⟨by kernel_rfl, ?hy1⟩) (by assumption) ?r1
  case hy1 => (intro W hSW; obtain ⟨s1, s2, s3, s4⟩ := hSW; go_simp; try with_reducible rfl)
  try simp only [Act.put, List.getElem_toArray, List.getElem_cons_zero, List.setIfInBounds_toArray, List.set_cons_zero, List.set_cons_succ]
  refine wpAnyL_take (i := 1) (v := ?v2) rfl (by kernel_rfl) (by kernel_rfl) (by kernel_rfl) (by kernel_rfl) (fun _ _ _ h => h) (Or.inl ⟨by kernel_rfl, ?hy2⟩) (by assumption) ?r2
  case hy2 => (intro W hSW; obtain ⟨s1, s2, s3, s4⟩ := hSW; go_simp; try with_reducible rfl)
  try simp only [Act.put, List.getElem_toArray, List.getElem_cons_zero, List.getElem_cons_succ, List.setIfInBounds_toArray, List.set_cons_zero, List.set_cons_succ]
  refine wpAnyL_take (i := 2) (v := ?v3) rfl (by kernel_rfl) (by kernel_rfl) (by kernel_rfl) (by kernel_rfl) (fun _ _ _ h => h) (Or.inl ⟨by kernel_rfl, ?hy3⟩) (by assumption) ?r3
  case hy3 => (intro W hSW; obtain ⟨s1, s2, s3, s4⟩ := hSW; go_simp; try with_reducible rfl)
  try simp only [Act.put, List.getElem_toArray, List.getElem_cons_zero, List.getElem_cons_succ, List.setIfInBounds_toArray, List.set_cons_zero, List.set_cons_succ]
  refine wpAnyL_take (i := 3) (v := ?v4) rfl (by kernel_rfl) (by kernel_rfl) (by kernel_rfl) (by kernel_rfl) (fun _ _ _ h => h) (Or.inl ⟨by kernel_rfl, ?hy4⟩) (by assumption) ?r4
  case hy4 => (intro W hSW; obtain ⟨s1, s2, s3, s4⟩ := hSW; go_simp; try with_reducible rfl)
  try simp only [Act.put, List.getElem_toArray, List.getElem_cons_zero, List.getElem_cons_succ, List.setIfInBounds_toArray, List.set_cons_zero, List.set_cons_succ]
  refine wpAnyL_take (i := 5) (v := ?v5) rfl (by kernel_rfl) (by kernel_rfl) (by kernel_rfl) (by kernel_rfl) (fun _ _ _ h => h) (Or.inl ⟨by kernel_rfl, ?hy5⟩) (by assumption) ?r5
  case hy5 => (intro W hSW; obtain ⟨s1, s2, s3, s4⟩ := hSW; go_simp; try with_reducible rfl)
  try simp only [Act.put, List.getElem_toArray, List.getElem_cons_zero, List.getElem_cons_succ, List.setIfInBounds_toArray, List.set_cons_zero, List.set_cons_succ]
  refine wpAnyL_take (i := 6) (v := ?v6) rfl (by kernel_rfl) (by kernel_rfl) (by kernel_rfl) (by kernel_rfl) (fun _ _ _ h => h) (Or.inl ⟨by kernel_rfl, ?hy6⟩) (by assumption) ?r6
  case hy6 => (intro W hSW; obtain ⟨s1, s2, s3, s4⟩ := hSW; go_simp; try with_reducible rfl)
  try simp only [Act.put, List.getElem_toArray, List.getElem_cons_zero, List.getElem_cons_succ, List.setIfInBounds_toArray, List.set_cons_zero, List.set_cons_succ]
  refine wpAnyL_take (i := 7) (v := ?v7) rfl (by kernel_rfl) (by kernel_rfl) (by kernel_rfl) (by kernel_rfl) (fun _ _ _ h => h) (Or.inl ⟨by kernel_rfl, ?hy7⟩) (by assumption) ?r7
  case hy7 => (intro W hSW; obtain ⟨s1, s2, s3, s4⟩ := hSW; go_simp; try with_reducible rfl)
  try simp only [Act.put, List.getElem_toArray, List.getElem_cons_zero, List.getElem_cons_succ, List.setIfInBounds_toArray, List.set_cons_zero, List.set_cons_succ]
  refine wpAnyL_take (i := 8) (v := ?v8) rfl (by kernel_rfl) (by kernel_rfl) (by kernel_rfl) (by kernel_rfl) (fun _ _ _ h => h) (Or.inl ⟨by kernel_rfl, ?hy8⟩) (by assumption) ?r8
  case hy8 => (intro W hSW; obtain ⟨s1, s2, s3, s4⟩ := hSW; go_simp; try with_reducible rfl)
  try simp only [Act.put, List.getElem_toArray, List.getElem_cons_zero, List.getElem_cons_succ, List.setIfInBounds_toArray, List.set_cons_zero, List.set_cons_succ]
  refine wpAnyL_one (i := 4) (by kernel_rfl) rfl (by decide) (fun K hK => ?_)
  go_simp
  with_reducible refine (K1.out _).mono ?_
  rintro e u1 ⟨rfl, rfl⟩
  refine hK.out _ _ (hH) (fun hH => ?_)
  clear hK K
  try simp only [Act.put, List.getElem_toArray, List.getElem_cons_zero, List.getElem_cons_succ, List.setIfInBounds_toArray, List.set_cons_zero, List.set_cons_succ]
  refine wpAnyL_one (i := 9) (by kernel_rfl) rfl (by decide) (fun K hK => ?_)
  go_simp
  with_reducible refine (K2.out _).mono ?_
  rintro e u1 ⟨rfl, rfl⟩
  refine hK.out _ _ (hH) (fun hH => ?_)
  clear hK K
  try simp only [Act.put, List.getElem_toArray, List.getElem_cons_zero, List.getElem_cons_succ, List.setIfInBounds_toArray, List.set_cons_zero, List.set_cons_succ]
  refine wpAnyL_one (i := 10) (by kernel_rfl) rfl (by decide) (fun K hK => ?_)
  go_simp
  refine hK.out _ _ (HS.out _) (fun hH => ?_)
  clear hK K
  try simp only [Act.put, List.getElem_toArray, List.getElem_cons_zero, List.getElem_cons_succ, List.setIfInBounds_toArray, List.set_cons_zero, List.set_cons_succ]
  refine wpAnyL_one (i := 11) (by kernel_rfl) rfl (by decide) (fun K hK => ?_)
  go_simp
  with_reducible refine (K3.out _ _ ?c0 ?c1).mono ?_
  case c0 => go_simp
  case c1 => go_simp
  rintro e u1 ⟨rfl, rfl⟩
  refine hK.out _ _ (hH) (fun hH => ?_)
  clear hK K
  try simp only [Act.put, List.getElem_toArray, List.getElem_cons_zero, List.getElem_cons_succ, List.setIfInBounds_toArray, List.set_cons_zero, List.set_cons_succ]
  refine wpAnyL_last (by kernel_rfl) rfl (fun K hK => ?_)
  go_simp
  refine hK.out _ _ ?_
  clear hK K
  try simp only [Act.put, List.getElem_toArray, List.getElem_cons_zero, List.getElem_cons_succ, List.setIfInBounds_toArray, List.set_cons_zero, List.set_cons_succ]
  refine wpAnyL_done (by kernel_rfl) ?_ _
  refine NoPanic.normal ?_
  go_wp2
  go_ret
  exact ⟨rfl, Hend.out _ _ _⟩
end Go.Proofs.YtgholbeehkfbiaaGreat

/- hold.All -/
namespace Go.Proofs.YtgholbeehkfbiaaGreat
open Go.RowKit
def gH (p : Hk × Int) : Held := ⟨p.1.num, p.1.acct, p.2⟩
abbrev RkH (M : List (Hk × Int)) (L : List Held) : Prop := RK ltH Held.key gH M L
/-- block g holds holds, whose map lies in block b: the holds L, in order -/
def HoA (w : World) (g b : Nat) (L : List Held) : Prop := ∃ M, HoIs w g b M ∧ RkH M L
theorem HoA.kept {w w' : World} {g b : Nat} {L : List Held} {S : Nat → Prop} (h : HoA w g b L) (hk : Gr w w' S) (h1 : ¬ S g) (h2 : ¬ S b) : HoA w' g b L := by
  obtain ⟨M, h, hr⟩ := h
  exact ⟨M, ⟨h.ne, (hk.block g h.lt.1 h1).trans h.cell, by
    have hlt := h.map.lt
    obtain ⟨es, clock, hb, r⟩ := h.map
    exact ⟨es, clock, (hk.block b hlt h2).trans hb, r⟩⟩, hr⟩
theorem HoA.later {w w' : World} {g b : Nat} {L : List Held} (h : HoA w g b L) (hb : Below w.heap.size w w') : HoA w' g b L := h.kept (Gr.of_below hb (fun _ => False)) id id
theorem HoA.lt {w : World} {g b : Nat} {L : List Held} (h : HoA w g b L) : g < w.heap.size ∧ b < w.heap.size ∧ b ≠ g := by
  obtain ⟨M, h, _⟩ := h
  exact ⟨h.lt.1, h.lt.2, h.ne⟩
theorem HoA.srt {w : World} {g b : Nat} {L : List Held} (h : HoA w g b L) : SrtL ltH L := by
  obtain ⟨M, _, h⟩ := h
  exact h.srt
/-- holds as they are kept -/
def OkH (L : List Held) : Prop := ∀ x ∈ L, 1 ≤ x.num ∧ x.num ≤ 9999 ∧ 1 ≤ x.sum ∧ x.sum ≤ 9223372036854775807 ∧ x.acct.size ≤ maxLen
theorem heldInfo : (Tryz.prog.info? 151).map (fun i => (i.zero, i.size, i.bytes)) = some (some (.agg #[i64 0, .string ByteArray.empty, i64 0]), Enc.size Held, 32) := by kernel_rfl
def entH (x : Held) : Hk × Value := (x.key, i64 x.sum)
theorem entH_gH (p : Hk × Int) : entH (gH p) = (p.1, i64 p.2) := rfl
theorem hv_eq (H : List (Hk × Int)) : hv H = (H.map gH).map entH := by
  unfold hv
  rw [List.map_map]
  rfl
theorem entH_inj {l m : List Held} (h : (l.map entH).Perm (m.map entH)) : l.Perm m := by
  have hb : ∀ x : Held, (fun p : Hk × Value => (⟨p.1.num, p.1.acct, intOf p.2⟩ : Held)) (entH x) = x := fun x => rfl
  have := h.map (fun p : Hk × Value => (⟨p.1.num, p.1.acct, intOf p.2⟩ : Held))
  rw [List.map_map, List.map_map] at this
  have e : ∀ l : List Held, l.map ((fun p : Hk × Value => (⟨p.1.num, p.1.acct, intOf p.2⟩ : Held)) ∘ entH) = l := fun l => by
    conv => rhs; rw [← List.map_id l]
    exact List.map_congr_left fun x _ => rfl
  rwa [e, e] at this
theorem perm_ent {M : List Held} {L : List (Hk × Value)} (h : L.Perm (M.map entH)) {p : Hk × Value} (hp : p ∈ L) : ∃ x ∈ M, p = entH x := by
  obtain ⟨x, hx, e⟩ := List.mem_map.1 (h.mem_iff.1 hp)
  exact ⟨x, hx, e.symm⟩
theorem hcmp_lt (x y : Held) : ltH x y = decide (orN (cmpS x.acct y.acct) (cmpN x.num y.num) < 0) := by
  unfold ltH orN cmpS cmpN
  cases h1 : bless x.acct y.acct with
  | true => simp
  | false =>
    cases h2 : bless y.acct x.acct with
    | true =>
      have hne : x.acct ≠ y.acct := fun e => by rw [e, bless_strict.irr] at h2; cases h2
      simp [hne]
    | false =>
      have he := bless_tri h1 h2
      by_cases h3 : x.num < y.num
      · simp [he, h3]
      · by_cases h4 : y.num < x.num
        · simp [he, h3, h4]
        · simp [he, h3, h4]
theorem keyH_tri {a b : Held} (h1 : ltH a b = false) (h2 : ltH b a = false) : a.key = b.key := by
  by_cases e : a.key = b.key
  · exact e
  · rcases keyH.co a b e with h | h
    · rw [h] at h1; cases h1
    · rw [h] at h2; cases h2
set_option maxRecDepth 100000 in
set_option maxHeartbeats 8000000 in
theorem hoall_c (g b : Nat) (L : List Held) (w : World) (h : HoA w g b L) (hok : OkH L) (hn : L.length ≤ 65536) :
    Calls Tryz.prog 107 #[.pointer (some ⟨g, 0, none⟩)] w fun e w' => ∃ v, e = .returned v ∧ Own w' w.heap.size 151 v L ∧ Below w.heap.size w w' := by
  obtain ⟨M, h, hr⟩ := h
  have hlg := h.lt.1
  have Hr := Lib.hid hr
  have Hok := Lib.hid hok
  have c0 := cell_of_row _ g 0 _ _ (0, 0) h.cell
  simp only [List.getElem?_toArray, List.getElem?_cons_zero] at c0
  have hm := h.map
  rw [hv_eq] at hm
  have Hmap := Lib.hid hm
  have hlb := h.lt.2
  have hpm := Lib.hid (show ((M.map gH).map entH).Perm (L.map entH) from hr.perm.map _)
  generalize M.map gH = M1 at *
  clear h hm hr hok
  go_enter Tryz.func107, Tryz.ntmps107
  go_wp2_with (at_range; refine wpList_rng rfl (.tmp 11) 199 rfl Tryz.underlying199 rfl Hmap.out ?_; intro w0 hrg hb0 hs0)
  go_frame
  go_loopw [3] (fun v wr => ∃ (acc : List Held) (Lf : List (Hk × Value)), RngIs Hk.v wr b w.heap.size (M1.map entH) Lf ∧ Own wr (w.heap.size + 1) 151 v acc ∧ (acc.map entH ++ Lf).Perm (L.map entH) ∧ Below w.heap.size w wr) (fun _ wr => wr.rangeLeft b w.heap.size)
  case atStart => exact ⟨[], M1.map entH, hrg, Own.nil_ _ _ _, by simpa using hpm.out, hb0⟩
  case round =>
    obtain ⟨acc, Lf, hrg, hO, hp, hB⟩ := hrel
    have hlen := hrg.len
    have HlL := Lib.hid hpm.out.length_eq
    go_wp2_with (at_next; refine wpList_rng_next rfl (.tmp 12) rfl rfl hrg ?_ ?_)
    · intro hL0
      subst hL0
      rw [List.append_nil] at hp
      have hpL := entH_inj hp
      have HpL := Lib.hid hpL
      have hsz : acc.length ≤ 1000000 := by rw [hpL.length_eq]; omega
      have hcmp := fun (x y : Held) (W : World) => hcmp_c x y W
      have hC := sortF_own (α := Held) Tryz.sortHd Tryz.isAgg151 (show ∀ w : World, (sizeOf 151).run Tryz.prog w = .ok (Enc.size Held) w from Tryz.sizeOf151) (fun x y => orN (cmpS x.acct y.acct) (cmpN x.num y.num)) ltH hcmp_lt keyH.strict 148 #[] (enters_of Tryz.func148 (by kernel_rfl) rfl) hcmp _ 151 _ acc wr hO hsz
      change Calls Tryz.prog 147 _ _ _ at hC
      have HC := Lib.hid hC
      have HO := Lib.hid hO
      clear hC hcmp hO hrg hp hlen hpL hsz
      go_wp2_with fail
      refine HC.out.mono ?_
      rintro e w2 ⟨rfl, l', hp', hs', hO', hg'⟩
      have hfin := Lib.hid (show l' = L from sorted_unique (hp'.trans HpL.out) hs' (Hr.out.srt.sorted keyH.strict) fun a ha b hb e1 e2 => by
        rcases keyH_tri e1 e2 with e
        exact Hr.out.srt.one keyH ((hp'.trans HpL.out).mem_iff.1 ha) ((hp'.trans HpL.out).mem_iff.1 hb) e)
      have hB2 := hB.trans (HO.out.below hg' (Nat.le_succ _) hB.size)
      clear hp' hs' HC HO hg'
      go_wp2
      go_ret
      exact ⟨_, rfl, by rw [← hfin.out]; exact hO'.mono (Nat.le_succ _), hB2⟩
    · intro key val L' w1 hpp hrg1 hg1 hsz1 hen
      obtain ⟨x, hx, hxe⟩ := perm_ent (L := acc.map entH ++ Lf) hp (List.mem_append_right _ (hpp.mem_iff.2 (List.mem_cons_self ..)))
      unfold entH at hxe
      injection hxe with e1 e2
      subst e1 e2
      have Hx := Lib.hid (show (acc.map entH ++ [entH x] ++ L').Perm (L.map entH) from (List.Perm.trans (by rw [List.append_assoc]; exact List.Perm.append_left _ hpp.symm) hp))
      have hsx := Lib.hid (Hok.out x hx).2.2.2.2
      have hO1 := hO.grown hg1 (by
        cases hv : Value.ownBlock _ with
        | none => exact .inl rfl
        | some j =>
          right
          intro e
          injection e with e
          have := (hO.1.lt j hv).1
          omega) (fun y hy => hO.2 y hy)
      have hB1 := hB.trans (below_of_grown hg1 hB.size (fun j e => by injection e with e; omega))
      simp only [Held.key, Hk.v] at hen
      have hlen1 := hrg1.len
      have HP := Lib.hid hpp.length_eq
      have Hlen := Lib.hid hlen
      clear hp hpp hx hO hg1 hB hrg hlen
      have HO2 := Lib.hid ((hO1.later ((Below.refl _ _).alloc (Nat.le_refl _) (.cells #[.string x.acct, i64 x.num] 234))).later ((Below.refl _ _).alloc (Nat.le_refl _) (.cells #[i64 x.num, .string x.acct, i64 x.sum] 151)))
      have Hne := Lib.hid (hO1.new_ne (Nat.le_succ w1.heap.size))
      have HH := Lib.hid (heap_alloc2_new w1 (.cells #[.string x.acct, i64 x.num] 234) (.cells #[i64 x.num, .string x.acct, i64 x.sum] 151))
      have hB2 := (hB1.alloc hB1.size (.cells #[.string x.acct, i64 x.num] 234)).alloc (by have := hB1.size; simp; omega) (.cells #[i64 x.num, .string x.acct, i64 x.sum] 151)
      have hrg2 := (hrg1.later ((Below.refl _ _).alloc (Nat.le_refl _) (.cells #[.string x.acct, i64 x.num] 234))).later ((Below.refl _ _).alloc (Nat.le_refl _) (.cells #[i64 x.num, .string x.acct, i64 x.sum] 151))
      have HRG := Lib.hid hrg2
      have Hal := Lib.hid (show acc.length + 1 ≤ 65536 from by
        have h1 := Hx.out.length_eq
        simp only [List.length_append, List.length_map, List.length_singleton] at h1
        omega)
      have hsB := hB1.size
      have hg1 : w.heap.size + 1 ≤ w1.heap.size := by have := hrg1.lt.2; omega
      have Hg1 := Lib.hid hg1
      unfold Held.key
      clear hO1 hB1 hrg1 hlen1 hrg2 hg1 hsz1
      go_wp2_with (at_builtin; refine wpList_append_one rfl (some 26) (.tmp 18) (.tmp 25) 119 rfl rfl (.agg #[i64 0, .string ByteArray.empty, i64 0]) 32 Tryz.underlying119 heldInfo rfl (by decide) (by decide) rfl HO2.out (w1.heap.size + 1) x rfl _ 151 HH.out rfl Hne.out hsx.out (by have := Hal.out; omega) (by have := Hg1.out; simp; omega) ?_; intro v3 w3 hO3 hg3 hat3)
      have hrg3 := HRG.out.kept hg3 (by
        intro e
        have := (HO2.out.1.lt b e.symm).1
        omega) (by
        intro e
        have := (HO2.out.1.lt _ e.symm).1
        omega)
      have hB3 := hB2.trans (HO2.out.below hg3 (Nat.le_succ _) hB2.size)
      clear hg3 hat3 HO2 hB2
      go_roundw
      case rel => exact ⟨acc ++ [x], L', hrg3, hO3, by rw [List.map_append]; exact Hx.out, hB3⟩
      case measure =>
        rw [hrg3.len, Hlen.out, HP.out]
        simp
end Go.Proofs.YtgholbeehkfbiaaGreat

/- hold.Of -/
namespace Go.Proofs.YtgholbeehkfbiaaGreat
open Go.RowKit
set_option maxRecDepth 100000 in
set_option maxHeartbeats 2000000 in
theorem of1_c (x : Held) (s : ByteArray) (q : Nat) (w : World) (hq : w.cell? ⟨q, 0, none⟩ = some (.string s)) :
    Calls Tryz.prog 227 #[x.v, .pointer (some ⟨q, 0, none⟩)] w fun e w' => e = .returned (.bool (!decide (x.acct = s))) ∧ Below w.heap.size w w' := by
  have hb0 := (Below.refl w.heap.size w).alloc (Nat.le_refl _) (.cells #[i64 x.num, .string x.acct, i64 x.sum] 151)
  have hlq := World.block_lt_of_cell? _ _ hq
  have hne : q ≠ w.heap.size := Nat.ne_of_lt hlq
  by_cases he : x.acct = s
  · have e1 := beqS_of_eq he
    rw [decide_eq_true he]
    clear he
    go_enter Tryz.func227, Tryz.ntmps227
    go_wp2
    go_ret
    exact ⟨rfl, hb0⟩
  · have e1 := beqS_of_ne he
    rw [decide_eq_false he]
    clear he
    go_enter Tryz.func227, Tryz.ntmps227
    go_wp2
    go_ret
    exact ⟨rfl, hb0⟩
def ofL (L : List Held) (s : ByteArray) : List Held := L.filter fun x => decide (x.acct = s)
set_option maxRecDepth 100000 in
set_option maxHeartbeats 4000000 in
theorem hoof_c (g b : Nat) (L : List Held) (s : ByteArray) (w : World) (h : HoA w g b L) (hok : OkH L) (hn : L.length ≤ 65536) :
    Calls Tryz.prog 200 #[.pointer (some ⟨g, 0, none⟩), .string s] w fun e w' => ∃ v, e = .returned v ∧ Own w' w.heap.size 151 v (ofL L s) ∧ Below w.heap.size w w' := by
  have hb0 := (Below.refl w.heap.size w).alloc (Nat.le_refl _) (.cells #[.string s] 9)
  have hA := Lib.hid (hoall_c g b L _ (h.later hb0) hok hn)
  have hc := heap_alloc_new w (.cells #[.string s] 9)
  have HL := Lib.hid (show (L.filter fun x => !!decide (x.acct = s)) = ofL L s by unfold ofL; congr 1; funext x; simp)
  have Hn := Lib.hid hn
  clear h hok hn
  go_enter Tryz.func200, Tryz.ntmps200
  go_wp2_with fail
  generalize w.alloc (.cells #[.string s] 9) = w0 at *
  refine hA.out.mono ?_
  rintro e w1 ⟨v, rfl, hO, hF⟩
  have hc1 := (hF.block _ (Array.getElem?_eq_some_iff.1 hc).1).trans hc
  have hb1 := below_on hb0 (Nat.le_refl _) hF
  have hlt := (Array.getElem?_eq_some_iff.1 hc).1
  have HD := Lib.hid (deleteFunc_held w0.heap.size v L 227 #[.pointer (some ⟨w.heap.size, 0, none⟩)] (fun x => !decide (x.acct = s)) w1 hO Hn.out (enters_of Tryz.func227 (by kernel_rfl) rfl) (fun x _ w2 hg => by
    have hcell := hg.block w.heap.size (Nat.lt_of_lt_of_le hlt hF.size) (fun e => by
      have := (hO.1.lt _ e.symm).1
      omega)
    have hc2 := cell_of_row _ w.heap.size 0 _ _ (0, 0) (hcell.trans hc1)
    exact of1_c x s w.heap.size w2 hc2))
  have HO := Lib.hid hO
  clear hA hc hc1 hF
  go_wp2_with fail
  refine HD.out.mono ?_
  rintro e w2 ⟨v2, rfl, hO2, hg2, hv2⟩
  have hb2 := hb1.trans (HO.out.below hg2 (by have := hb0.size; omega) hb1.size)
  rw [HL.out] at hO2
  go_wp2
  go_ret
  exact ⟨_, rfl, hO2.mono hb0.size, hb2⟩
end Go.Proofs.YtgholbeehkfbiaaGreat
