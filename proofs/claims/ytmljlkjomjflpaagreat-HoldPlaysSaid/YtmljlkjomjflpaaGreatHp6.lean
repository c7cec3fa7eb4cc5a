/- Texts of this claim, laid together: ChA, Hold, CopyM, MapKeys. -/
import Derived.Test.YtmljlkjomjflpaaGreatRows
import Derived.Test.YtmljlkjomjflpaaGreatHp5
import Derived.WalkKit
import Derived.WalkSpells
import Derived.WalkLawsBesides
import Derived.Deep.QuietTactic
import Derived.BigQuiet
import Derived.Laws.StructEq
import Derived.Deep.DeepFit
import Derived.StillTailTactics
import Derived.Test.YtmljlkjomjflpaaGreatHp4
import Derived.Test.YtmljlkjomjflpaaGreatShelf
import Derived.Shelf.SlMaps.Clone
import Derived.Maps.Own
import Derived.Sort.KeysCollected
import Derived.Test.YtmljlkjomjflpaaGreatHp1
import Derived.Test.YtmljlkjomjflpaaGreatHp2

/- chart: accounts in order -/
namespace Go.Proofs.YtmljlkjomjflpaaGreat
open Go.RowKit
instance encAc : Enc Ac where
  size := 4
  cells a := [.string a.name, i64 a.hav, i64 a.set_, i64 a.lim]
  val := Ac.v
  ok _ _ a := a.name.size ≤ maxLen
  len _ := rfl
  one _ v hv := by simp only [List.mem_cons, List.not_mem_nil, or_false] at hv; rcases hv with rfl | rfl | rfl | rfl <;> rfl
  keep h _ _ := h
theorem Ac.ext_ {a b : Ac} (h1 : a.name = b.name) (h2 : a.hav = b.hav) (h3 : a.set_ = b.set_) (h4 : a.lim = b.lim) : a = b := by cases a; cases b; simp_all
instance : DecidableEq Ac := fun a b => if h : a.name = b.name ∧ a.hav = b.hav ∧ a.set_ = b.set_ ∧ a.lim = b.lim then isTrue (Ac.ext_ h.1 h.2.1 h.2.2.1 h.2.2.2) else isFalse (fun e => h (by rw [e]; exact ⟨rfl, rfl, rfl, rfl⟩))
def ltA (a b : Ac) : Bool := bless a.name b.name
theorem keyA : KeyOrd ltA Ac.name where
  strict := ⟨fun a => bless_strict.irr _, fun a b c => bless_strict.trans _ _ _, fun a b c => bless_strict.co _ _ _⟩
  ne a b h e := by unfold ltA at h; rw [e, bless_strict.irr] at h; cases h
  co a b h := by
    cases h1 : ltA a b with
    | true => exact .inl rfl
    | false =>
      cases h2 : ltA b a with
      | true => exact .inr rfl
      | false => exact absurd (bless_tri h1 h2) h
  eq a b h c := by unfold ltA; rw [h]; exact ⟨rfl, rfl⟩
/-- accounts as they are kept -/
def OkA (L : List Ac) : Prop := ∀ a ∈ L, InA a ∧ 0 ≤ a.set_ ∧ nameB a.name = true
/-- chart.Give, Aside, as they turn accounts in order -/
def turnL (D : Ac → Ac × Int) (L : List Ac) (k : ByteArray) (x : Int) : Int × List Ac := match getK Ac.name L k with
  | none => (6, L)
  | some a => if (D a).2 ≠ 0 then ((D a).2, L) else if 0 < x ∧ freeA a x = false then (9, L) else if (D a).1.set_ < 0 then (13, L) else (0, setK Ac.name L (D a).1)
def openL (L : List Ac) (k : ByteArray) (lim : Int) : Int × List Ac :=
  if nameB k = false ∨ lim < 0 then (1, L) else if (getK Ac.name L k).isSome = true then (7, L) else if L.length = 12 then (5, L) else (0, insB ltA ⟨k, 0, 0, lim⟩ L)
def getLR (L : List Ac) (k : ByteArray) : Ac × Int := match getK Ac.name L k with
  | some a => (a, 0)
  | none => (ac0, 6)
abbrev RkA (M : List (ByteArray × Ac)) (L : List Ac) : Prop := RK ltA Ac.name Prod.snd M L
theorem RkA.get_ {M : List (ByteArray × Ac)} {L : List Ac} (h : RkA M L) (k : ByteArray) : getM M k = getK Ac.name L k := by
  have := RK.get keyA h k
  simpa using this
theorem RkA.getC_ {M : List (ByteArray × Ac)} {L : List Ac} (h : RkA M L) (k : ByteArray) : getC M k = getLR L k := by
  unfold getC getLR
  rw [h.get_ k]
  cases getK Ac.name L k <;> rfl
theorem RkA.turn {M : List (ByteArray × Ac)} {L : List Ac} (h : RkA M L) (D : Ac → Ac × Int) (hD : ∀ a, (D a).1.name = a.name) (k : ByteArray) (x : Int) : (turnC D M k x).1 = (turnL D L k x).1 ∧ RkA (turnC D M k x).2 (turnL D L k x).2 := by
  unfold turnC turnL
  rw [h.get_ k]
  cases hg : getK Ac.name L k with
  | none => exact ⟨rfl, h⟩
  | some a =>
    have hk := (getK_mem hg).2
    dsimp only
    by_cases h1 : (D a).2 ≠ 0
    · rw [if_pos h1, if_pos h1]; exact ⟨rfl, h⟩
    · rw [if_neg h1, if_neg h1]
      by_cases h2 : 0 < x ∧ freeA a x = false
      · rw [if_pos h2, if_pos h2]; exact ⟨rfl, h⟩
      · rw [if_neg h2, if_neg h2]
        by_cases h3 : (D a).1.set_ < 0
        · rw [if_pos h3, if_pos h3]; exact ⟨rfl, h⟩
        · rw [if_neg h3, if_neg h3]
          exact ⟨rfl, RK.put keyA h (k := k) (v := (D a).1) (by rw [← hk]; exact hD a) (by rw [hg]; rfl)⟩
theorem RkA.open_ {M : List (ByteArray × Ac)} {L : List Ac} (h : RkA M L) (k : ByteArray) (lim : Int) : (openC M k lim).1 = (openL L k lim).1 ∧ RkA (openC M k lim).2 (openL L k lim).2 := by
  unfold openC openL
  rw [h.get_ k, RK.len h]
  by_cases h1 : nameB k = false ∨ lim < 0
  · rw [if_pos h1, if_pos h1]; exact ⟨rfl, h⟩
  · rw [if_neg h1, if_neg h1]
    cases hg : getK Ac.name L k with
    | some a => exact ⟨rfl, h⟩
    | none =>
      simp only [Option.isSome_none, Bool.false_eq_true, if_false]
      by_cases h3 : L.length = 12
      · rw [if_pos h3, if_pos h3]; exact ⟨rfl, h⟩
      · rw [if_neg h3, if_neg h3]
        exact ⟨rfl, RK.add keyA h (k := k) (v := ⟨k, 0, 0, lim⟩) rfl hg⟩
/-- block g holds a chart, whose map lies in block b: the accounts L, in order -/
def ChA (w : World) (g b : Nat) (L : List Ac) : Prop := ∃ M, ChIs w g b M ∧ RkA M L
theorem ChA.kept {w w' : World} {g b : Nat} {L : List Ac} {S : Nat → Prop} (h : ChA w g b L) (hk : Gr w w' S) (h1 : ¬ S g) (h2 : ¬ S b) : ChA w' g b L := by
  obtain ⟨M, h, hr⟩ := h
  exact ⟨M, ⟨h.ne, (hk.block g h.lt.1 h1).trans h.cell, by
    have hlt := h.map.lt
    obtain ⟨es, clock, hb, r⟩ := h.map
    exact ⟨es, clock, (hk.block b hlt h2).trans hb, r⟩⟩, hr⟩
theorem ChA.later {w w' : World} {g b : Nat} {L : List Ac} (h : ChA w g b L) (hb : Below w.heap.size w w') : ChA w' g b L := h.kept (Gr.of_below hb (fun _ => False)) id id
theorem ChA.lt {w : World} {g b : Nat} {L : List Ac} (h : ChA w g b L) : g < w.heap.size ∧ b < w.heap.size ∧ b ≠ g := by
  obtain ⟨M, h, _⟩ := h
  exact ⟨h.lt.1, h.lt.2, h.ne⟩
theorem ChA.srt {w : World} {g b : Nat} {L : List Ac} (h : ChA w g b L) : SrtL ltA L := by
  obtain ⟨M, _, h⟩ := h
  exact h.srt
theorem OkA.inM {M : List (ByteArray × Ac)} {L : List Ac} (h : OkA L) (hr : RkA M L) : ∀ y ∈ M, InA y.2 := fun y hy => (h y.2 (hr.perm.mem_iff.1 (List.mem_map.2 ⟨y, hy, rfl⟩))).1
theorem chnewA_c (w : World) : Calls Tryz.prog 51 #[] w fun e w' => e = .returned (.pointer (some ⟨w.heap.size + 1, 0, none⟩)) ∧ ChA w' (w.heap.size + 1) w.heap.size [] ∧ Below w.heap.size w w' :=
  (chnew_c w).mono fun _ _ ⟨h1, h2, h3⟩ => ⟨h1, ⟨[], h2, RK.nil⟩, h3⟩
theorem getA_c (g b : Nat) (L : List Ac) (k : ByteArray) (w : World) (h : ChA w g b L) :
    Calls Tryz.prog 50 #[.pointer (some ⟨g, 0, none⟩), .string k] w fun e w' => e = .returned (.tuple #[(getLR L k).1.v, i64 (getLR L k).2]) ∧ Below w.heap.size w w' := by
  obtain ⟨M, h, hr⟩ := h
  have := get_c g b M k w h
  rw [hr.getC_ k] at this
  exact this
theorem giveA_c (g b : Nat) (L : List Ac) (k : ByteArray) (x : Int) (w : World) (h : ChA w g b L) (hL : OkA L) (hx : R64 x) :
    Calls Tryz.prog 54 #[.pointer (some ⟨g, 0, none⟩), .string k, i64 x] w fun e w' => e = .returned (i64 (turnL (givD x) L k x).1) ∧ ChA w' g b (turnL (givD x) L k x).2 ∧ w.grownBy w' (some b) := by
  obtain ⟨M, h, hr⟩ := h
  obtain ⟨e1, e2⟩ := hr.turn (givD x) (fun _ => rfl) k x
  exact (give_c g b M k x w h (hL.inM hr) hx).mono fun _ _ ⟨h1, h2, h3⟩ => ⟨by rw [← e1]; exact h1, ⟨_, h2, e2⟩, h3⟩
theorem asideA_c (g b : Nat) (L : List Ac) (k : ByteArray) (x : Int) (w : World) (h : ChA w g b L) (hL : OkA L) (hx : R64 x) :
    Calls Tryz.prog 84 #[.pointer (some ⟨g, 0, none⟩), .string k, i64 x] w fun e w' => e = .returned (i64 (turnL (asiD x) L k x).1) ∧ ChA w' g b (turnL (asiD x) L k x).2 ∧ w.grownBy w' (some b) := by
  obtain ⟨M, h, hr⟩ := h
  obtain ⟨e1, e2⟩ := hr.turn (asiD x) (fun _ => rfl) k x
  exact (aside_c g b M k x w h (hL.inM hr) hx).mono fun _ _ ⟨h1, h2, h3⟩ => ⟨by rw [← e1]; exact h1, ⟨_, h2, e2⟩, h3⟩
theorem openA_c (g b : Nat) (L : List Ac) (k : ByteArray) (lim : Int) (w : World) (h : ChA w g b L) :
    Calls Tryz.prog 52 #[.pointer (some ⟨g, 0, none⟩), .string k, i64 lim] w fun e w' => e = .returned (i64 (openL L k lim).1) ∧ ChA w' g b (openL L k lim).2 ∧ w.grownBy w' (some b) := by
  obtain ⟨M, h, hr⟩ := h
  obtain ⟨e1, e2⟩ := hr.open_ k lim
  exact (open_c g b M k lim w h).mono fun _ _ ⟨h1, h2, h3⟩ => ⟨by rw [← e1]; exact h1, ⟨_, h2, e2⟩, h3⟩
theorem R64_0 : R64 0 := ⟨by decide, by decide⟩
theorem turnL_ok {D : Ac → Ac × Int} (hD : ∀ a, InA a → 0 ≤ a.set_ → (D a).1.name = a.name ∧ InA (D a).1) {L : List Ac} (h : OkA L) (k : ByteArray) (x : Int) : OkA (turnL D L k x).2 := by
  unfold turnL
  cases hg : getK Ac.name L k with
  | none => exact h
  | some a =>
    dsimp only
    by_cases h1 : (D a).2 ≠ 0
    · rw [if_pos h1]; exact h
    · rw [if_neg h1]
      by_cases h2 : 0 < x ∧ freeA a x = false
      · rw [if_pos h2]; exact h
      · rw [if_neg h2]
        by_cases h3 : (D a).1.set_ < 0
        · rw [if_pos h3]; exact h
        · rw [if_neg h3]
          have ha := h a (getK_mem hg).1
          intro y hy
          rcases setK_mem hy with rfl | hy
          · obtain ⟨e1, e2⟩ := hD a ha.1 ha.2.1
            exact ⟨e2, by omega, by rw [e1]; exact ha.2.2⟩
          · exact h y hy.1
theorem givD_ok (x : Int) : ∀ a, InA a → 0 ≤ a.set_ → (givD x a).1.name = a.name ∧ InA (givD x a).1 := fun _ h _ => ⟨rfl, sumR_R64 _, h.2⟩
theorem asiD_ok (x : Int) : ∀ a, InA a → 0 ≤ a.set_ → (asiD x a).1.name = a.name ∧ InA (asiD x a).1 := fun _ h _ => ⟨rfl, h.1, sumR_R64 _, h.2.2⟩
theorem openL_ok {L : List Ac} (h : OkA L) (k : ByteArray) {lim : Int} (hl : R64 lim) : OkA (openL L k lim).2 := by
  unfold openL
  by_cases h1 : nameB k = false ∨ lim < 0
  · rw [if_pos h1]; exact h
  · rw [if_neg h1]
    by_cases h2 : (getK Ac.name L k).isSome = true
    · rw [if_pos h2]; exact h
    · rw [if_neg h2]
      by_cases h3 : L.length = 12
      · rw [if_pos h3]; exact h
      · rw [if_neg h3]
        intro y hy
        rcases List.mem_cons.1 ((insB_perm _ L).mem_iff.1 hy) with rfl | hy
        · exact ⟨⟨R64_0, R64_0, by have : ¬ lim < 0 := fun e => h1 (.inr e); show 0 ≤ lim; omega, hl.2⟩, Int.le_refl _, by
            cases hn : nameB k with
            | true => rfl
            | false => exact absurd (.inl hn) h1⟩
        · exact h y hy
end Go.Proofs.YtmljlkjomjflpaaGreat

/- hold: the keys, New, Free -/
namespace Go.Proofs.YtmljlkjomjflpaaGreat
open Go.RowKit
/-- hold.key -/
structure Hk where
  acct : ByteArray
  num : Int
theorem Hk.ext_ {a b : Hk} (h1 : a.acct = b.acct) (h2 : a.num = b.num) : a = b := by cases a; cases b; simp_all
instance : DecidableEq Hk := fun a b => if h : a.acct = b.acct ∧ a.num = b.num then isTrue (Hk.ext_ h.1 h.2) else isFalse (fun e => h (by rw [e]; exact ⟨rfl, rfl⟩))
abbrev Hk.v (x : Hk) : Value := .agg #[.string x.acct, i64 x.num]
theorem check_hk (empty : Bool) (n : Nat) (k : Hk) (w : World) : (Instr.checkKey empty (n + 2) 108 k.v).run Tryz.prog w = .ok () w := by
  have u3 := Tryz.underlying3
  have a3 := Tryz.isAgg3
  have z3 := Tryz.sizeOf3
  have u9 := Tryz.underlying9
  have a9 := Tryz.isAgg9
  have z9 := Tryz.sizeOf9
  rw [Instr.checkKey]
  simp only [Sem.run_bind, run_underlying Tryz.underlying108, Result.andThen_ok, Hk.v]
  go_simp
  simp [check_int, check_str]
theorem bits_hk (n : Nat) (k : Hk) : Instr.sameBits (n + 1) k.v k.v = true := by
  simp [Instr.sameBits, beqS_self]
theorem hkKey : KeyFit Tryz.prog 108 Hk.v :=
  fit_asking (d := .struct (Tryz.prog.fieldsOf 108)) (by kernel_rfl) (fun a b => rfl) (fun a b w => by
      have u3 := Tryz.underlying3
      have a3 := Tryz.isAgg3
      have z3 := Tryz.sizeOf3
      have u9 := Tryz.underlying9
      have a9 := Tryz.isAgg9
      have z9 := Tryz.sizeOf9
      have hS : Tryz.prog.underlying 108 = some (.struct (Tryz.prog.fieldsOf 108)) := by kernel_rfl
      have hp : Tryz.prog.stoodInHeld 108 = false := by kernel_rfl
      simp only [Op.equal, Op.maxDepth]
      rw [show (10000 : Nat) = 9999 + 1 from rfl, run_equalIn_agg w 9999 108 _ _ hS hp]
      simp only [Program.fieldsOf, Tryz.underlying108]
      go_simp
      by_cases h1 : a.acct = b.acct
      · by_cases h2 : a.num = b.num
        · rw [decide_eq_true (Hk.ext_ h1 h2)]; simp [h1, h2]
        · rw [decide_eq_false (fun e => h2 (by rw [e]))]; simp [h1, h2]
      · have t1 := beqS_of_ne h1
        have t2 : ¬ a.acct.toList = b.acct.toList := by simpa using t1
        rw [decide_eq_false (fun e => h1 (by rw [e]))]; simp [t2])
    (fun empty k w => check_hk empty 9998 k w) (fun k => bits_hk 9999 k)
def hv (H : List (Hk × Int)) : List (Hk × Value) := H.map fun p => (p.1, i64 p.2)
theorem getM_hv (H : List (Hk × Int)) (k : Hk) : getM (hv H) k = (getM H k).map i64 := by
  unfold getM hv
  induction H with
  | nil => rfl
  | cons p r ih =>
    rw [List.map_cons]
    by_cases h : p.1 = k
    · rw [List.find?_cons_of_pos (by simpa using h), List.find?_cons_of_pos (by simpa using h)]
      rfl
    · rw [List.find?_cons_of_neg (by simpa using h), List.find?_cons_of_neg (by simpa using h)]
      exact ih
theorem putM_hv (H : List (Hk × Int)) (k : Hk) (a : Int) : putM (hv H) k (i64 a) = hv (putM H k a) := by
  unfold putM hv
  rw [List.any_map]
  by_cases h : (H.any fun p => decide (p.1 = k)) = true
  · rw [if_pos h, if_pos (by simpa [Function.comp_def] using h), List.map_map, List.map_map]
    refine List.map_congr_left fun p _ => ?_
    simp only [Function.comp_def]
    split <;> rfl
  · rw [if_neg h, if_neg (by simpa [Function.comp_def] using h), List.map_append]
    rfl
theorem delM_hv (H : List (Hk × Int)) (k : Hk) : delM (hv H) k = hv (delM H k) := by
  unfold delM hv
  rw [List.filter_map]
  rfl
/-- block g holds holds, whose map lies in block b -/
structure HoIs (w : World) (g b : Nat) (H : List (Hk × Int)) : Prop where
  ne : b ≠ g
  cell : w.heap[g]? = some (.cells #[.map (some b)] 101 (0, 0))
  map : MapIs Hk.v w b (hv H)
theorem HoIs.kept {w w' : World} {g b : Nat} {H : List (Hk × Int)} {row : Option Nat} (h : HoIs w g b H) (hk : w.grownBy w' row) (h1 : some g ≠ row) (h2 : some b ≠ row) : HoIs w' g b H :=
  ⟨h.ne, (hk.block g (Array.getElem?_eq_some_iff.1 h.cell).1 h1).trans h.cell, h.map.kept hk h2⟩
theorem HoIs.later {w w' : World} {g b : Nat} {H : List (Hk × Int)} (h : HoIs w g b H) (hb : Below w.heap.size w w') : HoIs w' g b H := h.kept (grown_of_below hb none) (by simp) (by simp)
theorem HoIs.lt {w : World} {g b : Nat} {H : List (Hk × Int)} (h : HoIs w g b H) : g < w.heap.size ∧ b < w.heap.size := ⟨(Array.getElem?_eq_some_iff.1 h.cell).1, h.map.lt⟩
set_option maxRecDepth 100000 in
set_option maxHeartbeats 2000000 in
theorem honew_c (w : World) : Calls Tryz.prog 14 #[] w fun e w' => e = .returned (.pointer (some ⟨w.heap.size + 1, 0, none⟩)) ∧ HoIs w' (w.heap.size + 1) w.heap.size [] ∧ Below w.heap.size w w' := by
  have hmm := @run_makeMap Tryz.prog
  go_enter Tryz.func14, Tryz.ntmps14
  go_wp2
  go_ret
  have hB := ((Below.refl w.heap.size w).alloc (Nat.le_refl _) (.map #[] 0)).alloc (by simp) (.cells #[.map (some w.heap.size)] 101)
  exact ⟨rfl, ⟨by omega, heap_alloc2_new w _ _, (MapIs.made (enc := Hk.v) w).later ((Below.refl _ _).alloc (Nat.le_refl _) _)⟩, hB⟩
/-- hold.Free: what is told, the accounts, the holds -/
def freeH (M : List (ByteArray × Ac)) (H : List (Hk × Int)) (k : ByteArray) (n : Int) : Int × List (ByteArray × Ac) × List (Hk × Int) := match getM H ⟨k, n⟩ with
  | none => (6, M, H)
  | some s => ((turnC (asiD (-s)) M k (-s)).1, (turnC (asiD (-s)) M k (-s)).2, if (turnC (asiD (-s)) M k (-s)).1 = 0 then delM H ⟨k, n⟩ else H)
/-- nothing of w has turned but blocks b and c -/
structure G2 (w w' : World) (b c : Nat) : Prop where
  os : w'.os = w.os
  tape : w'.tape = w.tape
  output : w'.output = w.output
  size : w.heap.size ≤ w'.heap.size
  block : ∀ k, k < w.heap.size → k ≠ b → k ≠ c → w'.heap[k]? = w.heap[k]?
theorem G2.fst {w w' : World} {b : Nat} (h : w.grownBy w' (some b)) (c : Nat) : G2 w w' b c := ⟨h.os, h.tape, h.output, h.size, fun k hk h1 _ => h.block k hk (fun e => h1 (by injection e))⟩
theorem G2.snd {w w' : World} {c : Nat} (h : w.grownBy w' (some c)) (b : Nat) : G2 w w' b c := ⟨h.os, h.tape, h.output, h.size, fun k hk _ h2 => h.block k hk (fun e => h2 (by injection e))⟩
theorem G2.of_below {w w' : World} (h : Below w.heap.size w w') (b c : Nat) : G2 w w' b c := G2.fst (grown_of_below h (some b)) c
theorem G2.trans {w w' w'' : World} {b c : Nat} (h : G2 w w' b c) (k : G2 w' w'' b c) : G2 w w'' b c := ⟨k.os.trans h.os, k.tape.trans h.tape, k.output.trans h.output, Nat.le_trans h.size k.size, fun n hn h1 h2 => (k.block n (Nat.lt_of_lt_of_le hn h.size) h1 h2).trans (h.block n hn h1 h2)⟩
set_option maxRecDepth 100000 in
set_option maxHeartbeats 8000000 in
theorem hofree_c (g b gh bh : Nat) (M : List (ByteArray × Ac)) (H : List (Hk × Int)) (k : ByteArray) (n : Int) (w : World) (h : ChIs w g b M) (hh : HoIs w gh bh H) (hd : gh ≠ b ∧ bh ≠ b ∧ g ≠ bh) (hM : ∀ y ∈ M, InA y.2) (hH : ∀ y ∈ H, 1 ≤ y.2 ∧ y.2 ≤ 9223372036854775807) :
    Calls Tryz.prog 57 #[.pointer (some ⟨gh, 0, none⟩), .pointer (some ⟨g, 0, none⟩), .string k, i64 n] w fun e w' => e = .returned (i64 (freeH M H k n).1) ∧ ChIs w' g b (freeH M H k n).2.1 ∧ HoIs w' gh bh (freeH M H k n).2.2 ∧ G2 w w' b bh := by
  have hb0 := (Below.refl w.heap.size w).alloc (Nat.le_refl _) (.cells #[.string k, i64 n] 108)
  have hk0 := heap_alloc_new w (.cells #[.string k, i64 n] 108)
  have h1 := h.later hb0
  have hh1 := hh.later hb0
  have hlk := run_lookup (P := Tryz.prog) hkKey Tryz.underlying99 (hh1.later (Below.refl _ _).drew).map ⟨k, n⟩ (i64 0) (by kernel_rfl) true
  rw [getM_hv] at hlk
  obtain ⟨o, ho⟩ : ∃ o, getM H ⟨k, n⟩ = o := ⟨_, rfl⟩
  rw [ho] at hlk
  have c0 := cell_of_row _ gh 0 _ _ (0, 0) hh1.cell
  have c1 := cell_of_row _ w.heap.size 0 _ _ (0, 0) hk0
  have c2 := cell_of_row _ w.heap.size 1 _ _ (0, 0) hk0
  simp only [List.getElem?_toArray, List.getElem?_cons_zero, List.getElem?_cons_succ] at c0 c1 c2
  have hlg := h.lt
  have hlh := hh.lt
  unfold Hk.v at hlk
  go_enter Tryz.func57, Tryz.ntmps57
  go_upto_region 4 with fail
  generalize w.alloc (.cells #[.string k, i64 n] 108) = w0 at *
  go_cut [10, 11] from 13 (fun s10 s11 wx => s10 = i64 (o.getD 0) ∧ s11 = .bool o.isSome ∧ w0.drew = wx)
  case first =>
    go_region_with fail
    all_goals (go_wp2_with fail; go_meet; exact ⟨rfl, by simp, rfl⟩)
  case rest =>
  obtain ⟨rfl, rfl, rfl⟩ := hcut
  have h2 := h1.later (Below.refl _ _).drew
  have hh2 := hh1.later (Below.refl _ _).drew
  have hb2 := hb0.drew
  have hk2 : w0.drew.heap[w.heap.size]? = some (.cells #[.string k, i64 n] 108 (0, 0)) := hk0
  generalize w0.drew = w1 at *
  clear hlk c0 c1 c2 hb0 hk0 h1 hh1 h hh
  cases o with
  | none =>
    have HR := Lib.hid (show freeH M H k n = (6, M, H) by unfold freeH; rw [ho])
    clear ho
    go_wp2
    go_ret
    exact ⟨by rw [HR.out]; rfl, by rw [HR.out]; exact h2, by rw [HR.out]; exact hh2, G2.of_below hb2 _ _⟩
  | some s =>
    have hs : 1 ≤ s ∧ s ≤ 9223372036854775807 := by
      unfold getM at ho
      rw [Option.map_eq_some_iff] at ho
      obtain ⟨p, hp, rfl⟩ := ho
      exact hH p (List.mem_of_find?_eq_some hp)
    have hA := Lib.hid (aside_c g b M k (-s) w1 h2 hM ⟨by omega, by omega⟩)
    have HR := Lib.hid (show freeH M H k n = ((turnC (asiD (-s)) M k (-s)).1, (turnC (asiD (-s)) M k (-s)).2, if (turnC (asiD (-s)) M k (-s)).1 = 0 then delM H ⟨k, n⟩ else H) by unfold freeH; rw [ho])
    generalize turnC (asiD (-s)) M k (-s) = T at *
    have hw : wrap64 (-s) = -s := by rw [← IntWalk.i64_left, IntKind.wrap_i64]; omega
    clear ho hM hH
    go_wp2_with fail
    refine hA.out.mono ?_
    rintro e w2 ⟨rfl, h3, hG⟩
    have hh3 := hh2.kept hG (fun e => by injection e with e; exact hd.1 e) (fun e => by injection e with e; exact hd.2.1 e)
    have hk3 := (hG.block _ (Array.getElem?_eq_some_iff.1 hk2).1 (fun e => by injection e with e; omega)).trans hk2
    have hg2 := (G2.of_below hb2 b bh).trans (G2.fst hG bh)
    clear hA h2 hh2 hk2 hG hb2
    by_cases ht : T.1 = 0
    · have g1 : (T.1 == 0) = true := by rw [ht]; rfl
      have HR2 := Lib.hid (show freeH M H k n = (T.1, T.2, delM H ⟨k, n⟩) by rw [HR.out, if_pos ht])
      clear ht HR
      have hh4 := hh3.later (Below.refl _ _).drew
      have h4 := h3.later (Below.refl _ _).drew
      obtain ⟨w5, hrun, hm5, hg5⟩ := run_del (P := Tryz.prog) hkKey Tryz.underlying99 hh4.map ⟨k, n⟩ 0 108
      rw [delM_hv] at hm5
      unfold Hk.v at hrun
      have c0 := cell_of_row _ gh 0 _ _ (0, 0) hh3.cell
      have c1 := cell_of_row _ w.heap.size 0 _ _ (0, 0) hk3
      have c2 := cell_of_row _ w.heap.size 1 _ _ (0, 0) hk3
      simp only [List.getElem?_toArray, List.getElem?_cons_zero, List.getElem?_cons_succ] at c0 c1 c2
      have HM := Lib.hid hm5
      have HG := Lib.hid hg5
      clear hm5 hg5
      go_wp2_with fail
      go_region_with fail
      all_goals (
        go_wp2
        go_ret
        exact ⟨by rw [HR2.out]; rfl, by rw [HR2.out]; exact h4.kept HG.out (fun e => by injection e with e; exact hd.2.2 e) (fun e => by injection e with e; exact hd.2.1 e.symm), by rw [HR2.out]; exact ⟨hh4.ne, (HG.out.block gh hh4.lt.1 (fun e => hh4.ne (by injection e with e; exact e.symm))).trans hh4.cell, HM.out⟩, (hg2.trans (G2.of_below (Below.refl _ _).drew _ _)).trans (G2.snd HG.out b)⟩)
    · have g1 : (T.1 == 0) = false := beq_eq_false_iff_ne.2 ht
      have HR2 := Lib.hid (show freeH M H k n = (T.1, T.2, H) by rw [HR.out, if_neg ht])
      clear ht HR
      go_wp2
      go_ret
      exact ⟨by rw [HR2.out]; rfl, by rw [HR2.out]; exact h3, by rw [HR2.out]; exact hh3, hg2⟩
end Go.Proofs.YtmljlkjomjflpaaGreat

/- chart.Copy, hold.Copy -/
namespace Go.Proofs.YtmljlkjomjflpaaGreat
open Go.RowKit
theorem MapIs.cloned {κ : Type} {enc : κ → Value} {w : World} {b : Nat} {M : List (κ × Value)} {es : Array MapEntry} {clock : Nat} (h : MapIs enc w b M) (hb : w.heap[b]? = some (.map es clock)) : MapIs enc (w.alloc (.map es clock)) w.heap.size M := by
  obtain ⟨es', clock', hb', r⟩ := h
  rw [hb] at hb'
  injection hb' with hb'
  injection hb' with e1 e2
  subst e1 e2
  exact ⟨es, clock, heap_alloc_new w _, r⟩
set_option maxRecDepth 100000 in
set_option maxHeartbeats 4000000 in
theorem chcopy_c (g b : Nat) (M : List (ByteArray × Ac)) (w : World) (h : ChIs w g b M) :
    Calls Tryz.prog 70 #[.pointer (some ⟨g, 0, none⟩)] w fun e w' => ∃ g' b', e = .returned (.pointer (some ⟨g', 0, none⟩)) ∧ ChIs w' g' b' M ∧ w.heap.size ≤ g' ∧ w.heap.size ≤ b' ∧ Below w.heap.size w w' := by
  obtain ⟨es, clock, hb, hr⟩ := h.map
  have hm := h.map.cloned hb
  have hC := AnyW.maps_Clone Tryz.lcloneA b es clock w hb
  change Calls Tryz.prog 107 _ _ _ at hC
  have HC := Lib.hid hC
  have c0 := cell_of_row _ g 0 _ _ (0, 0) h.cell
  simp only [List.getElem?_toArray, List.getElem?_cons_zero] at c0
  have hB := ((Below.refl w.heap.size w).alloc (Nat.le_refl _) (.map es clock)).alloc (by simp) (.cells #[.map (some w.heap.size)] 122)
  clear hb hr h hC
  go_enter Tryz.func70, Tryz.ntmps70
  go_wp2_with fail
  refine HC.out.mono ?_
  rintro e w1 ⟨rfl, rfl⟩
  go_wp2
  go_ret
  exact ⟨w.heap.size + 1, w.heap.size, rfl, ⟨by omega, heap_alloc2_new w _ _, hm.later ((Below.refl _ _).alloc (Nat.le_refl _) _)⟩, by omega, by omega, hB⟩
set_option maxRecDepth 100000 in
set_option maxHeartbeats 4000000 in
theorem hocopy_c (g b : Nat) (H : List (Hk × Int)) (w : World) (h : HoIs w g b H) :
    Calls Tryz.prog 71 #[.pointer (some ⟨g, 0, none⟩)] w fun e w' => ∃ g' b', e = .returned (.pointer (some ⟨g', 0, none⟩)) ∧ HoIs w' g' b' H ∧ w.heap.size ≤ g' ∧ w.heap.size ≤ b' ∧ Below w.heap.size w w' := by
  obtain ⟨es, clock, hb, hr⟩ := h.map
  have hm := h.map.cloned hb
  have hC := AnyW.maps_Clone Tryz.lcloneH b es clock w hb
  change Calls Tryz.prog 108 _ _ _ at hC
  have HC := Lib.hid hC
  have c0 := cell_of_row _ g 0 _ _ (0, 0) h.cell
  simp only [List.getElem?_toArray, List.getElem?_cons_zero] at c0
  have hB := ((Below.refl w.heap.size w).alloc (Nat.le_refl _) (.map es clock)).alloc (by simp) (.cells #[.map (some w.heap.size)] 101)
  clear hb hr h hC
  go_enter Tryz.func71, Tryz.ntmps71
  go_wp2_with fail
  refine HC.out.mono ?_
  rintro e w1 ⟨rfl, rfl⟩
  go_wp2
  go_ret
  exact ⟨w.heap.size + 1, w.heap.size, rfl, ⟨by omega, heap_alloc2_new w _ _, hm.later ((Below.refl _ _).alloc (Nat.le_refl _) _)⟩, by omega, by omega, hB⟩
end Go.Proofs.YtmljlkjomjflpaaGreat

/- A map with texts as keys, as the kit's sorted keys read it. No program. -/
namespace Go.Proofs.YtmljlkjomjflpaaGreat
open Go.WideElems (Fit rd rg rd_mk rg_of)

def anyR : Value → Option (DataW Unit × List MemPlace) := fun _ => some (.lit (.bool true), [])
def bytesOf : Value → List UInt8
  | .string s => s.data.toList
  | _ => []
theorem ownsMap_of {P : Program} {k : TypeId} (hk : P.underlying k = some .string) {w : World} {b : Nat} {M : List (ByteArray × Value)} (h : MapIs Value.string w b M) (hn : M.length ≤ maxLen) (hs : ∀ p ∈ M, p.1.size ≤ maxLen) :
    ∃ D0 : DataW Unit, w.ownsMap P k anyR b M.length D0 ∧ (strKeys D0).Perm (M.map fun p => p.1.data.toList) ∧ Maps.size D0 = M.length := by
  obtain ⟨es, clock, hb, he, hpw, hcl, hnd⟩ := h
  have hlen : es.size = M.length := by have := congrArg List.length he; simpa using this
  have hkey : ∀ x ∈ es.toList, ∃ p ∈ M, x.key = .string p.1 := fun x hx => by
    have : (x.key, x.val) ∈ M.map (fun p => (Value.string p.1, p.2)) := by rw [← he]; exact List.mem_map.2 ⟨x, hx, rfl⟩
    obtain ⟨p, hp, e⟩ := List.mem_map.1 this
    injection e with e1 e2
    exact ⟨p, hp, e1.symm⟩
  have hrd : ∀ x ∈ es.toList, rd P k anyR x = some (.string (bytesOf x.key), .lit (.bool true)) := fun x hx => by
    obtain ⟨p, hp, e⟩ := hkey x hx
    have h1 : keyOf P k x.key = some (.string p.1.data.toList) := by rw [e]; exact WideMaps.keyOf_string_mk hk (hs p hp)
    have := rd_mk (R := anyR) (val := x.val) (born := x.born) h1 rfl
    rw [e]
    exact this
  have hkeys : (es.toList.map (·.key)) = M.map (fun p => Value.string p.1) := by
    have := congrArg (List.map Prod.fst) he
    simpa [List.map_map, Function.comp_def] using this
  refine ⟨_, ⟨es, clock, hb, ⟨by omega, ⟨hcl, ?_, ?_⟩, fun x hx => ⟨_, hrd x hx⟩⟩, by omega, rfl⟩, ?_, ?_⟩
  · exact List.pairwise_map.2 (hpw.imp fun h => Nat.ne_of_lt h)
  · rw [hkeys]
    exact List.pairwise_map.2 (hnd.imp fun h e => h (by injection e))
  · show ((List.foldr DataW.insert [] (es.toList.map (rg P k anyR))).map fun p => strOf p.1).Perm _
    refine ((WideShapes.sorted_perm _).map _).trans (List.Perm.of_eq ?_)
    rw [List.map_map]
    have h1 : es.toList.map ((fun p : Lit × DataW Unit => strOf p.1) ∘ rg P k anyR) = es.toList.map (fun x => bytesOf x.key) := List.map_congr_left fun x hx => by
      simp only [Function.comp_def, rg_of (hrd x hx)]
      rfl
    rw [h1]
    have := congrArg (List.map bytesOf) hkeys
    rw [List.map_map, List.map_map] at this
    exact this
  · show (List.foldr DataW.insert [] (es.toList.map (rg P k anyR))).length = _
    rw [(WideShapes.sorted_perm _).length_eq, List.length_map, Array.length_toList, hlen]
theorem bl_lt : ∀ {a b : List UInt8}, Op.bytesLess a b = true → a < b
  | _, [], h => by simp [Op.bytesLess] at h
  | [], _ :: _, _ => List.nil_lt_cons _ _
  | x :: r, y :: s, h => by
    simp only [Op.bytesLess, Bool.or_eq_true, decide_eq_true_eq, Bool.and_eq_true, beq_iff_eq] at h
    rcases h with h | ⟨rfl, h⟩
    · exact List.cons_lt_cons_iff.2 (.inl h)
    · exact List.cons_lt_cons_iff.2 (.inr ⟨rfl, bl_lt h⟩)
theorem bless_le {a b : ByteArray} (h : bless a b = true) : a.data.toList ≤ b.data.toList := by
  unfold bless at h
  rw [ByteArray.toList_eq, ByteArray.toList_eq] at h
  exact List.le_of_lt (bl_lt h)
/-- what the kit's sort hands back, where the keys are known in order -/
theorem sorted_keys {ss : List (List UInt8)} {N : List ByteArray} (hp : ss.Perm (N.map fun a => a.data.toList)) (hs : N.Pairwise fun a b => bless a b = true) : (ss.mergeSort (fun x y => decide (x ≤ y))).map _root_.Go.Proofs.encStr = N.map Value.string := by
  have e : ss.mergeSort (fun x y => decide (x ≤ y)) = N.map fun a => a.data.toList := by
    have tr : ∀ a b c : List UInt8, leB a b = true → leB b c = true → leB a c = true := fun a b c h1 h2 => by simp only [leB, decide_eq_true_eq] at *; exact List.le_trans h1 h2
    have to : ∀ a b : List UInt8, (leB a b || leB b a) = true := fun a b => by simp only [leB, Bool.or_eq_true, decide_eq_true_eq]; exact List.le_total a b
    refine List.Perm.eq_of_pairwise (le := fun a b => leB a b = true) (fun a b _ _ h1 h2 => ?_) (List.pairwise_mergeSort tr to ss) ?_ ((List.mergeSort_perm ss leB).trans hp)
    · simp only [leB, decide_eq_true_eq] at h1 h2
      exact List.le_antisymm h1 h2
    · rw [List.pairwise_map]
      exact hs.imp fun h => decide_eq_true (bless_le h)
  rw [e, List.map_map]
  refine List.map_congr_left fun a _ => ?_
  obtain ⟨⟨x⟩⟩ := a
  rfl
end Go.Proofs.YtmljlkjomjflpaaGreat
