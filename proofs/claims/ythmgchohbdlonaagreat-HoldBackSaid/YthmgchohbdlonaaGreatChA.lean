/- chart: accounts in order -/
import Derived.Test.YthmgchohbdlonaaGreatRows
import Derived.Test.YthmgchohbdlonaaGreatChOpen
import Derived.Test.YthmgchohbdlonaaGreatOrdK
import Derived.Test.YthmgchohbdlonaaGreatRng
import Derived.WalkKit
import Derived.WalkSpells
import Derived.WalkLawsBesides
import Derived.Deep.QuietTactic
import Derived.BigQuiet
import Derived.Laws.StructEq
import Derived.Deep.DeepFit
import Derived.StillTailTactics
namespace Go.Proofs.YthmgchohbdlonaaGreat
open Go.RowKit
instance encAc : Enc Ac where
  size := 4
  cells a := [.string a.name, i64 a.hav, i64 a.set_, i64 a.lim]
  val := Ac.v
  ok _ _ a := a.name.size ≤ maxLen
  len _ := rfl
  one _ v hv := by simp only [List.mem_cons, List.not_mem_nil, or_false] at hv; rcases hv with rfl | rfl | rfl | rfl <;> rfl
  keep h _ _ := h
theorem Ac.ext_ {a b : Ac} (h1 : a.name = b.name) (h2 : a.hav = b.hav) (h3 : a.set_ = b.set_) (h4 : a.lim = b.lim) : a = b := by cases a; cases b; simp_all
instance : DecidableEq Ac := fun a b => if h : a.name = b.name ∧ a.hav = b.hav ∧ a.set_ = b.set_ ∧ a.lim = b.lim then isTrue (Ac.ext_ h.1 h.2.1 h.2.2.1 h.2.2.2) else isFalse (fun e => h (by rw [e]; exact ⟨rfl, rfl, rfl, rfl⟩))
def ltA (a b : Ac) : Bool := bless a.name b.name
theorem keyA : KeyOrd ltA Ac.name where
  strict := ⟨fun a => bless_strict.irr _, fun a b c => bless_strict.trans _ _ _, fun a b c => bless_strict.co _ _ _⟩
  ne a b h e := by unfold ltA at h; rw [e, bless_strict.irr] at h; cases h
  co a b h := by
    cases h1 : ltA a b with
    | true => exact .inl rfl
    | false =>
      cases h2 : ltA b a with
      | true => exact .inr rfl
      | false => exact absurd (bless_tri h1 h2) h
  eq a b h c := by unfold ltA; rw [h]; exact ⟨rfl, rfl⟩
/-- accounts as they are kept -/
def OkA (L : List Ac) : Prop := ∀ a ∈ L, InA a ∧ 0 ≤ a.set_ ∧ nameB a.name = true
/-- chart.Give, Aside, as they turn accounts in order -/
def turnL (D : Ac → Ac × Int) (L : List Ac) (k : ByteArray) (x : Int) : Int × List Ac := match getK Ac.name L k with
  | none => (6, L)
  | some a => if (D a).2 ≠ 0 then ((D a).2, L) else if 0 < x ∧ freeA a x = false then (9, L) else if (D a).1.set_ < 0 then (13, L) else (0, setK Ac.name L (D a).1)
def openL (L : List Ac) (k : ByteArray) (lim : Int) : Int × List Ac :=
  if nameB k = false ∨ lim < 0 then (1, L) else if (getK Ac.name L k).isSome = true then (7, L) else if L.length = 12 then (5, L) else (0, insB ltA ⟨k, 0, 0, lim⟩ L)
def getLR (L : List Ac) (k : ByteArray) : Ac × Int := match getK Ac.name L k with
  | some a => (a, 0)
  | none => (ac0, 6)
abbrev RkA (M : List (ByteArray × Ac)) (L : List Ac) : Prop := RK ltA Ac.name Prod.snd M L
theorem RkA.get_ {M : List (ByteArray × Ac)} {L : List Ac} (h : RkA M L) (k : ByteArray) : getM M k = getK Ac.name L k := by
  have := RK.get keyA h k
  simpa using this
theorem RkA.getC_ {M : List (ByteArray × Ac)} {L : List Ac} (h : RkA M L) (k : ByteArray) : getC M k = getLR L k := by
  unfold getC getLR
  rw [h.get_ k]
  cases getK Ac.name L k <;> rfl
theorem RkA.turn {M : List (ByteArray × Ac)} {L : List Ac} (h : RkA M L) (D : Ac → Ac × Int) (hD : ∀ a, (D a).1.name = a.name) (k : ByteArray) (x : Int) : (turnC D M k x).1 = (turnL D L k x).1 ∧ RkA (turnC D M k x).2 (turnL D L k x).2 := by
  unfold turnC turnL
  rw [h.get_ k]
  cases hg : getK Ac.name L k with
  | none => exact ⟨rfl, h⟩
  | some a =>
    have hk := (getK_mem hg).2
    dsimp only
    by_cases h1 : (D a).2 ≠ 0
    · rw [if_pos h1, if_pos h1]; exact ⟨rfl, h⟩
    · rw [if_neg h1, if_neg h1]
      by_cases h2 : 0 < x ∧ freeA a x = false
      · rw [if_pos h2, if_pos h2]; exact ⟨rfl, h⟩
      · rw [if_neg h2, if_neg h2]
        by_cases h3 : (D a).1.set_ < 0
        · rw [if_pos h3, if_pos h3]; exact ⟨rfl, h⟩
        · rw [if_neg h3, if_neg h3]
          exact ⟨rfl, RK.put keyA h (k := k) (v := (D a).1) (by rw [← hk]; exact hD a) (by rw [hg]; rfl)⟩
theorem RkA.open_ {M : List (ByteArray × Ac)} {L : List Ac} (h : RkA M L) (k : ByteArray) (lim : Int) : (openC M k lim).1 = (openL L k lim).1 ∧ RkA (openC M k lim).2 (openL L k lim).2 := by
  unfold openC openL
  rw [h.get_ k, RK.len h]
  by_cases h1 : nameB k = false ∨ lim < 0
  · rw [if_pos h1, if_pos h1]; exact ⟨rfl, h⟩
  · rw [if_neg h1, if_neg h1]
    cases hg : getK Ac.name L k with
    | some a => exact ⟨rfl, h⟩
    | none =>
      simp only [Option.isSome_none, Bool.false_eq_true, if_false]
      by_cases h3 : L.length = 12
      · rw [if_pos h3, if_pos h3]; exact ⟨rfl, h⟩
      · rw [if_neg h3, if_neg h3]
        exact ⟨rfl, RK.add keyA h (k := k) (v := ⟨k, 0, 0, lim⟩) rfl hg⟩
/-- block g holds a chart, whose map lies in block b: the accounts L, in order -/
def ChA (w : World) (g b : Nat) (L : List Ac) : Prop := ∃ M, ChIs w g b M ∧ RkA M L
theorem ChA.kept {w w' : World} {g b : Nat} {L : List Ac} {S : Nat → Prop} (h : ChA w g b L) (hk : Gr w w' S) (h1 : ¬ S g) (h2 : ¬ S b) : ChA w' g b L := by
  obtain ⟨M, h, hr⟩ := h
  exact ⟨M, ⟨h.ne, (hk.block g h.lt.1 h1).trans h.cell, by
    have hlt := h.map.lt
    obtain ⟨es, clock, hb, r⟩ := h.map
    exact ⟨es, clock, (hk.block b hlt h2).trans hb, r⟩⟩, hr⟩
theorem ChA.later {w w' : World} {g b : Nat} {L : List Ac} (h : ChA w g b L) (hb : Below w.heap.size w w') : ChA w' g b L := h.kept (Gr.of_below hb (fun _ => False)) id id
theorem ChA.lt {w : World} {g b : Nat} {L : List Ac} (h : ChA w g b L) : g < w.heap.size ∧ b < w.heap.size ∧ b ≠ g := by
  obtain ⟨M, h, _⟩ := h
  exact ⟨h.lt.1, h.lt.2, h.ne⟩
theorem ChA.srt {w : World} {g b : Nat} {L : List Ac} (h : ChA w g b L) : SrtL ltA L := by
  obtain ⟨M, _, h⟩ := h
  exact h.srt
theorem OkA.inM {M : List (ByteArray × Ac)} {L : List Ac} (h : OkA L) (hr : RkA M L) : ∀ y ∈ M, InA y.2 := fun y hy => (h y.2 (hr.perm.mem_iff.1 (List.mem_map.2 ⟨y, hy, rfl⟩))).1
theorem chnewA_c (w : World) : Calls Tryz.prog 24 #[] w fun e w' => e = .returned (.pointer (some ⟨w.heap.size + 1, 0, none⟩)) ∧ ChA w' (w.heap.size + 1) w.heap.size [] ∧ Below w.heap.size w w' :=
  (chnew_c w).mono fun _ _ ⟨h1, h2, h3⟩ => ⟨h1, ⟨[], h2, RK.nil⟩, h3⟩
theorem getA_c (g b : Nat) (L : List Ac) (k : ByteArray) (w : World) (h : ChA w g b L) :
    Calls Tryz.prog 22 #[.pointer (some ⟨g, 0, none⟩), .string k] w fun e w' => e = .returned (.tuple #[(getLR L k).1.v, i64 (getLR L k).2]) ∧ Below w.heap.size w w' := by
  obtain ⟨M, h, hr⟩ := h
  have := get_c g b M k w h
  rw [hr.getC_ k] at this
  exact this
theorem giveA_c (g b : Nat) (L : List Ac) (k : ByteArray) (x : Int) (w : World) (h : ChA w g b L) (hL : OkA L) (hx : R64 x) :
    Calls Tryz.prog 27 #[.pointer (some ⟨g, 0, none⟩), .string k, i64 x] w fun e w' => e = .returned (i64 (turnL (givD x) L k x).1) ∧ ChA w' g b (turnL (givD x) L k x).2 ∧ w.grownBy w' (some b) := by
  obtain ⟨M, h, hr⟩ := h
  obtain ⟨e1, e2⟩ := hr.turn (givD x) (fun _ => rfl) k x
  exact (give_c g b M k x w h (hL.inM hr) hx).mono fun _ _ ⟨h1, h2, h3⟩ => ⟨by rw [← e1]; exact h1, ⟨_, h2, e2⟩, h3⟩
theorem asideA_c (g b : Nat) (L : List Ac) (k : ByteArray) (x : Int) (w : World) (h : ChA w g b L) (hL : OkA L) (hx : R64 x) :
    Calls Tryz.prog 42 #[.pointer (some ⟨g, 0, none⟩), .string k, i64 x] w fun e w' => e = .returned (i64 (turnL (asiD x) L k x).1) ∧ ChA w' g b (turnL (asiD x) L k x).2 ∧ w.grownBy w' (some b) := by
  obtain ⟨M, h, hr⟩ := h
  obtain ⟨e1, e2⟩ := hr.turn (asiD x) (fun _ => rfl) k x
  exact (aside_c g b M k x w h (hL.inM hr) hx).mono fun _ _ ⟨h1, h2, h3⟩ => ⟨by rw [← e1]; exact h1, ⟨_, h2, e2⟩, h3⟩
theorem openA_c (g b : Nat) (L : List Ac) (k : ByteArray) (lim : Int) (w : World) (h : ChA w g b L) :
    Calls Tryz.prog 25 #[.pointer (some ⟨g, 0, none⟩), .string k, i64 lim] w fun e w' => e = .returned (i64 (openL L k lim).1) ∧ ChA w' g b (openL L k lim).2 ∧ w.grownBy w' (some b) := by
  obtain ⟨M, h, hr⟩ := h
  obtain ⟨e1, e2⟩ := hr.open_ k lim
  exact (open_c g b M k lim w h).mono fun _ _ ⟨h1, h2, h3⟩ => ⟨by rw [← e1]; exact h1, ⟨_, h2, e2⟩, h3⟩
theorem R64_0 : R64 0 := ⟨by decide, by decide⟩
theorem turnL_ok {D : Ac → Ac × Int} (hD : ∀ a, InA a → 0 ≤ a.set_ → (D a).1.name = a.name ∧ InA (D a).1) {L : List Ac} (h : OkA L) (k : ByteArray) (x : Int) : OkA (turnL D L k x).2 := by
  unfold turnL
  cases hg : getK Ac.name L k with
  | none => exact h
  | some a =>
    dsimp only
    by_cases h1 : (D a).2 ≠ 0
    · rw [if_pos h1]; exact h
    · rw [if_neg h1]
      by_cases h2 : 0 < x ∧ freeA a x = false
      · rw [if_pos h2]; exact h
      · rw [if_neg h2]
        by_cases h3 : (D a).1.set_ < 0
        · rw [if_pos h3]; exact h
        · rw [if_neg h3]
          have ha := h a (getK_mem hg).1
          intro y hy
          rcases setK_mem hy with rfl | hy
          · obtain ⟨e1, e2⟩ := hD a ha.1 ha.2.1
            exact ⟨e2, by omega, by rw [e1]; exact ha.2.2⟩
          · exact h y hy.1
theorem givD_ok (x : Int) : ∀ a, InA a → 0 ≤ a.set_ → (givD x a).1.name = a.name ∧ InA (givD x a).1 := fun _ h _ => ⟨rfl, sumR_R64 _, h.2⟩
theorem asiD_ok (x : Int) : ∀ a, InA a → 0 ≤ a.set_ → (asiD x a).1.name = a.name ∧ InA (asiD x a).1 := fun _ h _ => ⟨rfl, h.1, sumR_R64 _, h.2.2⟩
theorem openL_ok {L : List Ac} (h : OkA L) (k : ByteArray) {lim : Int} (hl : R64 lim) : OkA (openL L k lim).2 := by
  unfold openL
  by_cases h1 : nameB k = false ∨ lim < 0
  · rw [if_pos h1]; exact h
  · rw [if_neg h1]
    by_cases h2 : (getK Ac.name L k).isSome = true
    · rw [if_pos h2]; exact h
    · rw [if_neg h2]
      by_cases h3 : L.length = 12
      · rw [if_pos h3]; exact h
      · rw [if_neg h3]
        intro y hy
        rcases List.mem_cons.1 ((insB_perm _ L).mem_iff.1 hy) with rfl | hy
        · exact ⟨⟨R64_0, R64_0, by have : ¬ lim < 0 := fun e => h1 (.inr e); show 0 ≤ lim; omega, hl.2⟩, Int.le_refl _, by
            cases hn : nameB k with
            | true => rfl
            | false => exact absurd (.inl hn) h1⟩
        · exact h y hy
end Go.Proofs.YthmgchohbdlonaaGreat
