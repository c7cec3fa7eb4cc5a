/- Memory words: values that carry what they read as; a slice that reads as a list of data; a row of the call's own. No program. -/
import Derived.Below
import Derived.Laws.OwnMore
import Derived.Deep.AppendLies
import Derived.Deep.Draws
import Derived.Laws.Rows
import Derived.Maps.AppendAt
import Derived.RegionTactic
import Derived.OwnWalk
import Derived.Lib.Hide
namespace Go.Proofs.YthmgchohbdlonaaGreat
open Go.RowKit

theorem below_drewN {B : Nat} {a w : World} (h : Below B a w) (n : Nat) : Below B a (w.drewN n) := ⟨h.os, h.tape, h.output, h.size, h.block⟩

/-- A kind of data that lies in cells: how many, which, and what its pointers must read (through blocks of S alone). -/
class Enc (α : Type) where
  size : Nat
  cells : α → List Value
  val : α → Value
  ok : World → (Nat → Prop) → α → Prop
  len : ∀ x, (cells x).length = size
  one : ∀ x, ∀ v ∈ cells x, v.oneCell' = true
  keep : ∀ {w w' : World} {S S' : Nat → Prop} {x : α}, ok w S x → (∀ p : Addr, S p.block → w'.cell? p = w.cell? p) → (∀ b, S b → S' b) → ok w' S' x

/-- The slice value at A, of capacity c, reads as the list l; all of it lies in blocks of S. -/
def SlS {α : Type} [Enc α] (w : World) (S : Nat → Prop) (A : Option Addr) (c : Nat) (l : List α) : Prop :=
  l.length ≤ c ∧ c ≤ maxLen ∧ (0 < l.length → ∃ b o, A = some ⟨b, o, none⟩ ∧ S b ∧ ∀ j u, (l.flatMap Enc.cells)[j]? = some u → w.cell? ⟨b, o + j, none⟩ = some u) ∧
    ∀ x ∈ l, Enc.ok w S x
/-- .. below block B -/
abbrev Sl {α : Type} [Enc α] (w : World) (B : Nat) (A : Option Addr) (c : Nat) (l : List α) : Prop := SlS w (fun b => b < B) A c l
/-- a datum's own pointers lie below block B -/
abbrev Okb {α : Type} [Enc α] (w : World) (B : Nat) (x : α) : Prop := Enc.ok w (fun b => b < B) x

section
variable {α : Type} [Enc α] {w w' : World} {S S' : Nat → Prop} {B B' c : Nat} {A : Option Addr} {l : List α}

theorem SlS.keep (h : SlS w S A c l) (hk : ∀ p : Addr, S p.block → w'.cell? p = w.cell? p) (hS : ∀ b, S b → S' b) : SlS w' S' A c l := by
  obtain ⟨h1, h2, h3, h4⟩ := h
  refine ⟨h1, h2, fun hn => ?_, fun x hx => Enc.keep (h4 x hx) hk hS⟩
  obtain ⟨b, o, e, hb, hc⟩ := h3 hn
  exact ⟨b, o, e, hS b hb, fun j u hu => (hk _ hb).trans (hc j u hu)⟩
theorem SlS.mono (h : SlS w S A c l) (hS : ∀ b, S b → S' b) : SlS w S' A c l := h.keep (fun _ _ => rfl) hS
theorem SlS.below (h : SlS w (fun b => b < B) A c l) (hb : Below B w w') : Sl w' B A c l := h.keep (fun _ hp => hb.cell hp) (fun _ h => h)
/-- what was read in w reads so behind a call that left all of w as it was -/
theorem SlS.later (h : SlS w (fun b => b < w.heap.size) A c l) (hb : Below w.heap.size w w') : Sl w' w'.heap.size A c l := h.keep (fun _ hp => hb.cell hp) (fun _ h => Nat.lt_of_lt_of_le h hb.size)
theorem Okb.later {x : α} (h : Okb w w.heap.size x) (hb : Below w.heap.size w w') : Okb w' w'.heap.size x := Enc.keep h (fun _ hp => hb.cell hp) (fun _ h => Nat.lt_of_lt_of_le h hb.size)
theorem SlS.nil_ (w : World) (S : Nat → Prop) : SlS w S none 0 ([] : List α) := ⟨Nat.le_refl _, Nat.zero_le _, fun h => absurd h (by simp), by simp⟩
theorem SlS.len_le (h : SlS w S A c l) : l.length ≤ maxLen := Nat.le_trans h.1 h.2.1

theorem flat_len (l : List α) : (l.flatMap Enc.cells).length = l.length * Enc.size α := by
  induction l with
  | nil => simp
  | cons x r ih => simp [ih, Enc.len, Nat.add_mul, Nat.add_comm]
theorem flat_get (l : List α) (k j : Nat) (hk : k < l.length) (hj : j < Enc.size α) : (l.flatMap Enc.cells)[k * Enc.size α + j]? = (Enc.cells l[k])[j]? := by
  induction l generalizing k with
  | nil => simp at hk
  | cons x r ih =>
    rw [List.flatMap_cons]
    cases k with
    | zero => rw [List.getElem?_append_left (by rw [Enc.len]; omega)]; simp
    | succ k =>
      rw [List.getElem?_append_right (by rw [Enc.len, Nat.add_mul]; omega), Enc.len, show (k + 1) * Enc.size α + j - Enc.size α = k * Enc.size α + j by rw [Nat.add_mul]; omega]
      simpa using ih k (by simpa using hk)
theorem flat_take (l : List α) (k : Nat) : (l.take k).flatMap Enc.cells = (l.flatMap Enc.cells).take (k * Enc.size α) := by
  induction l generalizing k with
  | nil => simp
  | cons x r ih =>
    cases k with
    | zero => simp
    | succ k =>
      rw [List.take_succ_cons, List.flatMap_cons, List.flatMap_cons, ih, List.take_append, Enc.len, Nat.add_mul, Nat.one_mul, List.take_of_length_le (l := Enc.cells x) (by rw [Enc.len]; omega), Nat.add_sub_cancel]
theorem flat_drop (l : List α) (k : Nat) : (l.drop k).flatMap Enc.cells = (l.flatMap Enc.cells).drop (k * Enc.size α) := by
  induction l generalizing k with
  | nil => simp
  | cons x r ih =>
    cases k with
    | zero => simp
    | succ k =>
      rw [List.drop_succ_cons, List.flatMap_cons, ih, List.drop_append, Enc.len, Nat.add_mul, Nat.one_mul, List.drop_eq_nil_of_le (as := Enc.cells x) (by rw [Enc.len]; omega), Nat.add_sub_cancel, List.nil_append]
/-- element k's cells -/
theorem SlS.at_ (h : SlS w S A c l) {k : Nat} (hk : k < l.length) : ∃ b o, A = some ⟨b, o, none⟩ ∧ S b ∧ Enc.ok w S l[k] ∧
    ∀ j u, (Enc.cells l[k])[j]? = some u → w.cell? ⟨b, o + (k * Enc.size α + j), none⟩ = some u := by
  obtain ⟨b, o, e, hb, hc⟩ := h.2.2.1 (by omega)
  refine ⟨b, o, e, hb, h.2.2.2 _ (List.getElem_mem _), fun j u hu => hc _ _ ?_⟩
  have hj : j < Enc.size α := by
    have := (List.getElem?_eq_some_iff.1 hu).1
    rwa [Enc.len] at this
  rw [flat_get l k j hk hj]; exact hu
/-- a beginning -/
theorem SlS.take (h : SlS w S A c l) (k : Nat) : SlS w S A c (l.take k) := by
  obtain ⟨h1, h2, h3, h4⟩ := h
  refine ⟨Nat.le_trans (by simp; omega) h1, h2, fun hn => ?_, fun x hx => h4 x (List.mem_of_mem_take hx)⟩
  obtain ⟨b, o, e, hb, hc⟩ := h3 (by simp at hn; omega)
  refine ⟨b, o, e, hb, fun j u hu => hc j u ?_⟩
  rw [flat_take] at hu
  rw [List.getElem?_take] at hu
  split at hu <;> simp_all
/-- the rest, as the model cuts it -/
theorem SlS.drop (h : SlS w S A c l) {k : Nat} (hk : k ≤ l.length) : SlS w S (if c = k then A else A.map (·.add (k * Enc.size α))) (c - k) (l.drop k) := by
  obtain ⟨h1, h2, h3, h4⟩ := h
  refine ⟨by simp; omega, by omega, fun hn => ?_, fun x hx => h4 x (List.mem_of_mem_drop hx)⟩
  obtain ⟨b, o, rfl, hb, hc⟩ := h3 (by simp at hn; omega)
  rw [if_neg (by simp at hn; omega)]
  refine ⟨b, o + k * Enc.size α, ?_, hb, fun j u hu => ?_⟩
  · simp only [Option.map_some, Addr.add]
    split
    · rename_i h0; simp [h0]
    · rfl
  · rw [Nat.add_assoc]
    refine hc _ u ?_
    rw [flat_drop, List.getElem?_drop] at hu
    exact hu
end

/-- the blocks of w but a slice value's own -/
def Oth (w : World) (v : Value) : Nat → Prop := fun b => b < w.heap.size ∧ some b ≠ v.ownBlock
/-- A row of the call's own (blocks from base on) that holds the list l; what its elements point to lies in other blocks. -/
def Own {α : Type} [Enc α] (w : World) (base : Nat) (e : TypeId) (v : Value) (l : List α) : Prop :=
  w.ownsRow base e (Enc.size α) v l.length (l.flatMap Enc.cells) ∧ ∀ x ∈ l, Enc.ok w (Oth w v) x

section
variable {α : Type} [Enc α] {w w' : World} {base : Nat} {e : TypeId} {v : Value} {l : List α}
theorem Own.nil_ (w : World) (base : Nat) (e : TypeId) : Own w base e (.slice none 0 0) ([] : List α) := ⟨⟨by simp, .inl ⟨rfl, rfl⟩⟩, by simp⟩
/-- behind a call that wrote to no block of w but (perhaps) row -/
theorem Own.grown {row : Option Nat} (h : Own w base e v l) (hg : w.grownBy w' row) (hr : v.ownBlock = none ∨ v.ownBlock ≠ row) (hx : ∀ x ∈ l, Enc.ok w (fun b => b < w.heap.size ∧ some b ≠ v.ownBlock ∧ some b ≠ row) x) : Own w' base e v l :=
  ⟨h.1.kept hg hr, fun x hm => Enc.keep (hx x hm) (fun _ hp => World.cell?_of_block (hg.block _ hp.1 hp.2.2)) (fun _ hp => ⟨Nat.lt_of_lt_of_le hp.1 hg.size, hp.2.1⟩)⟩
theorem Own.later (h : Own w base e v l) (hb : Below w.heap.size w w') : Own w' base e v l :=
  h.grown (row := none) ⟨hb.os, hb.tape, hb.output, hb.size, fun k hk _ => hb.block k hk⟩ (by cases hv : v.ownBlock <;> simp) (fun x hx => Enc.keep (h.2 x hx) (fun _ _ => rfl) (fun _ hb => ⟨hb.1, hb.2, by simp⟩))
theorem Own.mono {base' : Nat} (h : Own w base e v l) (hb : base' ≤ base) : Own w base' e v l := by
  obtain ⟨⟨h1, h2⟩, h3⟩ := h
  refine ⟨⟨h1, ?_⟩, h3⟩
  rcases h2 with h2 | ⟨g, cap, cur, hv, hg, r⟩
  · exact .inl h2
  · exact .inr ⟨g, cap, cur, hv, by omega, r⟩
theorem Own.sl (h : Own w base e v l) : ∃ A c, v = .slice A l.length c ∧ Sl w w.heap.size A c l := by
  obtain ⟨⟨h1, h2⟩, h3⟩ := h
  have h3' : ∀ x ∈ l, Enc.ok w (fun b => b < w.heap.size) x := fun x hx => Enc.keep (h3 x hx) (fun _ _ => rfl) (fun _ hb => hb.1)
  rcases h2 with ⟨rfl, h0⟩ | ⟨g, cap, cur, rfl, hg, hh, hn, hm, hz, ht⟩
  · have : l = [] := List.length_eq_zero_iff.1 h0
    subst this
    exact ⟨none, 0, rfl, SlS.nil_ _ _⟩
  · refine ⟨_, _, rfl, hn, hm, fun _ => ⟨g, 0, rfl, ?_, fun j u hu => ?_⟩, h3'⟩
    · exact (Array.getElem?_eq_some_iff.1 hh).1
    · rw [cell_of_row w g (0 + j) cur e (0, 0) hh, Nat.zero_add]
      rw [← ht, List.getElem?_take] at hu
      split at hu
      · rw [← hu]; simp
      · cases hu
/-- behind an append of one: v' is the new row's value -/
theorem Own.snoc {x : α} {n : Nat} {v' : Value} (hn : n = 1) (h : w'.ownsRow base e (Enc.size α) v' (l.length + n) (l.flatMap Enc.cells ++ Enc.cells x)) (hk : ∀ y ∈ l, Enc.ok w' (Oth w' v') y) (hx : Enc.ok w' (Oth w' v') x) : Own w' base e v' (l ++ [x]) := by
  subst hn
  refine ⟨by simpa using h, fun y hy => ?_⟩
  rcases List.mem_append.1 hy with hy | hy
  · exact hk y hy
  · simp only [List.mem_singleton] at hy; subst hy; exact hx
end

/-- where a test first holds; -1: nowhere -/
def idxP {α : Type} (p : α → Bool) (l : List α) : Int :=
  match l.findIdx? p with
  | some k => k
  | none => -1
theorem idxP_hit {α : Type} {p : α → Bool} {l : List α} {k : Nat} (hk : k < l.length) (h : p l[k] = true) (hno : ∀ j (hj : j < l.length), j < k → p l[j] = false) : idxP p l = k := by
  unfold idxP
  rw [show l.findIdx? p = some k from List.findIdx?_eq_some_iff_getElem.2 ⟨hk, h, fun j hj => by simpa using hno j (by omega) hj⟩]
theorem idxP_miss {α : Type} {p : α → Bool} {l : List α} (hno : ∀ j (hj : j < l.length), p l[j] = false) : idxP p l = -1 := by
  unfold idxP
  rw [show l.findIdx? p = none from List.findIdx?_eq_none_iff.2 (fun x hx => by
    obtain ⟨j, hj, rfl⟩ := List.getElem_of_mem hx
    exact hno j hj)]
theorem idxP_range {α : Type} (p : α → Bool) (l : List α) : -1 ≤ idxP p l ∧ idxP p l < l.length := by
  unfold idxP
  split
  · rename_i k hk
    have := (List.findIdx?_eq_some_iff_getElem.1 hk).1
    omega
  · omega
theorem idxP_any {α : Type} (p : α → Bool) (l : List α) : decide (0 ≤ idxP p l) = l.any p := by
  unfold idxP
  split
  · rename_i k hk
    obtain ⟨h1, h2, _⟩ := List.findIdx?_eq_some_iff_getElem.1 hk
    rw [show l.any p = true from List.any_eq_true.2 ⟨_, List.getElem_mem h1, h2⟩]
    simp
  · rename_i h
    rw [show l.any p = false from List.any_eq_false.2 (fun x hx => by simp [List.findIdx?_eq_none_iff.1 h x hx])]
    rfl
end Go.Proofs.YthmgchohbdlonaaGreat
