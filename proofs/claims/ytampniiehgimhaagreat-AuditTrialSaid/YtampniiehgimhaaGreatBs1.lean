/- Texts of this claim, laid together. -/
import Derived.Below
import Derived.Laws.OwnMore
import Derived.Deep.AppendLies
import Derived.Deep.Draws
import Derived.Laws.Rows
import Derived.Maps.AppendAt
import Derived.RegionTactic
import Derived.OwnWalk
import Derived.Lib.Hide
import Derived.Laws.CopyRow
import Derived.Lib.SliceRun
import Derived.Laws.IdiomCopy
import Derived.Deep.QuietTactic
import Derived.WalkKit
import Derived.Test.YtampniiehgimhaaGreatRows
import Derived.WalkSpells
import Derived.WalkLawsBesides
import Derived.BigQuiet
import Derived.Laws.StructEq
import Derived.Deep.DeepFit
import Derived.StillTailTactics

/- Memory words: values that carry what they read as; a slice that reads as a list of data; a row of the call's own. No program. -/
namespace Go.Proofs.YtampniiehgimhaaGreat
open Go.RowKit
theorem below_drewN {B : Nat} {a w : World} (h : Below B a w) (n : Nat) : Below B a (w.drewN n) := ⟨h.os, h.tape, h.output, h.size, h.block⟩
/-- A kind of data that lies in cells: how many, which, and what its pointers must read (through blocks of S alone). -/
class Enc (α : Type) where
 size : Nat
 cells : α → List Value
 val : α → Value
 ok : World → (Nat → Prop) → α → Prop
 len : ∀ x, (cells x).length = size
 one : ∀ x, ∀ v ∈ cells x, v.oneCell' = true
 keep : ∀ {w w' : World} {S S' : Nat → Prop} {x : α}, ok w S x → (∀ p : Addr, S p.block → w'.cell? p = w.cell? p) → (∀ b, S b → S' b) → ok w' S' x
/-- The slice value at A, of capacity c, reads as the list l; all of it lies in blocks of S. -/
def SlS {α : Type} [Enc α] (w : World) (S : Nat → Prop) (A : Option Addr) (c : Nat) (l : List α) : Prop :=
 l.length ≤ c ∧ c ≤ maxLen ∧ (0 < l.length → ∃ b o, A = some ⟨b, o, none⟩ ∧ S b ∧ ∀ j u, (l.flatMap Enc.cells)[j]? = some u → w.cell? ⟨b, o + j, none⟩ = some u) ∧
  ∀ x ∈ l, Enc.ok w S x
/-- .. below block B -/
abbrev Sl {α : Type} [Enc α] (w : World) (B : Nat) (A : Option Addr) (c : Nat) (l : List α) : Prop := SlS w (fun b => b < B) A c l
/-- a datum's own pointers lie below block B -/
abbrev Okb {α : Type} [Enc α] (w : World) (B : Nat) (x : α) : Prop := Enc.ok w (fun b => b < B) x
section
variable {α : Type} [Enc α] {w w' : World} {S S' : Nat → Prop} {B B' c : Nat} {A : Option Addr} {l : List α}
theorem SlS.keep (h : SlS w S A c l) (hk : ∀ p : Addr, S p.block → w'.cell? p = w.cell? p) (hS : ∀ b, S b → S' b) : SlS w' S' A c l := by
 obtain ⟨h1, h2, h3, h4⟩ := h
 refine ⟨h1, h2, fun hn => ?_, fun x hx => Enc.keep (h4 x hx) hk hS⟩
 obtain ⟨b, o, e, hb, hc⟩ := h3 hn
 exact ⟨b, o, e, hS b hb, fun j u hu => (hk _ hb).trans (hc j u hu)⟩
theorem SlS.mono (h : SlS w S A c l) (hS : ∀ b, S b → S' b) : SlS w S' A c l := h.keep (fun _ _ => rfl) hS
theorem SlS.below (h : SlS w (fun b => b < B) A c l) (hb : Below B w w') : Sl w' B A c l := h.keep (fun _ hp => hb.cell hp) (fun _ h => h)
/-- what was read in w reads so behind a call that left all of w as it was -/
theorem SlS.later (h : SlS w (fun b => b < w.heap.size) A c l) (hb : Below w.heap.size w w') : Sl w' w'.heap.size A c l := h.keep (fun _ hp => hb.cell hp) (fun _ h => Nat.lt_of_lt_of_le h hb.size)
theorem Okb.later {x : α} (h : Okb w w.heap.size x) (hb : Below w.heap.size w w') : Okb w' w'.heap.size x := Enc.keep h (fun _ hp => hb.cell hp) (fun _ h => Nat.lt_of_lt_of_le h hb.size)
theorem SlS.nil_ (w : World) (S : Nat → Prop) : SlS w S none 0 ([] : List α) := ⟨Nat.le_refl _, Nat.zero_le _, fun h => absurd h (by simp), by simp⟩
theorem SlS.len_le (h : SlS w S A c l) : l.length ≤ maxLen := Nat.le_trans h.1 h.2.1
theorem flat_len (l : List α) : (l.flatMap Enc.cells).length = l.length * Enc.size α := by
 induction l with
 | nil => simp
 | cons x r ih => simp [ih, Enc.len, Nat.add_mul, Nat.add_comm]
theorem flat_get (l : List α) (k j : Nat) (hk : k < l.length) (hj : j < Enc.size α) : (l.flatMap Enc.cells)[k * Enc.size α + j]? = (Enc.cells l[k])[j]? := by
 induction l generalizing k with
 | nil => simp at hk
 | cons x r ih =>
  rw [List.flatMap_cons]
  cases k with
  | zero => rw [List.getElem?_append_left (by rw [Enc.len]; omega)]; simp
  | succ k =>
   rw [List.getElem?_append_right (by rw [Enc.len, Nat.add_mul]; omega), Enc.len, show (k + 1) * Enc.size α + j - Enc.size α = k * Enc.size α + j by rw [Nat.add_mul]; omega]
   simpa using ih k (by simpa using hk)
theorem flat_take (l : List α) (k : Nat) : (l.take k).flatMap Enc.cells = (l.flatMap Enc.cells).take (k * Enc.size α) := by
 induction l generalizing k with
 | nil => simp
 | cons x r ih =>
  cases k with
  | zero => simp
  | succ k =>
   rw [List.take_succ_cons, List.flatMap_cons, List.flatMap_cons, ih, List.take_append, Enc.len, Nat.add_mul, Nat.one_mul, List.take_of_length_le (l := Enc.cells x) (by rw [Enc.len]; omega), Nat.add_sub_cancel]
theorem flat_drop (l : List α) (k : Nat) : (l.drop k).flatMap Enc.cells = (l.flatMap Enc.cells).drop (k * Enc.size α) := by
 induction l generalizing k with
 | nil => simp
 | cons x r ih =>
  cases k with
  | zero => simp
  | succ k =>
   rw [List.drop_succ_cons, List.flatMap_cons, ih, List.drop_append, Enc.len, Nat.add_mul, Nat.one_mul, List.drop_eq_nil_of_le («as» := Enc.cells x) (by rw [Enc.len]; omega), Nat.add_sub_cancel, List.nil_append]
/-- element k's cells -/
theorem SlS.at_ (h : SlS w S A c l) {k : Nat} (hk : k < l.length) : ∃ b o, A = some ⟨b, o, none⟩ ∧ S b ∧ Enc.ok w S l[k] ∧
  ∀ j u, (Enc.cells l[k])[j]? = some u → w.cell? ⟨b, o + (k * Enc.size α + j), none⟩ = some u := by
 obtain ⟨b, o, e, hb, hc⟩ := h.2.2.1 (by omega)
 refine ⟨b, o, e, hb, h.2.2.2 _ (List.getElem_mem _), fun j u hu => hc _ _ ?_⟩
 have hj : j < Enc.size α := by
  have := (List.getElem?_eq_some_iff.1 hu).1
  rwa [Enc.len] at this
 rw [flat_get l k j hk hj]; exact hu
/-- a beginning -/
theorem SlS.take (h : SlS w S A c l) (k : Nat) : SlS w S A c (l.take k) := by
 obtain ⟨h1, h2, h3, h4⟩ := h
 refine ⟨Nat.le_trans (by simp; omega) h1, h2, fun hn => ?_, fun x hx => h4 x (List.mem_of_mem_take hx)⟩
 obtain ⟨b, o, e, hb, hc⟩ := h3 (by simp at hn; omega)
 refine ⟨b, o, e, hb, fun j u hu => hc j u ?_⟩
 rw [flat_take] at hu
 rw [List.getElem?_take] at hu
 split at hu <;> simp_all
/-- the rest, as the model cuts it -/
theorem SlS.drop (h : SlS w S A c l) {k : Nat} (hk : k ≤ l.length) : SlS w S (if c = k then A else A.map (·.add (k * Enc.size α))) (c - k) (l.drop k) := by
 obtain ⟨h1, h2, h3, h4⟩ := h
 refine ⟨by simp; omega, by omega, fun hn => ?_, fun x hx => h4 x (List.mem_of_mem_drop hx)⟩
 obtain ⟨b, o, rfl, hb, hc⟩ := h3 (by simp at hn; omega)
 rw [if_neg (by simp at hn; omega)]
 refine ⟨b, o + k * Enc.size α, ?_, hb, fun j u hu => ?_⟩
 ·simp only [Option.map_some, Addr.add]
  split
  ·rename_i h0; simp [h0]
  ·rfl
 ·rw [Nat.add_assoc]
  refine hc _ u ?_
  rw [flat_drop, List.getElem?_drop] at hu
  exact hu
end
/-- the blocks of w but a slice value's own -/
def Oth (w : World) (v : Value) : Nat → Prop := fun b => b < w.heap.size ∧ some b ≠ v.ownBlock
/-- A row of the call's own (blocks from base on) that holds the list l; what its elements point to lies in other blocks. -/
def Own {α : Type} [Enc α] (w : World) (base : Nat) (e : TypeId) (v : Value) (l : List α) : Prop :=
 w.ownsRow base e (Enc.size α) v l.length (l.flatMap Enc.cells) ∧ ∀ x ∈ l, Enc.ok w (Oth w v) x
section
variable {α : Type} [Enc α] {w w' : World} {base : Nat} {e : TypeId} {v : Value} {l : List α}
theorem Own.nil_ (w : World) (base : Nat) (e : TypeId) : Own w base e (.slice none 0 0) ([] : List α) := ⟨⟨by simp, .inl ⟨rfl, rfl⟩⟩, by simp⟩
/-- behind a call that wrote to no block of w but (perhaps) row -/
theorem Own.grown {row : Option Nat} (h : Own w base e v l) (hg : w.grownBy w' row) (hr : v.ownBlock = none ∨ v.ownBlock ≠ row) (hx : ∀ x ∈ l, Enc.ok w (fun b => b < w.heap.size ∧ some b ≠ v.ownBlock ∧ some b ≠ row) x) : Own w' base e v l :=
 ⟨h.1.kept hg hr, fun x hm => Enc.keep (hx x hm) (fun _ hp => World.cell?_of_block (hg.block _ hp.1 hp.2.2)) (fun _ hp => ⟨Nat.lt_of_lt_of_le hp.1 hg.size, hp.2.1⟩)⟩
theorem Own.later (h : Own w base e v l) (hb : Below w.heap.size w w') : Own w' base e v l :=
 h.grown (row := none) ⟨hb.os, hb.tape, hb.output, hb.size, fun k hk _ => hb.block k hk⟩ (by cases hv : v.ownBlock <;> simp) (fun x hx => Enc.keep (h.2 x hx) (fun _ _ => rfl) (fun _ hb => ⟨hb.1, hb.2, by simp⟩))
theorem Own.mono {base' : Nat} (h : Own w base e v l) (hb : base' ≤ base) : Own w base' e v l := by
 obtain ⟨⟨h1, h2⟩, h3⟩ := h
 refine ⟨⟨h1, ?_⟩, h3⟩
 rcases h2 with h2 | ⟨g, cap, cur, hv, hg, r⟩
 ·exact .inl h2
 ·exact .inr ⟨g, cap, cur, hv, by omega, r⟩
theorem Own.sl (h : Own w base e v l) : ∃ A c, v = .slice A l.length c ∧ Sl w w.heap.size A c l := by
 obtain ⟨⟨h1, h2⟩, h3⟩ := h
 have h3' : ∀ x ∈ l, Enc.ok w (fun b => b < w.heap.size) x := fun x hx => Enc.keep (h3 x hx) (fun _ _ => rfl) (fun _ hb => hb.1)
 rcases h2 with ⟨rfl, h0⟩ | ⟨g, cap, cur, rfl, hg, hh, hn, hm, hz, ht⟩
 ·have : l = [] := List.length_eq_zero_iff.1 h0
  subst this
  exact ⟨none, 0, rfl, SlS.nil_ _ _⟩
 ·refine ⟨_, _, rfl, hn, hm, fun _ => ⟨g, 0, rfl, ?_, fun j u hu => ?_⟩, h3'⟩
  ·exact (Array.getElem?_eq_some_iff.1 hh).1
  ·rw [cell_of_row w g (0 + j) cur e (0, 0) hh, Nat.zero_add]
   rw [← ht, List.getElem?_take] at hu
   split at hu
   ·rw [← hu]; simp
   ·cases hu
/-- behind an append of one: v' is the new row's value -/
theorem Own.snoc {x : α} {n : Nat} {v' : Value} (hn : n = 1) (h : w'.ownsRow base e (Enc.size α) v' (l.length + n) (l.flatMap Enc.cells ++ Enc.cells x)) (hk : ∀ y ∈ l, Enc.ok w' (Oth w' v') y) (hx : Enc.ok w' (Oth w' v') x) : Own w' base e v' (l ++ [x]) := by
 subst hn
 refine ⟨by simpa using h, fun y hy => ?_⟩
 rcases List.mem_append.1 hy with hy | hy
 ·exact hk y hy
 ·simp only [List.mem_singleton] at hy; subst hy; exact hx
end
/-- where a test first holds; -1: nowhere -/
def idxP {α : Type} (p : α → Bool) (l : List α) : Int :=
 match l.findIdx? p with
 | some k => k
 | none => -1
theorem idxP_hit {α : Type} {p : α → Bool} {l : List α} {k : Nat} (hk : k < l.length) (h : p l[k] = true) (hno : ∀ j (hj : j < l.length), j < k → p l[j] = false) : idxP p l = k := by
 unfold idxP
 rw [show l.findIdx? p = some k from List.findIdx?_eq_some_iff_getElem.2 ⟨hk, h, fun j hj => by simpa using hno j (by omega) hj⟩]
theorem idxP_miss {α : Type} {p : α → Bool} {l : List α} (hno : ∀ j (hj : j < l.length), p l[j] = false) : idxP p l = -1 := by
 unfold idxP
 rw [show l.findIdx? p = none from List.findIdx?_eq_none_iff.2 (fun x hx => by
  obtain ⟨j, hj, rfl⟩ := List.getElem_of_mem hx
  exact hno j hj)]
theorem idxP_range {α : Type} (p : α → Bool) (l : List α) : -1 ≤ idxP p l ∧ idxP p l < l.length := by
 unfold idxP
 split
 ·rename_i k hk
  have := (List.findIdx?_eq_some_iff_getElem.1 hk).1
  omega
 ·omega
theorem idxP_any {α : Type} (p : α → Bool) (l : List α) : decide (0 ≤ idxP p l) = l.any p := by
 unfold idxP
 split
 ·rename_i k hk
  obtain ⟨h1, h2, _⟩ := List.findIdx?_eq_some_iff_getElem.1 hk
  rw [show l.any p = true from List.any_eq_true.2 ⟨_, List.getElem_mem h1, h2⟩]
  simp
 ·rename_i h
  rw [show l.any p = false from List.any_eq_false.2 (fun x hx => by simp [List.findIdx?_eq_none_iff.1 h x hx])]
  rfl
end Go.Proofs.YtampniiehgimhaaGreat
/- The data of the program as Lean has them. No program. -/
namespace Go.Proofs.YtampniiehgimhaaGreat
open Go.RowKit
abbrev i64 (n : Int) : Value := .int .i64 n
instance encInt : Enc Int where
 size := 1
 cells n := [i64 n]
 val n := i64 n
 ok _ _ _ := True
 len _ := rfl
 one _ v hv := by simp only [List.mem_singleton] at hv; subst hv; rfl
 keep h _ _ := h
instance encByte : Enc UInt8 where
 size := 1
 cells n := [.int .u8 n.toNat]
 val n := .int .u8 n.toNat
 ok _ _ _ := True
 len _ := rfl
 one _ v hv := by simp only [List.mem_singleton] at hv; subst hv; rfl
 keep h _ _ := h
instance encBool : Enc Bool where
 size := 1
 cells n := [.bool n]
 val n := .bool n
 ok _ _ _ := True
 len _ := rfl
 one _ v hv := by simp only [List.mem_singleton] at hv; subst hv; rfl
 keep h _ _ := h
instance encStr : Enc ByteArray where
 size := 1
 cells s := [.string s]
 val s := .string s
 ok _ _ s := s.size ≤ maxLen
 len _ := rfl
 one _ v hv := by simp only [List.mem_singleton] at hv; subst hv; rfl
 keep h _ _ := h
/-- api.Id -/
structure Id where
 client : Int
 seq : Int
instance encId : Enc Id where
 size := 2
 cells x := [i64 x.client, i64 x.seq]
 val x := .agg #[i64 x.client, i64 x.seq]
 ok _ _ _ := True
 len _ := rfl
 one _ v hv := by simp only [List.mem_cons, List.not_mem_nil, or_false] at hv; rcases hv with rfl | rfl <;> rfl
 keep h _ _ := h
theorem Id.ext_ {a b : Id} (h1 : a.client = b.client) (h2 : a.seq = b.seq) : a = b := by cases a; cases b; simp_all
instance : DecidableEq Id := fun a b => if h : a.client = b.client ∧ a.seq = b.seq then isTrue (Id.ext_ h.1 h.2) else isFalse (fun e => h (by rw [e]; exact ⟨rfl, rfl⟩))
/-- is n an int64? -/
def R64 (n : Int) : Prop := -9223372036854775808 ≤ n ∧ n ≤ 9223372036854775807
/-- api.Leg -/
structure Leg where
 acct : ByteArray
 sum : Int
instance encLeg : Enc Leg where
 size := 2
 cells x := [.string x.acct, i64 x.sum]
 val x := .agg #[.string x.acct, i64 x.sum]
 ok _ _ x := x.acct.size ≤ maxLen
 len _ := rfl
 one _ v hv := by simp only [List.mem_cons, List.not_mem_nil, or_false] at hv; rcases hv with rfl | rfl <;> rfl
 keep h _ _ := h
theorem Leg.ext_ {a b : Leg} (h1 : a.acct = b.acct) (h2 : a.sum = b.sum) : a = b := by cases a; cases b; simp_all
instance : DecidableEq Leg := fun a b => if h : a.acct = b.acct ∧ a.sum = b.sum then isTrue (Leg.ext_ h.1 h.2) else isFalse (fun e => h (by rw [e]; exact ⟨rfl, rfl⟩))
/-- api.Order: the slice of its legs lies at la, of capacity lc, and reads as legs -/
structure Od where
 client : Int
 seq : Int
 kind : Int
 acct : ByteArray
 peer : ByteArray
 sum : Int
 la : Option Addr
 lc : Nat
 legs : List Leg
 period : Int
 hold : Int
 note : ByteArray
def Od.id (x : Od) : Id := ⟨x.client, x.seq⟩
def Od.cells (x : Od) : List Value :=
 [i64 x.client, i64 x.seq, i64 x.kind, .string x.acct, .string x.peer, i64 x.sum, .slice x.la x.legs.length x.lc, i64 x.period, i64 x.hold, .string x.note]
def Od.v (x : Od) : Value := .agg #[i64 x.client, i64 x.seq, i64 x.kind, .string x.acct, .string x.peer, i64 x.sum, .slice x.la x.legs.length x.lc, i64 x.period, i64 x.hold, .string x.note]
structure Od.Ok (w : World) (S : Nat → Prop) (x : Od) : Prop where
 acct : x.acct.size ≤ maxLen
 peer : x.peer.size ≤ maxLen
 note : x.note.size ≤ maxLen
 legs : SlS w S x.la x.lc x.legs
instance encOd : Enc Od where
 size := 10
 cells := Od.cells
 val := Od.v
 ok := Od.Ok
 len _ := rfl
 one _ v hv := by
  simp only [Od.cells, List.mem_cons, List.not_mem_nil, or_false] at hv
  rcases hv with rfl | rfl | rfl | rfl | rfl | rfl | rfl | rfl | rfl | rfl <;> rfl
 keep h hk hB := ⟨h.acct, h.peer, h.note, h.legs.keep hk hB⟩
theorem SlS.od {w : World} {S : Nat → Prop} {c : Nat} {A : Option Addr} {l : List Od} (h : SlS w S A c l) {k : Nat} (hk : k < l.length) : ∃ b o, A = some ⟨b, o, none⟩ ∧ S b ∧ Od.Ok w S l[k] ∧
  w.cell? ⟨b, o + k * 10, none⟩ = some (i64 l[k].client) ∧ w.cell? ⟨b, o + k * 10 + 1, none⟩ = some (i64 l[k].seq) ∧ w.cell? ⟨b, o + k * 10 + 2, none⟩ = some (i64 l[k].kind) ∧
  w.cell? ⟨b, o + k * 10 + 3, none⟩ = some (.string l[k].acct) ∧ w.cell? ⟨b, o + k * 10 + 4, none⟩ = some (.string l[k].peer) ∧ w.cell? ⟨b, o + k * 10 + 5, none⟩ = some (i64 l[k].sum) ∧
  w.cell? ⟨b, o + k * 10 + 6, none⟩ = some (.slice l[k].la l[k].legs.length l[k].lc) ∧ w.cell? ⟨b, o + k * 10 + 7, none⟩ = some (i64 l[k].period) ∧ w.cell? ⟨b, o + k * 10 + 8, none⟩ = some (i64 l[k].hold) ∧
  w.cell? ⟨b, o + k * 10 + 9, none⟩ = some (.string l[k].note) := by
 obtain ⟨b, o, hA, hb, hok, hc⟩ := h.at_ hk
 exact ⟨b, o, hA, hb, hok, hc 0 _ rfl, hc 1 _ rfl, hc 2 _ rfl, hc 3 _ rfl, hc 4 _ rfl, hc 5 _ rfl, hc 6 _ rfl, hc 7 _ rfl, hc 8 _ rfl, hc 9 _ rfl⟩
theorem SlS.str {w : World} {S : Nat → Prop} {c : Nat} {A : Option Addr} {l : List ByteArray} (h : SlS w S A c l) {k : Nat} (hk : k < l.length) : ∃ b o, A = some ⟨b, o, none⟩ ∧ S b ∧ l[k].size ≤ maxLen ∧ w.cell? ⟨b, o + k, none⟩ = some (.string l[k]) := by
 obtain ⟨b, o, hA, hb, hok, hc⟩ := h.at_ hk
 have h0 := hc 0 _ rfl
 rw [show k * Enc.size ByteArray + 0 = k from Nat.mul_one k] at h0
 exact ⟨b, o, hA, hb, hok, h0⟩
theorem SlS.leg {w : World} {S : Nat → Prop} {c : Nat} {A : Option Addr} {l : List Leg} (h : SlS w S A c l) {k : Nat} (hk : k < l.length) : ∃ b o, A = some ⟨b, o, none⟩ ∧ S b ∧ l[k].acct.size ≤ maxLen ∧
  w.cell? ⟨b, o + k * 2, none⟩ = some (.string l[k].acct) ∧ w.cell? ⟨b, o + k * 2 + 1, none⟩ = some (i64 l[k].sum) := by
 obtain ⟨b, o, hA, hb, hok, hc⟩ := h.at_ hk
 exact ⟨b, o, hA, hb, hok, hc 0 _ rfl, hc 1 _ rfl⟩
end Go.Proofs.YtampniiehgimhaaGreat
/- A row of the call's own that is written in place: a store of an element, a clear of its end. No program. -/
namespace Go.Proofs.YtampniiehgimhaaGreat
open Go.RowKit
theorem beqS_of_eq {s t : ByteArray} (h : s = t) : (s.toList == t.toList) = true := by subst h; simp
theorem beqS_of_ne {s t : ByteArray} (h : s ≠ t) : (s.toList == t.toList) = false := by
 rw [beq_eq_false_iff_ne]
 intro e
 rw [ByteArray.toList_eq, ByteArray.toList_eq] at e
 exact h (by obtain ⟨⟨x⟩⟩ := s; obtain ⟨⟨y⟩⟩ := t; simp_all)
theorem list_seg_take {α : Type} (L : List α) (p q m : Nat) (cs : List α) (hcs : cs.length = q) (h : p + q ≤ m) (hm : m ≤ L.length) :
  (L.take p ++ cs ++ L.drop (p + q)).take m = (L.take m).take p ++ cs ++ (L.take m).drop (p + q) := by
 have hl : (L.take p ++ cs).length = p + q := by rw [List.length_append, List.length_take, hcs]; omega
 rw [List.take_append, hl, List.take_of_length_le (l := L.take p ++ cs) (by omega), List.take_take, Nat.min_eq_left (by omega), List.drop_take]
theorem quiet_add_left {P : Program} {f : FuncId} {args : Array Value} {w : World} {a n : Nat} {v : Value}
  (h : Calls P f args (w.drewN (a + n)) fun e w' => e = .returned v ∧ w.drewN (a + n) = w') : Calls P f args (w.drewN (a + n)) fun e w'' => e = .returned v ∧ ∃ m, w'' = w.drewN (a + m) :=
 h.mono fun _ _ ⟨he, hm⟩ => ⟨he, n, hm.symm⟩
theorem quiet_left {P : Program} {f : FuncId} {args : Array Value} {w : World} {n : Nat} {v : Value}
  (h : Calls P f args (w.drewN n) fun e w' => e = .returned v ∧ w.drewN n = w') : Calls P f args (w.drewN n) fun e w'' => e = .returned v ∧ ∃ m, w'' = w.drewN m :=
 h.mono fun _ _ ⟨he, hm⟩ => ⟨he, n, hm.symm⟩
section
variable {α : Type} [Enc α] {w w' : World} {base : Nat} {e : TypeId} {v : Value} {l : List α}
theorem flat_set (l : List α) (i : Nat) (x : α) (hi : i < l.length) : (l.set i x).flatMap Enc.cells = (l.flatMap Enc.cells).take (i * Enc.size α) ++ Enc.cells x ++ (l.flatMap Enc.cells).drop ((i + 1) * Enc.size α) := by
 rw [← flat_take, ← flat_drop, List.set_eq_take_append_cons_drop, if_pos hi, List.flatMap_append, List.flatMap_cons, List.append_assoc]
theorem Own.form (h : Own w base e v l) (hn : 0 < l.length) : ∃ g cap cur, v = .slice (some ⟨g, 0, none⟩) l.length cap ∧ base ≤ g ∧ w.heap[g]? = some (.cells cur e (0, 0)) ∧ l.length ≤ cap ∧ cap ≤ maxLen ∧ cur.size = cap * Enc.size α ∧ cur.toList.take (l.length * Enc.size α) = l.flatMap Enc.cells := by
 obtain ⟨⟨_, h2⟩, _⟩ := h
 rcases h2 with ⟨_, h0⟩ | ⟨g, cap, cur, h3⟩
 ·omega
 ·exact ⟨g, cap, cur, h3⟩
theorem Own.cells {g n cap : Nat} (h : Own w base e (.slice (some ⟨g, 0, none⟩) n cap) l) : ∃ cur, w.heap[g]? = some (.cells cur e (0, 0)) ∧ base ≤ g ∧ n = l.length ∧ n ≤ cap ∧ cap ≤ maxLen ∧ cur.size = cap * Enc.size α ∧ cur.toList.take (n * Enc.size α) = l.flatMap Enc.cells := by
 obtain ⟨⟨h1, h2⟩, _⟩ := h
 rcases h2 with ⟨h0, _⟩ | ⟨g', cap', cur, h3, hb, hh, hn, hm, hz, ht⟩
 ·cases h0
 ·injection h3 with h4 h5 h6
  injection h4 with h4
  injection h4 with h4
  subst h4 h5 h6
  exact ⟨cur, hh, hb, rfl, hn, hm, hz, ht⟩
/-- the row's cells as they stand, for the walk -/
theorem Own.at_ {g n cap : Nat} (h : Own w base e (.slice (some ⟨g, 0, none⟩) n cap) l) {k : Nat} (hk : k < l.length) : ∀ j u, (Enc.cells l[k])[j]? = some u → w.cell? ⟨g, k * Enc.size α + j, none⟩ = some u := by
 intro j u hu
 obtain ⟨A, c, hv, hs⟩ := h.sl
 obtain ⟨b, o, hA, _, _, hc⟩ := hs.at_ hk
 injection hv with h1
 subst h1
 injection hA with hA
 injection hA with h2 h3
 subst h2 h3
 have := hc j u hu
 rwa [Nat.zero_add] at this
theorem Own.free {g n cap : Nat} (h : Own w base e (.slice (some ⟨g, 0, none⟩) n cap) l) (j : Nat) : w.frozen? ⟨g, j, none⟩ = false := by
 obtain ⟨cur, hh, _⟩ := h.cells
 exact frozen_of_row w g j cur e hh
theorem Own.base_le {g n cap : Nat} (h : Own w base e (.slice (some ⟨g, 0, none⟩) n cap) l) : base ≤ g ∧ g < w.heap.size := by
 obtain ⟨cur, hh, hb, _⟩ := h.cells
 exact ⟨hb, (Array.getElem?_eq_some_iff.1 hh).1⟩
/-- a shorter reading of the row -/
theorem Own.take {g n cap : Nat} (h : Own w base e (.slice (some ⟨g, 0, none⟩) n cap) l) (i : Nat) (hi : i ≤ l.length) : Own w base e (.slice (some ⟨g, 0, none⟩) i cap) (l.take i) := by
 obtain ⟨cur, hh, hb, hn, hc, hm, hz, ht⟩ := h.cells
 have hl : (l.take i).length = i := by rw [List.length_take]; omega
 refine ⟨⟨by rw [flat_len], .inr ⟨g, cap, cur, by rw [hl], hb, hh, by omega, hm, hz, ?_⟩⟩, fun x hx => h.2 x (List.mem_of_mem_take hx)⟩
 rw [flat_take, ← ht, List.take_take, hl, Nat.min_eq_left (Nat.mul_le_mul_right _ (by omega))]
/-- the row's cells turned, some list over them -/
theorem Own.turn {g n cap : Nat} {l' : List α} {cur cur' : Array Value} (h : Own w base e (.slice (some ⟨g, 0, none⟩) n cap) l) (hg : w.heap[g]? = some (.cells cur e (0, 0))) (hs : cur'.size = cur.size) (hl : l'.length ≤ l.length)
  (ht : cur'.toList.take (l'.length * Enc.size α) = l'.flatMap Enc.cells) (hok : ∀ x ∈ l', Enc.ok w (Oth w (.slice (some ⟨g, 0, none⟩) n cap)) x) :
  Own (w.setRow g cur') base e (.slice (some ⟨g, 0, none⟩) l'.length cap) l' ∧ w.grownBy (w.setRow g cur') (some g) := by
 obtain ⟨cur0, hh, hb, hn, hc, hm, hz, _⟩ := h.cells
 rw [hg] at hh
 injection hh with hh
 injection hh with hh
 subst hh
 have hgr : w.grownBy (w.setRow g cur') (some g) := ⟨rfl, rfl, rfl, by simp, fun k hk hne => by
  simp only [World.setRow, Array.getElem?_modify]
  rw [if_neg (fun e => hne (by rw [e]))]⟩
 refine ⟨⟨⟨by rw [flat_len], .inr ⟨g, cap, cur', rfl, hb, ?_, by omega, hm, by omega, ht⟩⟩, fun x hx => ?_⟩, hgr⟩
 ·exact setRow_heap w g cur cur' e _ hg
 ·exact Enc.keep (hok x hx) (fun p hp => World.cell?_of_block (hgr.block _ hp.1 hp.2)) (fun b hb => ⟨by rw [size_setRow]; exact hb.1, hb.2⟩)
/-- an element stored -/
theorem Own.put {g n cap : Nat} {cur : Array Value} (h : Own w base e (.slice (some ⟨g, 0, none⟩) n cap) l) (hg : w.heap[g]? = some (.cells cur e (0, 0))) (i : Nat) (hi : i < l.length) (x : α) (hx : Enc.ok w (Oth w (.slice (some ⟨g, 0, none⟩) n cap)) x) :
  Own (w.setRow g (cur.toList.take (i * Enc.size α) ++ Enc.cells x ++ cur.toList.drop (i * Enc.size α + Enc.size α)).toArray) base e (.slice (some ⟨g, 0, none⟩) n cap) (l.set i x) ∧
   w.grownBy (w.setRow g (cur.toList.take (i * Enc.size α) ++ Enc.cells x ++ cur.toList.drop (i * Enc.size α + Enc.size α)).toArray) (some g) := by
 obtain ⟨cur0, hh, hb, hn, hc, hm, hz, ht⟩ := h.cells
 rw [hg] at hh
 injection hh with hh
 injection hh with hh
 subst hh
 have hlen : cur.toList.length = cap * Enc.size α := by simpa using hz
 have hi2 : i * Enc.size α + Enc.size α ≤ n * Enc.size α := by rw [← Nat.succ_mul]; exact Nat.mul_le_mul_right _ (by omega)
 have hi3 : n * Enc.size α ≤ cap * Enc.size α := Nat.mul_le_mul_right _ hc
 have := h.turn (l' := l.set i x) (cur' := (cur.toList.take (i * Enc.size α) ++ Enc.cells x ++ cur.toList.drop (i * Enc.size α + Enc.size α)).toArray) hg ?_ (by simp) ?_ ?_
 ·simpa [← hn] using this
 ·simp only [List.size_toArray, List.length_append, List.length_take, List.length_drop, Enc.len]
  rw [← Array.length_toList]; omega
 ·rw [List.length_set, ← hn, flat_set l i x hi, ← ht, Nat.succ_mul]
  exact list_seg_take _ _ _ _ _ (Enc.len x) (by omega) (by omega)
 ·intro y hy
  rcases List.mem_or_eq_of_mem_set hy with hy | rfl
  ·exact h.2 y hy
  ·exact hx
/-- a store into an element of the row, for the walk -/
theorem wpList_store_own {P : Program} {ops : Array Oper} {rest : List Oper} {o : Oper} {a : Act} {Q : Exit → Act → World → Prop} (hgd : o.guard = none) (d : Option Nat) (ad x : Operand) (t : TypeId) (ho : o.op = .store t ad x) (hd : o.dst = d)
  (hi : (P.info? t).map (·.size) = some (Enc.size α)) (g n cap i off : Nat) (u : α) (h : Own w base e (.slice (some ⟨g, 0, none⟩) n cap) l) (hil : i < l.length)
  (had : a.eval ad = .pointer (some ⟨g, off, none⟩)) (hoff : off = i * Enc.size α) (hx : (a.eval x).cells.toList = Enc.cells u) (hu : Enc.ok w (Oth w (.slice (some ⟨g, 0, none⟩) n cap)) u)
  (hK : ∀ w', Own w' base e (.slice (some ⟨g, 0, none⟩) n cap) (l.set i u) → w.grownBy w' (some g) → wpList P ops Q rest (a.put d undef) w') : wpList P ops Q (o :: rest) a w := by
 obtain ⟨cur, hg, hb, hn, hc, hm, hz, ht⟩ := h.cells
 obtain ⟨h1, h2⟩ := h.put hg i hil u hu
 have hsz : (a.eval x).cells.size = Enc.size α := by rw [← Array.length_toList, hx, Enc.len]
 have hi2 : i * Enc.size α + Enc.size α ≤ n * Enc.size α := by rw [← Nat.succ_mul]; exact Nat.mul_le_mul_right _ (by omega)
 have hi3 : n * Enc.size α ≤ cap * Enc.size α := Nat.mul_le_mul_right _ hc
 have hst := run_storeCells_at P g (i * Enc.size α) e (Enc.cells u) 0 cur w hg (by rw [Enc.len]; omega) (Enc.one u)
 rw [Nat.add_zero, Enc.len] at hst
 rw [List.append_assoc] at h1 h2
 subst hd hoff
 refine wpList_plain hgd fun K hk => ?_
 cases hq : P.info? t with
 | none => simp [hq] at hi
 | some j =>
  have hj : j.size = Enc.size α := by simpa [hq] using hi
  unfold Oper.wp execOp
  simp only [ho]
  simp [had, Instr.storeAt, Instr.sureAddr, storeVar, sizeOf, typeInfo, hq, hj, hsz, hx, hst]
  exact hk _ _ (hK _ h1 h2)
theorem zeroCells_one (z : Array Value) (n : Nat) (h : ∀ u ∈ z.toList, u.oneCell' = true) : ∀ u ∈ (Builtin.zeroCells z n).toList, u.oneCell' = true := by
 intro u hu
 simp only [Builtin.zeroCells] at hu
 simp at hu
 obtain ⟨k, hk, rfl⟩ := hu
 have hp : 0 < z.size := by
  rcases Nat.eq_zero_or_pos z.size with h0 | h0
  ·rw [h0] at hk; omega
  ·exact h0
 have hlt : k % z.size < z.size := Nat.mod_lt _ hp
 rw [getElem!_pos z _ hlt]
 exact h _ (by simp)
/-- clear(s[i:]): the row as it was, up to i -/
theorem wpList_clear_own {P : Program} {ops : Array Oper} {rest : List Oper} {o : Oper} {a : Act} {Q : Exit → Act → World → Prop} (hgd : o.guard = none) (d : Option Nat) (x : Operand) (t : TypeId) (ho : o.op = .call { callee := .builtin .clear, args := #[x], argTypes := #[t] }) (hd : o.dst = d)
  (te : TypeId) (ht : P.underlying t = some (.slice te)) (z : Value) (hz : ∀ w, (zeroValue te).run P w = .ok z w) (hzs : z.cells.size = Enc.size α) (hz1 : ∀ u ∈ z.cells.toList, u.oneCell' = true)
  (g n cap i off : Nat) (A : Option Addr) (c : Nat) (h : Own w base e (.slice (some ⟨g, 0, none⟩) n cap) l) (hil : i ≤ l.length)
  (hv : a.eval x = .slice A (n - i) c) (hoff : off = i * Enc.size α) (hA : i < n → A = some ⟨g, off, none⟩)
  (hK : ∀ w', Own w' base e (.slice (some ⟨g, 0, none⟩) i cap) (l.take i) → w.grownBy w' (some g) → wpList P ops Q rest (a.put d (.tuple #[])) w') : wpList P ops Q (o :: rest) a w := by
 obtain ⟨cur, hg, hb, hn, hc, hm, hzz, htk⟩ := h.cells
 subst hd hoff
 refine wpList_plain hgd fun K hk => ?_
 rcases Nat.lt_or_ge i n with hlt | hge
 ·rw [hA hlt] at hv
  have hsz : (Builtin.zeroCells z.cells (n - i)).toList.length = (n - i) * Enc.size α := by rw [Array.length_toList, size_zeroCells, hzs]
  have hmul : i * Enc.size α + (n - i) * Enc.size α = n * Enc.size α := by rw [← Nat.add_mul]; congr 1; omega
  have hi3 : n * Enc.size α ≤ cap * Enc.size α := Nat.mul_le_mul_right _ hc
  have hst := run_storeCells_at P g (i * Enc.size α) e (Builtin.zeroCells z.cells (n - i)).toList 0 cur w hg (by omega) (zeroCells_one _ _ hz1)
  rw [Nat.add_zero] at hst
  have hlen : cur.toList.length = cap * Enc.size α := by simpa using hzz
  have hle : i ≤ n := by omega
  have hti : (l.take i).length = i := by rw [List.length_take]; omega
  have hT := h.turn (l' := l.take i) (cur' := (cur.toList.take (i * Enc.size α) ++ (Builtin.zeroCells z.cells (n - i)).toList ++ cur.toList.drop (i * Enc.size α + (Builtin.zeroCells z.cells (n - i)).toList.length)).toArray) hg
   (by simp only [List.size_toArray, List.length_append, List.length_take, List.length_drop, hsz]; rw [← Array.length_toList]; omega) (by rw [hti]; omega)
   (by
    rw [hti, flat_take, ← htk, List.take_take, Nat.min_eq_left (Nat.mul_le_mul_right _ hle)]
    rw [List.append_assoc, List.take_append_of_le_length (by rw [List.length_take]; omega), List.take_take, Nat.min_self])
   (fun y hy => h.2 y (List.mem_of_mem_take hy))
  rw [hti] at hT
  obtain ⟨h1, h2⟩ := hT
  rw [List.append_assoc] at h1 h2
  unfold Oper.wp execOp
  have hne : n - i ≠ 0 := by omega
  obtain ⟨m, hm'⟩ : ∃ m, n - i = m + 1 := ⟨n - i - 1, by omega⟩
  simp only [ho]
  rw [hm'] at hv hst h1 h2
  simp [resolve, invoke, builtin, Builtin.clear_, hv, run_underlying ht, hz, hst]
  rw [hm'] at *
  exact hk _ _ (hK _ (by simpa using h1) (by simpa using h2))
 ·have hin : i = n := by omega
  unfold Oper.wp execOp
  simp only [ho]
  subst hin
  rw [Nat.sub_self] at hv
  have hrun : ∀ w : World, (Builtin.clear_ #[t] o.type #[.slice A 0 c]).run P w = .ok (.tuple #[]) w := by
   intro w
   cases A <;> simp [Builtin.clear_, run_underlying ht]
  simp [resolve, invoke, builtin, hv, hrun]
  exact hk _ _ (hK w (by simpa [hn] using h) (World.grownBy.refl w _))
theorem Own.str {w : World} {base : Nat} {e : TypeId} {l : List ByteArray} {g n cap : Nat} (h : Own w base e (.slice (some ⟨g, 0, none⟩) n cap) l) {k : Nat} (hk : k < l.length) : w.cell? ⟨g, k, none⟩ = some (.string l[k]) := by
 have := h.at_ hk 0 _ rfl
 rwa [show k * Enc.size ByteArray + 0 = k from Nat.mul_one k] at this
theorem grown_of_below {w w' : World} (h : Below w.heap.size w w') (row : Option Nat) : w.grownBy w' row := ⟨h.os, h.tape, h.output, h.size, fun k hk _ => h.block k hk⟩
theorem grown_trans {a b c : World} {row : Option Nat} (h : a.grownBy b row) (k : b.grownBy c row) : a.grownBy c row :=
 ⟨k.os.trans h.os, k.tape.trans h.tape, k.output.trans h.output, Nat.le_trans h.size k.size, fun i hi hne => (k.block i (Nat.lt_of_lt_of_le hi h.size) hne).trans (h.block i hi hne)⟩
theorem grown_drewN {a b : World} {row : Option Nat} (h : a.grownBy b row) (n : Nat) : a.grownBy (b.drewN n) row := ⟨h.os, h.tape, h.output, h.size, h.block⟩
theorem grown_drew {a b : World} {row : Option Nat} (h : a.grownBy b row) : a.grownBy b.drew row := ⟨h.os, h.tape, h.output, h.size, h.block⟩
theorem Own.drewN (h : Own w base e v l) (n : Nat) : Own (w.drewN n) base e v l := h.later (below_drewN (Below.refl _ _) n)
theorem Own.drew (h : Own w base e v l) : Own w.drew base e v l := h.later (Below.drew (Below.refl _ _))
/-- a row of the call's own that grew or turned: what was below it is as it was -/
theorem below_of_grown {B : Nat} {w w' : World} {row : Option Nat} (h : w.grownBy w' row) (hB : B ≤ w.heap.size) (hr : ∀ g, row = some g → B ≤ g) : Below B w w' := (Below.refl B w).grown h hB hr
theorem flat_str (l : List ByteArray) : l.flatMap Enc.cells = l.map Value.string := by
 induction l with
 | nil => rfl
 | cons x r ih => rw [List.flatMap_cons, ih]; rfl
theorem Own.set_str {w : World} {base : Nat} {e : TypeId} {l : List ByteArray} {g n cap : Nat} (h : Own w base e (.slice (some ⟨g, 0, none⟩) n cap) l) {i : Nat} (_hi : i < l.length) (x : ByteArray) (hx : x.size ≤ maxLen) :
  Own (w.setCell ⟨g, i, none⟩ (.string x)) base e (.slice (some ⟨g, 0, none⟩) n cap) (l.set i x) := by
 obtain ⟨cur, hg, hb, hn, hc, hm, hz, ht⟩ := h.cells
 have hz1 : cur.size = cap := by rw [hz]; exact Nat.mul_one _
 have ht1 : cur.toList.take n = l.map Value.string := by rw [← flat_str, ← ht]; rw [show n * Enc.size ByteArray = n from Nat.mul_one n]
 have hset : (w.setCell ⟨g, i, none⟩ (.string x)).heap[g]? = some (.cells (cur.setIfInBounds i (.string x)) e (0, 0)) := heap_setCell_same w g i cur e (.string x) hg
 refine ⟨⟨by rw [flat_len], .inr ⟨g, cap, _, by rw [List.length_set, ← hn], hb, hset, by rw [List.length_set]; omega, hm, by simp [hz], ?_⟩⟩, fun y hy => ?_⟩
 ·rw [List.length_set, ← hn, flat_str, List.map_set, ← ht1, show n * Enc.size ByteArray = n from Nat.mul_one n, Array.toList_setIfInBounds, List.take_set]
 ·rcases List.mem_or_eq_of_mem_set hy with hy | rfl
  ·exact h.2 y hy
  ·exact hx
theorem grown_setCell {a w : World} {g : Nat} (h : a.grownBy w (some g)) {p : Addr} (hp : p.block = g ∨ a.heap.size ≤ p.block) (u : Value) : a.grownBy (w.setCell p u) (some g) :=
 ⟨h.os, h.tape, h.output, by simpa [World.setCell] using h.size, fun i hi hne => (Below.heap_setCell w p u i (by
  rintro rfl
  rcases hp with hp | hp
  ·exact hne (by rw [hp])
  ·omega)).trans (h.block i hi hne)⟩
end
end Go.Proofs.YtampniiehgimhaaGreat
/- append onto a row of the call's own: one datum, or a slice of data. No program. -/
namespace Go.Proofs.YtampniiehgimhaaGreat
open Go.RowKit
section
variable {α : Type} [Enc α] {P : Program} {w : World} {base : Nat} {e : TypeId} {v : Value} {l : List α}
theorem flat_oneCell (l : List α) : ∀ u ∈ l.flatMap Enc.cells, u.oneCell' = true := by
 intro u hu
 obtain ⟨x, _, hx⟩ := List.mem_flatMap.1 hu
 exact Enc.one x u hx
/-- the elements of a row are where they were, whatever has become of the row -/
theorem oth_grown {w' : World} {v' : Value} (hg : w.grownBy w' v.ownBlock) (hat : v'.ownBlock = v.ownBlock ∨ v'.ownBlock = some w.heap.size) {x : α} (hx : Enc.ok w (Oth w v) x) : Enc.ok w' (Oth w' v') x := by
 refine Enc.keep hx (fun p hp => World.cell?_of_block (hg.block _ hp.1 hp.2)) (fun b hb => ⟨Nat.lt_of_lt_of_le hb.1 hg.size, ?_⟩)
 rcases hat with h | h
 ·rw [h]; exact hb.2
 ·rw [h]
  intro hh
  injection hh with hh
  have := hb.1
  omega
theorem run_append_slice (t ty : TypeId) (z : Value) (bytes : Nat) (ht : P.underlying t = some (.slice e)) (hinf : (P.info? e).map (fun i => (i.zero, i.size, i.bytes)) = some (some z, Enc.size α, bytes)) (hzs : z.cells.size = Enc.size α) (hsz : 0 < Enc.size α) (hby : bytes ≤ 1000)
  (h : Own w base e v l) (A : Option Addr) (c : Nat) (ys : List α) (hs : SlS w (Oth w v) A c ys) (hlen : l.length + ys.length ≤ 4294967296) (hbase : base ≤ w.heap.size) :
  ∃ v' w', (Builtin.append_ #[t, t] ty #[v, .slice A ys.length c]).run P w = .ok v' w' ∧ Own w' base e v' (l ++ ys) ∧ w.grownBy w' v.ownBlock ∧ (v'.ownBlock = v.ownBlock ∨ v'.ownBlock = some w.heap.size) := by
 obtain ⟨i, hi, hz, hz1, hz2⟩ := info_parts hinf
 have hbytes : (l.length + ys.length) * bytes ≤ 140737488355328 := Nat.le_trans (Nat.mul_le_mul hlen hby) (by decide)
 have h63 : l.length + ys.length ≤ maxLen := by simp only [maxLen]; omega
 rcases A with _ | ad
 ·have hy : ys = [] := by
   rcases ys with _ | ⟨y, r⟩
   ·rfl
   ·obtain ⟨_, _, hA, _⟩ := hs.2.2.1 (by simp)
    cases hA
  subst hy
  refine ⟨v, w, ?_, by simpa using h, World.grownBy.refl w _, .inl rfl⟩
  rcases h.1.2 with ⟨rfl, _⟩ | ⟨g, cap, cur, rfl, _, _, hnc, _⟩
  ·simp [Builtin.append_, run_underlying ht, sizeOf, typeInfo, hi, Builtin.lenOf, Builtin.firstCells]
  ·simp [Builtin.append_, run_underlying ht, sizeOf, typeInfo, hi, Builtin.lenOf, Builtin.firstCells, hnc, storeCells]
 ·have hcells : ∀ j u, (ys.flatMap Enc.cells)[j]? = some u → w.cell? (ad.add j) = some u := by
   intro j u hu
   have hn : 0 < ys.length := by
    rcases ys with _ | ⟨y, r⟩
    ·simp at hu
    ·simp
   obtain ⟨b, o, hA, _, hc⟩ := hs.2.2.1 hn
   injection hA with hA
   subst hA
   have := hc j u hu
   have hadd : (⟨b, o, none⟩ : Addr).add j = ⟨b, o + j, none⟩ := by unfold Addr.add; split <;> simp_all
   rw [hadd]; exact this
  obtain ⟨v', w', hrun, h2, h3, _, h5⟩ := run_append_own_at (P := P) w base t ty e i z (Enc.size α) bytes ht hi hz hz1 hz2 hzs hsz v l.length _ h.1 ad ys.length c _ (flat_len ys) hcells (flat_oneCell ys) h63 hbytes hbase
  refine ⟨v', w', hrun, ⟨by rw [List.length_append, List.flatMap_append]; exact h2, fun x hx => ?_⟩, h3, h5⟩
  rcases List.mem_append.1 hx with hx | hx
  ·exact oth_grown h3 h5 (h.2 x hx)
  ·exact oth_grown h3 h5 (hs.2.2.2 x hx)
theorem wpList_append_slice {ops : Array Oper} {rest : List Oper} {o : Oper} {a : Act} {Q : Exit → Act → World → Prop} (hgd : o.guard = none) (d : Option Nat) (s x : Operand) (t : TypeId)
  (ho : o.op = .call { callee := .builtin .append, args := #[s, x], argTypes := #[t, t] }) (hd : o.dst = d) (z : Value) (bytes : Nat) (ht : P.underlying t = some (.slice e)) (hinf : (P.info? e).map (fun i => (i.zero, i.size, i.bytes)) = some (some z, Enc.size α, bytes)) (hzs : z.cells.size = Enc.size α) (hsz : 0 < Enc.size α) (hby : bytes ≤ 1000)
  (hs : a.eval s = v) (h : Own w base e v l) (A : Option Addr) (n c : Nat) (ys : List α) (hx : a.eval x = .slice A n c) (hn : n = ys.length) (hsl : SlS w (Oth w v) A c ys) (hlen : l.length + ys.length ≤ 4294967296) (hbase : base ≤ w.heap.size)
  (hK : ∀ v' w', Own w' base e v' (l ++ ys) → w.grownBy w' v.ownBlock → (v'.ownBlock = v.ownBlock ∨ v'.ownBlock = some w.heap.size) → wpList P ops Q rest (a.put d v') w') : wpList P ops Q (o :: rest) a w := by
 subst hd hn
 obtain ⟨v', w', hrun, h2, h3, h4⟩ := run_append_slice (P := P) t o.type z bytes ht hinf hzs hsz hby h A c ys hsl hlen hbase
 refine wpList_plain hgd fun K hk => ?_
 unfold Oper.wp execOp
 simp only [ho, resolve, invoke, builtin, Sem.run_bind, Sem.run_pure, Result.andThen_ok, List.map_toArray, List.map_cons, List.map_nil, hs, hx, hrun]
 exact hk _ _ (hK v' w' h2 h3 h4)
/-- 'append(s, y)': y lies alone in a new block -/
theorem wpList_append_one {ops : Array Oper} {rest : List Oper} {o : Oper} {a : Act} {Q : Exit → Act → World → Prop} (hgd : o.guard = none) (d : Option Nat) (s x : Operand) (t : TypeId)
  (ho : o.op = .call { callee := .builtin .append, args := #[s, x], argTypes := #[t, t] }) (hd : o.dst = d) (z : Value) (bytes : Nat) (ht : P.underlying t = some (.slice e)) (hinf : (P.info? e).map (fun i => (i.zero, i.size, i.bytes)) = some (some z, Enc.size α, bytes)) (hzs : z.cells.size = Enc.size α) (hsz : 0 < Enc.size α) (hby : bytes ≤ 1000)
  (hs : a.eval s = v) (h : Own w base e v l) (g : Nat) (y : α) (hx : a.eval x = .slice (some ⟨g, 0, none⟩) 1 1) (cs : Array Value) (te : TypeId) (hg : w.heap[g]? = some (.cells cs te (0, 0))) (hcs : cs.toList = Enc.cells y) (hne : some g ≠ v.ownBlock) (hy : Enc.ok w (Oth w v) y)
  (hlen : l.length + 1 ≤ 4294967296) (hbase : base ≤ w.heap.size)
  (hK : ∀ v' w', Own w' base e v' (l ++ [y]) → w.grownBy w' v.ownBlock → (v'.ownBlock = v.ownBlock ∨ v'.ownBlock = some w.heap.size) → wpList P ops Q rest (a.put d v') w') : wpList P ops Q (o :: rest) a w := by
 refine wpList_append_slice hgd d s x t ho hd z bytes ht hinf hzs hsz hby hs h (some ⟨g, 0, none⟩) 1 1 [y] hx rfl ⟨Nat.le_refl _, by simp [maxLen], fun _ => ⟨g, 0, rfl, ⟨(Array.getElem?_eq_some_iff.1 hg).1, hne⟩, fun j u hu => ?_⟩, fun x hx => ?_⟩ hlen hbase hK
 ·rw [cell_of_row w g (0 + j) cs te (0, 0) hg, Nat.zero_add]
  simp only [List.flatMap_cons, List.flatMap_nil, List.append_nil, ← hcs] at hu
  simpa using hu
 ·simp only [List.mem_singleton] at hx
  subst hx; exact hy
/-- what lies below the base of a row of the call's own lies in other blocks than the row -/
theorem Own.oth {B : Nat} (h : Own w base e v l) (hB : B ≤ base) (hw : B ≤ w.heap.size) : ∀ b, b < B → Oth w v b := by
 intro b hb
 refine ⟨by omega, fun hv => ?_⟩
 have := (h.1.lt b hv.symm).1
 omega
/-- a slice literal -/
theorem own_lit {w : World} {base : Nat} (e : TypeId) (cs : Array Value) (l : List α) (hb : base ≤ w.heap.size) (hcs : cs.toList = l.flatMap Enc.cells) (hm : l.length ≤ 65536) (hok : ∀ x ∈ l, Okb w w.heap.size x) : Own (w.alloc (.cells cs e)) base e (.slice (some ⟨w.heap.size, 0, none⟩) l.length l.length) l := by
 refine ⟨⟨flat_len l, .inr ⟨w.heap.size, l.length, cs, rfl, hb, heap_alloc_new w _, Nat.le_refl _, by simp only [maxLen]; omega, by rw [← Array.length_toList, hcs, flat_len], by rw [hcs, ← flat_len, List.take_length]⟩⟩, fun x hx => Enc.keep (hok x hx) (fun p hp => World.cell?_alloc_lt w _ p hp) (fun b hb => ⟨Nat.lt_of_lt_of_le hb (by simp), fun h => ?_⟩)⟩
 simp only [Value.ownBlock, Option.some.injEq] at h
 omega
theorem Own.new_ne (h : Own w base e v l) {g : Nat} (hg : w.heap.size ≤ g) : some g ≠ v.ownBlock := by
 intro hv
 have := (h.1.lt g hv.symm).2
 omega
theorem Own.below {w' : World} {B : Nat} (h : Own w base e v l) (hg : w.grownBy w' v.ownBlock) (hB : B ≤ base) (hw : B ≤ w.heap.size) : Below B w w' :=
 below_of_grown hg hw (fun g hv => Nat.le_trans hB (h.1.lt g hv).1)
end
end Go.Proofs.YtampniiehgimhaaGreat
/- coins.Add, Less -/
namespace Go.Proofs.YtampniiehgimhaaGreat
open Go.RowKit
theorem ofInt_toInt64 {n : Int} (h : R64 n) : (BitVec.ofInt 64 n).toInt = n := by
 rw [BitVec.toInt_ofInt, Int.bmod_def]
 obtain ⟨h0, h1⟩ := h
 rw [show ((2 ^ 64 : Nat) : Int) = 18446744073709551616 from rfl]
 split <;> omega
theorem msb_ofInt64 {n : Int} (h : R64 n) : (BitVec.ofInt 64 n).msb = decide (n < 0) := by
 rw [BitVec.msb_eq_toInt, ofInt_toInt64 h]
theorem wrap_toNat (v : BitVec 64) : IntKind.i64.wrap (v.toNat : Int) = v.toInt := by
 rw [IntKind.wrap_i64, BitVec.toInt_eq_toNat_cond]
 have h := v.isLt
 rw [show ((2 ^ 64 : Nat) : Int) = 18446744073709551616 from rfl]
 have h2 : v.toNat < 18446744073709551616 := h
 rw [show (2 ^ 64 : Nat) = 18446744073709551616 from rfl]
 split <;> omega
theorem bits_xor64 (a b : Int) : bits .xor .i64 a b = (BitVec.ofInt 64 a ^^^ BitVec.ofInt 64 b).toInt := wrap_toNat _
theorem bits_and64 (a b : Int) : bits .and .i64 a b = (BitVec.ofInt 64 a &&& BitVec.ofInt 64 b).toInt := wrap_toNat _
theorem wrap_R64 (n : Int) : R64 (IntKind.i64.wrap n) := by
 rw [IntKind.wrap_i64]
 unfold R64
 omega
theorem over_bits (a b c : Int) (ha : R64 a) (hb : R64 b) (hc : R64 c) : decide (bits .and .i64 (bits .xor .i64 a b) (bits .xor .i64 a c) < 0) = ((decide (a < 0) ^^ decide (b < 0)) && (decide (a < 0) ^^ decide (c < 0))) := by
 rw [bits_and64, bits_xor64, bits_xor64, ← BitVec.msb_eq_toInt, BitVec.ofInt_toInt, BitVec.ofInt_toInt, BitVec.msb_and, BitVec.msb_xor, BitVec.msb_xor, msb_ofInt64 ha, msb_ofInt64 hb, msb_ofInt64 hc]
theorem bits_comm64 (a b : Int) : bits .xor .i64 a b = bits .xor .i64 b a := by rw [bits_xor64, bits_xor64, BitVec.xor_comm]
/-- is n no int64? -/
def overB (n : Int) : Bool := !(decide (-9223372036854775808 ≤ n) && decide (n ≤ 9223372036854775807))
theorem add_over {a b : Int} (ha : R64 a) (hb : R64 b) : decide (bits .and .i64 (bits .xor .i64 a (IntKind.i64.wrap (a + b))) (bits .xor .i64 b (IntKind.i64.wrap (a + b))) < 0) = overB (a + b) := by
 have h := over_bits (IntKind.i64.wrap (a + b)) a b (wrap_R64 _) ha hb
 rw [bits_comm64 a, bits_comm64 b, h]
 unfold overB
 rw [IntKind.wrap_i64]
 obtain ⟨h0, h1⟩ := ha
 obtain ⟨h2, h3⟩ := hb
 generalize hc : (a + b + 9223372036854775808) % 18446744073709551616 - 9223372036854775808 = c
 by_cases h4 : c < 0 <;> by_cases h5 : a < 0 <;> by_cases h6 : b < 0 <;> simp [h4, h5, h6] <;> omega
theorem less_over {a b : Int} (ha : R64 a) (hb : R64 b) : decide (bits .and .i64 (bits .xor .i64 a b) (bits .xor .i64 a (IntKind.i64.wrap (a - b))) < 0) = overB (a - b) := by
 rw [over_bits a b _ ha hb (wrap_R64 _)]
 unfold overB
 rw [IntKind.wrap_i64]
 obtain ⟨h0, h1⟩ := ha
 obtain ⟨h2, h3⟩ := hb
 generalize hc : (a - b + 9223372036854775808) % 18446744073709551616 - 9223372036854775808 = c
 by_cases h4 : c < 0 <;> by_cases h5 : a < 0 <;> by_cases h6 : b < 0 <;> simp [h4, h5, h6] <;> omega
/-- a sum, or that it is none -/
def sumR (n : Int) : Int × Int := if overB n then (0, 2) else (n, 0)
theorem wrap_over {n : Int} (h : overB n = false) : IntKind.i64.wrap n = n := by
 unfold overB at h
 simp only [Bool.not_eq_false', Bool.and_eq_true, decide_eq_true_eq] at h
 rw [IntKind.wrap_i64]
 omega
theorem sumR_R64 (n : Int) : R64 (sumR n).1 := by
 unfold sumR overB R64
 by_cases h : -9223372036854775808 ≤ n ∧ n ≤ 9223372036854775807
 ·rw [decide_eq_true h.1, decide_eq_true h.2]
  exact h
 ·rw [if_pos]
  ·exact ⟨by decide, by decide⟩
  ·rw [Bool.not_eq_true', Bool.and_eq_false_iff, decide_eq_false_iff_not, decide_eq_false_iff_not]
   omega
set_option maxRecDepth 100000 in
set_option maxHeartbeats 2000000 in
theorem add_c (a b : Int) (w : World) (ha : R64 a) (hb : R64 b) : Calls Tryz.prog 220 #[i64 a, i64 b] w fun e w' => e = .returned (.tuple #[i64 (sumR (a + b)).1, i64 (sumR (a + b)).2]) ∧ Below w.heap.size w w' := by
 have ho := add_over ha hb
 rw [IntWalk.i64_left] at ho
 cases h : overB (a + b) with
 | true =>
  rw [h] at ho
  have HS := Lib.hid (show sumR (a + b) = (0, 2) by unfold sumR; rw [h]; rfl)
  clear h
  go_enter Tryz.func220, Tryz.ntmps220
  go_wp2
  go_ret2
  exact ⟨by rw [HS.out]; rfl, Below.refl _ _⟩
 | false =>
  rw [h] at ho
  have hw := wrap_over h
  rw [IntWalk.i64_left] at hw
  have HW := Lib.hid hw
  have HS := Lib.hid (show sumR (a + b) = (a + b, 0) by unfold sumR; rw [h]; rfl)
  clear h hw
  go_enter Tryz.func220, Tryz.ntmps220
  go_wp2
  go_ret2
  exact ⟨by rw [HS.out]; exact congrArg (fun n => Ending.returned (.tuple #[.int .i64 n, i64 0])) HW.out, Below.refl _ _⟩
set_option maxRecDepth 100000 in
set_option maxHeartbeats 2000000 in
theorem less_c (a b : Int) (w : World) (ha : R64 a) (hb : R64 b) : Calls Tryz.prog 91 #[i64 a, i64 b] w fun e w' => e = .returned (.tuple #[i64 (sumR (a - b)).1, i64 (sumR (a - b)).2]) ∧ Below w.heap.size w w' := by
 have ho := less_over ha hb
 rw [IntWalk.i64_left] at ho
 cases h : overB (a - b) with
 | true =>
  rw [h] at ho
  have HS := Lib.hid (show sumR (a - b) = (0, 2) by unfold sumR; rw [h]; rfl)
  clear h
  go_enter Tryz.func91, Tryz.ntmps91
  go_wp2
  go_ret2
  exact ⟨by rw [HS.out]; rfl, Below.refl _ _⟩
 | false =>
  rw [h] at ho
  have hw := wrap_over h
  rw [IntWalk.i64_left] at hw
  have HW := Lib.hid hw
  have HS := Lib.hid (show sumR (a - b) = (a - b, 0) by unfold sumR; rw [h]; rfl)
  clear h hw
  go_enter Tryz.func91, Tryz.ntmps91
  go_wp2
  go_ret2
  exact ⟨by rw [HS.out]; exact congrArg (fun n => Ending.returned (.tuple #[.int .i64 n, i64 0])) HW.out, Below.refl _ _⟩
end Go.Proofs.YtampniiehgimhaaGreat
/- ref10.At. -/
namespace Go.Proofs.YtampniiehgimhaaGreat
open Go.RowKit
theorem eq_id (a b c d : Int) (w : World) : (binOp .eql 34 (.agg #[i64 a, i64 b]) (.agg #[i64 c, i64 d])).run Tryz.prog w = .ok (.bool (decide (Id.mk a b = ⟨c, d⟩))) w := by
 have u3 := Tryz.underlying3
 have a3 := Tryz.isAgg3
 have z3 := Tryz.sizeOf3
 have hS : Tryz.prog.underlying 34 = some (.struct (Tryz.prog.fieldsOf 34)) := by kernel_rfl
 have hp : Tryz.prog.stoodInHeld 34 = false := by kernel_rfl
 rw [run_eql_struct, show (10000 : Nat) = 9999 + 1 from rfl, run_equalIn_agg w 9999 34 _ _ hS hp]
 simp only [Program.fieldsOf, Tryz.underlying34]
 go_simp
 by_cases h1 : a = c <;> by_cases h2 : b = d <;> simp [h1, h2]
abbrev atIdx (l : List Od) (id : Id) : Int := idxP (fun x => decide (x.id = id)) l
end Go.Proofs.YtampniiehgimhaaGreat
