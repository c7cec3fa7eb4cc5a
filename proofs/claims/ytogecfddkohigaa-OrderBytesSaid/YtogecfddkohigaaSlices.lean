/- Slices of slices as data; a new row with room. No program. -/
import Derived.Test.YtogecfddkohigaaAppend
import Derived.Lib.AppendZeros
namespace Go.Proofs.Ytogecfddkohigaa
open Go.RowKit

/-- a slice as a datum: where it lies, and what it reads as -/
structure SV (α : Type) where
  a : Option Addr
  c : Nat
  l : List α
instance encSV {α : Type} [Enc α] : Enc (SV α) where
  size := 1
  cells s := [.slice s.a s.l.length s.c]
  val s := .slice s.a s.l.length s.c
  ok w S s := SlS w S s.a s.c s.l
  len _ := rfl
  one _ v hv := by simp only [List.mem_singleton] at hv; subst hv; rfl
  keep h hk hS := h.keep hk hS
theorem SlS.sv {α : Type} [Enc α] {w : World} {S : Nat → Prop} {c : Nat} {A : Option Addr} {l : List (SV α)} (h : SlS w S A c l) {k : Nat} (hk : k < l.length) : ∃ b o, A = some ⟨b, o, none⟩ ∧ S b ∧ SlS w S l[k].a l[k].c l[k].l ∧
    w.cell? ⟨b, o + k, none⟩ = some (.slice l[k].a l[k].l.length l[k].c) := by
  obtain ⟨b, o, hA, hb, hok, hc⟩ := h.at_ hk
  have h0 := hc 0 _ rfl
  rw [show k * Enc.size (SV α) + 0 = k from Nat.mul_one k] at h0
  exact ⟨b, o, hA, hb, hok, h0⟩
section
variable {α : Type} [Enc α]
theorem own_room (w : World) (base : Nat) (e : TypeId) (cap : Nat) (cs : Array Value) (hb : base ≤ w.heap.size) (hm : cap ≤ maxLen) (hcs : cs.size = cap * Enc.size α) : Own (w.alloc (.cells cs e)) base e (.slice (some ⟨w.heap.size, 0, none⟩) 0 cap) ([] : List α) :=
  ⟨⟨by simp, .inr ⟨w.heap.size, cap, cs, rfl, hb, heap_alloc_new w _, Nat.zero_le _, hm, hcs, by simp⟩⟩, by simp⟩
end
end Go.Proofs.Ytogecfddkohigaa
