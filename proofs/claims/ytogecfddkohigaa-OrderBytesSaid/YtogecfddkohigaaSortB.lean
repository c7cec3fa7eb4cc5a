/- slices.Sort, Compact at strings -/
import Derived.Test.YtogecfddkohigaaRows
import Derived.Test.YtogecfddkohigaaSort
import Derived.WalkKit
import Derived.WalkSpells
import Derived.WalkLawsBesides
import Derived.Deep.QuietTactic
import Derived.BigQuiet
import Derived.Laws.StructEq
import Derived.Deep.DeepFit
import Derived.StillTailTactics
namespace Go.Proofs.Ytogecfddkohigaa
open Go.RowKit
set_option maxRecDepth 100000 in
set_option maxHeartbeats 400000 in
theorem pdqsort_str (base : Nat) (gb cp : Nat) (l : List ByteArray) (lim : Int) (w : World) (h : Own w base 9 (.slice (some ⟨gb, 0, none⟩) l.length cp) l) (hn : l.length ≤ 12) :
    Calls Try.prog 114 #[.slice (some ⟨gb, 0, none⟩) l.length cp, i64 0, i64 l.length, i64 lim] w fun e w' => e = .returned (.tuple #[]) ∧ Own w' base 9 (.slice (some ⟨gb, 0, none⟩) l.length cp) (sortS l) ∧ w.grownBy w' (some gb) := by
  have hn' : l.length ≤ 65536 := by omega
  go_enter Try.func114, Try.ntmps114
  go_wp2_with fail
  refine wp_loop_rounds 1 ?_
  rw [rounds_succ]
  go_wp2_with (go_at_call 118; refine (insertionSort_str base gb cp l _ h hn').mono ?_; rintro e w' ⟨rfl, hO, hg⟩)
  refine bodyPost_ret (results_none rfl _ _ _) rfl ?_
  exact ⟨rfl, hO, hg⟩

theorem Own.nil_form {w : World} {base : Nat} {e : TypeId} {v : Value} {l : List ByteArray} (h : Own w base e v l) (hl : l = []) : ∃ A c, v = .slice A 0 c := by
  obtain ⟨A, c, hv, _⟩ := h.sl
  subst hl
  exact ⟨A, c, hv⟩
set_option maxRecDepth 100000 in
set_option maxHeartbeats 400000 in
theorem insertionSort_none (A : Option Addr) (c : Nat) (w : World) :
    Calls Try.prog 118 #[.slice A 0 c, i64 0, i64 0] w fun e w' => e = .returned (.tuple #[]) ∧ w = w' := by
  go_enter Try.func118, Try.ntmps118
  go_wp2_with fail
  refine wp_loop_rounds 1 ?_
  rw [rounds_succ]
  go_wp2
  go_end0
  exact ⟨rfl, rfl⟩
set_option maxRecDepth 100000 in
set_option maxHeartbeats 400000 in
theorem pdqsort_none (A : Option Addr) (c : Nat) (lim : Int) (w : World) :
    Calls Try.prog 114 #[.slice A 0 c, i64 0, i64 0, i64 lim] w fun e w' => e = .returned (.tuple #[]) ∧ w = w' := by
  go_enter Try.func114, Try.ntmps114
  go_wp2_with fail
  refine wp_loop_rounds 1 ?_
  rw [rounds_succ]
  go_wp2_with (go_at_call 118; refine (insertionSort_none A c _).mono ?_; rintro e w' ⟨rfl, rfl⟩)
  refine bodyPost_ret (results_none rfl _ _ _) rfl ?_
  exact ⟨rfl, rfl⟩
set_option maxRecDepth 100000 in
set_option maxHeartbeats 400000 in
theorem sort_str (base : Nat) (v : Value) (l : List ByteArray) (w : World) (h : Own w base 9 v l) (hn : l.length ≤ 12) :
    Calls Try.prog 75 #[v] w fun e w' => e = .returned (.tuple #[]) ∧ Own w' base 9 v (sortS l) ∧ w.grownBy w' v.ownBlock := by
  have hu : ∀ x : Int, 0 ≤ x → x ≤ 12 → IntKind.u64.wrap x = x := by intro x h0 h1; simp only [IntKind.wrap_u64]; omega
  rcases Nat.eq_zero_or_pos l.length with h0 | h0
  · have hl : l = [] := List.length_eq_zero_iff.1 h0
    obtain ⟨A, c, rfl⟩ := h.nil_form hl
    subst hl
    have H := Lib.hid h
    clear h h0 hn
    go_enter Try.func75, Try.ntmps75
    go_wp2_with (first | (go_at_call 115; refine (Try.bits_Len _ _ (by omega) (by omega)).mono ?_; rintro e w' ⟨rfl, rfl⟩) | (go_at_call 114; refine (pdqsort_none A c _ _).mono ?_; rintro e w' ⟨rfl, rfl⟩))
    go_end0
    exact ⟨rfl, H.out, World.grownBy.refl _ _⟩
  · obtain ⟨gb, cp, cur0, rfl, _⟩ := h.form h0
    have Hn := hn
    go_enter Try.func75, Try.ntmps75
    go_wp2_with (first | (go_at_call 115; refine (Try.bits_Len _ _ (by omega) (by omega)).mono ?_; rintro e w' ⟨rfl, rfl⟩) | (go_at_call 114; refine (pdqsort_str base gb cp l _ _ h hn).mono ?_; rintro e w' ⟨rfl, hO, hg⟩))
    go_end0
    exact ⟨rfl, hO, hg⟩
end Go.Proofs.Ytogecfddkohigaa
