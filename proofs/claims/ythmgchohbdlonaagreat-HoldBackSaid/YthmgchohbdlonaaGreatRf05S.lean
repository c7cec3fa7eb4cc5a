/- ref05.Same -/
import Derived.Test.YthmgchohbdlonaaGreatRows
import Derived.Test.YthmgchohbdlonaaGreatRf05
import Derived.Test.YthmgchohbdlonaaGreatHlives
import Derived.WalkKit
import Derived.WalkSpells
import Derived.WalkLawsBesides
import Derived.Deep.QuietTactic
import Derived.BigQuiet
import Derived.Laws.StructEq
import Derived.Deep.DeepFit
import Derived.StillTailTactics
namespace Go.Proofs.YthmgchohbdlonaaGreat
open Go.RowKit
theorem neq_ac (a b : Ac) (w : World) : (binOp .neq 52 (.agg #[.string a.name, i64 a.hav, i64 a.set_, i64 a.lim]) (.agg #[.string b.name, i64 b.hav, i64 b.set_, i64 b.lim])).run Tryz.prog w = .ok (.bool (!decide (a = b))) w := by
  have u3 := Tryz.underlying2
  have a3 := Tryz.isAgg2
  have z3 := Tryz.sizeOf2
  have u9 := Tryz.underlying9
  have a9 := Tryz.isAgg9
  have z9 := Tryz.sizeOf9
  have hS : Tryz.prog.underlying 52 = some (.struct (Tryz.prog.fieldsOf 52)) := by kernel_rfl
  have hp : Tryz.prog.stoodInHeld 52 = false := by kernel_rfl
  rw [run_neq_struct, show (10000 : Nat) = 9999 + 1 from rfl, run_equalIn_agg w 9999 52 _ _ hS hp]
  simp only [Program.fieldsOf, Tryz.underlying52]
  go_simp
  by_cases h1 : a.name = b.name
  · have t1 := beqS_of_eq h1
    by_cases h2 : a.hav = b.hav
    · by_cases h3 : a.set_ = b.set_
      · by_cases h4 : a.lim = b.lim
        · rw [decide_eq_true (Ac.ext_ h1 h2 h3 h4)]; simp [h1, h2, h3, h4]
        · rw [decide_eq_false (fun e => h4 (by rw [e]))]; simp [h1, h2, h3, h4]
      · rw [decide_eq_false (fun e => h3 (by rw [e]))]; simp [h1, h2, h3]
    · rw [decide_eq_false (fun e => h2 (by rw [e]))]; simp [h1, h2]
  · have t1 := beqS_of_ne h1
    have t2 : ¬ a.name.toList = b.name.toList := by simpa using t1
    rw [decide_eq_false (fun e => h1 (by rw [e]))]; simp [t2]
theorem below_quiet (w : World) (n : Nat) : Below w.heap.size w (w.drewN n) := below_drewN (Below.refl _ _) n
set_option maxRecDepth 100000 in
set_option maxHeartbeats 2000000 in
theorem rsame5_c (S T : Nat → Prop) (A B : Option Addr) (c d : Nat) (x y : List Ac) (w : World) (hx : SlS w S A c x) (hy : SlS w T B d y) (hlx : x.length ≤ 65536) (hly : y.length ≤ 65536) :
    Calls Tryz.prog 16 #[.slice A x.length c, .slice B y.length d] w fun e w' => e = .returned (.bool (decide (x = y))) ∧ Below w.heap.size w w' := by
  have Hx := Lib.hid hx
  have Hy := Lib.hid hy
  have hxc : x.length ≤ c := hx.1
  have hyd : y.length ≤ d := hy.1
  clear hx hy
  by_cases hl : x.length = y.length
  · have q0 : ((x.length : Int) != (y.length : Int)) = false := by rw [hl]; simp
    have Hl := Lib.hid hl
    clear hl
    go_enter Tryz.func16, Tryz.ntmps16
    go_wp2
    go_loopw [5] (fun i wr => ∃ (j m : Nat), i = i64 j ∧ j ≤ x.length ∧ x.take j = y.take j ∧ wr = w.drewN m) (fun i _ => x.length - (intOf i).toNat)
    case atStart => exact ⟨0, 0, rfl, by omega, rfl, rfl⟩
    case round =>
      obtain ⟨j, m, rfl, hj, ht, rfl⟩ := hrel
      have HT := Lib.hid ht
      clear ht
      by_cases hlt : j < x.length
      · have hltm : j < y.length := by have := Hl.out; omega
        obtain ⟨b, o, hA, hb, -, c0, c1, c2, c3⟩ := Hx.out.ac hlt
        obtain ⟨b', o', hA', hb', -, c0', c1', c2', c3'⟩ := Hy.out.ac hltm
        subst hA hA'
        have he : ∀ W : World, (binOp .neq 52 (.agg #[.string x[j].name, i64 x[j].hav, i64 x[j].set_, i64 x[j].lim]) (.agg #[.string y[j].name, i64 y[j].hav, i64 y[j].set_, i64 y[j].lim])).run Tryz.prog W = .ok (.bool (!decide (x[j] = y[j]))) W := neq_ac _ _
        by_cases heq : x[j] = y[j]
        · simp only [decide_eq_true heq, Bool.not_true] at he
          have Heq := Lib.hid heq
          clear heq
          go_wp2
          go_quiet (fail)
          go_wp2
          go_roundw
          case rel => exact ⟨j + 1, m + _, by go_num, by omega, by rw [List.take_succ_eq_append_getElem hlt, List.take_succ_eq_append_getElem hltm, HT.out, Heq.out], rfl⟩
          case measure => simp [intOf]; omega
        · simp only [decide_eq_false heq, Bool.not_false] at he
          have Heq := Lib.hid heq
          clear heq
          go_wp2
          go_quiet (fail)
          go_wp2
          go_ret
          refine ⟨?_, below_drewN (below_quiet _ _) _⟩
          rw [decide_eq_false (show ¬ x = y from fun e => Heq.out (by simp only [e]))]
          rfl
      · obtain rfl : j = x.length := by omega
        go_wp2
        go_ret
        refine ⟨?_, below_quiet _ _⟩
        rw [decide_eq_true (show x = y by
          have := HT.out
          rwa [List.take_length, List.take_of_length_le (by have := Hl.out; omega)] at this)]
        rfl
  · have q0 : ((x.length : Int) != (y.length : Int)) = true := by rw [bne_iff_ne]; omega
    have Hs := Lib.hid (show decide (x = y) = false from decide_eq_false fun e => hl (by rw [e]))
    clear hl
    go_enter Tryz.func16, Tryz.ntmps16
    go_wp2
    go_ret
    exact ⟨by rw [Hs.out]; rfl, Below.refl _ _⟩
end Go.Proofs.YthmgchohbdlonaaGreat
