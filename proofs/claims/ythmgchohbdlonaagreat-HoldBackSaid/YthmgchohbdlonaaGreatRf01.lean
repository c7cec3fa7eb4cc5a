/- ref01: sums in two halves -/
import Derived.Test.YthmgchohbdlonaaGreatRows
import Derived.Test.YthmgchohbdlonaaGreatCoins
import Derived.Test.YthmgchohbdlonaaGreatMore
import Derived.Test.YthmgchohbdlonaaGreatSumL
import Derived.Deep.RegionHeld3
import Derived.WalkKit
import Derived.WalkSpells
import Derived.WalkLawsBesides
import Derived.Deep.QuietTactic
import Derived.BigQuiet
import Derived.Laws.StructEq
import Derived.Deep.DeepFit
import Derived.StillTailTactics
namespace Go.Proofs.YthmgchohbdlonaaGreat
open Go.RowKit
/-- countinghouseref01.Wide: a number in two halves -/
abbrev wdV (n : Int) : Value := .agg #[i64 (n / 18446744073709551616), .int .u64 (n % 18446744073709551616)]
/-- small enough -/
def RW (n : Int) : Prop := -1208925819614629174706176 ≤ n ∧ n ≤ 1208925819614629174706176
theorem RW.hi {n : Int} (h : RW n) : -65536 ≤ n / 18446744073709551616 ∧ n / 18446744073709551616 ≤ 65536 := by unfold RW at h; omega
theorem RW.of64 {n : Int} (h : R64 n) : RW n := by unfold R64 at h; unfold RW; omega
set_option maxRecDepth 100000 in
set_option maxHeartbeats 2000000 in
theorem of_c (a : Int) (w : World) (ha : R64 a) : Calls Tryz.prog 78 #[i64 a] w fun e w' => e = .returned (wdV a) ∧ Below w.heap.size w w' := by
  obtain ⟨h1, h2⟩ := ha
  have hu : IntKind.u64.wrap a = a % 18446744073709551616 := by rw [IntKind.wrap_u64]
  have hb := fun o p => ((Below.refl w.heap.size w).alloc (Nat.le_refl _) o).alloc (by simp) p
  by_cases hn : a < 0
  · have g : decide (a < 0) = true := decide_eq_true hn
    have hq : a / 18446744073709551616 = -1 := by omega
    unfold wdV
    rw [hq]
    generalize a % 18446744073709551616 = lo at *
    clear hq h1 h2 hn
    go_enter Tryz.func78, Tryz.ntmps78
    go_wp2
    exact bodyPost_ret (results_cell_row rfl _ _ w.heap.size 121 _ (0, 0) _ rfl (heap_alloc2_old w _ _) Tryz.underlying121 rfl (by kernel_rfl)) rfl ⟨rfl, hb _ _⟩
  · have g : decide (a < 0) = false := decide_eq_false hn
    have hq : a / 18446744073709551616 = 0 := by omega
    unfold wdV
    rw [hq]
    generalize a % 18446744073709551616 = lo at *
    clear hq h1 h2 hn
    go_enter Tryz.func78, Tryz.ntmps78
    go_wp2
    exact bodyPost_ret (results_cell_row rfl _ _ w.heap.size 121 _ (0, 0) _ rfl (heap_alloc2_old w _ _) Tryz.underlying121 rfl (by kernel_rfl)) rfl ⟨rfl, hb _ _⟩
theorem wdV_of {n h l : Int} (h0 : 0 ≤ l) (h1 : l < 18446744073709551616) (h2 : n = h * 18446744073709551616 + l) : wdV n = .agg #[i64 h, .int .u64 l] := by
  have e1 : n / 18446744073709551616 = h := by omega
  have e2 : n % 18446744073709551616 = l := by omega
  unfold wdV
  rw [e1, e2]
theorem heap_alloc3_b (w : World) (o p q : Obj) : (((w.alloc o).alloc p).alloc q).heap[w.heap.size + 1]? = some p := by
  have := heap_alloc2_old (w.alloc o) p q
  simpa using this
theorem heap_alloc4_c (w : World) (o p q r : Obj) : ((((w.alloc o).alloc p).alloc q).alloc r).heap[w.heap.size + 1 + 1]? = some q := by
  have := heap_alloc2_old ((w.alloc o).alloc p) q r
  simpa using this
set_option maxRecDepth 100000 in
set_option maxHeartbeats 4000000 in
theorem plus_c (m n : Int) (w : World) (hm : RW m) (hn : RW n) : Calls Tryz.prog 77 #[wdV m, wdV n] w fun e w' => e = .returned (wdV (m + n)) ∧ Below w.heap.size w w' := by
  have hm' := hm.hi
  have hn' := hn.hi
  have hV : ∃ V, wdV (m + n) = V := ⟨_, rfl⟩
  obtain ⟨V, hV⟩ := hV
  rw [hV]
  have dm : 0 ≤ m % 18446744073709551616 ∧ m % 18446744073709551616 < 18446744073709551616 := by omega
  have dn : 0 ≤ n % 18446744073709551616 ∧ n % 18446744073709551616 < 18446744073709551616 := by omega
  have em : m = m / 18446744073709551616 * 18446744073709551616 + m % 18446744073709551616 := by omega
  have en : n = n / 18446744073709551616 * 18446744073709551616 + n % 18446744073709551616 := by omega
  unfold wdV
  generalize m / 18446744073709551616 = a at *
  generalize m % 18446744073709551616 = b at *
  generalize n / 18446744073709551616 = c at *
  generalize n % 18446744073709551616 = d at *
  have e1 : IntKind.i64.wrap (a + c) = a + c := by rw [IntKind.wrap_i64]; omega
  have e2 : IntKind.i64.wrap (a + c + 1) = a + c + 1 := by rw [IntKind.wrap_i64]; omega
  have hb := fun o p q r => ((((Below.refl w.heap.size w).alloc (Nat.le_refl _) o).alloc (by simp) p).alloc (by simp; omega) q).alloc (by simp; omega) r
  have h4 := heap_alloc4_c w
  by_cases ho : b + d < 18446744073709551616
  · have hu : IntKind.u64.wrap (b + d) = b + d := by rw [IntKind.wrap_u64]; omega
    have g : decide (b + d < b) = false := decide_eq_false (by omega)
    have HV := Lib.hid (hV.symm.trans (wdV_of (n := m + n) (h := a + c) (l := b + d) (by omega) ho (by omega)))
    clear hV em en ho dm dn hm' hn' hm hn e2
    go_enter Tryz.func77, Tryz.ntmps77
    go_wp2
    refine bodyPost_ret (results_cell_row rfl _ _ _ 121 _ (0, 0) _ rfl (h4 _ _ _ _) Tryz.underlying121 rfl (by kernel_rfl)) rfl ⟨by rw [HV.out], hb _ _ _ _⟩
  · have hu : IntKind.u64.wrap (b + d) = b + d - 18446744073709551616 := by rw [IntKind.wrap_u64]; omega
    have g : decide (b + d - 18446744073709551616 < b) = true := decide_eq_true (by omega)
    have HV := Lib.hid (hV.symm.trans (wdV_of (n := m + n) (h := a + c + 1) (l := b + d - 18446744073709551616) (by omega) (by omega) (by omega)))
    clear hV em en ho dm dn hm' hn' hm hn
    go_enter Tryz.func77, Tryz.ntmps77
    go_wp2
    refine bodyPost_ret (results_cell_row rfl _ _ _ 121 _ (0, 0) _ rfl (h4 _ _ _ _) Tryz.underlying121 rfl (by kernel_rfl)) rfl ⟨by rw [HV.out], hb _ _ _ _⟩
set_option maxRecDepth 100000 in
set_option maxHeartbeats 4000000 in
theorem minus_c (m : Int) (w : World) (hm : RW m) : Calls Tryz.prog 79 #[wdV m] w fun e w' => e = .returned (wdV (-m)) ∧ Below w.heap.size w w' := by
  have hm' := hm.hi
  have hV : ∃ V, wdV (-m) = V := ⟨_, rfl⟩
  obtain ⟨V, hV⟩ := hV
  rw [hV]
  have dm : 0 ≤ m % 18446744073709551616 ∧ m % 18446744073709551616 < 18446744073709551616 := by omega
  have em : m = m / 18446744073709551616 * 18446744073709551616 + m % 18446744073709551616 := by omega
  unfold wdV
  generalize m / 18446744073709551616 = a at *
  generalize m % 18446744073709551616 = b at *
  have e1 : IntKind.i64.wrap (-a) = -a := by rw [IntKind.wrap_i64]; omega
  have e2 : IntKind.i64.wrap (-a - 1) = -a - 1 := by rw [IntKind.wrap_i64]; omega
  have hb := fun o p q => (((Below.refl w.heap.size w).alloc (Nat.le_refl _) o).alloc (by simp) p).alloc (by simp; omega) q
  have h4 := heap_alloc3_b w
  by_cases ho : b = 0
  · have hu : IntKind.u64.wrap (-b) = 0 := by rw [IntKind.wrap_u64]; omega
    have g : (b != 0) = false := by rw [ho]; rfl
    have HV := Lib.hid (hV.symm.trans (wdV_of (n := -m) (h := -a) (l := 0) (by omega) (by omega) (by omega)))
    clear hV em ho dm hm' hm e2
    go_enter Tryz.func79, Tryz.ntmps79
    go_wp2
    refine bodyPost_ret (results_cell_row rfl _ _ _ 121 _ (0, 0) _ rfl (h4 _ _ _) Tryz.underlying121 rfl (by kernel_rfl)) rfl ⟨by rw [HV.out], hb _ _ _⟩
  · have hu : IntKind.u64.wrap (-b) = 18446744073709551616 - b := by rw [IntKind.wrap_u64]; omega
    have g : (b != 0) = true := by simpa using ho
    have HV := Lib.hid (hV.symm.trans (wdV_of (n := -m) (h := -a - 1) (l := 18446744073709551616 - b) (by omega) (by omega) (by omega)))
    clear hV em ho dm hm' hm
    go_enter Tryz.func79, Tryz.ntmps79
    go_wp2
    refine bodyPost_ret (results_cell_row rfl _ _ _ 121 _ (0, 0) _ rfl (h4 _ _ _) Tryz.underlying121 rfl (by kernel_rfl)) rfl ⟨by rw [HV.out], hb _ _ _⟩
theorem neq_wd (a b c d : Int) (w : World) : (binOp .neq 121 (.agg #[i64 a, .int .u64 b]) (.agg #[i64 c, .int .u64 d])).run Tryz.prog w = .ok (.bool (!(decide (a = c) && decide (b = d)))) w := by
  have u3 := Tryz.underlying2
  have a3 := Tryz.isAgg2
  have z3 := Tryz.sizeOf2
  have u4 := Tryz.underlying119
  have a4 := Tryz.isAgg119
  have z4 := Tryz.sizeOf119
  have hS : Tryz.prog.underlying 121 = some (.struct (Tryz.prog.fieldsOf 121)) := by kernel_rfl
  have hp : Tryz.prog.stoodInHeld 121 = false := by kernel_rfl
  rw [run_neq_struct, show (10000 : Nat) = 9999 + 1 from rfl, run_equalIn_agg w 9999 121 _ _ hS hp]
  simp only [Program.fieldsOf, Tryz.underlying121]
  go_simp
  by_cases h1 : a = c <;> by_cases h2 : b = d <;> simp [h1, h2]
set_option maxRecDepth 100000 in
set_option maxHeartbeats 4000000 in
theorem rsum_c (n : Int) (w : World) : Calls Tryz.prog 76 #[wdV n] w fun e w' => e = .returned (.tuple #[i64 (sumR n).1, i64 (sumR n).2]) ∧ Below w.heap.size w w' := by
  have en : n = n / 18446744073709551616 * 18446744073709551616 + n % 18446744073709551616 := by omega
  obtain ⟨lo, hlo⟩ : ∃ lo, IntKind.i64.wrap (n % 18446744073709551616) = lo := ⟨_, rfl⟩
  have hl : lo = if n % 18446744073709551616 < 9223372036854775808 then n % 18446744073709551616 else n % 18446744073709551616 - 18446744073709551616 := by
    rw [← hlo, IntKind.wrap_i64]
    split <;> omega
  have h64 : R64 lo := by rw [← hlo]; exact wrap_R64 _
  have ho : sumR n = if (!(decide (n / 18446744073709551616 = lo / 18446744073709551616) && decide (n % 18446744073709551616 = lo % 18446744073709551616))) = true then (0, 2) else (lo, 0) := by
    unfold sumR overB
    by_cases h1 : -9223372036854775808 ≤ n ∧ n ≤ 9223372036854775807
    · rw [decide_eq_true h1.1, decide_eq_true h1.2]
      have : n = lo := by split at hl <;> omega
      subst this
      simp
    · rw [if_pos (by rw [Bool.not_eq_true', Bool.and_eq_false_iff, decide_eq_false_iff_not, decide_eq_false_iff_not]; omega), if_pos]
      rw [Bool.not_eq_true', Bool.and_eq_false_iff, decide_eq_false_iff_not, decide_eq_false_iff_not]
      unfold R64 at h64
      split at hl <;> omega
  have HO := Lib.hid ho
  have hC := Lib.hid fun W => of_c lo W h64
  have hN := fun W => neq_wd (n / 18446744073709551616) (n % 18446744073709551616) (lo / 18446744073709551616) (lo % 18446744073709551616) W
  unfold wdV at hC ⊢
  generalize (!(decide (n / 18446744073709551616 = lo / 18446744073709551616) && decide (n % 18446744073709551616 = lo % 18446744073709551616))) = t at *
  generalize sumR n = R at *
  generalize n / 18446744073709551616 = a at *
  generalize n % 18446744073709551616 = b at *
  generalize lo / 18446744073709551616 = c at *
  generalize lo % 18446744073709551616 = d at *
  clear en hl h64 ho
  have hb := (Below.refl w.heap.size w).alloc (Nat.le_refl _) (.cells #[i64 a, .int .u64 b] 121)
  have hg := heap_alloc_new w (.cells #[i64 a, .int .u64 b] 121)
  have k0 := cell_of_row _ w.heap.size 0 _ _ (0, 0) hg
  have k1 := cell_of_row _ w.heap.size 1 _ _ (0, 0) hg
  simp only [List.getElem?_toArray, List.getElem?_cons_zero, List.getElem?_cons_succ] at k0 k1
  have hz : w.heap.size < (w.alloc (.cells #[i64 a, .int .u64 b] 121)).heap.size := by simp
  go_enter Tryz.func76, Tryz.ntmps76
  go_wp2_with fail
  generalize w.alloc (.cells #[i64 a, .int .u64 b] 121) = w0 at *
  have hS : ∀ W, Below w0.heap.size w0 W → Below w0.heap.size w0 W ∧ W.cell? ⟨w.heap.size, 0, none⟩ = some (i64 a) ∧ W.cell? ⟨w.heap.size, 1, none⟩ = some (.int .u64 b) := fun W h => ⟨h, (h.cell (p := ⟨w.heap.size, 0, none⟩) hz).trans k0, (h.cell (p := ⟨w.heap.size, 1, none⟩) hz).trans k1⟩
  have h0 := (Below.refl w0.heap.size w0).drew
  clear k0 k1 hg
  go_region_held3 (fun W => Below w0.heap.size w0 W ∧ W.cell? ⟨w.heap.size, 0, none⟩ = some (i64 a) ∧ W.cell? ⟨w.heap.size, 1, none⟩ = some (.int .u64 b)) (first | exact hS _ h0 | (go_split_ands; exact hS _ (below_on (by assumption) (Nat.le_refl _) hbX)))
    (first | (go_at_call 78; with_reducible refine (hC.out _).mono ?_; rintro e w' ⟨rfl, hbX⟩))
  rename_i hh
  have hb2 := below_on hb (Nat.le_refl _) hh.1
  have c1 := hh.2.2
  clear hh hS h0 hb hz
  cases t with
  | true =>
    have HR := Lib.hid (show R = (0, 2) by rw [HO.out]; rfl)
    clear HO
    go_wp2
    go_ret2
    exact ⟨by rw [HR.out]; rfl, hb2⟩
  | false =>
    have HR := Lib.hid (show R = (lo, 0) by rw [HO.out]; rfl)
    clear HO
    go_wp2
    go_ret2
    exact ⟨by rw [HR.out]; rfl, hb2⟩
set_option maxRecDepth 100000 in
set_option maxHeartbeats 4000000 in
theorem rless_c (a b : Int) (w : World) (ha : R64 a) (hb : R64 b) : Calls Tryz.prog 54 #[i64 a, i64 b] w fun e w' => e = .returned (.tuple #[i64 (sumR (a - b)).1, i64 (sumR (a - b)).2]) ∧ Below w.heap.size w w' := by
  have k1 := Lib.hid fun W => of_c a W ha
  have k2 := Lib.hid fun W => of_c b W hb
  have k3 := Lib.hid fun W => minus_c b W (.of64 hb)
  have k4 := Lib.hid fun W => plus_c a (-b) W (.of64 ha) (by unfold R64 at hb; unfold RW; omega)
  have k5 := Lib.hid fun W => rsum_c (a + -b) W
  rw [show a + -b = a - b by omega] at k4 k5
  generalize wdV a = A at *
  generalize wdV b = B at *
  generalize wdV (-b) = C at *
  generalize wdV (a - b) = D at *
  generalize sumR (a - b) = R at *
  clear ha hb
  go_enter Tryz.func54, Tryz.ntmps54
  go_wp2_with fail
  refine (k1.out _).mono ?_
  rintro e w1 ⟨rfl, h1⟩
  go_wp2_with fail
  refine (k2.out _).mono ?_
  rintro e w2 ⟨rfl, h2⟩
  have h2 := below_on h1 (Nat.le_refl _) h2
  go_wp2_with fail
  refine (k3.out _).mono ?_
  rintro e w3 ⟨rfl, h3⟩
  have h3 := below_on h2 (Nat.le_refl _) h3
  go_wp2_with fail
  refine (k4.out _).mono ?_
  rintro e w4 ⟨rfl, h4⟩
  have h4 := below_on h3 (Nat.le_refl _) h4
  go_wp2_with fail
  refine (k5.out _).mono ?_
  rintro e w5 ⟨rfl, h5⟩
  have h5 := below_on h4 (Nat.le_refl _) h5
  go_wp2
  go_ret2
  exact ⟨rfl, h5⟩
end Go.Proofs.YthmgchohbdlonaaGreat
