/- Texts of this claim, laid together: Rf01, Rf01B, Rf05. -/
import Derived.Test.YtmljlkjomjflpaaGreatRows
import Derived.Test.YtmljlkjomjflpaaGreatHp2
import Derived.Test.YtmljlkjomjflpaaGreatHp3
import Derived.Test.YtmljlkjomjflpaaGreatHp8
import Derived.Deep.RegionHeld3
import Derived.WalkKit
import Derived.WalkSpells
import Derived.WalkLawsBesides
import Derived.Deep.QuietTactic
import Derived.BigQuiet
import Derived.Laws.StructEq
import Derived.Deep.DeepFit
import Derived.StillTailTactics
import Derived.Deep.Cut
import Derived.Deep.RegionWith
import Derived.Test.YtmljlkjomjflpaaGreatHp6

/- ref01: sums in two halves -/
namespace Go.Proofs.YtmljlkjomjflpaaGreat
open Go.RowKit
/-- countinghouseref01.Wide: a number in two halves -/
abbrev wdV (n : Int) : Value := .agg #[i64 (n / 18446744073709551616), .int .u64 (n % 18446744073709551616)]
/-- small enough -/
def RW (n : Int) : Prop := -1208925819614629174706176 ≤ n ∧ n ≤ 1208925819614629174706176
theorem RW.hi {n : Int} (h : RW n) : -65536 ≤ n / 18446744073709551616 ∧ n / 18446744073709551616 ≤ 65536 := by unfold RW at h; omega
theorem RW.of64 {n : Int} (h : R64 n) : RW n := by unfold R64 at h; unfold RW; omega
set_option maxRecDepth 100000 in
set_option maxHeartbeats 2000000 in
theorem of_c (a : Int) (w : World) (ha : R64 a) : Calls Tryz.prog 135 #[i64 a] w fun e w' => e = .returned (wdV a) ∧ Below w.heap.size w w' := by
  obtain ⟨h1, h2⟩ := ha
  have hu : IntKind.u64.wrap a = a % 18446744073709551616 := by rw [IntKind.wrap_u64]
  have hb := fun o p => ((Below.refl w.heap.size w).alloc (Nat.le_refl _) o).alloc (by simp) p
  by_cases hn : a < 0
  · have g : decide (a < 0) = true := decide_eq_true hn
    have hq : a / 18446744073709551616 = -1 := by omega
    unfold wdV
    rw [hq]
    generalize a % 18446744073709551616 = lo at *
    clear hq h1 h2 hn
    go_enter Tryz.func135, Tryz.ntmps135
    go_wp2
    exact bodyPost_ret (results_cell_row rfl _ _ w.heap.size 175 _ (0, 0) _ rfl (heap_alloc2_old w _ _) Tryz.underlying175 rfl (by kernel_rfl)) rfl ⟨rfl, hb _ _⟩
  · have g : decide (a < 0) = false := decide_eq_false hn
    have hq : a / 18446744073709551616 = 0 := by omega
    unfold wdV
    rw [hq]
    generalize a % 18446744073709551616 = lo at *
    clear hq h1 h2 hn
    go_enter Tryz.func135, Tryz.ntmps135
    go_wp2
    exact bodyPost_ret (results_cell_row rfl _ _ w.heap.size 175 _ (0, 0) _ rfl (heap_alloc2_old w _ _) Tryz.underlying175 rfl (by kernel_rfl)) rfl ⟨rfl, hb _ _⟩
theorem wdV_of {n h l : Int} (h0 : 0 ≤ l) (h1 : l < 18446744073709551616) (h2 : n = h * 18446744073709551616 + l) : wdV n = .agg #[i64 h, .int .u64 l] := by
  have e1 : n / 18446744073709551616 = h := by omega
  have e2 : n % 18446744073709551616 = l := by omega
  unfold wdV
  rw [e1, e2]
theorem heap_alloc3_b (w : World) (o p q : Obj) : (((w.alloc o).alloc p).alloc q).heap[w.heap.size + 1]? = some p := by
  have := heap_alloc2_old (w.alloc o) p q
  simpa using this
theorem heap_alloc4_c (w : World) (o p q r : Obj) : ((((w.alloc o).alloc p).alloc q).alloc r).heap[w.heap.size + 1 + 1]? = some q := by
  have := heap_alloc2_old ((w.alloc o).alloc p) q r
  simpa using this
set_option maxRecDepth 100000 in
set_option maxHeartbeats 4000000 in
theorem plus_c (m n : Int) (w : World) (hm : RW m) (hn : RW n) : Calls Tryz.prog 134 #[wdV m, wdV n] w fun e w' => e = .returned (wdV (m + n)) ∧ Below w.heap.size w w' := by
  have hm' := hm.hi
  have hn' := hn.hi
  have hV : ∃ V, wdV (m + n) = V := ⟨_, rfl⟩
  obtain ⟨V, hV⟩ := hV
  rw [hV]
  have dm : 0 ≤ m % 18446744073709551616 ∧ m % 18446744073709551616 < 18446744073709551616 := by omega
  have dn : 0 ≤ n % 18446744073709551616 ∧ n % 18446744073709551616 < 18446744073709551616 := by omega
  have em : m = m / 18446744073709551616 * 18446744073709551616 + m % 18446744073709551616 := by omega
  have en : n = n / 18446744073709551616 * 18446744073709551616 + n % 18446744073709551616 := by omega
  unfold wdV
  generalize m / 18446744073709551616 = a at *
  generalize m % 18446744073709551616 = b at *
  generalize n / 18446744073709551616 = c at *
  generalize n % 18446744073709551616 = d at *
  have e1 : IntKind.i64.wrap (a + c) = a + c := by rw [IntKind.wrap_i64]; omega
  have e2 : IntKind.i64.wrap (a + c + 1) = a + c + 1 := by rw [IntKind.wrap_i64]; omega
  have hb := fun o p q r => ((((Below.refl w.heap.size w).alloc (Nat.le_refl _) o).alloc (by simp) p).alloc (by simp; omega) q).alloc (by simp; omega) r
  have h4 := heap_alloc4_c w
  by_cases ho : b + d < 18446744073709551616
  · have hu : IntKind.u64.wrap (b + d) = b + d := by rw [IntKind.wrap_u64]; omega
    have g : decide (b + d < b) = false := decide_eq_false (by omega)
    have HV := Lib.hid (hV.symm.trans (wdV_of (n := m + n) (h := a + c) (l := b + d) (by omega) ho (by omega)))
    clear hV em en ho dm dn hm' hn' hm hn e2
    go_enter Tryz.func134, Tryz.ntmps134
    go_wp2
    refine bodyPost_ret (results_cell_row rfl _ _ _ 175 _ (0, 0) _ rfl (h4 _ _ _ _) Tryz.underlying175 rfl (by kernel_rfl)) rfl ⟨by rw [HV.out], hb _ _ _ _⟩
  · have hu : IntKind.u64.wrap (b + d) = b + d - 18446744073709551616 := by rw [IntKind.wrap_u64]; omega
    have g : decide (b + d - 18446744073709551616 < b) = true := decide_eq_true (by omega)
    have HV := Lib.hid (hV.symm.trans (wdV_of (n := m + n) (h := a + c + 1) (l := b + d - 18446744073709551616) (by omega) (by omega) (by omega)))
    clear hV em en ho dm dn hm' hn' hm hn
    go_enter Tryz.func134, Tryz.ntmps134
    go_wp2
    refine bodyPost_ret (results_cell_row rfl _ _ _ 175 _ (0, 0) _ rfl (h4 _ _ _ _) Tryz.underlying175 rfl (by kernel_rfl)) rfl ⟨by rw [HV.out], hb _ _ _ _⟩
set_option maxRecDepth 100000 in
set_option maxHeartbeats 4000000 in
theorem minus_c (m : Int) (w : World) (hm : RW m) : Calls Tryz.prog 136 #[wdV m] w fun e w' => e = .returned (wdV (-m)) ∧ Below w.heap.size w w' := by
  have hm' := hm.hi
  have hV : ∃ V, wdV (-m) = V := ⟨_, rfl⟩
  obtain ⟨V, hV⟩ := hV
  rw [hV]
  have dm : 0 ≤ m % 18446744073709551616 ∧ m % 18446744073709551616 < 18446744073709551616 := by omega
  have em : m = m / 18446744073709551616 * 18446744073709551616 + m % 18446744073709551616 := by omega
  unfold wdV
  generalize m / 18446744073709551616 = a at *
  generalize m % 18446744073709551616 = b at *
  have e1 : IntKind.i64.wrap (-a) = -a := by rw [IntKind.wrap_i64]; omega
  have e2 : IntKind.i64.wrap (-a - 1) = -a - 1 := by rw [IntKind.wrap_i64]; omega
  have hb := fun o p q => (((Below.refl w.heap.size w).alloc (Nat.le_refl _) o).alloc (by simp) p).alloc (by simp; omega) q
  have h4 := heap_alloc3_b w
  by_cases ho : b = 0
  · have hu : IntKind.u64.wrap (-b) = 0 := by rw [IntKind.wrap_u64]; omega
    have g : (b != 0) = false := by rw [ho]; rfl
    have HV := Lib.hid (hV.symm.trans (wdV_of (n := -m) (h := -a) (l := 0) (by omega) (by omega) (by omega)))
    clear hV em ho dm hm' hm e2
    go_enter Tryz.func136, Tryz.ntmps136
    go_wp2
    refine bodyPost_ret (results_cell_row rfl _ _ _ 175 _ (0, 0) _ rfl (h4 _ _ _) Tryz.underlying175 rfl (by kernel_rfl)) rfl ⟨by rw [HV.out], hb _ _ _⟩
  · have hu : IntKind.u64.wrap (-b) = 18446744073709551616 - b := by rw [IntKind.wrap_u64]; omega
    have g : (b != 0) = true := by simpa using ho
    have HV := Lib.hid (hV.symm.trans (wdV_of (n := -m) (h := -a - 1) (l := 18446744073709551616 - b) (by omega) (by omega) (by omega)))
    clear hV em ho dm hm' hm
    go_enter Tryz.func136, Tryz.ntmps136
    go_wp2
    refine bodyPost_ret (results_cell_row rfl _ _ _ 175 _ (0, 0) _ rfl (h4 _ _ _) Tryz.underlying175 rfl (by kernel_rfl)) rfl ⟨by rw [HV.out], hb _ _ _⟩
theorem neq_wd (a b c d : Int) (w : World) : (binOp .neq 175 (.agg #[i64 a, .int .u64 b]) (.agg #[i64 c, .int .u64 d])).run Tryz.prog w = .ok (.bool (!(decide (a = c) && decide (b = d)))) w := by
  have u3 := Tryz.underlying2
  have a3 := Tryz.isAgg2
  have z3 := Tryz.sizeOf2
  have u4 := Tryz.underlying173
  have a4 := Tryz.isAgg173
  have z4 := Tryz.sizeOf173
  have hS : Tryz.prog.underlying 175 = some (.struct (Tryz.prog.fieldsOf 175)) := by kernel_rfl
  have hp : Tryz.prog.stoodInHeld 175 = false := by kernel_rfl
  rw [run_neq_struct, show (10000 : Nat) = 9999 + 1 from rfl, run_equalIn_agg w 9999 175 _ _ hS hp]
  simp only [Program.fieldsOf, Tryz.underlying175]
  go_simp
  by_cases h1 : a = c <;> by_cases h2 : b = d <;> simp [h1, h2]
set_option maxRecDepth 100000 in
set_option maxHeartbeats 4000000 in
theorem rsum_c (n : Int) (w : World) : Calls Tryz.prog 133 #[wdV n] w fun e w' => e = .returned (.tuple #[i64 (sumR n).1, i64 (sumR n).2]) ∧ Below w.heap.size w w' := by
  have en : n = n / 18446744073709551616 * 18446744073709551616 + n % 18446744073709551616 := by omega
  obtain ⟨lo, hlo⟩ : ∃ lo, IntKind.i64.wrap (n % 18446744073709551616) = lo := ⟨_, rfl⟩
  have hl : lo = if n % 18446744073709551616 < 9223372036854775808 then n % 18446744073709551616 else n % 18446744073709551616 - 18446744073709551616 := by
    rw [← hlo, IntKind.wrap_i64]
    split <;> omega
  have h64 : R64 lo := by rw [← hlo]; exact wrap_R64 _
  have ho : sumR n = if (!(decide (n / 18446744073709551616 = lo / 18446744073709551616) && decide (n % 18446744073709551616 = lo % 18446744073709551616))) = true then (0, 2) else (lo, 0) := by
    unfold sumR overB
    by_cases h1 : -9223372036854775808 ≤ n ∧ n ≤ 9223372036854775807
    · rw [decide_eq_true h1.1, decide_eq_true h1.2]
      have : n = lo := by split at hl <;> omega
      subst this
      simp
    · rw [if_pos (by rw [Bool.not_eq_true', Bool.and_eq_false_iff, decide_eq_false_iff_not, decide_eq_false_iff_not]; omega), if_pos]
      rw [Bool.not_eq_true', Bool.and_eq_false_iff, decide_eq_false_iff_not, decide_eq_false_iff_not]
      unfold R64 at h64
      split at hl <;> omega
  have HO := Lib.hid ho
  have hC := Lib.hid fun W => of_c lo W h64
  have hN := fun W => neq_wd (n / 18446744073709551616) (n % 18446744073709551616) (lo / 18446744073709551616) (lo % 18446744073709551616) W
  unfold wdV at hC ⊢
  generalize (!(decide (n / 18446744073709551616 = lo / 18446744073709551616) && decide (n % 18446744073709551616 = lo % 18446744073709551616))) = t at *
  generalize sumR n = R at *
  generalize n / 18446744073709551616 = a at *
  generalize n % 18446744073709551616 = b at *
  generalize lo / 18446744073709551616 = c at *
  generalize lo % 18446744073709551616 = d at *
  clear en hl h64 ho
  have hb := (Below.refl w.heap.size w).alloc (Nat.le_refl _) (.cells #[i64 a, .int .u64 b] 175)
  have hg := heap_alloc_new w (.cells #[i64 a, .int .u64 b] 175)
  have k0 := cell_of_row _ w.heap.size 0 _ _ (0, 0) hg
  have k1 := cell_of_row _ w.heap.size 1 _ _ (0, 0) hg
  simp only [List.getElem?_toArray, List.getElem?_cons_zero, List.getElem?_cons_succ] at k0 k1
  have hz : w.heap.size < (w.alloc (.cells #[i64 a, .int .u64 b] 175)).heap.size := by simp
  go_enter Tryz.func133, Tryz.ntmps133
  go_wp2_with fail
  generalize w.alloc (.cells #[i64 a, .int .u64 b] 175) = w0 at *
  have hS : ∀ W, Below w0.heap.size w0 W → Below w0.heap.size w0 W ∧ W.cell? ⟨w.heap.size, 0, none⟩ = some (i64 a) ∧ W.cell? ⟨w.heap.size, 1, none⟩ = some (.int .u64 b) := fun W h => ⟨h, (h.cell (p := ⟨w.heap.size, 0, none⟩) hz).trans k0, (h.cell (p := ⟨w.heap.size, 1, none⟩) hz).trans k1⟩
  have h0 := (Below.refl w0.heap.size w0).drew
  clear k0 k1 hg
  go_region_held3 (fun W => Below w0.heap.size w0 W ∧ W.cell? ⟨w.heap.size, 0, none⟩ = some (i64 a) ∧ W.cell? ⟨w.heap.size, 1, none⟩ = some (.int .u64 b)) (first | exact hS _ h0 | (go_split_ands; exact hS _ (below_on (by assumption) (Nat.le_refl _) hbX)))
    (first | (go_at_call 135; with_reducible refine (hC.out _).mono ?_; rintro e w' ⟨rfl, hbX⟩))
  rename_i hh
  have hb2 := below_on hb (Nat.le_refl _) hh.1
  have c1 := hh.2.2
  clear hh hS h0 hb hz
  cases t with
  | true =>
    have HR := Lib.hid (show R = (0, 2) by rw [HO.out]; rfl)
    clear HO
    go_wp2
    go_ret2
    exact ⟨by rw [HR.out]; rfl, hb2⟩
  | false =>
    have HR := Lib.hid (show R = (lo, 0) by rw [HO.out]; rfl)
    clear HO
    go_wp2
    go_ret2
    exact ⟨by rw [HR.out]; rfl, hb2⟩
set_option maxRecDepth 100000 in
set_option maxHeartbeats 4000000 in
theorem rless_c (a b : Int) (w : World) (ha : R64 a) (hb : R64 b) : Calls Tryz.prog 94 #[i64 a, i64 b] w fun e w' => e = .returned (.tuple #[i64 (sumR (a - b)).1, i64 (sumR (a - b)).2]) ∧ Below w.heap.size w w' := by
  have k1 := Lib.hid fun W => of_c a W ha
  have k2 := Lib.hid fun W => of_c b W hb
  have k3 := Lib.hid fun W => minus_c b W (.of64 hb)
  have k4 := Lib.hid fun W => plus_c a (-b) W (.of64 ha) (by unfold R64 at hb; unfold RW; omega)
  have k5 := Lib.hid fun W => rsum_c (a + -b) W
  rw [show a + -b = a - b by omega] at k4 k5
  generalize wdV a = A at *
  generalize wdV b = B at *
  generalize wdV (-b) = C at *
  generalize wdV (a - b) = D at *
  generalize sumR (a - b) = R at *
  clear ha hb
  go_enter Tryz.func94, Tryz.ntmps94
  go_wp2_with fail
  refine (k1.out _).mono ?_
  rintro e w1 ⟨rfl, h1⟩
  go_wp2_with fail
  refine (k2.out _).mono ?_
  rintro e w2 ⟨rfl, h2⟩
  have h2 := below_on h1 (Nat.le_refl _) h2
  go_wp2_with fail
  refine (k3.out _).mono ?_
  rintro e w3 ⟨rfl, h3⟩
  have h3 := below_on h2 (Nat.le_refl _) h3
  go_wp2_with fail
  refine (k4.out _).mono ?_
  rintro e w4 ⟨rfl, h4⟩
  have h4 := below_on h3 (Nat.le_refl _) h4
  go_wp2_with fail
  refine (k5.out _).mono ?_
  rintro e w5 ⟨rfl, h5⟩
  have h5 := below_on h4 (Nat.le_refl _) h5
  go_wp2
  go_ret2
  exact ⟨rfl, h5⟩
end Go.Proofs.YtmljlkjomjflpaaGreat

/- ref01.Total -/
namespace Go.Proofs.YtmljlkjomjflpaaGreat
open Go.RowKit
theorem set2_row {w : World} {g : Nat} {a b : Value} {t : TypeId} (h : w.heap[g]? = some (.cells #[a, b] t (0, 0))) (x y : Value) : ((w.setCell ⟨g, 0, none⟩ x).setCell ⟨g, 1, none⟩ y).heap[g]? = some (.cells #[x, y] t (0, 0)) := by
  have h1 := heap_setCell_same w g 0 _ _ x h
  have h2 := heap_setCell_same _ g 1 _ _ y h1
  simpa using h2
set_option maxRecDepth 100000 in
set_option maxHeartbeats 4000000 in
theorem rtotal_c (A : Option Addr) (c : Nat) (l : List Int) (w : World) (h : Sl w w.heap.size A c l) (hl : l.length ≤ 1000) (hr : ∀ a ∈ l, R64 a) :
    Calls Tryz.prog 137 #[.slice A l.length c] w fun e w' => e = .returned (.tuple #[i64 (sumR (sumL l)).1, i64 (sumR (sumL l)).2]) ∧ Below w.heap.size w w' := by
  have hb0 := (Below.refl w.heap.size w).alloc (Nat.le_refl _) (.cells #[i64 0, .int .u64 0] 175)
  have hg0 := heap_alloc_new w (.cells #[i64 0, .int .u64 0] 175)
  have hin : ∀ k, RW (sumL (l.take k)) := fun k => by
    have h1 := sumL_in (l.take k) fun a h => hr a (List.mem_of_mem_take h)
    have h2 : (l.take k).length ≤ 1000 := Nat.le_trans (List.length_take_le' ..) hl
    unfold RW
    omega
  have hS := Lib.hid fun W => rsum_c (sumL l) W
  generalize hR : sumR (sumL l) = R at *
  clear hR
  go_enter Tryz.func137, Tryz.ntmps137
  go_wp2_with fail
  go_loopw [5] (fun i wr => ∃ k : Nat, i = i64 k ∧ k ≤ l.length ∧ wr.heap[w.heap.size]? = some (.cells #[i64 (sumL (l.take k) / 18446744073709551616), .int .u64 (sumL (l.take k) % 18446744073709551616)] 175 (0, 0)) ∧ Below w.heap.size w wr) (fun i _ => l.length - (intOf i).toNat)
  case atStart => exact ⟨0, rfl, by omega, hg0, hb0⟩
  case round =>
    obtain ⟨k, rfl, hk, hg, hB⟩ := hrel
    by_cases hlt : k < l.length
    · have ha := hr l[k] (List.getElem_mem hlt)
      obtain ⟨b, o, rfl, hbb, -, hc⟩ := (h.later hB).at_ hlt
      have d0 := hc 0 _ rfl
      rw [show k * Enc.size Int + 0 = k from Nat.mul_one k] at d0
      have k1 := Lib.hid fun W => of_c l[k] W ha
      have k2 := Lib.hid fun W => plus_c (sumL (l.take k)) l[k] W (hin k) (.of64 ha)
      rw [← sumL_take hlt] at k2
      have i0 : (0 : Int) ≤ (k : Int) := by omega
      have i1 : (k : Int) < (l.length : Int) := by omega
      have m0 := cell_of_row _ w.heap.size 0 _ _ (0, 0) hg
      have m1 := cell_of_row _ w.heap.size 1 _ _ (0, 0) hg
      simp only [List.getElem?_toArray, List.getElem?_cons_zero, List.getElem?_cons_succ] at m0 m1
      have hlg : w.heap.size < wr.heap.size := (Array.getElem?_eq_some_iff.1 hg).1
      have hlc : l.length ≤ c := h.1
      unfold wdV at k2
      have h0 := (Below.refl wr.heap.size wr).drew
      have hB' := hB
      clear hc hin hS hb0 hg0 h
      generalize sumL (l.take k) / 18446744073709551616 = p0 at *
      generalize sumL (l.take k) % 18446744073709551616 = p1 at *
      obtain ⟨q0, e0⟩ : ∃ q, sumL (l.take (k + 1)) / 18446744073709551616 = q := ⟨_, rfl⟩
      obtain ⟨q1, e1⟩ : ∃ q, sumL (l.take (k + 1)) % 18446744073709551616 = q := ⟨_, rfl⟩
      rw [e0, e1] at k2
      have E0 := Lib.hid e0
      have E1 := Lib.hid e1
      clear e0 e1
      go_wp2_with fail
      go_region_with (first
          | (go_at_call 135; with_reducible refine (k1.out _).mono ?_; rintro e u1 ⟨rfl, hF1⟩; have hb1 := below_on h0 (Nat.le_refl _) hF1; have n0 := (hb1.cell (p := ⟨w.heap.size, 0, none⟩) hlg).trans m0; have n1 := (hb1.cell (p := ⟨w.heap.size, 1, none⟩) hlg).trans m1; have hg1 := (hb1.block _ hlg).trans hg; clear hF1)
          | (go_at_call 134; with_reducible refine (k2.out _).mono ?_; rintro e u2 ⟨rfl, hF2⟩; have hb2 := below_on hb1 (Nat.le_refl _) hF2; have hg2 := (hb2.block _ hlg).trans hg; have f0 := frozen_of_row _ w.heap.size 0 _ _ hg2; have f1 := frozen_of_row _ w.heap.size 1 _ _ hg2; have hl2 : w.heap.size < u2.heap.size := Nat.lt_of_lt_of_le hlg hb2.size; clear hF2 n0 n1; have n0 := (hb2.cell (p := ⟨w.heap.size, 0, none⟩) hlg).trans m0; have n1 := (hb2.cell (p := ⟨w.heap.size, 1, none⟩) hlg).trans m1))
      all_goals (
        go_wp2
        go_roundw
        case rel => exact ⟨k + 1, by go_num, by omega, by rw [E0.out, E1.out]; exact set2_row hg2 _ _, ((below_on hB (Nat.le_refl _) hb2).setCell (p := ⟨w.heap.size, 0, none⟩) (Nat.le_refl _) _).setCell (p := ⟨w.heap.size, 1, none⟩) (Nat.le_refl _) _⟩
        case measure => simp [intOf]; omega)
    · obtain rfl : k = l.length := by omega
      rw [List.take_length] at hg
      have m0 := cell_of_row _ w.heap.size 0 _ _ (0, 0) hg
      have m1 := cell_of_row _ w.heap.size 1 _ _ (0, 0) hg
      simp only [List.getElem?_toArray, List.getElem?_cons_zero, List.getElem?_cons_succ] at m0 m1
      unfold wdV at hS
      clear hg hin
      go_wp2_with fail
      refine (hS.out _).mono ?_
      rintro e w1 ⟨rfl, h1⟩
      go_wp2
      go_ret2
      exact ⟨rfl, below_on hB (Nat.le_refl _) h1⟩
end Go.Proofs.YtmljlkjomjflpaaGreat

/- ref05.At, Free, Get -/
namespace Go.Proofs.YtmljlkjomjflpaaGreat
open Go.RowKit
/-- a slice's address, as the model makes them -/
def FormA (A : Option Addr) (c : Nat) : Prop := (A = none ∧ c = 0) ∨ ∃ b o, A = some ⟨b, o, none⟩
/-- block g holds a reference's chart: the accounts L; they lie in blocks of T -/
def RcIs (w : World) (T : Nat → Prop) (g : Nat) (L : List Ac) : Prop := ∃ A c, w.heap[g]? = some (.cells #[.slice A L.length c] 49 (0, 0)) ∧ SlS w (fun k => k < w.heap.size ∧ T k) A c L ∧ FormA A c
theorem RcIs.kept {w w' : World} {T S : Nat → Prop} {g : Nat} {L : List Ac} (h : RcIs w T g L) (hk : Gr w w' S) (h1 : ¬ S g) (h2 : ∀ k, T k → ¬ S k) : RcIs w' T g L := by
  obtain ⟨A, c, hc, hs, hf⟩ := h
  refine ⟨A, c, (hk.block g (Array.getElem?_eq_some_iff.1 hc).1 h1).trans hc, (hs.grs hk fun b hb => ⟨hb.1, h2 b hb.2⟩).mono fun b hb => ⟨Nat.lt_of_lt_of_le hb.1 hk.size, hb.2⟩, hf⟩
theorem RcIs.later {w w' : World} {T : Nat → Prop} {g : Nat} {L : List Ac} (h : RcIs w T g L) (hb : Below w.heap.size w w') : RcIs w' T g L := h.kept (Gr.of_below hb (fun _ => False)) id (fun _ _ => id)
theorem RcIs.lt {w : World} {T : Nat → Prop} {g : Nat} {L : List Ac} (h : RcIs w T g L) : g < w.heap.size := by
  obtain ⟨A, c, hc, hs, hf⟩ := h
  exact (Array.getElem?_eq_some_iff.1 hc).1
abbrev idxA (L : List Ac) (k : ByteArray) : Int := idxP (fun a => decide (a.name = k)) L
theorem idxA_get {L : List Ac} {k : ByteArray} : (idxA L k < 0 ∧ getK Ac.name L k = none) ∨ ∃ (n : Nat) (h : n < L.length), idxA L k = n ∧ getK Ac.name L k = some L[n] ∧ L[n].name = k := by
  unfold idxA idxP getK
  rw [List.find?_eq_bind_findIdx?_getElem?]
  cases h : L.findIdx? fun a => decide (a.name = k) with
  | none => exact .inl ⟨by decide, rfl⟩
  | some n =>
    obtain ⟨h1, h2, _⟩ := List.findIdx?_eq_some_iff_getElem.1 h
    exact .inr ⟨n, h1, rfl, by simp [List.getElem?_eq_getElem h1], by simpa using h2⟩
theorem SlS.ac {w : World} {S : Nat → Prop} {c : Nat} {A : Option Addr} {l : List Ac} (h : SlS w S A c l) {k : Nat} (hk : k < l.length) : ∃ b o, A = some ⟨b, o, none⟩ ∧ S b ∧ l[k].name.size ≤ maxLen ∧
    w.cell? ⟨b, o + k * 4, none⟩ = some (.string l[k].name) ∧ w.cell? ⟨b, o + k * 4 + 1, none⟩ = some (i64 l[k].hav) ∧ w.cell? ⟨b, o + k * 4 + 2, none⟩ = some (i64 l[k].set_) ∧ w.cell? ⟨b, o + k * 4 + 3, none⟩ = some (i64 l[k].lim) := by
  obtain ⟨b, o, hA, hb, hok, hc⟩ := h.at_ hk
  exact ⟨b, o, hA, hb, hok, hc 0 _ rfl, hc 1 _ rfl, hc 2 _ rfl, hc 3 _ rfl⟩
set_option maxRecDepth 100000 in
set_option maxHeartbeats 4000000 in
theorem rat_c (T : Nat → Prop) (g : Nat) (L : List Ac) (k : ByteArray) (w : World) (h : RcIs w T g L) (hL : L.length ≤ 65536) :
    Calls Tryz.prog 89 #[.pointer (some ⟨g, 0, none⟩), .string k] w fun e w' => e = .returned (i64 (idxA L k)) ∧ w = w' := by
  obtain ⟨A, c, hc, hs, hf⟩ := h
  have c0 := cell_of_row _ g 0 _ _ (0, 0) hc
  simp only [List.getElem?_toArray, List.getElem?_cons_zero] at c0
  clear hc hf
  go_enter Tryz.func89, Tryz.ntmps89
  go_wp2
  go_loop [5] (fun i => ∃ n : Nat, n ≤ L.length ∧ i = i64 n ∧ (∀ j (hj : j < L.length), j < n → L[j].name ≠ k)) (fun i => L.length - (intOf i).toNat)
  case atStart => exact ⟨0, Nat.zero_le _, rfl, by omega⟩
  case round =>
    obtain ⟨n, hn, rfl, hno⟩ := hrel
    by_cases hlt : n < L.length
    · obtain ⟨b, o, rfl, hb, _, d0, _⟩ := hs.ac hlt
      have Hno := Lib.hid hno
      clear hno hs
      have i0 : (0 : Int) ≤ (n : Int) := by omega
      have i1 : (n : Int) < (L.length : Int) := by omega
      have hg := fun (j : Nat) (hj : j < L.length) => Hno.out j hj
      clear hg
      by_cases heq : L[n].name = k
      · have e1 := beqS_of_eq heq
        have Heq := Lib.hid heq
        clear heq
        go_wp2
        go_ret
        exact ⟨by rw [show idxA L k = n from idxP_hit hlt (by simpa using Heq.out) (fun j hj h => by simpa using Hno.out j hj h)]; rfl, rfl⟩
      · have e1 := beqS_of_ne heq
        have Heq := Lib.hid heq
        clear heq
        go_wp2
        go_round
        case rel => exact ⟨n + 1, by omega, by go_num, fun j hj h => by
            rcases Nat.lt_succ_iff_lt_or_eq.1 h with h | rfl
            · exact Hno.out j hj h
            · exact Heq.out⟩
        case measure => simp [intOf]; omega
    · have hkl : n = L.length := by omega
      subst hkl
      go_wp2
      go_ret
      exact ⟨by rw [show idxA L k = -1 from idxP_miss (fun j hj => by simpa using hno j hj hj)]; rfl, rfl⟩
set_option maxRecDepth 100000 in
set_option maxHeartbeats 4000000 in
theorem rfree_c (a : Ac) (x : Int) (w : World) (ha : InA a) (h0 : 0 ≤ a.set_) (hx : R64 x) :
    Calls Tryz.prog 95 #[a.v, i64 x] w fun e w' => e = .returned (.bool (freeA a x)) ∧ Below w.heap.size w w' := by
  have hb0 := (Below.refl w.heap.size w).alloc (Nat.le_refl _) (.cells #[.string a.name, i64 a.hav, i64 a.set_, i64 a.lim] 70)
  have hg := heap_alloc_new w (.cells #[.string a.name, i64 a.hav, i64 a.set_, i64 a.lim] 70)
  have k3 := cell_of_row _ w.heap.size 3 _ _ (0, 0) hg
  simp only [List.getElem?_toArray, List.getElem?_cons_zero, List.getElem?_cons_succ] at k3
  have hz : w.heap.size < (w.alloc (.cells #[.string a.name, i64 a.hav, i64 a.set_, i64 a.lim] 70)).heap.size := by simp
  obtain ⟨h1, h2, h3, h4⟩ := ha
  unfold R64 at h2
  have hS := (own_lit (w := w.alloc (.cells #[.string a.name, i64 a.hav, i64 a.set_, i64 a.lim] 70)) (base := w.heap.size) 2 #[i64 a.hav, i64 (-a.set_)] [a.hav, -a.set_] (by simp) rfl (by simp) (fun _ _ => trivial)).sl_of
  have hb1 := hb0.alloc (by simp) (.cells #[i64 a.hav, i64 (-a.set_)] 2)
  have hz1 : w.heap.size < ((w.alloc (.cells #[.string a.name, i64 a.hav, i64 a.set_, i64 a.lim] 70)).alloc (.cells #[i64 a.hav, i64 (-a.set_)] 2)).heap.size := by simp; omega
  have k3' := (World.cell?_alloc_lt _ (.cells #[i64 a.hav, i64 (-a.set_)] 2) ⟨w.heap.size, 3, none⟩ hz).trans k3
  rw [show (w.alloc (.cells #[.string a.name, i64 a.hav, i64 a.set_, i64 a.lim] 70)).heap.size = w.heap.size + 1 by simp] at hS
  have L1 : Calls Tryz.prog 137 #[.slice (some ⟨w.heap.size + 1, 0, none⟩) 2 2] _ _ := (rtotal_c _ _ [a.hav, -a.set_] _ hS (by simp) (by
    intro y hy
    simp only [List.mem_cons, List.not_mem_nil, or_false] at hy
    rcases hy with rfl | rfl
    · exact h1
    · unfold R64; omega))
  have L1 := Lib.hid L1
  simp only [show sumL [a.hav, -a.set_] = a.hav - a.set_ by simp only [sumL]; omega] at L1
  have L2 := Lib.hid fun W => rless_c (sumR (a.hav - a.set_)).1 x W (sumR_R64 _) hx
  have hw : wrap64 (-a.lim) = -a.lim := by rw [← IntWalk.i64_left, IntKind.wrap_i64]; omega
  have hw2 : wrap64 (-a.set_) = -a.set_ := by rw [← IntWalk.i64_left, IntKind.wrap_i64]; omega
  have HD := Lib.hid (show freeA a x = (decide ((sumR (a.hav - a.set_)).2 = 0) && (decide ((sumR ((sumR (a.hav - a.set_)).1 - x)).2 = 0) && decide (-a.lim ≤ (sumR ((sumR (a.hav - a.set_)).1 - x)).1))) from rfl)
  generalize freeA a x = F at *
  generalize sumR (a.hav - a.set_) = r1 at *
  generalize sumR (r1.1 - x) = r2 at *
  clear hg h1 h2 hS h0 k3 hz hb0
  go_enter Tryz.func95, Tryz.ntmps95
  go_wp2_with fail
  generalize (w.alloc (.cells #[.string a.name, i64 a.hav, i64 a.set_, i64 a.lim] 70)).alloc (.cells #[i64 a.hav, i64 (-a.set_)] 2) = w0 at *
  with_reducible refine L1.out.mono ?_
  rintro e w1 ⟨rfl, hF⟩
  have k3 := (hF.cell (p := ⟨w.heap.size, 3, none⟩) hz1).trans k3'
  have hb2 := below_on hb1 (Nat.le_refl _) hF
  have hz := Nat.lt_of_lt_of_le hz1 hF.size
  clear hF L1 hb1 hz1 k3'
  by_cases e1 : r1.2 = 0
  · have g1 : (r1.2 != 0) = false := by rw [e1]; rfl
    have E1 := Lib.hid (decide_eq_true e1)
    clear e1
    go_wp2_with fail
    refine (L2.out _).mono ?_
    rintro e w2 ⟨rfl, hF⟩
    have k3 := (hF.cell (p := ⟨w.heap.size, 3, none⟩) hz).trans k3
    have hb2 := below_on hb2 (Nat.le_refl _) hF
    clear hF L2
    by_cases e2 : r2.2 = 0
    · have g2 : (r2.2 == 0) = true := by rw [e2]; rfl
      have E2 := Lib.hid (decide_eq_true e2)
      clear e2
      by_cases e3 : -a.lim ≤ r2.1
      · have g3 : decide (-a.lim ≤ r2.1) = true := decide_eq_true e3
        have HF := Lib.hid (show F = true by rw [HD.out, E1.out, E2.out, g3]; rfl)
        clear e3
        go_wp2
        go_ret
        exact ⟨by rw [HF.out]; rfl, hb2⟩
      · have g3 : decide (-a.lim ≤ r2.1) = false := decide_eq_false e3
        have HF := Lib.hid (show F = false by rw [HD.out, E1.out, E2.out, g3]; rfl)
        clear e3
        go_wp2
        go_ret
        exact ⟨by rw [HF.out]; rfl, hb2⟩
    · have g2 : (r2.2 == 0) = false := beq_eq_false_iff_ne.2 e2
      have HF := Lib.hid (show F = false by rw [HD.out, E1.out, decide_eq_false e2]; rfl)
      clear e2
      go_wp2
      go_ret
      exact ⟨by rw [HF.out]; rfl, hb2⟩
  · have g1 : (r1.2 != 0) = true := by simpa using e1
    have HF := Lib.hid (show F = false by rw [HD.out, decide_eq_false e1]; rfl)
    clear e1
    go_wp2
    go_ret
    exact ⟨by rw [HF.out]; rfl, hb2⟩
section
variable {α : Type} [Enc α] {w : World} {base : Nat} {e : TypeId} {v : Value} {l : List α}
/-- a row of the call's own, as a slice in blocks of T -/
theorem Own.slT {T : Nat → Prop} (h : Own w base e v l) (hT : ∀ k, base ≤ k → T k) (hok : ∀ x ∈ l, Enc.ok w (fun k => k < w.heap.size ∧ T k) x) : ∃ A c, v = .slice A l.length c ∧ SlS w (fun k => k < w.heap.size ∧ T k) A c l ∧ FormA A c := by
  obtain ⟨A, c, rfl, hs⟩ := h.sl
  have hf : FormA A c := by
    rcases h.1.2 with ⟨h1, _⟩ | ⟨g, cap, cur, h1, _⟩
    · injection h1 with h1 h2 h3
      exact .inl ⟨h1, h3⟩
    · injection h1 with h1 h2 h3
      exact .inr ⟨_, _, h1⟩
  refine ⟨A, c, rfl, ⟨hs.1, hs.2.1, fun hn => ?_, hok⟩, hf⟩
  obtain ⟨b, o, rfl, hb, hc⟩ := hs.2.2.1 hn
  exact ⟨b, o, rfl, ⟨hb, hT b (h.1.lt b rfl).1⟩, hc⟩
/-- one cell of an element turned -/
theorem Own.set_cell {g n cap : Nat} (h : Own w base e (.slice (some ⟨g, 0, none⟩) n cap) l) {i : Nat} (hi : i < l.length) (j : Nat) (hj : j < Enc.size α) (u : Value) (x : α) (hx : Enc.cells x = (Enc.cells l[i]).set j u) (hok : Enc.ok w (Oth w (.slice (some ⟨g, 0, none⟩) n cap)) x) :
    Own (w.setCell ⟨g, i * Enc.size α + j, none⟩ u) base e (.slice (some ⟨g, 0, none⟩) n cap) (l.set i x) ∧ w.grownBy (w.setCell ⟨g, i * Enc.size α + j, none⟩ u) (some g) := by
  obtain ⟨cur, hg, hb, hn, hc, hm, hz, ht⟩ := h.cells
  have hgr := grown_setCell (World.grownBy.refl w (some g)) (p := ⟨g, i * Enc.size α + j, none⟩) (.inl rfl) u
  have hset := heap_setCell_same w g (i * Enc.size α + j) cur e u hg
  have hi2 : i * Enc.size α + Enc.size α ≤ n * Enc.size α := by rw [← Nat.succ_mul]; exact Nat.mul_le_mul_right _ (by omega)
  refine ⟨⟨⟨by rw [flat_len], .inr ⟨g, cap, _, by rw [List.length_set, ← hn], hb, hset, by rw [List.length_set]; omega, hm, by simp [hz], ?_⟩⟩, fun y hy => ?_⟩, hgr⟩
  · rw [List.length_set, ← hn, Array.toList_setIfInBounds, List.take_set, ht, flat_set l i x hi, hx]
    apply List.ext_getElem?
    intro t
    have hfl : (l.flatMap Enc.cells).length = l.length * Enc.size α := flat_len l
    rw [List.getElem?_set]
    have h1 : (List.take (i * Enc.size α) (l.flatMap Enc.cells)).length = i * Enc.size α := by rw [List.length_take, hfl, ← hn]; omega
    have h2 : ((Enc.cells l[i]).set j u).length = Enc.size α := by rw [List.length_set, Enc.len]
    rw [List.append_assoc]
    by_cases c1 : t < i * Enc.size α
    · rw [if_neg (by omega), List.getElem?_append_left (by omega), List.getElem?_take_of_lt c1]
    · rw [List.getElem?_append_right (by omega), h1]
      by_cases c2 : t < i * Enc.size α + Enc.size α
      · rw [List.getElem?_append_left (by omega), List.getElem?_set]
        have hfg := flat_get l i (t - i * Enc.size α) hi (by omega)
        rw [show i * Enc.size α + (t - i * Enc.size α) = t by omega] at hfg
        by_cases c3 : i * Enc.size α + j = t
        · rw [if_pos c3, if_pos (by rw [hfl, ← hn]; omega), if_pos (by omega), if_pos (by rw [Enc.len]; omega)]
        · rw [if_neg c3, if_neg (by omega), hfg]
      · rw [if_neg (by omega), List.getElem?_append_right (by omega), h2, List.getElem?_drop]
        congr 1
        rw [Nat.add_mul, Nat.one_mul]
        omega
  · rcases List.mem_or_eq_of_mem_set hy with hy | rfl
    · exact Enc.keep (h.2 y hy) (fun p hp => World.cell?_of_block (hgr.block _ hp.1 hp.2)) (fun b hb => ⟨Nat.lt_of_lt_of_le hb.1 hgr.size, hb.2⟩)
    · exact Enc.keep hok (fun p hp => World.cell?_of_block (hgr.block _ hp.1 hp.2)) (fun b hb => ⟨Nat.lt_of_lt_of_le hb.1 hgr.size, hb.2⟩)
end
/-- behind growth alone -/
theorem SlS.below_ {α : Type} [Enc α] {w w' : World} {T : Nat → Prop} {A : Option Addr} {c : Nat} {l : List α} (h : SlS w (fun k => k < w.heap.size ∧ T k) A c l) (hb : Below w.heap.size w w') : SlS w' (fun k => k < w'.heap.size ∧ T k) A c l :=
  h.keep (fun _ hp => hb.cell hp.1) (fun _ hb' => ⟨Nat.lt_of_lt_of_le hb'.1 hb.size, hb'.2⟩)
end Go.Proofs.YtmljlkjomjflpaaGreat
