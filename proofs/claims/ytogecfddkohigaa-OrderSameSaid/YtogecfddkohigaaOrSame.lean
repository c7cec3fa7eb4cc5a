/- OrderSame -/
import Derived.Test.YtogecfddkohigaaRows
import Derived.Test.YtogecfddkohigaaCodec
import Derived.Test.YtogecfddkohigaaOrdC
import Derived.Test.YtogecfddkohigaaHas6
import Derived.Test.YtogecfddkohigaaFewBase
import Derived.Test.YtogecfddkohigaaAt
import Derived.Deep.RegionHeld3
import Derived.Deep.Cut
import Derived.Deep.RegionWith
import Derived.WalkKit
import Derived.WalkSpells
import Derived.WalkLawsBesides
import Derived.Deep.QuietTactic
import Derived.BigQuiet
import Derived.Laws.StructEq
import Derived.Deep.DeepFit
import Derived.StillTailTactics
namespace Go.Proofs.Ytogecfddkohigaa
open Go.RowKit
/-- a whole row stored cell by cell -/
theorem setCells_all {w : World} {g : Nat} {t : TypeId} {cur : Array Value} {vs : List Value} (h : w.heap[g]? = some (.cells cur t (0, 0))) (hl : vs.length = cur.size) : w.setCells g 0 vs = w.setRow g vs.toArray := by
  rw [setCells_row g t vs 0 cur w h (by omega)]
  congr 2
  rw [List.take_zero, List.nil_append, Nat.zero_add, List.drop_of_length_le (by simp; omega), List.append_nil]
theorem two_rows {B : Nat} {v0 w : World} {p q : Nat} {t : TypeId} {cu cv : Array Value} {us vs : List Value} (hp : w.heap[p]? = some (.cells cu t (0, 0))) (hq : w.heap[q]? = some (.cells cv t (0, 0))) (hu : us.length = cu.size) (hv : vs.length = cv.size) (hpq : p ≠ q) (hB : Below B v0 w) (hBp : B ≤ p) (hBq : B ≤ q) :
    ((w.setCells p 0 us).setCells q 0 vs).heap[p]? = some (.cells us.toArray t (0, 0)) ∧ ((w.setCells p 0 us).setCells q 0 vs).heap[q]? = some (.cells vs.toArray t (0, 0)) ∧ Below B v0 ((w.setCells p 0 us).setCells q 0 vs) := by
  rw [setCells_all hp hu]
  have h1 := setRow_heap w p cu us.toArray t (0, 0) hp
  have h2 : (w.setRow p us.toArray).heap[q]? = some (.cells cv t (0, 0)) := (setRow_other _ _ _ _ (Ne.symm hpq)).trans hq
  rw [setCells_all h2 hv]
  refine ⟨(setRow_other _ _ _ _ hpq).trans h1, setRow_heap _ q cv vs.toArray t (0, 0) h2, ?_⟩
  exact (hB.trans (⟨rfl, rfl, rfl, by simp, fun k hk => setRow_other _ _ _ _ (by omega)⟩ : Below B w (w.setRow p us.toArray))).trans (⟨rfl, rfl, rfl, by simp, fun k hk => setRow_other _ _ _ _ (by omega)⟩ : Below B (w.setRow p us.toArray) ((w.setRow p us.toArray).setRow q vs.toArray))
theorem ahead_law (x y : Od) : ¬ (aheadB x y = true ∧ aheadB y x = true) ∧ decide (Id.mk x.client x.seq = ⟨y.client, y.seq⟩) = (!aheadB x y && !aheadB y x) := by
  unfold aheadB
  by_cases h : x.client = y.client
  · rw [if_neg (by simpa using h), if_neg (by simpa using h.symm)]
    refine ⟨by simp only [decide_eq_true_eq]; omega, ?_⟩
    rw [Bool.eq_iff_iff]
    simp only [Id.mk.injEq, decide_eq_true_eq, Bool.and_eq_true, Bool.not_eq_true', decide_eq_false_iff_not]
    omega
  · rw [if_pos h, if_pos (Ne.symm h)]
    refine ⟨by simp only [decide_eq_true_eq]; omega, ?_⟩
    rw [Bool.eq_iff_iff]
    simp only [Id.mk.injEq, decide_eq_true_eq, Bool.and_eq_true, Bool.not_eq_true', decide_eq_false_iff_not]
    omega
set_option maxRecDepth 100000 in
set_option maxHeartbeats 8000000 in
theorem orSame_c (a b : Od) (w : World) (ha : Okb w w.heap.size a) (har : InR a) (hb : Okb w w.heap.size b) (hbr : InR b) :
    Calls Try.prog 5 #[a.v, b.v] w fun e w' => e = .returned (.bool true) ∧ Below w.heap.size w w' := by
  have hA := heap_alloc_new w (.cells #[i64 a.client, i64 a.seq, i64 a.kind, .string a.acct, .string a.peer, i64 a.sum, .slice a.la a.legs.length a.lc, i64 a.period, i64 a.hold, .string a.note] 30)
  have hB := heap_alloc_new (w.alloc (.cells #[i64 a.client, i64 a.seq, i64 a.kind, .string a.acct, .string a.peer, i64 a.sum, .slice a.la a.legs.length a.lc, i64 a.period, i64 a.hold, .string a.note] 30)) (.cells #[i64 b.client, i64 b.seq, i64 b.kind, .string b.acct, .string b.peer, i64 b.sum, .slice b.la b.legs.length b.lc, i64 b.period, i64 b.hold, .string b.note] 30)
  rw [show (w.alloc (.cells #[i64 a.client, i64 a.seq, i64 a.kind, .string a.acct, .string a.peer, i64 a.sum, .slice a.la a.legs.length a.lc, i64 a.period, i64 a.hold, .string a.note] 30)).heap.size = w.heap.size + 1 by simp] at hB
  have hA := (((Below.refl (w.alloc (.cells #[i64 a.client, i64 a.seq, i64 a.kind, .string a.acct, .string a.peer, i64 a.sum, .slice a.la a.legs.length a.lc, i64 a.period, i64 a.hold, .string a.note] 30)).heap.size (w.alloc (.cells #[i64 a.client, i64 a.seq, i64 a.kind, .string a.acct, .string a.peer, i64 a.sum, .slice a.la a.legs.length a.lc, i64 a.period, i64 a.hold, .string a.note] 30))).alloc (Nat.le_refl _) (.cells #[i64 b.client, i64 b.seq, i64 b.kind, .string b.acct, .string b.peer, i64 b.sum, .slice b.la b.legs.length b.lc, i64 b.period, i64 b.hold, .string b.note] 30)).block w.heap.size (by simp)).trans hA
  have hbw := ((Below.refl w.heap.size w).alloc (Nat.le_refl _) (.cells #[i64 a.client, i64 a.seq, i64 a.kind, .string a.acct, .string a.peer, i64 a.sum, .slice a.la a.legs.length a.lc, i64 a.period, i64 a.hold, .string a.note] 30)).alloc (by simp) (.cells #[i64 b.client, i64 b.seq, i64 b.kind, .string b.acct, .string b.peer, i64 b.sum, .slice b.la b.legs.length b.lc, i64 b.period, i64 b.hold, .string b.note] 30)
  have hz : w.heap.size + 1 < ((w.alloc (.cells #[i64 a.client, i64 a.seq, i64 a.kind, .string a.acct, .string a.peer, i64 a.sum, .slice a.la a.legs.length a.lc, i64 a.period, i64 a.hold, .string a.note] 30)).alloc (.cells #[i64 b.client, i64 b.seq, i64 b.kind, .string b.acct, .string b.peer, i64 b.sum, .slice b.la b.legs.length b.lc, i64 b.period, i64 b.hold, .string b.note] 30)).heap.size := by simp
  have fA := Lib.hid fun W h => few6_c a W (Okb.later ha h)
  have fB := Lib.hid fun W h => few6_c b W (Okb.later hb h)
  unfold Od.v at fA fB ⊢
  have hx := cut10_ok ha
  have hy := cut10_ok hb
  have hxr := cut10_in har
  have hyr := cut10_in hbr
  have hxl := cut10_legs a
  have hyl := cut10_legs b
  generalize cut10 a = x at *
  generalize cut10 b = y at *
  go_enter Try.func5, Try.ntmps5
  go_wp2_with fail
  generalize (w.alloc (.cells #[i64 a.client, i64 a.seq, i64 a.kind, .string a.acct, .string a.peer, i64 a.sum, .slice a.la a.legs.length a.lc, i64 a.period, i64 a.hold, .string a.note] 30)).alloc (.cells #[i64 b.client, i64 b.seq, i64 b.kind, .string b.acct, .string b.peer, i64 b.sum, .slice b.la b.legs.length b.lc, i64 b.period, i64 b.hold, .string b.note] 30) = w0 at *
  refine (lives_06 _).mono ?_
  rintro e w1 ⟨rfl, hF⟩
  have hA := (hF.block _ (by omega)).trans hA
  have hB := (hF.block _ (by omega)).trans hB
  have hbw := below_on hbw (Nat.le_refl _) hF
  have hz := Nat.lt_of_lt_of_le hz hF.size
  clear hF
  go_upto_region 3 with fail
  go_cut [] from 11 (fun wx => wx.heap[w.heap.size]? = some (.cells #[i64 x.client, i64 x.seq, i64 x.kind, .string x.acct, .string x.peer, i64 x.sum, .slice x.la x.legs.length x.lc, i64 x.period, i64 x.hold, .string x.note] 30 (0, 0)) ∧ wx.heap[w.heap.size + 1]? = some (.cells #[i64 y.client, i64 y.seq, i64 y.kind, .string y.acct, .string y.peer, i64 y.sum, .slice y.la y.legs.length y.lc, i64 y.period, i64 y.hold, .string y.note] 30 (0, 0)) ∧ Below w.heap.size w wx)
  case first =>
    have k0 := cell_of_row _ (w.heap.size) 0 _ _ (0, 0) hA
    have k1 := cell_of_row _ (w.heap.size) 1 _ _ (0, 0) hA
    have k2 := cell_of_row _ (w.heap.size) 2 _ _ (0, 0) hA
    have k3 := cell_of_row _ (w.heap.size) 3 _ _ (0, 0) hA
    have k4 := cell_of_row _ (w.heap.size) 4 _ _ (0, 0) hA
    have k5 := cell_of_row _ (w.heap.size) 5 _ _ (0, 0) hA
    have k6 := cell_of_row _ (w.heap.size) 6 _ _ (0, 0) hA
    have k7 := cell_of_row _ (w.heap.size) 7 _ _ (0, 0) hA
    have k8 := cell_of_row _ (w.heap.size) 8 _ _ (0, 0) hA
    have k9 := cell_of_row _ (w.heap.size) 9 _ _ (0, 0) hA
    have d0 := cell_of_row _ (w.heap.size + 1) 0 _ _ (0, 0) hB
    have d1 := cell_of_row _ (w.heap.size + 1) 1 _ _ (0, 0) hB
    have d2 := cell_of_row _ (w.heap.size + 1) 2 _ _ (0, 0) hB
    have d3 := cell_of_row _ (w.heap.size + 1) 3 _ _ (0, 0) hB
    have d4 := cell_of_row _ (w.heap.size + 1) 4 _ _ (0, 0) hB
    have d5 := cell_of_row _ (w.heap.size + 1) 5 _ _ (0, 0) hB
    have d6 := cell_of_row _ (w.heap.size + 1) 6 _ _ (0, 0) hB
    have d7 := cell_of_row _ (w.heap.size + 1) 7 _ _ (0, 0) hB
    have d8 := cell_of_row _ (w.heap.size + 1) 8 _ _ (0, 0) hB
    have d9 := cell_of_row _ (w.heap.size + 1) 9 _ _ (0, 0) hB
    simp only [List.getElem?_toArray, List.getElem?_cons_zero, List.getElem?_cons_succ] at k0 k1 k2 k3 k4 k5 k6 k7 k8 k9 d0 d1 d2 d3 d4 d5 d6 d7 d8 d9
    have g := (Below.refl w1.heap.size w1).drew
    have hq := hbw.drew
    go_region_with (first
      | (go_at_call 26; go_loud (with_reducible refine (fA.out _ ?hq).mono ?_; (case hq => assumption); rintro e w' ⟨rfl, hF⟩; have g := below_on g (Nat.le_refl _) hF; have m0 := (g.cell (p := ⟨w.heap.size, 0, none⟩) (Nat.lt_of_succ_lt hz)).trans k0; have m1 := (g.cell (p := ⟨w.heap.size, 1, none⟩) (Nat.lt_of_succ_lt hz)).trans k1; have m2 := (g.cell (p := ⟨w.heap.size, 2, none⟩) (Nat.lt_of_succ_lt hz)).trans k2; have m3 := (g.cell (p := ⟨w.heap.size, 3, none⟩) (Nat.lt_of_succ_lt hz)).trans k3; have m4 := (g.cell (p := ⟨w.heap.size, 4, none⟩) (Nat.lt_of_succ_lt hz)).trans k4; have m5 := (g.cell (p := ⟨w.heap.size, 5, none⟩) (Nat.lt_of_succ_lt hz)).trans k5; have m6 := (g.cell (p := ⟨w.heap.size, 6, none⟩) (Nat.lt_of_succ_lt hz)).trans k6; have m7 := (g.cell (p := ⟨w.heap.size, 7, none⟩) (Nat.lt_of_succ_lt hz)).trans k7; have m8 := (g.cell (p := ⟨w.heap.size, 8, none⟩) (Nat.lt_of_succ_lt hz)).trans k8; have m9 := (g.cell (p := ⟨w.heap.size, 9, none⟩) (Nat.lt_of_succ_lt hz)).trans k9; have n0 := (g.cell (p := ⟨w.heap.size + 1, 0, none⟩) hz).trans d0; have n1 := (g.cell (p := ⟨w.heap.size + 1, 1, none⟩) hz).trans d1; have n2 := (g.cell (p := ⟨w.heap.size + 1, 2, none⟩) hz).trans d2; have n3 := (g.cell (p := ⟨w.heap.size + 1, 3, none⟩) hz).trans d3; have n4 := (g.cell (p := ⟨w.heap.size + 1, 4, none⟩) hz).trans d4; have n5 := (g.cell (p := ⟨w.heap.size + 1, 5, none⟩) hz).trans d5; have n6 := (g.cell (p := ⟨w.heap.size + 1, 6, none⟩) hz).trans d6; have n7 := (g.cell (p := ⟨w.heap.size + 1, 7, none⟩) hz).trans d7; have n8 := (g.cell (p := ⟨w.heap.size + 1, 8, none⟩) hz).trans d8; have n9 := (g.cell (p := ⟨w.heap.size + 1, 9, none⟩) hz).trans d9; have hq := below_on hbw (Nat.le_refl _) g; have qA := (g.block _ (Nat.lt_of_succ_lt hz)).trans hA; have qB := (g.block _ hz).trans hB; have za := fun j => frozen_of_row _ w.heap.size j _ _ qA; have zb := fun j => frozen_of_row _ (w.heap.size + 1) j _ _ qB; clear hF))
      | (go_at_call 26; go_loud (with_reducible refine (fB.out _ ?hq).mono ?_; (case hq => assumption); rintro e w' ⟨rfl, hF⟩; have g := below_on g (Nat.le_refl _) hF; have m0 := (g.cell (p := ⟨w.heap.size, 0, none⟩) (Nat.lt_of_succ_lt hz)).trans k0; have m1 := (g.cell (p := ⟨w.heap.size, 1, none⟩) (Nat.lt_of_succ_lt hz)).trans k1; have m2 := (g.cell (p := ⟨w.heap.size, 2, none⟩) (Nat.lt_of_succ_lt hz)).trans k2; have m3 := (g.cell (p := ⟨w.heap.size, 3, none⟩) (Nat.lt_of_succ_lt hz)).trans k3; have m4 := (g.cell (p := ⟨w.heap.size, 4, none⟩) (Nat.lt_of_succ_lt hz)).trans k4; have m5 := (g.cell (p := ⟨w.heap.size, 5, none⟩) (Nat.lt_of_succ_lt hz)).trans k5; have m6 := (g.cell (p := ⟨w.heap.size, 6, none⟩) (Nat.lt_of_succ_lt hz)).trans k6; have m7 := (g.cell (p := ⟨w.heap.size, 7, none⟩) (Nat.lt_of_succ_lt hz)).trans k7; have m8 := (g.cell (p := ⟨w.heap.size, 8, none⟩) (Nat.lt_of_succ_lt hz)).trans k8; have m9 := (g.cell (p := ⟨w.heap.size, 9, none⟩) (Nat.lt_of_succ_lt hz)).trans k9; have n0 := (g.cell (p := ⟨w.heap.size + 1, 0, none⟩) hz).trans d0; have n1 := (g.cell (p := ⟨w.heap.size + 1, 1, none⟩) hz).trans d1; have n2 := (g.cell (p := ⟨w.heap.size + 1, 2, none⟩) hz).trans d2; have n3 := (g.cell (p := ⟨w.heap.size + 1, 3, none⟩) hz).trans d3; have n4 := (g.cell (p := ⟨w.heap.size + 1, 4, none⟩) hz).trans d4; have n5 := (g.cell (p := ⟨w.heap.size + 1, 5, none⟩) hz).trans d5; have n6 := (g.cell (p := ⟨w.heap.size + 1, 6, none⟩) hz).trans d6; have n7 := (g.cell (p := ⟨w.heap.size + 1, 7, none⟩) hz).trans d7; have n8 := (g.cell (p := ⟨w.heap.size + 1, 8, none⟩) hz).trans d8; have n9 := (g.cell (p := ⟨w.heap.size + 1, 9, none⟩) hz).trans d9; have hq := below_on hbw (Nat.le_refl _) g; have qA := (g.block _ (Nat.lt_of_succ_lt hz)).trans hA; have qB := (g.block _ hz).trans hB; have za := fun j => frozen_of_row _ w.heap.size j _ _ qA; have zb := fun j => frozen_of_row _ (w.heap.size + 1) j _ _ qB; clear hF)))
    all_goals (go_wp2_with fail; go_meet; exact two_rows (us := [i64 x.client, i64 x.seq, i64 x.kind, .string x.acct, .string x.peer, i64 x.sum, .slice x.la x.legs.length x.lc, i64 x.period, i64 x.hold, .string x.note]) (vs := [i64 y.client, i64 y.seq, i64 y.kind, .string y.acct, .string y.peer, i64 y.sum, .slice y.la y.legs.length y.lc, i64 y.period, i64 y.hold, .string y.note]) qA qB rfl rfl (by omega) hq (Nat.le_refl _) (Nat.le_succ _))
  case rest =>
  obtain ⟨hX, hY, hbc⟩ := hcut
  clear hA hB hbw hz fA fB ha hb har hbr
  have hbw := hbc
  clear hbc
  have hz : w.heap.size + 1 < wc.heap.size := (Array.getElem?_eq_some_iff.1 hY).1
  have hsb : rightB x = true → rightB y = true → sameB x y = (bytesB x == bytesB y) := fun h1 h2 => same_bytes h1 h2 hxr hyr
  have hnum : rightB x = true → rightB y = true → decide (1000 * x.client + x.seq < 1000 * y.client + y.seq) = aheadB x y := fun h1 h2 => number_ahead h1 h2
  have hrx : rightB x = true → (-1000000 ≤ x.client ∧ x.client ≤ 1000000) ∧ (-1000000 ≤ x.seq ∧ x.seq ≤ 1000000) := fun h => by obtain ⟨a, b, _⟩ := fit_of h; omega
  have hry : rightB y = true → (-1000000 ≤ y.client ∧ y.client ≤ 1000000) ∧ (-1000000 ≤ y.seq ∧ y.seq ≤ 1000000) := fun h => by obtain ⟨a, b, _⟩ := fit_of h; omega
  have hpq : ¬ (aheadB x y = true ∧ aheadB y x = true) ∧ decide (Id.mk x.client x.seq = ⟨y.client, y.seq⟩) = (!aheadB x y && !aheadB y x) := ahead_law x y
  have BX := Lib.hid fun W (h : Below w.heap.size w W) => bytes_c x W (Okb.later hx h) (by omega) hxr
  have BY := Lib.hid fun W (h : Below w.heap.size w W) => bytes_c y W (Okb.later hy h) (by omega) hyr
  have SXX := Lib.hid fun W (h : Below w.heap.size w W) => same_c x x W (Okb.later hx h) (Okb.later hx h) (by omega) (by omega)
  have SXY := Lib.hid fun W (h : Below w.heap.size w W) => same_c x y W (Okb.later hx h) (Okb.later hy h) (by omega) (by omega)
  have SYX := Lib.hid fun W (h : Below w.heap.size w W) => same_c y x W (Okb.later hy h) (Okb.later hx h) (by omega) (by omega)
  rw [sameB_refl] at SXX
  rw [sameB_symm y x] at SYX
  have AXY := Lib.hid fun W => ahead_c x y W
  have AYX := Lib.hid fun W => ahead_c y x W
  have RXY := Lib.hid fun W => rahead6_c x y W
  have QI := Lib.hid fun W => eq_id x.client x.seq y.client y.seq W
  rw [hpq.2] at QI
  have NX := Lib.hid fun W (h : rightB x = true) => number_c x.client x.seq W (hrx h).1 (hrx h).2
  have NY := Lib.hid fun W (h : rightB y = true) => number_c y.client y.seq W (hry h).1 (hry h).2
  have hpq := hpq.1
  unfold Od.v at BX BY SXX SXY SYX
  clear hx hy hxl hyl hxr hyr hrx hry
  generalize aheadB x y = p at *
  generalize aheadB y x = q at *
  generalize sameB x y = s at *
  generalize 1000 * x.client + x.seq = nx at *
  generalize 1000 * y.client + y.seq = ny at *
  generalize bytesB x = bx at *
  generalize bytesB y = b2 at *
  generalize rightB x = rx at *
  generalize rightB y = ry at *
  have Hsb := Lib.hid hsb
  have Hnum := Lib.hid hnum
  have Hpq := Lib.hid hpq
  clear hsb hnum hpq
  obtain ⟨ex, hex⟩ : ∃ ex : Int, (if rx then (0 : Int) else 1) = ex := ⟨_, rfl⟩
  obtain ⟨ey, hey⟩ : ∃ ey : Int, (if ry then (0 : Int) else 1) = ey := ⟨_, rfl⟩
  obtain ⟨lx, hlx⟩ : ∃ lx : List UInt8, (if rx then bx else []) = lx := ⟨_, rfl⟩
  obtain ⟨ly, hly⟩ : ∃ ly : List UInt8, (if ry then b2 else []) = ly := ⟨_, rfl⟩
  rw [hex, hlx] at BX
  rw [hey, hly] at BY
  have ex0 : (ex == 0) = rx := by rw [← hex]; cases rx <;> rfl
  have ey0 : (ey == 0) = ry := by rw [← hey]; cases ry <;> rfl
  have ex1 : (ex != 0) = !rx := by rw [← hex]; cases rx <;> rfl
  have ey1 : (ey != 0) = !ry := by rw [← hey]; cases ry <;> rfl
  have Hsl : Hid (rx = true → ry = true → (lx == ly) = s) := Lib.hid fun h1 h2 => by rw [← hlx, ← hly, if_pos h1, if_pos h2]; exact (Hsb.out h1 h2).symm
  clear hex hey hlx hly Hsb
  have k0 := cell_of_row _ (w.heap.size) 0 _ _ (0, 0) hX
  have k1 := cell_of_row _ (w.heap.size) 1 _ _ (0, 0) hX
  have k2 := cell_of_row _ (w.heap.size) 2 _ _ (0, 0) hX
  have k3 := cell_of_row _ (w.heap.size) 3 _ _ (0, 0) hX
  have k4 := cell_of_row _ (w.heap.size) 4 _ _ (0, 0) hX
  have k5 := cell_of_row _ (w.heap.size) 5 _ _ (0, 0) hX
  have k6 := cell_of_row _ (w.heap.size) 6 _ _ (0, 0) hX
  have k7 := cell_of_row _ (w.heap.size) 7 _ _ (0, 0) hX
  have k8 := cell_of_row _ (w.heap.size) 8 _ _ (0, 0) hX
  have k9 := cell_of_row _ (w.heap.size) 9 _ _ (0, 0) hX
  simp only [List.getElem?_toArray, List.getElem?_cons_zero, List.getElem?_cons_succ] at k0 k1 k2 k3 k4 k5 k6 k7 k8 k9
  go_wp2_with fail
  clear k0 k1 k2 k3 k4 k5 k6 k7 k8 k9
  refine (BX.out _ hbw).mono ?_
  rintro e w2 ⟨vx, rfl, hOx, hF⟩
  obtain ⟨Ax, cx, rfl, hsx⟩ := hOx.sl
  have hX := (hF.block _ (by omega)).trans hX
  have hY := (hF.block _ (by omega)).trans hY
  have hbw := below_on hbw (Nat.le_refl _) hF
  have hz := Nat.lt_of_lt_of_le hz hF.size
  clear hF hOx BX
  have k0 := cell_of_row _ (w.heap.size + 1) 0 _ _ (0, 0) hY
  have k1 := cell_of_row _ (w.heap.size + 1) 1 _ _ (0, 0) hY
  have k2 := cell_of_row _ (w.heap.size + 1) 2 _ _ (0, 0) hY
  have k3 := cell_of_row _ (w.heap.size + 1) 3 _ _ (0, 0) hY
  have k4 := cell_of_row _ (w.heap.size + 1) 4 _ _ (0, 0) hY
  have k5 := cell_of_row _ (w.heap.size + 1) 5 _ _ (0, 0) hY
  have k6 := cell_of_row _ (w.heap.size + 1) 6 _ _ (0, 0) hY
  have k7 := cell_of_row _ (w.heap.size + 1) 7 _ _ (0, 0) hY
  have k8 := cell_of_row _ (w.heap.size + 1) 8 _ _ (0, 0) hY
  have k9 := cell_of_row _ (w.heap.size + 1) 9 _ _ (0, 0) hY
  simp only [List.getElem?_toArray, List.getElem?_cons_zero, List.getElem?_cons_succ] at k0 k1 k2 k3 k4 k5 k6 k7 k8 k9
  go_wp2_with fail
  clear k0 k1 k2 k3 k4 k5 k6 k7 k8 k9
  refine (BY.out _ hbw).mono ?_
  rintro e w3 ⟨vy, rfl, hOy, hF⟩
  obtain ⟨Ay, cy, rfl, hsy⟩ := hOy.sl
  have hsx := hsx.later hF
  have hX := (hF.block _ (by omega)).trans hX
  have hY := (hF.block _ (by omega)).trans hY
  have hbw := below_on hbw (Nat.le_refl _) hF
  have hz := Nat.lt_of_lt_of_le hz hF.size
  clear hF hOy BY
  go_upto_region 6 with fail
  go_cut [41] from 11 (fun s41 wx => s41 = .bool false ∧ wx.heap[w.heap.size]? = some (.cells #[i64 x.client, i64 x.seq, i64 x.kind, .string x.acct, .string x.peer, i64 x.sum, .slice x.la x.legs.length x.lc, i64 x.period, i64 x.hold, .string x.note] 30 (0, 0)) ∧ wx.heap[w.heap.size + 1]? = some (.cells #[i64 y.client, i64 y.seq, i64 y.kind, .string y.acct, .string y.peer, i64 y.sum, .slice y.la y.legs.length y.lc, i64 y.period, i64 y.hold, .string y.note] 30 (0, 0)) ∧ Below w.heap.size w wx)
  case first =>
    have k0 := cell_of_row _ (w.heap.size) 0 _ _ (0, 0) hX
    have k1 := cell_of_row _ (w.heap.size) 1 _ _ (0, 0) hX
    have k2 := cell_of_row _ (w.heap.size) 2 _ _ (0, 0) hX
    have k3 := cell_of_row _ (w.heap.size) 3 _ _ (0, 0) hX
    have k4 := cell_of_row _ (w.heap.size) 4 _ _ (0, 0) hX
    have k5 := cell_of_row _ (w.heap.size) 5 _ _ (0, 0) hX
    have k6 := cell_of_row _ (w.heap.size) 6 _ _ (0, 0) hX
    have k7 := cell_of_row _ (w.heap.size) 7 _ _ (0, 0) hX
    have k8 := cell_of_row _ (w.heap.size) 8 _ _ (0, 0) hX
    have k9 := cell_of_row _ (w.heap.size) 9 _ _ (0, 0) hX
    simp only [List.getElem?_toArray, List.getElem?_cons_zero, List.getElem?_cons_succ] at k0 k1 k2 k3 k4 k5 k6 k7 k8 k9
    have d0 := cell_of_row _ (w.heap.size + 1) 0 _ _ (0, 0) hY
    have d1 := cell_of_row _ (w.heap.size + 1) 1 _ _ (0, 0) hY
    have d2 := cell_of_row _ (w.heap.size + 1) 2 _ _ (0, 0) hY
    have d3 := cell_of_row _ (w.heap.size + 1) 3 _ _ (0, 0) hY
    have d4 := cell_of_row _ (w.heap.size + 1) 4 _ _ (0, 0) hY
    have d5 := cell_of_row _ (w.heap.size + 1) 5 _ _ (0, 0) hY
    have d6 := cell_of_row _ (w.heap.size + 1) 6 _ _ (0, 0) hY
    have d7 := cell_of_row _ (w.heap.size + 1) 7 _ _ (0, 0) hY
    have d8 := cell_of_row _ (w.heap.size + 1) 8 _ _ (0, 0) hY
    have d9 := cell_of_row _ (w.heap.size + 1) 9 _ _ (0, 0) hY
    simp only [List.getElem?_toArray, List.getElem?_cons_zero, List.getElem?_cons_succ] at d0 d1 d2 d3 d4 d5 d6 d7 d8 d9
    clear AXY AYX RXY QI NX NY SXX SYX Hnum Hpq ex1 ey1
    cases hrx : rx
    · rw [hrx] at ex0
      clear Hsl SXY
      go_wp2
      go_meet
      exact ⟨rfl, hX, hY, hbw⟩
    cases hry : ry
    · rw [hrx] at ex0
      rw [hry] at ey0
      clear Hsl SXY
      go_wp2
      go_meet
      exact ⟨rfl, hX, hY, hbw⟩
    rw [hrx] at ex0
    rw [hry] at ey0
    have Hs := Lib.hid (Hsl.out hrx hry)
    have C1 := Lib.hid (SXY.out w3 hbw)
    clear Hsl SXY hrx hry
    go_wp2_with fail
    refine C1.out.mono ?_
    rintro e w4 ⟨rfl, hF⟩
    have C2 := same2_c Ax Ay cx cy lx ly w4 (hsx.later hF) (hsy.later hF)
    rw [Hs.out] at C2
    have hX := (hF.block _ (by omega)).trans hX
    have hY := (hF.block _ (by omega)).trans hY
    have hbw := below_on hbw (Nat.le_refl _) hF
    have hz := Nat.lt_of_lt_of_le hz hF.size
    clear hF C1 Hs hsx hsy k0 k1 k2 k3 k4 k5 k6 k7 k8 k9 d0 d1 d2 d3 d4 d5 d6 d7 d8 d9
    go_wp2_with fail
    refine C2.mono ?_
    rintro e w5 ⟨rfl, hF⟩
    have hX := (hF.block _ (by omega)).trans hX
    have hY := (hF.block _ (by omega)).trans hY
    have hbw := below_on hbw (Nat.le_refl _) hF
    have hz := Nat.lt_of_lt_of_le hz hF.size
    clear hF C2
    go_wp2
    go_meet
    exact ⟨by simp, hX, hY, hbw⟩
  case rest =>
  clear hX hY hbw hz hsx hsy Hsl
  obtain ⟨rfl, hX, hY, hbw⟩ := hcut
  have hz : w.heap.size + 1 < wc.heap.size := (Array.getElem?_eq_some_iff.1 hY).1
  go_upto_region 8 with fail
  have k0 := cell_of_row _ (w.heap.size) 0 _ _ (0, 0) hX
  have k1 := cell_of_row _ (w.heap.size) 1 _ _ (0, 0) hX
  have k2 := cell_of_row _ (w.heap.size) 2 _ _ (0, 0) hX
  have k3 := cell_of_row _ (w.heap.size) 3 _ _ (0, 0) hX
  have k4 := cell_of_row _ (w.heap.size) 4 _ _ (0, 0) hX
  have k5 := cell_of_row _ (w.heap.size) 5 _ _ (0, 0) hX
  have k6 := cell_of_row _ (w.heap.size) 6 _ _ (0, 0) hX
  have k7 := cell_of_row _ (w.heap.size) 7 _ _ (0, 0) hX
  have k8 := cell_of_row _ (w.heap.size) 8 _ _ (0, 0) hX
  have k9 := cell_of_row _ (w.heap.size) 9 _ _ (0, 0) hX
  simp only [List.getElem?_toArray, List.getElem?_cons_zero, List.getElem?_cons_succ] at k0 k1 k2 k3 k4 k5 k6 k7 k8 k9
  have d0 := cell_of_row _ (w.heap.size + 1) 0 _ _ (0, 0) hY
  have d1 := cell_of_row _ (w.heap.size + 1) 1 _ _ (0, 0) hY
  have d2 := cell_of_row _ (w.heap.size + 1) 2 _ _ (0, 0) hY
  have d3 := cell_of_row _ (w.heap.size + 1) 3 _ _ (0, 0) hY
  have d4 := cell_of_row _ (w.heap.size + 1) 4 _ _ (0, 0) hY
  have d5 := cell_of_row _ (w.heap.size + 1) 5 _ _ (0, 0) hY
  have d6 := cell_of_row _ (w.heap.size + 1) 6 _ _ (0, 0) hY
  have d7 := cell_of_row _ (w.heap.size + 1) 7 _ _ (0, 0) hY
  have d8 := cell_of_row _ (w.heap.size + 1) 8 _ _ (0, 0) hY
  have d9 := cell_of_row _ (w.heap.size + 1) 9 _ _ (0, 0) hY
  simp only [List.getElem?_toArray, List.getElem?_cons_zero, List.getElem?_cons_succ] at d0 d1 d2 d3 d4 d5 d6 d7 d8 d9
  have hz1 : w.heap.size < wc.heap.size := Nat.lt_of_succ_lt hz
  have hSS : ∀ V, Below wc.heap.size wc V → (fun V : World => Below wc.heap.size wc V ∧ V.cell? ⟨w.heap.size, 0, none⟩ = some (i64 x.client) ∧ V.cell? ⟨w.heap.size, 1, none⟩ = some (i64 x.seq) ∧ V.cell? ⟨w.heap.size + 1, 0, none⟩ = some (i64 y.client) ∧ V.cell? ⟨w.heap.size + 1, 1, none⟩ = some (i64 y.seq)) V := fun V h => ⟨h, (h.cell (p := ⟨w.heap.size, 0, none⟩) hz1).trans k0, (h.cell (p := ⟨w.heap.size, 1, none⟩) hz1).trans k1, (h.cell (p := ⟨w.heap.size + 1, 0, none⟩) hz).trans d0, (h.cell (p := ⟨w.heap.size + 1, 1, none⟩) hz).trans d1⟩
  clear k0 k1 k2 k3 k4 k5 k6 k7 k8 k9 d0 d1 d2 d3 d4 d5 d6 d7 d8 d9
  have h0 := (Below.refl wc.heap.size wc).drew
  have y1 := AXY.out
  have y2 := AYX.out
  clear AXY AYX
  go_region_held3 (fun V : World => Below wc.heap.size wc V ∧ V.cell? ⟨w.heap.size, 0, none⟩ = some (i64 x.client) ∧ V.cell? ⟨w.heap.size, 1, none⟩ = some (i64 x.seq) ∧ V.cell? ⟨w.heap.size + 1, 0, none⟩ = some (i64 y.client) ∧ V.cell? ⟨w.heap.size + 1, 1, none⟩ = some (i64 y.seq)) (first | exact hSS _ h0 | exact hSS _ (by assumption))
    (first
      | (go_at_call 32; with_reducible refine (y1 _).mono ?_; rintro e u1 ⟨rfl, hF⟩; have hb1 := below_on h0 (Nat.le_refl _) hF; clear hF)
      | (go_at_call 32; with_reducible refine (y2 _).mono ?_; rintro e u2 ⟨rfl, hF⟩; have hb2 := below_on hb1 (Nat.le_refl _) hF; clear hF))
  have hX := (hb2.block _ hz1).trans hX
  have hY := (hb2.block _ hz).trans hY
  have hbw := below_on hbw (Nat.le_refl _) hb2
  have hz := Nat.lt_of_lt_of_le hz hb2.size
  clear hSS h0 y1 y2 hb1 hz1 hb2
  go_upto_region 9 with fail
  go_cut [9, 10, 78] from 11 (fun s9 s10 s78 wx => s9 = .bool p ∧ s10 = .bool q ∧ s78 = .bool false ∧ wx.heap[w.heap.size]? = some (.cells #[i64 x.client, i64 x.seq, i64 x.kind, .string x.acct, .string x.peer, i64 x.sum, .slice x.la x.legs.length x.lc, i64 x.period, i64 x.hold, .string x.note] 30 (0, 0)) ∧ wx.heap[w.heap.size + 1]? = some (.cells #[i64 y.client, i64 y.seq, i64 y.kind, .string y.acct, .string y.peer, i64 y.sum, .slice y.la y.legs.length y.lc, i64 y.period, i64 y.hold, .string y.note] 30 (0, 0)) ∧ Below w.heap.size w wx)
  case first =>
    have k0 := cell_of_row _ (w.heap.size) 0 _ _ (0, 0) hX
    have k1 := cell_of_row _ (w.heap.size) 1 _ _ (0, 0) hX
    simp only [List.getElem?_toArray, List.getElem?_cons_zero, List.getElem?_cons_succ] at k0 k1
    have d0 := cell_of_row _ (w.heap.size + 1) 0 _ _ (0, 0) hY
    have d1 := cell_of_row _ (w.heap.size + 1) 1 _ _ (0, 0) hY
    simp only [List.getElem?_toArray, List.getElem?_cons_zero, List.getElem?_cons_succ] at d0 d1
    have qi := QI.out
    have R1 := Lib.hid (RXY.out u2)
    clear QI RXY SXX SXY SYX NX NY Hnum
    cases p
    · cases q
      · simp only [Bool.not_false, Bool.and_self] at qi
        clear Hpq
        go_wp2_with fail
        refine R1.out.mono ?_
        rintro e w5 ⟨rfl, hF⟩
        have hX := (hF.block _ (by omega)).trans hX
        have hY := (hF.block _ (by omega)).trans hY
        have hbw := below_on hbw (Nat.le_refl _) hF
        have hz := Nat.lt_of_lt_of_le hz hF.size
        clear hF R1 qi k0 k1 d0 d1
        go_wp2
        go_meet
        exact ⟨rfl, rfl, by simp, hX, hY, hbw⟩
      · simp only [Bool.not_false, Bool.not_true, Bool.and_false] at qi
        clear Hpq
        go_wp2_with fail
        refine R1.out.mono ?_
        rintro e w5 ⟨rfl, hF⟩
        have hX := (hF.block _ (by omega)).trans hX
        have hY := (hF.block _ (by omega)).trans hY
        have hbw := below_on hbw (Nat.le_refl _) hF
        have hz := Nat.lt_of_lt_of_le hz hF.size
        clear hF R1 qi k0 k1 d0 d1
        go_wp2
        go_meet
        exact ⟨rfl, rfl, by simp, hX, hY, hbw⟩
    · cases q
      · simp only [Bool.not_false, Bool.not_true, Bool.false_and] at qi
        clear Hpq
        go_wp2_with fail
        refine R1.out.mono ?_
        rintro e w5 ⟨rfl, hF⟩
        have hX := (hF.block _ (by omega)).trans hX
        have hY := (hF.block _ (by omega)).trans hY
        have hbw := below_on hbw (Nat.le_refl _) hF
        have hz := Nat.lt_of_lt_of_le hz hF.size
        clear hF R1 qi k0 k1 d0 d1
        go_wp2
        go_meet
        exact ⟨rfl, rfl, by simp, hX, hY, hbw⟩
      · exact absurd ⟨rfl, rfl⟩ Hpq.out
  case rest =>
  clear hX hY hbw hz QI RXY Hpq
  obtain ⟨rfl, rfl, rfl, hX, hY, hbw⟩ := hcut
  have hz : w.heap.size + 1 < wc.heap.size := (Array.getElem?_eq_some_iff.1 hY).1
  go_upto_region 11 with fail
  have k0 := cell_of_row _ (w.heap.size) 0 _ _ (0, 0) hX
  have k1 := cell_of_row _ (w.heap.size) 1 _ _ (0, 0) hX
  have k2 := cell_of_row _ (w.heap.size) 2 _ _ (0, 0) hX
  have k3 := cell_of_row _ (w.heap.size) 3 _ _ (0, 0) hX
  have k4 := cell_of_row _ (w.heap.size) 4 _ _ (0, 0) hX
  have k5 := cell_of_row _ (w.heap.size) 5 _ _ (0, 0) hX
  have k6 := cell_of_row _ (w.heap.size) 6 _ _ (0, 0) hX
  have k7 := cell_of_row _ (w.heap.size) 7 _ _ (0, 0) hX
  have k8 := cell_of_row _ (w.heap.size) 8 _ _ (0, 0) hX
  have k9 := cell_of_row _ (w.heap.size) 9 _ _ (0, 0) hX
  simp only [List.getElem?_toArray, List.getElem?_cons_zero, List.getElem?_cons_succ] at k0 k1 k2 k3 k4 k5 k6 k7 k8 k9
  have d0 := cell_of_row _ (w.heap.size + 1) 0 _ _ (0, 0) hY
  have d1 := cell_of_row _ (w.heap.size + 1) 1 _ _ (0, 0) hY
  have d2 := cell_of_row _ (w.heap.size + 1) 2 _ _ (0, 0) hY
  have d3 := cell_of_row _ (w.heap.size + 1) 3 _ _ (0, 0) hY
  have d4 := cell_of_row _ (w.heap.size + 1) 4 _ _ (0, 0) hY
  have d5 := cell_of_row _ (w.heap.size + 1) 5 _ _ (0, 0) hY
  have d6 := cell_of_row _ (w.heap.size + 1) 6 _ _ (0, 0) hY
  have d7 := cell_of_row _ (w.heap.size + 1) 7 _ _ (0, 0) hY
  have d8 := cell_of_row _ (w.heap.size + 1) 8 _ _ (0, 0) hY
  have d9 := cell_of_row _ (w.heap.size + 1) 9 _ _ (0, 0) hY
  simp only [List.getElem?_toArray, List.getElem?_cons_zero, List.getElem?_cons_succ] at d0 d1 d2 d3 d4 d5 d6 d7 d8 d9
  have hz1 : w.heap.size < wc.heap.size := Nat.lt_of_succ_lt hz
  have hSS : ∀ V, Below wc.heap.size wc V → (fun V : World => Below wc.heap.size wc V ∧ V.cell? ⟨w.heap.size, 0, none⟩ = some (i64 x.client) ∧ V.cell? ⟨w.heap.size, 1, none⟩ = some (i64 x.seq) ∧ V.cell? ⟨w.heap.size, 2, none⟩ = some (i64 x.kind) ∧ V.cell? ⟨w.heap.size, 3, none⟩ = some (.string x.acct) ∧ V.cell? ⟨w.heap.size, 4, none⟩ = some (.string x.peer) ∧ V.cell? ⟨w.heap.size, 5, none⟩ = some (i64 x.sum) ∧ V.cell? ⟨w.heap.size, 6, none⟩ = some (.slice x.la x.legs.length x.lc) ∧ V.cell? ⟨w.heap.size, 7, none⟩ = some (i64 x.period) ∧ V.cell? ⟨w.heap.size, 8, none⟩ = some (i64 x.hold) ∧ V.cell? ⟨w.heap.size, 9, none⟩ = some (.string x.note) ∧ V.cell? ⟨w.heap.size + 1, 0, none⟩ = some (i64 y.client) ∧ V.cell? ⟨w.heap.size + 1, 1, none⟩ = some (i64 y.seq) ∧ V.cell? ⟨w.heap.size + 1, 2, none⟩ = some (i64 y.kind) ∧ V.cell? ⟨w.heap.size + 1, 3, none⟩ = some (.string y.acct) ∧ V.cell? ⟨w.heap.size + 1, 4, none⟩ = some (.string y.peer) ∧ V.cell? ⟨w.heap.size + 1, 5, none⟩ = some (i64 y.sum) ∧ V.cell? ⟨w.heap.size + 1, 6, none⟩ = some (.slice y.la y.legs.length y.lc) ∧ V.cell? ⟨w.heap.size + 1, 7, none⟩ = some (i64 y.period) ∧ V.cell? ⟨w.heap.size + 1, 8, none⟩ = some (i64 y.hold) ∧ V.cell? ⟨w.heap.size + 1, 9, none⟩ = some (.string y.note)) V := fun V h => ⟨h, (h.cell (p := ⟨w.heap.size, 0, none⟩) hz1).trans k0, (h.cell (p := ⟨w.heap.size, 1, none⟩) hz1).trans k1, (h.cell (p := ⟨w.heap.size, 2, none⟩) hz1).trans k2, (h.cell (p := ⟨w.heap.size, 3, none⟩) hz1).trans k3, (h.cell (p := ⟨w.heap.size, 4, none⟩) hz1).trans k4, (h.cell (p := ⟨w.heap.size, 5, none⟩) hz1).trans k5, (h.cell (p := ⟨w.heap.size, 6, none⟩) hz1).trans k6, (h.cell (p := ⟨w.heap.size, 7, none⟩) hz1).trans k7, (h.cell (p := ⟨w.heap.size, 8, none⟩) hz1).trans k8, (h.cell (p := ⟨w.heap.size, 9, none⟩) hz1).trans k9, (h.cell (p := ⟨w.heap.size + 1, 0, none⟩) hz).trans d0, (h.cell (p := ⟨w.heap.size + 1, 1, none⟩) hz).trans d1, (h.cell (p := ⟨w.heap.size + 1, 2, none⟩) hz).trans d2, (h.cell (p := ⟨w.heap.size + 1, 3, none⟩) hz).trans d3, (h.cell (p := ⟨w.heap.size + 1, 4, none⟩) hz).trans d4, (h.cell (p := ⟨w.heap.size + 1, 5, none⟩) hz).trans d5, (h.cell (p := ⟨w.heap.size + 1, 6, none⟩) hz).trans d6, (h.cell (p := ⟨w.heap.size + 1, 7, none⟩) hz).trans d7, (h.cell (p := ⟨w.heap.size + 1, 8, none⟩) hz).trans d8, (h.cell (p := ⟨w.heap.size + 1, 9, none⟩) hz).trans d9⟩
  clear k0 k1 k2 k3 k4 k5 k6 k7 k8 k9 d0 d1 d2 d3 d4 d5 d6 d7 d8 d9
  have h0 := (Below.refl wc.heap.size wc).drew
  have hB1 := fun V (h : Below wc.heap.size wc V) => below_on hbw (Nat.le_refl _) h
  cases hrx : rx
  · rw [hrx] at ex1
    clear hrx NX NY Hnum ex0 ey0 ey1
    refine wp_region_noPanic ?_
    refine wp_region_held_drew (S := fun V : World => Below wc.heap.size wc V ∧ V.cell? ⟨w.heap.size, 0, none⟩ = some (i64 x.client) ∧ V.cell? ⟨w.heap.size, 1, none⟩ = some (i64 x.seq) ∧ V.cell? ⟨w.heap.size, 2, none⟩ = some (i64 x.kind) ∧ V.cell? ⟨w.heap.size, 3, none⟩ = some (.string x.acct) ∧ V.cell? ⟨w.heap.size, 4, none⟩ = some (.string x.peer) ∧ V.cell? ⟨w.heap.size, 5, none⟩ = some (i64 x.sum) ∧ V.cell? ⟨w.heap.size, 6, none⟩ = some (.slice x.la x.legs.length x.lc) ∧ V.cell? ⟨w.heap.size, 7, none⟩ = some (i64 x.period) ∧ V.cell? ⟨w.heap.size, 8, none⟩ = some (i64 x.hold) ∧ V.cell? ⟨w.heap.size, 9, none⟩ = some (.string x.note) ∧ V.cell? ⟨w.heap.size + 1, 0, none⟩ = some (i64 y.client) ∧ V.cell? ⟨w.heap.size + 1, 1, none⟩ = some (i64 y.seq) ∧ V.cell? ⟨w.heap.size + 1, 2, none⟩ = some (i64 y.kind) ∧ V.cell? ⟨w.heap.size + 1, 3, none⟩ = some (.string y.acct) ∧ V.cell? ⟨w.heap.size + 1, 4, none⟩ = some (.string y.peer) ∧ V.cell? ⟨w.heap.size + 1, 5, none⟩ = some (i64 y.sum) ∧ V.cell? ⟨w.heap.size + 1, 6, none⟩ = some (.slice y.la y.legs.length y.lc) ∧ V.cell? ⟨w.heap.size + 1, 7, none⟩ = some (i64 y.period) ∧ V.cell? ⟨w.heap.size + 1, 8, none⟩ = some (i64 y.hold) ∧ V.cell? ⟨w.heap.size + 1, 9, none⟩ = some (.string y.note)) (by kernel_rfl) (hSS _ h0) (fun hH => ?_)
    refine wpAnyH_take (i := 0) (v := ?v1) rfl (by kernel_rfl) (by kernel_rfl) (by kernel_rfl) (fun _ _ _ h => h) (Or.inl ⟨by kernel_rfl, ?hy1⟩) (by assumption) ?r1
    case hy1 => (intro W hSW; obtain ⟨_, f0, f1, f2, f3, f4, f5, f6, f7, f8, f9, g0, g1, g2, g3, g4, g5, g6, g7, g8, g9⟩ := hSW; go_simp; try with_reducible rfl)
    simp only [Act.put, List.getElem_toArray, List.getElem_cons_zero, List.setIfInBounds_toArray, List.set_cons_zero, List.set_cons_succ]
    refine wpAnyH_take (i := 1) (v := ?v2) rfl (by kernel_rfl) (by kernel_rfl) (by kernel_rfl) (fun _ _ _ h => h) (Or.inl ⟨by kernel_rfl, ?hy2⟩) (by assumption) ?r2
    case hy2 => (intro W hSW; obtain ⟨_, f0, f1, f2, f3, f4, f5, f6, f7, f8, f9, g0, g1, g2, g3, g4, g5, g6, g7, g8, g9⟩ := hSW; go_simp; try with_reducible rfl)
    simp only [Act.put, List.getElem_toArray, List.getElem_cons_zero, List.getElem_cons_succ, List.setIfInBounds_toArray, List.set_cons_zero, List.set_cons_succ]
    refine wpAnyH_ready (rs := [2]) (by kernel_rfl) (by simp) ?_
    refine AllReadyH.cons rfl (fun K hK => ?_) AllReadyH.nil
    go_simp
    go_at_call 29
    with_reducible refine (SXX.out _ (hB1 _ h0)).mono ?_
    rintro e u1 ⟨rfl, hF⟩
    have hb1 := below_on h0 (Nat.le_refl _) hF
    clear hF
    refine hK.out _ _ (hSS _ hb1) (fun hH2 => ?_)
    clear hK K
    try simp only [Act.put, List.getElem_toArray, List.getElem_cons_zero, List.getElem_cons_succ, List.setIfInBounds_toArray, List.set_cons_zero, List.set_cons_succ]
    refine wpAnyH_take (i := 3) (v := ?v4) rfl (by kernel_rfl) (by kernel_rfl) (by kernel_rfl) (fun _ _ _ h => h) (Or.inl ⟨by kernel_rfl, ?hy4⟩) (by assumption) ?r4
    case hy4 => (intro W hSW; obtain ⟨_, f0, f1, f2, f3, f4, f5, f6, f7, f8, f9, g0, g1, g2, g3, g4, g5, g6, g7, g8, g9⟩ := hSW; go_simp; try with_reducible rfl)
    simp only [Act.put, List.getElem_toArray, List.getElem_cons_zero, List.getElem_cons_succ, List.setIfInBounds_toArray, List.set_cons_zero, List.set_cons_succ]
    refine wpAnyH_take (i := 4) (v := ?v5) rfl (by kernel_rfl) (by kernel_rfl) (by kernel_rfl) (fun _ _ _ h => h) (Or.inl ⟨by kernel_rfl, ?hy5⟩) (by assumption) ?r5
    case hy5 => (intro W hSW; obtain ⟨_, f0, f1, f2, f3, f4, f5, f6, f7, f8, f9, g0, g1, g2, g3, g4, g5, g6, g7, g8, g9⟩ := hSW; go_simp; try with_reducible rfl)
    simp only [Act.put, List.getElem_toArray, List.getElem_cons_zero, List.getElem_cons_succ, List.setIfInBounds_toArray, List.set_cons_zero, List.set_cons_succ]
    refine wpAnyH_take (i := 5) (v := ?v6) rfl (by kernel_rfl) (by kernel_rfl) (by kernel_rfl) (fun _ _ _ h => h) (Or.inl ⟨by kernel_rfl, ?hy6⟩) (by assumption) ?r6
    case hy6 => (intro W hSW; obtain ⟨_, f0, f1, f2, f3, f4, f5, f6, f7, f8, f9, g0, g1, g2, g3, g4, g5, g6, g7, g8, g9⟩ := hSW; go_simp; try with_reducible rfl)
    simp only [Act.put, List.getElem_toArray, List.getElem_cons_zero, List.getElem_cons_succ, List.setIfInBounds_toArray, List.set_cons_zero, List.set_cons_succ]
    refine wpAnyH_take (i := 7) (v := ?v7) rfl (by kernel_rfl) (by kernel_rfl) (by kernel_rfl) (fun _ _ _ h => h) (Or.inl ⟨by kernel_rfl, ?hy7⟩) (by assumption) ?r7
    case hy7 => (intro W hSW; obtain ⟨_, f0, f1, f2, f3, f4, f5, f6, f7, f8, f9, g0, g1, g2, g3, g4, g5, g6, g7, g8, g9⟩ := hSW; go_simp; try with_reducible rfl)
    simp only [Act.put, List.getElem_toArray, List.getElem_cons_zero, List.getElem_cons_succ, List.setIfInBounds_toArray, List.set_cons_zero, List.set_cons_succ]
    refine wpAnyH_take (i := 8) (v := ?v8) rfl (by kernel_rfl) (by kernel_rfl) (by kernel_rfl) (fun _ _ _ h => h) (Or.inl ⟨by kernel_rfl, ?hy8⟩) (by assumption) ?r8
    case hy8 => (intro W hSW; obtain ⟨_, f0, f1, f2, f3, f4, f5, f6, f7, f8, f9, g0, g1, g2, g3, g4, g5, g6, g7, g8, g9⟩ := hSW; go_simp; try with_reducible rfl)
    simp only [Act.put, List.getElem_toArray, List.getElem_cons_zero, List.getElem_cons_succ, List.setIfInBounds_toArray, List.set_cons_zero, List.set_cons_succ]
    refine wpAnyH_ready (rs := [6]) (by kernel_rfl) (by simp) ?_
    refine AllReadyH.cons rfl (fun K hK => ?_) AllReadyH.nil
    go_simp
    go_at_call 29
    with_reducible refine (SXY.out _ (hB1 _ hb1)).mono ?_
    rintro e u2 ⟨rfl, hF⟩
    have hb2 := below_on hb1 (Nat.le_refl _) hF
    clear hF
    refine hK.out _ _ (hSS _ hb2) (fun hH3 => ?_)
    clear hK K
    try simp only [Act.put, List.getElem_toArray, List.getElem_cons_zero, List.getElem_cons_succ, List.setIfInBounds_toArray, List.set_cons_zero, List.set_cons_succ]
    refine wpAnyH_ready (rs := [9]) (by kernel_rfl) (by simp) ?_
    refine AllReadyH.cons rfl (fun K hK => ?_) AllReadyH.nil
    go_simp
    go_at_call 29
    with_reducible refine (SYX.out _ (hB1 _ hb2)).mono ?_
    rintro e u3 ⟨rfl, hF⟩
    have hb3 := below_on hb2 (Nat.le_refl _) hF
    clear hF
    refine hK.out _ _ (hSS _ hb3) (fun hH4 => ?_)
    clear hK K
    try simp only [Act.put, List.getElem_toArray, List.getElem_cons_zero, List.getElem_cons_succ, List.setIfInBounds_toArray, List.set_cons_zero, List.set_cons_succ]
    refine wpAnyH_take (i := 10) (v := ?v11) rfl (by kernel_rfl) (by kernel_rfl) (by kernel_rfl) (fun _ _ _ h => h) (Or.inl ⟨by kernel_rfl, ?hy11⟩) (by assumption) ?r11
    case hy11 => (intro W hSW; obtain ⟨_, f0, f1, f2, f3, f4, f5, f6, f7, f8, f9, g0, g1, g2, g3, g4, g5, g6, g7, g8, g9⟩ := hSW; go_simp; try with_reducible rfl)
    simp only [Act.put, List.getElem_toArray, List.getElem_cons_zero, List.getElem_cons_succ, List.setIfInBounds_toArray, List.set_cons_zero, List.set_cons_succ]
    refine wpAnyH_take (i := 11) (v := ?v12) rfl (by kernel_rfl) (by kernel_rfl) (by kernel_rfl) (fun _ _ _ h => h) (Or.inl ⟨by kernel_rfl, ?hy12⟩) (by assumption) ?r12
    case hy12 => (intro W hSW; obtain ⟨_, f0, f1, f2, f3, f4, f5, f6, f7, f8, f9, g0, g1, g2, g3, g4, g5, g6, g7, g8, g9⟩ := hSW; go_simp; try with_reducible rfl)
    simp only [Act.put, List.getElem_toArray, List.getElem_cons_zero, List.getElem_cons_succ, List.setIfInBounds_toArray, List.set_cons_zero, List.set_cons_succ]
    refine wpAnyH_take (i := 12) (v := ?v13) rfl (by kernel_rfl) (by kernel_rfl) (by kernel_rfl) (fun _ _ _ h => h) (Or.inl ⟨by kernel_rfl, ?hy13⟩) (by assumption) ?r13
    case hy13 => (intro W hSW; obtain ⟨_, f0, f1, f2, f3, f4, f5, f6, f7, f8, f9, g0, g1, g2, g3, g4, g5, g6, g7, g8, g9⟩ := hSW; go_simp; try with_reducible rfl)
    simp only [Act.put, List.getElem_toArray, List.getElem_cons_zero, List.getElem_cons_succ, List.setIfInBounds_toArray, List.set_cons_zero, List.set_cons_succ]
    refine wpAnyH_take (i := 13) (v := ?v14) rfl (by kernel_rfl) (by kernel_rfl) (by kernel_rfl) (fun _ _ _ h => h) (Or.inl ⟨by kernel_rfl, ?hy14⟩) (by assumption) ?r14
    case hy14 => (intro W hSW; obtain ⟨_, f0, f1, f2, f3, f4, f5, f6, f7, f8, f9, g0, g1, g2, g3, g4, g5, g6, g7, g8, g9⟩ := hSW; go_simp; try with_reducible rfl)
    simp only [Act.put, List.getElem_toArray, List.getElem_cons_zero, List.getElem_cons_succ, List.setIfInBounds_toArray, List.set_cons_zero, List.set_cons_succ]
    refine wpAnyH_take (i := 14) (v := ?v15) rfl (by kernel_rfl) (by kernel_rfl) (by kernel_rfl) (fun _ _ _ h => h) (Or.inl ⟨by kernel_rfl, ?hy15⟩) (by assumption) ?r15
    case hy15 => (intro W hSW; obtain ⟨_, f0, f1, f2, f3, f4, f5, f6, f7, f8, f9, g0, g1, g2, g3, g4, g5, g6, g7, g8, g9⟩ := hSW; go_simp; try with_reducible rfl)
    simp only [Act.put, List.getElem_toArray, List.getElem_cons_zero, List.getElem_cons_succ, List.setIfInBounds_toArray, List.set_cons_zero, List.set_cons_succ]
    refine wpAnyH_take (i := 15) (v := ?v16) rfl (by kernel_rfl) (by kernel_rfl) (by kernel_rfl) (fun _ _ _ h => h) (Or.inl ⟨by kernel_rfl, ?hy16⟩) (by assumption) ?r16
    case hy16 => (intro W hSW; obtain ⟨_, f0, f1, f2, f3, f4, f5, f6, f7, f8, f9, g0, g1, g2, g3, g4, g5, g6, g7, g8, g9⟩ := hSW; go_simp; try with_reducible rfl)
    simp only [Act.put, List.getElem_toArray, List.getElem_cons_zero, List.getElem_cons_succ, List.setIfInBounds_toArray, List.set_cons_zero, List.set_cons_succ]
    refine wpAnyH_take (i := 16) (v := undef) rfl (by kernel_rfl) (by kernel_rfl) (by kernel_rfl) (fun _ _ _ h => h) (Or.inr ⟨by kernel_rfl, rfl⟩) (by assumption) ?r17
    simp only [Act.put, List.getElem_toArray, List.getElem_cons_zero, List.getElem_cons_succ, List.setIfInBounds_toArray, List.set_cons_zero, List.set_cons_succ]
    refine wpAnyH_take (i := 17) (v := undef) rfl (by kernel_rfl) (by kernel_rfl) (by kernel_rfl) (fun _ _ _ h => h) (Or.inr ⟨by kernel_rfl, rfl⟩) (by assumption) ?r18
    simp only [Act.put, List.getElem_toArray, List.getElem_cons_zero, List.getElem_cons_succ, List.setIfInBounds_toArray, List.set_cons_zero, List.set_cons_succ]
    refine wpAnyH_take (i := 18) (v := ?v19) rfl (by kernel_rfl) (by kernel_rfl) (by kernel_rfl) (fun _ _ _ h => h) (Or.inl ⟨by kernel_rfl, ?hy19⟩) (by assumption) ?r19
    case hy19 => (intro W hSW; obtain ⟨_, f0, f1, f2, f3, f4, f5, f6, f7, f8, f9, g0, g1, g2, g3, g4, g5, g6, g7, g8, g9⟩ := hSW; go_simp; try with_reducible rfl)
    simp only [Act.put, List.getElem_toArray, List.getElem_cons_zero, List.getElem_cons_succ, List.setIfInBounds_toArray, List.set_cons_zero, List.set_cons_succ]
    refine wpAnyH_take (i := 19) (v := ?v20) rfl (by kernel_rfl) (by kernel_rfl) (by kernel_rfl) (fun _ _ _ h => h) (Or.inl ⟨by kernel_rfl, ?hy20⟩) (by assumption) ?r20
    case hy20 => (intro W hSW; obtain ⟨_, f0, f1, f2, f3, f4, f5, f6, f7, f8, f9, g0, g1, g2, g3, g4, g5, g6, g7, g8, g9⟩ := hSW; go_simp; try with_reducible rfl)
    simp only [Act.put, List.getElem_toArray, List.getElem_cons_zero, List.getElem_cons_succ, List.setIfInBounds_toArray, List.set_cons_zero, List.set_cons_succ]
    refine wpAnyH_take (i := 20) (v := undef) rfl (by kernel_rfl) (by kernel_rfl) (by kernel_rfl) (fun _ _ _ h => h) (Or.inr ⟨by kernel_rfl, rfl⟩) (by assumption) ?r21
    simp only [Act.put, List.getElem_toArray, List.getElem_cons_zero, List.getElem_cons_succ, List.setIfInBounds_toArray, List.set_cons_zero, List.set_cons_succ]
    refine wpAnyH_take (i := 21) (v := undef) rfl (by kernel_rfl) (by kernel_rfl) (by kernel_rfl) (fun _ _ _ h => h) (Or.inr ⟨by kernel_rfl, rfl⟩) (by assumption) ?r22
    simp only [Act.put, List.getElem_toArray, List.getElem_cons_zero, List.getElem_cons_succ, List.setIfInBounds_toArray, List.set_cons_zero, List.set_cons_succ]
    refine wpAnyH_take (i := 22) (v := undef) rfl (by kernel_rfl) (by kernel_rfl) (by kernel_rfl) (fun _ _ _ h => h) (Or.inr ⟨by kernel_rfl, rfl⟩) (by assumption) ?r23
    simp only [Act.put, List.getElem_toArray, List.getElem_cons_zero, List.getElem_cons_succ, List.setIfInBounds_toArray, List.set_cons_zero, List.set_cons_succ]
    refine wpAnyH_take (i := 23) (v := undef) rfl (by kernel_rfl) (by kernel_rfl) (by kernel_rfl) (fun _ _ _ h => h) (Or.inr ⟨by kernel_rfl, rfl⟩) (by assumption) ?r24
    simp only [Act.put, List.getElem_toArray, List.getElem_cons_zero, List.getElem_cons_succ, List.setIfInBounds_toArray, List.set_cons_zero, List.set_cons_succ]
    refine wpAnyH_take (i := 24) (v := undef) rfl (by kernel_rfl) (by kernel_rfl) (by kernel_rfl) (fun _ _ _ h => h) (Or.inr ⟨by kernel_rfl, rfl⟩) (by assumption) ?r25
    simp only [Act.put, List.getElem_toArray, List.getElem_cons_zero, List.getElem_cons_succ, List.setIfInBounds_toArray, List.set_cons_zero, List.set_cons_succ]
    refine wpAnyH_take (i := 25) (v := undef) rfl (by kernel_rfl) (by kernel_rfl) (by kernel_rfl) (fun _ _ _ h => h) (Or.inr ⟨by kernel_rfl, rfl⟩) (by assumption) ?r26
    simp only [Act.put, List.getElem_toArray, List.getElem_cons_zero, List.getElem_cons_succ, List.setIfInBounds_toArray, List.set_cons_zero, List.set_cons_succ]
    refine wpAnyH_take (i := 26) (v := undef) rfl (by kernel_rfl) (by kernel_rfl) (by kernel_rfl) (fun _ _ _ h => h) (Or.inr ⟨by kernel_rfl, rfl⟩) (by assumption) ?r27
    simp only [Act.put, List.getElem_toArray, List.getElem_cons_zero, List.getElem_cons_succ, List.setIfInBounds_toArray, List.set_cons_zero, List.set_cons_succ]
    refine wpAnyH_take (i := 27) (v := undef) rfl (by kernel_rfl) (by kernel_rfl) (by kernel_rfl) (fun _ _ _ h => h) (Or.inr ⟨by kernel_rfl, rfl⟩) (by assumption) ?r28
    simp only [Act.put, List.getElem_toArray, List.getElem_cons_zero, List.getElem_cons_succ, List.setIfInBounds_toArray, List.set_cons_zero, List.set_cons_succ]
    refine wpAnyH_take (i := 28) (v := undef) rfl (by kernel_rfl) (by kernel_rfl) (by kernel_rfl) (fun _ _ _ h => h) (Or.inr ⟨by kernel_rfl, rfl⟩) (by assumption) ?r29
    simp only [Act.put, List.getElem_toArray, List.getElem_cons_zero, List.getElem_cons_succ, List.setIfInBounds_toArray, List.set_cons_zero, List.set_cons_succ]
    refine wpAnyH_take (i := 29) (v := ?v30) rfl (by kernel_rfl) (by kernel_rfl) (by kernel_rfl) (fun _ _ _ h => h) (Or.inl ⟨by kernel_rfl, ?hy30⟩) (by assumption) ?r30
    case hy30 => (intro W hSW; obtain ⟨_, f0, f1, f2, f3, f4, f5, f6, f7, f8, f9, g0, g1, g2, g3, g4, g5, g6, g7, g8, g9⟩ := hSW; go_simp; try with_reducible rfl)
    simp only [Act.put, List.getElem_toArray, List.getElem_cons_zero, List.getElem_cons_succ, List.setIfInBounds_toArray, List.set_cons_zero, List.set_cons_succ]
    refine wpAnyH_take (i := 30) (v := ?v31) rfl (by kernel_rfl) (by kernel_rfl) (by kernel_rfl) (fun _ _ _ h => h) (Or.inl ⟨by kernel_rfl, ?hy31⟩) (by assumption) ?r31
    case hy31 => (intro W hSW; obtain ⟨_, f0, f1, f2, f3, f4, f5, f6, f7, f8, f9, g0, g1, g2, g3, g4, g5, g6, g7, g8, g9⟩ := hSW; go_simp; try with_reducible rfl)
    simp only [Act.put, List.getElem_toArray, List.getElem_cons_zero, List.getElem_cons_succ, List.setIfInBounds_toArray, List.set_cons_zero, List.set_cons_succ]
    refine wpAnyH_take (i := 31) (v := ?v32) rfl (by kernel_rfl) (by kernel_rfl) (by kernel_rfl) (fun _ _ _ h => h) (Or.inl ⟨by kernel_rfl, ?hy32⟩) (by assumption) ?r32
    case hy32 => (intro W hSW; obtain ⟨_, f0, f1, f2, f3, f4, f5, f6, f7, f8, f9, g0, g1, g2, g3, g4, g5, g6, g7, g8, g9⟩ := hSW; go_simp; try with_reducible rfl)
    simp only [Act.put, List.getElem_toArray, List.getElem_cons_zero, List.getElem_cons_succ, List.setIfInBounds_toArray, List.set_cons_zero, List.set_cons_succ]
    refine wpAnyH_done (by kernel_rfl) ?_ _
    refine NoPanic.normal ?_
    clear hSS
    go_wp2
    go_ret
    exact ⟨by simp, hB1 _ hb3⟩
  cases hry : ry
  · rw [hrx] at ex1
    rw [hry] at ey1
    clear hrx hry NX NY Hnum ex0 ey0
    refine wp_region_noPanic ?_
    refine wp_region_held_drew (S := fun V : World => Below wc.heap.size wc V ∧ V.cell? ⟨w.heap.size, 0, none⟩ = some (i64 x.client) ∧ V.cell? ⟨w.heap.size, 1, none⟩ = some (i64 x.seq) ∧ V.cell? ⟨w.heap.size, 2, none⟩ = some (i64 x.kind) ∧ V.cell? ⟨w.heap.size, 3, none⟩ = some (.string x.acct) ∧ V.cell? ⟨w.heap.size, 4, none⟩ = some (.string x.peer) ∧ V.cell? ⟨w.heap.size, 5, none⟩ = some (i64 x.sum) ∧ V.cell? ⟨w.heap.size, 6, none⟩ = some (.slice x.la x.legs.length x.lc) ∧ V.cell? ⟨w.heap.size, 7, none⟩ = some (i64 x.period) ∧ V.cell? ⟨w.heap.size, 8, none⟩ = some (i64 x.hold) ∧ V.cell? ⟨w.heap.size, 9, none⟩ = some (.string x.note) ∧ V.cell? ⟨w.heap.size + 1, 0, none⟩ = some (i64 y.client) ∧ V.cell? ⟨w.heap.size + 1, 1, none⟩ = some (i64 y.seq) ∧ V.cell? ⟨w.heap.size + 1, 2, none⟩ = some (i64 y.kind) ∧ V.cell? ⟨w.heap.size + 1, 3, none⟩ = some (.string y.acct) ∧ V.cell? ⟨w.heap.size + 1, 4, none⟩ = some (.string y.peer) ∧ V.cell? ⟨w.heap.size + 1, 5, none⟩ = some (i64 y.sum) ∧ V.cell? ⟨w.heap.size + 1, 6, none⟩ = some (.slice y.la y.legs.length y.lc) ∧ V.cell? ⟨w.heap.size + 1, 7, none⟩ = some (i64 y.period) ∧ V.cell? ⟨w.heap.size + 1, 8, none⟩ = some (i64 y.hold) ∧ V.cell? ⟨w.heap.size + 1, 9, none⟩ = some (.string y.note)) (by kernel_rfl) (hSS _ h0) (fun hH => ?_)
    refine wpAnyH_take (i := 0) (v := ?v33) rfl (by kernel_rfl) (by kernel_rfl) (by kernel_rfl) (fun _ _ _ h => h) (Or.inl ⟨by kernel_rfl, ?hy33⟩) (by assumption) ?r33
    case hy33 => (intro W hSW; obtain ⟨_, f0, f1, f2, f3, f4, f5, f6, f7, f8, f9, g0, g1, g2, g3, g4, g5, g6, g7, g8, g9⟩ := hSW; go_simp; try with_reducible rfl)
    simp only [Act.put, List.getElem_toArray, List.getElem_cons_zero, List.setIfInBounds_toArray, List.set_cons_zero, List.set_cons_succ]
    refine wpAnyH_take (i := 1) (v := ?v34) rfl (by kernel_rfl) (by kernel_rfl) (by kernel_rfl) (fun _ _ _ h => h) (Or.inl ⟨by kernel_rfl, ?hy34⟩) (by assumption) ?r34
    case hy34 => (intro W hSW; obtain ⟨_, f0, f1, f2, f3, f4, f5, f6, f7, f8, f9, g0, g1, g2, g3, g4, g5, g6, g7, g8, g9⟩ := hSW; go_simp; try with_reducible rfl)
    simp only [Act.put, List.getElem_toArray, List.getElem_cons_zero, List.getElem_cons_succ, List.setIfInBounds_toArray, List.set_cons_zero, List.set_cons_succ]
    refine wpAnyH_ready (rs := [2]) (by kernel_rfl) (by simp) ?_
    refine AllReadyH.cons rfl (fun K hK => ?_) AllReadyH.nil
    go_simp
    go_at_call 29
    with_reducible refine (SXX.out _ (hB1 _ h0)).mono ?_
    rintro e u1 ⟨rfl, hF⟩
    have hb1 := below_on h0 (Nat.le_refl _) hF
    clear hF
    refine hK.out _ _ (hSS _ hb1) (fun hH2 => ?_)
    clear hK K
    try simp only [Act.put, List.getElem_toArray, List.getElem_cons_zero, List.getElem_cons_succ, List.setIfInBounds_toArray, List.set_cons_zero, List.set_cons_succ]
    refine wpAnyH_take (i := 3) (v := ?v36) rfl (by kernel_rfl) (by kernel_rfl) (by kernel_rfl) (fun _ _ _ h => h) (Or.inl ⟨by kernel_rfl, ?hy36⟩) (by assumption) ?r36
    case hy36 => (intro W hSW; obtain ⟨_, f0, f1, f2, f3, f4, f5, f6, f7, f8, f9, g0, g1, g2, g3, g4, g5, g6, g7, g8, g9⟩ := hSW; go_simp; try with_reducible rfl)
    simp only [Act.put, List.getElem_toArray, List.getElem_cons_zero, List.getElem_cons_succ, List.setIfInBounds_toArray, List.set_cons_zero, List.set_cons_succ]
    refine wpAnyH_take (i := 4) (v := ?v37) rfl (by kernel_rfl) (by kernel_rfl) (by kernel_rfl) (fun _ _ _ h => h) (Or.inl ⟨by kernel_rfl, ?hy37⟩) (by assumption) ?r37
    case hy37 => (intro W hSW; obtain ⟨_, f0, f1, f2, f3, f4, f5, f6, f7, f8, f9, g0, g1, g2, g3, g4, g5, g6, g7, g8, g9⟩ := hSW; go_simp; try with_reducible rfl)
    simp only [Act.put, List.getElem_toArray, List.getElem_cons_zero, List.getElem_cons_succ, List.setIfInBounds_toArray, List.set_cons_zero, List.set_cons_succ]
    refine wpAnyH_take (i := 5) (v := ?v38) rfl (by kernel_rfl) (by kernel_rfl) (by kernel_rfl) (fun _ _ _ h => h) (Or.inl ⟨by kernel_rfl, ?hy38⟩) (by assumption) ?r38
    case hy38 => (intro W hSW; obtain ⟨_, f0, f1, f2, f3, f4, f5, f6, f7, f8, f9, g0, g1, g2, g3, g4, g5, g6, g7, g8, g9⟩ := hSW; go_simp; try with_reducible rfl)
    simp only [Act.put, List.getElem_toArray, List.getElem_cons_zero, List.getElem_cons_succ, List.setIfInBounds_toArray, List.set_cons_zero, List.set_cons_succ]
    refine wpAnyH_take (i := 7) (v := ?v39) rfl (by kernel_rfl) (by kernel_rfl) (by kernel_rfl) (fun _ _ _ h => h) (Or.inl ⟨by kernel_rfl, ?hy39⟩) (by assumption) ?r39
    case hy39 => (intro W hSW; obtain ⟨_, f0, f1, f2, f3, f4, f5, f6, f7, f8, f9, g0, g1, g2, g3, g4, g5, g6, g7, g8, g9⟩ := hSW; go_simp; try with_reducible rfl)
    simp only [Act.put, List.getElem_toArray, List.getElem_cons_zero, List.getElem_cons_succ, List.setIfInBounds_toArray, List.set_cons_zero, List.set_cons_succ]
    refine wpAnyH_take (i := 8) (v := ?v40) rfl (by kernel_rfl) (by kernel_rfl) (by kernel_rfl) (fun _ _ _ h => h) (Or.inl ⟨by kernel_rfl, ?hy40⟩) (by assumption) ?r40
    case hy40 => (intro W hSW; obtain ⟨_, f0, f1, f2, f3, f4, f5, f6, f7, f8, f9, g0, g1, g2, g3, g4, g5, g6, g7, g8, g9⟩ := hSW; go_simp; try with_reducible rfl)
    simp only [Act.put, List.getElem_toArray, List.getElem_cons_zero, List.getElem_cons_succ, List.setIfInBounds_toArray, List.set_cons_zero, List.set_cons_succ]
    refine wpAnyH_ready (rs := [6]) (by kernel_rfl) (by simp) ?_
    refine AllReadyH.cons rfl (fun K hK => ?_) AllReadyH.nil
    go_simp
    go_at_call 29
    with_reducible refine (SXY.out _ (hB1 _ hb1)).mono ?_
    rintro e u2 ⟨rfl, hF⟩
    have hb2 := below_on hb1 (Nat.le_refl _) hF
    clear hF
    refine hK.out _ _ (hSS _ hb2) (fun hH3 => ?_)
    clear hK K
    try simp only [Act.put, List.getElem_toArray, List.getElem_cons_zero, List.getElem_cons_succ, List.setIfInBounds_toArray, List.set_cons_zero, List.set_cons_succ]
    refine wpAnyH_ready (rs := [9]) (by kernel_rfl) (by simp) ?_
    refine AllReadyH.cons rfl (fun K hK => ?_) AllReadyH.nil
    go_simp
    go_at_call 29
    with_reducible refine (SYX.out _ (hB1 _ hb2)).mono ?_
    rintro e u3 ⟨rfl, hF⟩
    have hb3 := below_on hb2 (Nat.le_refl _) hF
    clear hF
    refine hK.out _ _ (hSS _ hb3) (fun hH4 => ?_)
    clear hK K
    try simp only [Act.put, List.getElem_toArray, List.getElem_cons_zero, List.getElem_cons_succ, List.setIfInBounds_toArray, List.set_cons_zero, List.set_cons_succ]
    refine wpAnyH_take (i := 10) (v := ?v43) rfl (by kernel_rfl) (by kernel_rfl) (by kernel_rfl) (fun _ _ _ h => h) (Or.inl ⟨by kernel_rfl, ?hy43⟩) (by assumption) ?r43
    case hy43 => (intro W hSW; obtain ⟨_, f0, f1, f2, f3, f4, f5, f6, f7, f8, f9, g0, g1, g2, g3, g4, g5, g6, g7, g8, g9⟩ := hSW; go_simp; try with_reducible rfl)
    simp only [Act.put, List.getElem_toArray, List.getElem_cons_zero, List.getElem_cons_succ, List.setIfInBounds_toArray, List.set_cons_zero, List.set_cons_succ]
    refine wpAnyH_take (i := 11) (v := ?v44) rfl (by kernel_rfl) (by kernel_rfl) (by kernel_rfl) (fun _ _ _ h => h) (Or.inl ⟨by kernel_rfl, ?hy44⟩) (by assumption) ?r44
    case hy44 => (intro W hSW; obtain ⟨_, f0, f1, f2, f3, f4, f5, f6, f7, f8, f9, g0, g1, g2, g3, g4, g5, g6, g7, g8, g9⟩ := hSW; go_simp; try with_reducible rfl)
    simp only [Act.put, List.getElem_toArray, List.getElem_cons_zero, List.getElem_cons_succ, List.setIfInBounds_toArray, List.set_cons_zero, List.set_cons_succ]
    refine wpAnyH_take (i := 12) (v := ?v45) rfl (by kernel_rfl) (by kernel_rfl) (by kernel_rfl) (fun _ _ _ h => h) (Or.inl ⟨by kernel_rfl, ?hy45⟩) (by assumption) ?r45
    case hy45 => (intro W hSW; obtain ⟨_, f0, f1, f2, f3, f4, f5, f6, f7, f8, f9, g0, g1, g2, g3, g4, g5, g6, g7, g8, g9⟩ := hSW; go_simp; try with_reducible rfl)
    simp only [Act.put, List.getElem_toArray, List.getElem_cons_zero, List.getElem_cons_succ, List.setIfInBounds_toArray, List.set_cons_zero, List.set_cons_succ]
    refine wpAnyH_take (i := 13) (v := ?v46) rfl (by kernel_rfl) (by kernel_rfl) (by kernel_rfl) (fun _ _ _ h => h) (Or.inl ⟨by kernel_rfl, ?hy46⟩) (by assumption) ?r46
    case hy46 => (intro W hSW; obtain ⟨_, f0, f1, f2, f3, f4, f5, f6, f7, f8, f9, g0, g1, g2, g3, g4, g5, g6, g7, g8, g9⟩ := hSW; go_simp; try with_reducible rfl)
    simp only [Act.put, List.getElem_toArray, List.getElem_cons_zero, List.getElem_cons_succ, List.setIfInBounds_toArray, List.set_cons_zero, List.set_cons_succ]
    refine wpAnyH_take (i := 14) (v := ?v47) rfl (by kernel_rfl) (by kernel_rfl) (by kernel_rfl) (fun _ _ _ h => h) (Or.inl ⟨by kernel_rfl, ?hy47⟩) (by assumption) ?r47
    case hy47 => (intro W hSW; obtain ⟨_, f0, f1, f2, f3, f4, f5, f6, f7, f8, f9, g0, g1, g2, g3, g4, g5, g6, g7, g8, g9⟩ := hSW; go_simp; try with_reducible rfl)
    simp only [Act.put, List.getElem_toArray, List.getElem_cons_zero, List.getElem_cons_succ, List.setIfInBounds_toArray, List.set_cons_zero, List.set_cons_succ]
    refine wpAnyH_take (i := 15) (v := ?v48) rfl (by kernel_rfl) (by kernel_rfl) (by kernel_rfl) (fun _ _ _ h => h) (Or.inl ⟨by kernel_rfl, ?hy48⟩) (by assumption) ?r48
    case hy48 => (intro W hSW; obtain ⟨_, f0, f1, f2, f3, f4, f5, f6, f7, f8, f9, g0, g1, g2, g3, g4, g5, g6, g7, g8, g9⟩ := hSW; go_simp; try with_reducible rfl)
    simp only [Act.put, List.getElem_toArray, List.getElem_cons_zero, List.getElem_cons_succ, List.setIfInBounds_toArray, List.set_cons_zero, List.set_cons_succ]
    refine wpAnyH_take (i := 16) (v := ?v49) rfl (by kernel_rfl) (by kernel_rfl) (by kernel_rfl) (fun _ _ _ h => h) (Or.inl ⟨by kernel_rfl, ?hy49⟩) (by assumption) ?r49
    case hy49 => (intro W hSW; obtain ⟨_, f0, f1, f2, f3, f4, f5, f6, f7, f8, f9, g0, g1, g2, g3, g4, g5, g6, g7, g8, g9⟩ := hSW; go_simp; try with_reducible rfl)
    simp only [Act.put, List.getElem_toArray, List.getElem_cons_zero, List.getElem_cons_succ, List.setIfInBounds_toArray, List.set_cons_zero, List.set_cons_succ]
    refine wpAnyH_take (i := 17) (v := ?v50) rfl (by kernel_rfl) (by kernel_rfl) (by kernel_rfl) (fun _ _ _ h => h) (Or.inl ⟨by kernel_rfl, ?hy50⟩) (by assumption) ?r50
    case hy50 => (intro W hSW; obtain ⟨_, f0, f1, f2, f3, f4, f5, f6, f7, f8, f9, g0, g1, g2, g3, g4, g5, g6, g7, g8, g9⟩ := hSW; go_simp; try with_reducible rfl)
    simp only [Act.put, List.getElem_toArray, List.getElem_cons_zero, List.getElem_cons_succ, List.setIfInBounds_toArray, List.set_cons_zero, List.set_cons_succ]
    refine wpAnyH_take (i := 18) (v := ?v51) rfl (by kernel_rfl) (by kernel_rfl) (by kernel_rfl) (fun _ _ _ h => h) (Or.inl ⟨by kernel_rfl, ?hy51⟩) (by assumption) ?r51
    case hy51 => (intro W hSW; obtain ⟨_, f0, f1, f2, f3, f4, f5, f6, f7, f8, f9, g0, g1, g2, g3, g4, g5, g6, g7, g8, g9⟩ := hSW; go_simp; try with_reducible rfl)
    simp only [Act.put, List.getElem_toArray, List.getElem_cons_zero, List.getElem_cons_succ, List.setIfInBounds_toArray, List.set_cons_zero, List.set_cons_succ]
    refine wpAnyH_take (i := 19) (v := ?v52) rfl (by kernel_rfl) (by kernel_rfl) (by kernel_rfl) (fun _ _ _ h => h) (Or.inl ⟨by kernel_rfl, ?hy52⟩) (by assumption) ?r52
    case hy52 => (intro W hSW; obtain ⟨_, f0, f1, f2, f3, f4, f5, f6, f7, f8, f9, g0, g1, g2, g3, g4, g5, g6, g7, g8, g9⟩ := hSW; go_simp; try with_reducible rfl)
    simp only [Act.put, List.getElem_toArray, List.getElem_cons_zero, List.getElem_cons_succ, List.setIfInBounds_toArray, List.set_cons_zero, List.set_cons_succ]
    refine wpAnyH_take (i := 20) (v := undef) rfl (by kernel_rfl) (by kernel_rfl) (by kernel_rfl) (fun _ _ _ h => h) (Or.inr ⟨by kernel_rfl, rfl⟩) (by assumption) ?r53
    simp only [Act.put, List.getElem_toArray, List.getElem_cons_zero, List.getElem_cons_succ, List.setIfInBounds_toArray, List.set_cons_zero, List.set_cons_succ]
    refine wpAnyH_take (i := 21) (v := undef) rfl (by kernel_rfl) (by kernel_rfl) (by kernel_rfl) (fun _ _ _ h => h) (Or.inr ⟨by kernel_rfl, rfl⟩) (by assumption) ?r54
    simp only [Act.put, List.getElem_toArray, List.getElem_cons_zero, List.getElem_cons_succ, List.setIfInBounds_toArray, List.set_cons_zero, List.set_cons_succ]
    refine wpAnyH_take (i := 22) (v := undef) rfl (by kernel_rfl) (by kernel_rfl) (by kernel_rfl) (fun _ _ _ h => h) (Or.inr ⟨by kernel_rfl, rfl⟩) (by assumption) ?r55
    simp only [Act.put, List.getElem_toArray, List.getElem_cons_zero, List.getElem_cons_succ, List.setIfInBounds_toArray, List.set_cons_zero, List.set_cons_succ]
    refine wpAnyH_take (i := 23) (v := undef) rfl (by kernel_rfl) (by kernel_rfl) (by kernel_rfl) (fun _ _ _ h => h) (Or.inr ⟨by kernel_rfl, rfl⟩) (by assumption) ?r56
    simp only [Act.put, List.getElem_toArray, List.getElem_cons_zero, List.getElem_cons_succ, List.setIfInBounds_toArray, List.set_cons_zero, List.set_cons_succ]
    refine wpAnyH_take (i := 24) (v := undef) rfl (by kernel_rfl) (by kernel_rfl) (by kernel_rfl) (fun _ _ _ h => h) (Or.inr ⟨by kernel_rfl, rfl⟩) (by assumption) ?r57
    simp only [Act.put, List.getElem_toArray, List.getElem_cons_zero, List.getElem_cons_succ, List.setIfInBounds_toArray, List.set_cons_zero, List.set_cons_succ]
    refine wpAnyH_take (i := 25) (v := undef) rfl (by kernel_rfl) (by kernel_rfl) (by kernel_rfl) (fun _ _ _ h => h) (Or.inr ⟨by kernel_rfl, rfl⟩) (by assumption) ?r58
    simp only [Act.put, List.getElem_toArray, List.getElem_cons_zero, List.getElem_cons_succ, List.setIfInBounds_toArray, List.set_cons_zero, List.set_cons_succ]
    refine wpAnyH_take (i := 26) (v := undef) rfl (by kernel_rfl) (by kernel_rfl) (by kernel_rfl) (fun _ _ _ h => h) (Or.inr ⟨by kernel_rfl, rfl⟩) (by assumption) ?r59
    simp only [Act.put, List.getElem_toArray, List.getElem_cons_zero, List.getElem_cons_succ, List.setIfInBounds_toArray, List.set_cons_zero, List.set_cons_succ]
    refine wpAnyH_take (i := 27) (v := undef) rfl (by kernel_rfl) (by kernel_rfl) (by kernel_rfl) (fun _ _ _ h => h) (Or.inr ⟨by kernel_rfl, rfl⟩) (by assumption) ?r60
    simp only [Act.put, List.getElem_toArray, List.getElem_cons_zero, List.getElem_cons_succ, List.setIfInBounds_toArray, List.set_cons_zero, List.set_cons_succ]
    refine wpAnyH_take (i := 28) (v := undef) rfl (by kernel_rfl) (by kernel_rfl) (by kernel_rfl) (fun _ _ _ h => h) (Or.inr ⟨by kernel_rfl, rfl⟩) (by assumption) ?r61
    simp only [Act.put, List.getElem_toArray, List.getElem_cons_zero, List.getElem_cons_succ, List.setIfInBounds_toArray, List.set_cons_zero, List.set_cons_succ]
    refine wpAnyH_take (i := 29) (v := ?v62) rfl (by kernel_rfl) (by kernel_rfl) (by kernel_rfl) (fun _ _ _ h => h) (Or.inl ⟨by kernel_rfl, ?hy62⟩) (by assumption) ?r62
    case hy62 => (intro W hSW; obtain ⟨_, f0, f1, f2, f3, f4, f5, f6, f7, f8, f9, g0, g1, g2, g3, g4, g5, g6, g7, g8, g9⟩ := hSW; go_simp; try with_reducible rfl)
    simp only [Act.put, List.getElem_toArray, List.getElem_cons_zero, List.getElem_cons_succ, List.setIfInBounds_toArray, List.set_cons_zero, List.set_cons_succ]
    refine wpAnyH_take (i := 30) (v := ?v63) rfl (by kernel_rfl) (by kernel_rfl) (by kernel_rfl) (fun _ _ _ h => h) (Or.inl ⟨by kernel_rfl, ?hy63⟩) (by assumption) ?r63
    case hy63 => (intro W hSW; obtain ⟨_, f0, f1, f2, f3, f4, f5, f6, f7, f8, f9, g0, g1, g2, g3, g4, g5, g6, g7, g8, g9⟩ := hSW; go_simp; try with_reducible rfl)
    simp only [Act.put, List.getElem_toArray, List.getElem_cons_zero, List.getElem_cons_succ, List.setIfInBounds_toArray, List.set_cons_zero, List.set_cons_succ]
    refine wpAnyH_take (i := 31) (v := ?v64) rfl (by kernel_rfl) (by kernel_rfl) (by kernel_rfl) (fun _ _ _ h => h) (Or.inl ⟨by kernel_rfl, ?hy64⟩) (by assumption) ?r64
    case hy64 => (intro W hSW; obtain ⟨_, f0, f1, f2, f3, f4, f5, f6, f7, f8, f9, g0, g1, g2, g3, g4, g5, g6, g7, g8, g9⟩ := hSW; go_simp; try with_reducible rfl)
    simp only [Act.put, List.getElem_toArray, List.getElem_cons_zero, List.getElem_cons_succ, List.setIfInBounds_toArray, List.set_cons_zero, List.set_cons_succ]
    refine wpAnyH_done (by kernel_rfl) ?_ _
    refine NoPanic.normal ?_
    clear hSS
    go_wp2
    go_ret
    exact ⟨by simp, hB1 _ hb3⟩
  rw [hrx] at ex1
  rw [hry] at ey1
  have G := Hnum.out hrx hry
  clear Hnum ex0 ey0
  refine wp_region_noPanic ?_
  refine wp_region_held_drew (S := fun V : World => Below wc.heap.size wc V ∧ V.cell? ⟨w.heap.size, 0, none⟩ = some (i64 x.client) ∧ V.cell? ⟨w.heap.size, 1, none⟩ = some (i64 x.seq) ∧ V.cell? ⟨w.heap.size, 2, none⟩ = some (i64 x.kind) ∧ V.cell? ⟨w.heap.size, 3, none⟩ = some (.string x.acct) ∧ V.cell? ⟨w.heap.size, 4, none⟩ = some (.string x.peer) ∧ V.cell? ⟨w.heap.size, 5, none⟩ = some (i64 x.sum) ∧ V.cell? ⟨w.heap.size, 6, none⟩ = some (.slice x.la x.legs.length x.lc) ∧ V.cell? ⟨w.heap.size, 7, none⟩ = some (i64 x.period) ∧ V.cell? ⟨w.heap.size, 8, none⟩ = some (i64 x.hold) ∧ V.cell? ⟨w.heap.size, 9, none⟩ = some (.string x.note) ∧ V.cell? ⟨w.heap.size + 1, 0, none⟩ = some (i64 y.client) ∧ V.cell? ⟨w.heap.size + 1, 1, none⟩ = some (i64 y.seq) ∧ V.cell? ⟨w.heap.size + 1, 2, none⟩ = some (i64 y.kind) ∧ V.cell? ⟨w.heap.size + 1, 3, none⟩ = some (.string y.acct) ∧ V.cell? ⟨w.heap.size + 1, 4, none⟩ = some (.string y.peer) ∧ V.cell? ⟨w.heap.size + 1, 5, none⟩ = some (i64 y.sum) ∧ V.cell? ⟨w.heap.size + 1, 6, none⟩ = some (.slice y.la y.legs.length y.lc) ∧ V.cell? ⟨w.heap.size + 1, 7, none⟩ = some (i64 y.period) ∧ V.cell? ⟨w.heap.size + 1, 8, none⟩ = some (i64 y.hold) ∧ V.cell? ⟨w.heap.size + 1, 9, none⟩ = some (.string y.note)) (by kernel_rfl) (hSS _ h0) (fun hH => ?_)
  refine wpAnyH_take (i := 0) (v := ?v65) rfl (by kernel_rfl) (by kernel_rfl) (by kernel_rfl) (fun _ _ _ h => h) (Or.inl ⟨by kernel_rfl, ?hy65⟩) (by assumption) ?r65
  case hy65 => (intro W hSW; obtain ⟨_, f0, f1, f2, f3, f4, f5, f6, f7, f8, f9, g0, g1, g2, g3, g4, g5, g6, g7, g8, g9⟩ := hSW; go_simp; try with_reducible rfl)
  simp only [Act.put, List.getElem_toArray, List.getElem_cons_zero, List.setIfInBounds_toArray, List.set_cons_zero, List.set_cons_succ]
  refine wpAnyH_take (i := 1) (v := ?v66) rfl (by kernel_rfl) (by kernel_rfl) (by kernel_rfl) (fun _ _ _ h => h) (Or.inl ⟨by kernel_rfl, ?hy66⟩) (by assumption) ?r66
  case hy66 => (intro W hSW; obtain ⟨_, f0, f1, f2, f3, f4, f5, f6, f7, f8, f9, g0, g1, g2, g3, g4, g5, g6, g7, g8, g9⟩ := hSW; go_simp; try with_reducible rfl)
  simp only [Act.put, List.getElem_toArray, List.getElem_cons_zero, List.getElem_cons_succ, List.setIfInBounds_toArray, List.set_cons_zero, List.set_cons_succ]
  refine wpAnyH_ready (rs := [2]) (by kernel_rfl) (by simp) ?_
  refine AllReadyH.cons rfl (fun K hK => ?_) AllReadyH.nil
  go_simp
  go_at_call 29
  with_reducible refine (SXX.out _ (hB1 _ h0)).mono ?_
  rintro e u1 ⟨rfl, hF⟩
  have hb1 := below_on h0 (Nat.le_refl _) hF
  clear hF
  refine hK.out _ _ (hSS _ hb1) (fun hH2 => ?_)
  clear hK K
  try simp only [Act.put, List.getElem_toArray, List.getElem_cons_zero, List.getElem_cons_succ, List.setIfInBounds_toArray, List.set_cons_zero, List.set_cons_succ]
  refine wpAnyH_take (i := 3) (v := ?v68) rfl (by kernel_rfl) (by kernel_rfl) (by kernel_rfl) (fun _ _ _ h => h) (Or.inl ⟨by kernel_rfl, ?hy68⟩) (by assumption) ?r68
  case hy68 => (intro W hSW; obtain ⟨_, f0, f1, f2, f3, f4, f5, f6, f7, f8, f9, g0, g1, g2, g3, g4, g5, g6, g7, g8, g9⟩ := hSW; go_simp; try with_reducible rfl)
  simp only [Act.put, List.getElem_toArray, List.getElem_cons_zero, List.getElem_cons_succ, List.setIfInBounds_toArray, List.set_cons_zero, List.set_cons_succ]
  refine wpAnyH_take (i := 4) (v := ?v69) rfl (by kernel_rfl) (by kernel_rfl) (by kernel_rfl) (fun _ _ _ h => h) (Or.inl ⟨by kernel_rfl, ?hy69⟩) (by assumption) ?r69
  case hy69 => (intro W hSW; obtain ⟨_, f0, f1, f2, f3, f4, f5, f6, f7, f8, f9, g0, g1, g2, g3, g4, g5, g6, g7, g8, g9⟩ := hSW; go_simp; try with_reducible rfl)
  simp only [Act.put, List.getElem_toArray, List.getElem_cons_zero, List.getElem_cons_succ, List.setIfInBounds_toArray, List.set_cons_zero, List.set_cons_succ]
  refine wpAnyH_take (i := 5) (v := ?v70) rfl (by kernel_rfl) (by kernel_rfl) (by kernel_rfl) (fun _ _ _ h => h) (Or.inl ⟨by kernel_rfl, ?hy70⟩) (by assumption) ?r70
  case hy70 => (intro W hSW; obtain ⟨_, f0, f1, f2, f3, f4, f5, f6, f7, f8, f9, g0, g1, g2, g3, g4, g5, g6, g7, g8, g9⟩ := hSW; go_simp; try with_reducible rfl)
  simp only [Act.put, List.getElem_toArray, List.getElem_cons_zero, List.getElem_cons_succ, List.setIfInBounds_toArray, List.set_cons_zero, List.set_cons_succ]
  refine wpAnyH_take (i := 7) (v := ?v71) rfl (by kernel_rfl) (by kernel_rfl) (by kernel_rfl) (fun _ _ _ h => h) (Or.inl ⟨by kernel_rfl, ?hy71⟩) (by assumption) ?r71
  case hy71 => (intro W hSW; obtain ⟨_, f0, f1, f2, f3, f4, f5, f6, f7, f8, f9, g0, g1, g2, g3, g4, g5, g6, g7, g8, g9⟩ := hSW; go_simp; try with_reducible rfl)
  simp only [Act.put, List.getElem_toArray, List.getElem_cons_zero, List.getElem_cons_succ, List.setIfInBounds_toArray, List.set_cons_zero, List.set_cons_succ]
  refine wpAnyH_take (i := 8) (v := ?v72) rfl (by kernel_rfl) (by kernel_rfl) (by kernel_rfl) (fun _ _ _ h => h) (Or.inl ⟨by kernel_rfl, ?hy72⟩) (by assumption) ?r72
  case hy72 => (intro W hSW; obtain ⟨_, f0, f1, f2, f3, f4, f5, f6, f7, f8, f9, g0, g1, g2, g3, g4, g5, g6, g7, g8, g9⟩ := hSW; go_simp; try with_reducible rfl)
  simp only [Act.put, List.getElem_toArray, List.getElem_cons_zero, List.getElem_cons_succ, List.setIfInBounds_toArray, List.set_cons_zero, List.set_cons_succ]
  refine wpAnyH_ready (rs := [6]) (by kernel_rfl) (by simp) ?_
  refine AllReadyH.cons rfl (fun K hK => ?_) AllReadyH.nil
  go_simp
  go_at_call 29
  with_reducible refine (SXY.out _ (hB1 _ hb1)).mono ?_
  rintro e u2 ⟨rfl, hF⟩
  have hb2 := below_on hb1 (Nat.le_refl _) hF
  clear hF
  refine hK.out _ _ (hSS _ hb2) (fun hH3 => ?_)
  clear hK K
  try simp only [Act.put, List.getElem_toArray, List.getElem_cons_zero, List.getElem_cons_succ, List.setIfInBounds_toArray, List.set_cons_zero, List.set_cons_succ]
  refine wpAnyH_ready (rs := [9]) (by kernel_rfl) (by simp) ?_
  refine AllReadyH.cons rfl (fun K hK => ?_) AllReadyH.nil
  go_simp
  go_at_call 29
  with_reducible refine (SYX.out _ (hB1 _ hb2)).mono ?_
  rintro e u3 ⟨rfl, hF⟩
  have hb3 := below_on hb2 (Nat.le_refl _) hF
  clear hF
  refine hK.out _ _ (hSS _ hb3) (fun hH4 => ?_)
  clear hK K
  try simp only [Act.put, List.getElem_toArray, List.getElem_cons_zero, List.getElem_cons_succ, List.setIfInBounds_toArray, List.set_cons_zero, List.set_cons_succ]
  refine wpAnyH_take (i := 10) (v := ?v75) rfl (by kernel_rfl) (by kernel_rfl) (by kernel_rfl) (fun _ _ _ h => h) (Or.inl ⟨by kernel_rfl, ?hy75⟩) (by assumption) ?r75
  case hy75 => (intro W hSW; obtain ⟨_, f0, f1, f2, f3, f4, f5, f6, f7, f8, f9, g0, g1, g2, g3, g4, g5, g6, g7, g8, g9⟩ := hSW; go_simp; try with_reducible rfl)
  simp only [Act.put, List.getElem_toArray, List.getElem_cons_zero, List.getElem_cons_succ, List.setIfInBounds_toArray, List.set_cons_zero, List.set_cons_succ]
  refine wpAnyH_take (i := 11) (v := ?v76) rfl (by kernel_rfl) (by kernel_rfl) (by kernel_rfl) (fun _ _ _ h => h) (Or.inl ⟨by kernel_rfl, ?hy76⟩) (by assumption) ?r76
  case hy76 => (intro W hSW; obtain ⟨_, f0, f1, f2, f3, f4, f5, f6, f7, f8, f9, g0, g1, g2, g3, g4, g5, g6, g7, g8, g9⟩ := hSW; go_simp; try with_reducible rfl)
  simp only [Act.put, List.getElem_toArray, List.getElem_cons_zero, List.getElem_cons_succ, List.setIfInBounds_toArray, List.set_cons_zero, List.set_cons_succ]
  refine wpAnyH_take (i := 12) (v := ?v77) rfl (by kernel_rfl) (by kernel_rfl) (by kernel_rfl) (fun _ _ _ h => h) (Or.inl ⟨by kernel_rfl, ?hy77⟩) (by assumption) ?r77
  case hy77 => (intro W hSW; obtain ⟨_, f0, f1, f2, f3, f4, f5, f6, f7, f8, f9, g0, g1, g2, g3, g4, g5, g6, g7, g8, g9⟩ := hSW; go_simp; try with_reducible rfl)
  simp only [Act.put, List.getElem_toArray, List.getElem_cons_zero, List.getElem_cons_succ, List.setIfInBounds_toArray, List.set_cons_zero, List.set_cons_succ]
  refine wpAnyH_take (i := 13) (v := ?v78) rfl (by kernel_rfl) (by kernel_rfl) (by kernel_rfl) (fun _ _ _ h => h) (Or.inl ⟨by kernel_rfl, ?hy78⟩) (by assumption) ?r78
  case hy78 => (intro W hSW; obtain ⟨_, f0, f1, f2, f3, f4, f5, f6, f7, f8, f9, g0, g1, g2, g3, g4, g5, g6, g7, g8, g9⟩ := hSW; go_simp; try with_reducible rfl)
  simp only [Act.put, List.getElem_toArray, List.getElem_cons_zero, List.getElem_cons_succ, List.setIfInBounds_toArray, List.set_cons_zero, List.set_cons_succ]
  refine wpAnyH_take (i := 14) (v := ?v79) rfl (by kernel_rfl) (by kernel_rfl) (by kernel_rfl) (fun _ _ _ h => h) (Or.inl ⟨by kernel_rfl, ?hy79⟩) (by assumption) ?r79
  case hy79 => (intro W hSW; obtain ⟨_, f0, f1, f2, f3, f4, f5, f6, f7, f8, f9, g0, g1, g2, g3, g4, g5, g6, g7, g8, g9⟩ := hSW; go_simp; try with_reducible rfl)
  simp only [Act.put, List.getElem_toArray, List.getElem_cons_zero, List.getElem_cons_succ, List.setIfInBounds_toArray, List.set_cons_zero, List.set_cons_succ]
  refine wpAnyH_take (i := 15) (v := ?v80) rfl (by kernel_rfl) (by kernel_rfl) (by kernel_rfl) (fun _ _ _ h => h) (Or.inl ⟨by kernel_rfl, ?hy80⟩) (by assumption) ?r80
  case hy80 => (intro W hSW; obtain ⟨_, f0, f1, f2, f3, f4, f5, f6, f7, f8, f9, g0, g1, g2, g3, g4, g5, g6, g7, g8, g9⟩ := hSW; go_simp; try with_reducible rfl)
  simp only [Act.put, List.getElem_toArray, List.getElem_cons_zero, List.getElem_cons_succ, List.setIfInBounds_toArray, List.set_cons_zero, List.set_cons_succ]
  refine wpAnyH_take (i := 16) (v := ?v81) rfl (by kernel_rfl) (by kernel_rfl) (by kernel_rfl) (fun _ _ _ h => h) (Or.inl ⟨by kernel_rfl, ?hy81⟩) (by assumption) ?r81
  case hy81 => (intro W hSW; obtain ⟨_, f0, f1, f2, f3, f4, f5, f6, f7, f8, f9, g0, g1, g2, g3, g4, g5, g6, g7, g8, g9⟩ := hSW; go_simp; try with_reducible rfl)
  simp only [Act.put, List.getElem_toArray, List.getElem_cons_zero, List.getElem_cons_succ, List.setIfInBounds_toArray, List.set_cons_zero, List.set_cons_succ]
  refine wpAnyH_take (i := 17) (v := ?v82) rfl (by kernel_rfl) (by kernel_rfl) (by kernel_rfl) (fun _ _ _ h => h) (Or.inl ⟨by kernel_rfl, ?hy82⟩) (by assumption) ?r82
  case hy82 => (intro W hSW; obtain ⟨_, f0, f1, f2, f3, f4, f5, f6, f7, f8, f9, g0, g1, g2, g3, g4, g5, g6, g7, g8, g9⟩ := hSW; go_simp; try with_reducible rfl)
  simp only [Act.put, List.getElem_toArray, List.getElem_cons_zero, List.getElem_cons_succ, List.setIfInBounds_toArray, List.set_cons_zero, List.set_cons_succ]
  refine wpAnyH_take (i := 18) (v := ?v83) rfl (by kernel_rfl) (by kernel_rfl) (by kernel_rfl) (fun _ _ _ h => h) (Or.inl ⟨by kernel_rfl, ?hy83⟩) (by assumption) ?r83
  case hy83 => (intro W hSW; obtain ⟨_, f0, f1, f2, f3, f4, f5, f6, f7, f8, f9, g0, g1, g2, g3, g4, g5, g6, g7, g8, g9⟩ := hSW; go_simp; try with_reducible rfl)
  simp only [Act.put, List.getElem_toArray, List.getElem_cons_zero, List.getElem_cons_succ, List.setIfInBounds_toArray, List.set_cons_zero, List.set_cons_succ]
  refine wpAnyH_take (i := 19) (v := ?v84) rfl (by kernel_rfl) (by kernel_rfl) (by kernel_rfl) (fun _ _ _ h => h) (Or.inl ⟨by kernel_rfl, ?hy84⟩) (by assumption) ?r84
  case hy84 => (intro W hSW; obtain ⟨_, f0, f1, f2, f3, f4, f5, f6, f7, f8, f9, g0, g1, g2, g3, g4, g5, g6, g7, g8, g9⟩ := hSW; go_simp; try with_reducible rfl)
  simp only [Act.put, List.getElem_toArray, List.getElem_cons_zero, List.getElem_cons_succ, List.setIfInBounds_toArray, List.set_cons_zero, List.set_cons_succ]
  refine wpAnyH_take (i := 20) (v := ?v85) rfl (by kernel_rfl) (by kernel_rfl) (by kernel_rfl) (fun _ _ _ h => h) (Or.inl ⟨by kernel_rfl, ?hy85⟩) (by assumption) ?r85
  case hy85 => (intro W hSW; obtain ⟨_, f0, f1, f2, f3, f4, f5, f6, f7, f8, f9, g0, g1, g2, g3, g4, g5, g6, g7, g8, g9⟩ := hSW; go_simp; try with_reducible rfl)
  simp only [Act.put, List.getElem_toArray, List.getElem_cons_zero, List.getElem_cons_succ, List.setIfInBounds_toArray, List.set_cons_zero, List.set_cons_succ]
  refine wpAnyH_take (i := 21) (v := ?v86) rfl (by kernel_rfl) (by kernel_rfl) (by kernel_rfl) (fun _ _ _ h => h) (Or.inl ⟨by kernel_rfl, ?hy86⟩) (by assumption) ?r86
  case hy86 => (intro W hSW; obtain ⟨_, f0, f1, f2, f3, f4, f5, f6, f7, f8, f9, g0, g1, g2, g3, g4, g5, g6, g7, g8, g9⟩ := hSW; go_simp; try with_reducible rfl)
  simp only [Act.put, List.getElem_toArray, List.getElem_cons_zero, List.getElem_cons_succ, List.setIfInBounds_toArray, List.set_cons_zero, List.set_cons_succ]
  refine wpAnyH_take (i := 23) (v := ?v87) rfl (by kernel_rfl) (by kernel_rfl) (by kernel_rfl) (fun _ _ _ h => h) (Or.inl ⟨by kernel_rfl, ?hy87⟩) (by assumption) ?r87
  case hy87 => (intro W hSW; obtain ⟨_, f0, f1, f2, f3, f4, f5, f6, f7, f8, f9, g0, g1, g2, g3, g4, g5, g6, g7, g8, g9⟩ := hSW; go_simp; try with_reducible rfl)
  simp only [Act.put, List.getElem_toArray, List.getElem_cons_zero, List.getElem_cons_succ, List.setIfInBounds_toArray, List.set_cons_zero, List.set_cons_succ]
  refine wpAnyH_take (i := 24) (v := ?v88) rfl (by kernel_rfl) (by kernel_rfl) (by kernel_rfl) (fun _ _ _ h => h) (Or.inl ⟨by kernel_rfl, ?hy88⟩) (by assumption) ?r88
  case hy88 => (intro W hSW; obtain ⟨_, f0, f1, f2, f3, f4, f5, f6, f7, f8, f9, g0, g1, g2, g3, g4, g5, g6, g7, g8, g9⟩ := hSW; go_simp; try with_reducible rfl)
  simp only [Act.put, List.getElem_toArray, List.getElem_cons_zero, List.getElem_cons_succ, List.setIfInBounds_toArray, List.set_cons_zero, List.set_cons_succ]
  refine wpAnyH_take (i := 27) (v := ?v89) rfl (by kernel_rfl) (by kernel_rfl) (by kernel_rfl) (fun _ _ _ h => h) (Or.inl ⟨by kernel_rfl, ?hy89⟩) (by assumption) ?r89
  case hy89 => (intro W hSW; obtain ⟨_, f0, f1, f2, f3, f4, f5, f6, f7, f8, f9, g0, g1, g2, g3, g4, g5, g6, g7, g8, g9⟩ := hSW; go_simp; try with_reducible rfl)
  simp only [Act.put, List.getElem_toArray, List.getElem_cons_zero, List.getElem_cons_succ, List.setIfInBounds_toArray, List.set_cons_zero, List.set_cons_succ]
  refine wpAnyH_ready (rs := [22]) (by kernel_rfl) (by simp) ?_
  refine AllReadyH.cons rfl (fun K hK => ?_) AllReadyH.nil
  go_simp
  go_at_call 34
  with_reducible refine (NX.out _ hrx).mono ?_
  rintro e u4 ⟨rfl, hF⟩
  have hb4 := below_on hb3 (Nat.le_refl _) hF
  clear hF
  refine hK.out _ _ (hSS _ hb4) (fun hH5 => ?_)
  clear hK K
  try simp only [Act.put, List.getElem_toArray, List.getElem_cons_zero, List.getElem_cons_succ, List.setIfInBounds_toArray, List.set_cons_zero, List.set_cons_succ]
  refine wpAnyH_ready (rs := [25]) (by kernel_rfl) (by simp) ?_
  refine AllReadyH.cons rfl (fun K hK => ?_) AllReadyH.nil
  go_simp
  go_at_call 34
  with_reducible refine (NY.out _ hry).mono ?_
  rintro e u5 ⟨rfl, hF⟩
  have hb5 := below_on hb4 (Nat.le_refl _) hF
  clear hF
  refine hK.out _ _ (hSS _ hb5) (fun hH6 => ?_)
  clear hK K
  try simp only [Act.put, List.getElem_toArray, List.getElem_cons_zero, List.getElem_cons_succ, List.setIfInBounds_toArray, List.set_cons_zero, List.set_cons_succ]
  refine wpAnyH_take (i := 26) (v := ?v92) rfl (by kernel_rfl) (by kernel_rfl) (by kernel_rfl) (fun _ _ _ h => h) (Or.inl ⟨by kernel_rfl, ?hy92⟩) (by assumption) ?r92
  case hy92 => (intro W hSW; obtain ⟨_, f0, f1, f2, f3, f4, f5, f6, f7, f8, f9, g0, g1, g2, g3, g4, g5, g6, g7, g8, g9⟩ := hSW; go_simp; try with_reducible rfl)
  simp only [Act.put, List.getElem_toArray, List.getElem_cons_zero, List.getElem_cons_succ, List.setIfInBounds_toArray, List.set_cons_zero, List.set_cons_succ]
  refine wpAnyH_take (i := 28) (v := ?v93) rfl (by kernel_rfl) (by kernel_rfl) (by kernel_rfl) (fun _ _ _ h => h) (Or.inl ⟨by kernel_rfl, ?hy93⟩) (by assumption) ?r93
  case hy93 => (intro W hSW; obtain ⟨_, f0, f1, f2, f3, f4, f5, f6, f7, f8, f9, g0, g1, g2, g3, g4, g5, g6, g7, g8, g9⟩ := hSW; go_simp; try with_reducible rfl)
  simp only [Act.put, List.getElem_toArray, List.getElem_cons_zero, List.getElem_cons_succ, List.setIfInBounds_toArray, List.set_cons_zero, List.set_cons_succ]
  refine wpAnyH_take (i := 29) (v := ?v94) rfl (by kernel_rfl) (by kernel_rfl) (by kernel_rfl) (fun _ _ _ h => h) (Or.inl ⟨by kernel_rfl, ?hy94⟩) (by assumption) ?r94
  case hy94 => (intro W hSW; obtain ⟨_, f0, f1, f2, f3, f4, f5, f6, f7, f8, f9, g0, g1, g2, g3, g4, g5, g6, g7, g8, g9⟩ := hSW; go_simp; try with_reducible rfl)
  simp only [Act.put, List.getElem_toArray, List.getElem_cons_zero, List.getElem_cons_succ, List.setIfInBounds_toArray, List.set_cons_zero, List.set_cons_succ]
  refine wpAnyH_take (i := 30) (v := ?v95) rfl (by kernel_rfl) (by kernel_rfl) (by kernel_rfl) (fun _ _ _ h => h) (Or.inl ⟨by kernel_rfl, ?hy95⟩) (by assumption) ?r95
  case hy95 => (intro W hSW; obtain ⟨_, f0, f1, f2, f3, f4, f5, f6, f7, f8, f9, g0, g1, g2, g3, g4, g5, g6, g7, g8, g9⟩ := hSW; go_simp; try with_reducible rfl)
  simp only [Act.put, List.getElem_toArray, List.getElem_cons_zero, List.getElem_cons_succ, List.setIfInBounds_toArray, List.set_cons_zero, List.set_cons_succ]
  refine wpAnyH_take (i := 31) (v := ?v96) rfl (by kernel_rfl) (by kernel_rfl) (by kernel_rfl) (fun _ _ _ h => h) (Or.inl ⟨by kernel_rfl, ?hy96⟩) (by assumption) ?r96
  case hy96 => (intro W hSW; obtain ⟨_, f0, f1, f2, f3, f4, f5, f6, f7, f8, f9, g0, g1, g2, g3, g4, g5, g6, g7, g8, g9⟩ := hSW; go_simp; try with_reducible rfl)
  simp only [Act.put, List.getElem_toArray, List.getElem_cons_zero, List.getElem_cons_succ, List.setIfInBounds_toArray, List.set_cons_zero, List.set_cons_succ]
  refine wpAnyH_done (by kernel_rfl) ?_ _
  refine NoPanic.normal ?_
  clear hSS
  go_wp2
  go_ret
  exact ⟨by simp, hB1 _ hb5⟩
end Go.Proofs.Ytogecfddkohigaa
