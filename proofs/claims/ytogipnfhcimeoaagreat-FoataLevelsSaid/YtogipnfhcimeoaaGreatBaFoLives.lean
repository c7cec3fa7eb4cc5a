/- law11: ask, lives -/
import Derived.Test.YtogipnfhcimeoaaGreatRows
import Derived.Test.YtogipnfhcimeoaaGreatBaFoEq
import Derived.Test.YtogipnfhcimeoaaGreatBc4
import Derived.Test.YtogipnfhcimeoaaGreatBc12
import Derived.Test.YtogipnfhcimeoaaGreatBc10
import Derived.Test.YtogipnfhcimeoaaGreatBc6
import Derived.WalkKit
import Derived.WalkSpells
import Derived.WalkLawsBesides
import Derived.Deep.QuietTactic
import Derived.BigQuiet
import Derived.Laws.StructEq
import Derived.Deep.DeepFit
import Derived.StillTailTactics
namespace Go.Proofs.YtogipnfhcimeoaaGreat
open Go.RowKit
set_option maxRecDepth 100000 in
set_option maxHeartbeats 400000 in
theorem ask_11 (seq : Int) (acct : ByteArray) (w : World) :
    Calls Tryz.prog 54 #[i64 seq, .string acct] w fun e w' => e = .returned (askOd seq acct).v ∧ Below w.heap.size w w' := by
  go_enter Tryz.func54, Tryz.ntmps54
  go_wp2
  refine bodyPost_ret (v := (askOd seq acct).v) (by simp [results, Tryz.results54, go_sem, askOd, Od.v]) rfl ⟨rfl, ?_⟩
  exact (Below.refl _ _).alloc (Nat.le_refl _) _
theorem steps_none : stepsL [] = [] := by kernel_rfl
theorem num_zero : numB 0 = [0] := by kernel_rfl
set_option maxRecDepth 100000 in
set_option maxHeartbeats 2000000 in
theorem write_none (A : Option Addr) (c : Nat) (w : World) :
    Calls Tryz.prog 56 #[.slice A 0 c] w fun e w' => ∃ v, e = .returned (.tuple #[v, i64 0]) ∧ Own w' w.heap.size 5 v [(0 : UInt8)] ∧ Below w.heap.size w w' := by
  have HN := Lib.hid (num_c 0 w (by decide) (by decide))
  rw [num_zero] at HN
  go_enter Tryz.func56, Tryz.ntmps56
  go_wp2_with fail
  refine HN.out.mono ?_
  rintro e w1 ⟨v, rfl, hO, hF⟩
  have HO := Lib.hid hO
  clear hO HN
  go_wp2_with fail
  go_loopw [4, 16] (fun b i wr => b = v ∧ i = i64 0 ∧ wr = w1) (fun _ _ _ => 0)
  case atStart => exact ⟨rfl, rfl, rfl⟩
  case round =>
    obtain ⟨rfl, rfl, rfl⟩ := hrel
    go_wp2
    go_ret2
    exact ⟨_, rfl, HO.out, hF⟩
set_option maxRecDepth 100000 in
set_option maxHeartbeats 2000000 in
theorem export_none (w : World) :
    Calls Tryz.prog 17 #[.slice none 0 0] w fun e w' => ∃ v, e = .returned (.tuple #[v, i64 0]) ∧ Own w' w.heap.size 5 v [(0 : UInt8)] ∧ Below w.heap.size w w' := by
  have HR := Lib.hid (right_c none 0 [] w (SlS.nil_ _ _) (by decide))
  change Hid (Calls Tryz.prog 55 #[.slice none 0 0] w fun e w' => e = .returned (.bool true) ∧ Below w.heap.size w w') at HR
  have HS := Lib.hid (fun W => steps_c none 0 [] W (SlS.nil_ _ _) (by decide) (fun _ h => by cases h))
  rw [steps_none] at HS
  have HW := Lib.hid (fun A c W => write_none A c W)
  go_enter Tryz.func17, Tryz.ntmps17
  go_wp2_with fail
  refine HR.out.mono ?_
  rintro e w1 ⟨rfl, hb1⟩
  clear HR
  go_wp2_with fail
  refine (HS.out _).mono ?_
  rintro e w2 ⟨v, L, rfl, hO, hm, hF⟩
  obtain rfl : L = [] := List.map_eq_nil_iff.1 hm
  obtain ⟨A2, c2, rfl, _⟩ := hO.sl
  have hb2 := below_on hb1 (Nat.le_refl _) hF
  clear hO hF hm HS
  go_wp2_with fail
  refine (HW.out _ _ _).mono ?_
  rintro e w3 ⟨v, rfl, hO, hF⟩
  have hb3 := below_on hb2 (Nat.le_refl _) hF
  have HO := Lib.hid (hO.mono hb2.size)
  clear hO hF
  go_wp2
  go_ret2
  exact ⟨v, rfl, HO.out, hb3⟩
theorem range_zero : rangeRd 0 200 0 [(0 : UInt8)] = ((0, 0), (0, [])) := by kernel_rfl
set_option maxRecDepth 100000 in
set_option maxHeartbeats 4000000 in
theorem read_zero (A : Option Addr) (c : Nat) (w : World) (h : Sl w w.heap.size A c [(0 : UInt8)]) :
    Calls Tryz.prog 70 #[.slice A 1 c] w fun e w' => e = .returned (.tuple #[.slice none 0 0, .bool true]) ∧ Below w.heap.size w w' := by
  have HN := Lib.hid (rnew_c A c [(0 : UInt8)] w h (by decide))
  clear h
  go_enter Tryz.func70, Tryz.ntmps70
  go_wp2_with fail
  refine HN.out.mono ?_
  rintro e w1 ⟨rfl, hR, hz, hF⟩
  have hb1 := hF
  have HRg := Lib.hid (range_c (w.heap.size + 1) w.heap.size 0 200 0 [(0 : UInt8)] w1 hR (by omega) (by decide))
  rw [range_zero] at HRg
  have Hz := Lib.hid hz
  clear HN hF hR hz
  go_wp2_with fail
  refine HRg.out.mono ?_
  rintro e w2 ⟨rfl, hR, hg⟩
  have hb2 := hb1.trans (below_of_grown hg hb1.size (fun g e => by injection e with e; omega))
  have hz2 := Nat.le_trans (Nat.le_of_eq Hz.out.symm) hg.size
  have HD := Lib.hid (done_c (w.heap.size + 1) w.heap.size 0 [] w2 hR (by omega) (by decide))
  have hd : doneRd 0 [] = (0, (0, [])) := rfl
  rw [hd] at HD
  clear HRg hg hR hd hb1 Hz hz2
  go_wp2_with fail
  go_loopw [7, 23] (fun o i wr => o = .slice none 0 0 ∧ i = i64 0 ∧ wr = w2) (fun _ _ _ => 0)
  case atStart => exact ⟨rfl, rfl, rfl⟩
  case round =>
    obtain ⟨rfl, rfl, rfl⟩ := hrel
    go_wp2_with fail
    refine HD.out.mono ?_
    rintro e w3 ⟨rfl, _, hg⟩
    have hb3 := hb2.trans (below_of_grown hg hb2.size (fun g e => by injection e with e; omega))
    clear HD hg hb2
    go_wp2
    go_ret2
    exact ⟨rfl, hb3⟩
theorem normal_none : normalB [] = true := by kernel_rfl
set_option maxRecDepth 100000 in
set_option maxHeartbeats 4000000 in
theorem import_zero (A : Option Addr) (c : Nat) (w : World) (h : Sl w w.heap.size A c [(0 : UInt8)]) :
    Calls Tryz.prog 26 #[.slice A 1 c] w fun e w' => e = .returned (.tuple #[.slice none 0 0, i64 0]) ∧ Below w.heap.size w w' := by
  have HR := Lib.hid (read_zero A c w h)
  have HL := Lib.hid (fun W => lay_c none 0 [] W (SlS.nil_ _ _) (by decide) (by decide))
  have HN := Lib.hid (fun W => normal_c none 0 [] W (SlS.nil_ _ _) ⟨by decide, by simp⟩ (by decide))
  change Hid (∀ W, Calls Tryz.prog 32 #[.slice none 0 0] W fun e w' => e = .returned (.bool (normalB [])) ∧ Below W.heap.size W w') at HN
  rw [normal_none] at HN
  change Hid (∀ W, Calls Tryz.prog 24 #[.slice none 0 0] W fun e w' => ∃ v, e = .returned v ∧ Own w' W.heap.size 45 v [] ∧ Below W.heap.size W w') at HL
  clear h
  go_enter Tryz.func26, Tryz.ntmps26
  go_wp2_with fail
  refine HR.out.mono ?_
  rintro e w1 ⟨rfl, hb1⟩
  go_wp2_with fail
  refine (HL.out _).mono ?_
  rintro e w2 ⟨v, rfl, hO, hF⟩
  obtain ⟨A2, c2, rfl, _⟩ := hO.sl
  have hb2 := below_on hb1 (Nat.le_refl _) hF
  clear hO hF
  go_wp2_with fail
  refine (HN.out _).mono ?_
  rintro e w3 ⟨rfl, hF⟩
  have hb3 := below_on hb2 (Nat.le_refl _) hF
  go_wp2
  go_ret2
  exact ⟨rfl, hb3⟩
/-- the list of lives, and its steps -/
def fvL : List Od := [askOd 2 ⟨#[97]⟩, askOd 1 ⟨#[98]⟩, askOd 3 ⟨#[97]⟩]
def fvS : List (List Od) := [[askOd 1 ⟨#[98]⟩, askOd 2 ⟨#[97]⟩], [askOd 3 ⟨#[97]⟩]]
theorem fv_steps : stepsL fvL = fvS := by kernel_rfl
theorem fv_normal : normalB fvS = true := by kernel_rfl
theorem sv_two {L : List (SV Od)} (h : L.map SV.l = fvS) : ∃ x y : SV Od, L = [x, y] ∧ x.l = [askOd 1 ⟨#[98]⟩, askOd 2 ⟨#[97]⟩] ∧ y.l = [askOd 3 ⟨#[97]⟩] := by
  match L, h with
  | [x, y], h =>
    have h : [x.l, y.l] = fvS := h
    injection h with h1 h2
    injection h2 with h2 _
    exact ⟨x, y, rfl, h1, h2⟩
  | [], h => cases h
  | [x], h => have h : [x.l] = fvS := h; injection h with _ h; cases h
  | x :: y :: z :: r, h => have h : x.l :: y.l :: z.l :: r.map SV.l = fvS := h; injection h with _ h; injection h with _ h; cases h
set_option maxRecDepth 100000 in
set_option maxHeartbeats 16000000 in
theorem lives_11 (w : World) :
    Calls Tryz.prog 15 #[] w fun e w' => e = .returned (.bool true) ∧ Below w.heap.size w w' := by
  have a1 : ∀ W : World, Calls Tryz.prog 54 #[i64 2, .string ⟨#[97]⟩] W fun e w' => e = .returned (.agg #[i64 0, i64 2, i64 7, .string ⟨#[97]⟩, .string ⟨#[]⟩, i64 0, .slice none 0 0, i64 0, i64 0, .string ⟨#[]⟩]) ∧ Below W.heap.size W w' := fun W => ask_11 2 ⟨#[97]⟩ W
  have a2 : ∀ W : World, Calls Tryz.prog 54 #[i64 1, .string ⟨#[98]⟩] W fun e w' => e = .returned (.agg #[i64 0, i64 1, i64 7, .string ⟨#[98]⟩, .string ⟨#[]⟩, i64 0, .slice none 0 0, i64 0, i64 0, .string ⟨#[]⟩]) ∧ Below W.heap.size W w' := fun W => ask_11 1 ⟨#[98]⟩ W
  have a3 : ∀ W : World, Calls Tryz.prog 54 #[i64 3, .string ⟨#[97]⟩] W fun e w' => e = .returned (.agg #[i64 0, i64 3, i64 7, .string ⟨#[97]⟩, .string ⟨#[]⟩, i64 0, .slice none 0 0, i64 0, i64 0, .string ⟨#[]⟩]) ∧ Below W.heap.size W w' := fun W => ask_11 3 ⟨#[97]⟩ W
  have hfl : ∀ x ∈ fvL, x.legs.length ≤ 10 := lives_few (l := fvL) (by kernel_rfl)
  go_enter Tryz.func15, Tryz.ntmps15
  go_wp2_with fail
  refine (a1 _).mono ?_
  rintro e w1 ⟨rfl, hb1⟩
  go_wp2_with fail
  refine (a2 _).mono ?_
  rintro e w2 ⟨rfl, hb2⟩
  go_wp2_with fail
  refine (a3 _).mono ?_
  rintro e w3 ⟨rfl, hb3⟩
  have hb4 := below_on (below_on hb1 (Nat.le_refl _) hb2) (Nat.le_refl _) hb3
  have hO := own_lit (w := w3) (base := w3.heap.size) 45 #[i64 0, i64 2, i64 7, .string ⟨#[97]⟩, .string ⟨#[]⟩, i64 0, .slice none 0 0, i64 0, i64 0, .string ⟨#[]⟩, i64 0, i64 1, i64 7, .string ⟨#[98]⟩, .string ⟨#[]⟩, i64 0, .slice none 0 0, i64 0, i64 0, .string ⟨#[]⟩, i64 0, i64 3, i64 7, .string ⟨#[97]⟩, .string ⟨#[]⟩, i64 0, .slice none 0 0, i64 0, i64 0, .string ⟨#[]⟩] fvL (Nat.le_refl _) rfl (by decide) (fun x hx => by
    simp only [fvL, List.mem_cons, List.not_mem_nil, or_false] at hx
    rcases hx with rfl | rfl | rfl <;> exact askOd_okb _ _ _ _)
  have hb5 := hb4.alloc hb4.size (.cells #[i64 0, i64 2, i64 7, .string ⟨#[97]⟩, .string ⟨#[]⟩, i64 0, .slice none 0 0, i64 0, i64 0, .string ⟨#[]⟩, i64 0, i64 1, i64 7, .string ⟨#[98]⟩, .string ⟨#[]⟩, i64 0, .slice none 0 0, i64 0, i64 0, .string ⟨#[]⟩, i64 0, i64 3, i64 7, .string ⟨#[97]⟩, .string ⟨#[]⟩, i64 0, .slice none 0 0, i64 0, i64 0, .string ⟨#[]⟩] 45)
  have HS := Lib.hid (steps_c _ _ fvL (w3.alloc (.cells #[i64 0, i64 2, i64 7, .string ⟨#[97]⟩, .string ⟨#[]⟩, i64 0, .slice none 0 0, i64 0, i64 0, .string ⟨#[]⟩, i64 0, i64 1, i64 7, .string ⟨#[98]⟩, .string ⟨#[]⟩, i64 0, .slice none 0 0, i64 0, i64 0, .string ⟨#[]⟩, i64 0, i64 3, i64 7, .string ⟨#[97]⟩, .string ⟨#[]⟩, i64 0, .slice none 0 0, i64 0, i64 0, .string ⟨#[]⟩] 45)) hO.sl_of (by decide) hfl)
  rw [fv_steps] at HS
  clear hO hb1 hb2 hb3 hb4 a1 a2 a3 hfl
  go_wp2_with fail
  generalize w3.alloc (.cells #[i64 0, i64 2, i64 7, .string ⟨#[97]⟩, .string ⟨#[]⟩, i64 0, .slice none 0 0, i64 0, i64 0, .string ⟨#[]⟩, i64 0, i64 1, i64 7, .string ⟨#[98]⟩, .string ⟨#[]⟩, i64 0, .slice none 0 0, i64 0, i64 0, .string ⟨#[]⟩, i64 0, i64 3, i64 7, .string ⟨#[97]⟩, .string ⟨#[]⟩, i64 0, .slice none 0 0, i64 0, i64 0, .string ⟨#[]⟩] 45) = w4 at *
  refine HS.out.mono ?_
  rintro e w5 ⟨v, L, rfl, hO, hm, hF⟩
  obtain ⟨A5, c5, rfl, s5⟩ := hO.sl
  have hb6 := below_on hb5 (Nat.le_refl _) hF
  obtain ⟨x, y, rfl, hx, hy⟩ := sv_two hm
  have HN := Lib.hid (fun W (hW : Sl W W.heap.size A5 c5 [x, y]) => normal_c A5 c5 [x, y] W hW ⟨by simp, fun z hz => by
    simp only [List.mem_cons, List.not_mem_nil, or_false] at hz
    rcases hz with rfl | rfl
    · rw [hx]; exact ⟨by decide, fun u hu => by simp only [List.mem_cons, List.not_mem_nil, or_false] at hu; rcases hu with rfl | rfl <;> decide⟩
    · rw [hy]; exact ⟨by decide, fun u hu => by simp only [List.mem_cons, List.not_mem_nil, or_false] at hu; rcases hu with rfl; decide⟩⟩ (by rw [hm]; decide))
  rw [hm, fv_normal] at HN
  clear HS hO hF hm hb5
  go_wp2_with fail
  refine (export_none _).mono ?_
  rintro e w6 ⟨v6, rfl, hO, hF⟩
  obtain ⟨A6, c6, rfl, s6⟩ := hO.sl
  have hb7 := below_on hb6 (Nat.le_refl _) hF
  have s5 := s5.later hF
  clear hO hF hb6
  have hO2 := own_lit (w := w6) (base := w6.heap.size) 5 #[.int .u8 0] [(0 : UInt8)] (Nat.le_refl _) rfl (by decide) (fun _ _ => trivial)
  have h0 := (Below.refl w6.heap.size w6).alloc (Nat.le_refl _) (.cells #[.int .u8 0] 5)
  have hb8 := hb7.alloc hb7.size (.cells #[.int .u8 0] 5)
  have s5 := s5.later h0
  have s6 := s6.later h0
  have HI := Lib.hid (import_zero _ _ (w6.alloc (.cells #[.int .u8 0] 5)) hO2.sl_of)
  clear hO2 h0 hb7
  go_wp2_with fail
  generalize w6.alloc (.cells #[.int .u8 0] 5) = w7 at *
  refine HI.out.mono ?_
  rintro e w8 ⟨rfl, hF⟩
  have hb9 := below_on hb8 (Nat.le_refl _) hF
  have s5 := s5.later hF
  have s6 := s6.later hF
  clear HI hF hb8
  have hO2 := own_lit (w := w8) (base := w8.heap.size) 5 #[.int .u8 0] [(0 : UInt8)] (Nat.le_refl _) rfl (by decide) (fun _ _ => trivial)
  have h0 := (Below.refl w8.heap.size w8).alloc (Nat.le_refl _) (.cells #[.int .u8 0] 5)
  have hb10 := hb9.alloc hb9.size (.cells #[.int .u8 0] 5)
  have t5 := Lib.hid (s5.later h0)
  have HE := Lib.hid (same2_c _ _ _ _ _ _ (w8.alloc (.cells #[.int .u8 0] 5)) (s6.later h0) hO2.sl_of)
  have heq : (([(0 : UInt8)] : List UInt8) == [0]) = true := rfl
  rw [heq] at HE
  obtain ⟨b0, o0, rfl, _, k0, p0⟩ := s5.sv (k := 0) (by simp)
  obtain ⟨b1, o1, hA, _, k1, p1⟩ := s5.sv (k := 1) (by simp)
  injection hA with hA
  injection hA with hA1 hA2
  subst hA1 hA2
  simp only [List.getElem_cons_zero, List.getElem_cons_succ, hx, hy, List.length_cons, List.length_nil, Nat.zero_add, Nat.add_zero] at k0 k1 p0 p1
  obtain ⟨d0, u0, hz0, _, _, _, q0, _⟩ := k0.od (k := 0) (by simp)
  obtain ⟨d1, u1, hz1, _, _, _, q1, _⟩ := k1.od (k := 0) (by simp)
  rw [hz0] at p0
  rw [hz1] at p1
  simp only [Nat.zero_mul, Nat.add_zero, List.getElem_cons_zero] at q0 q1
  have q0 : w8.cell? ⟨d0, u0 + 1, none⟩ = some (i64 1) := q0
  have q1 : w8.cell? ⟨d1, u1 + 1, none⟩ = some (i64 3) := q1
  clear hO2 h0 s5 s6 heq k0 k1 hz0 hz1
  go_wp2_with fail
  refine HE.out.mono ?_
  rintro e w9 ⟨rfl, hF⟩
  have t9 := t5.out.later hF
  have hb11 := below_on hb10 (Nat.le_refl _) hF
  clear HE hF t5
  go_wp2_with fail
  refine (HN.out _ t9).mono ?_
  rintro e w10 ⟨rfl, hF⟩
  have hb12 := below_on hb11 (Nat.le_refl _) hF
  go_wp2
  go_ret
  exact ⟨rfl, hb12⟩
end Go.Proofs.YtogipnfhcimeoaaGreat
