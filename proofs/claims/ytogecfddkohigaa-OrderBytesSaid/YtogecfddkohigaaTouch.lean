/- order.Touches -/
import Derived.Test.YtogecfddkohigaaRows
import Derived.Test.YtogecfddkohigaaCompact
import Derived.Test.YtogecfddkohigaaAppend
import Derived.WalkKit
import Derived.WalkSpells
import Derived.WalkLawsBesides
import Derived.Deep.QuietTactic
import Derived.BigQuiet
import Derived.Laws.StructEq
import Derived.Deep.DeepFit
import Derived.StillTailTactics
namespace Go.Proofs.Ytogecfddkohigaa
open Go.RowKit
abbrev nonE (s : ByteArray) : Bool := !s.toList.isEmpty
/-- order.Touches -/
def touches (x : Od) : List ByteArray := compactL (sortS ((x.acct :: x.peer :: x.legs.map Leg.acct).filter nonE))

theorem strInfo : (Try.prog.info? 9).map (fun i => (i.zero, i.size, i.bytes)) = some (some (.string ByteArray.empty), Enc.size ByteArray, 16) := by kernel_rfl

set_option maxRecDepth 100000 in
set_option maxHeartbeats 400000 in
theorem touches1_c (s : ByteArray) (w : World) : Calls Try.prog 74 #[.string s] w fun e w' => e = .returned (.bool s.toList.isEmpty) ∧ w = w' := by
  go_enter Try.func74, Try.ntmps74
  go_wp2
  go_ret
  exact ⟨rfl, rfl⟩

set_option maxRecDepth 100000 in
set_option maxHeartbeats 1000000 in
theorem touches_c (x : Od) (w : World) (hx : Okb w w.heap.size x) (hl : x.legs.length ≤ 10) :
    Calls Try.prog 40 #[x.v] w fun e w' => ∃ v, e = .returned v ∧ Own w' w.heap.size 9 v (touches x) ∧ Below w.heap.size w w' := by
  obtain ⟨ha, hp, -, hlg⟩ := hx
  have Ha := Lib.hid ha
  have Hp := Lib.hid hp
  clear ha hp
  unfold Od.v
  go_enter Try.func40, Try.ntmps40
  go_wp2
  have hO0 : Own ((w.alloc (.cells #[i64 x.client, i64 x.seq, i64 x.kind, .string x.acct, .string x.peer, i64 x.sum, .slice x.la x.legs.length x.lc, i64 x.period, i64 x.hold, .string x.note] 30)).alloc (.cells #[.string x.acct, .string x.peer] 9)) w.heap.size 9 (.slice (some ⟨w.heap.size + 1, 0, none⟩) 2 2) [x.acct, x.peer] := by
    have h2 := own_lit (w := w.alloc (.cells #[i64 x.client, i64 x.seq, i64 x.kind, .string x.acct, .string x.peer, i64 x.sum, .slice x.la x.legs.length x.lc, i64 x.period, i64 x.hold, .string x.note] 30)) (base := w.heap.size) 9 #[.string x.acct, .string x.peer] [x.acct, x.peer] (by simp) rfl (by simp) (by
      intro s hs
      simp only [List.mem_cons, List.not_mem_nil, or_false] at hs
      rcases hs with rfl | rfl
      · exact Ha.out
      · exact Hp.out)
    simpa using h2
  have hb0 : Below w.heap.size w ((w.alloc (.cells #[i64 x.client, i64 x.seq, i64 x.kind, .string x.acct, .string x.peer, i64 x.sum, .slice x.la x.legs.length x.lc, i64 x.period, i64 x.hold, .string x.note] 30)).alloc (.cells #[.string x.acct, .string x.peer] 9)) := ((Below.refl _ _).alloc (Nat.le_refl _) _).alloc (by simp) _
  go_loopw [3, 14] (fun v i wr => ∃ k : Nat, i = i64 k ∧ k ≤ x.legs.length ∧ Own wr w.heap.size 9 v ((x.acct :: x.peer :: x.legs.map Leg.acct).take (k + 2)) ∧ Below w.heap.size w wr) (fun _ i _ => x.legs.length - (intOf i).toNat)
  case atStart => exact ⟨0, rfl, by omega, hO0, hb0⟩
  case round =>
    obtain ⟨k, rfl, hk, hO, hb⟩ := hrel
    by_cases hlt : k < x.legs.length
    · obtain ⟨b, o, hA, hbb, hsz, c0, c1⟩ := (hlg.later hb).leg hlt
      have Hsz := Lib.hid hsz
      rw [hA]
      clear hA hsz hO0 hb0
      have hszr := hb.size
      have hO1 := (hO.later ((Below.refl _ _).alloc (Nat.le_refl _) (.cells #[.string x.legs[k].acct, i64 x.legs[k].sum] 58)))
      have hO2 := hO1.later ((Below.refl _ _).alloc (Nat.le_refl _) (.cells #[.string x.legs[k].acct] 9))
      have hne := hO.new_ne (Nat.le_succ wr.heap.size)
      have hHeap := heap_alloc2_new wr (.cells #[.string x.legs[k].acct, i64 x.legs[k].sum] 58) (.cells #[.string x.legs[k].acct] 9)
      have hlen : ((x.acct :: x.peer :: x.legs.map Leg.acct).take (k + 2)).length = k + 2 := by simp; omega
      have hbb' : Below w.heap.size w ((wr.alloc (.cells #[.string x.legs[k].acct, i64 x.legs[k].sum] 58)).alloc (.cells #[.string x.legs[k].acct] 9)) := (hb.alloc hszr _).alloc (by simp; omega) _
      have HO2 := Lib.hid hO2
      have Hne := Lib.hid hne
      have HH := Lib.hid hHeap
      have HL := Lib.hid hlen
      clear hO2 hne hHeap hlen hO1 hO
      go_wp2_with (at_builtin; refine wpList_append_one rfl (some 22) (.tmp 18) (.tmp 21) 55 rfl rfl (.string ByteArray.empty) 16 Try.underlying55 strInfo rfl Nat.one_pos (by decide) rfl HO2.out (wr.heap.size + 1) x.legs[k].acct rfl _ 9 HH.out rfl Hne.out Hsz.out (by rw [HL.out]; omega) hbb'.size ?_; intro v3 w3 hO3 hg3 hat3)
      go_roundw
      case rel => exact ⟨k + 1, by go_num, by omega, by
        rw [show k + 1 + 2 = k + 2 + 1 from rfl, List.take_succ_eq_append_getElem (by simp; omega)]
        simpa using hO3, hbb'.trans (HO2.out.below hg3 (Nat.le_refl _) hbb'.size)⟩
      case measure => simp [intOf]; omega
    · have hkl : k = x.legs.length := by omega
      subst hkl
      clear hO0 hb0
      rw [List.take_of_length_le (by simp)] at hO
      go_wp2_with fail
      refine (deleteFunc_str w.heap.size _ _ 74 #[] (fun s => s.toList.isEmpty) _ hO (by simp; omega) (enters_of Try.func74 (by kernel_rfl) rfl) (fun s _ w1 _ => (touches1_c s w1).mono (fun e w2 h => ⟨h.1, h.2 ▸ Below.refl _ _⟩))).mono ?_
      rintro e w1 ⟨v1, rfl, hO1, hg1, hv1⟩
      have hb1 := hb.trans (hO.below hg1 (Nat.le_refl _) hb.size)
      have hl1 : ((x.acct :: x.peer :: x.legs.map Leg.acct).filter nonE).length ≤ 12 := Nat.le_trans (List.length_filter_le _ _) (by simp; omega)
      have HL1 := Lib.hid hl1
      clear hl1 hO
      go_wp2_with fail
      refine (sort_str w.heap.size _ _ _ hO1 HL1.out).mono ?_
      rintro e w2 ⟨rfl, hO2, hg2⟩
      have hb2 := hb1.trans (hO1.below hg2 (Nat.le_refl _) hb1.size)
      clear hO1
      go_wp2_with fail
      refine (compact_str w.heap.size _ _ _ hO2 (by rw [(sortB_perm _).length_eq]; exact Nat.le_trans HL1.out (by decide))).mono ?_
      rintro e w3 ⟨v3, rfl, hO3, hg3, hv3⟩
      have hb3 := hb2.trans (hO2.below hg3 (Nat.le_refl _) hb2.size)
      clear hO2
      go_wp2
      go_ret
      exact ⟨_, rfl, hO3, hb3⟩
end Go.Proofs.Ytogecfddkohigaa
