/- ref11: Same, Lay -/
import Derived.Test.YtdkkblhfjblpkaaGreatRows
import Derived.Test.YtdkkblhfjblpkaaGreatBi18
import Derived.Test.YtdkkblhfjblpkaaGreatBi3
import Derived.Test.YtdkkblhfjblpkaaGreatBi19
import Derived.WalkKit
import Derived.WalkSpells
import Derived.WalkLawsBesides
import Derived.Deep.QuietTactic
import Derived.BigQuiet
import Derived.Laws.StructEq
import Derived.Deep.DeepFit
import Derived.StillTailTactics
namespace Go.Proofs.YtdkkblhfjblpkaaGreat
open Go.RowKit
set_option maxRecDepth 100000 in
set_option maxHeartbeats 4000000 in
theorem rsame11_c (A C : Option Addr) (c d : Nat) (a b : List (SV Od)) (w : World) (ha : Sl w w.heap.size A c a) (hb : Sl w w.heap.size C d b) (hsa : smallS a) (hsb : smallS b) :
    Calls Tryz.prog 16 #[.slice A a.length c, .slice C b.length d] w fun e w' => e = .returned (.bool (sameS (a.map SV.l) (b.map SV.l))) ∧ Below w.heap.size w w' := by
  have Hsa := Lib.hid hsa
  have Hsb := Lib.hid hsb
  have hna := hsa.1
  have hnb := hsb.1
  clear hsa hsb
  by_cases hl : a.length = b.length
  · have q : ((a.length : Int) != (b.length : Int)) = false := by rw [hl]; simp
    have HL := Lib.hid hl
    clear hl
    go_enter Tryz.func16, Tryz.ntmps16
    go_wp2
    go_loopw [5] (fun i wr => ∃ k : Nat, i = i64 k ∧ k ≤ a.length ∧ (∀ j (hj : j < a.length) (hj' : j < b.length), j < k → sameL a[j].l b[j].l = true) ∧ Below w.heap.size w wr) (fun i _ => a.length - (intOf i).toNat)
    case atStart => exact ⟨0, rfl, by omega, by omega, Below.refl _ _⟩
    case round =>
      obtain ⟨k, rfl, hk, hall, hbr⟩ := hrel
      have Hall := Lib.hid hall
      clear hall
      by_cases hlt : k < a.length
      · have hltb : k < b.length := by have := HL.out; omega
        have hbd := (Below.refl wr.heap.size wr).drew
        obtain ⟨b0, o0, rfl, hbb, hok, c0⟩ := (ha.later hbr).sv hlt
        obtain ⟨b2, o2, rfl, hbb2, hok2, d0⟩ := (hb.later hbr).sv hltb
        have h1 := Hsa.out.2 _ (List.getElem_mem hlt)
        have h2 := Hsb.out.2 _ (List.getElem_mem hltb)
        have HC := Lib.hid (sameL_c _ _ _ _ a[k].l b[k].l wr.drew (hok.later hbd) (hok2.later hbd) (by omega) (by omega) (fun y hy => Nat.le_trans (h1.2 y hy) (by decide)) (fun y hy => Nat.le_trans (h2.2 y hy) (by decide)))
        clear hok hok2 h1 h2
        go_wp2
        refine wp_region_still_tail 8 (by kernel_rfl) (by kernel_rfl) ?_
        simp only [List.take_succ_cons, List.take_zero, List.drop_succ_cons, List.drop_zero]
        change wpStill _ _ (World.drew _) (fun a' => wpList _ _ _ _ a' (World.drew _)) _ _
        repeat still_step
        refine wpStill_nil ?_
        go_wp2_with fail
        refine HC.out.mono ?_
        rintro e w5 ⟨rfl, hb5⟩
        have hb6 := hbr.trans ((hbd.trans hb5).mono hbr.size)
        clear hb5 HC c0 d0 hbd
        by_cases hs : sameL a[k].l b[k].l = true
        · rw [hs]
          have Hs := Lib.hid hs
          clear hs
          go_wp2
          go_roundw
          case rel => exact ⟨k + 1, by go_num, by omega, fun j hj hj' h => by
              rcases Nat.lt_succ_iff_lt_or_eq.1 h with h | rfl
              · exact Hall.out j hj hj' h
              · exact Hs.out, hb6⟩
          case measure => simp [intOf]; omega
        · have hs' : sameL a[k].l b[k].l = false := by simpa using hs
          rw [hs']
          have Hs := Lib.hid hs'
          clear hs hs'
          go_wp2
          go_ret
          refine ⟨?_, hb6⟩
          have : sameS (a.map SV.l) (b.map SV.l) = false := by
            unfold sameS
            rw [Bool.and_eq_false_iff]
            right
            rw [List.all_eq_false]
            refine ⟨(a[k].l, b[k].l), ?_, by rw [Hs.out]; decide⟩
            rw [List.mem_iff_getElem]
            exact ⟨k, by simp; omega, by simp⟩
          rw [this]
          rfl
      · obtain rfl : k = a.length := by omega
        have g1 : decide ((a.length : Int) < (a.length : Int)) = false := decide_eq_false (by omega)
        go_wp2
        go_ret
        refine ⟨?_, hbr⟩
        have : sameS (a.map SV.l) (b.map SV.l) = true := by
          unfold sameS
          rw [List.length_map, List.length_map, decide_eq_true HL.out, Bool.true_and, List.all_eq_true]
          intro p hp
          obtain ⟨j, hj, rfl⟩ := List.getElem_of_mem hp
          simp only [List.length_zip, List.length_map] at hj
          rw [List.getElem_zip, List.getElem_map, List.getElem_map]
          exact Hall.out j (by omega) (by omega) (by omega)
        rw [this]
        rfl
  · have q : ((a.length : Int) != (b.length : Int)) = true := by simp; omega
    have Hs : Hid (sameS (a.map SV.l) (b.map SV.l) = false) := Lib.hid (by unfold sameS; rw [List.length_map, List.length_map, decide_eq_false hl]; rfl)
    clear hl
    go_enter Tryz.func16, Tryz.ntmps16
    go_wp2
    go_ret
    exact ⟨by rw [Hs.out]; rfl, Below.refl _ _⟩
theorem lay_take {S : List (SV Od)} {k : Nat} (hk : k < S.length) : layL ((S.take (k + 1)).map SV.l) = layL ((S.take k).map SV.l) ++ S[k].l := by
  unfold layL
  rw [List.take_succ_eq_append_getElem hk, List.map_append, List.flatten_append]
  simp
theorem lay_take_le (S : List (SV Od)) (k : Nat) : (layL ((S.take k).map SV.l)).length ≤ (layL (S.map SV.l)).length := by
  unfold layL
  conv => rhs; rw [← List.take_append_drop k S, List.map_append, List.flatten_append, List.length_append]
  exact Nat.le_add_right _ _
set_option maxRecDepth 100000 in
set_option maxHeartbeats 4000000 in
theorem rlay11_c (A : Option Addr) (c : Nat) (S : List (SV Od)) (w : World) (h : Sl w w.heap.size A c S) (hn : S.length ≤ 65536) (ht : (layL (S.map SV.l)).length ≤ 65536) :
    Calls Tryz.prog 21 #[.slice A S.length c] w fun e w' => ∃ v, e = .returned v ∧ Own w' w.heap.size 50 v (layL (S.map SV.l)) ∧ Below w.heap.size w w' := by
  have H := Lib.hid h
  have Ht := Lib.hid (fun k => Nat.le_trans (lay_take_le S k) ht)
  clear h ht
  go_enter Tryz.func21, Tryz.ntmps21
  go_wp2
  go_loopw [3, 4] (fun v i wr => ∃ (x : Value) (k : Nat), x = v ∧ i = i64 k ∧ k ≤ S.length ∧ Own wr w.heap.size 50 x (layL ((S.take k).map SV.l)) ∧ Below w.heap.size w wr) (fun _ i _ => S.length - (intOf i).toNat)
  case atStart => exact ⟨_, 0, rfl, rfl, Nat.zero_le _, Own.nil_ _ _ _, Below.refl _ _⟩
  case round =>
    obtain ⟨x, k, rfl, rfl, hk, hO, hb⟩ := hrel
    have HO := Lib.hid hO
    clear hO
    by_cases hlt : k < S.length
    · obtain ⟨b0, o0, rfl, hbb, hok, c0⟩ := (H.out.below hb).sv hlt
      have Hs := Lib.hid (hok.mono (HO.out.oth (Nat.le_refl _) hb.size))
      have Hln := Lib.hid (show (layL ((S.take k).map SV.l)).length + S[k].l.length ≤ 4294967296 from Nat.le_trans (Nat.le_of_eq (by rw [lay_take hlt, List.length_append])) (Nat.le_trans (Ht.out (k + 1)) (by decide)))
      have Hn := Lib.hid (lay_take hlt)
      clear hok
      generalize S[k] = y at *
      go_wp2_with (at_builtin; refine wpList_append_slice rfl (some 16) (.tmp 11) (.tmp 15) 22 rfl rfl _ 120 Tryz.underlying22 inf_od rfl (by decide) (by decide) rfl HO.out y.a _ y.c y.l rfl rfl Hs.out Hln.out hb.size ?_; intro v3 w3 hO3 hg3 hat3)
      go_roundw
      case rel => exact ⟨_, k + 1, rfl, by go_num, by omega, by rw [Hn.out]; exact hO3, hb.trans (HO.out.below hg3 (Nat.le_refl _) hb.size)⟩
      case measure => simp [intOf]; omega
    · obtain rfl : k = S.length := by omega
      have g1 : decide ((S.length : Int) < (S.length : Int)) = false := decide_eq_false (by omega)
      have hO := HO.out
      rw [List.take_length] at hO
      have HO := Lib.hid hO
      clear hO
      go_wp2
      go_ret
      exact ⟨x, rfl, HO.out, hb⟩
end Go.Proofs.YtdkkblhfjblpkaaGreat
