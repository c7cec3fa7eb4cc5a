/- OrderTouches -/
import Derived.Test.YtogecfddkohigaaRows
import Derived.Test.YtogecfddkohigaaTouchL
import Derived.Test.YtogecfddkohigaaLives6
import Derived.Test.YtogecfddkohigaaAppendG
import Derived.Deep.RegionHeld3
import Derived.WalkKit
import Derived.WalkSpells
import Derived.WalkLawsBesides
import Derived.Deep.QuietTactic
import Derived.BigQuiet
import Derived.Laws.StructEq
import Derived.Deep.DeepFit
import Derived.StillTailTactics
namespace Go.Proofs.Ytogecfddkohigaa
open Go.RowKit
set_option maxRecDepth 100000 in
set_option maxHeartbeats 8000000 in
theorem orTouches_c (x : Od) (w : World) (hx : Okb w w.heap.size x) :
    Calls Try.prog 8 #[x.v] w fun e w' => e = .returned (.bool true) ∧ Below w.heap.size w w' := by
  have hb0 := (Below.refl w.heap.size w).alloc (Nat.le_refl _) (.cells #[i64 x.client, i64 x.seq, i64 x.kind, .string x.acct, .string x.peer, i64 x.sum, .slice x.la x.legs.length x.lc, i64 x.period, i64 x.hold, .string x.note] 30)
  have hg := heap_alloc_new w (.cells #[i64 x.client, i64 x.seq, i64 x.kind, .string x.acct, .string x.peer, i64 x.sum, .slice x.la x.legs.length x.lc, i64 x.period, i64 x.hold, .string x.note] 30)
  have hz : w.heap.size < (w.alloc (.cells #[i64 x.client, i64 x.seq, i64 x.kind, .string x.acct, .string x.peer, i64 x.sum, .slice x.la x.legs.length x.lc, i64 x.period, i64 x.hold, .string x.note] 30)).heap.size := by simp
  have k0 := cell_of_row _ w.heap.size 0 _ _ (0, 0) hg
  have k1 := cell_of_row _ w.heap.size 1 _ _ (0, 0) hg
  have k2 := cell_of_row _ w.heap.size 2 _ _ (0, 0) hg
  have k3 := cell_of_row _ w.heap.size 3 _ _ (0, 0) hg
  have k4 := cell_of_row _ w.heap.size 4 _ _ (0, 0) hg
  have k5 := cell_of_row _ w.heap.size 5 _ _ (0, 0) hg
  have k6 := cell_of_row _ w.heap.size 6 _ _ (0, 0) hg
  have k7 := cell_of_row _ w.heap.size 7 _ _ (0, 0) hg
  have k8 := cell_of_row _ w.heap.size 8 _ _ (0, 0) hg
  have k9 := cell_of_row _ w.heap.size 9 _ _ (0, 0) hg
  simp only [List.getElem?_toArray, List.getElem?_cons_zero, List.getElem?_cons_succ] at k0 k1 k2 k3 k4 k5 k6 k7 k8 k9
  have hF6 := Lib.hid fun W h => few6_c x W (Okb.later hx h)
  unfold Od.v at hF6 ⊢
  go_enter Try.func8, Try.ntmps8
  go_wp2_with fail
  refine (lives_06 _).mono ?_
  rintro e w1 ⟨rfl, hF⟩
  have k0 := (hF.cell (p := ⟨w.heap.size, 0, none⟩) hz).trans k0
  have k1 := (hF.cell (p := ⟨w.heap.size, 1, none⟩) hz).trans k1
  have k2 := (hF.cell (p := ⟨w.heap.size, 2, none⟩) hz).trans k2
  have k3 := (hF.cell (p := ⟨w.heap.size, 3, none⟩) hz).trans k3
  have k4 := (hF.cell (p := ⟨w.heap.size, 4, none⟩) hz).trans k4
  have k5 := (hF.cell (p := ⟨w.heap.size, 5, none⟩) hz).trans k5
  have k6 := (hF.cell (p := ⟨w.heap.size, 6, none⟩) hz).trans k6
  have k7 := (hF.cell (p := ⟨w.heap.size, 7, none⟩) hz).trans k7
  have k8 := (hF.cell (p := ⟨w.heap.size, 8, none⟩) hz).trans k8
  have k9 := (hF.cell (p := ⟨w.heap.size, 9, none⟩) hz).trans k9
  have hg := (hF.block _ hz).trans hg
  have hb1 := below_on hb0 (Nat.le_refl _) hF
  have hz := Nat.lt_of_lt_of_le hz hF.size
  clear hF hb0
  go_wp2_with fail
  refine (hF6.out _ hb1).mono ?_
  rintro e w2 ⟨rfl, hF⟩
  have hg := (hF.block _ hz).trans hg
  have hb2 := below_on hb1 (Nat.le_refl _) hF
  have hz := Nat.lt_of_lt_of_le hz hF.size
  have hy := cut10_ok hx
  have hyl := cut10_legs x
  generalize cut10 x = y at *
  have HRes := Lib.hid hg
  have hrow := setRow_heap w2 w.heap.size _ #[i64 y.client, i64 y.seq, i64 y.kind, .string y.acct, .string y.peer, i64 y.sum, .slice y.la y.legs.length y.lc, i64 y.period, i64 y.hold, .string y.note] _ _ hg
  have hb3 := hb2.trans (⟨rfl, rfl, rfl, by simp, fun k hk => setRow_other _ _ _ _ (by omega)⟩ : Below w.heap.size w2 (w2.setRow w.heap.size #[i64 y.client, i64 y.seq, i64 y.kind, .string y.acct, .string y.peer, i64 y.sum, .slice y.la y.legs.length y.lc, i64 y.period, i64 y.hold, .string y.note]))
  have hz3 : w.heap.size < (w2.setRow w.heap.size #[i64 y.client, i64 y.seq, i64 y.kind, .string y.acct, .string y.peer, i64 y.sum, .slice y.la y.legs.length y.lc, i64 y.period, i64 y.hold, .string y.note]).heap.size := by simpa using hz
  clear hF hb1 hb2 hg hF6 hz k0 k1 k2 k3 k4 k5 k6 k7 k8 k9
  generalize hW3 : w2.setRow w.heap.size #[i64 y.client, i64 y.seq, i64 y.kind, .string y.acct, .string y.peer, i64 y.sum, .slice y.la y.legs.length y.lc, i64 y.period, i64 y.hold, .string y.note] = W3 at *
  have HW3 := Lib.hid hW3
  clear hW3
  have k0 := cell_of_row _ w.heap.size 0 _ _ (0, 0) hrow
  have k1 := cell_of_row _ w.heap.size 1 _ _ (0, 0) hrow
  have k2 := cell_of_row _ w.heap.size 2 _ _ (0, 0) hrow
  have k3 := cell_of_row _ w.heap.size 3 _ _ (0, 0) hrow
  have k4 := cell_of_row _ w.heap.size 4 _ _ (0, 0) hrow
  have k5 := cell_of_row _ w.heap.size 5 _ _ (0, 0) hrow
  have k6 := cell_of_row _ w.heap.size 6 _ _ (0, 0) hrow
  have k7 := cell_of_row _ w.heap.size 7 _ _ (0, 0) hrow
  have k8 := cell_of_row _ w.heap.size 8 _ _ (0, 0) hrow
  have k9 := cell_of_row _ w.heap.size 9 _ _ (0, 0) hrow
  simp only [List.getElem?_toArray, List.getElem?_cons_zero, List.getElem?_cons_succ] at k0 k1 k2 k3 k4 k5 k6 k7 k8 k9
  have hy3 := Okb.later hy hb3
  have hT := Lib.hid fun W (h : Below W3.heap.size W3 W) => touches_c y W (Okb.later hy3 h) hyl
  unfold Od.v at hT
  clear hrow hx
  go_wp2_with (refine wpList_store_row rfl 30 (.tmp 1) (.tmp 11) rfl w.heap.size #[i64 y.client, i64 y.seq, i64 y.kind, .string y.acct, .string y.peer, i64 y.sum, .slice y.la y.legs.length y.lc, i64 y.period, i64 y.hold, .string y.note] rfl rfl 30 #[i64 x.client, i64 x.seq, i64 x.kind, .string x.acct, .string x.peer, i64 x.sum, .slice x.la x.legs.length x.lc, i64 x.period, i64 x.hold, .string x.note] HRes.out (by kernel_rfl) rfl (by simp [Value.oneCell']) ?_; rw [HW3.out])
  refine (hT.out _ (Below.refl _ _)).mono ?_
  rintro e w4 ⟨vT, rfl, hO, hF⟩
  have k0 := (hF.cell (p := ⟨w.heap.size, 0, none⟩) hz3).trans k0
  have k1 := (hF.cell (p := ⟨w.heap.size, 1, none⟩) hz3).trans k1
  have k2 := (hF.cell (p := ⟨w.heap.size, 2, none⟩) hz3).trans k2
  have k3 := (hF.cell (p := ⟨w.heap.size, 3, none⟩) hz3).trans k3
  have k4 := (hF.cell (p := ⟨w.heap.size, 4, none⟩) hz3).trans k4
  have k5 := (hF.cell (p := ⟨w.heap.size, 5, none⟩) hz3).trans k5
  have k6 := (hF.cell (p := ⟨w.heap.size, 6, none⟩) hz3).trans k6
  have k7 := (hF.cell (p := ⟨w.heap.size, 7, none⟩) hz3).trans k7
  have k8 := (hF.cell (p := ⟨w.heap.size, 8, none⟩) hz3).trans k8
  have k9 := (hF.cell (p := ⟨w.heap.size, 9, none⟩) hz3).trans k9
  have hb4 := below_on hb3 (Nat.le_refl _) hF
  have hy4 := Okb.later hy3 hF
  have hz4 := Nat.lt_of_lt_of_le hz3 hF.size
  obtain ⟨AT, cT, rfl, hsT⟩ := hO.sl
  have hnT := touches_len y hyl
  have Hmem := Lib.hid (rt_all y)
  have Hsrt := Lib.hid (fun (i j : Nat) (hi : i < (touches y).length) (hj : j < (touches y).length) (h : i < j) => touches_srt y hi hj h)
  have Hcl := Lib.hid (fun h => touches_close (x := y) h)
  generalize touches y = T at hsT hnT Hmem Hsrt Hcl ⊢
  clear hO hF hT hb3 hy3 hz3 HRes HW3
  have Hy4 := Lib.hid hy4
  obtain ⟨ha, hp, -, hlg⟩ := hy4
  have hO0 := own_lit (w := w4) (base := w4.heap.size) 9 #[.string y.acct, .string y.peer] [y.acct, y.peer] (Nat.le_refl _) rfl (by simp) (by
    intro s hs
    simp only [List.mem_cons, List.not_mem_nil, or_false] at hs
    rcases hs with rfl | rfl
    · exact ha
    · exact hp)
  have hB5 := (Below.refl w4.heap.size w4).alloc (Nat.le_refl _) (.cells #[.string y.acct, .string y.peer] 9)
  go_wp2_with fail
  have hlr : y.legs.length ≤ y.lc := hlg.1
  have HO0 := Lib.hid hO0
  have HB5 := Lib.hid hB5
  clear hO0 hB5 ha hp
  go_loopw [4, 5] (fun v i wr => ∃ k : Nat, i = i64 k ∧ k ≤ y.legs.length ∧ Own wr w4.heap.size 9 v ((y.acct :: y.peer :: y.legs.map Leg.acct).take (k + 2)) ∧ Below w4.heap.size w4 wr) (fun _ i _ => y.legs.length - (intOf i).toNat)
  case atStart => exact ⟨0, rfl, by omega, HO0.out, HB5.out⟩
  case round =>
    obtain ⟨k, rfl, hk, hO, hB⟩ := hrel
    clear HO0 HB5
    have j6 := (hB.cell (p := ⟨w.heap.size, 6, none⟩) hz4).trans k6
    by_cases hlt : k < y.legs.length
    · obtain ⟨b, ob, hA, hbb, hsz, c0, c1⟩ := (hlg.later hB).leg hlt
      have Hsz := Lib.hid hsz
      rw [hA] at j6
      have hB3 := (Below.refl wr.heap.size wr).alloc (Nat.le_refl _) (.cells #[.string y.legs[k].acct] 9)
      have HO2 := Lib.hid (hO.later hB3)
      have Hne := Lib.hid (hO.new_ne (Nat.le_refl wr.heap.size))
      have HH := Lib.hid (heap_alloc_new wr (.cells #[.string y.legs[k].acct] 9))
      have hlen : ((y.acct :: y.peer :: y.legs.map Leg.acct).take (k + 2)).length = k + 2 := by simp; omega
      have HL := Lib.hid hlen
      have hB4 := below_on hB (Nat.le_refl _) hB3
      clear hA hsz hO hB hlen hB3
      go_wp2_with (at_builtin; refine wpList_append_one rfl (some 34) (.tmp 26) (.tmp 33) 55 rfl rfl (.string ByteArray.empty) 16 Try.underlying55 strInfo rfl Nat.one_pos (by decide) rfl HO2.out wr.heap.size y.legs[k].acct rfl _ 9 HH.out rfl Hne.out Hsz.out (by rw [HL.out]; omega) hB4.size ?_; intro v3 w3 hO3 hg3 hat3)
      go_roundw
      case rel => exact ⟨k + 1, by go_num, by omega, by
        rw [show k + 1 + 2 = k + 2 + 1 from rfl, List.take_succ_eq_append_getElem (by simp; omega)]
        simpa using hO3, hB4.trans (HO2.out.below hg3 (Nat.le_refl _) hB4.size)⟩
      case measure => simp [intOf]; omega
    · obtain rfl : k = y.legs.length := by omega
      rw [List.take_of_length_le (by simp)] at hO
      have hnL : (y.acct :: y.peer :: y.legs.map Leg.acct).length ≤ 12 := by simp; omega
      have Hyx := Lib.hid (show y.acct :: y.peer :: y.legs.map Leg.acct = y.acct :: y.peer :: y.legs.map Leg.acct from rfl)
      generalize y.acct :: y.peer :: y.legs.map Leg.acct = L at hO hnL Hmem
      obtain ⟨AL, cL, rfl, hsL⟩ := hO.sl
      have hsT2 := hsT.later hB
      have hy5 : Okb wr wr.heap.size y := Okb.later (Okb.later (show Okb w4 w4.heap.size y from Hy4.out) (Below.refl _ _)) hB
      have m0 := (hB.cell (p := ⟨w.heap.size, 0, none⟩) hz4).trans k0
      have m1 := (hB.cell (p := ⟨w.heap.size, 1, none⟩) hz4).trans k1
      have m2 := (hB.cell (p := ⟨w.heap.size, 2, none⟩) hz4).trans k2
      have m3 := (hB.cell (p := ⟨w.heap.size, 3, none⟩) hz4).trans k3
      have m4 := (hB.cell (p := ⟨w.heap.size, 4, none⟩) hz4).trans k4
      have m5 := (hB.cell (p := ⟨w.heap.size, 5, none⟩) hz4).trans k5
      have m6 := (hB.cell (p := ⟨w.heap.size, 6, none⟩) hz4).trans k6
      have m7 := (hB.cell (p := ⟨w.heap.size, 7, none⟩) hz4).trans k7
      have m8 := (hB.cell (p := ⟨w.heap.size, 8, none⟩) hz4).trans k8
      have m9 := (hB.cell (p := ⟨w.heap.size, 9, none⟩) hz4).trans k9
      have hb5 := below_on hb4 (Nat.le_refl _) hB
      have hz5 := Nat.lt_of_lt_of_le hz4 hB.size
      clear hO hB j6 hlg hlr hsT hb4 hz4 k0 k1 k2 k3 k4 k5 k6 k7 k8 k9 Hyx
      go_wp2_with fail
      obtain ⟨wo, rfl⟩ : ∃ wo : World, wo = wr := ⟨_, rfl⟩
      go_loopw [6] (fun i wr => ∃ k : Nat, i = i64 k ∧ k ≤ T.length ∧ Below wo.heap.size wo wr) (fun i _ => T.length - (intOf i).toNat)
      case atStart => exact ⟨0, rfl, by omega, Below.refl _ _⟩
      case round =>
        obtain ⟨k, rfl, hk, hB⟩ := hrel
        by_cases hlt : k < T.length
        · obtain ⟨hm1, hm2⟩ := (Hmem.out T[k]).1 (List.getElem_mem hlt)
          have hsT3 := hsT2.later hB
          have hsL3 := hsL.later hB
          obtain ⟨b1, o1, rfl, -, -, d0⟩ := hsT3.str hlt
          have i0 : (0 : Int) ≤ (k : Int) := by omega
          have i1 : (k : Int) < (T.length : Int) := by omega
          have g1 : T[k].toList.isEmpty = false := by simpa using hm2
          have y1 : ∀ V, Below wr.heap.size wr V → Calls Try.prog 41 #[.slice AL L.length cL, .string T[k]] V fun e w' => e = .returned (.bool true) ∧ Below V.heap.size V w' := fun V h => by
            have := has_c AL cL L T[k] V (hsL3.later h) (by omega)
            rw [anyS_of hm1] at this
            exact this
          clear hm1 hm2 hsT3 hsL3
          have h0 := (Below.refl wr.heap.size wr).drew
          by_cases hk0 : k = 0
          · have hK0 := Lib.hid hk0
            have g2 : ¬ 0 < k := by omega
            clear hk0
            have hSS : ∀ V, Below wr.heap.size wr V → (fun V : World => Below wr.heap.size wr V ∧ V.cell? ⟨b1, o1 + k, none⟩ = some (.string T[k])) V := fun V h => ⟨h, (h.cell (World.block_lt_of_cell? _ _ d0)).trans d0⟩
            go_wp2_with fail
            refine wp_region_noPanic ?_
            refine wp_region_held_drew (S := fun V => Below wr.heap.size wr V ∧ V.cell? ⟨b1, o1 + k, none⟩ = some (.string T[k])) (by kernel_rfl) (hSS _ h0) (fun hH => ?_)
            refine wpAnyH_take (i := 0) (v := ?v100) rfl (by kernel_rfl) (by kernel_rfl) (by kernel_rfl) (fun _ _ _ h => h) (Or.inl ⟨by kernel_rfl, ?hy100⟩) (by assumption) ?r100
            case hy100 => (intro V hSW; obtain ⟨_, f0⟩ := hSW; go_simp; try with_reducible rfl)
            simp only [Act.put, List.getElem_toArray, List.getElem_cons_zero, List.setIfInBounds_toArray, List.set_cons_zero, List.set_cons_succ]
            refine wpAnyH_take (i := 1) (v := ?v201) rfl (by kernel_rfl) (by kernel_rfl) (by kernel_rfl) (fun _ _ _ h => h) (Or.inl ⟨by kernel_rfl, ?hy201⟩) (by assumption) ?r201
            case hy201 => (intro V hSW; obtain ⟨_, f0⟩ := hSW; go_simp; try with_reducible rfl)
            simp only [Act.put, List.getElem_toArray, List.getElem_cons_zero, List.getElem_cons_succ, List.setIfInBounds_toArray, List.set_cons_zero, List.set_cons_succ]
            refine wpAnyH_take (i := 2) (v := ?v302) rfl (by kernel_rfl) (by kernel_rfl) (by kernel_rfl) (fun _ _ _ h => h) (Or.inl ⟨by kernel_rfl, ?hy302⟩) (by assumption) ?r302
            case hy302 => (intro V hSW; obtain ⟨_, f0⟩ := hSW; go_simp; try with_reducible rfl)
            simp only [Act.put, List.getElem_toArray, List.getElem_cons_zero, List.getElem_cons_succ, List.setIfInBounds_toArray, List.set_cons_zero, List.set_cons_succ]
            refine wpAnyH_take (i := 3) (v := ?v403) rfl (by kernel_rfl) (by kernel_rfl) (by kernel_rfl) (fun _ _ _ h => h) (Or.inl ⟨by kernel_rfl, ?hy403⟩) (by assumption) ?r403
            case hy403 => (intro V hSW; obtain ⟨_, f0⟩ := hSW; go_simp; try with_reducible rfl)
            simp only [Act.put, List.getElem_toArray, List.getElem_cons_zero, List.getElem_cons_succ, List.setIfInBounds_toArray, List.set_cons_zero, List.set_cons_succ]
            refine wpAnyH_take (i := 4) (v := ?v504) rfl (by kernel_rfl) (by kernel_rfl) (by kernel_rfl) (fun _ _ _ h => h) (Or.inl ⟨by kernel_rfl, ?hy504⟩) (by assumption) ?r504
            case hy504 => (intro V hSW; obtain ⟨_, f0⟩ := hSW; go_simp; try with_reducible rfl)
            simp only [Act.put, List.getElem_toArray, List.getElem_cons_zero, List.getElem_cons_succ, List.setIfInBounds_toArray, List.set_cons_zero, List.set_cons_succ]
            refine wpAnyH_take (i := 5) (v := ?v605) rfl (by kernel_rfl) (by kernel_rfl) (by kernel_rfl) (fun _ _ _ h => h) (Or.inl ⟨by kernel_rfl, ?hy605⟩) (by assumption) ?r605
            case hy605 => (intro V hSW; obtain ⟨_, f0⟩ := hSW; go_simp; try with_reducible rfl)
            simp only [Act.put, List.getElem_toArray, List.getElem_cons_zero, List.getElem_cons_succ, List.setIfInBounds_toArray, List.set_cons_zero, List.set_cons_succ]
            refine wpAnyH_take (i := 6) (v := ?v706) rfl (by kernel_rfl) (by kernel_rfl) (by kernel_rfl) (fun _ _ _ h => h) (Or.inl ⟨by kernel_rfl, ?hy706⟩) (by assumption) ?r706
            case hy706 => (intro V hSW; obtain ⟨_, f0⟩ := hSW; go_simp; try with_reducible rfl)
            simp only [Act.put, List.getElem_toArray, List.getElem_cons_zero, List.getElem_cons_succ, List.setIfInBounds_toArray, List.set_cons_zero, List.set_cons_succ]
            refine wpAnyH_take (i := 7) (v := ?v807) rfl (by kernel_rfl) (by kernel_rfl) (by kernel_rfl) (fun _ _ _ h => h) (Or.inl ⟨by kernel_rfl, ?hy807⟩) (by assumption) ?r807
            case hy807 => (intro V hSW; obtain ⟨_, f0⟩ := hSW; go_simp; try with_reducible rfl)
            simp only [Act.put, List.getElem_toArray, List.getElem_cons_zero, List.getElem_cons_succ, List.setIfInBounds_toArray, List.set_cons_zero, List.set_cons_succ]
            refine wpAnyH_take (i := 8) (v := ?v908) rfl (by kernel_rfl) (by kernel_rfl) (by kernel_rfl) (fun _ _ _ h => h) (Or.inl ⟨by kernel_rfl, ?hy908⟩) (by assumption) ?r908
            case hy908 => (intro V hSW; obtain ⟨_, f0⟩ := hSW; go_simp; try with_reducible rfl)
            simp only [Act.put, List.getElem_toArray, List.getElem_cons_zero, List.getElem_cons_succ, List.setIfInBounds_toArray, List.set_cons_zero, List.set_cons_succ]
            refine wpAnyH_take (i := 9) (v := undef) rfl (by kernel_rfl) (by kernel_rfl) (by kernel_rfl) (fun _ _ _ h => h) (Or.inr ⟨by kernel_rfl, rfl⟩) (by assumption) ?r1009
            simp only [Act.put, List.getElem_toArray, List.getElem_cons_zero, List.getElem_cons_succ, List.setIfInBounds_toArray, List.set_cons_zero, List.set_cons_succ]
            refine wpAnyH_take (i := 10) (v := undef) rfl (by kernel_rfl) (by kernel_rfl) (by kernel_rfl) (fun _ _ _ h => h) (Or.inr ⟨by kernel_rfl, rfl⟩) (by assumption) ?r1110
            simp only [Act.put, List.getElem_toArray, List.getElem_cons_zero, List.getElem_cons_succ, List.setIfInBounds_toArray, List.set_cons_zero, List.set_cons_succ]
            refine wpAnyH_take (i := 11) (v := undef) rfl (by kernel_rfl) (by kernel_rfl) (by kernel_rfl) (fun _ _ _ h => h) (Or.inr ⟨by kernel_rfl, rfl⟩) (by assumption) ?r1211
            simp only [Act.put, List.getElem_toArray, List.getElem_cons_zero, List.getElem_cons_succ, List.setIfInBounds_toArray, List.set_cons_zero, List.set_cons_succ]
            refine wpAnyH_take (i := 12) (v := undef) rfl (by kernel_rfl) (by kernel_rfl) (by kernel_rfl) (fun _ _ _ h => h) (Or.inr ⟨by kernel_rfl, rfl⟩) (by assumption) ?r1312
            simp only [Act.put, List.getElem_toArray, List.getElem_cons_zero, List.getElem_cons_succ, List.setIfInBounds_toArray, List.set_cons_zero, List.set_cons_succ]
            refine wpAnyH_take (i := 13) (v := undef) rfl (by kernel_rfl) (by kernel_rfl) (by kernel_rfl) (fun _ _ _ h => h) (Or.inr ⟨by kernel_rfl, rfl⟩) (by assumption) ?r1413
            simp only [Act.put, List.getElem_toArray, List.getElem_cons_zero, List.getElem_cons_succ, List.setIfInBounds_toArray, List.set_cons_zero, List.set_cons_succ]
            refine wpAnyH_take (i := 14) (v := undef) rfl (by kernel_rfl) (by kernel_rfl) (by kernel_rfl) (fun _ _ _ h => h) (Or.inr ⟨by kernel_rfl, rfl⟩) (by assumption) ?r1514
            simp only [Act.put, List.getElem_toArray, List.getElem_cons_zero, List.getElem_cons_succ, List.setIfInBounds_toArray, List.set_cons_zero, List.set_cons_succ]
            refine wpAnyH_take (i := 15) (v := undef) rfl (by kernel_rfl) (by kernel_rfl) (by kernel_rfl) (fun _ _ _ h => h) (Or.inr ⟨by kernel_rfl, rfl⟩) (by assumption) ?r1615
            simp only [Act.put, List.getElem_toArray, List.getElem_cons_zero, List.getElem_cons_succ, List.setIfInBounds_toArray, List.set_cons_zero, List.set_cons_succ]
            refine wpAnyH_take (i := 16) (v := undef) rfl (by kernel_rfl) (by kernel_rfl) (by kernel_rfl) (fun _ _ _ h => h) (Or.inr ⟨by kernel_rfl, rfl⟩) (by assumption) ?r1716
            simp only [Act.put, List.getElem_toArray, List.getElem_cons_zero, List.getElem_cons_succ, List.setIfInBounds_toArray, List.set_cons_zero, List.set_cons_succ]
            refine wpAnyH_take (i := 17) (v := undef) rfl (by kernel_rfl) (by kernel_rfl) (by kernel_rfl) (fun _ _ _ h => h) (Or.inr ⟨by kernel_rfl, rfl⟩) (by assumption) ?r1817
            simp only [Act.put, List.getElem_toArray, List.getElem_cons_zero, List.getElem_cons_succ, List.setIfInBounds_toArray, List.set_cons_zero, List.set_cons_succ]
            refine wpAnyH_take (i := 18) (v := undef) rfl (by kernel_rfl) (by kernel_rfl) (by kernel_rfl) (fun _ _ _ h => h) (Or.inr ⟨by kernel_rfl, rfl⟩) (by assumption) ?r1918
            simp only [Act.put, List.getElem_toArray, List.getElem_cons_zero, List.getElem_cons_succ, List.setIfInBounds_toArray, List.set_cons_zero, List.set_cons_succ]
            refine wpAnyH_take (i := 19) (v := ?v2019) rfl (by kernel_rfl) (by kernel_rfl) (by kernel_rfl) (fun _ _ _ h => h) (Or.inl ⟨by kernel_rfl, ?hy2019⟩) (by assumption) ?r2019
            case hy2019 => (intro V hSW; obtain ⟨_, f0⟩ := hSW; go_simp; try with_reducible rfl)
            simp only [Act.put, List.getElem_toArray, List.getElem_cons_zero, List.getElem_cons_succ, List.setIfInBounds_toArray, List.set_cons_zero, List.set_cons_succ]
            refine wpAnyH_take (i := 20) (v := ?v2120) rfl (by kernel_rfl) (by kernel_rfl) (by kernel_rfl) (fun _ _ _ h => h) (Or.inl ⟨by kernel_rfl, ?hy2120⟩) (by assumption) ?r2120
            case hy2120 => (intro V hSW; obtain ⟨_, f0⟩ := hSW; go_simp; try with_reducible rfl)
            simp only [Act.put, List.getElem_toArray, List.getElem_cons_zero, List.getElem_cons_succ, List.setIfInBounds_toArray, List.set_cons_zero, List.set_cons_succ]
            refine wpAnyH_take (i := 21) (v := ?v2221) rfl (by kernel_rfl) (by kernel_rfl) (by kernel_rfl) (fun _ _ _ h => h) (Or.inl ⟨by kernel_rfl, ?hy2221⟩) (by assumption) ?r2221
            case hy2221 => (intro V hSW; obtain ⟨_, f0⟩ := hSW; go_simp; try with_reducible rfl)
            simp only [Act.put, List.getElem_toArray, List.getElem_cons_zero, List.getElem_cons_succ, List.setIfInBounds_toArray, List.set_cons_zero, List.set_cons_succ]
            refine wpAnyH_take (i := 22) (v := ?v2322) rfl (by kernel_rfl) (by kernel_rfl) (by kernel_rfl) (fun _ _ _ h => h) (Or.inl ⟨by kernel_rfl, ?hy2322⟩) (by assumption) ?r2322
            case hy2322 => (intro V hSW; obtain ⟨_, f0⟩ := hSW; go_simp; try with_reducible rfl)
            simp only [Act.put, List.getElem_toArray, List.getElem_cons_zero, List.getElem_cons_succ, List.setIfInBounds_toArray, List.set_cons_zero, List.set_cons_succ]
            refine wpAnyH_take (i := 23) (v := ?v2423) rfl (by kernel_rfl) (by kernel_rfl) (by kernel_rfl) (fun _ _ _ h => h) (Or.inl ⟨by kernel_rfl, ?hy2423⟩) (by assumption) ?r2423
            case hy2423 => (intro V hSW; obtain ⟨_, f0⟩ := hSW; go_simp; try with_reducible rfl)
            simp only [Act.put, List.getElem_toArray, List.getElem_cons_zero, List.getElem_cons_succ, List.setIfInBounds_toArray, List.set_cons_zero, List.set_cons_succ]
            refine wpAnyH_take (i := 24) (v := ?v2524) rfl (by kernel_rfl) (by kernel_rfl) (by kernel_rfl) (fun _ _ _ h => h) (Or.inl ⟨by kernel_rfl, ?hy2524⟩) (by assumption) ?r2524
            case hy2524 => (intro V hSW; obtain ⟨_, f0⟩ := hSW; go_simp; try with_reducible rfl)
            simp only [Act.put, List.getElem_toArray, List.getElem_cons_zero, List.getElem_cons_succ, List.setIfInBounds_toArray, List.set_cons_zero, List.set_cons_succ]
            refine wpAnyH_take (i := 25) (v := ?v2625) rfl (by kernel_rfl) (by kernel_rfl) (by kernel_rfl) (fun _ _ _ h => h) (Or.inl ⟨by kernel_rfl, ?hy2625⟩) (by assumption) ?r2625
            case hy2625 => (intro V hSW; obtain ⟨_, f0⟩ := hSW; go_simp; try with_reducible rfl)
            simp only [Act.put, List.getElem_toArray, List.getElem_cons_zero, List.getElem_cons_succ, List.setIfInBounds_toArray, List.set_cons_zero, List.set_cons_succ]
            refine wpAnyH_take (i := 26) (v := ?v2726) rfl (by kernel_rfl) (by kernel_rfl) (by kernel_rfl) (fun _ _ _ h => h) (Or.inl ⟨by kernel_rfl, ?hy2726⟩) (by assumption) ?r2726
            case hy2726 => (intro V hSW; obtain ⟨_, f0⟩ := hSW; go_simp; try with_reducible rfl)
            simp only [Act.put, List.getElem_toArray, List.getElem_cons_zero, List.getElem_cons_succ, List.setIfInBounds_toArray, List.set_cons_zero, List.set_cons_succ]
            refine wpAnyH_ready (rs := [27]) (by kernel_rfl) (by simp) ?_
            refine AllReadyH.cons rfl (fun K hK => ?_) AllReadyH.nil
            go_simp
            go_at_call 41
            with_reducible refine (y1 _ h0).mono ?_
            rintro e w6 ⟨rfl, hF⟩
            have h6 := below_on h0 (Nat.le_refl _) hF
            refine hK.out _ _ (hSS _ h6) (fun hH2 => ?_)
            clear hK K hF
            refine wpAnyH_take (i := 28) (v := ?v2828) rfl (by kernel_rfl) (by kernel_rfl) (by kernel_rfl) (fun _ _ _ h => h) (Or.inl ⟨by kernel_rfl, ?hy2828⟩) (by assumption) ?r2828
            case hy2828 => (intro V hSW; obtain ⟨_, f0⟩ := hSW; go_simp; try with_reducible rfl)
            simp only [Act.put, List.getElem_toArray, List.getElem_cons_zero, List.getElem_cons_succ, List.setIfInBounds_toArray, List.set_cons_zero, List.set_cons_succ]
            refine wpAnyH_take (i := 29) (v := ?v2929) rfl (by kernel_rfl) (by kernel_rfl) (by kernel_rfl) (fun _ _ _ h => h) (Or.inl ⟨by kernel_rfl, ?hy2929⟩) (by assumption) ?r2929
            case hy2929 => (intro V hSW; obtain ⟨_, f0⟩ := hSW; go_simp; try with_reducible rfl)
            simp only [Act.put, List.getElem_toArray, List.getElem_cons_zero, List.getElem_cons_succ, List.setIfInBounds_toArray, List.set_cons_zero, List.set_cons_succ]
            refine wpAnyH_done (by kernel_rfl) ?_ _
            refine NoPanic.normal ?_
            have hB6 := below_on hB (Nat.le_refl _) h6
            clear hH hH2 hSS y1 h0 h6
            go_wp2
            go_roundw
            case rel => exact ⟨k + 1, by go_num, by omega, hB6⟩
            case measure => simp [intOf]; omega
          · obtain ⟨k, rfl⟩ : ∃ k', k = k' + 1 := ⟨k - 1, by omega⟩
            have hkl : k < T.length := by omega
            obtain ⟨b2, o2, hA2, -, -, d1⟩ := (hsT2.later hB).str hkl
            injection hA2 with hA2
            injection hA2 with hA3 hA4
            subst hA3 hA4
            have g2 : 0 < k + 1 := by omega
            have hbl := Hsrt.out k (k + 1) hkl hlt (Nat.lt_succ_self _)
            have g3 : Op.bytesLess T[k].toList T[k + 1].toList = true := hbl
            have w1 : IntKind.i64.wrap (k : Int) = (k : Int) := by rw [IntKind.wrap_i64]; omega
            have j0 : (0 : Int) ≤ (k : Int) + 1 := by omega
            have j1 : (k : Int) + 1 < (T.length : Int) := by omega
            have k0 : (0 : Int) ≤ (k : Int) := by omega
            have k1 : (k : Int) < (T.length : Int) := by omega
            clear hk0 hbl
            have hSS : ∀ V, Below wr.heap.size wr V → (fun V : World => Below wr.heap.size wr V ∧ V.cell? ⟨b1, o1 + (k + 1), none⟩ = some (.string T[k + 1]) ∧ V.cell? ⟨b1, o1 + k, none⟩ = some (.string T[k])) V := fun V h => ⟨h, (h.cell (World.block_lt_of_cell? _ _ d0)).trans d0, (h.cell (World.block_lt_of_cell? _ _ d1)).trans d1⟩
            go_wp2_with fail
            refine wp_region_noPanic ?_
            refine wp_region_held_drew (S := fun V => Below wr.heap.size wr V ∧ V.cell? ⟨b1, o1 + (k + 1), none⟩ = some (.string T[k + 1]) ∧ V.cell? ⟨b1, o1 + k, none⟩ = some (.string T[k])) (by kernel_rfl) (hSS _ h0) (fun hH => ?_)
            refine wpAnyH_take (i := 0) (v := ?v3000) rfl (by kernel_rfl) (by kernel_rfl) (by kernel_rfl) (fun _ _ _ h => h) (Or.inl ⟨by kernel_rfl, ?hy3000⟩) (by assumption) ?r3000
            case hy3000 => (intro V hSW; obtain ⟨_, f0, f1⟩ := hSW; go_simp; try with_reducible rfl)
            simp only [Act.put, List.getElem_toArray, List.getElem_cons_zero, List.setIfInBounds_toArray, List.set_cons_zero, List.set_cons_succ]
            refine wpAnyH_take (i := 1) (v := ?v3101) rfl (by kernel_rfl) (by kernel_rfl) (by kernel_rfl) (fun _ _ _ h => h) (Or.inl ⟨by kernel_rfl, ?hy3101⟩) (by assumption) ?r3101
            case hy3101 => (intro V hSW; obtain ⟨_, f0, f1⟩ := hSW; go_simp; try with_reducible rfl)
            simp only [Act.put, List.getElem_toArray, List.getElem_cons_zero, List.getElem_cons_succ, List.setIfInBounds_toArray, List.set_cons_zero, List.set_cons_succ]
            refine wpAnyH_take (i := 2) (v := ?v3202) rfl (by kernel_rfl) (by kernel_rfl) (by kernel_rfl) (fun _ _ _ h => h) (Or.inl ⟨by kernel_rfl, ?hy3202⟩) (by assumption) ?r3202
            case hy3202 => (intro V hSW; obtain ⟨_, f0, f1⟩ := hSW; go_simp; try with_reducible rfl)
            simp only [Act.put, List.getElem_toArray, List.getElem_cons_zero, List.getElem_cons_succ, List.setIfInBounds_toArray, List.set_cons_zero, List.set_cons_succ]
            refine wpAnyH_take (i := 3) (v := ?v3303) rfl (by kernel_rfl) (by kernel_rfl) (by kernel_rfl) (fun _ _ _ h => h) (Or.inl ⟨by kernel_rfl, ?hy3303⟩) (by assumption) ?r3303
            case hy3303 => (intro V hSW; obtain ⟨_, f0, f1⟩ := hSW; go_simp; try with_reducible rfl)
            simp only [Act.put, List.getElem_toArray, List.getElem_cons_zero, List.getElem_cons_succ, List.setIfInBounds_toArray, List.set_cons_zero, List.set_cons_succ]
            refine wpAnyH_take (i := 4) (v := ?v3404) rfl (by kernel_rfl) (by kernel_rfl) (by kernel_rfl) (fun _ _ _ h => h) (Or.inl ⟨by kernel_rfl, ?hy3404⟩) (by assumption) ?r3404
            case hy3404 => (intro V hSW; obtain ⟨_, f0, f1⟩ := hSW; go_simp; try with_reducible rfl)
            simp only [Act.put, List.getElem_toArray, List.getElem_cons_zero, List.getElem_cons_succ, List.setIfInBounds_toArray, List.set_cons_zero, List.set_cons_succ]
            refine wpAnyH_take (i := 5) (v := ?v3505) rfl (by kernel_rfl) (by kernel_rfl) (by kernel_rfl) (fun _ _ _ h => h) (Or.inl ⟨by kernel_rfl, ?hy3505⟩) (by assumption) ?r3505
            case hy3505 => (intro V hSW; obtain ⟨_, f0, f1⟩ := hSW; go_simp; try with_reducible rfl)
            simp only [Act.put, List.getElem_toArray, List.getElem_cons_zero, List.getElem_cons_succ, List.setIfInBounds_toArray, List.set_cons_zero, List.set_cons_succ]
            refine wpAnyH_take (i := 6) (v := ?v3606) rfl (by kernel_rfl) (by kernel_rfl) (by kernel_rfl) (fun _ _ _ h => h) (Or.inl ⟨by kernel_rfl, ?hy3606⟩) (by assumption) ?r3606
            case hy3606 => (intro V hSW; obtain ⟨_, f0, f1⟩ := hSW; go_simp; try with_reducible rfl)
            simp only [Act.put, List.getElem_toArray, List.getElem_cons_zero, List.getElem_cons_succ, List.setIfInBounds_toArray, List.set_cons_zero, List.set_cons_succ]
            refine wpAnyH_take (i := 7) (v := ?v3707) rfl (by kernel_rfl) (by kernel_rfl) (by kernel_rfl) (fun _ _ _ h => h) (Or.inl ⟨by kernel_rfl, ?hy3707⟩) (by assumption) ?r3707
            case hy3707 => (intro V hSW; obtain ⟨_, f0, f1⟩ := hSW; go_simp; try with_reducible rfl)
            simp only [Act.put, List.getElem_toArray, List.getElem_cons_zero, List.getElem_cons_succ, List.setIfInBounds_toArray, List.set_cons_zero, List.set_cons_succ]
            refine wpAnyH_take (i := 8) (v := ?v3808) rfl (by kernel_rfl) (by kernel_rfl) (by kernel_rfl) (fun _ _ _ h => h) (Or.inl ⟨by kernel_rfl, ?hy3808⟩) (by assumption) ?r3808
            case hy3808 => (intro V hSW; obtain ⟨_, f0, f1⟩ := hSW; go_simp; try with_reducible rfl)
            simp only [Act.put, List.getElem_toArray, List.getElem_cons_zero, List.getElem_cons_succ, List.setIfInBounds_toArray, List.set_cons_zero, List.set_cons_succ]
            refine wpAnyH_take (i := 9) (v := ?v3909) rfl (by kernel_rfl) (by kernel_rfl) (by kernel_rfl) (fun _ _ _ h => h) (Or.inl ⟨by kernel_rfl, ?hy3909⟩) (by assumption) ?r3909
            case hy3909 => (intro V hSW; obtain ⟨_, f0, f1⟩ := hSW; go_simp; try with_reducible rfl)
            simp only [Act.put, List.getElem_toArray, List.getElem_cons_zero, List.getElem_cons_succ, List.setIfInBounds_toArray, List.set_cons_zero, List.set_cons_succ]
            refine wpAnyH_take (i := 10) (v := ?v4010) rfl (by kernel_rfl) (by kernel_rfl) (by kernel_rfl) (fun _ _ _ h => h) (Or.inl ⟨by kernel_rfl, ?hy4010⟩) (by assumption) ?r4010
            case hy4010 => (intro V hSW; obtain ⟨_, f0, f1⟩ := hSW; go_simp; try with_reducible rfl)
            simp only [Act.put, List.getElem_toArray, List.getElem_cons_zero, List.getElem_cons_succ, List.setIfInBounds_toArray, List.set_cons_zero, List.set_cons_succ]
            refine wpAnyH_take (i := 11) (v := ?v4111) rfl (by kernel_rfl) (by kernel_rfl) (by kernel_rfl) (fun _ _ _ h => h) (Or.inl ⟨by kernel_rfl, ?hy4111⟩) (by assumption) ?r4111
            case hy4111 => (intro V hSW; obtain ⟨_, f0, f1⟩ := hSW; go_simp; try with_reducible rfl)
            simp only [Act.put, List.getElem_toArray, List.getElem_cons_zero, List.getElem_cons_succ, List.setIfInBounds_toArray, List.set_cons_zero, List.set_cons_succ]
            refine wpAnyH_take (i := 12) (v := ?v4212) rfl (by kernel_rfl) (by kernel_rfl) (by kernel_rfl) (fun _ _ _ h => h) (Or.inl ⟨by kernel_rfl, ?hy4212⟩) (by assumption) ?r4212
            case hy4212 => (intro V hSW; obtain ⟨_, f0, f1⟩ := hSW; go_simp; try with_reducible rfl)
            simp only [Act.put, List.getElem_toArray, List.getElem_cons_zero, List.getElem_cons_succ, List.setIfInBounds_toArray, List.set_cons_zero, List.set_cons_succ]
            refine wpAnyH_take (i := 13) (v := ?v4313) rfl (by kernel_rfl) (by kernel_rfl) (by kernel_rfl) (fun _ _ _ h => h) (Or.inl ⟨by kernel_rfl, ?hy4313⟩) (by assumption) ?r4313
            case hy4313 => (intro V hSW; obtain ⟨_, f0, f1⟩ := hSW; go_simp; try with_reducible rfl)
            simp only [Act.put, List.getElem_toArray, List.getElem_cons_zero, List.getElem_cons_succ, List.setIfInBounds_toArray, List.set_cons_zero, List.set_cons_succ]
            refine wpAnyH_take (i := 14) (v := ?v4414) rfl (by kernel_rfl) (by kernel_rfl) (by kernel_rfl) (fun _ _ _ h => h) (Or.inl ⟨by kernel_rfl, ?hy4414⟩) (by assumption) ?r4414
            case hy4414 => (intro V hSW; obtain ⟨_, f0, f1⟩ := hSW; go_simp; try with_reducible rfl)
            simp only [Act.put, List.getElem_toArray, List.getElem_cons_zero, List.getElem_cons_succ, List.setIfInBounds_toArray, List.set_cons_zero, List.set_cons_succ]
            refine wpAnyH_take (i := 15) (v := ?v4515) rfl (by kernel_rfl) (by kernel_rfl) (by kernel_rfl) (fun _ _ _ h => h) (Or.inl ⟨by kernel_rfl, ?hy4515⟩) (by assumption) ?r4515
            case hy4515 => (intro V hSW; obtain ⟨_, f0, f1⟩ := hSW; go_simp; try with_reducible rfl)
            simp only [Act.put, List.getElem_toArray, List.getElem_cons_zero, List.getElem_cons_succ, List.setIfInBounds_toArray, List.set_cons_zero, List.set_cons_succ]
            refine wpAnyH_take (i := 16) (v := ?v4616) rfl (by kernel_rfl) (by kernel_rfl) (by kernel_rfl) (fun _ _ _ h => h) (Or.inl ⟨by kernel_rfl, ?hy4616⟩) (by assumption) ?r4616
            case hy4616 => (intro V hSW; obtain ⟨_, f0, f1⟩ := hSW; go_simp; try with_reducible rfl)
            simp only [Act.put, List.getElem_toArray, List.getElem_cons_zero, List.getElem_cons_succ, List.setIfInBounds_toArray, List.set_cons_zero, List.set_cons_succ]
            refine wpAnyH_take (i := 17) (v := ?v4717) rfl (by kernel_rfl) (by kernel_rfl) (by kernel_rfl) (fun _ _ _ h => h) (Or.inl ⟨by kernel_rfl, ?hy4717⟩) (by assumption) ?r4717
            case hy4717 => (intro V hSW; obtain ⟨_, f0, f1⟩ := hSW; go_simp; try with_reducible rfl)
            simp only [Act.put, List.getElem_toArray, List.getElem_cons_zero, List.getElem_cons_succ, List.setIfInBounds_toArray, List.set_cons_zero, List.set_cons_succ]
            refine wpAnyH_take (i := 18) (v := ?v4818) rfl (by kernel_rfl) (by kernel_rfl) (by kernel_rfl) (fun _ _ _ h => h) (Or.inl ⟨by kernel_rfl, ?hy4818⟩) (by assumption) ?r4818
            case hy4818 => (intro V hSW; obtain ⟨_, f0, f1⟩ := hSW; go_simp; try with_reducible rfl)
            simp only [Act.put, List.getElem_toArray, List.getElem_cons_zero, List.getElem_cons_succ, List.setIfInBounds_toArray, List.set_cons_zero, List.set_cons_succ]
            refine wpAnyH_take (i := 19) (v := ?v4919) rfl (by kernel_rfl) (by kernel_rfl) (by kernel_rfl) (fun _ _ _ h => h) (Or.inl ⟨by kernel_rfl, ?hy4919⟩) (by assumption) ?r4919
            case hy4919 => (intro V hSW; obtain ⟨_, f0, f1⟩ := hSW; go_simp; try with_reducible rfl)
            simp only [Act.put, List.getElem_toArray, List.getElem_cons_zero, List.getElem_cons_succ, List.setIfInBounds_toArray, List.set_cons_zero, List.set_cons_succ]
            refine wpAnyH_take (i := 20) (v := ?v5020) rfl (by kernel_rfl) (by kernel_rfl) (by kernel_rfl) (fun _ _ _ h => h) (Or.inl ⟨by kernel_rfl, ?hy5020⟩) (by assumption) ?r5020
            case hy5020 => (intro V hSW; obtain ⟨_, f0, f1⟩ := hSW; go_simp; try with_reducible rfl)
            simp only [Act.put, List.getElem_toArray, List.getElem_cons_zero, List.getElem_cons_succ, List.setIfInBounds_toArray, List.set_cons_zero, List.set_cons_succ]
            refine wpAnyH_take (i := 21) (v := ?v5121) rfl (by kernel_rfl) (by kernel_rfl) (by kernel_rfl) (fun _ _ _ h => h) (Or.inl ⟨by kernel_rfl, ?hy5121⟩) (by assumption) ?r5121
            case hy5121 => (intro V hSW; obtain ⟨_, f0, f1⟩ := hSW; go_simp; try with_reducible rfl)
            simp only [Act.put, List.getElem_toArray, List.getElem_cons_zero, List.getElem_cons_succ, List.setIfInBounds_toArray, List.set_cons_zero, List.set_cons_succ]
            refine wpAnyH_take (i := 22) (v := ?v5222) rfl (by kernel_rfl) (by kernel_rfl) (by kernel_rfl) (fun _ _ _ h => h) (Or.inl ⟨by kernel_rfl, ?hy5222⟩) (by assumption) ?r5222
            case hy5222 => (intro V hSW; obtain ⟨_, f0, f1⟩ := hSW; go_simp; try with_reducible rfl)
            simp only [Act.put, List.getElem_toArray, List.getElem_cons_zero, List.getElem_cons_succ, List.setIfInBounds_toArray, List.set_cons_zero, List.set_cons_succ]
            refine wpAnyH_take (i := 23) (v := ?v5323) rfl (by kernel_rfl) (by kernel_rfl) (by kernel_rfl) (fun _ _ _ h => h) (Or.inl ⟨by kernel_rfl, ?hy5323⟩) (by assumption) ?r5323
            case hy5323 => (intro V hSW; obtain ⟨_, f0, f1⟩ := hSW; go_simp; try with_reducible rfl)
            simp only [Act.put, List.getElem_toArray, List.getElem_cons_zero, List.getElem_cons_succ, List.setIfInBounds_toArray, List.set_cons_zero, List.set_cons_succ]
            refine wpAnyH_take (i := 24) (v := ?v5424) rfl (by kernel_rfl) (by kernel_rfl) (by kernel_rfl) (fun _ _ _ h => h) (Or.inl ⟨by kernel_rfl, ?hy5424⟩) (by assumption) ?r5424
            case hy5424 => (intro V hSW; obtain ⟨_, f0, f1⟩ := hSW; go_simp; try with_reducible rfl)
            simp only [Act.put, List.getElem_toArray, List.getElem_cons_zero, List.getElem_cons_succ, List.setIfInBounds_toArray, List.set_cons_zero, List.set_cons_succ]
            refine wpAnyH_take (i := 25) (v := ?v5525) rfl (by kernel_rfl) (by kernel_rfl) (by kernel_rfl) (fun _ _ _ h => h) (Or.inl ⟨by kernel_rfl, ?hy5525⟩) (by assumption) ?r5525
            case hy5525 => (intro V hSW; obtain ⟨_, f0, f1⟩ := hSW; go_simp; try with_reducible rfl)
            simp only [Act.put, List.getElem_toArray, List.getElem_cons_zero, List.getElem_cons_succ, List.setIfInBounds_toArray, List.set_cons_zero, List.set_cons_succ]
            refine wpAnyH_take (i := 26) (v := ?v5626) rfl (by kernel_rfl) (by kernel_rfl) (by kernel_rfl) (fun _ _ _ h => h) (Or.inl ⟨by kernel_rfl, ?hy5626⟩) (by assumption) ?r5626
            case hy5626 => (intro V hSW; obtain ⟨_, f0, f1⟩ := hSW; go_simp; try with_reducible rfl)
            simp only [Act.put, List.getElem_toArray, List.getElem_cons_zero, List.getElem_cons_succ, List.setIfInBounds_toArray, List.set_cons_zero, List.set_cons_succ]
            refine wpAnyH_ready (rs := [27]) (by kernel_rfl) (by simp) ?_
            refine AllReadyH.cons rfl (fun K hK => ?_) AllReadyH.nil
            go_simp
            go_at_call 41
            with_reducible refine (y1 _ h0).mono ?_
            rintro e w6 ⟨rfl, hF⟩
            have h6 := below_on h0 (Nat.le_refl _) hF
            refine hK.out _ _ (hSS _ h6) (fun hH2 => ?_)
            clear hK K hF
            refine wpAnyH_take (i := 28) (v := ?v5728) rfl (by kernel_rfl) (by kernel_rfl) (by kernel_rfl) (fun _ _ _ h => h) (Or.inl ⟨by kernel_rfl, ?hy5728⟩) (by assumption) ?r5728
            case hy5728 => (intro V hSW; obtain ⟨_, f0, f1⟩ := hSW; go_simp; try with_reducible rfl)
            simp only [Act.put, List.getElem_toArray, List.getElem_cons_zero, List.getElem_cons_succ, List.setIfInBounds_toArray, List.set_cons_zero, List.set_cons_succ]
            refine wpAnyH_take (i := 29) (v := ?v5829) rfl (by kernel_rfl) (by kernel_rfl) (by kernel_rfl) (fun _ _ _ h => h) (Or.inl ⟨by kernel_rfl, ?hy5829⟩) (by assumption) ?r5829
            case hy5829 => (intro V hSW; obtain ⟨_, f0, f1⟩ := hSW; go_simp; try with_reducible rfl)
            simp only [Act.put, List.getElem_toArray, List.getElem_cons_zero, List.getElem_cons_succ, List.setIfInBounds_toArray, List.set_cons_zero, List.set_cons_succ]
            refine wpAnyH_done (by kernel_rfl) ?_ _
            refine NoPanic.normal ?_
            have hB6 := below_on hB (Nat.le_refl _) h6
            clear hH hH2 hSS y1 h0 h6
            go_wp2
            go_roundw
            case rel => exact ⟨k + 2, by go_num, by omega, hB6⟩
            case measure => simp [intOf]; omega
        · obtain rfl : k = T.length := by omega
          have hsT3 := hsT2.later hB
          have hsL3 := hsL.later hB
          have hy6 := Lib.hid (Okb.later hy5 hB)
          have hb6 := below_on hb5 (Nat.le_refl _) hB
          have n0 := (hB.cell (p := ⟨w.heap.size, 0, none⟩) hz5).trans m0
          have n1 := (hB.cell (p := ⟨w.heap.size, 1, none⟩) hz5).trans m1
          have n2 := (hB.cell (p := ⟨w.heap.size, 2, none⟩) hz5).trans m2
          have n3 := (hB.cell (p := ⟨w.heap.size, 3, none⟩) hz5).trans m3
          have n4 := (hB.cell (p := ⟨w.heap.size, 4, none⟩) hz5).trans m4
          have n5 := (hB.cell (p := ⟨w.heap.size, 5, none⟩) hz5).trans m5
          have n6 := (hB.cell (p := ⟨w.heap.size, 6, none⟩) hz5).trans m6
          have n7 := (hB.cell (p := ⟨w.heap.size, 7, none⟩) hz5).trans m7
          have n8 := (hB.cell (p := ⟨w.heap.size, 8, none⟩) hz5).trans m8
          have n9 := (hB.cell (p := ⟨w.heap.size, 9, none⟩) hz5).trans m9
          have hz6 := Nat.lt_of_lt_of_le hz5 hB.size
          clear hsT2 hsL hy5 hb5 hz5 hB m0 m1 m2 m3 m4 m5 m6 m7 m8 m9
          go_wp2_with fail
          obtain ⟨wp, rfl⟩ : ∃ wp : World, wp = wr := ⟨_, rfl⟩
          go_loopw [7] (fun i wr => ∃ k : Nat, i = i64 k ∧ k ≤ L.length ∧ Below wp.heap.size wp wr) (fun i _ => L.length - (intOf i).toNat)
          case atStart => exact ⟨0, rfl, by omega, Below.refl _ _⟩
          case round =>
            obtain ⟨k, rfl, hk, hB⟩ := hrel
            by_cases hlt : k < L.length
            · obtain ⟨b1, o1, rfl, -, -, d0⟩ := (hsL3.later hB).str hlt
              have i0 : (0 : Int) ≤ (k : Int) := by omega
              have i1 : (k : Int) < (L.length : Int) := by omega
              by_cases hne : nonE L[k] = true
              · have g1 : L[k].toList.isEmpty = false := by simpa using hne
                have y2 := has_c AT cT T L[k] wr (hsT3.later hB) (by omega)
                rw [anyS_of ((Hmem.out L[k]).2 ⟨List.getElem_mem hlt, hne⟩)] at y2
                have Y2 := Lib.hid y2
                clear hne y2
                go_wp2_with fail
                refine Y2.out.mono ?_
                rintro e w6 ⟨rfl, hF⟩
                have hB6 := below_on hB (Nat.le_refl _) hF
                clear hF
                go_wp2
                go_roundw
                case rel => exact ⟨k + 1, by go_num, by omega, hB6⟩
                case measure => simp [intOf]; omega
              · have g1 : L[k].toList.isEmpty = true := by simpa using hne
                clear hne
                go_wp2
                go_roundw
                case rel => exact ⟨k + 1, by go_num, by omega, hB⟩
                case measure => simp [intOf]; omega
            · obtain rfl : k = L.length := by omega
              have hR := Lib.hid (right_c0 y wr (Okb.later hy6.out hB) (by omega))
              unfold Od.v at hR
              have p0 := (hB.cell (p := ⟨w.heap.size, 0, none⟩) hz6).trans n0
              have p1 := (hB.cell (p := ⟨w.heap.size, 1, none⟩) hz6).trans n1
              have p2 := (hB.cell (p := ⟨w.heap.size, 2, none⟩) hz6).trans n2
              have p3 := (hB.cell (p := ⟨w.heap.size, 3, none⟩) hz6).trans n3
              have p4 := (hB.cell (p := ⟨w.heap.size, 4, none⟩) hz6).trans n4
              have p5 := (hB.cell (p := ⟨w.heap.size, 5, none⟩) hz6).trans n5
              have p6 := (hB.cell (p := ⟨w.heap.size, 6, none⟩) hz6).trans n6
              have p7 := (hB.cell (p := ⟨w.heap.size, 7, none⟩) hz6).trans n7
              have p8 := (hB.cell (p := ⟨w.heap.size, 8, none⟩) hz6).trans n8
              have p9 := (hB.cell (p := ⟨w.heap.size, 9, none⟩) hz6).trans n9
              have hB6 := below_on hb6 (Nat.le_refl _) hB
              clear hB n0 n1 n2 n3 n4 n5 n6 n7 n8 n9 hb6
              go_wp2_with fail
              refine hR.out.mono ?_
              rintro e w7 ⟨rfl, hF⟩
              have q2 := (hF.cell (World.block_lt_of_cell? _ _ p2)).trans p2
              have hB7 := below_on hB6 (Nat.le_refl _) hF
              clear hF hR p0 p1 p2 p3 p4 p5 p6 p7 p8 p9
              by_cases hr : rightB y = true
              · have hc := Hcl.out hr
                rw [hr]
                by_cases h6 : y.kind = 6
                · have g1 : (y.kind == 6) = true := beq_iff_eq.2 h6
                  have g2 : T = [] := List.length_eq_zero_iff.1 (hc.2 h6)
                  clear hr hc h6
                  subst g2
                  go_wp2
                  go_ret
                  exact ⟨rfl, hB7⟩
                · have g1 : (y.kind == 6) = false := beq_eq_false_iff_ne.2 h6
                  have g2 : ((T.length : Int) == 0) = false := by rw [beq_eq_false_iff_ne]; exact fun h => h6 (hc.1 (by omega))
                  have g3 : ¬ T = [] := fun h => h6 (hc.1 (by rw [h]; rfl))
                  clear hr hc h6
                  go_wp2
                  go_ret
                  exact ⟨rfl, hB7⟩
              · have hr' : rightB y = false := by simpa using hr
                rw [hr']
                clear hr hr'
                go_wp2
                go_ret
                exact ⟨rfl, hB7⟩
end Go.Proofs.Ytogecfddkohigaa
