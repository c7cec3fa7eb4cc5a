/- voucher: right, weigh -/
import Derived.Test.YthmgchohbdlonaaGreatRows
import Derived.Test.YthmgchohbdlonaaGreatLegsP
import Derived.Test.YthmgchohbdlonaaGreatTotal
import Derived.Test.YthmgchohbdlonaaGreatAppend
import Derived.WalkKit
import Derived.WalkSpells
import Derived.WalkLawsBesides
import Derived.Deep.QuietTactic
import Derived.BigQuiet
import Derived.Laws.StructEq
import Derived.Deep.DeepFit
import Derived.StillTailTactics
namespace Go.Proofs.YthmgchohbdlonaaGreat
open Go.RowKit
theorem legsTo_len {l : List Leg} (h : ∀ x ∈ l, legB x = true) : legsB l = (decide ((seenM l).length = l.length) && (decide (2 ≤ l.length) && decide (l.length ≤ 6))) := by
  unfold legsB
  rw [List.all_eq_true.2 h, Bool.and_true]
  congr 1
  rw [decide_eq_decide]
  exact (seenM_len l).2.symm
set_option maxRecDepth 100000 in
set_option maxHeartbeats 4000000 in
theorem right_c (A : Option Addr) (c : Nat) (l : List Leg) (w : World) (h : Sl w w.heap.size A c l) (hn : l.length ≤ 65536) :
    Calls Tryz.prog 71 #[.slice A l.length c] w fun e w' => e = .returned (.bool (legsB l)) ∧ Below w.heap.size w w' := by
  have hmm := @run_makeMap Tryz.prog
  go_enter Tryz.func71, Tryz.ntmps71
  go_wp2
  have hm0 := MapIs.made (enc := Value.string) w
  have hb0 := (Below.refl w.heap.size w).alloc (Nat.le_refl _) (.map #[] 0)
  go_loopw [9] (fun i wr => ∃ k : Nat, i = i64 k ∧ k ≤ l.length ∧ MapIs Value.string wr w.heap.size (seenM (l.take k)) ∧ (∀ x ∈ l.take k, legB x = true) ∧ Below w.heap.size w wr) (fun i _ => l.length - (intOf i).toNat)
  case atStart => exact ⟨0, rfl, by omega, hm0, by simp, hb0⟩
  case round =>
    obtain ⟨k, rfl, hk, hm, ht, hb⟩ := hrel
    have HT := Lib.hid ht
    clear hm0 hb0 hmm ht
    by_cases hlt : k < l.length
    · obtain ⟨b, o, rfl, hbb, hsz, c0, c1⟩ := (h.later hb).leg hlt
      have hB1 := (Below.refl wr.heap.size wr).alloc (Nat.le_refl _) (.cells #[.string l[k].acct, i64 l[k].sum] 93)
      have Hm1 := Lib.hid (hm.later hB1)
      have Hb1 := Lib.hid (hb.alloc hb.size (.cells #[.string l[k].acct, i64 l[k].sum] 93))
      clear hm
      go_wp2_with fail
      refine (name_b l[k].acct _).mono ?_
      rintro e w2 ⟨rfl, hF⟩
      have e0 : (wr.alloc (.cells #[.string l[k].acct, i64 l[k].sum] 93)).cell? ⟨wr.heap.size, 0, none⟩ = some (.string l[k].acct) := by simp
      have e1 : (wr.alloc (.cells #[.string l[k].acct, i64 l[k].sum] 93)).cell? ⟨wr.heap.size, 1, none⟩ = some (i64 l[k].sum) := by simp
      have e0 := (hF.cell (p := ⟨wr.heap.size, 0, none⟩) (by simp)).trans e0
      have e1 := (hF.cell (p := ⟨wr.heap.size, 1, none⟩) (by simp)).trans e1
      have hm2 := Lib.hid (Hm1.out.later hF)
      have hb2 := Lib.hid (below_on Hb1.out (Nat.le_refl _) hF)
      clear hF c0 c1 Hm1 Hb1 hb hB1
      by_cases hnm : nameB l[k].acct = true
      · rw [hnm]
        by_cases hz : l[k].sum = 0
        · have g1 : (l[k].sum == 0) = true := beq_iff_eq.2 hz
          have Hs2 := Lib.hid (legsB_bad hlt (by unfold legB; rw [hz]; simp))
          clear hz hnm
          go_wp2
          go_ret
          exact ⟨by rw [Hs2.out]; rfl, hb2.out⟩
        · have g1 : (l[k].sum == 0) = false := beq_eq_false_iff_ne.2 hz
          have Hl := Lib.hid (show legB l[k] = true by unfold legB; rw [hnm, decide_eq_true hz]; rfl)
          clear hz hnm
          go_wp2_with (refine wpList_put rfl none (.tmp 22) (.tmp 24) (.const (.bool true)) 140 rfl rfl strKey Tryz.underlying140 rfl hm2.out l[k].acct (.bool true) rfl rfl ?_; intro w3 hm3 hg3)
          go_roundw
          case rel => exact ⟨k + 1, by go_num, by omega, by rw [List.take_succ_eq_append_getElem hlt, seenM_snoc]; exact hm3, fun x hx => by
              rw [List.take_succ_eq_append_getElem hlt] at hx
              rcases List.mem_append.1 hx with hx | hx
              · exact HT.out x hx
              · simp only [List.mem_singleton] at hx; subst hx; exact Hl.out, hb2.out.trans (below_of_grown hg3 hb2.out.size (fun g e => by injection e with e; omega))⟩
          case measure => simp [intOf]; omega
      · have hnm' : nameB l[k].acct = false := by simpa using hnm
        rw [hnm']
        have Hs2 := Lib.hid (legsB_bad hlt (by unfold legB; rw [hnm']; rfl))
        clear hnm hnm'
        go_wp2
        go_ret
        exact ⟨by rw [Hs2.out]; rfl, hb2.out⟩
    · obtain rfl : k = l.length := by omega
      have ht := HT.out
      rw [List.take_length] at ht hm
      have hal := legsTo_len ht
      have hlen := fun ty => run_lenM (P := Tryz.prog) Tryz.underlying140 hm ty
      clear ht
      have hsl : (seenM l).length ≤ l.length := (seenM_len l).1
      generalize (seenM l).length = sl at *
      clear hm
      by_cases h0 : sl = l.length
      · rw [decide_eq_true h0] at hal
        have g0 : ((sl : Int) == (l.length : Int)) = true := by rw [h0]; simp
        subst h0
        by_cases h2 : 2 ≤ l.length
        · have g1 : decide ((2 : Int) ≤ (l.length : Int)) = true := decide_eq_true (by omega)
          rw [decide_eq_true h2] at hal
          by_cases h6 : l.length ≤ 6
          · have g2 : decide ((l.length : Int) ≤ 6) = true := decide_eq_true (by omega)
            rw [decide_eq_true h6] at hal
            have Hs := Lib.hid hal
            clear hal h2 h6
            go_wp2
            go_ret
            exact ⟨by rw [Hs.out]; rfl, hb⟩
          · have g2 : decide ((l.length : Int) ≤ 6) = false := decide_eq_false (by omega)
            rw [decide_eq_false h6] at hal
            have Hs := Lib.hid hal
            clear hal h2 h6
            go_wp2
            go_ret
            exact ⟨by rw [Hs.out]; rfl, hb⟩
        · have g1 : decide ((2 : Int) ≤ (l.length : Int)) = false := decide_eq_false (by omega)
          rw [decide_eq_false h2] at hal
          have Hs := Lib.hid hal
          clear hal h2
          go_wp2
          go_ret
          exact ⟨by rw [Hs.out]; rfl, hb⟩
      · rw [decide_eq_false h0] at hal
        have g0 : ((sl : Int) == (l.length : Int)) = false := by rw [beq_eq_false_iff_ne]; omega
        have Hs := Lib.hid hal
        clear hal h0
        go_wp2
        go_ret
        exact ⟨by rw [Hs.out]; rfl, hb⟩
theorem intInfo64 : (Tryz.prog.info? 2).map (fun i => (i.zero, i.size, i.bytes)) = some (some (i64 0), Enc.size Int, 8) := by kernel_rfl
/-- voucher.weigh -/
def weighB (l : List Leg) : Bool := decide ((sumR (sumL (l.map Leg.sum))).2 = 0) && decide ((sumR (sumL (l.map Leg.sum))).1 = 0)
set_option maxRecDepth 100000 in
set_option maxHeartbeats 4000000 in
theorem weigh_c (A : Option Addr) (c : Nat) (l : List Leg) (w : World) (h : Sl w w.heap.size A c l) (hn : l.length ≤ 65536) (hr : ∀ x ∈ l, R64 x.sum) :
    Calls Tryz.prog 72 #[.slice A l.length c] w fun e w' => e = .returned (.bool (weighB l)) ∧ Below w.heap.size w w' := by
  have HR := Lib.hid hr
  have HW := Lib.hid (show weighB l = (decide ((sumR (sumL (l.map Leg.sum))).2 = 0) && decide ((sumR (sumL (l.map Leg.sum))).1 = 0)) from rfl)
  generalize weighB l = F at *
  clear hr
  go_enter Tryz.func72, Tryz.ntmps72
  go_wp2
  go_loopw [3, 10] (fun v i wr => ∃ k : Nat, i = i64 k ∧ k ≤ l.length ∧ Own wr w.heap.size 2 v ((l.take k).map Leg.sum) ∧ Below w.heap.size w wr) (fun _ i _ => l.length - (intOf i).toNat)
  case atStart => exact ⟨0, rfl, by omega, Own.nil_ _ _ _, Below.refl _ _⟩
  case round =>
    obtain ⟨k, rfl, hk, hO, hb⟩ := hrel
    by_cases hlt : k < l.length
    · obtain ⟨b, o, rfl, hbb, hsz, c0, c1⟩ := (h.later hb).leg hlt
      have HO2 := Lib.hid ((hO.later ((Below.refl _ _).alloc (Nat.le_refl _) (.cells #[.string l[k].acct, i64 l[k].sum] 93))).later ((Below.refl _ _).alloc (Nat.le_refl _) (.cells #[i64 l[k].sum] 2)))
      have Hne := Lib.hid (hO.new_ne (Nat.le_succ wr.heap.size))
      have HH := Lib.hid (heap_alloc2_new wr (.cells #[.string l[k].acct, i64 l[k].sum] 93) (.cells #[i64 l[k].sum] 2))
      have hbb' := (hb.alloc hb.size (.cells #[.string l[k].acct, i64 l[k].sum] 93)).alloc (by have := hb.size; simp; omega) (.cells #[i64 l[k].sum] 2)
      have HL := Lib.hid (show ((l.take k).map Leg.sum).length = k by simp; omega)
      clear hO
      go_wp2_with (at_builtin; refine wpList_append_one rfl (some 18) (.tmp 14) (.tmp 17) 126 rfl rfl (i64 0) 8 Tryz.underlying126 intInfo64 rfl Nat.one_pos (by decide) rfl HO2.out (wr.heap.size + 1) l[k].sum rfl _ 2 HH.out rfl Hne.out trivial (by rw [HL.out]; omega) hbb'.size ?_; intro v3 w3 hO3 hg3 hat3)
      go_roundw
      case rel => exact ⟨k + 1, by go_num, by omega, by rw [List.take_succ_eq_append_getElem hlt, List.map_append]; exact hO3, hbb'.trans (HO2.out.below hg3 (Nat.le_refl _) hbb'.size)⟩
      case measure => simp [intOf]; omega
    · obtain rfl : k = l.length := by omega
      rw [List.take_length] at hO
      obtain ⟨A2, c2, hv2, hs2⟩ := hO.sl
      rw [List.length_map] at hv2
      subst hv2
      have hT := (total_c A2 c2 _ _ hs2 (by simp; omega) (fun a ha => by
        obtain ⟨x, hx, rfl⟩ := List.mem_map.1 ha
        exact HR.out x hx))
      rw [List.length_map] at hT
      have hT := Lib.hid hT
      generalize sumR (sumL (l.map Leg.sum)) = r at *
      clear hs2 hO
      go_wp2_with fail
      refine hT.out.mono ?_
      rintro e w2 ⟨rfl, hF⟩
      have hb2 := below_on hb (Nat.le_refl _) hF
      clear hF hT
      by_cases h1 : r.2 = 0
      · have g1 : (r.2 == 0) = true := by rw [h1]; rfl
        have H1 := Lib.hid (decide_eq_true h1)
        clear h1
        by_cases h2 : r.1 = 0
        · have g2 : (r.1 == 0) = true := by rw [h2]; rfl
          have H2 := Lib.hid (decide_eq_true h2)
          clear h2
          go_wp2
          go_ret
          exact ⟨by rw [HW.out, H1.out, H2.out]; rfl, hb2⟩
        · have g2 : (r.1 == 0) = false := beq_eq_false_iff_ne.2 h2
          have H2 := Lib.hid (decide_eq_false h2)
          clear h2
          go_wp2
          go_ret
          exact ⟨by rw [HW.out, H1.out, H2.out]; rfl, hb2⟩
      · have g1 : (r.2 == 0) = false := beq_eq_false_iff_ne.2 h1
        have H1 := Lib.hid (decide_eq_false h1)
        clear h1
        go_wp2
        go_ret
        exact ⟨by rw [HW.out, H1.out]; rfl, hb2⟩
end Go.Proofs.YthmgchohbdlonaaGreat
