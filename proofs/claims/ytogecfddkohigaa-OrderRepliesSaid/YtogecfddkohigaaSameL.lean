/- ref10.Same -/
import Derived.Test.YtogecfddkohigaaRows
import Derived.Test.YtogecfddkohigaaRSame
import Derived.WalkKit
import Derived.WalkSpells
import Derived.WalkLawsBesides
import Derived.Deep.QuietTactic
import Derived.BigQuiet
import Derived.Laws.StructEq
import Derived.Deep.DeepFit
import Derived.StillTailTactics
namespace Go.Proofs.Ytogecfddkohigaa
open Go.RowKit
/-- ref10.Same -/
def sameL (a b : List Od) : Bool := decide (a.length = b.length) && (a.zip b).all fun p => sameB p.1 p.2

set_option maxRecDepth 100000 in
set_option maxHeartbeats 1000000 in
theorem sameL_c (A C : Option Addr) (c d : Nat) (a b : List Od) (w : World) (ha : Sl w w.heap.size A c a) (hb : Sl w w.heap.size C d b) (hna : a.length ≤ 65536) (_hnb : b.length ≤ 65536) (hla : ∀ x ∈ a, x.legs.length ≤ 65536) (hlb : ∀ x ∈ b, x.legs.length ≤ 65536) :
    Calls Try.prog 22 #[.slice A a.length c, .slice C b.length d] w fun e w' => e = .returned (.bool (sameL a b)) ∧ Below w.heap.size w w' := by
  by_cases hl : a.length = b.length
  · have q : ((a.length : Int) != (b.length : Int)) = false := by rw [hl]; simp
    have HL := Lib.hid hl
    have Hla := Lib.hid hla
    have Hlb := Lib.hid hlb
    clear hl hla hlb
    go_enter Try.func22, Try.ntmps22
    go_wp2
    go_loopw [5] (fun i wr => ∃ k : Nat, i = i64 k ∧ k ≤ a.length ∧ (∀ j (hj : j < a.length) (hj' : j < b.length), j < k → sameB a[j] b[j] = true) ∧ Below w.heap.size w wr) (fun i _ => a.length - (intOf i).toNat)
    case atStart => exact ⟨0, rfl, by omega, by omega, Below.refl _ _⟩
    case round =>
      obtain ⟨k, rfl, hk, hall, hbr⟩ := hrel
      have Hall := Lib.hid hall
      clear hall
      by_cases hlt : k < a.length
      · have hltb : k < b.length := by have := HL.out; omega
        obtain ⟨b0, o0, rfl, hbb, hok, c0, c1, c2, c3, c4, c5, c6, c7, c8, c9⟩ := (ha.later hbr).od hlt
        obtain ⟨b2, o2, rfl, hbb2, hok2, d0, d1, d2, d3, d4, d5, d6, d7, d8, d9⟩ := (hb.later hbr).od hltb
        have Hok := Lib.hid hok
        have Hok2 := Lib.hid hok2
        clear hok hok2
        have hbd := (Below.refl wr.heap.size wr).drew
        go_wp2
        refine wp_region_still_tail 8 (by kernel_rfl) (by kernel_rfl) ?_
        simp only [List.take_succ_cons, List.take_zero, List.drop_succ_cons, List.drop_zero]
        change wpStill _ _ (World.drew _) (fun a' => wpList _ _ _ _ a' (World.drew _)) _ _
        repeat still_step
        refine wpStill_nil ?_
        go_wp2_with fail
        refine (rsame_c a[k] b[k] _ (Okb.later Hok.out hbd) (Okb.later Hok2.out hbd) (Hla.out _ (List.getElem_mem _)) (Hlb.out _ (List.getElem_mem _))).mono ?_
        rintro e w5 ⟨rfl, hb5⟩
        have hb6 := hbr.trans ((hbd.trans hb5).mono hbr.size)
        clear hbd hb5
        by_cases hs : sameB a[k] b[k] = true
        · rw [hs]
          have Hs := Lib.hid hs
          clear hs
          go_wp2
          go_roundw
          case rel => exact ⟨k + 1, by go_num, by omega, fun j hj hj' h => by
              rcases Nat.lt_succ_iff_lt_or_eq.1 h with h | rfl
              · exact Hall.out j hj hj' h
              · exact Hs.out, hb6⟩
          case measure => simp [intOf]; omega
        · have hs' : sameB a[k] b[k] = false := by simpa using hs
          rw [hs']
          have Hs := Lib.hid hs'
          clear hs hs'
          go_wp2
          go_ret
          refine ⟨?_, hb6⟩
          have : sameL a b = false := by
            unfold sameL
            rw [Bool.and_eq_false_iff]
            right
            rw [List.all_eq_false]
            refine ⟨(a[k], b[k]), ?_, by simpa using Hs.out⟩
            rw [List.mem_iff_getElem]
            exact ⟨k, by simp; omega, by simp⟩
          rw [this]
          rfl
      · obtain rfl : k = a.length := by omega
        go_wp2
        go_ret
        refine ⟨?_, hbr⟩
        have : sameL a b = true := by
          unfold sameL
          rw [decide_eq_true HL.out, Bool.true_and, List.all_eq_true]
          intro p hp
          obtain ⟨j, hj, rfl⟩ := List.getElem_of_mem hp
          simp only [List.length_zip] at hj
          rw [List.getElem_zip]
          exact Hall.out j (by omega) (by omega) (by omega)
        rw [this]
        rfl
  · have q : ((a.length : Int) != (b.length : Int)) = true := by rw [bne_iff_ne]; omega
    have Hs : Hid (sameL a b = false) := Lib.hid (by unfold sameL; rw [decide_eq_false hl]; rfl)
    clear hl
    go_enter Try.func22, Try.ntmps22
    go_wp2
    go_ret
    exact ⟨by rw [Hs.out]; rfl, Below.refl _ _⟩
end Go.Proofs.Ytogecfddkohigaa
