/- ref10.Right -/
import Derived.Test.YtogecfddkohigaaRows
import Derived.Test.YtogecfddkohigaaLaw10
import Derived.Test.YtogecfddkohigaaAt
import Derived.WalkKit
import Derived.WalkSpells
import Derived.WalkLawsBesides
import Derived.Deep.QuietTactic
import Derived.BigQuiet
import Derived.Laws.StructEq
import Derived.Deep.DeepFit
import Derived.StillTailTactics
namespace Go.Proofs.Ytogecfddkohigaa
open Go.RowKit
theorem at_of_val {l : List Od} (hv : Val l) {i : Nat} (h : i < l.length) : atIdx l l[i].id = (i : Int) :=
  idxP_hit h (by simp) fun j hj hji => by
    have := List.pairwise_iff_getElem.1 hv j i hj h hji
    simpa using this
theorem val_of_at {l : List Od} (h : ∀ i (hi : i < l.length), atIdx l l[i].id = (i : Int)) : Val l :=
  List.pairwise_iff_getElem.2 fun i j hi hj hij e => by
    have h1 := h i hi
    have h2 := h j hj
    rw [← e, h1] at h2
    omega
theorem validL_of {l : List Od} (h : ∀ i (hi : i < l.length), atIdx l l[i].id = (i : Int)) : validL l = true := validL_iff.2 (val_of_at h)
theorem validL_not {l : List Od} {i : Nat} (hi : i < l.length) (h : atIdx l l[i].id ≠ (i : Int)) : validL l = false := by
  cases hv : validL l with
  | false => rfl
  | true => exact absurd (at_of_val (validL_iff.1 hv) hi) h
/-- all places up to k are first places -/
def firsts (l : List Od) (k : Nat) : Prop := ∀ i (hi : i < l.length), i < k → atIdx l l[i].id = (i : Int)

set_option maxRecDepth 100000 in
set_option maxHeartbeats 1000000 in
theorem rright_c (A : Option Addr) (c : Nat) (l : List Od) (w : World) (h : Sl w w.heap.size A c l) (hn : l.length ≤ 65536) :
    Calls Try.prog 17 #[.slice A l.length c] w fun e w' => e = .returned (.bool (validL l)) ∧ Below w.heap.size w w' := by
  go_enter Try.func17, Try.ntmps17
  go_wp2_with fail
  go_loopw [3] (fun i wr => ∃ k : Nat, i = i64 k ∧ k ≤ l.length ∧ firsts l k ∧ Below w.heap.size w wr) (fun i _ => l.length - (intOf i).toNat)
  case atStart => exact ⟨0, rfl, by omega, fun _ _ h => absurd h (by omega), Below.refl _ _⟩
  case round =>
    obtain ⟨k, rfl, hk, hf, hb⟩ := hrel
    have Hf := Lib.hid hf
    clear hf
    by_cases hlt : k < l.length
    · obtain ⟨b, o, rfl, hbb, -, c0, c1, -⟩ := (h.below hb).od hlt
      have HB := Lib.hid hb
      go_wp2_with fail
      refine (at_any _ c l l[k].id _ (h.keep (fun _ hp => HB.out.cell hp) (fun _ hp => Nat.lt_of_lt_of_le hp HB.out.size)) hn).mono ?_
      rintro e w1 ⟨rfl, hb1⟩
      have hbw := HB.out.trans (hb1.mono HB.out.size)
      by_cases hat : atIdx l l[k].id = (k : Int)
      · have hq : (atIdx l l[k].id != (k : Int)) = false := by rw [hat]; simp
        have Hat := Lib.hid (show firsts l (k + 1) from fun i hi hik => by
            rcases Nat.lt_succ_iff_lt_or_eq.1 hik with hik | rfl
            · exact Hf.out i hi hik
            · exact hat)
        clear hat
        generalize atIdx l l[k].id = r at hq ⊢
        go_wp2
        go_roundw
        case rel => exact ⟨k + 1, by go_num, by omega, Hat.out, hbw⟩
        case measure => simp [intOf]; omega
      · have hq : (atIdx l l[k].id != (k : Int)) = true := bne_iff_ne.2 hat
        have Hv := Lib.hid (validL_not hlt hat)
        clear hat
        generalize atIdx l l[k].id = r at hq ⊢
        go_wp2
        go_ret
        exact ⟨by rw [Hv.out]; rfl, hbw⟩
    · obtain rfl : k = l.length := by omega
      have Hv := Lib.hid (validL_of fun i hi => Hf.out i hi hi)
      go_wp2
      go_ret
      exact ⟨by rw [Hv.out]; rfl, hb⟩
end Go.Proofs.Ytogecfddkohigaa
