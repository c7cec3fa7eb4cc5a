/- AuditParts -/
import Derived.Test.YtgholbeehkfbiaaGreatRows
import Derived.Test.YtgholbeehkfbiaaGreatBpAuLv
import Derived.WalkKit
import Derived.WalkSpells
import Derived.WalkLawsBesides
import Derived.Deep.QuietTactic
import Derived.BigQuiet
import Derived.Laws.StructEq
import Derived.Deep.DeepFit
import Derived.StillTailTactics
namespace Go.Proofs.YtgholbeehkfbiaaGreat
open Go.RowKit
theorem fewL_legs65 (n : Nat) (l : List Od) : ∀ x ∈ fewL n l, x.legs.length ≤ 65536 := fun x hx => Nat.le_trans (fewL_legs n l x hx) (by decide)
theorem mod1000 (x : Int) : ∃ q : Nat, wrap64 ((IntKind.u64.wrap x).tmod 1000) = (q : Int) ∧ q ≤ 999 := by
  have h0 : 0 ≤ IntKind.u64.wrap x := by simp only [IntKind.wrap_u64]; omega
  have h1 : 0 ≤ (IntKind.u64.wrap x).tmod 1000 := Int.tmod_nonneg _ h0
  have h2 : (IntKind.u64.wrap x).tmod 1000 < 1000 := Int.tmod_lt_of_pos _ (by omega)
  generalize (IntKind.u64.wrap x).tmod 1000 = y at h1 h2
  refine ⟨y.toNat, ?_, by omega⟩
  unfold wrap64
  omega
theorem parts_sum {F : List Od} (hx : ∀ x ∈ F, OdB x) (k : ByteArray) {q : Nat} (hq : q ≤ 999) (h1 : (betwL (legsR (movedL F) 0 q) k).2 = 0) (h2 : (betwL (legsR (movedL F) ((q : Int) + 1) 1000) k).2 = 0) (h3 : (betwL (legsR (movedL F) 0 1000) k).2 = 0) :
    (wrap64 ((betwL (legsR (movedL F) 0 q) k).1 + (betwL (legsR (movedL F) ((q : Int) + 1) 1000) k).1) == (betwL (legsR (movedL F) 0 1000) k).1) = true := by
  have h := parts_law hx k (at_ := (q : Int)) (by omega) (by omega)
  obtain ⟨e1, _⟩ := sumR_ok h1
  obtain ⟨e2, _⟩ := sumR_ok h2
  obtain ⟨e3, r3⟩ := sumR_ok h3
  unfold betwL
  rw [e1, e2, e3, h, beq_iff_eq, ← IntWalk.i64_left, IntKind.wrap_i64]
  unfold R64 at r3
  omega
set_option maxRecDepth 100000 in
set_option maxHeartbeats 16000000 in
theorem auditParts_c (A : Option Addr) (c : Nat) (l : List Od) (k : ByteArray) (n : Int) (w : World) (h : Sl w w.heap.size A c l) (hr : ∀ x ∈ l, InR x) (_hk : k.size ≤ maxLen) (_hn : R64 n) :
    Calls Tryz.prog 7 #[.slice A l.length c, .string k, i64 n] w fun e w' => e = .returned (.bool true) ∧ Below w.heap.size w w' := by
  have hL := Lib.hid fun W => lives_22 W
  have Hod := Lib.hid (fewL_od (n := 60) h hr)
  have H := Lib.hid h
  clear h hr
  go_enter Tryz.func7, Tryz.ntmps7
  go_wp2_with fail
  refine (hL.out _).mono ?_
  rintro e w1 ⟨rfl, hF⟩
  have hb1 := hF
  have hl1 := H.out.later hF
  clear hL hF
  have HFw := Lib.hid (few_22 A c 60 l w1 hl1 (by decide))
  go_wp2_with fail
  refine HFw.out.mono ?_
  rintro e w2 ⟨v, rfl, hO, hF⟩
  have hb2 := below_on hb1 (Nat.le_refl _) hF
  have hn := fewL_le 60 l
  have Hleg := Lib.hid (fewL_legs65 60 l)
  obtain ⟨AF, cF, rfl, hsF⟩ := hO.sl
  clear hF hb1 hl1 HFw hO H
  generalize fewL 60 l = F at *
  have HF := Lib.hid (fun V (hV : Below w2.heap.size w2 V) => hsF.later hV)
  have HB := Lib.hid (fun (fa fb : Int) V (hV : Below w2.heap.size w2 V) => abetw_c AF cF F k fa fb V (HF.out V hV) Hod.out Hleg.out (by omega))
  clear hsF Hleg
  obtain ⟨q, hq, hq9⟩ := mod1000 n
  have Hps := Lib.hid (parts_sum Hod.out k hq9)
  have Hn0 := Lib.hid (parts_none (movedL F) k)
  have HB1 := Lib.hid (HB.out 0 q)
  have HB2 := Lib.hid (HB.out ((q : Int) + 1) 1000)
  have HB3 := Lib.hid (HB.out 0 1000)
  have HB4 := Lib.hid (HB.out 5 4)
  rw [Hn0.out] at HB4
  generalize betwL (legsR (movedL F) 0 q) k = R1 at *
  generalize betwL (legsR (movedL F) ((q : Int) + 1) 1000) k = R2 at *
  generalize betwL (legsR (movedL F) 0 1000) k = R3 at *
  clear HB Hn0 Hod
  go_wp2_with fail
  refine (HB1.out _ (Below.refl _ _)).mono ?_
  rintro e w3 ⟨rfl, hF⟩
  have hc := hF
  clear hF
  go_wp2_with fail
  refine (HB2.out _ hc).mono ?_
  rintro e w4 ⟨rfl, hF⟩
  have hc := below_on hc (Nat.le_refl _) hF
  clear hF
  go_wp2_with fail
  refine (HB3.out _ hc).mono ?_
  rintro e w5 ⟨rfl, hF⟩
  have hc := below_on hc (Nat.le_refl _) hF
  clear hF
  go_wp2_with fail
  refine (HB4.out _ hc).mono ?_
  rintro e w6 ⟨rfl, hF⟩
  have hc := below_on hc (Nat.le_refl _) hF
  have hend := hb2.trans (hc.mono hb2.size)
  clear hF HB1 HB2 HB3 HB4 hc hb2
  by_cases z1 : R1.2 = 0
  · have f1 : (R1.2 != 0) = false := by simp [z1]
    by_cases z2 : R2.2 = 0
    · have f2 : (R2.2 != 0) = false := by simp [z2]
      by_cases z3 : R3.2 = 0
      · have f3 : (R3.2 != 0) = false := by simp [z3]
        have hs := Hps.out z1 z2 z3
        clear z1 z2 z3 Hps
        go_wp2
        go_ret
        exact ⟨rfl, hend⟩
      · have f3 : (R3.2 != 0) = true := by simpa using z3
        clear z1 z2 z3 Hps
        go_wp2
        go_ret
        exact ⟨rfl, hend⟩
    · have f2 : (R2.2 != 0) = true := by simpa using z2
      clear z1 z2 Hps
      go_wp2
      go_ret
      exact ⟨rfl, hend⟩
  · have f1 : (R1.2 != 0) = true := by simpa using z1
    clear z1 Hps
    go_wp2
    go_ret
    exact ⟨rfl, hend⟩
end Go.Proofs.YtgholbeehkfbiaaGreat
