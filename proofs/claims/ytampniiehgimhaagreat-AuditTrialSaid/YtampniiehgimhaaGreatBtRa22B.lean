/- ref22.Between -/
import Derived.Test.YtampniiehgimhaaGreatRows
import Derived.Test.YtampniiehgimhaaGreatBtRa22P
import Derived.Test.YtampniiehgimhaaGreatBs5
import Derived.WalkKit
import Derived.WalkSpells
import Derived.WalkLawsBesides
import Derived.Deep.QuietTactic
import Derived.BigQuiet
import Derived.Laws.StructEq
import Derived.Deep.DeepFit
import Derived.StillTailTactics
import Derived.Test.YtampniiehgimhaaGreatBtX

namespace Go.Proofs.YtampniiehgimhaaGreat
open Go.RowKit
def legsN (M : List Rv) (a b : Int) : List Leg := M.flatMap fun x => if a ≤ x.period ∧ x.period ≤ b then x.legs else []
theorem legsN_eq : ∀ (M : List Rv) (L : List Od), M.map Rv.core = L.map coreN → ∀ a b, legsN M a b = legsR L a b
 | [], [], _, _, _ => rfl
 | [], _ :: _, h, _, _ => by cases h
 | _ :: _, [], h, _, _ => by cases h
 | x :: M, y :: L, h, a, b => by
  rw [List.map_cons, List.map_cons] at h
  injection h with h1 h2
  have ih := legsN_eq M L h2 a b
  have e2 : x.period = y.period := congrArg (fun p => p.2.1) h1
  have e3 : x.legs = mvL y := congrArg (fun p => p.2.2.1) h1
  show (if a ≤ x.period ∧ x.period ≤ b then x.legs else []) ++ legsN M a b = (if a ≤ y.period ∧ y.period ≤ b then mvL y else []) ++ legsR L a b
  rw [ih, e2, e3]
theorem pK_app (up : Bool) (l m : List Leg) (k : ByteArray) : pK up (l ++ m) k = pK up l k ++ pK up m k := by
 cases up with
 | true => rw [pK_true, pK_true, pK_true, inK_app]
 | false => rw [pK_false, pK_false, pK_false, outK_app]
theorem partL_eq (k : ByteArray) (a b : Int) (up : Bool) : ∀ M : List Rv, partL M k a b up = pK up (legsN M a b) k
 | [] => (pK_nil up k).symm
 | x :: M => by
  show (if a ≤ x.period ∧ x.period ≤ b then pK up x.legs k else []) ++ partL M k a b up = pK up ((if a ≤ x.period ∧ x.period ≤ b then x.legs else []) ++ legsN M a b) k
  rw [pK_app, partL_eq k a b up M]
  split
  ·rfl
  ·rw [pK_nil]
/-- the reference's moves are the moved orders' -/
theorem core_mem {M : List Rv} {L : List Od} (h : M.map Rv.core = L.map coreN) {x : Rv} (hx : x ∈ M) : ∃ y ∈ L, mvL y = x.legs ∧ y.period = x.period := by
 have h1 : x.core ∈ L.map coreN := h ▸ List.mem_map.2 ⟨x, hx, rfl⟩
 obtain ⟨y, hy, e⟩ := List.mem_map.1 h1
 exact ⟨y, hy, congrArg (fun p => p.2.2.1) e, congrArg (fun p => p.2.1) e⟩
theorem pK_sub (up : Bool) (ls : List Leg) (k : ByteArray) : ∀ a ∈ pK up ls k, ∃ x ∈ ls, x.sum = a := by
 cases up with
 | true => rw [pK_true]; exact inK_sub ls k
 | false => rw [pK_false]; exact outK_sub ls k
theorem moves_legs {l : List Od} (hx : ∀ x ∈ l, OdB x) {M : List Rv} (h : M.map Rv.core = (movedL l).map coreN) : ∀ x ∈ M, x.legs.length ≤ 1000 := fun x hm => by
 obtain ⟨y, hy, e, _⟩ := core_mem h hm
 rw [← e]
 exact Nat.le_trans (movedL_mem hx hy).2.fits.2.1 (by decide)
theorem moves_len {l : List Od} {M : List Rv} (h : M.map Rv.core = (movedL l).map coreN) : M.length ≤ l.length := by
 have h1 := congrArg List.length h
 rw [List.length_map, List.length_map] at h1
 have := movedL_len l
 omega
theorem part_sums {l : List Od} (hx : ∀ x ∈ l, OdB x) {M : List Rv} (h : M.map Rv.core = (movedL l).map coreN) (k : ByteArray) (a b : Int) (up : Bool) : ∀ n ∈ partL M k a b up, R64 n := fun n hn => by
 rw [partL_eq, legsN_eq M _ h] at hn
 obtain ⟨y, hy, rfl⟩ := pK_sub up _ k n hn
 exact legsR_sums hx a b y hy
theorem part_len {l : List Od} (hx : ∀ x ∈ l, OdB x) {M : List Rv} (h : M.map Rv.core = (movedL l).map coreN) (k : ByteArray) (a b : Int) (up : Bool) : (partL M k a b up).length ≤ 6 * l.length := by
 rw [partL_eq, legsN_eq M _ h]
 exact Nat.le_trans (pK_len _ _ _) (legsR_len hx a b)
set_option maxRecDepth 100000 in
set_option maxHeartbeats 8000000 in
theorem rbetw_c (A : Option Addr) (c : Nat) (l : List Od) (k : ByteArray) (fa fb : Int) (w : World) (h : Sl w w.heap.size A c l) (hx : ∀ x ∈ l, OdB x) (hl : ∀ x ∈ l, x.legs.length ≤ 65536) (hn : l.length ≤ 80) :
  Calls Tryz.prog 52 #[.slice A l.length c, .string k, i64 fa, i64 fb] w fun e w' => e = .returned (.tuple #[i64 (betwL (legsR (movedL l) fa fb) k).1, i64 (betwL (legsR (movedL l) fa fb) k).2]) ∧ Below w.heap.size w w' := by
 have hN := Lib.hid (rmoves_c A c l w h hx hl (by omega))
 have HM := Lib.hid (fun (M : List Rv) (hM : M.map Rv.core = (movedL l).map coreN) => And.intro (moves_legs hx hM) (And.intro (moves_len hM) (And.intro (part_sums hx hM k fa fb) (And.intro (part_len hx hM k fa fb) (legsN_eq M _ hM fa fb)))))
 clear h hx hl
 generalize movedL l = Z at *
 go_enter Tryz.func52, Tryz.ntmps52
 go_wp2_with fail
 refine hN.out.mono ?_
 rintro e w1 ⟨v, M, rfl, hM, hO, hF⟩
 obtain ⟨AM, cM, rfl, sM⟩ := hO.sl
 obtain ⟨q1, q2, q3, q4, q5⟩ := HM.out M hM
 have hb1 := hF
 have hM1 : M.length ≤ 1000 := by omega
 have hsum : sumL (partL M k fa fb true ++ partL M k fa fb false) = sumL (allK (legsR Z fa fb) k) := by
  rw [partL_eq, partL_eq, pK_true, pK_false, sumL_app, in_out, q5]
 have h1 := q4 true
 have h2 := q4 false
 have Hr := Lib.hid (show ∀ n ∈ partL M k fa fb true ++ partL M k fa fb false, R64 n from fun n hn => (List.mem_append.1 hn).elim (q3 true n) (q3 false n))
 have HP := Lib.hid (fun W (hW : Sl W W.heap.size AM cM M) => rpart_c AM cM M k fa fb true W hW hM1 q1)
 have HP2 := Lib.hid (fun W (hW : Sl W W.heap.size AM cM M) => rpart_c AM cM M k fa fb false W hW hM1 q1)
 have hB : betwL (legsR Z fa fb) k = sumR (sumL (partL M k fa fb true ++ partL M k fa fb false)) := by rw [hsum]; rfl
 have HB := Lib.hid hB
 clear hN HM hO hF hM q1 q2 q3 q4 q5 hsum hB
 generalize partL M k fa fb true = X at *
 generalize partL M k fa fb false = Y at *
 go_wp2_with fail
 refine (HP.out w1 sM).mono ?_
 rintro e w2 ⟨v2, rfl, hO2, hF⟩
 have sM := sM.later hF
 have hb2 := below_on hb1 (Nat.le_refl _) hF
 have hz2 := hF.size
 clear hF
 go_wp2_with fail
 refine (HP2.out w2 sM).mono ?_
 rintro e w3 ⟨v3, rfl, hO3, hF⟩
 obtain ⟨A3, c3, rfl, s3⟩ := hO3.sl
 have HO2 := Lib.hid (hO2.later hF)
 have hb3 := below_on hb2 (Nat.le_refl _) hF
 have Hs3 := Lib.hid (show SlS w3 (Oth w3 v2) A3 c3 Y from by
  refine ⟨s3.1, s3.2.1, fun hn => ?_, fun _ _ => trivial⟩
  obtain ⟨b, o, hA, hb, hc⟩ := s3.2.2.1 hn
  subst hA
  refine ⟨b, o, rfl, ⟨hb, fun e => ?_⟩, hc⟩
  have h4 := (hO2.1.lt b e.symm).2
  obtain ⟨g, cap, cur, hv, hg, -⟩ := hO3.form hn
  injection hv with hv
  injection hv with hv
  injection hv with hv
  omega)
 have Hz := Lib.hid (Nat.le_trans hz2 hF.size)
 clear sM HP HP2 hF hO2 hO3 s3
 go_wp2_with (at_builtin; refine wpList_append_slice rfl (some 23) (.tmp 17) (.tmp 22) 181 rfl rfl (i64 0) 8 Tryz.underlying181 inf_i64 rfl (by decide) (by decide) rfl HO2.out A3 Y.length c3 Y rfl rfl Hs3.out (by omega) Hz.out ?_; intro v4 w4 hO4 hg4 hat4)
 obtain ⟨A4, c4, rfl, s4⟩ := hO4.sl
 have hb4 := hb3.trans (HO2.out.below hg4 (Nat.le_trans hb1.size (Nat.le_refl _)) hb3.size)
 clear hg4 hat4 hO4
 go_wp2_with fail
 refine (rtotal_c A4 c4 (X ++ Y) w4 s4 (by rw [List.length_append]; omega) Hr.out).mono ?_
 rintro e w5 ⟨rfl, hF⟩
 have hb5 := below_on hb4 (Nat.le_refl _) hF
 clear hF
 go_wp2
 go_ret2
 exact ⟨by rw [HB.out]; rfl, hb5⟩
end Go.Proofs.YtampniiehgimhaaGreat
