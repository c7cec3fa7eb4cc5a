/- audit: law22.amount; Largest: the plain law -/
import Derived.Test.YtgholbeehkfbiaaGreatRows
import Derived.Test.YtgholbeehkfbiaaGreatBpAuS6
import Derived.Test.YtgholbeehkfbiaaGreatBpAuLv
import Derived.Test.YtgholbeehkfbiaaGreatBm1
import Derived.WalkKit
import Derived.WalkSpells
import Derived.WalkLawsBesides
import Derived.Deep.QuietTactic
import Derived.BigQuiet
import Derived.Laws.StructEq
import Derived.Deep.DeepFit
import Derived.StillTailTactics
namespace Go.Proofs.YtgholbeehkfbiaaGreat
open Go.RowKit
theorem sumL_nn : ∀ (X : List Int), (∀ a ∈ X, 0 ≤ a) → 0 ≤ sumL X
  | [], _ => Int.le_refl _
  | a :: X, h => by
    have h1 := sumL_nn X (fun b hb => h b (List.mem_cons_of_mem _ hb))
    have h2 := h a (List.mem_cons_self ..)
    have e : sumL (a :: X) = sumL [a] + sumL X := sumL_app [a] X
    rw [e, sumL_one]
    omega
theorem sumL_pre (X : List Int) (h : ∀ a ∈ X, 0 ≤ a) (k : Nat) : sumL (X.take k) ≤ sumL X := by
  have e : sumL X = sumL (X.take k) + sumL (X.drop k) := by rw [← sumL_app, List.take_append_drop]
  have := sumL_nn (X.drop k) (fun a ha => h a (List.mem_of_mem_drop ha))
  omega
def mxL (l : List Leg) : List Int := l.map fun x => max x.sum 0
theorem mxL_nn (l : List Leg) : ∀ a ∈ mxL l, 0 ≤ a := fun a ha => by
  obtain ⟨y, -, rfl⟩ := List.mem_map.1 ha
  omega
theorem amt_in {l : List Leg} (h : sumL (mxL l) ≤ 9223372036854775807) : amtL l = sumL (mxL l) := by
  have h0 := sumL_nn _ (mxL_nn l)
  have e : sumR (sumL (mxL l)) = (sumL (mxL l), 0) := sumR_in (by unfold R64; omega)
  unfold amtL
  rw [show (l.map fun x => max x.sum 0) = mxL l from rfl, e, if_pos rfl]
theorem amt_over {l : List Leg} (h : 9223372036854775807 < sumL (mxL l)) : amtL l = 9223372036854775807 := by
  unfold amtL
  rw [show (l.map fun x => max x.sum 0) = mxL l from rfl]
  split
  · rename_i hz
    have h1 := (sumR_ok hz).2
    unfold R64 at h1
    omega
  · rfl
theorem amt_rng (l : List Leg) : 0 ≤ amtL l ∧ amtL l ≤ 9223372036854775807 := by
  by_cases h : sumL (mxL l) ≤ 9223372036854775807
  · rw [amt_in h]; exact ⟨sumL_nn _ (mxL_nn l), h⟩
  · rw [amt_over (by omega)]; omega
set_option maxRecDepth 100000 in
set_option maxHeartbeats 4000000 in
theorem lamount_c (A : Option Addr) (c : Nat) (l : List Leg) (w : World) (h : Sl w w.heap.size A c l) (hn : l.length ≤ 1000) (hr : ∀ y ∈ l, R64 y.sum) :
    Calls Tryz.prog 57 #[.slice A l.length c] w fun e w' => e = .returned (i64 (amtL l)) ∧ Below w.heap.size w w' := by
  have HS := Lib.hid (fun V hV => (SlS.later h hV : Sl V V.heap.size A c l))
  have Hr := Lib.hid hr
  have hlc : l.length ≤ c := h.1
  clear h hr
  go_enter Tryz.func57, Tryz.ntmps57
  go_wp2_with fail
  go_loopw [3, 4] (fun i3 i4 wr => ∃ (k : Nat) (s : Int), i3 = i64 s ∧ i4 = i64 (k : Int) ∧ k ≤ l.length ∧ Hid (s = sumL ((mxL l).take k)) ∧ 0 ≤ s ∧ s ≤ 9223372036854775807 ∧ Below w.heap.size w wr) (fun _ i _ => l.length - (intOf i).toNat)
  case atStart => exact ⟨0, 0, by go_num, rfl, Nat.zero_le _, Lib.hid rfl, by omega, by omega, Below.refl _ _⟩
  case round =>
    obtain ⟨k, s, rfl, rfl, hk, Hs, s0, s1, hb⟩ := hrel
    by_cases hlt : k < l.length
    · have g1 : decide ((k : Int) < (l.length : Int)) = true := decide_eq_true (by omega)
      have g2 : decide (k < l.length) = true := decide_eq_true hlt
      have i0 : (0 : Int) ≤ (k : Int) := by omega
      have i1 : (k : Int) < (l.length : Int) := by omega
      obtain ⟨bl, ol, hla, hbl, -, d0, d1⟩ := (HS.out _ hb).leg hlt
      have hkm : k < (mxL l).length := by unfold mxL; rw [List.length_map]; exact hlt
      have Hst := Lib.hid (show sumL ((mxL l).take (k + 1)) = s + max l[k].sum 0 by
        rw [sumL_take hkm, ← Hs.out]
        congr 1
        exact List.getElem_map ..)
      have Hy := Lib.hid (Hr.out l[k] (List.getElem_mem hlt))
      obtain ⟨y, hyk⟩ : ∃ y, l[k] = y := ⟨_, rfl⟩
      simp only [hyk] at d0 d1 Hst Hy
      have hm0 : 0 ≤ max y.sum 0 := by omega
      have hm1 : max y.sum 0 ≤ 9223372036854775807 := by have := Hy.out; unfold R64 at this; omega
      have w1 : IntKind.i64.wrap (9223372036854775807 - max y.sum 0) = 9223372036854775807 - max y.sum 0 := by rw [IntKind.wrap_i64]; omega
      rw [hla]
      clear hyk hla hkm d0
      by_cases hov : s > 9223372036854775807 - max y.sum 0
      · have g3 : decide (s > 9223372036854775807 - max y.sum 0) = true := decide_eq_true hov
        have g4 : decide (9223372036854775807 - max y.sum 0 < s) = true := decide_eq_true hov
        have Ham := Lib.hid (show amtL l = 9223372036854775807 from amt_over (by have := sumL_pre (mxL l) (mxL_nn l) (k + 1); have := Hst.out; omega))
        clear hov
        go_wp2
        go_ret
        exact ⟨by rw [Ham.out]; rfl, hb⟩
      · have g3 : decide (s > 9223372036854775807 - max y.sum 0) = false := decide_eq_false hov
        have g4 : decide (9223372036854775807 - max y.sum 0 < s) = false := decide_eq_false hov
        have w2 : IntKind.i64.wrap (s + max y.sum 0) = s + max y.sum 0 := by rw [IntKind.wrap_i64]; omega
        have hs3 : s + max y.sum 0 ≤ 9223372036854775807 := by omega
        have Hs3 := Lib.hid hs3
        clear hov hs3
        go_wp2
        go_roundw
        case rel => exact ⟨k + 1, s + max y.sum 0, by go_num, by go_num, by omega, Lib.hid Hst.out.symm, by omega, Hs3.out, hb⟩
        case measure => simp [intOf]; omega
    · obtain rfl : k = l.length := by omega
      have g1 : decide ((l.length : Int) < (l.length : Int)) = false := decide_eq_false (by omega)
      have Ham := Lib.hid (show amtL l = s by
        have e : (mxL l).take l.length = mxL l := List.take_of_length_le (by unfold mxL; rw [List.length_map]; exact Nat.le_refl _)
        have h1 := Hs.out
        rw [e] at h1
        rw [amt_in (by omega), h1])
      go_wp2
      go_ret
      exact ⟨by rw [Ham.out]; rfl, hb⟩
/-- the amount said by the last move of that Id -/
def gotM (X : List Mv) (k : Id) : Int := X.foldl (fun a m => if Id.mk m.client m.seq = k then amtL m.legs else a) (-1)
theorem gotM_snoc (X : List Mv) (m : Mv) (k : Id) : gotM (X ++ [m]) k = if Id.mk m.client m.seq = k then amtL m.legs else gotM X k := by
  unfold gotM
  rw [List.foldl_append]
  rfl
theorem gotM_take {X : List Mv} {j : Nat} (hj : j < X.length) (k : Id) : gotM (X.take (j + 1)) k = if Id.mk X[j].client X[j].seq = k then amtL X[j].legs else gotM (X.take j) k := by
  rw [List.take_succ_eq_append_getElem hj, gotM_snoc]
theorem gotM_all : ∀ (n : Nat) (X : List Mv), X.length = n → (X.map fun m => Id.mk m.client m.seq).Nodup → ∀ m ∈ X, gotM X ⟨m.client, m.seq⟩ = amtL m.legs
  | 0, X, hn, _, m, hm => by rw [List.length_eq_zero_iff.1 hn] at hm; cases hm
  | n + 1, X, hn, hd, m, hm => by
    rcases List.eq_nil_or_concat X with rfl | ⟨Y, z, rfl⟩
    · cases hm
    · rw [List.concat_eq_append] at *
      rw [List.map_append] at hd
      rw [gotM_snoc]
      have hd2 := List.pairwise_append.1 hd
      rcases List.mem_append.1 hm with h | h
      · rw [if_neg (fun e => hd2.2.2 _ (List.mem_map_of_mem (f := fun m : Mv => Id.mk m.client m.seq) h) _ (List.mem_cons_self ..) e.symm)]
        exact gotM_all n Y (by simpa using hn) hd2.1 m h
      · rw [List.mem_singleton.1 h, if_pos rfl]
def lastA (X : List Int) : Nat → Int
  | 0 => 9223372036854775807
  | i + 1 => X.getD i 0
theorem ltC_strict : Strict ltC where
  irr a := by unfold ltC; simp
  trans a b c h1 h2 := by unfold ltC at *; simp only [decide_eq_true_eq] at *; omega
  co a b c h1 h2 := by unfold ltC at *; simp only [decide_eq_false_iff_not] at *; omega
/-- what law22.AuditLargest asks of the Ids -/
structure LargLaw (M : List Mv) (I : List Id) (n : Int) (X : List Int) : Prop where
  len : (I.length : Int) = min (max n 0) (M.length : Int)
  got : ∀ (i : Nat) (h : i < I.length), gotM M I[i] = lastA X (i + 1) ∧ 0 ≤ lastA X (i + 1) ∧ lastA X (i + 1) ≤ lastA X i
  far : ∀ (k : Nat) (h : k < M.length), 0 < I.length → Id.mk M[k].client M[k].seq ∉ I → amtL M[k].legs ≤ lastA X I.length
theorem larg_law {l : List Od} {M : List Mv} (n : Int) (hc : M.map Mv.core = (movedL l).map coreM) (hd : (l.map Od.id).Nodup) : ∃ X, LargLaw M (largI l n) n X := by
  obtain ⟨T, hT⟩ : ∃ T, T = sortB ltM M := ⟨_, rfl⟩
  obtain ⟨q, hq⟩ : ∃ q, q = (max n 0).toNat := ⟨_, rfl⟩
  have hI : largI l n = (T.take q).map fun m => Id.mk m.client m.seq := by
    unfold largI
    rw [← hc, ← map_sortM, ← hT, ← hq, ← List.map_take, List.map_map]
    rfl
  have hP : T.Perm M := by rw [hT]; exact sortB_perm M
  have hS : SortedB ltM T := by rw [hT]; exact sortB_sorted ltM_strict M
  have hdM : (M.map fun m => Id.mk m.client m.seq).Nodup := by
    have e : (M.map fun m => Id.mk m.client m.seq) = (movedL l).map Od.id := by
      have := congrArg (List.map (·.1)) hc
      rw [List.map_map, List.map_map] at this
      exact this
    rw [e]
    have hsub : (movedL l).Sublist l := by
      have h1 : ((toldZ bk0 l).filter mvB).Sublist (toldZ bk0 l) := List.filter_sublist
      have h2 := h1.map (·.1)
      have e2 : (toldZ bk0 l).map (·.1) = l := by
        unfold toldZ
        rw [show (fun x : Od × Rp => x.1) = Prod.fst from rfl, List.map_fst_zip]
        rw [toldL_len]; exact Nat.le_refl _
      rw [e2] at h2
      exact h2
    exact hd.sublist (hsub.map _)
  have hlI : (largI l n).length = min q T.length := by rw [hI, List.length_map, List.length_take]
  have hTl : T.length = M.length := hP.length_eq
  have hat : ∀ (i : Nat) (h : i < (largI l n).length) (hT : i < T.length), (largI l n)[i] = ⟨T[i].client, T[i].seq⟩ := fun i h h2 => by
    simp only [hI, List.getElem_map, List.getElem_take]
  have hX : ∀ (i : Nat) (h : i < T.length), lastA (T.map fun m => amtL m.legs) (i + 1) = amtL T[i].legs := fun i h => by
    show (T.map fun m => amtL m.legs).getD i 0 = _
    rw [List.getD_eq_getElem?_getD, List.getElem?_map, List.getElem?_eq_getElem h]
    rfl
  have hle : ∀ (i j : Nat) (hi : i < T.length) (hj : j < T.length), i ≤ j → amtL T[j].legs ≤ amtL T[i].legs := fun i j hi hj hij => by
    have := sb_get hS hi hj hij
    unfold ltM at this
    simp only [decide_eq_false_iff_not] at this
    omega
  refine ⟨T.map fun m => amtL m.legs, ⟨by omega, fun i h => ?_, fun k h h0 hn => ?_⟩⟩
  · have hiT : i < T.length := by omega
    refine ⟨?_, ?_, ?_⟩
    · rw [hat i h hiT, hX i hiT, gotM_all _ M rfl hdM _ (hP.mem_iff.1 (List.getElem_mem hiT))]
    · rw [hX i hiT]; exact (amt_rng _).1
    · cases i with
      | zero => rw [hX 0 hiT]; exact (amt_rng _).2
      | succ i => rw [hX _ hiT, hX i (by omega)]; exact hle i (i + 1) (by omega) hiT (by omega)
  · obtain ⟨j, hj, e⟩ := List.getElem_of_mem (hP.mem_iff.2 (List.getElem_mem h))
    have hjq : q ≤ j := by
      refine Nat.le_of_not_lt fun hlt => hn ?_
      rw [hI, ← e]
      refine List.mem_map_of_mem (f := fun m : Mv => Id.mk m.client m.seq) ?_
      rw [List.mem_take_iff_getElem]
      exact ⟨j, by omega, rfl⟩
    obtain ⟨p, hp⟩ : ∃ p, (largI l n).length = p + 1 := ⟨(largI l n).length - 1, by omega⟩
    rw [hp, hX p (by omega), ← e]
    exact hle p j (by omega) hj (by omega)
end Go.Proofs.YtgholbeehkfbiaaGreat
