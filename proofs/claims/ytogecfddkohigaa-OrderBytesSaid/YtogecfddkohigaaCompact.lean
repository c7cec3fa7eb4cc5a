/- slices.Compact at strings -/
import Derived.Test.YtogecfddkohigaaRows
import Derived.Test.YtogecfddkohigaaSortB
import Derived.Test.YtogecfddkohigaaStrB
import Derived.WalkKit
import Derived.WalkSpells
import Derived.WalkLawsBesides
import Derived.Deep.QuietTactic
import Derived.BigQuiet
import Derived.Laws.StructEq
import Derived.Deep.DeepFit
import Derived.StillTailTactics
namespace Go.Proofs.Ytogecfddkohigaa
open Go.RowKit
/-- of each run of equal ones the first -/
def compactL : List ByteArray → List ByteArray
  | [] => []
  | [x] => [x]
  | x :: y :: r => if x = y then compactL (y :: r) else x :: compactL (y :: r)
theorem compactL_snoc (a b : ByteArray) : ∀ m : List ByteArray, compactL (m ++ [b, a]) = if b = a then compactL (m ++ [b]) else compactL (m ++ [b]) ++ [a]
  | [] => by by_cases h : b = a <;> simp [compactL, h]
  | [x] => by
    have := compactL_snoc a b []
    simp only [List.nil_append] at this
    by_cases h1 : x = b <;> by_cases h : b = a <;> simp [compactL, h1, h]
  | x :: y :: r => by
    have ih := compactL_snoc a b (y :: r)
    by_cases h1 : x = y <;> by_cases h : b = a <;> simp_all [compactL]
theorem compactL_take {l : List ByteArray} {j : Nat} (h : j + 1 < l.length) : compactL (l.take (j + 2)) = if l[j] = l[j + 1] then compactL (l.take (j + 1)) else compactL (l.take (j + 1)) ++ [l[j + 1]] := by
  rw [List.take_succ_eq_append_getElem h, List.take_succ_eq_append_getElem (by omega : j < l.length), List.append_assoc]
  exact compactL_snoc _ _ _

set_option maxRecDepth 100000 in
set_option maxHeartbeats 1000000 in
theorem compact_str (base : Nat) (v : Value) (l : List ByteArray) (w : World) (h : Own w base 9 v l) (hn : l.length ≤ 65536) :
    Calls Try.prog 76 #[v] w fun e w' => ∃ v', e = .returned v' ∧ Own w' base 9 v' (compactL l) ∧ w.grownBy w' v.ownBlock ∧ v'.ownBlock = v.ownBlock := by
  by_cases hs : l.length < 2
  · obtain ⟨A, c, rfl, _⟩ := h.sl
    have hcl : compactL l = l := by
      rcases l with _ | ⟨x, _ | ⟨y, r⟩⟩
      · rfl
      · rfl
      · simp at hs; omega
    rw [hcl]
    have H := Lib.hid h
    clear h hcl
    go_enter Try.func76, Try.ntmps76
    go_wp2
    go_ret
    exact ⟨_, rfl, H.out, World.grownBy.refl _ _, rfl⟩
  · obtain ⟨gb, cp, cur0, rfl, hgb, _, hcap, hcapm, _, _⟩ := h.form (by omega)
    have hcm : cp ≤ 9223372036854775807 := by unfold maxLen at hcapm; exact hcapm
    clear hcapm
    have HH := Lib.hid h
    have h2 : decide ((l.length : Int) < 2) = false := by rw [decide_eq_false_iff_not]; omega
    go_enter Try.func76, Try.ntmps76
    go_wp2
    go_loopw [3] (fun i wr => ∃ k : Nat, i = i64 (k + 1) ∧ k + 1 ≤ l.length ∧ compactL (l.take (k + 1)) = l.take (k + 1) ∧ ∃ nd, wr = w.drewN nd) (fun i _ => l.length + 1 - (intOf i).toNat)
    case atStart => exact ⟨0, rfl, by omega, by cases l <;> simp [compactL], 0, rfl⟩
    case round =>
      obtain ⟨k, rfl, hk, hc, nd, rfl⟩ := hrel
      have Hc := Lib.hid hc
      clear hc
      by_cases hlt : k + 1 < l.length
      · have hdk : decide ((k : Int) + 1 < (l.length : Int)) = true := by rw [decide_eq_true_eq]; omega
        have d0 := h.str (k := k) (by omega)
        have d1 := h.str hlt
        by_cases he : l[k + 1] = l[k]
        · have hq := beqS_of_eq he
          have He := Lib.hid he
          clear he
          go_wp2
          go_quiet (fail)
          go_wp2
          have hO0 := h.drewN (nd + nq)
          go_loopw [3, 5] (fun i j wr => ∃ (kk q : Nat) (cur : List ByteArray), i = i64 kk ∧ j = i64 (q + 1) ∧ k + 1 ≤ kk ∧ kk ≤ k + 1 + q ∧ k + q + 2 ≤ l.length ∧ cur.length = l.length ∧
            Own wr base 9 (.slice (some ⟨gb, 0, none⟩) l.length cp) cur ∧ w.grownBy wr (some gb) ∧ cur.take kk = compactL (l.take (k + q + 2)) ∧ cur.drop (k + 1 + q) = l.drop (k + 1 + q)) (fun _ j _ => l.length - (intOf j).toNat)
          case atStart => exact ⟨k + 1, 0, l, by go_num, by go_num, by omega, by omega, by omega, rfl, hO0, grown_drewN (World.grownBy.refl _ _) _, by
            rw [compactL_take hlt, if_pos He.out.symm, Hc.out], rfl⟩
          case round =>
            obtain ⟨kk, q, cur, rfl, rfl, hk1, hk2, hq2, hcl, hO, hgr, htk, hdr⟩ := hrel
            have HC := Lib.hid hcl
            have HT := Lib.hid htk
            have HD := Lib.hid hdr
            have hkc : kk < cur.length := by omega
            clear htk hdr
            by_cases hjl : k + q + 2 < l.length
            · have b0 : k + 1 + q < l.length := by omega
              have b1 : k + 1 + (q + 1) < l.length := by omega
              have e0 : cur[k + 1 + q]'(by omega) = l[k + 1 + q] := by
                have h1 : (cur.drop (k + 1 + q))[0]? = (l.drop (k + 1 + q))[0]? := by rw [HD.out]
                rw [List.getElem?_drop, List.getElem?_drop, List.getElem?_eq_getElem (by omega), List.getElem?_eq_getElem (by omega)] at h1
                exact Option.some.inj h1
              have e1 : cur[k + 1 + (q + 1)]'(by omega) = l[k + 1 + (q + 1)] := by
                have h1 : (cur.drop (k + 1 + q))[1]? = (l.drop (k + 1 + q))[1]? := by rw [HD.out]
                rw [List.getElem?_drop, List.getElem?_drop, List.getElem?_eq_getElem (by omega), List.getElem?_eq_getElem (by omega)] at h1
                exact Option.some.inj h1
              have c0 : wr.cell? ⟨gb, k + 1 + q, none⟩ = some (.string l[k + 1 + q]) := by rw [hO.str (k := k + 1 + q) (by omega), e0]
              have c1 : wr.cell? ⟨gb, k + 1 + (q + 1), none⟩ = some (.string l[k + 1 + (q + 1)]) := by rw [hO.str (k := k + 1 + (q + 1)) (by omega), e1]
              have E1 : Hid (l[k + 1 + (q + 1)].size ≤ maxLen) := Lib.hid (by have h5 := hO.2 _ (List.getElem_mem (l := cur) (n := k + 1 + (q + 1)) (by omega)); rw [e1] at h5; exact h5)
              have hidx : k + q + 1 + 1 < l.length := hjl
              clear e0 e1 hcl
              by_cases hne : l[k + 1 + (q + 1)] = l[k + 1 + q]
              · have hq3 : (l[k + 1 + (q + 1)].toList != l[k + 1 + q].toList) = false := by rw [hne]; simp
                have hq4 := beqS_of_eq hne
                have Hne := Lib.hid hne
                clear hne
                go_wp2
                go_quiet (fail)
                go_wp2
                go_roundw
                case rel => exact ⟨kk, q + 1, cur, rfl, by go_num, by omega, by omega, by omega, HC.out, hO.drewN _, grown_drewN hgr _, by
                    have h6 := compactL_take (l := l) (j := k + 1 + q) (by omega)
                    have ht : cur.take kk = compactL (l.take (k + 1 + q + 1)) := by rw [HT.out, show k + q + 2 = k + 1 + q + 1 by omega]
                    rw [if_pos (show l[k + 1 + q] = l[k + 1 + q + 1] from Hne.out.symm), ← ht] at h6
                    rw [← h6, show k + (q + 1) + 2 = k + 1 + q + 2 by omega], by
                    have := congrArg (List.drop 1) HD.out
                    rwa [List.drop_drop, List.drop_drop] at this⟩
                case measure => simp [intOf]; omega
              · have hq3 : (l[k + 1 + (q + 1)].toList != l[k + 1 + q].toList) = true := by
                  have := beqS_of_ne hne
                  simp [bne, this]
                have hq4 := beqS_of_ne hne
                have Hne := Lib.hid hne
                clear hne
                go_wp2
                go_quiet (fail)
                have hkc' : kk < cur.length := by rw [HC.out]; omega
                go_wp2_with (refine wpList_store_own rfl none (.tmp 51) (.tmp 50) 9 rfl rfl (by kernel_rfl) gb l.length cp kk kk l[k + 1 + (q + 1)] (hO.drewN nq) hkc' rfl (Nat.mul_one _).symm rfl E1.out ?_; intro w3 hO3 hg3)
                go_roundw
                case rel => exact ⟨kk + 1, q + 1, cur.set kk l[k + 1 + (q + 1)], by go_num, by go_num, by omega, by omega, by omega, by rw [List.length_set]; exact HC.out, hO3, grown_trans (grown_drewN hgr _) hg3, by
                    have h6 := compactL_take (l := l) (j := k + 1 + q) (by omega)
                    have ht : cur.take kk = compactL (l.take (k + 1 + q + 1)) := by rw [HT.out, show k + q + 2 = k + 1 + q + 1 by omega]
                    rw [if_neg (show ¬ l[k + 1 + q] = l[k + 1 + q + 1] from fun e => Hne.out e.symm), ← ht] at h6
                    rw [show k + (q + 1) + 2 = k + 1 + q + 2 by omega, h6, List.take_succ_eq_append_getElem (by rw [List.length_set]; exact hkc'), List.getElem_set_self, List.take_set_of_le (Nat.le_refl _)]; rfl, by
                    rw [List.drop_set_of_lt (by omega)]
                    have := congrArg (List.drop 1) HD.out
                    rwa [List.drop_drop, List.drop_drop] at this⟩
                case measure => simp [intOf]; omega
            · have hkc2 : kk ≤ cur.length := by omega
              have hkl : kk < l.length := by omega
              clear hcl
              go_wp2_with (refine wpList_clear_own rfl none (.tmp 56) 55 rfl rfl 9 Try.underlying55 (.string ByteArray.empty) (fun _ => by kernel_rfl) rfl oneStr gb l.length cp kk kk _ _ hO hkc2 rfl (Nat.mul_one _).symm (fun _ => rfl) ?_; intro w3 hO3 hg3)
              go_ret
              exact ⟨_, rfl, by rw [HT.out, List.take_of_length_le (by omega)] at hO3; exact hO3, grown_trans hgr hg3, rfl⟩
        · have hq := beqS_of_ne he
          have He := Lib.hid he
          clear he
          go_wp2
          go_quiet (fail)
          go_wp2
          go_roundw
          case rel => exact ⟨k + 1, by go_num, by omega, by rw [compactL_take hlt, if_neg (fun e => He.out e.symm), Hc.out, ← List.take_succ_eq_append_getElem hlt], _, rfl⟩
          case measure => simp [intOf]; omega
      · go_wp2
        go_ret
        refine ⟨_, rfl, ?_, grown_drewN (World.grownBy.refl _ _) _, rfl⟩
        have := Hc.out
        rw [List.take_of_length_le (by omega)] at this
        rw [this]
        exact HH.out.drewN _
end Go.Proofs.Ytogecfddkohigaa
