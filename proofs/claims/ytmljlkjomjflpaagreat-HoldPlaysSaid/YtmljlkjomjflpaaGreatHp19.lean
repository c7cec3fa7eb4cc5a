/- Texts of this claim, laid together: Rf07P, Rf07R, RfGet. -/
import Derived.Test.YtmljlkjomjflpaaGreatRows
import Derived.Test.YtmljlkjomjflpaaGreatHp15
import Derived.Test.YtmljlkjomjflpaaGreatHp14
import Derived.Test.YtmljlkjomjflpaaGreatHp9
import Derived.WalkKit
import Derived.WalkSpells
import Derived.WalkLawsBesides
import Derived.Deep.QuietTactic
import Derived.BigQuiet
import Derived.Laws.StructEq
import Derived.Deep.DeepFit
import Derived.StillTailTactics
import Derived.Test.YtmljlkjomjflpaaGreatHp13
import Derived.Test.YtmljlkjomjflpaaGreatHp8

/- ref07.Check, Make: the plain law -/
namespace Go.Proofs.YtmljlkjomjflpaaGreat
open Go.RowKit
theorem getK_setN {α κ : Type} [DecidableEq κ] {kf : α → κ} (L : List α) {v : α} {k : κ} (e : kf v ≠ k) : getK kf (setK kf L v) k = getK kf L k := by
  unfold getK setK
  induction L with
  | nil => rfl
  | cons x r ih =>
    rw [List.map_cons]
    by_cases hx : kf x = kf v
    · rw [if_pos hx, List.find?_cons_of_neg (by simpa using e), List.find?_cons_of_neg (by rw [hx]; simpa using e)]
      exact ih
    · rw [if_neg hx]
      by_cases hk : kf x = k
      · rw [List.find?_cons_of_pos (by simpa using hk), List.find?_cons_of_pos (by simpa using hk)]
      · rw [List.find?_cons_of_neg (by simpa using hk), List.find?_cons_of_neg (by simpa using hk)]
        exact ih
/-- what the reference says of one leg -/
def perrL (L : List Ac) (x : Leg) : Int :=
  if (getLR L x.acct).2 ≠ 0 then (getLR L x.acct).2 else if (sumR (0 - x.sum)).2 ≠ 0 ∨ (sumR ((getLR L x.acct).1.hav + x.sum)).2 ≠ 0 then 2
  else if 0 < (sumR (0 - x.sum)).1 ∧ freeA (getLR L x.acct).1 (sumR (0 - x.sum)).1 = false then 9 else 0
theorem sumR_two (n : Int) : (sumR n).2 = 0 ∨ (sumR n).2 = 2 := by
  unfold sumR
  split
  · exact .inr rfl
  · exact .inl rfl
theorem sumR_in {n : Int} (h : (sumR n).2 = 0) : R64 n := by
  have := sumR_R64 n
  rwa [sumR_0 h] at this
theorem getLR_cases (L : List Ac) (k : ByteArray) : ((getLR L k).2 = 6 ∧ getK Ac.name L k = none) ∨ ∃ a, getK Ac.name L k = some a ∧ getLR L k = (a, 0) := by
  unfold getLR
  cases h : getK Ac.name L k with
  | none => exact .inl ⟨rfl, rfl⟩
  | some a => exact .inr ⟨a, rfl, rfl⟩
theorem postL_perr {L : List Ac} (h : OkA L) (x : Leg) : (postL L x).1 = perrL L x := by
  unfold postL perrL
  rcases getLR_cases L x.acct with ⟨h1, h2⟩ | ⟨a, h1, h2⟩
  · rw [if_pos (by rw [h1]; decide), if_pos (by rw [h1]; decide)]
  · rw [h2]
    dsimp only
    have h0 : ¬ (0 : Int) ≠ 0 := fun h => h rfl
    rw [if_neg h0, if_neg h0]
    rcases sumR_two (0 - x.sum) with h3 | h3
    · have h3' : ¬ (sumR (0 - x.sum)).2 ≠ 0 := fun h => h h3
      rw [if_neg h3', sumR_0 h3]
      have e : a.hav - (0 - x.sum) = a.hav + x.sum := by omega
      unfold turnL
      rw [h1]
      dsimp only
      rw [show (givD (0 - x.sum) a).2 = (sumR (a.hav + x.sum)).2 by unfold givD; rw [e]]
      rcases sumR_two (a.hav + x.sum) with h4 | h4
      · have h4' : ¬ (sumR (a.hav + x.sum)).2 ≠ 0 := fun h => h h4
        rw [if_neg h4', if_neg (not_or.2 ⟨h3', h4'⟩)]
        by_cases h5 : 0 < 0 - x.sum ∧ freeA a (0 - x.sum) = false
        · rw [if_pos h5, if_pos h5]
        · rw [if_neg h5, if_neg h5, if_neg]
          have := (h a (getK_mem h1).1).2.1
          show ¬ a.set_ < 0
          omega
      · have h4' : (sumR (a.hav + x.sum)).2 ≠ 0 := by rw [h4]; decide
        rw [if_pos h4', if_pos (.inr h4'), h4]
    · have h3' : (sumR (0 - x.sum)).2 ≠ 0 := by rw [h3]; decide
      rw [if_pos h3', if_pos (.inl h3'), h3]
theorem perr_congr {L L' : List Ac} {x : Leg} (h : getLR L x.acct = getLR L' x.acct) : perrL L x = perrL L' x := by unfold perrL; rw [h]
theorem postL_other (L : List Ac) (x : Leg) {k : ByteArray} (h : k ≠ x.acct) : getLR (postL L x).2 k = getLR L k := by
  unfold postL
  split
  · rfl
  · split
    · rfl
    · rcases turnL_cases (givD (sumR (0 - x.sum)).1) L x.acct (sumR (0 - x.sum)).1 with ⟨_, e⟩ | ⟨_, a, h1, _, _, _, e⟩
      · rw [e]
      · rw [e]
        unfold getLR
        rw [getK_setN]
        show a.name ≠ k
        rw [(getK_mem h1).2]
        exact fun e => h e.symm
/-- the first error, leg by leg, of accounts as they were -/
def firstE (L : List Ac) : List Leg → Int
  | [] => 0
  | x :: r => if perrL L x ≠ 0 then perrL L x else firstE L r
theorem allL_first : ∀ (l : List Leg) (L L0 : List Ac), OkA L → (l.map Leg.acct).Nodup → (∀ x ∈ l, getLR L x.acct = getLR L0 x.acct) → (allL L l).1 = firstE L0 l
  | [], _, _, _, _, _ => rfl
  | x :: r, L, L0, hok, hnd, heq => by
    unfold allL firstE
    rw [List.map_cons, List.nodup_cons] at hnd
    have hp := postL_perr hok x
    rw [perr_congr (heq x (List.mem_cons_self ..))] at hp
    rw [← hp]
    by_cases h0 : (postL L x).1 ≠ 0
    · rw [if_pos h0, if_pos h0]
    · rw [if_neg h0, if_neg h0]
      refine allL_first r _ L0 (postL_ok hok x) hnd.2 fun y hy => ?_
      rw [postL_other L x (fun e => hnd.1 (by rw [← e]; exact List.mem_map.2 ⟨y, hy, rfl⟩))]
      exact heq y (List.mem_cons_of_mem _ hy)
theorem legsB_nodup {l : List Leg} (h : legsB l = true) : (l.map Leg.acct).Nodup := by
  unfold legsB at h
  simp only [Bool.and_eq_true, decide_eq_true_eq] at h
  exact h.1.1
theorem checkL_first {L : List Ac} (h : OkA L) (l : List Leg) : checkL L l = if legsB l = false then 1 else if weighB l = false then 8 else firstE L l := by
  unfold checkL
  by_cases h1 : legsB l = false
  · rw [if_pos h1, if_pos h1]
  · rw [if_neg h1, if_neg h1]
    by_cases h2 : weighB l = false
    · rw [if_pos h2, if_pos h2]
    · rw [if_neg h2, if_neg h2]
      exact allL_first l L L h (legsB_nodup (by simpa using h1)) fun _ _ => rfl
theorem firstE_step {L : List Ac} {l : List Leg} {k : Nat} (h : k < l.length) : firstE L (l.drop k) = if perrL L l[k] ≠ 0 then perrL L l[k] else firstE L (l.drop (k + 1)) := by
  rw [List.drop_eq_getElem_cons h]
  rfl
/-- a leg that may be posted: one account is turned -/
theorem postL_zero {L : List Ac} (hS : SrtL ltA L) {x : Leg} (h : (postL L x).1 = 0) : ∃ (n : Nat) (hn : n < L.length), idxA L x.acct = n ∧ (postL L x).2 = L.set n { L[n] with hav := L[n].hav + x.sum } ∧ R64 (L[n].hav + x.sum) := by
  unfold postL at *
  rcases getLR_cases L x.acct with ⟨h1, h2⟩ | ⟨a, h1, h2⟩
  · rw [if_pos (by rw [h1]; decide), h1] at h
    cases h
  · rw [h2] at h ⊢
    dsimp only at *
    rw [if_neg (show ¬ (0 : Int) ≠ 0 from fun h => h rfl)] at h ⊢
    rcases sumR_two (0 - x.sum) with h3 | h3
    · rw [if_neg (show ¬ (sumR (0 - x.sum)).2 ≠ 0 from fun h => h h3), sumR_0 h3] at h ⊢
      rcases turnL_cases (givD (0 - x.sum)) L x.acct (0 - x.sum) with ⟨h4, _⟩ | ⟨_, b, h4, h5, _, _, h6⟩
      · exact absurd h h4
      · rw [h1] at h4
        injection h4 with h4
        subst h4
        rcases idxA_get (L := L) (k := x.acct) with ⟨_, g⟩ | ⟨n, hn, g1, g2, g3⟩
        · rw [h1] at g; cases g
        · rw [h1] at g2
          injection g2 with g2
          have e : a.hav - (0 - x.sum) = a.hav + x.sum := by omega
          have hR : (sumR (a.hav + x.sum)).2 = 0 := by rw [← e]; exact h5
          refine ⟨n, hn, g1, ?_, by rw [← g2]; exact sumR_in hR⟩
          rw [h6, setK_set keyA hS hn (show L[n].name = (givD (0 - x.sum) a).1.name by rw [← g2]; rfl)]
          congr 1
          unfold givD
          rw [e, sumR_0 hR, ← g2]
    · rw [if_pos (show (sumR (0 - x.sum)).2 ≠ 0 by rw [h3]; decide), h3] at h
      cases h
theorem turnP_srt {L : List Ac} (h : SrtL ltA L) (x : Leg) : SrtL ltA (postL L x).2 := by
  unfold postL
  split
  · exact h
  · split
    · exact h
    · rcases turnL_cases (givD (sumR (0 - x.sum)).1) L x.acct (sumR (0 - x.sum)).1 with ⟨_, e⟩ | ⟨_, a, _, _, _, _, e⟩
      · rw [e]; exact h
      · rw [e]; exact setK_srt keyA h _
end Go.Proofs.YtmljlkjomjflpaaGreat

/- ref07.Right -/
namespace Go.Proofs.YtmljlkjomjflpaaGreat
open Go.RowKit
set_option maxRecDepth 100000 in
set_option maxHeartbeats 4000000 in
theorem rright7_c (A : Option Addr) (c : Nat) (l : List Leg) (w : World) (h : Sl w w.heap.size A c l) (hn : l.length ≤ 65536) :
    Calls Tryz.prog 172 #[.slice A l.length c] w fun e w' => e = .returned (.bool (legsB l)) ∧ Below w.heap.size w w' := by
  have H := Lib.hid h
  have hlc : l.length ≤ c := h.1
  clear h
  go_enter Tryz.func172, Tryz.ntmps172
  go_wp2_with fail
  go_loopw [3] (fun i wr => ∃ k : Nat, i = i64 k ∧ k ≤ l.length ∧ legsTo l k ∧ Below w.heap.size w wr) (fun i _ => l.length - (intOf i).toNat)
  case atStart => exact ⟨0, rfl, Nat.zero_le _, ⟨by simp, by simp⟩, Below.refl _ _⟩
  case round =>
    obtain ⟨k, rfl, hk, ht, hb⟩ := hrel
    have HT := Lib.hid ht
    clear ht
    by_cases hlt : k < l.length
    · have g1 : decide ((k : Int) < (l.length : Int)) = true := decide_eq_true (by omega)
      have g2 : decide (k < l.length) = true := decide_eq_true hlt
      have i0 : (0 : Int) ≤ (k : Int) := by omega
      have i1 : (k : Int) < (l.length : Int) := by omega
      obtain ⟨b, o, rfl, hbb, hsz, c0, c1⟩ := (H.out.later hb).leg hlt
      have HN := Lib.hid (rname_c l[k].acct hsz wr)
      clear hsz
      cases hnm : nameB l[k].acct with
      | false =>
        rw [hnm] at HN
        have HR := Lib.hid (legsB_bad hlt (show legB l[k] = false by unfold legB; rw [hnm]; rfl))
        clear hnm
        go_wp2_with fail
        refine HN.out.mono ?_
        rintro e w1 ⟨rfl, hF⟩
        have hb2 := hb.trans (hF.mono hb.size)
        clear hF HN c0 c1
        go_wp2
        go_ret
        exact ⟨by rw [HR.out]; rfl, hb2⟩
      | true =>
        rw [hnm] at HN
        by_cases hz : l[k].sum = 0
        · have HR := Lib.hid (show legsB l = false from legsB_bad hlt (by unfold legB; rw [hz]; simp))
          have g3 : (l[k].sum == 0) = true := beq_iff_eq.2 hz
          clear hnm hz
          go_wp2_with fail
          refine HN.out.mono ?_
          rintro e w1 ⟨rfl, hF⟩
          have hb2 := hb.trans (hF.mono hb.size)
          have c1 := (hF.cell (p := ⟨b, o + k * 2 + 1, none⟩) (World.block_lt_of_cell? _ _ c1)).trans c1
          clear hF HN c0
          go_wp2
          go_ret
          exact ⟨by rw [HR.out]; rfl, hb2⟩
        · have g3 : (l[k].sum == 0) = false := beq_eq_false_iff_ne.2 hz
          have HL := Lib.hid (show legB l[k] = true by unfold legB; rw [hnm, decide_eq_true hz]; rfl)
          clear hnm hz
          go_wp2_with fail
          refine HN.out.mono ?_
          rintro e w1 ⟨rfl, hF⟩
          have hb2 := hb.trans (hF.mono hb.size)
          have c1 := (hF.cell (p := ⟨b, o + k * 2 + 1, none⟩) (World.block_lt_of_cell? _ _ c1)).trans c1
          clear hF HN c0 hb
          go_wp2_with fail
          go_loopw [4] (fun i wz => ∃ q : Nat, i = i64 q ∧ q ≤ k ∧ (∀ t (ht : t < l.length), t < q → l[t].acct ≠ l[k].acct) ∧ Below w.heap.size w wz) (fun i _ => k - (intOf i).toNat)
          case atStart => exact ⟨0, rfl, Nat.zero_le _, fun t _ h => absurd h (by omega), hb2⟩
          case round =>
            obtain ⟨q, rfl, hq, hno, hbz⟩ := hrel
            have Hno := Lib.hid hno
            clear hno hb2 c1 hbb
            by_cases hqk : q < k
            · have g4 : decide ((q : Int) < (k : Int)) = true := decide_eq_true (by omega)
              have g5 : decide (q < k) = true := decide_eq_true hqk
              have hql : q < l.length := by omega
              have j0 : (0 : Int) ≤ (q : Int) := by omega
              have j1 : (q : Int) < (l.length : Int) := by omega
              obtain ⟨b1, o1, hA1, _, _, d0, _⟩ := (H.out.later hbz).leg hql
              injection hA1 with hA1
              injection hA1 with e1 e2
              subst e1 e2
              obtain ⟨b1, o1, hA1, _, _, d1, _⟩ := (H.out.later hbz).leg hlt
              injection hA1 with hA1
              injection hA1 with e1 e2
              subst e1 e2
              by_cases he : l[q].acct = l[k].acct
              · have g6 := beqS_of_eq he
                have HR := Lib.hid (show legsB l = false from legsB_seen hlt (by rw [← he]; exact List.mem_map.2 ⟨l[q], List.mem_take_iff_getElem.2 ⟨q, by omega, rfl⟩, rfl⟩))
                clear he
                go_wp2
                go_quiet (fail)
                go_wp2
                go_ret
                exact ⟨by rw [HR.out]; rfl, below_drewN hbz _⟩
              · have g6 := beqS_of_ne he
                have He := Lib.hid he
                clear he
                go_wp2
                go_quiet (fail)
                go_wp2
                go_roundw
                case rel => exact ⟨q + 1, by go_num, by omega, fun t ht h => by
                    rcases Nat.lt_succ_iff_lt_or_eq.1 h with h | rfl
                    · exact Hno.out t ht h
                    · exact He.out, below_drewN hbz _⟩
                case measure => simp [intOf]; omega
            · obtain rfl : q = k := by omega
              have g4 : decide ((q : Int) < (q : Int)) = false := decide_eq_false (by omega)
              have g5 : decide (q < q) = false := decide_eq_false (by omega)
              have hnx := Lib.hid (HT.out.next hlt (fun hm => by
                obtain ⟨x, hx, he⟩ := List.mem_map.1 hm
                obtain ⟨t, ht, rfl⟩ := List.mem_take_iff_getElem.1 hx
                exact Hno.out t (by omega) (by omega) he) HL.out)
              go_wp2
              go_roundw
              case rel => exact ⟨q + 1, by go_num, by omega, hnx.out, hbz⟩
              case measure => simp [intOf]; omega
    · obtain rfl : k = l.length := by omega
      have hal := legsB_all HT.out
      have g1 : decide ((l.length : Int) < (l.length : Int)) = false := decide_eq_false (by omega)
      by_cases h2 : 2 ≤ l.length
      · have g3 : decide ((2 : Int) ≤ (l.length : Int)) = true := decide_eq_true (by omega)
        rw [decide_eq_true h2] at hal
        by_cases h6 : l.length ≤ 6
        · have g4 : decide ((l.length : Int) ≤ 6) = true := decide_eq_true (by omega)
          rw [decide_eq_true h6] at hal
          have Hs := Lib.hid hal
          clear hal h2 h6
          go_wp2
          go_ret
          exact ⟨by rw [Hs.out]; rfl, hb⟩
        · have g4 : decide ((l.length : Int) ≤ 6) = false := decide_eq_false (by omega)
          rw [decide_eq_false h6] at hal
          have Hs := Lib.hid hal
          clear hal h2 h6
          go_wp2
          go_ret
          exact ⟨by rw [Hs.out]; rfl, hb⟩
      · have g3 : decide ((2 : Int) ≤ (l.length : Int)) = false := decide_eq_false (by omega)
        rw [decide_eq_false h2] at hal
        have Hs := Lib.hid hal
        clear hal h2
        go_wp2
        go_ret
        exact ⟨by rw [Hs.out]; rfl, hb⟩
end Go.Proofs.YtmljlkjomjflpaaGreat

/- ref05: Get -/
namespace Go.Proofs.YtmljlkjomjflpaaGreat
open Go.RowKit
set_option maxRecDepth 100000 in
set_option maxHeartbeats 4000000 in
theorem rget_c (T : Nat → Prop) (g : Nat) (L : List Ac) (k : ByteArray) (w : World) (h : RcIs w T g L) (hL : L.length ≤ 65536) :
    Calls Tryz.prog 78 #[.pointer (some ⟨g, 0, none⟩), .string k] w fun e w' => e = .returned (.tuple #[(getLR L k).1.v, i64 (getLR L k).2]) ∧ Below w.heap.size w w' := by
  have hb0 := (Below.refl w.heap.size w).alloc (Nat.le_refl _) (.cells #[.string ⟨#[]⟩, i64 0, i64 0, i64 0] 70)
  have hg0 := heap_alloc_new w (.cells #[.string ⟨#[]⟩, i64 0, i64 0, i64 0] 70)
  have h1 := h.later hb0
  have hA := Lib.hid (rat_c T g L k _ h1 hL)
  obtain ⟨A, c, hc, hs, hf⟩ := h1
  have c0 := cell_of_row _ g 0 _ _ (0, 0) hc
  simp only [List.getElem?_toArray, List.getElem?_cons_zero] at c0
  have hlt := h.lt
  clear hc hf
  rcases idxA_get (L := L) (k := k) with ⟨h1, h2⟩ | ⟨n, hn, h1, h2, h3⟩
  · have HR := Lib.hid (show getLR L k = (ac0, 6) by unfold getLR; rw [h2])
    clear h2
    generalize idxA L k = i at *
    have g1 : decide (i < 0) = true := decide_eq_true h1
    go_enter Tryz.func78, Tryz.ntmps78
    go_wp2_with fail
    refine hA.out.mono ?_
    rintro e w1 ⟨rfl, rfl⟩
    go_wp2
    exact bodyPost_ret (results_cell_row_tmp rfl _ _ w.heap.size 70 _ (0, 0) _ rfl hg0 Tryz.underlying70 rfl (by kernel_rfl)) rfl ⟨by rw [HR.out]; rfl, hb0⟩
  · have HR := Lib.hid (show getLR L k = (L[n], 0) by unfold getLR; rw [h2])
    rw [h1] at hA
    have g1 : decide ((n : Int) < 0) = false := decide_eq_false (by omega)
    obtain ⟨b, o, rfl, hb, _, d0, d1, d2, d3⟩ := hs.ac hn
    have i0 : (0 : Int) ≤ (n : Int) := by omega
    have i1 : (n : Int) < (L.length : Int) := by omega
    have hlc : L.length ≤ c := hs.1
    generalize L[n] = a at *
    clear h2 h1 hs h h3
    go_enter Tryz.func78, Tryz.ntmps78
    go_wp2_with fail
    refine hA.out.mono ?_
    rintro e w1 ⟨rfl, rfl⟩
    go_wp2
    exact bodyPost_ret (results_cell_row_tmp rfl _ _ w.heap.size 70 _ (0, 0) _ rfl (heap_alloc_new w _) Tryz.underlying70 rfl (by kernel_rfl)) rfl ⟨by rw [HR.out]; rfl, (Below.refl _ _).alloc (Nat.le_refl _) _⟩
end Go.Proofs.YtmljlkjomjflpaaGreat
