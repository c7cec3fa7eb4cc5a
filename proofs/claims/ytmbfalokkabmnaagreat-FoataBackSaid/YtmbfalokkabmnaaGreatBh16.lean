/- Texts of this claim, laid together: FoEq, BytesW, FoWrP, FoWr. -/
import Derived.Test.YtmbfalokkabmnaaGreatRows
import Derived.Test.YtmbfalokkabmnaaGreatBh15
import Derived.Test.YtmbfalokkabmnaaGreatBh3
import Derived.Test.YtmbfalokkabmnaaGreatBh4
import Derived.WalkKit
import Derived.WalkSpells
import Derived.WalkLawsBesides
import Derived.Deep.QuietTactic
import Derived.BigQuiet
import Derived.Laws.StructEq
import Derived.Deep.DeepFit
import Derived.StillTailTactics
import Derived.Test.YtmbfalokkabmnaaGreatBh10
import Derived.Laws.IdiomStrings

/- slices.EqualFunc of orders, of steps; foata.Lay, Normal -/
namespace Go.Proofs.YtmbfalokkabmnaaGreat
open Go.RowKit
set_option maxRecDepth 100000 in
set_option maxHeartbeats 4000000 in
theorem eqO_c (A C : Option Addr) (c d : Nat) (a b : List Od) (w : World) (ha : Sl w w.heap.size A c a) (hb : Sl w w.heap.size C d b) (_hna : a.length ≤ 65536) (_hnb : b.length ≤ 65536) (hla : ∀ x ∈ a, x.legs.length ≤ 65536) (hlb : ∀ x ∈ b, x.legs.length ≤ 65536) :
    Calls Tryz.prog 60 #[.slice A a.length c, .slice C b.length d, .func (.func 61) #[] #[]] w fun e w' => e = .returned (.bool (sameL a b)) ∧ Below w.heap.size w w' := by
  have eg := (enters_of Tryz.func61 (by kernel_rfl) rfl)
  by_cases hl : a.length = b.length
  · have q : ((a.length : Int) != (b.length : Int)) = false := by rw [hl]; simp
    have HL := Lib.hid hl
    have Hla := Lib.hid hla
    have Hlb := Lib.hid hlb
    clear hl hla hlb
    go_enter Tryz.func60, Tryz.ntmps60
    go_wp2
    go_loopw [17] (fun i wr => ∃ k : Nat, i = i64 k ∧ k ≤ a.length ∧ (∀ j (hj : j < a.length) (hj' : j < b.length), j < k → sameB a[j] b[j] = true) ∧ Below w.heap.size w wr) (fun i _ => a.length - (intOf i).toNat)
    case atStart => exact ⟨0, rfl, by omega, by omega, Below.refl _ _⟩
    case round =>
      obtain ⟨k, rfl, hk, hall, hbr⟩ := hrel
      have Hall := Lib.hid hall
      clear hall
      by_cases hlt : k < a.length
      · have hltb : k < b.length := by have := HL.out; omega
        obtain ⟨b0, o0, rfl, hbb, hok, c0, c1, c2, c3, c4, c5, c6, c7, c8, c9⟩ := (ha.later hbr).od hlt
        obtain ⟨b2, o2, rfl, hbb2, hok2, d0, d1, d2, d3, d4, d5, d6, d7, d8, d9⟩ := (hb.later hbr).od hltb
        obtain ⟨x, hx⟩ : ∃ x, a[k] = x := ⟨_, rfl⟩
        obtain ⟨y, hy⟩ : ∃ y, b[k] = y := ⟨_, rfl⟩
        rw [hx] at hok c0 c1 c2 c3 c4 c5 c6 c7 c8 c9
        rw [hy] at hok2 d0 d1 d2 d3 d4 d5 d6 d7 d8 d9
        have hb1 := (Below.refl wr.heap.size wr).alloc (Nat.le_refl _) (.cells #[i64 x.client, i64 x.seq, i64 x.kind, .string x.acct, .string x.peer, i64 x.sum, .slice x.la x.legs.length x.lc, i64 x.period, i64 x.hold, .string x.note] 55)
        have hb12 := hb1.alloc hb1.size (.cells #[i64 y.client, i64 y.seq, i64 y.kind, .string y.acct, .string y.peer, i64 y.sum, .slice y.la y.legs.length y.lc, i64 y.period, i64 y.hold, .string y.note] 55)
        have hlx : x.legs.length ≤ 65536 := by rw [← hx]; exact Hla.out _ (List.getElem_mem _)
        have hly : y.legs.length ≤ 65536 := by rw [← hy]; exact Hlb.out _ (List.getElem_mem _)
        have HC := Lib.hid (same_c x y _ (Okb.later hok hb12) (Okb.later hok2 hb12) hlx hly)
        have HX := Lib.hid hx
        have HY := Lib.hid hy
        have hg1 := heap_alloc2_old wr (.cells #[i64 x.client, i64 x.seq, i64 x.kind, .string x.acct, .string x.peer, i64 x.sum, .slice x.la x.legs.length x.lc, i64 x.period, i64 x.hold, .string x.note] 55) (.cells #[i64 y.client, i64 y.seq, i64 y.kind, .string y.acct, .string y.peer, i64 y.sum, .slice y.la y.legs.length y.lc, i64 y.period, i64 y.hold, .string y.note] 55)
        have hg2 := heap_alloc2_new wr (.cells #[i64 x.client, i64 x.seq, i64 x.kind, .string x.acct, .string x.peer, i64 x.sum, .slice x.la x.legs.length x.lc, i64 x.period, i64 x.hold, .string x.note] 55) (.cells #[i64 y.client, i64 y.seq, i64 y.kind, .string y.acct, .string y.peer, i64 y.sum, .slice y.la y.legs.length y.lc, i64 y.period, i64 y.hold, .string y.note] 55)
        have dd : ∀ i v, i < 10 → wr.cell? ⟨b2, o2 + k * 10 + i, none⟩ = some v → (wr.alloc (.cells #[i64 x.client, i64 x.seq, i64 x.kind, .string x.acct, .string x.peer, i64 x.sum, .slice x.la x.legs.length x.lc, i64 x.period, i64 x.hold, .string x.note] 55)).cell? ⟨b2, o2 + k * 10 + i, none⟩ = some v := fun i v _ h => (hb1.cell (World.block_lt_of_cell? _ _ h)).trans h
        unfold Od.v at HC
        clear hx hy hok hok2 hlx hly
        have e0 := cell_of_row _ wr.heap.size 0 _ _ (0, 0) hg1
        have e1 := cell_of_row _ wr.heap.size 1 _ _ (0, 0) hg1
        have e2 := cell_of_row _ wr.heap.size 2 _ _ (0, 0) hg1
        have e3 := cell_of_row _ wr.heap.size 3 _ _ (0, 0) hg1
        have e4 := cell_of_row _ wr.heap.size 4 _ _ (0, 0) hg1
        have e5 := cell_of_row _ wr.heap.size 5 _ _ (0, 0) hg1
        have e6 := cell_of_row _ wr.heap.size 6 _ _ (0, 0) hg1
        have e7 := cell_of_row _ wr.heap.size 7 _ _ (0, 0) hg1
        have e8 := cell_of_row _ wr.heap.size 8 _ _ (0, 0) hg1
        have e9 := cell_of_row _ wr.heap.size 9 _ _ (0, 0) hg1
        have f0 := cell_of_row _ (wr.heap.size + 1) 0 _ _ (0, 0) hg2
        have f1 := cell_of_row _ (wr.heap.size + 1) 1 _ _ (0, 0) hg2
        have f2 := cell_of_row _ (wr.heap.size + 1) 2 _ _ (0, 0) hg2
        have f3 := cell_of_row _ (wr.heap.size + 1) 3 _ _ (0, 0) hg2
        have f4 := cell_of_row _ (wr.heap.size + 1) 4 _ _ (0, 0) hg2
        have f5 := cell_of_row _ (wr.heap.size + 1) 5 _ _ (0, 0) hg2
        have f6 := cell_of_row _ (wr.heap.size + 1) 6 _ _ (0, 0) hg2
        have f7 := cell_of_row _ (wr.heap.size + 1) 7 _ _ (0, 0) hg2
        have f8 := cell_of_row _ (wr.heap.size + 1) 8 _ _ (0, 0) hg2
        have f9 := cell_of_row _ (wr.heap.size + 1) 9 _ _ (0, 0) hg2
        simp only [List.getElem?_toArray, List.getElem?_cons_zero, List.getElem?_cons_succ] at e0 f0 e1 f1 e2 f2 e3 f3 e4 f4 e5 f5 e6 f6 e7 f7 e8 f8 e9 f9
        have d0' := dd 0 _ (by decide) d0
        have d1' := dd 1 _ (by decide) d1
        have d2' := dd 2 _ (by decide) d2
        have d3' := dd 3 _ (by decide) d3
        have d4' := dd 4 _ (by decide) d4
        have d5' := dd 5 _ (by decide) d5
        have d6' := dd 6 _ (by decide) d6
        have d7' := dd 7 _ (by decide) d7
        have d8' := dd 8 _ (by decide) d8
        have d9' := dd 9 _ (by decide) d9
        clear hg1 hg2 dd
        go_wp2_with fail
        refine HC.out.mono ?_
        rintro e w5 ⟨rfl, hb5⟩
        have hb6 := hbr.trans ((hb12.trans (hb5.mono hb12.size)).mono hbr.size)
        clear hb12 hb5 hb1 HC c0 c1 c2 c3 c4 c5 c6 c7 c8 c9 d0 d1 d2 d3 d4 d5 d6 d7 d8 d9
        by_cases hs : sameB x y = true
        · rw [hs]
          have Hs := Lib.hid hs
          clear hs
          go_wp2
          go_roundw
          case rel => exact ⟨k + 1, by go_num, by omega, fun j hj hj' h => by
              rcases Nat.lt_succ_iff_lt_or_eq.1 h with h | rfl
              · exact Hall.out j hj hj' h
              · rw [HX.out, HY.out]; exact Hs.out, hb6⟩
          case measure => simp [intOf]; omega
        · have hs' : sameB x y = false := by simpa using hs
          rw [hs']
          have Hs := Lib.hid hs'
          clear hs hs'
          go_wp2
          go_ret
          refine ⟨?_, hb6⟩
          have : sameL a b = false := by
            unfold sameL
            rw [Bool.and_eq_false_iff]
            right
            rw [List.all_eq_false]
            refine ⟨(a[k], b[k]), ?_, by rw [HX.out, HY.out]; simpa using Hs.out⟩
            rw [List.mem_iff_getElem]
            exact ⟨k, by simp; omega, by simp⟩
          rw [this]
          rfl
      · obtain rfl : k = a.length := by omega
        have g1 : decide ((a.length : Int) < (a.length : Int)) = false := decide_eq_false (by omega)
        go_wp2
        go_ret
        refine ⟨?_, hbr⟩
        have : sameL a b = true := by
          unfold sameL
          rw [decide_eq_true HL.out, Bool.true_and, List.all_eq_true]
          intro p hp
          obtain ⟨j, hj, rfl⟩ := List.getElem_of_mem hp
          simp only [List.length_zip] at hj
          rw [List.getElem_zip]
          exact Hall.out j (by omega) (by omega) (by omega)
        rw [this]
        rfl
  · have q : ((a.length : Int) != (b.length : Int)) = true := by simp; omega
    have Hs : Hid (sameL a b = false) := Lib.hid (by unfold sameL; rw [decide_eq_false hl]; rfl)
    clear hl
    go_enter Tryz.func60, Tryz.ntmps60
    go_wp2
    go_ret
    exact ⟨by rw [Hs.out]; rfl, Below.refl _ _⟩
/-- the same steps -/
def sameS (a b : List (List Od)) : Bool := decide (a.length = b.length) && (a.zip b).all fun p => sameL p.1 p.2
set_option maxRecDepth 100000 in
set_option maxHeartbeats 4000000 in
theorem eqN_c (A C : Option Addr) (c d : Nat) (a b : List Od) (w : World) (ha : Sl w w.heap.size A c a) (hb : Sl w w.heap.size C d b) (hna : a.length ≤ 65536) (hnb : b.length ≤ 65536) (hla : ∀ x ∈ a, x.legs.length ≤ 65536) (hlb : ∀ x ∈ b, x.legs.length ≤ 65536) :
    Calls Tryz.prog 59 #[.slice A a.length c, .slice C b.length d] w fun e w' => e = .returned (.bool (sameL a b)) ∧ Below w.heap.size w w' := by
  have HC := Lib.hid (eqO_c A C c d a b w ha hb hna hnb hla hlb)
  clear ha hb hla hlb
  go_enter Tryz.func59, Tryz.ntmps59
  go_wp2_with fail
  refine HC.out.mono ?_
  rintro e w1 ⟨rfl, hF⟩
  go_wp2
  go_ret
  exact ⟨rfl, hF⟩
/-- lists of orders as they are few -/
def smallS (a : List (SV Od)) : Prop := a.length ≤ 60000 ∧ ∀ x ∈ a, x.l.length ≤ 60000 ∧ ∀ y ∈ x.l, y.legs.length ≤ 10
set_option maxRecDepth 100000 in
set_option maxHeartbeats 4000000 in
theorem eqS_c (A C : Option Addr) (c d : Nat) (a b : List (SV Od)) (w : World) (ha : Sl w w.heap.size A c a) (hb : Sl w w.heap.size C d b) (hsa : smallS a) (hsb : smallS b) :
    Calls Tryz.prog 58 #[.slice A a.length c, .slice C b.length d, .func (.func 59) #[] #[]] w fun e w' => e = .returned (.bool (sameS (a.map SV.l) (b.map SV.l))) ∧ Below w.heap.size w w' := by
  have eg := (enters_of Tryz.func59 (by kernel_rfl) rfl)
  have Hsa := Lib.hid hsa
  have Hsb := Lib.hid hsb
  have hna := hsa.1
  have hnb := hsb.1
  clear hsa hsb
  by_cases hl : a.length = b.length
  · have q : ((a.length : Int) != (b.length : Int)) = false := by rw [hl]; simp
    have HL := Lib.hid hl
    clear hl
    go_enter Tryz.func58, Tryz.ntmps58
    go_wp2
    go_loopw [17] (fun i wr => ∃ k : Nat, i = i64 k ∧ k ≤ a.length ∧ (∀ j (hj : j < a.length) (hj' : j < b.length), j < k → sameL a[j].l b[j].l = true) ∧ Below w.heap.size w wr) (fun i _ => a.length - (intOf i).toNat)
    case atStart => exact ⟨0, rfl, by omega, by omega, Below.refl _ _⟩
    case round =>
      obtain ⟨k, rfl, hk, hall, hbr⟩ := hrel
      have Hall := Lib.hid hall
      clear hall
      by_cases hlt : k < a.length
      · have hltb : k < b.length := by have := HL.out; omega
        obtain ⟨b0, o0, rfl, hbb, hok, c0⟩ := (ha.later hbr).sv hlt
        obtain ⟨b2, o2, rfl, hbb2, hok2, d0⟩ := (hb.later hbr).sv hltb
        have h1 := Hsa.out.2 _ (List.getElem_mem hlt)
        have h2 := Hsb.out.2 _ (List.getElem_mem hltb)
        have HC := Lib.hid (eqN_c _ _ _ _ a[k].l b[k].l wr hok hok2 (by omega) (by omega) (fun y hy => Nat.le_trans (h1.2 y hy) (by decide)) (fun y hy => Nat.le_trans (h2.2 y hy) (by decide)))
        clear hok hok2 h1 h2
        go_wp2_with fail
        refine HC.out.mono ?_
        rintro e w5 ⟨rfl, hb5⟩
        have hb6 := hbr.trans (hb5.mono hbr.size)
        clear hb5 HC c0 d0
        by_cases hs : sameL a[k].l b[k].l = true
        · rw [hs]
          have Hs := Lib.hid hs
          clear hs
          go_wp2
          go_roundw
          case rel => exact ⟨k + 1, by go_num, by omega, fun j hj hj' h => by
              rcases Nat.lt_succ_iff_lt_or_eq.1 h with h | rfl
              · exact Hall.out j hj hj' h
              · exact Hs.out, hb6⟩
          case measure => simp [intOf]; omega
        · have hs' : sameL a[k].l b[k].l = false := by simpa using hs
          rw [hs']
          have Hs := Lib.hid hs'
          clear hs hs'
          go_wp2
          go_ret
          refine ⟨?_, hb6⟩
          have : sameS (a.map SV.l) (b.map SV.l) = false := by
            unfold sameS
            rw [Bool.and_eq_false_iff]
            right
            rw [List.all_eq_false]
            refine ⟨(a[k].l, b[k].l), ?_, by rw [Hs.out]; decide⟩
            rw [List.mem_iff_getElem]
            exact ⟨k, by simp; omega, by simp⟩
          rw [this]
          rfl
      · obtain rfl : k = a.length := by omega
        have g1 : decide ((a.length : Int) < (a.length : Int)) = false := decide_eq_false (by omega)
        go_wp2
        go_ret
        refine ⟨?_, hbr⟩
        have : sameS (a.map SV.l) (b.map SV.l) = true := by
          unfold sameS
          rw [List.length_map, List.length_map, decide_eq_true HL.out, Bool.true_and, List.all_eq_true]
          intro p hp
          obtain ⟨j, hj, rfl⟩ := List.getElem_of_mem hp
          simp only [List.length_zip, List.length_map] at hj
          rw [List.getElem_zip, List.getElem_map, List.getElem_map]
          exact Hall.out j (by omega) (by omega) (by omega)
        rw [this]
        rfl
  · have q : ((a.length : Int) != (b.length : Int)) = true := by simp; omega
    have Hs : Hid (sameS (a.map SV.l) (b.map SV.l) = false) := Lib.hid (by unfold sameS; rw [List.length_map, List.length_map, decide_eq_false hl]; rfl)
    clear hl
    go_enter Tryz.func58, Tryz.ntmps58
    go_wp2
    go_ret
    exact ⟨by rw [Hs.out]; rfl, Below.refl _ _⟩
set_option maxRecDepth 100000 in
set_option maxHeartbeats 2000000 in
theorem lay_c (A : Option Addr) (c : Nat) (S : List (SV Od)) (w : World) (h : Sl w w.heap.size A c S) (hn : S.length ≤ 65536) (ht : (layL (S.map SV.l)).length ≤ 65536) :
    Calls Tryz.prog 17 #[.slice A S.length c] w fun e w' => ∃ v, e = .returned v ∧ Own w' w.heap.size 55 v (layL (S.map SV.l)) ∧ Below w.heap.size w w' := by
  have e : S.flatMap SV.l = layL (S.map SV.l) := by unfold layL; rw [List.flatMap_def]
  have HC := Lib.hid (concat_od A c S w h hn (by rw [e]; exact ht))
  rw [e] at HC
  clear h e
  go_enter Tryz.func17, Tryz.ntmps17
  go_wp2_with fail
  refine HC.out.mono ?_
  rintro e w1 ⟨v, rfl, hO, hF⟩
  have HO := Lib.hid hO
  clear hO
  go_wp2
  go_ret
  exact ⟨v, rfl, HO.out, hF⟩
/-- foata.Normal -/
def normalB (S : List (List Od)) : Bool := validL (layL S) && sameS S (stepsL (layL S))
theorem stepsL_small {l : List Od} {L : List (SV Od)} (h : L.map SV.l = stepsL l) (hn : l.length ≤ 60000) (hl : ∀ x ∈ l, x.legs.length ≤ 10) : smallS L := by
  by_cases hv : validL l = true
  · rw [stepsL, if_pos hv] at h
    have hlen : L.length = (stepsV l).length := by rw [← h, List.length_map]
    refine ⟨?_, fun x hx => ?_⟩
    · rw [hlen, stepsV_len]
      have := (most_small l).2
      omega
    · have hm : x.l ∈ stepsV l := by rw [← h]; exact List.mem_map.2 ⟨x, hx, rfl⟩
      obtain ⟨s, hs, e⟩ := List.getElem_of_mem hm
      rw [stepsV_get hs] at e
      have hp : x.l.Perm (partP (levP l) s) := by rw [← e]; exact sortB_perm _
      refine ⟨?_, fun y hy => ?_⟩
      · rw [hp.length_eq]
        unfold partP
        rw [List.length_map]
        have := List.length_filter_le (fun p : Od × Int => decide (p.2 = (s : Int) + 1)) (levP l)
        rw [levP_len] at this
        omega
      · have := hp.mem_iff.1 hy
        obtain ⟨p, hp, rfl⟩ := List.mem_map.1 this
        refine hl _ ?_
        rw [← levP_fst l]
        exact List.mem_map.2 ⟨p, (List.mem_filter.1 hp).1, rfl⟩
  · rw [stepsL, if_neg hv] at h
    have : L = [] := List.map_eq_nil_iff.1 h
    subst this
    exact ⟨by simp, by simp⟩
set_option maxRecDepth 100000 in
set_option maxHeartbeats 4000000 in
theorem normal_c (A : Option Addr) (c : Nat) (S : List (SV Od)) (w : World) (h : Sl w w.heap.size A c S) (hS : smallS S) (ht : (layL (S.map SV.l)).length ≤ 60000) :
    Calls Tryz.prog 23 #[.slice A S.length c] w fun e w' => e = .returned (.bool (normalB (S.map SV.l))) ∧ Below w.heap.size w w' := by
  have HC := Lib.hid (lay_c A c S w h (Nat.le_trans hS.1 (by decide)) (by omega))
  have H := Lib.hid h
  have HS := Lib.hid hS
  have hlg : ∀ x ∈ layL (S.map SV.l), x.legs.length ≤ 10 := fun x hx => by
    obtain ⟨t, ht, hx⟩ := List.mem_flatten.1 hx
    obtain ⟨v, hv, rfl⟩ := List.mem_map.1 ht
    exact (hS.2 v hv).2 x hx
  have Hlg := Lib.hid hlg
  have HN := Lib.hid (show normalB (S.map SV.l) = (validL (layL (S.map SV.l)) && sameS (S.map SV.l) (stepsL (layL (S.map SV.l)))) from rfl)
  generalize normalB (S.map SV.l) = r at *
  clear h hS hlg
  generalize layL (S.map SV.l) = l at *
  go_enter Tryz.func23, Tryz.ntmps23
  go_wp2_with fail
  refine HC.out.mono ?_
  rintro e w1 ⟨v, rfl, hO, hF⟩
  obtain ⟨A1, c1, rfl, s1⟩ := hO.sl
  have hb1 := hF
  have HR := Lib.hid (right_c A1 c1 l w1 s1 (by omega))
  change Hid (Calls _ _ _ _ fun e w' => e = .returned (.bool (validL l)) ∧ Below w1.heap.size w1 w') at HR
  clear HC hO hF
  go_wp2_with fail
  refine HR.out.mono ?_
  rintro e w2 ⟨rfl, hF⟩
  have s2 := s1.later hF
  have hb2 := below_on hb1 (Nat.le_refl _) hF
  clear HR hF s1
  cases hv : validL l
  · have Hr := Lib.hid (show r = false by rw [HN.out, hv]; rfl)
    clear hv
    go_wp2
    go_ret
    exact ⟨by rw [Hr.out]; rfl, hb2⟩
  · have Hr := Lib.hid (show r = sameS (S.map SV.l) (stepsL l) by rw [HN.out, hv]; rfl)
    clear hv
    have HSt := Lib.hid (steps_c A1 c1 l w2 s2 ht Hlg.out)
    go_wp2_with fail
    refine HSt.out.mono ?_
    rintro e w3 ⟨v, L, rfl, hO, hm, hF⟩
    obtain ⟨A3, c3, rfl, s3⟩ := hO.sl
    have hb3 := below_on hb2 (Nat.le_refl _) hF
    have HE := Lib.hid (eqS_c A A3 c c3 S L w3 (H.out.later hb3) s3 HS.out (stepsL_small hm ht Hlg.out))
    rw [hm] at HE
    clear HSt hO hF hm
    go_wp2_with fail
    refine HE.out.mono ?_
    rintro e w4 ⟨rfl, hF⟩
    have hb4 := below_on hb3 (Nat.le_refl _) hF
    go_wp2
    go_ret
    exact ⟨by rw [Hr.out]; rfl, hb4⟩
end Go.Proofs.YtmbfalokkabmnaaGreat

/- order.Bytes: the walk -/
namespace Go.Proofs.YtmbfalokkabmnaaGreat
open Go.RowKit
set_option maxRecDepth 100000 in
set_option maxHeartbeats 8000000 in
theorem bytes_c (x : Od) (w : World) (hx : Okb w w.heap.size x) (hl : x.legs.length ≤ 65536) (hin : InR x) :
    Calls Tryz.prog 71 #[x.v] w fun e w' => ∃ v, e = .returned (.tuple #[v, i64 (if rightB x then 0 else 1)]) ∧ Own w' w.heap.size 5 v (if rightB x then bytesB x else []) ∧ Below w.heap.size w w' := by
  have hb1 := (Below.refl w.heap.size w).alloc (Nat.le_refl _) (.cells #[i64 x.client, i64 x.seq, i64 x.kind, .string x.acct, .string x.peer, i64 x.sum, .slice x.la x.legs.length x.lc, i64 x.period, i64 x.hold, .string x.note] 55)
  have hz1 : w.heap.size < (w.alloc (.cells #[i64 x.client, i64 x.seq, i64 x.kind, .string x.acct, .string x.peer, i64 x.sum, .slice x.la x.legs.length x.lc, i64 x.period, i64 x.hold, .string x.note] 55)).heap.size := by simp
  have k0 : (w.alloc (.cells #[i64 x.client, i64 x.seq, i64 x.kind, .string x.acct, .string x.peer, i64 x.sum, .slice x.la x.legs.length x.lc, i64 x.period, i64 x.hold, .string x.note] 55)).cell? ⟨w.heap.size, 0, none⟩ = some (i64 x.client) := cell_of_row _ w.heap.size 0 _ _ (0, 0) (heap_alloc_new w _)
  have k1 : (w.alloc (.cells #[i64 x.client, i64 x.seq, i64 x.kind, .string x.acct, .string x.peer, i64 x.sum, .slice x.la x.legs.length x.lc, i64 x.period, i64 x.hold, .string x.note] 55)).cell? ⟨w.heap.size, 1, none⟩ = some (i64 x.seq) := cell_of_row _ w.heap.size 1 _ _ (0, 0) (heap_alloc_new w _)
  have k2 : (w.alloc (.cells #[i64 x.client, i64 x.seq, i64 x.kind, .string x.acct, .string x.peer, i64 x.sum, .slice x.la x.legs.length x.lc, i64 x.period, i64 x.hold, .string x.note] 55)).cell? ⟨w.heap.size, 2, none⟩ = some (i64 x.kind) := cell_of_row _ w.heap.size 2 _ _ (0, 0) (heap_alloc_new w _)
  have k3 : (w.alloc (.cells #[i64 x.client, i64 x.seq, i64 x.kind, .string x.acct, .string x.peer, i64 x.sum, .slice x.la x.legs.length x.lc, i64 x.period, i64 x.hold, .string x.note] 55)).cell? ⟨w.heap.size, 3, none⟩ = some (.string x.acct) := cell_of_row _ w.heap.size 3 _ _ (0, 0) (heap_alloc_new w _)
  have k4 : (w.alloc (.cells #[i64 x.client, i64 x.seq, i64 x.kind, .string x.acct, .string x.peer, i64 x.sum, .slice x.la x.legs.length x.lc, i64 x.period, i64 x.hold, .string x.note] 55)).cell? ⟨w.heap.size, 4, none⟩ = some (.string x.peer) := cell_of_row _ w.heap.size 4 _ _ (0, 0) (heap_alloc_new w _)
  have k5 : (w.alloc (.cells #[i64 x.client, i64 x.seq, i64 x.kind, .string x.acct, .string x.peer, i64 x.sum, .slice x.la x.legs.length x.lc, i64 x.period, i64 x.hold, .string x.note] 55)).cell? ⟨w.heap.size, 5, none⟩ = some (i64 x.sum) := cell_of_row _ w.heap.size 5 _ _ (0, 0) (heap_alloc_new w _)
  have k6 : (w.alloc (.cells #[i64 x.client, i64 x.seq, i64 x.kind, .string x.acct, .string x.peer, i64 x.sum, .slice x.la x.legs.length x.lc, i64 x.period, i64 x.hold, .string x.note] 55)).cell? ⟨w.heap.size, 6, none⟩ = some (.slice x.la x.legs.length x.lc) := cell_of_row _ w.heap.size 6 _ _ (0, 0) (heap_alloc_new w _)
  have k7 : (w.alloc (.cells #[i64 x.client, i64 x.seq, i64 x.kind, .string x.acct, .string x.peer, i64 x.sum, .slice x.la x.legs.length x.lc, i64 x.period, i64 x.hold, .string x.note] 55)).cell? ⟨w.heap.size, 7, none⟩ = some (i64 x.period) := cell_of_row _ w.heap.size 7 _ _ (0, 0) (heap_alloc_new w _)
  have k8 : (w.alloc (.cells #[i64 x.client, i64 x.seq, i64 x.kind, .string x.acct, .string x.peer, i64 x.sum, .slice x.la x.legs.length x.lc, i64 x.period, i64 x.hold, .string x.note] 55)).cell? ⟨w.heap.size, 8, none⟩ = some (i64 x.hold) := cell_of_row _ w.heap.size 8 _ _ (0, 0) (heap_alloc_new w _)
  have k9 : (w.alloc (.cells #[i64 x.client, i64 x.seq, i64 x.kind, .string x.acct, .string x.peer, i64 x.sum, .slice x.la x.legs.length x.lc, i64 x.period, i64 x.hold, .string x.note] 55)).cell? ⟨w.heap.size, 9, none⟩ = some (.string x.note) := cell_of_row _ w.heap.size 9 _ _ (0, 0) (heap_alloc_new w _)
  have hR := Lib.hid (right_c0 x _ (Okb.later hx hb1) hl)
  unfold Od.v at hR ⊢
  go_enter Tryz.func71, Tryz.ntmps71
  go_wp2_with fail
  refine hR.out.mono ?_
  rintro e w1 ⟨rfl, hF⟩
  have k0 := (hF.cell (p := ⟨w.heap.size, 0, none⟩) hz1).trans k0
  have k1 := (hF.cell (p := ⟨w.heap.size, 1, none⟩) hz1).trans k1
  have k2 := (hF.cell (p := ⟨w.heap.size, 2, none⟩) hz1).trans k2
  have k3 := (hF.cell (p := ⟨w.heap.size, 3, none⟩) hz1).trans k3
  have k4 := (hF.cell (p := ⟨w.heap.size, 4, none⟩) hz1).trans k4
  have k5 := (hF.cell (p := ⟨w.heap.size, 5, none⟩) hz1).trans k5
  have k6 := (hF.cell (p := ⟨w.heap.size, 6, none⟩) hz1).trans k6
  have k7 := (hF.cell (p := ⟨w.heap.size, 7, none⟩) hz1).trans k7
  have k8 := (hF.cell (p := ⟨w.heap.size, 8, none⟩) hz1).trans k8
  have k9 := (hF.cell (p := ⟨w.heap.size, 9, none⟩) hz1).trans k9
  have hb2w := below_on hb1 (Nat.le_refl _) hF
  have hz1 := Nat.lt_of_lt_of_le hz1 hF.size
  clear hF hR
  by_cases hr : rightB x = true
  · rw [hr]
    have hx1 := Okb.later hx hb2w
    have f := fine_of hr
    obtain ⟨r1, r2, r3, r4, r5, r6, r7⟩ := hin
    have hfa := f.acct
    have hfp := f.peer
    have hfn := f.note
    have hfl := f.legs
    have hfe := f.each
    have HE : Hid (bytesB x = (headBs x ++ x.legs.flatMap legBs) ++ numB x.period ++ numB x.hold ++ textB x.note) := Lib.hid rfl
    have HH : Hid (headBs x = numB x.client ++ numB x.seq ++ numB x.kind ++ textB x.acct ++ textB x.peer ++ numB x.sum ++ numB x.legs.length) := Lib.hid rfl
    have l1 := numB_le r1
    have l2 := numB_le r2
    have l3 := numB_le r3
    have l4 := textB_le hfa
    have l5 := textB_le hfp
    have l6 := numB_le r4
    have l7 := numB_le (n := x.legs.length) ⟨by omega, by omega⟩
    have l8 := numB_le r5
    have l9 := numB_le r6
    have l10 := textB_le hfn
    have x1 : ∀ W, Calls Tryz.prog 96 #[i64 x.client] W fun e w' => ∃ v, e = .returned v ∧ Own w' W.heap.size 5 v (numB x.client) ∧ Below W.heap.size W w' := fun W => onum_c x.client W r1.1 r1.2
    have x2 : ∀ W, Calls Tryz.prog 96 #[i64 x.seq] W fun e w' => ∃ v, e = .returned v ∧ Own w' W.heap.size 5 v (numB x.seq) ∧ Below W.heap.size W w' := fun W => onum_c x.seq W r2.1 r2.2
    have x3 : ∀ W, Calls Tryz.prog 96 #[i64 x.kind] W fun e w' => ∃ v, e = .returned v ∧ Own w' W.heap.size 5 v (numB x.kind) ∧ Below W.heap.size W w' := fun W => onum_c x.kind W r3.1 r3.2
    have x4 : ∀ W, Calls Tryz.prog 72 #[.string x.acct] W fun e w' => ∃ v, e = .returned v ∧ Own w' W.heap.size 5 v (textB x.acct) ∧ Below W.heap.size W w' := fun W => text_c x.acct W (by omega)
    have x5 : ∀ W, Calls Tryz.prog 72 #[.string x.peer] W fun e w' => ∃ v, e = .returned v ∧ Own w' W.heap.size 5 v (textB x.peer) ∧ Below W.heap.size W w' := fun W => text_c x.peer W (by omega)
    have x6 : ∀ W, Calls Tryz.prog 70 #[i64 x.sum] W fun e w' => ∃ v, e = .returned v ∧ Own w' W.heap.size 5 v (numB x.sum) ∧ Below W.heap.size W w' := fun W => num_c x.sum W r4.1 r4.2
    have x7 : ∀ W, Calls Tryz.prog 96 #[i64 x.legs.length] W fun e w' => ∃ v, e = .returned v ∧ Own w' W.heap.size 5 v (numB x.legs.length) ∧ Below W.heap.size W w' := fun W => onum_c x.legs.length W (by omega) (by omega)
    have x8 : ∀ W, Calls Tryz.prog 96 #[i64 x.period] W fun e w' => ∃ v, e = .returned v ∧ Own w' W.heap.size 5 v (numB x.period) ∧ Below W.heap.size W w' := fun W => onum_c x.period W r5.1 r5.2
    have x9 : ∀ W, Calls Tryz.prog 96 #[i64 x.hold] W fun e w' => ∃ v, e = .returned v ∧ Own w' W.heap.size 5 v (numB x.hold) ∧ Below W.heap.size W w' := fun W => onum_c x.hold W r6.1 r6.2
    have x10 : ∀ W, Calls Tryz.prog 72 #[.string x.note] W fun e w' => ∃ v, e = .returned v ∧ Own w' W.heap.size 5 v (textB x.note) ∧ Below W.heap.size W w' := fun W => text_c x.note W (by omega)
    clear r1 r2 r3 r4 r5 r6 hfa hfp hfn f
    generalize numB x.client = n1 at *
    generalize numB x.seq = n2 at *
    generalize numB x.kind = n3 at *
    generalize textB x.acct = n4 at *
    generalize textB x.peer = n5 at *
    generalize numB x.sum = n6 at *
    generalize numB x.legs.length = n7 at *
    generalize numB x.period = n8 at *
    generalize numB x.hold = n9 at *
    generalize textB x.note = n10 at *
    have h0 := (Below.refl w1.heap.size w1).drew
    have hSS : ∀ V, Below w1.heap.size w1 V → (fun V : World => Below w1.heap.size w1 V ∧ V.cell? ⟨w.heap.size, 0, none⟩ = some (i64 x.client) ∧ V.cell? ⟨w.heap.size, 1, none⟩ = some (i64 x.seq) ∧ V.cell? ⟨w.heap.size, 2, none⟩ = some (i64 x.kind) ∧ V.cell? ⟨w.heap.size, 3, none⟩ = some (.string x.acct) ∧ V.cell? ⟨w.heap.size, 4, none⟩ = some (.string x.peer) ∧ V.cell? ⟨w.heap.size, 5, none⟩ = some (i64 x.sum) ∧ V.cell? ⟨w.heap.size, 6, none⟩ = some (.slice x.la x.legs.length x.lc)) V := fun V h => ⟨h, (h.cell (p := ⟨w.heap.size, 0, none⟩) hz1).trans k0, (h.cell (p := ⟨w.heap.size, 1, none⟩) hz1).trans k1, (h.cell (p := ⟨w.heap.size, 2, none⟩) hz1).trans k2, (h.cell (p := ⟨w.heap.size, 3, none⟩) hz1).trans k3, (h.cell (p := ⟨w.heap.size, 4, none⟩) hz1).trans k4, (h.cell (p := ⟨w.heap.size, 5, none⟩) hz1).trans k5, (h.cell (p := ⟨w.heap.size, 6, none⟩) hz1).trans k6⟩
    go_wp2_with fail
    go_region_held3 (fun V => Below w1.heap.size w1 V ∧ V.cell? ⟨w.heap.size, 0, none⟩ = some (i64 x.client) ∧ V.cell? ⟨w.heap.size, 1, none⟩ = some (i64 x.seq) ∧ V.cell? ⟨w.heap.size, 2, none⟩ = some (i64 x.kind) ∧ V.cell? ⟨w.heap.size, 3, none⟩ = some (.string x.acct) ∧ V.cell? ⟨w.heap.size, 4, none⟩ = some (.string x.peer) ∧ V.cell? ⟨w.heap.size, 5, none⟩ = some (i64 x.sum) ∧ V.cell? ⟨w.heap.size, 6, none⟩ = some (.slice x.la x.legs.length x.lc)) (first | exact hSS _ h0 | exact hSS _ (by assumption) | exact hSS _ (hb7.alloc hb7.size _))
      (first
        | (go_at_call 96; with_reducible refine (x1 _).mono ?_; rintro e u1 ⟨v, rfl, hO, hF⟩; obtain ⟨A1, c1, rfl, hs1⟩ := hO.sl; have hb1 := below_on h0 (Nat.le_refl _) hF; clear hO hF)
        | (go_at_call 96; with_reducible refine (x2 _).mono ?_; rintro e u2 ⟨v, rfl, hO, hF⟩; obtain ⟨A2, c2, rfl, hs2⟩ := hO.sl; have hb2 := below_on hb1 (Nat.le_refl _) hF; have hs1 := hs1.later hF; clear hO hF)
        | (go_at_call 96; with_reducible refine (x3 _).mono ?_; rintro e u3 ⟨v, rfl, hO, hF⟩; obtain ⟨A3, c3, rfl, hs3⟩ := hO.sl; have hb3 := below_on hb2 (Nat.le_refl _) hF; have hs1 := hs1.later hF; have hs2 := hs2.later hF; clear hO hF)
        | (go_at_call 72; with_reducible refine (x4 _).mono ?_; rintro e u4 ⟨v, rfl, hO, hF⟩; obtain ⟨A4, c4, rfl, hs4⟩ := hO.sl; have hb4 := below_on hb3 (Nat.le_refl _) hF; have hs1 := hs1.later hF; have hs2 := hs2.later hF; have hs3 := hs3.later hF; clear hO hF)
        | (go_at_call 72; with_reducible refine (x5 _).mono ?_; rintro e u5 ⟨v, rfl, hO, hF⟩; obtain ⟨A5, c5, rfl, hs5⟩ := hO.sl; have hb5 := below_on hb4 (Nat.le_refl _) hF; have hs1 := hs1.later hF; have hs2 := hs2.later hF; have hs3 := hs3.later hF; have hs4 := hs4.later hF; clear hO hF)
        | (go_at_call 70; with_reducible refine (x6 _).mono ?_; rintro e u6 ⟨v, rfl, hO, hF⟩; obtain ⟨A6, c6, rfl, hs6⟩ := hO.sl; have hb6 := below_on hb5 (Nat.le_refl _) hF; have hs1 := hs1.later hF; have hs2 := hs2.later hF; have hs3 := hs3.later hF; have hs4 := hs4.later hF; have hs5 := hs5.later hF; clear hO hF)
        | (go_at_call 96; with_reducible refine (x7 _).mono ?_; rintro e u7 ⟨v, rfl, hO, hF⟩; obtain ⟨A7, c7, rfl, hs7⟩ := hO.sl; have hb7 := below_on hb6 (Nat.le_refl _) hF; have hs1 := hs1.later hF; have hs2 := hs2.later hF; have hs3 := hs3.later hF; have hs4 := hs4.later hF; have hs5 := hs5.later hF; have hs6 := hs6.later hF; clear hO hF)
        | (go_at_call 95; refine (concat_byte _ _ [(⟨A1, c1, n1⟩ : SV UInt8), ⟨A2, c2, n2⟩, ⟨A3, c3, n3⟩, ⟨A4, c4, n4⟩, ⟨A5, c5, n5⟩, ⟨A6, c6, n6⟩, ⟨A7, c7, n7⟩] _ (own_lit (w := u7) (base := u7.heap.size) 25 #[.slice A1 n1.length c1, .slice A2 n2.length c2, .slice A3 n3.length c3, .slice A4 n4.length c4, .slice A5 n5.length c5, .slice A6 n6.length c6, .slice A7 n7.length c7] [(⟨A1, c1, n1⟩ : SV UInt8), ⟨A2, c2, n2⟩, ⟨A3, c3, n3⟩, ⟨A4, c4, n4⟩, ⟨A5, c5, n5⟩, ⟨A6, c6, n6⟩, ⟨A7, c7, n7⟩] (Nat.le_refl _) rfl (by simp) (by intro y hy; simp only [List.mem_cons, List.not_mem_nil, or_false] at hy; rcases hy with rfl | rfl | rfl | rfl | rfl | rfl | rfl <;> (first | exact hs1 | exact hs2 | exact hs3 | exact hs4 | exact hs5 | exact hs6 | exact hs7))).sl_of (by simp) (by simp; omega)).mono ?_; rintro e uc ⟨vc, rfl, hOc, hF⟩; have hbc := below_on (hb7.alloc hb7.size _) (Nat.le_refl _) hF; have hOc := hOc.mono (base' := w1.heap.size) (Nat.le_trans hb7.size (by simp)); clear hF))
    rename_i hh
    have eH : [(⟨A1, c1, n1⟩ : SV UInt8), ⟨A2, c2, n2⟩, ⟨A3, c3, n3⟩, ⟨A4, c4, n4⟩, ⟨A5, c5, n5⟩, ⟨A6, c6, n6⟩, ⟨A7, c7, n7⟩].flatMap SV.l = n1 ++ n2 ++ n3 ++ n4 ++ n5 ++ n6 ++ n7 := by simp
    rw [eH] at hOc
    have lH : (n1 ++ n2 ++ n3 ++ n4 ++ n5 ++ n6 ++ n7).length ≤ 770 := by simp; omega
    generalize n1 ++ n2 ++ n3 ++ n4 ++ n5 ++ n6 ++ n7 = H at *
    have k5 := (hbc.cell (p := ⟨w.heap.size, 6, none⟩) hz1).trans k6
    have k7 := (hbc.cell (p := ⟨w.heap.size, 7, none⟩) hz1).trans k7
    have k8 := (hbc.cell (p := ⟨w.heap.size, 8, none⟩) hz1).trans k8
    have k9 := (hbc.cell (p := ⟨w.heap.size, 9, none⟩) hz1).trans k9
    clear hh hSS h0 hb1 hb3 hb4 hb5 hb6 hb7 hs1 hs2 hs3 hs4 hs5 hs6 hs7 x1 x2 x3 x4 x5 x6 x7 l1 l2 l3 l4 l5 l6 l7 eH
    go_wp2_with fail
    have hlg : Sl uc uc.heap.size x.la x.lc x.legs := by obtain ⟨_, _, _, q⟩ := hx1; exact q.later hbc
    go_loopw [4, 39] (fun v i wr => ∃ k : Nat, i = i64 k ∧ k ≤ x.legs.length ∧ Own wr w1.heap.size 5 v (H ++ (x.legs.take k).flatMap legBs) ∧ Below uc.heap.size uc wr) (fun _ i _ => x.legs.length - (intOf i).toNat)
    case atStart => exact ⟨0, rfl, by omega, by simpa using hOc, Below.refl _ _⟩
    case round =>
      obtain ⟨k, rfl, hk, hO, hB⟩ := hrel
      clear hOc
      have lP := legs_le hfe k r7 hfl
      by_cases hlt : k < x.legs.length
      · obtain ⟨b, ob, hA, hbb, hsz, e0, e1⟩ := (hlg.later hB).leg hlt
        have hst := flat_step hlt
        have hac := hfe x.legs[k] (List.getElem_mem hlt)
        have hsm := r7 x.legs[k] (List.getElem_mem hlt)
        obtain ⟨P, hP⟩ : ∃ P, H ++ (x.legs.take k).flatMap legBs = P := ⟨_, rfl⟩
        have lP2 : P.length ≤ 2000 := by rw [← hP, List.length_append]; omega
        have HP := Lib.hid (show H ++ (x.legs.take (k + 1)).flatMap legBs = P ++ (textB x.legs[k].acct ++ numB x.legs[k].sum) by rw [hst, ← List.append_assoc, hP]; rfl)
        rw [hP] at hO
        have hO2 := hO
        obtain ⟨AP, cP, rfl, hsP⟩ := hO.sl
        have m1 := textB_le hac
        have m2 := numB_le hsm
        have y1 : ∀ W, Calls Tryz.prog 72 #[.string x.legs[k].acct] W fun e w' => ∃ v, e = .returned v ∧ Own w' W.heap.size 5 v (textB x.legs[k].acct) ∧ Below W.heap.size W w' := fun W => text_c _ W (by omega)
        have y2 : ∀ W, Calls Tryz.prog 70 #[i64 x.legs[k].sum] W fun e w' => ∃ v, e = .returned v ∧ Own w' W.heap.size 5 v (numB x.legs[k].sum) ∧ Below W.heap.size W w' := fun W => num_c _ W hsm.1 hsm.2
        generalize textB x.legs[k].acct = t1 at *
        generalize numB x.legs[k].sum = t2 at *
        have hB7 := (Below.refl wr.heap.size wr).alloc (Nat.le_refl _) (.cells #[.string x.legs[k].acct, i64 x.legs[k].sum] 98)
        have d0 : (wr.alloc (.cells #[.string x.legs[k].acct, i64 x.legs[k].sum] 98)).cell? ⟨wr.heap.size, 0, none⟩ = some (.string x.legs[k].acct) := by simp
        have d1 : (wr.alloc (.cells #[.string x.legs[k].acct, i64 x.legs[k].sum] 98)).cell? ⟨wr.heap.size, 1, none⟩ = some (i64 x.legs[k].sum) := by simp
        have hsP := hsP.later hB7
        have hlz : wr.heap.size < (wr.alloc (.cells #[.string x.legs[k].acct, i64 x.legs[k].sum] 98)).heap.size := by simp
        rw [hA]
        have HB := Lib.hid hB
        have hw1 : w1.heap.size ≤ wr.heap.size := Nat.le_trans hbc.size hB.size
        clear hP hst hac hsm hO hA hsz hB
        go_wp2_with fail
        generalize wr.alloc (.cells #[.string x.legs[k].acct, i64 x.legs[k].sum] 98) = W7 at *
        have h0 := (Below.refl W7.heap.size W7).drew
        have hsP := hsP.later h0
        have hSS : ∀ V, Below W7.heap.size W7 V → (fun V : World => Below W7.heap.size W7 V ∧ V.cell? ⟨wr.heap.size, 0, none⟩ = some (.string x.legs[k].acct) ∧ V.cell? ⟨wr.heap.size, 1, none⟩ = some (i64 x.legs[k].sum)) V := fun V h => ⟨h, (h.cell (p := ⟨wr.heap.size, 0, none⟩) hlz).trans d0, (h.cell (p := ⟨wr.heap.size, 1, none⟩) hlz).trans d1⟩
        go_region_held3 (fun V => Below W7.heap.size W7 V ∧ V.cell? ⟨wr.heap.size, 0, none⟩ = some (.string x.legs[k].acct) ∧ V.cell? ⟨wr.heap.size, 1, none⟩ = some (i64 x.legs[k].sum)) (first | exact hSS _ h0 | exact hSS _ (by assumption) | exact hSS _ (hb2.alloc hb2.size _))
          (first
            | (go_at_call 72; with_reducible refine (y1 _).mono ?_; rintro e u1 ⟨v, rfl, hO, hF⟩; obtain ⟨A1, c1, rfl, hs1⟩ := hO.sl; have hb1 := below_on h0 (Nat.le_refl _) hF; have hsP := hsP.later hF; clear hO hF)
            | (go_at_call 70; with_reducible refine (y2 _).mono ?_; rintro e u2 ⟨v, rfl, hO, hF⟩; obtain ⟨A2, c2, rfl, hs2⟩ := hO.sl; have hb2 := below_on hb1 (Nat.le_refl _) hF; have hsP := hsP.later hF; have hs1 := hs1.later hF; clear hO hF)
            | (go_at_call 95; refine (concat_byte _ _ [(⟨AP, cP, P⟩ : SV UInt8), ⟨A1, c1, t1⟩, ⟨A2, c2, t2⟩] _ (own_lit (w := u2) (base := u2.heap.size) 25 #[.slice AP P.length cP, .slice A1 t1.length c1, .slice A2 t2.length c2] [(⟨AP, cP, P⟩ : SV UInt8), ⟨A1, c1, t1⟩, ⟨A2, c2, t2⟩] (Nat.le_refl _) rfl (by simp) (by intro y hy; simp only [List.mem_cons, List.not_mem_nil, or_false] at hy; rcases hy with rfl | rfl | rfl <;> (first | exact hsP | exact hs1 | exact hs2))).sl_of (by simp) (by simp; omega)).mono ?_; rintro e uc ⟨vc, rfl, hOc, hF⟩; have hbc := below_on (hb2.alloc hb2.size _) (Nat.le_refl _) hF; have hOc := hOc.mono (base' := W7.heap.size) (Nat.le_trans hb2.size (by simp)); clear hF))
        have eP : [(⟨AP, cP, P⟩ : SV UInt8), ⟨A1, c1, t1⟩, ⟨A2, c2, t2⟩].flatMap SV.l = P ++ (t1 ++ t2) := by simp
        rw [eP] at hOc
        go_wp2
        go_roundw
        case rel => exact ⟨k + 1, by go_num, by omega, by rw [HP.out]; exact hOc.mono (Nat.le_trans hw1 (Nat.le_of_lt hlz)), below_on (below_on HB.out (Nat.le_refl _) hB7) (Nat.le_refl _) hbc⟩
        case measure => simp [intOf]; omega
      · obtain rfl : k = x.legs.length := by omega
        rw [List.take_length] at hO lP
        have HE2 := HE.out
        rw [HH.out] at HE2
        have HE := Lib.hid HE2
        have HB := Lib.hid (below_on hbc (Nat.le_refl _) hB)
        have k7 := (hB.cell (World.block_lt_of_cell? _ _ k7)).trans k7
        have k8 := (hB.cell (World.block_lt_of_cell? _ _ k8)).trans k8
        have k9 := (hB.cell (World.block_lt_of_cell? _ _ k9)).trans k9
        obtain ⟨P, hP⟩ : ∃ P, H ++ x.legs.flatMap legBs = P := ⟨_, rfl⟩
        have lP2 : P.length ≤ 2000 := by rw [← hP, List.length_append]; omega
        rw [hP] at hO HE
        obtain ⟨AP, cP, rfl, hsP⟩ := hO.sl
        have hw1 : w1.heap.size ≤ wr.heap.size := HB.out.size
        have hz2 : w.heap.size < wr.heap.size := World.block_lt_of_cell? _ _ k7
        clear hO hP HE2 hlg hB
        go_wp2_with fail
        have h0 := (Below.refl wr.heap.size wr).drew
        have hsP := hsP.later h0
        have hSS : ∀ V, Below wr.heap.size wr V → (fun V : World => Below wr.heap.size wr V ∧ V.cell? ⟨w.heap.size, 7, none⟩ = some (i64 x.period) ∧ V.cell? ⟨w.heap.size, 8, none⟩ = some (i64 x.hold) ∧ V.cell? ⟨w.heap.size, 9, none⟩ = some (.string x.note)) V := fun V h => ⟨h, (h.cell (p := ⟨w.heap.size, 7, none⟩) hz2).trans k7, (h.cell (p := ⟨w.heap.size, 8, none⟩) hz2).trans k8, (h.cell (p := ⟨w.heap.size, 9, none⟩) hz2).trans k9⟩
        go_region_held3 (fun V => Below wr.heap.size wr V ∧ V.cell? ⟨w.heap.size, 7, none⟩ = some (i64 x.period) ∧ V.cell? ⟨w.heap.size, 8, none⟩ = some (i64 x.hold) ∧ V.cell? ⟨w.heap.size, 9, none⟩ = some (.string x.note)) (first | exact hSS _ h0 | exact hSS _ (by assumption) | exact hSS _ (hb3.alloc hb3.size _))
          (first
            | (go_at_call 96; with_reducible refine (x8 _).mono ?_; rintro e u1 ⟨v, rfl, hO, hF⟩; obtain ⟨A1, c1, rfl, hs1⟩ := hO.sl; have hb1 := below_on h0 (Nat.le_refl _) hF; have hsP := hsP.later hF; clear hO hF)
            | (go_at_call 96; with_reducible refine (x9 _).mono ?_; rintro e u2 ⟨v, rfl, hO, hF⟩; obtain ⟨A2, c2, rfl, hs2⟩ := hO.sl; have hb2 := below_on hb1 (Nat.le_refl _) hF; have hsP := hsP.later hF; have hs1 := hs1.later hF; clear hO hF)
            | (go_at_call 72; with_reducible refine (x10 _).mono ?_; rintro e u3 ⟨v, rfl, hO, hF⟩; obtain ⟨A3, c3, rfl, hs3⟩ := hO.sl; have hb3 := below_on hb2 (Nat.le_refl _) hF; have hsP := hsP.later hF; have hs1 := hs1.later hF; have hs2 := hs2.later hF; clear hO hF)
            | (go_at_call 95; refine (concat_byte _ _ [(⟨AP, cP, P⟩ : SV UInt8), ⟨A1, c1, n8⟩, ⟨A2, c2, n9⟩, ⟨A3, c3, n10⟩] _ (own_lit (w := u3) (base := u3.heap.size) 25 #[.slice AP P.length cP, .slice A1 n8.length c1, .slice A2 n9.length c2, .slice A3 n10.length c3] [(⟨AP, cP, P⟩ : SV UInt8), ⟨A1, c1, n8⟩, ⟨A2, c2, n9⟩, ⟨A3, c3, n10⟩] (Nat.le_refl _) rfl (by simp) (by intro y hy; simp only [List.mem_cons, List.not_mem_nil, or_false] at hy; rcases hy with rfl | rfl | rfl | rfl <;> (first | exact hsP | exact hs1 | exact hs2 | exact hs3))).sl_of (by simp) (by simp; omega)).mono ?_; rintro e uc ⟨vc, rfl, hOc, hF⟩; have hbc := below_on (hb3.alloc hb3.size _) (Nat.le_refl _) hF; have hOc := hOc.mono (base' := wr.heap.size) (Nat.le_trans hb3.size (by simp)); clear hF))
        have eP : [(⟨AP, cP, P⟩ : SV UInt8), ⟨A1, c1, n8⟩, ⟨A2, c2, n9⟩, ⟨A3, c3, n10⟩].flatMap SV.l = P ++ n8 ++ n9 ++ n10 := by simp
        rw [eP] at hOc
        go_wp2
        go_ret2
        exact ⟨_, rfl, by show Own _ w.heap.size 5 _ (bytesB x); rw [HE.out]; exact hOc.mono (Nat.le_trans hb2w.size hw1), below_on (below_on hb2w (Nat.le_refl _) HB.out) (Nat.le_refl _) hbc⟩
  · have hr : rightB x = false := by simpa using hr
    rw [hr]
    clear hr
    go_wp2
    go_ret2
    exact ⟨_, rfl, Own.nil_ _ _ _, hb2w⟩
end Go.Proofs.YtmbfalokkabmnaaGreat

/- foata.write: the plain part -/
namespace Go.Proofs.YtmbfalokkabmnaaGreat
open Go.RowKit
theorem SlS.byte_ {w : World} {S : Nat → Prop} {c : Nat} {A : Option Addr} {l : List UInt8} (h : SlS w S A c l) {k : Nat} (hk : k < l.length) : ∃ b o, A = some ⟨b, o, none⟩ ∧ S b ∧ w.cell? ⟨b, o + k, none⟩ = some (.int .u8 (l[k].toNat : Int)) := by
  obtain ⟨b, o, hA, hb, _, hc⟩ := h.at_ hk
  have h0 := hc 0 _ rfl
  rw [show k * Enc.size UInt8 + 0 = k from Nat.mul_one k] at h0
  exact ⟨b, o, hA, hb, h0⟩
/-- string(b) -/
theorem conv_str {w : World} {S : Nat → Prop} {A : Option Addr} {c : Nat} {l : List UInt8} (h : SlS w S A c l) (hp : 0 < l.length) : (convert 25 9 (.slice A l.length c)).run Tryz.prog w = .ok (.string ⟨l.toArray⟩) w := by
  obtain ⟨b, o, rfl, _, _⟩ := h.byte_ hp
  refine run_convert_bytes_back w _ _ 5 ⟨b, o, none⟩ c l (by kernel_rfl) (by kernel_rfl) (by kernel_rfl) fun j hj => ?_
  obtain ⟨b', o', hA, _, h0⟩ := h.byte_ hj
  injection hA with hA
  injection hA with hA1 hA2
  subst hA1 hA2
  have hadd : (⟨b, o, none⟩ : Addr).add j = ⟨b, o + j, none⟩ := by unfold Addr.add; split <;> simp_all
  rw [hadd]
  exact h0
/-- the bytes of an order, as a text -/
def wrO (x : Od) : List UInt8 := textB ⟨(bytesB x).toArray⟩
def wrS (s : List Od) : List UInt8 := numB s.length ++ s.flatMap wrO
def wrL (S : List (List Od)) : List UInt8 := numB S.length ++ S.flatMap wrS
def okW (S : List (List Od)) : Bool := S.all fun s => s.all rightB
theorem wrO_le {x : Od} (h : rightB x = true) (hr : InR x) : (wrO x).length ≤ 60010 := by
  have h1 := bytesB_le h hr
  unfold wrO textB
  have h2 : (ByteArray.mk (bytesB x).toArray).size = (bytesB x).length := rfl
  have := numB_le (n := ((ByteArray.mk (bytesB x).toArray).size : Int)) ⟨by omega, by rw [h2]; omega⟩
  rw [List.length_append]
  have h3 : (ByteArray.mk (bytesB x).toArray).data.toList.length = (bytesB x).length := rfl
  omega
theorem flat_next {α : Type} {l : List α} {f : α → List UInt8} {k : Nat} (hk : k < l.length) : (l.take (k + 1)).flatMap f = (l.take k).flatMap f ++ f l[k] := by
  rw [List.take_succ_eq_append_getElem hk, List.flatMap_append]
  simp
theorem all_next {α : Type} {l : List α} {f : α → Bool} {k : Nat} (hk : k < l.length) : (l.take (k + 1)).all f = ((l.take k).all f && f l[k]) := by
  rw [List.take_succ_eq_append_getElem hk, List.all_append]
  simp
theorem okW_no {S : List (List Od)} {s : List Od} {x : Od} (hs : s ∈ S) (hx : x ∈ s) (h : rightB x = false) : okW S = false := by
  unfold okW
  rw [List.all_eq_false]
  exact ⟨s, hs, by rw [Bool.not_eq_true, List.all_eq_false]; exact ⟨x, hx, by rw [h]; simp⟩⟩
theorem bytesB_pos (x : Od) (_h : rightB x = true) (_hr : InR x) : 0 < (bytesB x).length := by
  unfold bytesB
  rw [List.length_append, List.length_append, List.length_append]
  have : 0 < (textB x.note).length := by
    unfold textB
    rw [List.length_append]
    have : 0 < (numB x.note.size).length := Lib.uvarint_pos _
    omega
  omega
theorem Own.sl_ot {w w' : World} {B base : Nat} {t u : TypeId} {v a : Value} {l la : List UInt8} (h : Own w' B t v l) (ha : Own w base u a la) (hB : w.heap.size ≤ B) : ∃ A c, v = .slice A l.length c ∧ SlS w' (Oth w' a) A c l := by
  obtain ⟨⟨h1, h2⟩, h3⟩ := h
  rcases h2 with ⟨rfl, h0⟩ | ⟨g, cap, cur, rfl, hg, hh, hn, hm, hz, ht⟩
  · have : l = [] := List.length_eq_zero_iff.1 h0
    subst this
    exact ⟨none, 0, rfl, SlS.nil_ _ _⟩
  · refine ⟨_, _, rfl, hn, hm, fun _ => ⟨g, 0, rfl, ⟨(Array.getElem?_eq_some_iff.1 hh).1, fun hv => ?_⟩, fun j u hu => ?_⟩, fun _ _ => trivial⟩
    · have := (ha.1.lt g hv.symm).2
      omega
    · rw [cell_of_row w' g (0 + j) cur t (0, 0) hh, Nat.zero_add]
      rw [← ht, List.getElem?_take] at hu
      split at hu
      · rw [← hu]; simp
      · cases hu
def errW (S : List (List Od)) : Int := if okW S then 0 else 1
def outW (S : List (List Od)) : List UInt8 := if okW S then wrL S else []
theorem errW_ok {S : List (List Od)} (h : okW S = true) : errW S = 0 := by unfold errW; rw [if_pos h]
theorem errW_no {S : List (List Od)} (h : okW S = false) : errW S = 1 := by unfold errW; rw [h]; rfl
theorem outW_ok {S : List (List Od)} (h : okW S = true) : outW S = wrL S := by unfold outW; rw [if_pos h]
theorem outW_no {S : List (List Od)} (h : okW S = false) : outW S = [] := by unfold outW; rw [h]; rfl
end Go.Proofs.YtmbfalokkabmnaaGreat

/- foata.write -/
namespace Go.Proofs.YtmbfalokkabmnaaGreat
open Go.RowKit
set_option maxRecDepth 100000 in
set_option maxHeartbeats 8000000 in
theorem write_c (A : Option Addr) (c : Nat) (S : List (SV Od)) (w : World) (h : Sl w w.heap.size A c S) (hn : S.length ≤ 200) (hx : ∀ x ∈ S, x.l.length ≤ 200 ∧ ∀ y ∈ x.l, y.legs.length ≤ 10 ∧ InR y) :
    Calls Tryz.prog 38 #[.slice A S.length c] w fun e w' => ∃ v, e = .returned (.tuple #[v, i64 (errW (S.map SV.l))]) ∧ Own w' w.heap.size 5 v (outW (S.map SV.l)) ∧ Below w.heap.size w w' := by
  have HN := Lib.hid (fun (n : Nat) (W : World) (h : n ≤ 200) => num_c n W (by omega) (by omega))
  have Hx := Lib.hid hx
  have Hs := Lib.hid h
  have hcap : S.length ≤ c := h.1
  obtain ⟨E, hE⟩ : ∃ E, errW (S.map SV.l) = E := ⟨_, rfl⟩
  obtain ⟨U, hU⟩ : ∃ U, outW (S.map SV.l) = U := ⟨_, rfl⟩
  rw [hE, hU]
  have HE := Lib.hid hE
  have HU := Lib.hid hU
  clear hx h hE hU
  go_enter Tryz.func38, Tryz.ntmps38
  go_wp2_with fail
  refine (HN.out S.length w hn).mono ?_
  rintro e w1 ⟨v, rfl, hO, hF⟩
  have HO := Lib.hid hO
  have HL0 := Lib.hid (numB_le (n := S.length) ⟨by omega, by omega⟩)
  clear hO
  go_wp2_with fail
  go_loopw [4, 16] (fun b i wr => ∃ (q : Nat) (B : List UInt8), i = i64 q ∧ q ≤ S.length ∧ B = numB S.length ++ ((S.take q).map SV.l).flatMap wrS ∧ B.length ≤ 10 + q * 14000010 ∧ okW ((S.take q).map SV.l) = true ∧ Own wr w.heap.size 5 b B ∧ Below w.heap.size w wr) (fun _ i _ => S.length - (intOf i).toNat)
  case atStart => exact ⟨0, _, rfl, Nat.zero_le _, by simp, by have := HL0.out; omega, rfl, HO.out, hF⟩
  case round =>
    clear hF
    obtain ⟨q, B, rfl, hq, hB, hBl, hok, hO, hb⟩ := hrel
    have HB := Lib.hid hB
    have Hok := Lib.hid hok
    have HO := Lib.hid hO
    have HBl := Lib.hid hBl
    clear hB hok hO hBl
    by_cases hlt : q < S.length
    · have g1 : decide ((q : Int) < (S.length : Int)) = true := decide_eq_true (by omega)
      have g2 : decide (q < S.length) = true := decide_eq_true hlt
      have i0 : (0 : Int) ≤ (q : Int) := by omega
      have i1 : (q : Int) < (S.length : Int) := by omega
      have hx1 := Hx.out _ (List.getElem_mem hlt)
      have Hmem := Lib.hid (List.getElem_mem hlt)
      have Hne := Lib.hid (show ((S.take (q + 1)).map SV.l).flatMap wrS = ((S.take q).map SV.l).flatMap wrS ++ wrS S[q].l by rw [List.take_succ_eq_append_getElem hlt, List.map_append, List.flatMap_append]; rw [List.map_cons, List.map_nil, List.flatMap_cons, List.flatMap_nil, List.append_nil])
      have Hnk := Lib.hid (show okW ((S.take (q + 1)).map SV.l) = (okW ((S.take q).map SV.l) && S[q].l.all rightB) by unfold okW; rw [List.take_succ_eq_append_getElem hlt, List.map_append, List.all_append]; rw [List.map_cons, List.map_nil, List.all_cons, List.all_nil, Bool.and_true])
      obtain ⟨b6, o6, rfl, _, kx, p6⟩ := Hs.out.sv hlt
      have p6 := (hb.cell (World.block_lt_of_cell? _ _ p6)).trans p6
      obtain ⟨X, hX⟩ : ∃ X, S[q] = X := ⟨_, rfl⟩
      rw [hX] at hx1 Hne Hnk Hmem kx p6
      obtain ⟨A6, hA6⟩ : ∃ A6, X.a = A6 := ⟨_, rfl⟩
      rw [hA6] at kx p6
      have Hkx := Lib.hid kx
      have hXl := hx1.1
      have hXc : X.l.length ≤ X.c := kx.1
      have HXg := Lib.hid hx1.2
      clear hx1 hX hA6 kx
      go_wp2_with fail
      refine (HN.out X.l.length _ hXl).mono ?_
      rintro e w2 ⟨v, rfl, hO2, hF⟩
      obtain ⟨A2, c2, hv, hs2⟩ := hO2.sl_ot HO.out (Nat.le_refl _)
      subst hv
      have HO2 := Lib.hid (HO.out.later hF)
      have HS2 := Lib.hid hs2
      have hb2 := hb.trans (hF.mono hb.size)
      have HL2 := Lib.hid (numB_le (n := X.l.length) ⟨by omega, by omega⟩)
      clear hO2 hF hs2 hb p6
      go_wp2_with (at_builtin; refine wpList_append_slice rfl (some 24) (.tmp 20) (.tmp 23) 25 rfl rfl (.int .u8 0) 1 Tryz.underlying25 inf_byte rfl (by decide) (by decide) rfl HO2.out _ _ _ (numB X.l.length) rfl rfl HS2.out (by have := HBl.out; have := HL2.out; omega) hb2.size ?_; intro v3 w3 hO3 hg3 hat3)
      have hb3 := hb2.trans (HO2.out.below hg3 (Nat.le_refl _) hb2.size)
      have HO3 := Lib.hid hO3
      clear hO3 hg3 hat3
      go_loopw [4, 27] (fun b j wq => ∃ (m : Nat) (D : List UInt8), j = i64 m ∧ m ≤ X.l.length ∧ D = B ++ numB X.l.length ++ (X.l.take m).flatMap wrO ∧ D.length ≤ 20 + q * 14000010 + m * 60010 ∧ (X.l.take m).all rightB = true ∧ Own wq w.heap.size 5 b D ∧ Below w.heap.size w wq) (fun _ j _ => X.l.length - (intOf j).toNat)
      case atStart => exact ⟨0, _, rfl, Nat.zero_le _, by simp, by rw [List.length_append]; have := HBl.out; have := HL2.out; omega, rfl, HO3.out, hb3⟩
      case round =>
        clear hb2 hb3 HO3 HO2 HS2
        obtain ⟨m, D, rfl, hm, hD, hDl, hok, hO, hb⟩ := hrel
        have HD := Lib.hid hD
        have Hokm := Lib.hid hok
        have HO := Lib.hid hO
        have HDl := Lib.hid hDl
        clear hD hok hO hDl
        by_cases hml : m < X.l.length
        · have g3 : decide ((m : Int) < (X.l.length : Int)) = true := decide_eq_true (by omega)
          have g4 : decide (m < X.l.length) = true := decide_eq_true hml
          have j0 : (0 : Int) ≤ (m : Int) := by omega
          have j1 : (m : Int) < (X.l.length : Int) := by omega
          obtain ⟨bx, ox, rfl, _, hoky, d0, d1, d2, d3, d4, d5, d6, d7, d8, d9⟩ := (SlS.later Hkx.out hb).od hml
          have hy1 := HXg.out _ (List.getElem_mem hml)
          have Hym := Lib.hid (List.getElem_mem hml)
          have Hfn := Lib.hid (flat_next (f := wrO) hml)
          have Han := Lib.hid (all_next (f := rightB) hml)
          obtain ⟨y, hy⟩ : ∃ y, X.l[m] = y := ⟨_, rfl⟩
          rw [hy] at hoky d0 d1 d2 d3 d4 d5 d6 d7 d8 d9 hy1 Hym Hfn Han
          have hba := (Below.refl wr.heap.size wr).alloc (Nat.le_refl _) (.cells #[i64 y.client, i64 y.seq, i64 y.kind, .string y.acct, .string y.peer, i64 y.sum, .slice y.la y.legs.length y.lc, i64 y.period, i64 y.hold, .string y.note] 55)
          have hbb := hb.trans (hba.mono hb.size)
          have Hob := Lib.hid (HO.out.later hba)
          have HBy := Lib.hid (bytes_c y (wr.alloc (.cells #[i64 y.client, i64 y.seq, i64 y.kind, .string y.acct, .string y.peer, i64 y.sum, .slice y.la y.legs.length y.lc, i64 y.period, i64 y.hold, .string y.note] 55)) (Okb.later hoky hba) (by have := hy1.1; omega) hy1.2)
          unfold Od.v at HBy
          have Hin := Lib.hid hy1.2
          clear hy hoky hy1
          by_cases hr : rightB y = true
          · have hby := HBy.out
            rw [if_pos hr, if_pos hr] at hby
            have HBy := Lib.hid hby
            have hbl := bytesB_le hr Hin.out
            have hbp := bytesB_pos y hr Hin.out
            have hwl := wrO_le hr Hin.out
            have HT : Hid (∀ W : World, Calls Tryz.prog 72 #[.string ⟨(bytesB y).toArray⟩] W fun e w' => ∃ v, e = .returned v ∧ Own w' W.heap.size 5 v (wrO y) ∧ Below W.heap.size W w') := Lib.hid (fun W => text_c ⟨(bytesB y).toArray⟩ W hbl)
            have Hr := Lib.hid hr
            have Hwl := Lib.hid hwl
            have Hbp := Lib.hid hbp
            clear hby hbl hbp hwl hr
            go_wp2_with fail
            refine HBy.out.mono ?_
            rintro e w4 ⟨v, rfl, hO4, hF⟩
            obtain ⟨A4, c4, hv, hs4⟩ := hO4.sl_ot Hob.out (Nat.le_refl _)
            subst hv
            have hcv := conv_str hs4 Hbp.out
            have HO4 := Lib.hid (Hob.out.later hF)
            have hb4 := hbb.trans (hF.mono hbb.size)
            clear hO4 hF hs4 HBy Hob d0 d1 d2 d3 d4 d5 d6 d7 d8 d9 hba hbb
            go_wp2_with fail
            refine (HT.out _).mono ?_
            rintro e w5 ⟨v, rfl, hO5, hF⟩
            obtain ⟨A5, c5, hv, hs5⟩ := hO5.sl_ot HO4.out (Nat.le_refl _)
            subst hv
            have HO5 := Lib.hid (HO4.out.later hF)
            have HS5 := Lib.hid hs5
            have hb5 := hb4.trans (hF.mono hb4.size)
            clear hO5 hF hs5 hcv
            go_wp2_with (at_builtin; refine wpList_append_slice rfl (some 43) (.tmp 39) (.tmp 42) 25 rfl rfl (.int .u8 0) 1 Tryz.underlying25 inf_byte rfl (by decide) (by decide) rfl HO5.out _ _ _ (wrO y) rfl rfl HS5.out (by have := HDl.out; have := Hwl.out; omega) hb5.size ?_; intro v6 w6 hO6 hg6 hat6)
            have hb6 := hb5.trans (HO5.out.below hg6 (Nat.le_refl _) hb5.size)
            go_roundw
            case rel => exact ⟨m + 1, _, by go_num, by omega, by rw [HD.out, Hfn.out]; simp only [List.append_assoc], by rw [List.length_append]; have := HDl.out; have := Hwl.out; omega, by rw [Han.out, Hokm.out, Hr.out]; rfl, hO6, hb6⟩
            case measure => simp [intOf]; omega
          · have hby := HBy.out
            rw [if_neg hr, if_neg hr] at hby
            have HBy := Lib.hid hby
            have Hno := Lib.hid (okW_no (S := S.map SV.l) (List.mem_map.2 ⟨_, Hmem.out, rfl⟩) Hym.out (by simpa using hr))
            clear hby hr
            go_wp2_with fail
            refine HBy.out.mono ?_
            rintro e w4 ⟨v, rfl, hO4, hF⟩
            have hb4 := hbb.trans (hF.mono hbb.size)
            clear hO4 hF HBy Hob d0 d1 d2 d3 d4 d5 d6 d7 d8 d9 hba hbb
            go_wp2
            go_ret2
            obtain rfl : E = 1 := HE.out.symm.trans (errW_no Hno.out)
            obtain rfl : U = [] := HU.out.symm.trans (outW_no Hno.out)
            exact ⟨_, rfl, Own.nil_ _ _ _, hb4⟩
        · obtain rfl : m = X.l.length := by omega
          have g3 : decide ((X.l.length : Int) < (X.l.length : Int)) = false := decide_eq_false (by omega)
          have Hta := Lib.hid (List.take_length (l := X.l))
          go_wp2
          go_roundw
          case rel => exact ⟨q + 1, D, by go_num, by omega, by rw [HD.out, Hta.out, Hne.out, HB.out]; unfold wrS; simp only [List.append_assoc], by have := HDl.out; omega, by rw [Hnk.out, Hok.out]; have := Hokm.out; rw [Hta.out] at this; rw [this]; rfl, HO.out, hb⟩
          case measure => simp [intOf]; omega
    · obtain rfl : q = S.length := by omega
      have g1 : decide ((S.length : Int) < (S.length : Int)) = false := decide_eq_false (by omega)
      have hfin := Hok.out
      have hfb := HB.out
      rw [List.take_length] at hfin hfb
      have Hfin := Lib.hid hfin
      have hfb2 : B = wrL (S.map SV.l) := by unfold wrL; rw [List.length_map]; exact hfb
      have Hfb := Lib.hid hfb2
      clear hfin hfb hfb2
      go_wp2
      go_ret2
      obtain rfl : E = 0 := HE.out.symm.trans (errW_ok Hfin.out)
      obtain rfl : U = wrL (S.map SV.l) := HU.out.symm.trans (outW_ok Hfin.out)
      exact ⟨_, rfl, (by have := HO.out; rw [Hfb.out] at this; exact this), hb⟩
end Go.Proofs.YtmbfalokkabmnaaGreat
