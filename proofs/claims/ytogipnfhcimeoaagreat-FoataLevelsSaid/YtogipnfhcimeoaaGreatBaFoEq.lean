/- slices.EqualFunc of orders, of steps; foata.Lay, Normal -/
import Derived.Test.YtogipnfhcimeoaaGreatRows
import Derived.Test.YtogipnfhcimeoaaGreatBaFoSt
import Derived.Test.YtogipnfhcimeoaaGreatBc3
import Derived.Test.YtogipnfhcimeoaaGreatBc5
import Derived.Test.YtogipnfhcimeoaaGreatBc4
import Derived.WalkKit
import Derived.WalkSpells
import Derived.WalkLawsBesides
import Derived.Deep.QuietTactic
import Derived.BigQuiet
import Derived.Laws.StructEq
import Derived.Deep.DeepFit
import Derived.StillTailTactics
namespace Go.Proofs.YtogipnfhcimeoaaGreat
open Go.RowKit
set_option maxRecDepth 100000 in
set_option maxHeartbeats 4000000 in
theorem eqO_c (A C : Option Addr) (c d : Nat) (a b : List Od) (w : World) (ha : Sl w w.heap.size A c a) (hb : Sl w w.heap.size C d b) (_hna : a.length ≤ 65536) (_hnb : b.length ≤ 65536) (hla : ∀ x ∈ a, x.legs.length ≤ 65536) (hlb : ∀ x ∈ b, x.legs.length ≤ 65536) :
    Calls Tryz.prog 81 #[.slice A a.length c, .slice C b.length d, .func (.func 82) #[] #[]] w fun e w' => e = .returned (.bool (sameL a b)) ∧ Below w.heap.size w w' := by
  have eg := (enters_of Tryz.func82 (by kernel_rfl) rfl)
  by_cases hl : a.length = b.length
  · have q : ((a.length : Int) != (b.length : Int)) = false := by rw [hl]; simp
    have HL := Lib.hid hl
    have Hla := Lib.hid hla
    have Hlb := Lib.hid hlb
    clear hl hla hlb
    go_enter Tryz.func81, Tryz.ntmps81
    go_wp2
    go_loopw [17] (fun i wr => ∃ k : Nat, i = i64 k ∧ k ≤ a.length ∧ (∀ j (hj : j < a.length) (hj' : j < b.length), j < k → sameB a[j] b[j] = true) ∧ Below w.heap.size w wr) (fun i _ => a.length - (intOf i).toNat)
    case atStart => exact ⟨0, rfl, by omega, by omega, Below.refl _ _⟩
    case round =>
      obtain ⟨k, rfl, hk, hall, hbr⟩ := hrel
      have Hall := Lib.hid hall
      clear hall
      by_cases hlt : k < a.length
      · have hltb : k < b.length := by have := HL.out; omega
        obtain ⟨b0, o0, rfl, hbb, hok, c0, c1, c2, c3, c4, c5, c6, c7, c8, c9⟩ := (ha.later hbr).od hlt
        obtain ⟨b2, o2, rfl, hbb2, hok2, d0, d1, d2, d3, d4, d5, d6, d7, d8, d9⟩ := (hb.later hbr).od hltb
        obtain ⟨x, hx⟩ : ∃ x, a[k] = x := ⟨_, rfl⟩
        obtain ⟨y, hy⟩ : ∃ y, b[k] = y := ⟨_, rfl⟩
        rw [hx] at hok c0 c1 c2 c3 c4 c5 c6 c7 c8 c9
        rw [hy] at hok2 d0 d1 d2 d3 d4 d5 d6 d7 d8 d9
        have hb1 := (Below.refl wr.heap.size wr).alloc (Nat.le_refl _) (.cells #[i64 x.client, i64 x.seq, i64 x.kind, .string x.acct, .string x.peer, i64 x.sum, .slice x.la x.legs.length x.lc, i64 x.period, i64 x.hold, .string x.note] 45)
        have hb12 := hb1.alloc hb1.size (.cells #[i64 y.client, i64 y.seq, i64 y.kind, .string y.acct, .string y.peer, i64 y.sum, .slice y.la y.legs.length y.lc, i64 y.period, i64 y.hold, .string y.note] 45)
        have hlx : x.legs.length ≤ 65536 := by rw [← hx]; exact Hla.out _ (List.getElem_mem _)
        have hly : y.legs.length ≤ 65536 := by rw [← hy]; exact Hlb.out _ (List.getElem_mem _)
        have HC := Lib.hid (same_c x y _ (Okb.later hok hb12) (Okb.later hok2 hb12) hlx hly)
        have HX := Lib.hid hx
        have HY := Lib.hid hy
        have hg1 := heap_alloc2_old wr (.cells #[i64 x.client, i64 x.seq, i64 x.kind, .string x.acct, .string x.peer, i64 x.sum, .slice x.la x.legs.length x.lc, i64 x.period, i64 x.hold, .string x.note] 45) (.cells #[i64 y.client, i64 y.seq, i64 y.kind, .string y.acct, .string y.peer, i64 y.sum, .slice y.la y.legs.length y.lc, i64 y.period, i64 y.hold, .string y.note] 45)
        have hg2 := heap_alloc2_new wr (.cells #[i64 x.client, i64 x.seq, i64 x.kind, .string x.acct, .string x.peer, i64 x.sum, .slice x.la x.legs.length x.lc, i64 x.period, i64 x.hold, .string x.note] 45) (.cells #[i64 y.client, i64 y.seq, i64 y.kind, .string y.acct, .string y.peer, i64 y.sum, .slice y.la y.legs.length y.lc, i64 y.period, i64 y.hold, .string y.note] 45)
        have dd : ∀ i v, i < 10 → wr.cell? ⟨b2, o2 + k * 10 + i, none⟩ = some v → (wr.alloc (.cells #[i64 x.client, i64 x.seq, i64 x.kind, .string x.acct, .string x.peer, i64 x.sum, .slice x.la x.legs.length x.lc, i64 x.period, i64 x.hold, .string x.note] 45)).cell? ⟨b2, o2 + k * 10 + i, none⟩ = some v := fun i v _ h => (hb1.cell (World.block_lt_of_cell? _ _ h)).trans h
        unfold Od.v at HC
        clear hx hy hok hok2 hlx hly
        have e0 := cell_of_row _ wr.heap.size 0 _ _ (0, 0) hg1
        have e1 := cell_of_row _ wr.heap.size 1 _ _ (0, 0) hg1
        have e2 := cell_of_row _ wr.heap.size 2 _ _ (0, 0) hg1
        have e3 := cell_of_row _ wr.heap.size 3 _ _ (0, 0) hg1
        have e4 := cell_of_row _ wr.heap.size 4 _ _ (0, 0) hg1
        have e5 := cell_of_row _ wr.heap.size 5 _ _ (0, 0) hg1
        have e6 := cell_of_row _ wr.heap.size 6 _ _ (0, 0) hg1
        have e7 := cell_of_row _ wr.heap.size 7 _ _ (0, 0) hg1
        have e8 := cell_of_row _ wr.heap.size 8 _ _ (0, 0) hg1
        have e9 := cell_of_row _ wr.heap.size 9 _ _ (0, 0) hg1
        have f0 := cell_of_row _ (wr.heap.size + 1) 0 _ _ (0, 0) hg2
        have f1 := cell_of_row _ (wr.heap.size + 1) 1 _ _ (0, 0) hg2
        have f2 := cell_of_row _ (wr.heap.size + 1) 2 _ _ (0, 0) hg2
        have f3 := cell_of_row _ (wr.heap.size + 1) 3 _ _ (0, 0) hg2
        have f4 := cell_of_row _ (wr.heap.size + 1) 4 _ _ (0, 0) hg2
        have f5 := cell_of_row _ (wr.heap.size + 1) 5 _ _ (0, 0) hg2
        have f6 := cell_of_row _ (wr.heap.size + 1) 6 _ _ (0, 0) hg2
        have f7 := cell_of_row _ (wr.heap.size + 1) 7 _ _ (0, 0) hg2
        have f8 := cell_of_row _ (wr.heap.size + 1) 8 _ _ (0, 0) hg2
        have f9 := cell_of_row _ (wr.heap.size + 1) 9 _ _ (0, 0) hg2
        simp only [List.getElem?_toArray, List.getElem?_cons_zero, List.getElem?_cons_succ] at e0 f0 e1 f1 e2 f2 e3 f3 e4 f4 e5 f5 e6 f6 e7 f7 e8 f8 e9 f9
        have d0' := dd 0 _ (by decide) d0
        have d1' := dd 1 _ (by decide) d1
        have d2' := dd 2 _ (by decide) d2
        have d3' := dd 3 _ (by decide) d3
        have d4' := dd 4 _ (by decide) d4
        have d5' := dd 5 _ (by decide) d5
        have d6' := dd 6 _ (by decide) d6
        have d7' := dd 7 _ (by decide) d7
        have d8' := dd 8 _ (by decide) d8
        have d9' := dd 9 _ (by decide) d9
        clear hg1 hg2 dd
        go_wp2_with fail
        refine HC.out.mono ?_
        rintro e w5 ⟨rfl, hb5⟩
        have hb6 := hbr.trans ((hb12.trans (hb5.mono hb12.size)).mono hbr.size)
        clear hb12 hb5 hb1 HC c0 c1 c2 c3 c4 c5 c6 c7 c8 c9 d0 d1 d2 d3 d4 d5 d6 d7 d8 d9
        by_cases hs : sameB x y = true
        · rw [hs]
          have Hs := Lib.hid hs
          clear hs
          go_wp2
          go_roundw
          case rel => exact ⟨k + 1, by go_num, by omega, fun j hj hj' h => by
              rcases Nat.lt_succ_iff_lt_or_eq.1 h with h | rfl
              · exact Hall.out j hj hj' h
              · rw [HX.out, HY.out]; exact Hs.out, hb6⟩
          case measure => simp [intOf]; omega
        · have hs' : sameB x y = false := by simpa using hs
          rw [hs']
          have Hs := Lib.hid hs'
          clear hs hs'
          go_wp2
          go_ret
          refine ⟨?_, hb6⟩
          have : sameL a b = false := by
            unfold sameL
            rw [Bool.and_eq_false_iff]
            right
            rw [List.all_eq_false]
            refine ⟨(a[k], b[k]), ?_, by rw [HX.out, HY.out]; simpa using Hs.out⟩
            rw [List.mem_iff_getElem]
            exact ⟨k, by simp; omega, by simp⟩
          rw [this]
          rfl
      · obtain rfl : k = a.length := by omega
        have g1 : decide ((a.length : Int) < (a.length : Int)) = false := decide_eq_false (by omega)
        go_wp2
        go_ret
        refine ⟨?_, hbr⟩
        have : sameL a b = true := by
          unfold sameL
          rw [decide_eq_true HL.out, Bool.true_and, List.all_eq_true]
          intro p hp
          obtain ⟨j, hj, rfl⟩ := List.getElem_of_mem hp
          simp only [List.length_zip] at hj
          rw [List.getElem_zip]
          exact Hall.out j (by omega) (by omega) (by omega)
        rw [this]
        rfl
  · have q : ((a.length : Int) != (b.length : Int)) = true := by simp; omega
    have Hs : Hid (sameL a b = false) := Lib.hid (by unfold sameL; rw [decide_eq_false hl]; rfl)
    clear hl
    go_enter Tryz.func81, Tryz.ntmps81
    go_wp2
    go_ret
    exact ⟨by rw [Hs.out]; rfl, Below.refl _ _⟩
/-- the same steps -/
def sameS (a b : List (List Od)) : Bool := decide (a.length = b.length) && (a.zip b).all fun p => sameL p.1 p.2
set_option maxRecDepth 100000 in
set_option maxHeartbeats 4000000 in
theorem eqN_c (A C : Option Addr) (c d : Nat) (a b : List Od) (w : World) (ha : Sl w w.heap.size A c a) (hb : Sl w w.heap.size C d b) (hna : a.length ≤ 65536) (hnb : b.length ≤ 65536) (hla : ∀ x ∈ a, x.legs.length ≤ 65536) (hlb : ∀ x ∈ b, x.legs.length ≤ 65536) :
    Calls Tryz.prog 80 #[.slice A a.length c, .slice C b.length d] w fun e w' => e = .returned (.bool (sameL a b)) ∧ Below w.heap.size w w' := by
  have HC := Lib.hid (eqO_c A C c d a b w ha hb hna hnb hla hlb)
  clear ha hb hla hlb
  go_enter Tryz.func80, Tryz.ntmps80
  go_wp2_with fail
  refine HC.out.mono ?_
  rintro e w1 ⟨rfl, hF⟩
  go_wp2
  go_ret
  exact ⟨rfl, hF⟩
/-- lists of orders as they are few -/
def smallS (a : List (SV Od)) : Prop := a.length ≤ 60000 ∧ ∀ x ∈ a, x.l.length ≤ 60000 ∧ ∀ y ∈ x.l, y.legs.length ≤ 10
set_option maxRecDepth 100000 in
set_option maxHeartbeats 4000000 in
theorem eqS_c (A C : Option Addr) (c d : Nat) (a b : List (SV Od)) (w : World) (ha : Sl w w.heap.size A c a) (hb : Sl w w.heap.size C d b) (hsa : smallS a) (hsb : smallS b) :
    Calls Tryz.prog 79 #[.slice A a.length c, .slice C b.length d, .func (.func 80) #[] #[]] w fun e w' => e = .returned (.bool (sameS (a.map SV.l) (b.map SV.l))) ∧ Below w.heap.size w w' := by
  have eg := (enters_of Tryz.func80 (by kernel_rfl) rfl)
  have Hsa := Lib.hid hsa
  have Hsb := Lib.hid hsb
  have hna := hsa.1
  have hnb := hsb.1
  clear hsa hsb
  by_cases hl : a.length = b.length
  · have q : ((a.length : Int) != (b.length : Int)) = false := by rw [hl]; simp
    have HL := Lib.hid hl
    clear hl
    go_enter Tryz.func79, Tryz.ntmps79
    go_wp2
    go_loopw [17] (fun i wr => ∃ k : Nat, i = i64 k ∧ k ≤ a.length ∧ (∀ j (hj : j < a.length) (hj' : j < b.length), j < k → sameL a[j].l b[j].l = true) ∧ Below w.heap.size w wr) (fun i _ => a.length - (intOf i).toNat)
    case atStart => exact ⟨0, rfl, by omega, by omega, Below.refl _ _⟩
    case round =>
      obtain ⟨k, rfl, hk, hall, hbr⟩ := hrel
      have Hall := Lib.hid hall
      clear hall
      by_cases hlt : k < a.length
      · have hltb : k < b.length := by have := HL.out; omega
        obtain ⟨b0, o0, rfl, hbb, hok, c0⟩ := (ha.later hbr).sv hlt
        obtain ⟨b2, o2, rfl, hbb2, hok2, d0⟩ := (hb.later hbr).sv hltb
        have h1 := Hsa.out.2 _ (List.getElem_mem hlt)
        have h2 := Hsb.out.2 _ (List.getElem_mem hltb)
        have HC := Lib.hid (eqN_c _ _ _ _ a[k].l b[k].l wr hok hok2 (by omega) (by omega) (fun y hy => Nat.le_trans (h1.2 y hy) (by decide)) (fun y hy => Nat.le_trans (h2.2 y hy) (by decide)))
        clear hok hok2 h1 h2
        go_wp2_with fail
        refine HC.out.mono ?_
        rintro e w5 ⟨rfl, hb5⟩
        have hb6 := hbr.trans (hb5.mono hbr.size)
        clear hb5 HC c0 d0
        by_cases hs : sameL a[k].l b[k].l = true
        · rw [hs]
          have Hs := Lib.hid hs
          clear hs
          go_wp2
          go_roundw
          case rel => exact ⟨k + 1, by go_num, by omega, fun j hj hj' h => by
              rcases Nat.lt_succ_iff_lt_or_eq.1 h with h | rfl
              · exact Hall.out j hj hj' h
              · exact Hs.out, hb6⟩
          case measure => simp [intOf]; omega
        · have hs' : sameL a[k].l b[k].l = false := by simpa using hs
          rw [hs']
          have Hs := Lib.hid hs'
          clear hs hs'
          go_wp2
          go_ret
          refine ⟨?_, hb6⟩
          have : sameS (a.map SV.l) (b.map SV.l) = false := by
            unfold sameS
            rw [Bool.and_eq_false_iff]
            right
            rw [List.all_eq_false]
            refine ⟨(a[k].l, b[k].l), ?_, by rw [Hs.out]; decide⟩
            rw [List.mem_iff_getElem]
            exact ⟨k, by simp; omega, by simp⟩
          rw [this]
          rfl
      · obtain rfl : k = a.length := by omega
        have g1 : decide ((a.length : Int) < (a.length : Int)) = false := decide_eq_false (by omega)
        go_wp2
        go_ret
        refine ⟨?_, hbr⟩
        have : sameS (a.map SV.l) (b.map SV.l) = true := by
          unfold sameS
          rw [List.length_map, List.length_map, decide_eq_true HL.out, Bool.true_and, List.all_eq_true]
          intro p hp
          obtain ⟨j, hj, rfl⟩ := List.getElem_of_mem hp
          simp only [List.length_zip, List.length_map] at hj
          rw [List.getElem_zip, List.getElem_map, List.getElem_map]
          exact Hall.out j (by omega) (by omega) (by omega)
        rw [this]
        rfl
  · have q : ((a.length : Int) != (b.length : Int)) = true := by simp; omega
    have Hs : Hid (sameS (a.map SV.l) (b.map SV.l) = false) := Lib.hid (by unfold sameS; rw [List.length_map, List.length_map, decide_eq_false hl]; rfl)
    clear hl
    go_enter Tryz.func79, Tryz.ntmps79
    go_wp2
    go_ret
    exact ⟨by rw [Hs.out]; rfl, Below.refl _ _⟩
set_option maxRecDepth 100000 in
set_option maxHeartbeats 2000000 in
theorem lay_c (A : Option Addr) (c : Nat) (S : List (SV Od)) (w : World) (h : Sl w w.heap.size A c S) (hn : S.length ≤ 65536) (ht : (layL (S.map SV.l)).length ≤ 65536) :
    Calls Tryz.prog 24 #[.slice A S.length c] w fun e w' => ∃ v, e = .returned v ∧ Own w' w.heap.size 45 v (layL (S.map SV.l)) ∧ Below w.heap.size w w' := by
  have e : S.flatMap SV.l = layL (S.map SV.l) := by unfold layL; rw [List.flatMap_def]
  have HC := Lib.hid (concat_od A c S w h hn (by rw [e]; exact ht))
  rw [e] at HC
  clear h e
  go_enter Tryz.func24, Tryz.ntmps24
  go_wp2_with fail
  refine HC.out.mono ?_
  rintro e w1 ⟨v, rfl, hO, hF⟩
  have HO := Lib.hid hO
  clear hO
  go_wp2
  go_ret
  exact ⟨v, rfl, HO.out, hF⟩
/-- foata.Normal -/
def normalB (S : List (List Od)) : Bool := validL (layL S) && sameS S (stepsL (layL S))
theorem stepsL_small {l : List Od} {L : List (SV Od)} (h : L.map SV.l = stepsL l) (hn : l.length ≤ 60000) (hl : ∀ x ∈ l, x.legs.length ≤ 10) : smallS L := by
  by_cases hv : validL l = true
  · rw [stepsL, if_pos hv] at h
    have hlen : L.length = (stepsV l).length := by rw [← h, List.length_map]
    refine ⟨?_, fun x hx => ?_⟩
    · rw [hlen, stepsV_len]
      have := (most_small l).2
      omega
    · have hm : x.l ∈ stepsV l := by rw [← h]; exact List.mem_map.2 ⟨x, hx, rfl⟩
      obtain ⟨s, hs, e⟩ := List.getElem_of_mem hm
      rw [stepsV_get hs] at e
      have hp : x.l.Perm (partP (levP l) s) := by rw [← e]; exact sortB_perm _
      refine ⟨?_, fun y hy => ?_⟩
      · rw [hp.length_eq]
        unfold partP
        rw [List.length_map]
        have := List.length_filter_le (fun p : Od × Int => decide (p.2 = (s : Int) + 1)) (levP l)
        rw [levP_len] at this
        omega
      · have := hp.mem_iff.1 hy
        obtain ⟨p, hp, rfl⟩ := List.mem_map.1 this
        refine hl _ ?_
        rw [← levP_fst l]
        exact List.mem_map.2 ⟨p, (List.mem_filter.1 hp).1, rfl⟩
  · rw [stepsL, if_neg hv] at h
    have : L = [] := List.map_eq_nil_iff.1 h
    subst this
    exact ⟨by simp, by simp⟩
set_option maxRecDepth 100000 in
set_option maxHeartbeats 4000000 in
theorem normal_c (A : Option Addr) (c : Nat) (S : List (SV Od)) (w : World) (h : Sl w w.heap.size A c S) (hS : smallS S) (ht : (layL (S.map SV.l)).length ≤ 60000) :
    Calls Tryz.prog 32 #[.slice A S.length c] w fun e w' => e = .returned (.bool (normalB (S.map SV.l))) ∧ Below w.heap.size w w' := by
  have HC := Lib.hid (lay_c A c S w h (Nat.le_trans hS.1 (by decide)) (by omega))
  have H := Lib.hid h
  have HS := Lib.hid hS
  have hlg : ∀ x ∈ layL (S.map SV.l), x.legs.length ≤ 10 := fun x hx => by
    obtain ⟨t, ht, hx⟩ := List.mem_flatten.1 hx
    obtain ⟨v, hv, rfl⟩ := List.mem_map.1 ht
    exact (hS.2 v hv).2 x hx
  have Hlg := Lib.hid hlg
  have HN := Lib.hid (show normalB (S.map SV.l) = (validL (layL (S.map SV.l)) && sameS (S.map SV.l) (stepsL (layL (S.map SV.l)))) from rfl)
  generalize normalB (S.map SV.l) = r at *
  clear h hS hlg
  generalize layL (S.map SV.l) = l at *
  go_enter Tryz.func32, Tryz.ntmps32
  go_wp2_with fail
  refine HC.out.mono ?_
  rintro e w1 ⟨v, rfl, hO, hF⟩
  obtain ⟨A1, c1, rfl, s1⟩ := hO.sl
  have hb1 := hF
  have HR := Lib.hid (right_c A1 c1 l w1 s1 (by omega))
  change Hid (Calls _ _ _ _ fun e w' => e = .returned (.bool (validL l)) ∧ Below w1.heap.size w1 w') at HR
  clear HC hO hF
  go_wp2_with fail
  refine HR.out.mono ?_
  rintro e w2 ⟨rfl, hF⟩
  have s2 := s1.later hF
  have hb2 := below_on hb1 (Nat.le_refl _) hF
  clear HR hF s1
  cases hv : validL l
  · have Hr := Lib.hid (show r = false by rw [HN.out, hv]; rfl)
    clear hv
    go_wp2
    go_ret
    exact ⟨by rw [Hr.out]; rfl, hb2⟩
  · have Hr := Lib.hid (show r = sameS (S.map SV.l) (stepsL l) by rw [HN.out, hv]; rfl)
    clear hv
    have HSt := Lib.hid (steps_c A1 c1 l w2 s2 ht Hlg.out)
    go_wp2_with fail
    refine HSt.out.mono ?_
    rintro e w3 ⟨v, L, rfl, hO, hm, hF⟩
    obtain ⟨A3, c3, rfl, s3⟩ := hO.sl
    have hb3 := below_on hb2 (Nat.le_refl _) hF
    have HE := Lib.hid (eqS_c A A3 c c3 S L w3 (H.out.later hb3) s3 HS.out (stepsL_small hm ht Hlg.out))
    rw [hm] at HE
    clear HSt hO hF hm
    go_wp2_with fail
    refine HE.out.mono ?_
    rintro e w4 ⟨rfl, hF⟩
    have hb4 := below_on hb3 (Nat.le_refl _) hF
    go_wp2
    go_ret
    exact ⟨by rw [Hr.out]; rfl, hb4⟩
end Go.Proofs.YtogipnfhcimeoaaGreat
