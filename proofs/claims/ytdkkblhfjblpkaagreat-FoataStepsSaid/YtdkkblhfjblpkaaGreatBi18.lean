/- Texts of this claim, laid together: FoEq, FoWrP, FoWr, FoEx, FoAlP, FoMoreP. -/
import Derived.Test.YtdkkblhfjblpkaaGreatRows
import Derived.Test.YtdkkblhfjblpkaaGreatBi17
import Derived.Test.YtdkkblhfjblpkaaGreatBi3
import Derived.Test.YtdkkblhfjblpkaaGreatBi2
import Derived.WalkKit
import Derived.WalkSpells
import Derived.WalkLawsBesides
import Derived.Deep.QuietTactic
import Derived.BigQuiet
import Derived.Laws.StructEq
import Derived.Deep.DeepFit
import Derived.StillTailTactics
import Derived.Laws.IdiomStrings
import Derived.Test.YtdkkblhfjblpkaaGreatBi11
import Derived.Test.YtdkkblhfjblpkaaGreatBi14
import Derived.Test.YtdkkblhfjblpkaaGreatBi5

/- slices.EqualFunc of orders, of steps; foata.Lay, Normal -/
namespace Go.Proofs.YtdkkblhfjblpkaaGreat
open Go.RowKit
set_option maxRecDepth 100000 in
set_option maxHeartbeats 4000000 in
theorem eqO_c (A C : Option Addr) (c d : Nat) (a b : List Od) (w : World) (ha : Sl w w.heap.size A c a) (hb : Sl w w.heap.size C d b) (_hna : a.length ≤ 65536) (_hnb : b.length ≤ 65536) (hla : ∀ x ∈ a, x.legs.length ≤ 65536) (hlb : ∀ x ∈ b, x.legs.length ≤ 65536) :
    Calls Tryz.prog 112 #[.slice A a.length c, .slice C b.length d, .func (.func 113) #[] #[]] w fun e w' => e = .returned (.bool (sameL a b)) ∧ Below w.heap.size w w' := by
  have eg := (enters_of Tryz.func113 (by kernel_rfl) rfl)
  by_cases hl : a.length = b.length
  · have q : ((a.length : Int) != (b.length : Int)) = false := by rw [hl]; simp
    have HL := Lib.hid hl
    have Hla := Lib.hid hla
    have Hlb := Lib.hid hlb
    clear hl hla hlb
    go_enter Tryz.func112, Tryz.ntmps112
    go_wp2
    go_loopw [17] (fun i wr => ∃ k : Nat, i = i64 k ∧ k ≤ a.length ∧ (∀ j (hj : j < a.length) (hj' : j < b.length), j < k → sameB a[j] b[j] = true) ∧ Below w.heap.size w wr) (fun i _ => a.length - (intOf i).toNat)
    case atStart => exact ⟨0, rfl, by omega, by omega, Below.refl _ _⟩
    case round =>
      obtain ⟨k, rfl, hk, hall, hbr⟩ := hrel
      have Hall := Lib.hid hall
      clear hall
      by_cases hlt : k < a.length
      · have hltb : k < b.length := by have := HL.out; omega
        obtain ⟨b0, o0, rfl, hbb, hok, c0, c1, c2, c3, c4, c5, c6, c7, c8, c9⟩ := (ha.later hbr).od hlt
        obtain ⟨b2, o2, rfl, hbb2, hok2, d0, d1, d2, d3, d4, d5, d6, d7, d8, d9⟩ := (hb.later hbr).od hltb
        obtain ⟨x, hx⟩ : ∃ x, a[k] = x := ⟨_, rfl⟩
        obtain ⟨y, hy⟩ : ∃ y, b[k] = y := ⟨_, rfl⟩
        rw [hx] at hok c0 c1 c2 c3 c4 c5 c6 c7 c8 c9
        rw [hy] at hok2 d0 d1 d2 d3 d4 d5 d6 d7 d8 d9
        have hb1 := (Below.refl wr.heap.size wr).alloc (Nat.le_refl _) (.cells #[i64 x.client, i64 x.seq, i64 x.kind, .string x.acct, .string x.peer, i64 x.sum, .slice x.la x.legs.length x.lc, i64 x.period, i64 x.hold, .string x.note] 50)
        have hb12 := hb1.alloc hb1.size (.cells #[i64 y.client, i64 y.seq, i64 y.kind, .string y.acct, .string y.peer, i64 y.sum, .slice y.la y.legs.length y.lc, i64 y.period, i64 y.hold, .string y.note] 50)
        have hlx : x.legs.length ≤ 65536 := by rw [← hx]; exact Hla.out _ (List.getElem_mem _)
        have hly : y.legs.length ≤ 65536 := by rw [← hy]; exact Hlb.out _ (List.getElem_mem _)
        have HC := Lib.hid (same_c x y _ (Okb.later hok hb12) (Okb.later hok2 hb12) hlx hly)
        have HX := Lib.hid hx
        have HY := Lib.hid hy
        have hg1 := heap_alloc2_old wr (.cells #[i64 x.client, i64 x.seq, i64 x.kind, .string x.acct, .string x.peer, i64 x.sum, .slice x.la x.legs.length x.lc, i64 x.period, i64 x.hold, .string x.note] 50) (.cells #[i64 y.client, i64 y.seq, i64 y.kind, .string y.acct, .string y.peer, i64 y.sum, .slice y.la y.legs.length y.lc, i64 y.period, i64 y.hold, .string y.note] 50)
        have hg2 := heap_alloc2_new wr (.cells #[i64 x.client, i64 x.seq, i64 x.kind, .string x.acct, .string x.peer, i64 x.sum, .slice x.la x.legs.length x.lc, i64 x.period, i64 x.hold, .string x.note] 50) (.cells #[i64 y.client, i64 y.seq, i64 y.kind, .string y.acct, .string y.peer, i64 y.sum, .slice y.la y.legs.length y.lc, i64 y.period, i64 y.hold, .string y.note] 50)
        have dd : ∀ i v, i < 10 → wr.cell? ⟨b2, o2 + k * 10 + i, none⟩ = some v → (wr.alloc (.cells #[i64 x.client, i64 x.seq, i64 x.kind, .string x.acct, .string x.peer, i64 x.sum, .slice x.la x.legs.length x.lc, i64 x.period, i64 x.hold, .string x.note] 50)).cell? ⟨b2, o2 + k * 10 + i, none⟩ = some v := fun i v _ h => (hb1.cell (World.block_lt_of_cell? _ _ h)).trans h
        unfold Od.v at HC
        clear hx hy hok hok2 hlx hly
        have e0 := cell_of_row _ wr.heap.size 0 _ _ (0, 0) hg1
        have e1 := cell_of_row _ wr.heap.size 1 _ _ (0, 0) hg1
        have e2 := cell_of_row _ wr.heap.size 2 _ _ (0, 0) hg1
        have e3 := cell_of_row _ wr.heap.size 3 _ _ (0, 0) hg1
        have e4 := cell_of_row _ wr.heap.size 4 _ _ (0, 0) hg1
        have e5 := cell_of_row _ wr.heap.size 5 _ _ (0, 0) hg1
        have e6 := cell_of_row _ wr.heap.size 6 _ _ (0, 0) hg1
        have e7 := cell_of_row _ wr.heap.size 7 _ _ (0, 0) hg1
        have e8 := cell_of_row _ wr.heap.size 8 _ _ (0, 0) hg1
        have e9 := cell_of_row _ wr.heap.size 9 _ _ (0, 0) hg1
        have f0 := cell_of_row _ (wr.heap.size + 1) 0 _ _ (0, 0) hg2
        have f1 := cell_of_row _ (wr.heap.size + 1) 1 _ _ (0, 0) hg2
        have f2 := cell_of_row _ (wr.heap.size + 1) 2 _ _ (0, 0) hg2
        have f3 := cell_of_row _ (wr.heap.size + 1) 3 _ _ (0, 0) hg2
        have f4 := cell_of_row _ (wr.heap.size + 1) 4 _ _ (0, 0) hg2
        have f5 := cell_of_row _ (wr.heap.size + 1) 5 _ _ (0, 0) hg2
        have f6 := cell_of_row _ (wr.heap.size + 1) 6 _ _ (0, 0) hg2
        have f7 := cell_of_row _ (wr.heap.size + 1) 7 _ _ (0, 0) hg2
        have f8 := cell_of_row _ (wr.heap.size + 1) 8 _ _ (0, 0) hg2
        have f9 := cell_of_row _ (wr.heap.size + 1) 9 _ _ (0, 0) hg2
        simp only [List.getElem?_toArray, List.getElem?_cons_zero, List.getElem?_cons_succ] at e0 f0 e1 f1 e2 f2 e3 f3 e4 f4 e5 f5 e6 f6 e7 f7 e8 f8 e9 f9
        have d0' := dd 0 _ (by decide) d0
        have d1' := dd 1 _ (by decide) d1
        have d2' := dd 2 _ (by decide) d2
        have d3' := dd 3 _ (by decide) d3
        have d4' := dd 4 _ (by decide) d4
        have d5' := dd 5 _ (by decide) d5
        have d6' := dd 6 _ (by decide) d6
        have d7' := dd 7 _ (by decide) d7
        have d8' := dd 8 _ (by decide) d8
        have d9' := dd 9 _ (by decide) d9
        clear hg1 hg2 dd
        go_wp2_with fail
        refine HC.out.mono ?_
        rintro e w5 ⟨rfl, hb5⟩
        have hb6 := hbr.trans ((hb12.trans (hb5.mono hb12.size)).mono hbr.size)
        clear hb12 hb5 hb1 HC c0 c1 c2 c3 c4 c5 c6 c7 c8 c9 d0 d1 d2 d3 d4 d5 d6 d7 d8 d9
        by_cases hs : sameB x y = true
        · rw [hs]
          have Hs := Lib.hid hs
          clear hs
          go_wp2
          go_roundw
          case rel => exact ⟨k + 1, by go_num, by omega, fun j hj hj' h => by
              rcases Nat.lt_succ_iff_lt_or_eq.1 h with h | rfl
              · exact Hall.out j hj hj' h
              · rw [HX.out, HY.out]; exact Hs.out, hb6⟩
          case measure => simp [intOf]; omega
        · have hs' : sameB x y = false := by simpa using hs
          rw [hs']
          have Hs := Lib.hid hs'
          clear hs hs'
          go_wp2
          go_ret
          refine ⟨?_, hb6⟩
          have : sameL a b = false := by
            unfold sameL
            rw [Bool.and_eq_false_iff]
            right
            rw [List.all_eq_false]
            refine ⟨(a[k], b[k]), ?_, by rw [HX.out, HY.out]; simpa using Hs.out⟩
            rw [List.mem_iff_getElem]
            exact ⟨k, by simp; omega, by simp⟩
          rw [this]
          rfl
      · obtain rfl : k = a.length := by omega
        have g1 : decide ((a.length : Int) < (a.length : Int)) = false := decide_eq_false (by omega)
        go_wp2
        go_ret
        refine ⟨?_, hbr⟩
        have : sameL a b = true := by
          unfold sameL
          rw [decide_eq_true HL.out, Bool.true_and, List.all_eq_true]
          intro p hp
          obtain ⟨j, hj, rfl⟩ := List.getElem_of_mem hp
          simp only [List.length_zip] at hj
          rw [List.getElem_zip]
          exact Hall.out j (by omega) (by omega) (by omega)
        rw [this]
        rfl
  · have q : ((a.length : Int) != (b.length : Int)) = true := by simp; omega
    have Hs : Hid (sameL a b = false) := Lib.hid (by unfold sameL; rw [decide_eq_false hl]; rfl)
    clear hl
    go_enter Tryz.func112, Tryz.ntmps112
    go_wp2
    go_ret
    exact ⟨by rw [Hs.out]; rfl, Below.refl _ _⟩
/-- the same steps -/
def sameS (a b : List (List Od)) : Bool := decide (a.length = b.length) && (a.zip b).all fun p => sameL p.1 p.2
set_option maxRecDepth 100000 in
set_option maxHeartbeats 4000000 in
theorem eqN_c (A C : Option Addr) (c d : Nat) (a b : List Od) (w : World) (ha : Sl w w.heap.size A c a) (hb : Sl w w.heap.size C d b) (hna : a.length ≤ 65536) (hnb : b.length ≤ 65536) (hla : ∀ x ∈ a, x.legs.length ≤ 65536) (hlb : ∀ x ∈ b, x.legs.length ≤ 65536) :
    Calls Tryz.prog 111 #[.slice A a.length c, .slice C b.length d] w fun e w' => e = .returned (.bool (sameL a b)) ∧ Below w.heap.size w w' := by
  have HC := Lib.hid (eqO_c A C c d a b w ha hb hna hnb hla hlb)
  clear ha hb hla hlb
  go_enter Tryz.func111, Tryz.ntmps111
  go_wp2_with fail
  refine HC.out.mono ?_
  rintro e w1 ⟨rfl, hF⟩
  go_wp2
  go_ret
  exact ⟨rfl, hF⟩
/-- lists of orders as they are few -/
def smallS (a : List (SV Od)) : Prop := a.length ≤ 60000 ∧ ∀ x ∈ a, x.l.length ≤ 60000 ∧ ∀ y ∈ x.l, y.legs.length ≤ 10
set_option maxRecDepth 100000 in
set_option maxHeartbeats 4000000 in
theorem eqS_c (A C : Option Addr) (c d : Nat) (a b : List (SV Od)) (w : World) (ha : Sl w w.heap.size A c a) (hb : Sl w w.heap.size C d b) (hsa : smallS a) (hsb : smallS b) :
    Calls Tryz.prog 110 #[.slice A a.length c, .slice C b.length d, .func (.func 111) #[] #[]] w fun e w' => e = .returned (.bool (sameS (a.map SV.l) (b.map SV.l))) ∧ Below w.heap.size w w' := by
  have eg := (enters_of Tryz.func111 (by kernel_rfl) rfl)
  have Hsa := Lib.hid hsa
  have Hsb := Lib.hid hsb
  have hna := hsa.1
  have hnb := hsb.1
  clear hsa hsb
  by_cases hl : a.length = b.length
  · have q : ((a.length : Int) != (b.length : Int)) = false := by rw [hl]; simp
    have HL := Lib.hid hl
    clear hl
    go_enter Tryz.func110, Tryz.ntmps110
    go_wp2
    go_loopw [17] (fun i wr => ∃ k : Nat, i = i64 k ∧ k ≤ a.length ∧ (∀ j (hj : j < a.length) (hj' : j < b.length), j < k → sameL a[j].l b[j].l = true) ∧ Below w.heap.size w wr) (fun i _ => a.length - (intOf i).toNat)
    case atStart => exact ⟨0, rfl, by omega, by omega, Below.refl _ _⟩
    case round =>
      obtain ⟨k, rfl, hk, hall, hbr⟩ := hrel
      have Hall := Lib.hid hall
      clear hall
      by_cases hlt : k < a.length
      · have hltb : k < b.length := by have := HL.out; omega
        obtain ⟨b0, o0, rfl, hbb, hok, c0⟩ := (ha.later hbr).sv hlt
        obtain ⟨b2, o2, rfl, hbb2, hok2, d0⟩ := (hb.later hbr).sv hltb
        have h1 := Hsa.out.2 _ (List.getElem_mem hlt)
        have h2 := Hsb.out.2 _ (List.getElem_mem hltb)
        have HC := Lib.hid (eqN_c _ _ _ _ a[k].l b[k].l wr hok hok2 (by omega) (by omega) (fun y hy => Nat.le_trans (h1.2 y hy) (by decide)) (fun y hy => Nat.le_trans (h2.2 y hy) (by decide)))
        clear hok hok2 h1 h2
        go_wp2_with fail
        refine HC.out.mono ?_
        rintro e w5 ⟨rfl, hb5⟩
        have hb6 := hbr.trans (hb5.mono hbr.size)
        clear hb5 HC c0 d0
        by_cases hs : sameL a[k].l b[k].l = true
        · rw [hs]
          have Hs := Lib.hid hs
          clear hs
          go_wp2
          go_roundw
          case rel => exact ⟨k + 1, by go_num, by omega, fun j hj hj' h => by
              rcases Nat.lt_succ_iff_lt_or_eq.1 h with h | rfl
              · exact Hall.out j hj hj' h
              · exact Hs.out, hb6⟩
          case measure => simp [intOf]; omega
        · have hs' : sameL a[k].l b[k].l = false := by simpa using hs
          rw [hs']
          have Hs := Lib.hid hs'
          clear hs hs'
          go_wp2
          go_ret
          refine ⟨?_, hb6⟩
          have : sameS (a.map SV.l) (b.map SV.l) = false := by
            unfold sameS
            rw [Bool.and_eq_false_iff]
            right
            rw [List.all_eq_false]
            refine ⟨(a[k].l, b[k].l), ?_, by rw [Hs.out]; decide⟩
            rw [List.mem_iff_getElem]
            exact ⟨k, by simp; omega, by simp⟩
          rw [this]
          rfl
      · obtain rfl : k = a.length := by omega
        have g1 : decide ((a.length : Int) < (a.length : Int)) = false := decide_eq_false (by omega)
        go_wp2
        go_ret
        refine ⟨?_, hbr⟩
        have : sameS (a.map SV.l) (b.map SV.l) = true := by
          unfold sameS
          rw [List.length_map, List.length_map, decide_eq_true HL.out, Bool.true_and, List.all_eq_true]
          intro p hp
          obtain ⟨j, hj, rfl⟩ := List.getElem_of_mem hp
          simp only [List.length_zip, List.length_map] at hj
          rw [List.getElem_zip, List.getElem_map, List.getElem_map]
          exact Hall.out j (by omega) (by omega) (by omega)
        rw [this]
        rfl
  · have q : ((a.length : Int) != (b.length : Int)) = true := by simp; omega
    have Hs : Hid (sameS (a.map SV.l) (b.map SV.l) = false) := Lib.hid (by unfold sameS; rw [List.length_map, List.length_map, decide_eq_false hl]; rfl)
    clear hl
    go_enter Tryz.func110, Tryz.ntmps110
    go_wp2
    go_ret
    exact ⟨by rw [Hs.out]; rfl, Below.refl _ _⟩
set_option maxRecDepth 100000 in
set_option maxHeartbeats 2000000 in
theorem lay_c (A : Option Addr) (c : Nat) (S : List (SV Od)) (w : World) (h : Sl w w.heap.size A c S) (hn : S.length ≤ 65536) (ht : (layL (S.map SV.l)).length ≤ 65536) :
    Calls Tryz.prog 20 #[.slice A S.length c] w fun e w' => ∃ v, e = .returned v ∧ Own w' w.heap.size 50 v (layL (S.map SV.l)) ∧ Below w.heap.size w w' := by
  have e : S.flatMap SV.l = layL (S.map SV.l) := by unfold layL; rw [List.flatMap_def]
  have HC := Lib.hid (concat_od A c S w h hn (by rw [e]; exact ht))
  rw [e] at HC
  clear h e
  go_enter Tryz.func20, Tryz.ntmps20
  go_wp2_with fail
  refine HC.out.mono ?_
  rintro e w1 ⟨v, rfl, hO, hF⟩
  have HO := Lib.hid hO
  clear hO
  go_wp2
  go_ret
  exact ⟨v, rfl, HO.out, hF⟩
/-- foata.Normal -/
def normalB (S : List (List Od)) : Bool := validL (layL S) && sameS S (stepsL (layL S))
theorem stepsL_small {l : List Od} {L : List (SV Od)} (h : L.map SV.l = stepsL l) (hn : l.length ≤ 60000) (hl : ∀ x ∈ l, x.legs.length ≤ 10) : smallS L := by
  by_cases hv : validL l = true
  · rw [stepsL, if_pos hv] at h
    have hlen : L.length = (stepsV l).length := by rw [← h, List.length_map]
    refine ⟨?_, fun x hx => ?_⟩
    · rw [hlen, stepsV_len]
      have := (most_small l).2
      omega
    · have hm : x.l ∈ stepsV l := by rw [← h]; exact List.mem_map.2 ⟨x, hx, rfl⟩
      obtain ⟨s, hs, e⟩ := List.getElem_of_mem hm
      rw [stepsV_get hs] at e
      have hp : x.l.Perm (partP (levP l) s) := by rw [← e]; exact sortB_perm _
      refine ⟨?_, fun y hy => ?_⟩
      · rw [hp.length_eq]
        unfold partP
        rw [List.length_map]
        have := List.length_filter_le (fun p : Od × Int => decide (p.2 = (s : Int) + 1)) (levP l)
        rw [levP_len] at this
        omega
      · have := hp.mem_iff.1 hy
        obtain ⟨p, hp, rfl⟩ := List.mem_map.1 this
        refine hl _ ?_
        rw [← levP_fst l]
        exact List.mem_map.2 ⟨p, (List.mem_filter.1 hp).1, rfl⟩
  · rw [stepsL, if_neg hv] at h
    have : L = [] := List.map_eq_nil_iff.1 h
    subst this
    exact ⟨by simp, by simp⟩
set_option maxRecDepth 100000 in
set_option maxHeartbeats 4000000 in
theorem normal_c (A : Option Addr) (c : Nat) (S : List (SV Od)) (w : World) (h : Sl w w.heap.size A c S) (hS : smallS S) (ht : (layL (S.map SV.l)).length ≤ 60000) :
    Calls Tryz.prog 59 #[.slice A S.length c] w fun e w' => e = .returned (.bool (normalB (S.map SV.l))) ∧ Below w.heap.size w w' := by
  have HC := Lib.hid (lay_c A c S w h (Nat.le_trans hS.1 (by decide)) (by omega))
  have H := Lib.hid h
  have HS := Lib.hid hS
  have hlg : ∀ x ∈ layL (S.map SV.l), x.legs.length ≤ 10 := fun x hx => by
    obtain ⟨t, ht, hx⟩ := List.mem_flatten.1 hx
    obtain ⟨v, hv, rfl⟩ := List.mem_map.1 ht
    exact (hS.2 v hv).2 x hx
  have Hlg := Lib.hid hlg
  have HN := Lib.hid (show normalB (S.map SV.l) = (validL (layL (S.map SV.l)) && sameS (S.map SV.l) (stepsL (layL (S.map SV.l)))) from rfl)
  generalize normalB (S.map SV.l) = r at *
  clear h hS hlg
  generalize layL (S.map SV.l) = l at *
  go_enter Tryz.func59, Tryz.ntmps59
  go_wp2_with fail
  refine HC.out.mono ?_
  rintro e w1 ⟨v, rfl, hO, hF⟩
  obtain ⟨A1, c1, rfl, s1⟩ := hO.sl
  have hb1 := hF
  have HR := Lib.hid (right_c A1 c1 l w1 s1 (by omega))
  change Hid (Calls _ _ _ _ fun e w' => e = .returned (.bool (validL l)) ∧ Below w1.heap.size w1 w') at HR
  clear HC hO hF
  go_wp2_with fail
  refine HR.out.mono ?_
  rintro e w2 ⟨rfl, hF⟩
  have s2 := s1.later hF
  have hb2 := below_on hb1 (Nat.le_refl _) hF
  clear HR hF s1
  cases hv : validL l
  · have Hr := Lib.hid (show r = false by rw [HN.out, hv]; rfl)
    clear hv
    go_wp2
    go_ret
    exact ⟨by rw [Hr.out]; rfl, hb2⟩
  · have Hr := Lib.hid (show r = sameS (S.map SV.l) (stepsL l) by rw [HN.out, hv]; rfl)
    clear hv
    have HSt := Lib.hid (steps_c A1 c1 l w2 s2 ht Hlg.out)
    go_wp2_with fail
    refine HSt.out.mono ?_
    rintro e w3 ⟨v, L, rfl, hO, hm, hF⟩
    obtain ⟨A3, c3, rfl, s3⟩ := hO.sl
    have hb3 := below_on hb2 (Nat.le_refl _) hF
    have HE := Lib.hid (eqS_c A A3 c c3 S L w3 (H.out.later hb3) s3 HS.out (stepsL_small hm ht Hlg.out))
    rw [hm] at HE
    clear HSt hO hF hm
    go_wp2_with fail
    refine HE.out.mono ?_
    rintro e w4 ⟨rfl, hF⟩
    have hb4 := below_on hb3 (Nat.le_refl _) hF
    go_wp2
    go_ret
    exact ⟨by rw [Hr.out]; rfl, hb4⟩
end Go.Proofs.YtdkkblhfjblpkaaGreat

/- foata.write: the plain part -/
namespace Go.Proofs.YtdkkblhfjblpkaaGreat
open Go.RowKit
theorem SlS.byte_ {w : World} {S : Nat → Prop} {c : Nat} {A : Option Addr} {l : List UInt8} (h : SlS w S A c l) {k : Nat} (hk : k < l.length) : ∃ b o, A = some ⟨b, o, none⟩ ∧ S b ∧ w.cell? ⟨b, o + k, none⟩ = some (.int .u8 (l[k].toNat : Int)) := by
  obtain ⟨b, o, hA, hb, _, hc⟩ := h.at_ hk
  have h0 := hc 0 _ rfl
  rw [show k * Enc.size UInt8 + 0 = k from Nat.mul_one k] at h0
  exact ⟨b, o, hA, hb, h0⟩
/-- string(b) -/
theorem conv_str {w : World} {S : Nat → Prop} {A : Option Addr} {c : Nat} {l : List UInt8} (h : SlS w S A c l) (hp : 0 < l.length) : (convert 25 9 (.slice A l.length c)).run Tryz.prog w = .ok (.string ⟨l.toArray⟩) w := by
  obtain ⟨b, o, rfl, _, _⟩ := h.byte_ hp
  refine run_convert_bytes_back w _ _ 5 ⟨b, o, none⟩ c l (by kernel_rfl) (by kernel_rfl) (by kernel_rfl) fun j hj => ?_
  obtain ⟨b', o', hA, _, h0⟩ := h.byte_ hj
  injection hA with hA
  injection hA with hA1 hA2
  subst hA1 hA2
  have hadd : (⟨b, o, none⟩ : Addr).add j = ⟨b, o + j, none⟩ := by unfold Addr.add; split <;> simp_all
  rw [hadd]
  exact h0
/-- the bytes of an order, as a text -/
def wrO (x : Od) : List UInt8 := textB ⟨(bytesB x).toArray⟩
def wrS (s : List Od) : List UInt8 := numB s.length ++ s.flatMap wrO
def wrL (S : List (List Od)) : List UInt8 := numB S.length ++ S.flatMap wrS
def okW (S : List (List Od)) : Bool := S.all fun s => s.all rightB
theorem wrO_le {x : Od} (h : rightB x = true) (hr : InR x) : (wrO x).length ≤ 60010 := by
  have h1 := bytesB_le h hr
  unfold wrO textB
  have h2 : (ByteArray.mk (bytesB x).toArray).size = (bytesB x).length := rfl
  have := numB_le (n := ((ByteArray.mk (bytesB x).toArray).size : Int)) ⟨by omega, by rw [h2]; omega⟩
  rw [List.length_append]
  have h3 : (ByteArray.mk (bytesB x).toArray).data.toList.length = (bytesB x).length := rfl
  omega
theorem flat_next {α : Type} {l : List α} {f : α → List UInt8} {k : Nat} (hk : k < l.length) : (l.take (k + 1)).flatMap f = (l.take k).flatMap f ++ f l[k] := by
  rw [List.take_succ_eq_append_getElem hk, List.flatMap_append]
  simp
theorem all_next {α : Type} {l : List α} {f : α → Bool} {k : Nat} (hk : k < l.length) : (l.take (k + 1)).all f = ((l.take k).all f && f l[k]) := by
  rw [List.take_succ_eq_append_getElem hk, List.all_append]
  simp
theorem okW_no {S : List (List Od)} {s : List Od} {x : Od} (hs : s ∈ S) (hx : x ∈ s) (h : rightB x = false) : okW S = false := by
  unfold okW
  rw [List.all_eq_false]
  exact ⟨s, hs, by rw [Bool.not_eq_true, List.all_eq_false]; exact ⟨x, hx, by rw [h]; simp⟩⟩
theorem bytesB_pos (x : Od) (_h : rightB x = true) (_hr : InR x) : 0 < (bytesB x).length := by
  unfold bytesB
  rw [List.length_append, List.length_append, List.length_append]
  have : 0 < (textB x.note).length := by
    unfold textB
    rw [List.length_append]
    have : 0 < (numB x.note.size).length := Lib.uvarint_pos _
    omega
  omega
theorem Own.sl_ot {w w' : World} {B base : Nat} {t u : TypeId} {v a : Value} {l la : List UInt8} (h : Own w' B t v l) (ha : Own w base u a la) (hB : w.heap.size ≤ B) : ∃ A c, v = .slice A l.length c ∧ SlS w' (Oth w' a) A c l := by
  obtain ⟨⟨h1, h2⟩, h3⟩ := h
  rcases h2 with ⟨rfl, h0⟩ | ⟨g, cap, cur, rfl, hg, hh, hn, hm, hz, ht⟩
  · have : l = [] := List.length_eq_zero_iff.1 h0
    subst this
    exact ⟨none, 0, rfl, SlS.nil_ _ _⟩
  · refine ⟨_, _, rfl, hn, hm, fun _ => ⟨g, 0, rfl, ⟨(Array.getElem?_eq_some_iff.1 hh).1, fun hv => ?_⟩, fun j u hu => ?_⟩, fun _ _ => trivial⟩
    · have := (ha.1.lt g hv.symm).2
      omega
    · rw [cell_of_row w' g (0 + j) cur t (0, 0) hh, Nat.zero_add]
      rw [← ht, List.getElem?_take] at hu
      split at hu
      · rw [← hu]; simp
      · cases hu
def errW (S : List (List Od)) : Int := if okW S then 0 else 1
def outW (S : List (List Od)) : List UInt8 := if okW S then wrL S else []
theorem errW_ok {S : List (List Od)} (h : okW S = true) : errW S = 0 := by unfold errW; rw [if_pos h]
theorem errW_no {S : List (List Od)} (h : okW S = false) : errW S = 1 := by unfold errW; rw [h]; rfl
theorem outW_ok {S : List (List Od)} (h : okW S = true) : outW S = wrL S := by unfold outW; rw [if_pos h]
theorem outW_no {S : List (List Od)} (h : okW S = false) : outW S = [] := by unfold outW; rw [h]; rfl
end Go.Proofs.YtdkkblhfjblpkaaGreat

/- foata.write -/
namespace Go.Proofs.YtdkkblhfjblpkaaGreat
open Go.RowKit
set_option maxRecDepth 100000 in
set_option maxHeartbeats 8000000 in
theorem write_c (A : Option Addr) (c : Nat) (S : List (SV Od)) (w : World) (h : Sl w w.heap.size A c S) (hn : S.length ≤ 200) (hx : ∀ x ∈ S, x.l.length ≤ 200 ∧ ∀ y ∈ x.l, y.legs.length ≤ 10 ∧ InR y) :
    Calls Tryz.prog 61 #[.slice A S.length c] w fun e w' => ∃ v, e = .returned (.tuple #[v, i64 (errW (S.map SV.l))]) ∧ Own w' w.heap.size 5 v (outW (S.map SV.l)) ∧ Below w.heap.size w w' := by
  have HN := Lib.hid (fun (n : Nat) (W : World) (h : n ≤ 200) => num_c n W (by omega) (by omega))
  have Hx := Lib.hid hx
  have Hs := Lib.hid h
  have hcap : S.length ≤ c := h.1
  obtain ⟨E, hE⟩ : ∃ E, errW (S.map SV.l) = E := ⟨_, rfl⟩
  obtain ⟨U, hU⟩ : ∃ U, outW (S.map SV.l) = U := ⟨_, rfl⟩
  rw [hE, hU]
  have HE := Lib.hid hE
  have HU := Lib.hid hU
  clear hx h hE hU
  go_enter Tryz.func61, Tryz.ntmps61
  go_wp2_with fail
  refine (HN.out S.length w hn).mono ?_
  rintro e w1 ⟨v, rfl, hO, hF⟩
  have HO := Lib.hid hO
  have HL0 := Lib.hid (numB_le (n := S.length) ⟨by omega, by omega⟩)
  clear hO
  go_wp2_with fail
  go_loopw [4, 16] (fun b i wr => ∃ (q : Nat) (B : List UInt8), i = i64 q ∧ q ≤ S.length ∧ B = numB S.length ++ ((S.take q).map SV.l).flatMap wrS ∧ B.length ≤ 10 + q * 14000010 ∧ okW ((S.take q).map SV.l) = true ∧ Own wr w.heap.size 5 b B ∧ Below w.heap.size w wr) (fun _ i _ => S.length - (intOf i).toNat)
  case atStart => exact ⟨0, _, rfl, Nat.zero_le _, by simp, by have := HL0.out; omega, rfl, HO.out, hF⟩
  case round =>
    clear hF
    obtain ⟨q, B, rfl, hq, hB, hBl, hok, hO, hb⟩ := hrel
    have HB := Lib.hid hB
    have Hok := Lib.hid hok
    have HO := Lib.hid hO
    have HBl := Lib.hid hBl
    clear hB hok hO hBl
    by_cases hlt : q < S.length
    · have g1 : decide ((q : Int) < (S.length : Int)) = true := decide_eq_true (by omega)
      have g2 : decide (q < S.length) = true := decide_eq_true hlt
      have i0 : (0 : Int) ≤ (q : Int) := by omega
      have i1 : (q : Int) < (S.length : Int) := by omega
      have hx1 := Hx.out _ (List.getElem_mem hlt)
      have Hmem := Lib.hid (List.getElem_mem hlt)
      have Hne := Lib.hid (show ((S.take (q + 1)).map SV.l).flatMap wrS = ((S.take q).map SV.l).flatMap wrS ++ wrS S[q].l by rw [List.take_succ_eq_append_getElem hlt, List.map_append, List.flatMap_append]; rw [List.map_cons, List.map_nil, List.flatMap_cons, List.flatMap_nil, List.append_nil])
      have Hnk := Lib.hid (show okW ((S.take (q + 1)).map SV.l) = (okW ((S.take q).map SV.l) && S[q].l.all rightB) by unfold okW; rw [List.take_succ_eq_append_getElem hlt, List.map_append, List.all_append]; rw [List.map_cons, List.map_nil, List.all_cons, List.all_nil, Bool.and_true])
      obtain ⟨b6, o6, rfl, _, kx, p6⟩ := Hs.out.sv hlt
      have p6 := (hb.cell (World.block_lt_of_cell? _ _ p6)).trans p6
      obtain ⟨X, hX⟩ : ∃ X, S[q] = X := ⟨_, rfl⟩
      rw [hX] at hx1 Hne Hnk Hmem kx p6
      obtain ⟨A6, hA6⟩ : ∃ A6, X.a = A6 := ⟨_, rfl⟩
      rw [hA6] at kx p6
      have Hkx := Lib.hid kx
      have hXl := hx1.1
      have hXc : X.l.length ≤ X.c := kx.1
      have HXg := Lib.hid hx1.2
      clear hx1 hX hA6 kx
      go_wp2_with fail
      refine (HN.out X.l.length _ hXl).mono ?_
      rintro e w2 ⟨v, rfl, hO2, hF⟩
      obtain ⟨A2, c2, hv, hs2⟩ := hO2.sl_ot HO.out (Nat.le_refl _)
      subst hv
      have HO2 := Lib.hid (HO.out.later hF)
      have HS2 := Lib.hid hs2
      have hb2 := hb.trans (hF.mono hb.size)
      have HL2 := Lib.hid (numB_le (n := X.l.length) ⟨by omega, by omega⟩)
      clear hO2 hF hs2 hb p6
      go_wp2_with (at_builtin; refine wpList_append_slice rfl (some 24) (.tmp 20) (.tmp 23) 25 rfl rfl (.int .u8 0) 1 Tryz.underlying25 inf_byte rfl (by decide) (by decide) rfl HO2.out _ _ _ (numB X.l.length) rfl rfl HS2.out (by have := HBl.out; have := HL2.out; omega) hb2.size ?_; intro v3 w3 hO3 hg3 hat3)
      have hb3 := hb2.trans (HO2.out.below hg3 (Nat.le_refl _) hb2.size)
      have HO3 := Lib.hid hO3
      clear hO3 hg3 hat3
      go_loopw [4, 27] (fun b j wq => ∃ (m : Nat) (D : List UInt8), j = i64 m ∧ m ≤ X.l.length ∧ D = B ++ numB X.l.length ++ (X.l.take m).flatMap wrO ∧ D.length ≤ 20 + q * 14000010 + m * 60010 ∧ (X.l.take m).all rightB = true ∧ Own wq w.heap.size 5 b D ∧ Below w.heap.size w wq) (fun _ j _ => X.l.length - (intOf j).toNat)
      case atStart => exact ⟨0, _, rfl, Nat.zero_le _, by simp, by rw [List.length_append]; have := HBl.out; have := HL2.out; omega, rfl, HO3.out, hb3⟩
      case round =>
        clear hb2 hb3 HO3 HO2 HS2
        obtain ⟨m, D, rfl, hm, hD, hDl, hok, hO, hb⟩ := hrel
        have HD := Lib.hid hD
        have Hokm := Lib.hid hok
        have HO := Lib.hid hO
        have HDl := Lib.hid hDl
        clear hD hok hO hDl
        by_cases hml : m < X.l.length
        · have g3 : decide ((m : Int) < (X.l.length : Int)) = true := decide_eq_true (by omega)
          have g4 : decide (m < X.l.length) = true := decide_eq_true hml
          have j0 : (0 : Int) ≤ (m : Int) := by omega
          have j1 : (m : Int) < (X.l.length : Int) := by omega
          obtain ⟨bx, ox, rfl, _, hoky, d0, d1, d2, d3, d4, d5, d6, d7, d8, d9⟩ := (SlS.later Hkx.out hb).od hml
          have hy1 := HXg.out _ (List.getElem_mem hml)
          have Hym := Lib.hid (List.getElem_mem hml)
          have Hfn := Lib.hid (flat_next (f := wrO) hml)
          have Han := Lib.hid (all_next (f := rightB) hml)
          obtain ⟨y, hy⟩ : ∃ y, X.l[m] = y := ⟨_, rfl⟩
          rw [hy] at hoky d0 d1 d2 d3 d4 d5 d6 d7 d8 d9 hy1 Hym Hfn Han
          have hba := (Below.refl wr.heap.size wr).alloc (Nat.le_refl _) (.cells #[i64 y.client, i64 y.seq, i64 y.kind, .string y.acct, .string y.peer, i64 y.sum, .slice y.la y.legs.length y.lc, i64 y.period, i64 y.hold, .string y.note] 50)
          have hbb := hb.trans (hba.mono hb.size)
          have Hob := Lib.hid (HO.out.later hba)
          have HBy := Lib.hid (bytes_c y (wr.alloc (.cells #[i64 y.client, i64 y.seq, i64 y.kind, .string y.acct, .string y.peer, i64 y.sum, .slice y.la y.legs.length y.lc, i64 y.period, i64 y.hold, .string y.note] 50)) (Okb.later hoky hba) (by have := hy1.1; omega) hy1.2)
          unfold Od.v at HBy
          have Hin := Lib.hid hy1.2
          clear hy hoky hy1
          by_cases hr : rightB y = true
          · have hby := HBy.out
            rw [if_pos hr, if_pos hr] at hby
            have HBy := Lib.hid hby
            have hbl := bytesB_le hr Hin.out
            have hbp := bytesB_pos y hr Hin.out
            have hwl := wrO_le hr Hin.out
            have HT : Hid (∀ W : World, Calls Tryz.prog 117 #[.string ⟨(bytesB y).toArray⟩] W fun e w' => ∃ v, e = .returned v ∧ Own w' W.heap.size 5 v (wrO y) ∧ Below W.heap.size W w') := Lib.hid (fun W => text_c ⟨(bytesB y).toArray⟩ W hbl)
            have Hr := Lib.hid hr
            have Hwl := Lib.hid hwl
            have Hbp := Lib.hid hbp
            clear hby hbl hbp hwl hr
            go_wp2_with fail
            refine HBy.out.mono ?_
            rintro e w4 ⟨v, rfl, hO4, hF⟩
            obtain ⟨A4, c4, hv, hs4⟩ := hO4.sl_ot Hob.out (Nat.le_refl _)
            subst hv
            have hcv := conv_str hs4 Hbp.out
            have HO4 := Lib.hid (Hob.out.later hF)
            have hb4 := hbb.trans (hF.mono hbb.size)
            clear hO4 hF hs4 HBy Hob d0 d1 d2 d3 d4 d5 d6 d7 d8 d9 hba hbb
            go_wp2_with fail
            refine (HT.out _).mono ?_
            rintro e w5 ⟨v, rfl, hO5, hF⟩
            obtain ⟨A5, c5, hv, hs5⟩ := hO5.sl_ot HO4.out (Nat.le_refl _)
            subst hv
            have HO5 := Lib.hid (HO4.out.later hF)
            have HS5 := Lib.hid hs5
            have hb5 := hb4.trans (hF.mono hb4.size)
            clear hO5 hF hs5 hcv
            go_wp2_with (at_builtin; refine wpList_append_slice rfl (some 43) (.tmp 39) (.tmp 42) 25 rfl rfl (.int .u8 0) 1 Tryz.underlying25 inf_byte rfl (by decide) (by decide) rfl HO5.out _ _ _ (wrO y) rfl rfl HS5.out (by have := HDl.out; have := Hwl.out; omega) hb5.size ?_; intro v6 w6 hO6 hg6 hat6)
            have hb6 := hb5.trans (HO5.out.below hg6 (Nat.le_refl _) hb5.size)
            go_roundw
            case rel => exact ⟨m + 1, _, by go_num, by omega, by rw [HD.out, Hfn.out]; simp only [List.append_assoc], by rw [List.length_append]; have := HDl.out; have := Hwl.out; omega, by rw [Han.out, Hokm.out, Hr.out]; rfl, hO6, hb6⟩
            case measure => simp [intOf]; omega
          · have hby := HBy.out
            rw [if_neg hr, if_neg hr] at hby
            have HBy := Lib.hid hby
            have Hno := Lib.hid (okW_no (S := S.map SV.l) (List.mem_map.2 ⟨_, Hmem.out, rfl⟩) Hym.out (by simpa using hr))
            clear hby hr
            go_wp2_with fail
            refine HBy.out.mono ?_
            rintro e w4 ⟨v, rfl, hO4, hF⟩
            have hb4 := hbb.trans (hF.mono hbb.size)
            clear hO4 hF HBy Hob d0 d1 d2 d3 d4 d5 d6 d7 d8 d9 hba hbb
            go_wp2
            go_ret2
            obtain rfl : E = 1 := HE.out.symm.trans (errW_no Hno.out)
            obtain rfl : U = [] := HU.out.symm.trans (outW_no Hno.out)
            exact ⟨_, rfl, Own.nil_ _ _ _, hb4⟩
        · obtain rfl : m = X.l.length := by omega
          have g3 : decide ((X.l.length : Int) < (X.l.length : Int)) = false := decide_eq_false (by omega)
          have Hta := Lib.hid (List.take_length (l := X.l))
          go_wp2
          go_roundw
          case rel => exact ⟨q + 1, D, by go_num, by omega, by rw [HD.out, Hta.out, Hne.out, HB.out]; unfold wrS; simp only [List.append_assoc], by have := HDl.out; omega, by rw [Hnk.out, Hok.out]; have := Hokm.out; rw [Hta.out] at this; rw [this]; rfl, HO.out, hb⟩
          case measure => simp [intOf]; omega
    · obtain rfl : q = S.length := by omega
      have g1 : decide ((S.length : Int) < (S.length : Int)) = false := decide_eq_false (by omega)
      have hfin := Hok.out
      have hfb := HB.out
      rw [List.take_length] at hfin hfb
      have Hfin := Lib.hid hfin
      have hfb2 : B = wrL (S.map SV.l) := by unfold wrL; rw [List.length_map]; exact hfb
      have Hfb := Lib.hid hfb2
      clear hfin hfb hfb2
      go_wp2
      go_ret2
      obtain rfl : E = 0 := HE.out.symm.trans (errW_ok Hfin.out)
      obtain rfl : U = wrL (S.map SV.l) := HU.out.symm.trans (outW_ok Hfin.out)
      exact ⟨_, rfl, (by have := HO.out; rw [Hfb.out] at this; exact this), hb⟩
end Go.Proofs.YtdkkblhfjblpkaaGreat

/- foata.Export -/
namespace Go.Proofs.YtdkkblhfjblpkaaGreat
open Go.RowKit
theorem stepsL_in {l : List Od} {L : List (SV Od)} (h : L.map SV.l = stepsL l) : L.length ≤ l.length ∧ ∀ x ∈ L, x.l.length ≤ l.length ∧ ∀ y ∈ x.l, y ∈ l := by
  by_cases hv : validL l = true
  · rw [stepsL, if_pos hv] at h
    have hlen : L.length = (stepsV l).length := by rw [← h, List.length_map]
    refine ⟨?_, fun x hx => ?_⟩
    · rw [hlen, stepsV_len]
      have := (most_small l).2
      omega
    · have hm : x.l ∈ stepsV l := by rw [← h]; exact List.mem_map.2 ⟨x, hx, rfl⟩
      obtain ⟨s, hs, e⟩ := List.getElem_of_mem hm
      rw [stepsV_get hs] at e
      have hp : x.l.Perm (partP (levP l) s) := by rw [← e]; exact sortB_perm _
      refine ⟨?_, fun y hy => ?_⟩
      · rw [hp.length_eq]
        unfold partP
        rw [List.length_map]
        have := List.length_filter_le (fun p : Od × Int => decide (p.2 = (s : Int) + 1)) (levP l)
        rw [levP_len] at this
        omega
      · have := hp.mem_iff.1 hy
        obtain ⟨p, hp, rfl⟩ := List.mem_map.1 this
        have h2 : p.1 ∈ (levP l).map (·.1) := List.mem_map.2 ⟨p, (List.mem_filter.1 hp).1, rfl⟩
        rwa [levP_fst] at h2
  · rw [stepsL, if_neg hv] at h
    have : L = [] := List.map_eq_nil_iff.1 h
    subst this
    exact ⟨by simp, by simp⟩
def okX (l : List Od) : Bool := decide (l.length ≤ 200) && validL l
def errX (l : List Od) : Int := if okX l then errW (stepsL l) else 1
def outX (l : List Od) : List UInt8 := if okX l then outW (stepsL l) else []
theorem errX_ok {l : List Od} (h : okX l = true) : errX l = errW (stepsL l) := by unfold errX; rw [if_pos h]
theorem errX_no {l : List Od} (h : okX l = false) : errX l = 1 := by unfold errX; rw [h]; rfl
theorem outX_ok {l : List Od} (h : okX l = true) : outX l = outW (stepsL l) := by unfold outX; rw [if_pos h]
theorem outX_no {l : List Od} (h : okX l = false) : outX l = [] := by unfold outX; rw [h]; rfl
set_option maxRecDepth 100000 in
set_option maxHeartbeats 4000000 in
theorem export_c (A : Option Addr) (c : Nat) (l : List Od) (w : World) (h : Sl w w.heap.size A c l) (hn : l.length ≤ 60000) (hl : ∀ x ∈ l, x.legs.length ≤ 10) (hr : ∀ x ∈ l, InR x) :
    Calls Tryz.prog 13 #[.slice A l.length c] w fun e w' => ∃ v, e = .returned (.tuple #[v, i64 (errX l)]) ∧ Own w' w.heap.size 5 v (outX l) ∧ Below w.heap.size w w' := by
  have hR0 : Calls Tryz.prog 60 #[.slice A l.length c] w fun e w' => e = .returned (.bool (validL l)) ∧ Below w.heap.size w w' := right_c A c l w h (by omega)
  have HR := Lib.hid hR0
  have HS := Lib.hid (fun W (h : Sl W W.heap.size A c l) => steps_c A c l W h hn hl)
  have Hs := Lib.hid h
  have Hr := Lib.hid hr
  have Hl := Lib.hid hl
  have hcap : l.length ≤ c := h.1
  obtain ⟨E, hE⟩ : ∃ E, errX l = E := ⟨_, rfl⟩
  obtain ⟨U, hU⟩ : ∃ U, outX l = U := ⟨_, rfl⟩
  rw [hE, hU]
  have HE := Lib.hid hE
  have HU := Lib.hid hU
  clear h hr hl hE hU hR0
  go_enter Tryz.func13, Tryz.ntmps13
  by_cases hbig : l.length > 200
  · have g1 : decide ((l.length : Int) > 200) = true := decide_eq_true (by omega)
    have g2 : decide (l.length > 200) = true := decide_eq_true hbig
    have g3 : decide (200 < (l.length : Int)) = true := decide_eq_true (by omega)
    have g4 : decide (200 < l.length) = true := decide_eq_true hbig
    have Hno := Lib.hid (show okX l = false by unfold okX; rw [decide_eq_false (by omega)]; rfl)
    clear hbig
    go_wp2
    go_ret2
    obtain rfl : E = 1 := HE.out.symm.trans (errX_no Hno.out)
    obtain rfl : U = [] := HU.out.symm.trans (outX_no Hno.out)
    exact ⟨_, rfl, Own.nil_ _ _ _, by first | exact Below.refl _ _ | exact (Below.refl _ _).drew⟩
  · have g1 : decide ((l.length : Int) > 200) = false := decide_eq_false (by omega)
    have g2 : decide (l.length > 200) = false := decide_eq_false hbig
    have g3 : decide (200 < (l.length : Int)) = false := decide_eq_false (by omega)
    have g4 : decide (200 < l.length) = false := decide_eq_false hbig
    have hsm : l.length ≤ 200 := by omega
    clear hbig
    cases hv : validL l
    · have Hno := Lib.hid (show okX l = false by unfold okX; rw [hv, Bool.and_false])
      have hR := HR.out
      rw [hv] at hR
      have HR := Lib.hid hR
      clear hv hR
      go_wp2_with fail
      refine HR.out.mono ?_
      rintro e w1 ⟨rfl, hb1⟩
      go_wp2
      go_ret2
      obtain rfl : E = 1 := HE.out.symm.trans (errX_no Hno.out)
      obtain rfl : U = [] := HU.out.symm.trans (outX_no Hno.out)
      exact ⟨_, rfl, Own.nil_ _ _ _, hb1⟩
    · have Hok := Lib.hid (show okX l = true by unfold okX; rw [hv, decide_eq_true hsm]; rfl)
      have hR := HR.out
      rw [hv] at hR
      have HR := Lib.hid hR
      clear hv hR
      go_wp2_with fail
      refine HR.out.mono ?_
      rintro e w1 ⟨rfl, hb1⟩
      clear HR
      go_wp2_with fail
      refine (HS.out _ (Hs.out.later hb1)).mono ?_
      rintro e w2 ⟨v, L, rfl, hO, hm, hF⟩
      obtain ⟨A2, c2, rfl, s2⟩ := hO.sl
      have hin := stepsL_in hm
      have HW := Lib.hid (write_c A2 c2 L w2 s2 (by omega) (fun x hx => ⟨by have := (hin.2 x hx).1; omega, fun y hy => ⟨Hl.out y ((hin.2 x hx).2 y hy), Hr.out y ((hin.2 x hx).2 y hy)⟩⟩))
      rw [hm] at HW
      have hb2 := below_on hb1 (Nat.le_refl _) hF
      clear hO hF hm HS hin s2
      go_wp2_with fail
      refine HW.out.mono ?_
      rintro e w3 ⟨v, rfl, hO, hF⟩
      have hb3 := hb2.trans (hF.mono hb2.size)
      have HO := Lib.hid (hO.mono hb2.size)
      clear hO hF
      go_wp2
      go_ret2
      obtain rfl : E = errW (stepsL l) := HE.out.symm.trans (errX_ok Hok.out)
      obtain rfl : U = outW (stepsL l) := HU.out.symm.trans (outX_ok Hok.out)
      exact ⟨v, rfl, HO.out, hb3⟩
end Go.Proofs.YtdkkblhfjblpkaaGreat

/- FoataAlike: the plain law -/
namespace Go.Proofs.YtdkkblhfjblpkaaGreat
open Go.RowKit
theorem numB_inj {n m : Int} {t u : List UInt8} (hn : R64 n) (hm : R64 m) (h : numB n ++ t = numB m ++ u) : n = m ∧ t = u := by
  have h1 := nuR_enc hn t
  have h2 := nuR_enc hm u
  rw [h, h2] at h1
  injection h1 with a b
  injection a with a _
  injection b with _ b
  exact ⟨a.symm, b.symm⟩
theorem textB_inj {s r : ByteArray} {t u : List UInt8} (hs : s.size ≤ 60000) (hr : r.size ≤ 60000) (h : textB s ++ t = textB r ++ u) : s.data.toList = r.data.toList ∧ t = u := by
  unfold textB at h
  rw [List.append_assoc, List.append_assoc] at h
  obtain ⟨h1, h2⟩ := numB_inj (n := s.size) (m := r.size) ⟨by omega, by omega⟩ ⟨by omega, by omega⟩ h
  have hl : s.data.toList.length = r.data.toList.length := by
    have e1 : s.data.toList.length = s.size := rfl
    have e2 : r.data.toList.length = r.size := rfl
    omega
  exact List.append_inj h2 hl
theorem wrO_inj {x y : Od} {t u : List UInt8} (hx : (bytesB x).length ≤ 60000) (hy : (bytesB y).length ≤ 60000) (h : wrO x ++ t = wrO y ++ u) : bytesB x = bytesB y ∧ t = u := by
  obtain ⟨h1, h2⟩ := textB_inj (s := ⟨(bytesB x).toArray⟩) (r := ⟨(bytesB y).toArray⟩) hx hy h
  exact ⟨by simpa using h1, h2⟩
theorem wrO_K (x : Od) : wrO x.core = wrO x := rfl
theorem wrS_K (s : List Od) : wrS (K s) = wrS s := by
  unfold wrS K
  rw [List.length_map, List.flatMap_map]
  rfl
theorem wrL_K (S : List (List Od)) : wrL (S.map K) = wrL S := by
  unfold wrL
  rw [List.length_map, List.flatMap_map]
  congr 1
  induction S with
  | nil => rfl
  | cons s r ih => rw [List.flatMap_cons, List.flatMap_cons, ih, wrS_K]
theorem flatO_inj : ∀ {a b : List Od} {t u : List UInt8}, a.length = b.length → (∀ x ∈ a, (bytesB x).length ≤ 60000) → (∀ x ∈ b, (bytesB x).length ≤ 60000) → a.flatMap wrO ++ t = b.flatMap wrO ++ u → a.map bytesB = b.map bytesB ∧ t = u
  | [], [], _, _, _, _, _, h => ⟨rfl, by simpa using h⟩
  | [], _ :: _, _, _, hl, _, _, _ => by simp at hl
  | _ :: _, [], _, _, hl, _, _, _ => by simp at hl
  | x :: a, y :: b, t, u, hl, ha, hb, h => by
    rw [List.flatMap_cons, List.flatMap_cons, List.append_assoc, List.append_assoc] at h
    obtain ⟨h1, h2⟩ := wrO_inj (ha x (List.mem_cons_self ..)) (hb y (List.mem_cons_self ..)) h
    obtain ⟨h3, h4⟩ := flatO_inj (by simpa using hl) (fun z hz => ha z (List.mem_cons_of_mem _ hz)) (fun z hz => hb z (List.mem_cons_of_mem _ hz)) h2
    exact ⟨by rw [List.map_cons, List.map_cons, h1, h3], h4⟩
theorem wrS_inj {a b : List Od} {t u : List UInt8} (hla : a.length ≤ 60000) (hlb : b.length ≤ 60000) (ha : ∀ x ∈ a, (bytesB x).length ≤ 60000) (hb : ∀ x ∈ b, (bytesB x).length ≤ 60000) (h : wrS a ++ t = wrS b ++ u) : a.map bytesB = b.map bytesB ∧ t = u := by
  unfold wrS at h
  rw [List.append_assoc, List.append_assoc] at h
  obtain ⟨h1, h2⟩ := numB_inj (n := a.length) (m := b.length) ⟨by omega, by omega⟩ ⟨by omega, by omega⟩ h
  exact flatO_inj (by omega) ha hb h2
def smB (S : List (List Od)) : Prop := ∀ s ∈ S, s.length ≤ 60000 ∧ ∀ x ∈ s, (bytesB x).length ≤ 60000
theorem flatS_inj : ∀ {S T : List (List Od)} {t u : List UInt8}, S.length = T.length → smB S → smB T → S.flatMap wrS ++ t = T.flatMap wrS ++ u → S.map (fun s => s.map bytesB) = T.map (fun s => s.map bytesB) ∧ t = u
  | [], [], _, _, _, _, _, h => ⟨rfl, by simpa using h⟩
  | [], _ :: _, _, _, hl, _, _, _ => by simp at hl
  | _ :: _, [], _, _, hl, _, _, _ => by simp at hl
  | x :: a, y :: b, t, u, hl, ha, hb, h => by
    rw [List.flatMap_cons, List.flatMap_cons, List.append_assoc, List.append_assoc] at h
    have hx := ha x (List.mem_cons_self ..)
    have hy := hb y (List.mem_cons_self ..)
    obtain ⟨h1, h2⟩ := wrS_inj hx.1 hy.1 hx.2 hy.2 h
    obtain ⟨h3, h4⟩ := flatS_inj (by simpa using hl) (fun z hz => ha z (List.mem_cons_of_mem _ hz)) (fun z hz => hb z (List.mem_cons_of_mem _ hz)) h2
    exact ⟨by rw [List.map_cons, List.map_cons, h1, h3], h4⟩
/-- what is written says what was written -/
theorem wrL_inj {S T : List (List Od)} (hS : S.length ≤ 60000) (hT : T.length ≤ 60000) (hs : smB S) (ht : smB T) (h : wrL S = wrL T) : S.map (fun s => s.map bytesB) = T.map (fun s => s.map bytesB) := by
  unfold wrL at h
  have h' : numB S.length ++ (S.flatMap wrS ++ []) = numB T.length ++ (T.flatMap wrS ++ []) := by rw [List.append_nil, List.append_nil]; exact h
  obtain ⟨h1, h2⟩ := numB_inj (n := S.length) (m := T.length) ⟨by omega, by omega⟩ ⟨by omega, by omega⟩ h'
  exact (flatS_inj (by omega) hs ht h2).1
end Go.Proofs.YtdkkblhfjblpkaaGreat

/- FoataMore: the plain law -/
namespace Go.Proofs.YtdkkblhfjblpkaaGreat
open Go.RowKit
theorem sort_unique_val {l m : List Od} (hp : l.Perm m) (hv : Val l) (hl : SortedB ltO l) (hm : SortedB ltO m) : l = m :=
  sorted_unique hp hl hm fun _a ha _b hb h1 h2 => hv.inj ha hb (ltO_tri h1 h2)
/-- one order more: its step, and the others -/
theorem step_more {M : List Od} {o : Od} (hv : Val (M ++ [o])) (i : Nat) :
    (stepP (levP (M ++ [o])) i).filter (fun x => !decide (x.id = o.id)) = stepP (levP M) i ∧ ((o ∈ stepP (levP (M ++ [o])) i) ↔ (i : Int) + 1 = lvAt (levP M) o) := by
  have hM : Val M := hv.sub (List.sublist_append_left _ _)
  have hno : ∀ y ∈ M, y.id ≠ o.id := fun y hy => by
    have := (List.pairwise_append.1 hv).2.2 y hy o (List.mem_singleton.2 rfl)
    exact this
  have hmem : ∀ y, y ∈ stepP (levP M) i → y ∈ M := fun y hy => by
    rw [mem_step] at hy
    have : y ∈ (levP M).map (·.1) := List.mem_map.2 ⟨_, hy, rfl⟩
    rwa [levP_fst] at this
  have hoM : o ∉ M := fun h => hno o h rfl
  refine ⟨?_, ?_⟩
  · refine sort_unique_val ?_ ?_ ?_ (sortB_sorted strictO _)
    · unfold stepP
      have h1 : (sortB ltO (((levP (M ++ [o])).filter fun p => decide (p.2 = (i : Int) + 1)).map (·.1))).Perm (((levP (M ++ [o])).filter fun p => decide (p.2 = (i : Int) + 1)).map (·.1)) := sortB_perm _
      refine (h1.filter _).trans (List.Perm.trans ?_ (sortB_perm _).symm)
      rw [levP_snoc, List.filter_append, List.map_append, List.filter_append]
      have e1 : (((levP M).filter fun p => decide (p.2 = (i : Int) + 1)).map (·.1)).filter (fun x => !decide (x.id = o.id)) = ((levP M).filter fun p => decide (p.2 = (i : Int) + 1)).map (·.1) := by
        rw [List.filter_eq_self]
        intro y hy
        have : y ∈ M := hmem y ((sortB_perm _).mem_iff.2 hy)
        simpa using hno y this
      rw [e1]
      have e2 : ((([(o, lvAt (levP M) o)] : List (Od × Int)).filter fun p => decide (p.2 = (i : Int) + 1)).map (·.1)).filter (fun x => !decide (x.id = o.id)) = [] := by
        rw [List.filter_eq_nil_iff]
        intro y hy
        obtain ⟨p, hp, rfl⟩ := List.mem_map.1 hy
        have := List.mem_singleton.1 (List.mem_filter.1 hp).1
        subst this
        simp
      rw [e2, List.append_nil]
    · exact (show Val (stepP (levP (M ++ [o])) i) from by
        have := step_srt (P := levP (M ++ [o])) (by rw [levP_fst]; exact hv) i
        exact this.imp fun h => ltO_irr_id h).sub List.filter_sublist
    · exact List.Pairwise.sublist List.filter_sublist (sortB_sorted strictO _)
  · rw [mem_step, levP_snoc, List.mem_append]
    constructor
    · rintro (h | h)
      · have : o ∈ (levP M).map (·.1) := List.mem_map.2 ⟨_, h, rfl⟩
        rw [levP_fst] at this
        exact absurd this hoM
      · have := List.mem_singleton.1 h
        injection this
    · intro h
      right
      rw [h]
      exact List.mem_singleton.2 rfl
/-- the first step behind all that clash: as the statement finds it -/
def wantF (o : Od) : List (List Od) → Nat → Nat → Nat
  | [], _, w => w
  | s :: r, i, w => wantF o r (i + 1) (if s.any (fun x => clashB x o) then i + 1 else w)
theorem wantF_spec (o : Od) : ∀ (S : List (List Od)) (i w : Nat), w ≤ i → (∀ k (hk : k < S.length), (S[k].any (fun x => clashB x o)) = true → i + k + 1 ≤ wantF o S i w) ∧ w ≤ wantF o S i w ∧ (wantF o S i w = w ∨ ∃ k, ∃ hk : k < S.length, (S[k].any (fun x => clashB x o)) = true ∧ wantF o S i w = i + k + 1)
  | [], i, w, _ => ⟨fun k hk => absurd hk (by simp), Nat.le_refl _, .inl rfl⟩
  | s :: r, i, w, hw => by
    unfold wantF
    by_cases hs : s.any (fun x => clashB x o) = true
    · rw [if_pos hs]
      obtain ⟨h1, h2, h3⟩ := wantF_spec o r (i + 1) (i + 1) (Nat.le_refl _)
      refine ⟨fun k hk hc => ?_, by omega, ?_⟩
      · cases k with
        | zero => omega
        | succ k =>
          rw [List.getElem_cons_succ] at hc
          have := h1 k (by simpa using hk) hc
          omega
      · rcases h3 with h3 | ⟨k, hk, hc, e⟩
        · exact .inr ⟨0, by simp, hs, h3⟩
        · exact .inr ⟨k + 1, by simpa using hk, by rw [List.getElem_cons_succ]; exact hc, by omega⟩
    · rw [if_neg hs]
      obtain ⟨h1, h2, h3⟩ := wantF_spec o r (i + 1) w (by omega)
      refine ⟨fun k hk hc => ?_, h2, ?_⟩
      · cases k with
        | zero => exact absurd hc (by simpa using hs)
        | succ k =>
          rw [List.getElem_cons_succ] at hc
          have := h1 k (by simpa using hk) hc
          omega
      · rcases h3 with h3 | ⟨k, hk, hc, e⟩
        · exact .inl h3
        · exact .inr ⟨k + 1, by simpa using hk, by rw [List.getElem_cons_succ]; exact hc, by omega⟩
theorem want_lv {M : List Od} {o : Od} : ((wantF o (stepsV M) 0 0 : Nat) : Int) + 1 = lvAt (levP M) o := by
  obtain ⟨h1, _, h3⟩ := wantF_spec o (stepsV M) 0 0 (Nat.le_refl _)
  have up : ∀ p ∈ levP M, clashB p.1 o = true → p.2 ≤ (wantF o (stepsV M) 0 0 : Int) := fun p hp hc => by
    have hs := levP_small hp
    have hm := most_le hp
    have hk : (p.2 - 1).toNat < (stepsV M).length := by rw [stepsV_len]; omega
    have := h1 (p.2 - 1).toNat hk (by
      rw [stepsV_get hk, List.any_eq_true]
      exact ⟨p.1, mem_step.2 (by rw [show (((p.2 - 1).toNat : Nat) : Int) + 1 = p.2 from by omega]; exact hp), hc⟩)
    omega
  rcases h3 with h3 | ⟨k, hk, hc, e⟩
  · rw [h3]
    rcases lvAt_ex (levP M) o with e | ⟨p, hp, hc, e⟩
    · rw [e]; rfl
    · have := up p hp hc
      have h5 := (levP_small hp).1
      rw [h3] at this
      omega
  · rw [stepsV_get hk, List.any_eq_true] at hc
    obtain ⟨x, hx, hc⟩ := hc
    rw [mem_step] at hx
    have h4 := lvAt_lt hx hc
    have h4 : (k : Int) + 1 < lvAt (levP M) o := h4
    rcases lvAt_ex (levP M) o with e2 | ⟨p, hp, hc, e2⟩
    · omega
    · have := up p hp hc
      omega
/-- what the statement finds: the step behind all that clash -/
def wantU (o : Od) (S : List (List Od)) : Nat := wantF o S 0 0
theorem wantF_app (o : Od) : ∀ (S T : List (List Od)) (i w : Nat), wantF o (S ++ T) i w = wantF o T (i + S.length) (wantF o S i w)
  | [], T, i, w => by rw [List.nil_append, List.length_nil, Nat.add_zero]; rfl
  | s :: S, T, i, w => by
    rw [List.cons_append, List.length_cons]
    unfold wantF
    rw [wantF_app o S T, show i + 1 + S.length = i + (S.length + 1) by omega]
    cases T <;> rfl
theorem wantU_next (o : Od) {S : List (List Od)} {k : Nat} (hk : k < S.length) : wantU o (S.take (k + 1)) = if S[k].any (fun x => clashB x o) then k + 1 else wantU o (S.take k) := by
  unfold wantU
  rw [List.take_succ_eq_append_getElem hk, wantF_app, List.length_take, Nat.min_eq_left (Nat.le_of_lt hk), Nat.zero_add]
  rfl
theorem wantU_le (o : Od) (S : List (List Od)) : wantU o S ≤ S.length := by
  obtain ⟨_, _, h⟩ := wantF_spec o S 0 0 (Nat.le_refl _)
  unfold wantU
  rcases h with h | ⟨k, hk, _, e⟩ <;> omega
theorem most_snoc (P : List (Od × Int)) (p : Od × Int) : mostP (P ++ [p]) = max (mostP P) p.2 := by
  unfold mostP
  rw [List.foldl_append]
  show (if _ < p.2 then p.2 else _) = _
  split <;> omega
theorem more_plain {M : List Od} {o : Od} (hv : Val (M ++ [o])) {S1 S2 : List (SV Od)} (h1 : S1.map SV.l = stepsL M) (h2 : S2.map SV.l = stepsL (M ++ [o])) :
    S2.length = max S1.length (wantU o (S1.map SV.l) + 1) ∧ ∀ i (hi : i < S2.length), (∀ h : i < S1.length, (S2[i].l.filter (fun x => !decide (x.id = o.id))) = S1[i].l) ∧ (((S2[i].l.filter (fun x => !decide (x.id = o.id))).length < S2[i].l.length) ↔ i = wantU o (S1.map SV.l)) := by
  have hM : Val M := hv.sub (List.sublist_append_left _ _)
  have e1 : stepsL M = stepsV M := by unfold stepsL; rw [if_pos (validL_iff.2 hM)]
  have e2 : stepsL (M ++ [o]) = stepsV (M ++ [o]) := by unfold stepsL; rw [if_pos (validL_iff.2 hv)]
  rw [e1] at h1
  rw [e2] at h2
  have l1 : S1.length = (stepsV M).length := by rw [← h1, List.length_map]
  have l2 : S2.length = (stepsV (M ++ [o])).length := by rw [← h2, List.length_map]
  have hw : ((wantU o (S1.map SV.l) : Nat) : Int) + 1 = lvAt (levP M) o := by rw [h1]; exact want_lv
  have hg1 : ∀ i (h : i < S1.length), S1[i].l = stepP (levP M) i := fun i h => by
    have e : (S1.map SV.l)[i]? = (stepsV M)[i]? := by rw [h1]
    rw [List.getElem?_eq_getElem (by rw [List.length_map]; exact h), List.getElem?_eq_getElem (by omega), List.getElem_map, stepsV_get] at e
    exact Option.some.inj e
  have hg2 : ∀ i (h : i < S2.length), S2[i].l = stepP (levP (M ++ [o])) i := fun i h => by
    have e : (S2.map SV.l)[i]? = (stepsV (M ++ [o]))[i]? := by rw [h2]
    rw [List.getElem?_eq_getElem (by rw [List.length_map]; exact h), List.getElem?_eq_getElem (by omega), List.getElem_map, stepsV_get] at e
    exact Option.some.inj e
  refine ⟨?_, fun i hi => ?_⟩
  · rw [l1, l2, stepsV_len, stepsV_len, levP_snoc, most_snoc]
    show (max (mostP (levP M)) (lvAt (levP M) o)).toNat = _
    omega
  · obtain ⟨a, b⟩ := step_more hv i
    rw [hg2 i hi]
    refine ⟨fun h => by rw [a, hg1 i h], ?_⟩
    constructor
    · intro hlt
      have : o ∈ stepP (levP (M ++ [o])) i := by
        obtain ⟨x, hx, hxo⟩ := List.length_filter_lt_length_iff_exists.1 hlt
        have hid : x.id = o.id := by simpa using hxo
        have hxm : x ∈ M ++ [o] := by
          rw [mem_step] at hx
          have : x ∈ (levP (M ++ [o])).map (·.1) := List.mem_map.2 ⟨_, hx, rfl⟩
          rwa [levP_fst] at this
        have : x = o := hv.inj hxm (by simp) hid
        rw [this] at hx; exact hx
      have := b.1 this
      omega
    · intro e
      exact List.length_filter_lt_length_iff_exists.2 ⟨o, b.2 (by omega), by simp⟩
theorem more_at {L : List Od} {k : Nat} (hk : L.length = k + 1) (hv : Val L) {S1 S2 : List (SV Od)} (h1 : S1.map SV.l = stepsL (L.take k)) (h2 : S2.map SV.l = stepsL L) :
    S2.length = max S1.length (wantU (L[k]'(by omega)) (S1.map SV.l) + 1) ∧ ∀ i (hi : i < S2.length), (∀ h : i < S1.length, (S2[i].l.filter (fun x => !decide (x.id = (L[k]'(by omega)).id))) = S1[i].l) ∧ (((S2[i].l.filter (fun x => !decide (x.id = (L[k]'(by omega)).id))).length < S2[i].l.length) ↔ i = wantU (L[k]'(by omega)) (S1.map SV.l)) := by
  have hkl : k < L.length := by omega
  have e : L.take k ++ [L[k]] = L := by rw [← List.take_succ_eq_append_getElem hkl, ← hk, List.take_length]
  exact more_plain (M := L.take k) (o := L[k]) (by rw [e]; exact hv) h1 (by rw [e]; exact h2)
/-- the step behind all that clash, of the first steps alone -/
def wantS (o : Od) (S : List (SV Od)) (n : Nat) : Nat := wantU o ((S.take n).map SV.l)
theorem wantS_zero (o : Od) (S : List (SV Od)) : wantS o S 0 = 0 := rfl
theorem wantS_all (o : Od) (S : List (SV Od)) : wantS o S S.length = wantU o (S.map SV.l) := by unfold wantS; rw [List.take_length]
theorem wantS_next (o : Od) {S : List (SV Od)} {k : Nat} (hk : k < S.length) : wantS o S (k + 1) = if S[k].l.any (fun x => clashB x o) then k + 1 else wantS o S k := by
  unfold wantS
  rw [List.map_take, List.map_take, wantU_next o (by rw [List.length_map]; exact hk), List.getElem_map]
theorem wantS_le (o : Od) (S : List (SV Od)) (n : Nat) : wantS o S n ≤ S.length := by
  have := wantU_le o ((S.take n).map SV.l)
  unfold wantS
  rw [List.length_map, List.length_take] at this
  omega
theorem filter_next {l : List Od} {f : Od → Bool} {p : Nat} (hp : p < l.length) : (l.take (p + 1)).filter f = (l.take p).filter f ++ (if f l[p] then [l[p]] else []) := by
  rw [List.take_succ_eq_append_getElem hp, List.filter_append]
  cases h : f l[p] <;> simp [h]
theorem filter_len_le (l : List Od) (f : Od → Bool) (p : Nat) : ((l.take p).filter f).length ≤ l.length :=
  Nat.le_trans (List.length_filter_le _ _) (by rw [List.length_take]; omega)
theorem row_on {w w' : World} {g : Nat} {o : Obj} (h : w.heap[g]? = some o) (hb : Below w.heap.size w w') : w'.heap[g]? = some o := (hb.block g (Array.getElem?_eq_some_iff.1 h).1).trans h
end Go.Proofs.YtdkkblhfjblpkaaGreat
