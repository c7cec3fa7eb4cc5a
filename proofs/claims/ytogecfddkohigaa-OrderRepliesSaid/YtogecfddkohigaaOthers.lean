/- clash.others, Rest, Meet, Swap -/
import Derived.Test.YtogecfddkohigaaRows
import Derived.Test.YtogecfddkohigaaBegins
import Derived.Test.YtogecfddkohigaaFnO
import Derived.Test.YtogecfddkohigaaSlO
import Derived.WalkKit
import Derived.WalkSpells
import Derived.WalkLawsBesides
import Derived.Deep.QuietTactic
import Derived.BigQuiet
import Derived.Laws.StructEq
import Derived.Deep.DeepFit
import Derived.StillTailTactics
namespace Go.Proofs.Ytogecfddkohigaa
open Go.RowKit
/-- those of b whose Id is not in a -/
def othersL (a b : List Od) : List Od := b.filter fun x => !(posN a x.id).isSome

set_option maxRecDepth 100000 in
set_option maxHeartbeats 400000 in
theorem others1_c (x : Od) (g b : Nat) (M : List (Id × Nat)) (w : World) (hg : w.cell? ⟨g, 0, none⟩ = some (.map (some b))) (hm : MapIs Id.v w b (natV M)) (hgl : g < w.heap.size) :
    Calls Try.prog 88 #[x.v, .pointer (some ⟨g, 0, none⟩)] w fun e w' => e = .returned (.bool (getM M x.id).isSome) ∧ Below w.heap.size w w' := by
  have hB := (Below.refl w.heap.size w).alloc (Nat.le_refl _) (.cells #[i64 x.client, i64 x.seq, i64 x.kind, .string x.acct, .string x.peer, i64 x.sum, .slice x.la x.legs.length x.lc, i64 x.period, i64 x.hold, .string x.note] 30)
  have hlk := run_lookup (P := Try.prog) idKey Try.underlying67 (hm.later hB) x.id (i64 0) (by kernel_rfl) true
  rw [getM_map (fun n : Nat => i64 n)] at hlk
  simp only [Option.isSome_map, if_true, Id.v, Od.id] at hlk
  unfold Od.v
  have HB := Lib.hid hB
  clear hB hm
  change Calls _ _ _ _ fun e w' => e = .returned (.bool (getM M ⟨x.client, x.seq⟩).isSome) ∧ Below w.heap.size w w'
  generalize getM M ⟨x.client, x.seq⟩ = r at *
  go_enter Try.func88, Try.ntmps88
  go_wp2
  go_ret
  exact ⟨rfl, HB.out⟩

set_option maxRecDepth 100000 in
set_option maxHeartbeats 1000000 in
theorem others_c (A C : Option Addr) (c d : Nat) (a b : List Od) (w : World) (ha : Sl w w.heap.size A c a) (hb : Sl w w.heap.size C d b) (hna : a.length ≤ 65536) (hnb : b.length ≤ 65536) :
    Calls Try.prog 53 #[.slice A a.length c, .slice C b.length d] w fun e w' => ∃ v, e = .returned v ∧ Own w' w.heap.size 30 v (othersL a b) ∧ Below w.heap.size w w' := by
  go_enter Try.func53, Try.ntmps53
  go_wp2_with fail
  refine (places_c A c a _ ha hna).mono ?_
  rintro e w1 ⟨rfl, hm1, hb1⟩
  go_wp2_with fail
  have hbx := hb1.alloc hb1.size (.cells #[.map (some w.heap.size)] 67)
  have hB1 := (Below.refl w1.heap.size w1).alloc (Nat.le_refl _) (.cells #[.map (some w.heap.size)] 67)
  have hlt := hm1.lt
  refine (clone_od C d b _ (hb.later hbx) hnb).mono ?_
  rintro e w2 ⟨v2, rfl, hO2, hb2⟩
  have hc2 : w2.cell? ⟨w1.heap.size, 0, none⟩ = some (.map (some w.heap.size)) := (hb2.cell (p := ⟨w1.heap.size, 0, none⟩) (by simp)).trans (cell_of_row _ w1.heap.size 0 #[.map (some w.heap.size)] 67 (0, 0) (heap_alloc_new w1 _))
  have hm2 := (hm1.later hB1).later hb2
  have hbw2 := hbx.trans (hb2.mono hbx.size)
  have hsz : w1.heap.size < w2.heap.size := by have := hb2.size; simp at this; omega
  have hne : ∀ g, g ≤ w1.heap.size → some g ≠ v2.ownBlock := fun g hg hv => by
    have := (hO2.1.lt g hv.symm).1
    simp at this
    omega
  have HO2 := Lib.hid hO2
  have HM2 := Lib.hid hm2
  have HC2 := Lib.hid hc2
  have HN := Lib.hid hne
  clear hO2 hm2 hc2 hne hm1 hbx hB1
  go_wp2_with fail
  refine (deleteFunc_od (w1.heap.size + 1) v2 b 88 #[.pointer (some ⟨w1.heap.size, 0, none⟩)] (fun x => (posN a x.id).isSome) w2 (by simpa using HO2.out) hnb (enters_of Try.func88 (by kernel_rfl) rfl)
    (fun x _ w3 hg3 => others1_c x w1.heap.size w.heap.size (placesN a) w3 ((World.cell?_of_block (hg3.block w1.heap.size hsz (HN.out _ (Nat.le_refl _)))).trans HC2.out) (HM2.out.kept hg3 (HN.out _ hb1.size)) (Nat.lt_of_lt_of_le hsz hg3.size))).mono ?_
  rintro e w3 ⟨v3, rfl, hO3, hg3, hv3⟩
  go_wp2
  go_ret
  exact ⟨_, rfl, hO3.mono (by have := hb1.size; omega), hbw2.grown hg3 hbw2.size (fun g hg => by
    have := (HO2.out.1.lt g hg).1
    simp at this
    have := hb1.size
    omega)⟩

/-- clash.Rest -/
def restL (a b : List Od) : List Od := if beginsB a b then othersL a b else []
theorem othersL_sub (a b : List Od) : ∀ x ∈ othersL a b, x ∈ b := fun _ hx => (List.mem_filter.1 hx).1
theorem othersL_len (a b : List Od) : (othersL a b).length ≤ b.length := List.length_filter_le _ _

set_option maxRecDepth 100000 in
set_option maxHeartbeats 1000000 in
theorem rest_c (A C : Option Addr) (c d : Nat) (a b : List Od) (w : World) (ha : Sl w w.heap.size A c a) (hb : Sl w w.heap.size C d b) (hna : a.length ≤ 65536) (hnb : b.length ≤ 65536) (hla : fewLegs a) (hlb : fewLegs b) :
    Calls Try.prog 23 #[.slice A a.length c, .slice C b.length d] w fun e w' => ∃ v, e = .returned v ∧ Own w' w.heap.size 30 v (restL a b) ∧ Below w.heap.size w w' := by
  go_enter Try.func23, Try.ntmps23
  go_wp2_with fail
  refine (begins_c A C c d a b w ha hb hna hnb hla hlb).mono ?_
  rintro e w1 ⟨rfl, hb1⟩
  by_cases hbg : beginsB a b = true
  · have hr : restL a b = othersL a b := by unfold restL; rw [if_pos hbg]
    rw [hbg]
    have Hr := Lib.hid hr
    clear hr
    have Hbg := Lib.hid hbg
    clear hbg
    go_wp2_with fail
    refine (others_c A C c d a b w1 (ha.later hb1) (hb.later hb1) hna hnb).mono ?_
    rintro e w2 ⟨v2, rfl, hO2, hb2⟩
    go_wp2
    go_ret
    exact ⟨_, rfl, by rw [Hr.out]; exact hO2.mono hb1.size, hb1.trans (hb2.mono hb1.size)⟩
  · have hbg' : beginsB a b = false := by simpa using hbg
    have hr : restL a b = [] := by unfold restL; rw [if_neg hbg]
    rw [hbg']
    have Hr := Lib.hid hr
    clear hr hbg hbg'
    go_wp2
    go_ret
    exact ⟨_, rfl, by rw [Hr.out]; exact Own.nil_ _ _ _, hb1⟩

abbrev meetL (a b : List Od) : List Od := a ++ othersL a b
/-- does clash.Meet find a list? -/
def meetOk (a b : List Od) : Bool := beginsB a (meetL a b) && beginsB b (meetL a b)
def meetR (a b : List Od) : List Od := if meetOk a b then meetL a b else []
theorem meetL_few {a b : List Od} (hla : fewLegs a) (hlb : fewLegs b) : fewLegs (meetL a b) := fun x hx => by
  rcases List.mem_append.1 hx with h | h
  · exact hla x h
  · exact hlb x (othersL_sub a b x h)

set_option maxRecDepth 100000 in
set_option maxHeartbeats 1000000 in
theorem meet_c (A C : Option Addr) (c d : Nat) (a b : List Od) (w : World) (ha : Sl w w.heap.size A c a) (hb : Sl w w.heap.size C d b) (hna : a.length ≤ 30000) (hnb : b.length ≤ 30000) (hla : fewLegs a) (hlb : fewLegs b) :
    Calls Try.prog 14 #[.slice A a.length c, .slice C b.length d] w fun e w' => ∃ v, e = .returned (.tuple #[v, .bool (meetOk a b)]) ∧ Own w' w.heap.size 30 v (meetR a b) ∧ Below w.heap.size w w' := by
  have hlen : (meetL a b).length ≤ 65536 := by rw [List.length_append]; have := othersL_len a b; omega
  go_enter Try.func14, Try.ntmps14
  go_wp2_with fail
  refine (others_c A C c d a b w ha hb (by omega) (by omega)).mono ?_
  rintro e w1 ⟨v1, rfl, hO1, hb1⟩
  obtain ⟨A1, c1, rfl, hs1⟩ := hO1.sl
  have hbx := hb1.alloc hb1.size (.cells #[.slice A a.length c, .slice A1 (othersL a b).length c1] 102)
  have hB1 := (Below.refl w1.heap.size w1).alloc (Nat.le_refl _) (.cells #[.slice A a.length c, .slice A1 (othersL a b).length c1] 22)
  have hO2 := own_lit (w := w1) (base := w.heap.size) 22 #[.slice A a.length c, .slice A1 (othersL a b).length c1] [(⟨A, c, a⟩ : SV Od), ⟨A1, c1, othersL a b⟩] hb1.size rfl (by simp) (by
    intro s hs
    simp only [List.mem_cons, List.not_mem_nil, or_false] at hs
    rcases hs with rfl | rfl
    · exact ha.later hb1
    · exact hs1)
  obtain ⟨A2, c2, hv2, hs2⟩ := hO2.sl
  injection hv2 with hA2 _ hc2
  subst hA2 hc2
  have HS2 := Lib.hid hs2
  have HA1 := Lib.hid ha
  have hb1x := hb1.trans (hB1.mono hb1.size)
  have hB2 := Lib.hid hlen
  clear hO2 hs2 hs1 hO1 hbx hB1
  go_wp2_with fail
  refine (concat_od _ _ [(⟨A, c, a⟩ : SV Od), ⟨A1, c1, othersL a b⟩] _ HS2.out (by simp) (by simpa using hlen)).mono ?_
  rintro e w2 ⟨v2, rfl, hO3, hb2⟩
  have e3 : [(⟨A, c, a⟩ : SV Od), ⟨A1, c1, othersL a b⟩].flatMap SV.l = meetL a b := by simp
  rw [e3] at hO3
  have hO4 := hO3.mono (base' := w.heap.size) hb1x.size
  have hb3 := hb1x.trans (hb2.mono hb1x.size)
  obtain ⟨A3, c3, rfl, hs3⟩ := hO4.sl
  have hx3 := meetL_few hla hlb
  have HO4 := Lib.hid hO4
  have Hs3 := Lib.hid hs3
  have Hx3 := Lib.hid hx3
  have hm : meetOk a b = (beginsB a (meetL a b) && beginsB b (meetL a b)) := rfl
  have Hm := Lib.hid hm
  clear hO3 hO4 hs3 hx3 hm e3
  obtain ⟨m, hmm⟩ : ∃ m, meetL a b = m := ⟨_, rfl⟩
  rw [hmm] at HO4 Hs3 Hx3 Hm hlen ⊢
  have Hmm := Lib.hid hmm
  clear hmm hB2
  generalize othersL a b = oo at *
  go_wp2_with fail
  refine (begins_c A A3 c c3 a m _ (ha.later hb3) Hs3.out (by omega) hlen hla Hx3.out).mono ?_
  rintro e w3 ⟨rfl, hb4⟩
  have hb5 := hb3.trans (hb4.mono hb3.size)
  by_cases h1 : beginsB a m = true
  · rw [h1]
    have H1 := Lib.hid h1
    clear h1
    go_wp2_with fail
    refine (begins_c C A3 d c3 b m _ (hb.later hb5) (Hs3.out.later hb4) (by omega) hlen hlb Hx3.out).mono ?_
    rintro e w4 ⟨rfl, hb6⟩
    have hb7 := hb5.trans (hb6.mono hb5.size)
    by_cases h2 : beginsB b m = true
    · rw [h2]
      have H2 : Hid (meetOk a b = true) := Lib.hid (by rw [Hm.out, H1.out, h2]; rfl)
      clear h2
      go_wp2
      go_ret2
      exact ⟨_, by rw [H2.out]; rfl, by rw [meetR, H2.out, if_pos rfl, Hmm.out]; exact (HO4.out.later hb4).later hb6, hb7⟩
    · have h2' : beginsB b m = false := by simpa using h2
      rw [h2']
      have H2 : Hid (meetOk a b = false) := Lib.hid (by rw [Hm.out, h2', Bool.and_false])
      clear h2 h2'
      go_wp2
      go_ret2
      exact ⟨_, by rw [H2.out]; rfl, by rw [meetR, H2.out, if_neg (by simp)]; exact Own.nil_ _ _ _, hb7⟩
  · have h1' : beginsB a m = false := by simpa using h1
    rw [h1']
    have H2 : Hid (meetOk a b = false) := Lib.hid (by rw [Hm.out, h1', Bool.false_and])
    clear h1 h1'
    go_wp2
    go_ret2
    exact ⟨_, by rw [H2.out]; rfl, by rw [meetR, H2.out, if_neg (by simp)]; exact Own.nil_ _ _ _, hb5⟩
end Go.Proofs.Ytogecfddkohigaa
