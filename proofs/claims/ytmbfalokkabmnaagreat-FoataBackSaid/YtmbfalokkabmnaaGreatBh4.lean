/- Texts of this claim, laid together: Begins, FnO, Slices, SlO, Others, RSame, SameL, Swap. -/
import Derived.Test.YtmbfalokkabmnaaGreatRows
import Derived.Test.YtmbfalokkabmnaaGreatBh3
import Derived.Test.YtmbfalokkabmnaaGreatBh2
import Derived.WalkKit
import Derived.WalkSpells
import Derived.WalkLawsBesides
import Derived.Deep.QuietTactic
import Derived.BigQuiet
import Derived.Laws.StructEq
import Derived.Deep.DeepFit
import Derived.StillTailTactics
import Derived.Test.YtmbfalokkabmnaaGreatBh1
import Derived.Lib.AppendZeros

/- clash.Begins, clash.Alike -/
namespace Go.Proofs.YtmbfalokkabmnaaGreat
open Go.RowKit
abbrev posN (l : List Od) (id : Id) : Option Nat := getM (placesN l) id
abbrev validL (l : List Od) : Bool := decide ((placesN l).length = l.length)
/-- what clash.Begins asks of one order -/
def beginsAt (a b : List Od) (i : Nat) (o : Od) : Bool :=
  match posN b o.id with
  | none => false
  | some k => (match b[k]? with | some x => sameB o x | none => false) && (b.take k).all fun p => !(clashB p o && (match posN a p.id with | none => true | some n => decide (i < n)))
/-- clash.Begins -/
def beginsB (a b : List Od) : Bool := (validL a && validL b) && (a.zipIdx.all fun p => beginsAt a b p.2 p.1)
abbrev alikeB (a b : List Od) : Bool := decide (a.length = b.length) && beginsB a b
theorem snoc_ind {α : Type} {Q : List α → Prop} (h0 : Q []) (hs : ∀ l x, Q l → Q (l ++ [x])) (l : List α) : Q l := by
  rw [← List.reverse_reverse l]
  induction l.reverse with
  | nil => exact h0
  | cons x r ih => rw [List.reverse_cons]; exact hs _ _ ih
theorem posN_lt {l : List Od} : ∀ {id : Id} {k : Nat}, posN l id = some k → k < l.length := by
  refine snoc_ind (Q := fun l => ∀ {id : Id} {k : Nat}, posN l id = some k → k < l.length) ?_ ?_ l
  · intro id k h; cases h
  · intro l x ih id k h
    unfold posN at h
    rw [placesN_snoc, getM_put] at h
    split at h
    · injection h with h; subst h; simp
    · have := ih h; simp; omega

theorem all_zip {a : List Od} {f : Nat → Od → Bool} (h : ∀ j (hj : j < a.length), f j a[j] = true) : (a.zipIdx.all fun p => f p.2 p.1) = true := by
  rw [List.all_eq_true]
  rintro ⟨x, j⟩ hp
  rw [List.mem_zipIdx_iff_getElem?] at hp
  obtain ⟨hj, hx⟩ := List.getElem?_eq_some_iff.1 hp
  have h2 := h j hj
  simp only at hx hj
  rw [← hx]
  exact h2
theorem all_zip_false {a : List Od} {f : Nat → Od → Bool} {j : Nat} (hj : j < a.length) (h : f j a[j] = false) : (a.zipIdx.all fun p => f p.2 p.1) = false := by
  rw [List.all_eq_false]
  exact ⟨(a[j], j), by rw [List.mem_zipIdx_iff_getElem?]; exact List.getElem?_eq_getElem hj, by simp [h]⟩
theorem beginsB_true {a b : List Od} (ha : validL a = true) (hb : validL b = true) (h : ∀ j (hj : j < a.length), beginsAt a b j a[j] = true) : beginsB a b = true := by
  unfold beginsB
  rw [ha, hb, all_zip (f := beginsAt a b) h]
  rfl
theorem beginsB_false {a b : List Od} {j : Nat} (hj : j < a.length) (h : beginsAt a b j a[j] = false) : beginsB a b = false := by
  unfold beginsB
  rw [all_zip_false (f := beginsAt a b) hj h, Bool.and_false]

theorem beginsAt_false {a b : List Od} {i k j : Nat} {o : Od} (hp : posN b o.id = some k) (hk : k < b.length) (hj : j < k) (h : (clashB (b[j]'(by omega)) o && (match posN a (b[j]'(by omega)).id with | none => true | some n => decide (i < n))) = true) : beginsAt a b i o = false := by
  unfold beginsAt
  rw [hp]
  simp only
  have : ((b.take k).all fun p => !(clashB p o && (match posN a p.id with | none => true | some n => decide (i < n)))) = false := by
    rw [List.all_eq_false]
    refine ⟨b[j]'(by omega), ?_, by rw [h]; simp⟩
    rw [List.mem_take_iff_getElem]
    exact ⟨j, by omega, rfl⟩
  rw [this, Bool.and_false]
theorem beginsAt_true {a b : List Od} {i k : Nat} {o : Od} (hp : posN b o.id = some k) (hk : k < b.length) (hs : sameB o b[k] = true) (h : ∀ j (hj : j < b.length), j < k → (clashB b[j] o && (match posN a b[j].id with | none => true | some n => decide (i < n))) = false) : beginsAt a b i o = true := by
  unfold beginsAt
  rw [hp]
  simp only [List.getElem?_eq_getElem hk, hs, Bool.true_and]
  rw [List.all_eq_true]
  intro p hp
  rw [List.mem_take_iff_getElem] at hp
  obtain ⟨j, hj, rfl⟩ := hp
  rw [h j (by omega) (by omega)]
  rfl

def fewLegs (l : List Od) : Prop := ∀ x ∈ l, x.legs.length ≤ 10

set_option maxRecDepth 100000 in
set_option maxHeartbeats 2000000 in
theorem begins_c (A C : Option Addr) (c d : Nat) (a b : List Od) (w : World) (ha : Sl w w.heap.size A c a) (hb : Sl w w.heap.size C d b) (hna : a.length ≤ 65536) (hnb : b.length ≤ 65536) (hla : fewLegs a) (hlb : fewLegs b) :
    Calls Tryz.prog 57 #[.slice A a.length c, .slice C b.length d] w fun e w' => e = .returned (.bool (beginsB a b)) ∧ Below w.heap.size w w' := by
  by_cases hva : validL a = true
  · by_cases hvb : validL b = true
    · have Hva := Lib.hid hva
      have Hvb := Lib.hid hvb
      have Ha := Lib.hid ha
      have Hb := Lib.hid hb
      have Hla := Lib.hid hla
      have Hlb := Lib.hid hlb
      clear hva hvb ha hb hla hlb
      go_enter Tryz.func57, Tryz.ntmps57
      go_wp2_with fail
      refine (right_c A c a _ Ha.out hna).mono ?_
      rintro e w1 ⟨rfl, hb1⟩
      have e1 : decide ((placesN a).length = a.length) = true := Hva.out
      rw [e1]
      clear e1
      go_wp2_with fail
      refine (right_c C d b _ (Hb.out.later hb1) hnb).mono ?_
      rintro e w2 ⟨rfl, hb2⟩
      have e2 : decide ((placesN b).length = b.length) = true := Hvb.out
      rw [e2]
      clear e2
      have hb12 := hb1.trans (hb2.mono hb1.size)
      clear hb1 hb2
      go_wp2_with fail
      refine (places_c A c a _ (Ha.out.later hb12) hna).mono ?_
      rintro e w3 ⟨rfl, hma, hb3⟩
      have hb13 := hb12.trans (hb3.mono hb12.size)
      clear hb3
      go_wp2_with fail
      refine (places_c C d b _ (Hb.out.later hb13) hnb).mono ?_
      rintro e w4 ⟨rfl, hmb, hb4⟩
      have hma4 := hma.later hb4
      have hb14 := hb13.trans (hb4.mono hb13.size)
      clear hma hb4
      obtain ⟨bA, hbA⟩ : ∃ bA, bA = w2.heap.size := ⟨_, rfl⟩
      obtain ⟨bB, hbB⟩ : ∃ bB, bB = w3.heap.size := ⟨_, rfl⟩
      rw [← hbA] at hma4 ⊢
      rw [← hbB] at hmb ⊢
      clear hbA hbB hb12 hb13
      go_wp2_with fail
      go_loopw [29] (fun i wr => ∃ k : Nat, i = i64 k ∧ k ≤ a.length ∧ (∀ j (hj : j < a.length), j < k → beginsAt a b j a[j] = true) ∧ MapIs Id.v wr bA (natV (placesN a)) ∧ MapIs Id.v wr bB (natV (placesN b)) ∧ Below w.heap.size w wr) (fun i _ => a.length - (intOf i).toNat)
      case atStart => exact ⟨0, rfl, by omega, by omega, hma4, hmb, hb14⟩
      case round =>
        obtain ⟨i, rfl, hi, hall, hmA, hmB, hbr⟩ := hrel
        have Hall := Lib.hid hall
        clear hall hma4 hmb hb14
        by_cases hlt : i < a.length
        · obtain ⟨b0, o0, rfl, hbb, hok, c0, c1, c2, c3, c4, c5, c6, c7, c8, c9⟩ := (Ha.out.later hbr).od hlt
          have Hok := Lib.hid hok
          clear hok
          have hB1 := (Below.refl wr.heap.size wr).alloc (Nat.le_refl _) (.cells a[i].cells.toArray 55)
          have hmA1 := hmA.later hB1
          have hmB1 := hmB.later hB1
          have hb1 := hbr.trans (hB1.mono hbr.size)
          simp only [Od.cells] at hB1 hmA1 hmB1 hb1
          have hlk := fun z hz => run_lookup (P := Tryz.prog) idKey Tryz.underlying92 hmB1 a[i].id z hz true
          have hlk1 := hlk (i64 0) (by kernel_rfl)
          rw [getM_map (fun n : Nat => i64 n)] at hlk1
          have hlk2 := Lib.hid hlk1
          clear hlk1
          have HmA1 := Lib.hid hmA1
          have HmB1 := Lib.hid hmB1
          have HB1 := Lib.hid hB1
          clear hmA hmB hmA1 hmB1 hlk hB1
          cases hp : getM (placesN b) a[i].id with
          | none =>
            have hlk1 := hlk2.out
            rw [hp] at hlk1
            simp only [Option.map_none, Option.getD_none, Option.isSome_none, if_true, Id.v, Od.id] at hlk1
            have Hp := Lib.hid hp
            clear hp
            go_wp2
            go_quiet (fail)
            go_wp2
            go_ret
            refine ⟨?_, below_drewN hb1 _⟩
            rw [beginsB_false hlt (by unfold beginsAt; rw [show posN b a[i].id = none from Hp.out])]
            rfl
          | some k =>
            have hlk1 := hlk2.out
            rw [hp] at hlk1
            simp only [Option.map_some, Option.getD_some, Option.isSome_some, if_true, Id.v, Od.id] at hlk1
            have hkb : k < b.length := posN_lt hp
            have hkd : k ≤ d := by have := Hb.out.1; omega
            have Hp := Lib.hid hp
            clear hp
            obtain ⟨b2, o2, rfl, hbb2, hok2, d0, d1, d2, d3, d4, d5, d6, d7, d8, d9⟩ := (Hb.out.later hbr).od hkb
            have Hok2 := Lib.hid hok2
            clear hok2
            go_wp2
            refine wp_region_still_tail 8 (by kernel_rfl) (by kernel_rfl) ?_
            simp only [List.take_succ_cons, List.take_zero, List.drop_succ_cons, List.drop_zero]
            change wpStill _ _ (World.drew _) (fun a' => wpList _ _ _ _ a' (World.drew _)) _ _
            repeat still_step
            refine wpStill_nil ?_
            go_wp2_with fail
            have hbd := (Below.refl (wr.heap.size + 1) (wr.alloc (.cells #[i64 a[i].client, i64 a[i].seq, i64 a[i].kind, .string a[i].acct, .string a[i].peer, i64 a[i].sum, .slice a[i].la a[i].legs.length a[i].lc, i64 a[i].period, i64 a[i].hold, .string a[i].note] 55))).drew
            refine (same_c a[i] b[k] _ (Okb.later (Okb.later Hok.out HB1.out) (Below.drew (Below.refl _ _))) (Okb.later (Okb.later Hok2.out HB1.out) (Below.drew (Below.refl _ _))) (Nat.le_trans (Hla.out _ (List.getElem_mem _)) (by decide)) (Nat.le_trans (Hlb.out _ (List.getElem_mem _)) (by decide))).mono ?_
            rintro e w5 ⟨rfl, hb5⟩
            have hI5 := hbd.trans (hb5.mono (by simp))
            have hbw5 := hb1.trans ((hbd.trans (hb5.mono (by simp))).mono (by have := hbr.size; omega))
            have hcb : ∀ o, w5.cell? ⟨wr.heap.size, o, none⟩ = _ := fun o => hI5.cell (p := ⟨wr.heap.size, o, none⟩) (Nat.lt_succ_self _)
            clear hbd hb5
            by_cases hsm : sameB a[i] b[k] = true
            · rw [hsm]
              have Hsm := Lib.hid hsm
              clear hsm hlk1
              go_wp2_with fail
              obtain ⟨wo, rfl⟩ : ∃ wo : World, wo = wr := ⟨_, rfl⟩
              go_loopw [56] (fun i2 wI => ∃ j : Nat, i2 = i64 j ∧ j ≤ k ∧ (∀ q (hq : q < b.length), q < j → (clashB b[q] a[i] && (match posN a b[q].id with | none => true | some n => decide (i < n))) = false) ∧
                Below (wo.heap.size + 1) (wo.alloc (.cells #[i64 a[i].client, i64 a[i].seq, i64 a[i].kind, .string a[i].acct, .string a[i].peer, i64 a[i].sum, .slice a[i].la a[i].legs.length a[i].lc, i64 a[i].period, i64 a[i].hold, .string a[i].note] 55)) wI) (fun i2 _ => k - (intOf i2).toNat)
              case atStart => exact ⟨0, rfl, by omega, by omega, hI5⟩
              case round =>
                obtain ⟨j, rfl, hj, hin, hI⟩ := hrel
                have Hin := Lib.hid hin
                clear hin hcb hI5 hbw5
                have hbI := hb1.trans (hI.mono (by have := hbr.size; omega))
                have hcb : ∀ o, wr.cell? ⟨wo.heap.size, o, none⟩ = _ := fun o => hI.cell (p := ⟨wo.heap.size, o, none⟩) (Nat.lt_succ_self _)
                by_cases hjk : j < k
                · have hjb : j < b.length := by omega
                  obtain ⟨b3, o3, hA3, hbb3, hok3, g0, g1, g2, g3, g4, g5, g6, g7, g8, g9⟩ := (Hb.out.later hbI).od hjb
                  injection hA3 with hA3
                  injection hA3 with hA4 hA5
                  subst hA4 hA5
                  have Hok3 := Lib.hid hok3
                  clear hok3
                  have hz : wo.heap.size < wr.heap.size := by have := hI.size; simp at this; omega
                  have hB3 := (Below.refl wr.heap.size wr).alloc (Nat.le_refl _) (.cells b[j].cells.toArray 55)
                  simp only [Od.cells] at hB3
                  have hmA3 := (HmA1.out.later (hI.mono (by simp))).later hB3
                  have hlk3 := run_lookup (P := Tryz.prog) idKey Tryz.underlying92 hmA3 b[j].id (i64 0) (by kernel_rfl) true
                  rw [getM_map (fun n : Nat => i64 n)] at hlk3
                  have Hlk3 := Lib.hid hlk3
                  have HB3 := Lib.hid hB3
                  clear hmA3 hlk3 hB3
                  cases hp3 : getM (placesN a) b[j].id with
                  | none =>
                    have hlk4 := Hlk3.out
                    rw [hp3] at hlk4
                    simp only [Option.map_none, Option.getD_none, Option.isSome_none, if_true, Id.v, Od.id] at hlk4
                    have Hp3 := Lib.hid hp3
                    clear hp3
                    go_wp2_with fail
                    refine (clash_c b[j] a[i] _ (Okb.later Hok3.out HB3.out) (Okb.later (Enc.keep (Okb.later Hok.out HB1.out) (fun _ hp => hI.cell (by simpa using hp)) (fun _ hp => Nat.lt_of_lt_of_le hp hI.size)) HB3.out) (Hlb.out _ (List.getElem_mem _)) (Hla.out _ (List.getElem_mem _))).mono ?_
                    rintro e w7 ⟨rfl, hb7⟩
                    have hI7 := (hI.trans (HB3.out.mono (by omega))).trans (hb7.mono (by simp; omega))
                    have hb17 := hb1.trans (hI7.mono (by have := hbr.size; omega))
                    clear hb7 hcb
                    by_cases hcl : clashB b[j] a[i] = true
                    · rw [hcl]
                      have Hcl := Lib.hid hcl
                      clear hcl
                      go_wp2
                      go_ret
                      refine ⟨?_, hb17⟩
                      rw [beginsB_false hlt (beginsAt_false Hp.out hkb hjk (by rw [Hcl.out, show posN a b[j].id = none from Hp3.out]; rfl))]
                      rfl
                    · have hcl : clashB b[j] a[i] = false := by simpa using hcl
                      rw [hcl]
                      have Hcl := Lib.hid hcl
                      clear hcl
                      go_wp2
                      go_roundw
                      case rel => exact ⟨j + 1, by go_num, by omega, fun q hq h => by
                          rcases Nat.lt_succ_iff_lt_or_eq.1 h with h | rfl
                          · exact Hin.out q hq h
                          · rw [Hcl.out]; rfl, hI7⟩
                      case measure => simp [intOf]; omega
                  | some n =>
                    have hlk4 := Hlk3.out
                    rw [hp3] at hlk4
                    simp only [Option.map_some, Option.getD_some, Option.isSome_some, if_true, Id.v, Od.id] at hlk4
                    have Hp3 := Lib.hid hp3
                    clear hp3
                    go_wp2_with fail
                    refine (clash_c b[j] a[i] _ (Okb.later Hok3.out HB3.out) (Okb.later (Enc.keep (Okb.later Hok.out HB1.out) (fun _ hp => hI.cell (by simpa using hp)) (fun _ hp => Nat.lt_of_lt_of_le hp hI.size)) HB3.out) (Hlb.out _ (List.getElem_mem _)) (Hla.out _ (List.getElem_mem _))).mono ?_
                    rintro e w7 ⟨rfl, hb7⟩
                    have hI7 := (hI.trans (HB3.out.mono (by omega))).trans (hb7.mono (by simp; omega))
                    have hb17 := hb1.trans (hI7.mono (by have := hbr.size; omega))
                    clear hb7 hcb
                    by_cases hcl : clashB b[j] a[i] = true
                    · by_cases hni : i < n
                      · rw [hcl]
                        have Hcl := Lib.hid hcl
                        clear hcl
                        go_wp2
                        go_ret
                        refine ⟨?_, hb17⟩
                        rw [beginsB_false hlt (beginsAt_false Hp.out hkb hjk (by rw [Hcl.out, show posN a b[j].id = some n from Hp3.out]; simpa using hni))]
                        rfl
                      · rw [hcl]
                        have Hcl := Lib.hid hcl
                        clear hcl
                        go_wp2
                        go_roundw
                        case rel => exact ⟨j + 1, by go_num, by omega, fun q hq h => by
                            rcases Nat.lt_succ_iff_lt_or_eq.1 h with h | rfl
                            · exact Hin.out q hq h
                            · rw [Hcl.out, show posN a b[q].id = some n from Hp3.out]; simpa using hni, hI7⟩
                        case measure => simp [intOf]; omega
                    · have hcl : clashB b[j] a[i] = false := by simpa using hcl
                      rw [hcl]
                      have Hcl := Lib.hid hcl
                      clear hcl
                      go_wp2
                      go_roundw
                      case rel => exact ⟨j + 1, by go_num, by omega, fun q hq h => by
                          rcases Nat.lt_succ_iff_lt_or_eq.1 h with h | rfl
                          · exact Hin.out q hq h
                          · rw [Hcl.out]; rfl, hI7⟩
                      case measure => simp [intOf]; omega
                · obtain rfl : j = k := by omega
                  go_wp2
                  go_roundw
                  case rel => exact ⟨i + 1, by go_num, by omega, fun q hq h => by
                      rcases Nat.lt_succ_iff_lt_or_eq.1 h with h | rfl
                      · exact Hall.out q hq h
                      · exact beginsAt_true Hp.out hkb Hsm.out Hin.out, HmA1.out.later (hI.mono (by simp)), HmB1.out.later (hI.mono (by simp)), hbI⟩
                  case measure => simp [intOf]; omega
            · have hsm' : sameB a[i] b[k] = false := by simpa using hsm
              rw [hsm']
              have Hsm := Lib.hid hsm'
              clear hsm hsm'
              go_wp2
              go_ret
              refine ⟨?_, hbw5⟩
              rw [beginsB_false hlt (by
                unfold beginsAt
                rw [show posN b a[i].id = some k from Hp.out]
                simp only [List.getElem?_eq_getElem hkb, Hsm.out, Bool.false_and])]
              rfl
        · obtain rfl : i = a.length := by omega
          go_wp2
          go_ret
          refine ⟨?_, hbr⟩
          rw [beginsB_true Hva.out Hvb.out (fun j hj => Hall.out j hj hj)]
          rfl
    · have hvb' : validL b = false := by simpa using hvb
      have Hs : Hid (beginsB a b = false) := Lib.hid (by unfold beginsB; rw [hva, hvb']; rfl)
      have Hva := Lib.hid hva
      have Hvb := Lib.hid hvb'
      clear hva hvb hvb'
      go_enter Tryz.func57, Tryz.ntmps57
      go_wp2_with fail
      refine (right_c A c a _ ha hna).mono ?_
      rintro e w1 ⟨rfl, hb1⟩
      have e1 : decide ((placesN a).length = a.length) = true := Hva.out
      rw [e1]
      clear e1
      go_wp2_with fail
      refine (right_c C d b _ (hb.later hb1) hnb).mono ?_
      rintro e w2 ⟨rfl, hb2⟩
      have e2 : decide ((placesN b).length = b.length) = false := Hvb.out
      rw [e2]
      clear e2
      go_wp2
      go_ret
      exact ⟨by rw [Hs.out]; rfl, hb1.trans (hb2.mono hb1.size)⟩
  · have hva' : validL a = false := by simpa using hva
    have Hs : Hid (beginsB a b = false) := Lib.hid (by unfold beginsB; rw [hva']; rfl)
    have Hva := Lib.hid hva'
    clear hva hva'
    go_enter Tryz.func57, Tryz.ntmps57
    go_wp2_with fail
    refine (right_c A c a _ ha hna).mono ?_
    rintro e w1 ⟨rfl, hb1⟩
    have e1 : decide ((placesN a).length = a.length) = false := Hva.out
    rw [e1]
    clear e1
    go_wp2
    go_ret
    exact ⟨by rw [Hs.out]; rfl, hb1⟩

set_option maxRecDepth 100000 in
set_option maxHeartbeats 400000 in
theorem alike_c (A C : Option Addr) (c d : Nat) (a b : List Od) (w : World) (ha : Sl w w.heap.size A c a) (hb : Sl w w.heap.size C d b) (hna : a.length ≤ 65536) (hnb : b.length ≤ 65536) (hla : fewLegs a) (hlb : fewLegs b) :
    Calls Tryz.prog 22 #[.slice A a.length c, .slice C b.length d] w fun e w' => e = .returned (.bool (alikeB a b)) ∧ Below w.heap.size w w' := by
  have H := Lib.hid (begins_c A C c d a b w ha hb hna hnb hla hlb)
  clear ha hb hla hlb
  by_cases hl : a.length = b.length
  · have q : ((a.length : Int) == (b.length : Int)) = true := by rw [hl]; simp
    have Hs : Hid (alikeB a b = beginsB a b) := Lib.hid (by unfold alikeB; rw [decide_eq_true hl, Bool.true_and])
    clear hl
    go_enter Tryz.func22, Tryz.ntmps22
    go_wp2_with (go_at_call 57; refine (H.out).mono ?_; rintro e w' ⟨rfl, hb⟩)
    go_ret
    exact ⟨by rw [Hs.out]; rfl, hb⟩
  · have q : ((a.length : Int) == (b.length : Int)) = false := by rw [beq_eq_false_iff_ne]; omega
    have Hs : Hid (alikeB a b = false) := Lib.hid (by unfold alikeB; rw [decide_eq_false hl, Bool.false_and])
    clear hl
    go_enter Tryz.func22, Tryz.ntmps22
    go_wp2_with (go_at_call 57; refine (H.out).mono ?_; rintro e w' ⟨rfl, hb⟩)
    go_ret
    exact ⟨by rw [Hs.out]; rfl, Below.refl _ _⟩
end Go.Proofs.YtmbfalokkabmnaaGreat

/- IndexFunc, ContainsFunc, DeleteFunc at api.Order -/
namespace Go.Proofs.YtmbfalokkabmnaaGreat
open Go.RowKit
set_option maxRecDepth 100000 in
set_option maxHeartbeats 400000 in
theorem indexFunc_od (A : Option Addr) (c : Nat) (l : List Od) (g : FuncId) (cap : Array Value) (p : Od → Bool) (w : World) (h : Sl w w.heap.size A c l) (hn : l.length ≤ 65536)
    (eg : ∀ args w, (callFunc g args).run Tryz.prog w = .ok (.enter g args) w)
    (hf : ∀ x, x ∈ l → ∀ w1, Below w.heap.size w w1 → Calls Tryz.prog g (#[x.v] ++ cap) w1 fun e w2 => e = .returned (.bool (p x)) ∧ Below w1.heap.size w1 w2) :
    Calls Tryz.prog 91 #[.slice A l.length c, .func (.func g) #[] cap] w fun e w' => e = .returned (i64 (idxP p l)) ∧ Below w.heap.size w w' := by
  have Hf := Lib.hid hf
  clear hf
  go_enter Tryz.func91, Tryz.ntmps91
  go_wp2
  go_loopw [8] (fun i wr => ∃ k : Nat, k ≤ l.length ∧ i = i64 k ∧ (∀ j (hj : j < l.length), j < k → p l[j] = false) ∧ Below w.heap.size w wr) (fun i _ => l.length - (intOf i).toNat)
  case atStart => exact ⟨0, Nat.zero_le _, rfl, by omega, Below.refl _ _⟩
  case round =>
    obtain ⟨k, hk, rfl, hno, hb⟩ := hrel
    by_cases hlt : k < l.length
    · obtain ⟨b, o, rfl, hbb, -, d0, d1, d2, d3, d4, d5, d6, d7, d8, d9⟩ := (h.later hb).od hlt
      have Hno := Lib.hid hno
      clear hno
      go_wp2_with fail
      refine (Hf.out _ (List.getElem_mem hlt) _ hb).mono ?_
      rintro e w2 ⟨rfl, hb2⟩
      have hb3 := hb.trans (hb2.mono hb.size)
      by_cases hp : p l[k] = true
      · rw [hp]
        have Hp := Lib.hid hp
        clear hp
        go_wp2
        go_ret
        exact ⟨by rw [show idxP p l = k from idxP_hit hlt Hp.out Hno.out]; rfl, hb3⟩
      · have hp' : p l[k] = false := by simpa using hp
        rw [hp']
        have Hp := Lib.hid hp'
        clear hp hp'
        go_wp2
        go_roundw
        case rel => exact ⟨k + 1, by omega, by go_num, fun j hj h => by
            rcases Nat.lt_succ_iff_lt_or_eq.1 h with h | rfl
            · exact Hno.out j hj h
            · exact Hp.out, hb3⟩
        case measure => simp [intOf]; omega
    · have hkl : k = l.length := by omega
      subst hkl
      go_wp2
      go_ret
      exact ⟨by rw [show idxP p l = -1 from idxP_miss (fun j hj => hno j hj hj)]; rfl, hb⟩

theorem one_od : ∀ u ∈ (Value.agg #[i64 0, i64 0, i64 0, .string ByteArray.empty, .string ByteArray.empty, i64 0, .slice none 0 0, i64 0, i64 0, .string ByteArray.empty]).cells.toList, u.oneCell' = true := by
  intro u hu
  simp only [Value.cells, List.mem_cons, List.not_mem_nil, or_false] at hu
  rcases hu with rfl | rfl | rfl | rfl | rfl | rfl | rfl | rfl | rfl | rfl <;> rfl

end Go.Proofs.YtmbfalokkabmnaaGreat

/- Slices of slices as data; a new row with room. No program. -/
namespace Go.Proofs.YtmbfalokkabmnaaGreat
open Go.RowKit

/-- a slice as a datum: where it lies, and what it reads as -/
structure SV (α : Type) where
  a : Option Addr
  c : Nat
  l : List α
instance encSV {α : Type} [Enc α] : Enc (SV α) where
  size := 1
  cells s := [.slice s.a s.l.length s.c]
  val s := .slice s.a s.l.length s.c
  ok w S s := SlS w S s.a s.c s.l
  len _ := rfl
  one _ v hv := by simp only [List.mem_singleton] at hv; subst hv; rfl
  keep h hk hS := h.keep hk hS
theorem SlS.sv {α : Type} [Enc α] {w : World} {S : Nat → Prop} {c : Nat} {A : Option Addr} {l : List (SV α)} (h : SlS w S A c l) {k : Nat} (hk : k < l.length) : ∃ b o, A = some ⟨b, o, none⟩ ∧ S b ∧ SlS w S l[k].a l[k].c l[k].l ∧
    w.cell? ⟨b, o + k, none⟩ = some (.slice l[k].a l[k].l.length l[k].c) := by
  obtain ⟨b, o, hA, hb, hok, hc⟩ := h.at_ hk
  have h0 := hc 0 _ rfl
  rw [show k * Enc.size (SV α) + 0 = k from Nat.mul_one k] at h0
  exact ⟨b, o, hA, hb, hok, h0⟩
section
variable {α : Type} [Enc α]
theorem own_room (w : World) (base : Nat) (e : TypeId) (cap : Nat) (cs : Array Value) (hb : base ≤ w.heap.size) (hm : cap ≤ maxLen) (hcs : cs.size = cap * Enc.size α) : Own (w.alloc (.cells cs e)) base e (.slice (some ⟨w.heap.size, 0, none⟩) 0 cap) ([] : List α) :=
  ⟨⟨by simp, .inr ⟨w.heap.size, cap, cs, rfl, hb, heap_alloc_new w _, Nat.zero_le _, hm, hcs, by simp⟩⟩, by simp⟩
end
end Go.Proofs.YtmbfalokkabmnaaGreat

/- Clone, Grow, Concat at api.Order -/
namespace Go.Proofs.YtmbfalokkabmnaaGreat
open Go.RowKit
theorem inf_od : (Tryz.prog.info? 55).map (fun i => (i.zero, i.size, i.bytes)) = some (some (.agg #[i64 0, i64 0, i64 0, .string ByteArray.empty, .string ByteArray.empty, i64 0, .slice none 0 0, i64 0, i64 0, .string ByteArray.empty]), Enc.size Od, 120) := by kernel_rfl

set_option maxRecDepth 100000 in
set_option maxHeartbeats 400000 in
theorem grow_od (n : Nat) (w : World) (hn : n ≤ 1000000000) :
    Calls Tryz.prog 80 #[.slice none 0 0, i64 n] w fun e w' => ∃ v, e = .returned v ∧ Own w' w.heap.size 55 v ([] : List Od) ∧ Below w.heap.size w w' := by
  rcases Nat.eq_zero_or_pos n with rfl | h0
  · go_enter Tryz.func80, Tryz.ntmps80
    go_wp2
    go_ret
    exact ⟨_, rfl, Own.nil_ _ _ _, Below.refl _ _⟩
  · obtain ⟨i, hi, hz, hz1, hz2⟩ := info_parts inf_od
    have hrun := fun ty => Lib.run_append_nil_zeros (P := Tryz.prog) w 22 3 ty 55 i (.agg #[i64 0, i64 0, i64 0, .string ByteArray.empty, .string ByteArray.empty, i64 0, .slice none 0 0, i64 0, i64 0, .string ByteArray.empty]) .i64 .i64 Tryz.underlying22 Tryz.underlying3 hi hz n h0 (by rw [hz1]; decide) (by omega) (by rw [hz2]; omega)
    have hO := own_room (α := Od) w.drew w.heap.size 55 (grownCap w n 0 55) (Builtin.zeroCells (Value.cells (.agg #[i64 0, i64 0, i64 0, .string ByteArray.empty, .string ByteArray.empty, i64 0, .slice none 0 0, i64 0, i64 0, .string ByteArray.empty])) n ++ Builtin.zeroCells (Value.cells (.agg #[i64 0, i64 0, i64 0, .string ByteArray.empty, .string ByteArray.empty, i64 0, .slice none 0 0, i64 0, i64 0, .string ByteArray.empty])) (grownCap w n 0 55 - n)) (Nat.le_refl _) (grownCap_le_maxLen w n 0 _ (by simp only [maxLen]; omega)) (by
      rw [Array.size_append, size_zeroCells, size_zeroCells, show (Value.cells (.agg #[i64 0, i64 0, i64 0, .string ByteArray.empty, .string ByteArray.empty, i64 0, .slice none 0 0, i64 0, i64 0, .string ByteArray.empty])).size = Enc.size Od from rfl, ← Nat.add_mul]
      have := grownCap_ge w n 0 55
      rw [Nat.add_sub_cancel' this])
    have hb := ((Below.refl w.heap.size w).drew).alloc (Nat.le_refl _) (.cells (Builtin.zeroCells (Value.cells (.agg #[i64 0, i64 0, i64 0, .string ByteArray.empty, .string ByteArray.empty, i64 0, .slice none 0 0, i64 0, i64 0, .string ByteArray.empty])) n ++ Builtin.zeroCells (Value.cells (.agg #[i64 0, i64 0, i64 0, .string ByteArray.empty, .string ByteArray.empty, i64 0, .slice none 0 0, i64 0, i64 0, .string ByteArray.empty])) (grownCap w n 0 55 - n)) 55)
    have HO := Lib.hid hO
    have Hb := Lib.hid hb
    have Hrun := Lib.hid hrun
    clear hO hb hrun hi hz hz1 hz2
    generalize (Builtin.zeroCells (Value.cells (.agg #[i64 0, i64 0, i64 0, .string ByteArray.empty, .string ByteArray.empty, i64 0, .slice none 0 0, i64 0, i64 0, .string ByteArray.empty])) n ++ Builtin.zeroCells (Value.cells (.agg #[i64 0, i64 0, i64 0, .string ByteArray.empty, .string ByteArray.empty, i64 0, .slice none 0 0, i64 0, i64 0, .string ByteArray.empty])) (grownCap w n 0 55 - n)) = Z at *
    generalize grownCap w n 0 55 = gc at *
    go_enter Tryz.func80, Tryz.ntmps80
    go_wp2_with (at_builtin; refine Lib.wpList_append_run _ rfl (.tmp 20) (.tmp 21) _ _ rfl _ _ rfl rfl _ _ (Hrun.out _) ?_)
    go_ret
    exact ⟨_, rfl, HO.out, Hb.out⟩

set_option maxRecDepth 100000 in
set_option maxHeartbeats 1000000 in
theorem concat_od (A : Option Addr) (c : Nat) (ss : List (SV Od)) (w : World) (h : Sl w w.heap.size A c ss) (hn : ss.length ≤ 65536) (ht : (ss.flatMap SV.l).length ≤ 65536) :
    Calls Tryz.prog 51 #[.slice A ss.length c] w fun e w' => ∃ v, e = .returned v ∧ Own w' w.heap.size 55 v (ss.flatMap SV.l) ∧ Below w.heap.size w w' := by
  have hpre : ∀ k, k ≤ ss.length → ((ss.take k).flatMap SV.l).length ≤ 65536 := fun k _ => by
    refine Nat.le_trans ?_ ht
    conv => rhs; rw [← List.take_append_drop k ss, List.flatMap_append, List.length_append]
    omega
  have hstep : ∀ k (hk : k < ss.length), (ss.take (k + 1)).flatMap SV.l = (ss.take k).flatMap SV.l ++ ss[k].l := fun k hk => by
    rw [List.take_succ_eq_append_getElem hk, List.flatMap_append]; simp
  have Hpre := Lib.hid hpre
  have Hstep := Lib.hid hstep
  clear hpre hstep
  go_enter Tryz.func51, Tryz.ntmps51
  go_wp2_with fail
  go_loop [3, 11] (fun sz i => ∃ k : Nat, k ≤ ss.length ∧ i = i64 k ∧ sz = i64 ((ss.take k).flatMap SV.l).length) (fun _ i => ss.length - (intOf i).toNat)
  case atStart => exact ⟨0, Nat.zero_le _, rfl, rfl⟩
  case round =>
    obtain ⟨k, hk, rfl, rfl⟩ := hrel
    have hpk := Hpre.out k hk
    by_cases hlt : k < ss.length
    · obtain ⟨b, o, rfl, hbb, -, d0⟩ := h.sv hlt
      have hpk1 := Hpre.out (k + 1) hlt
      have hl1 : ((ss.take (k + 1)).flatMap SV.l).length = ((ss.take k).flatMap SV.l).length + ss[k].l.length := by rw [Hstep.out k hlt, List.length_append]
      rw [hl1] at hpk1
      have Hl1 := Lib.hid hl1
      clear hl1
      generalize ((ss.take k).flatMap SV.l).length = p at *
      have hp1 : (p : Int) + (ss[k].l.length : Int) ≤ 65536 := by omega
      have hp0 : decide ((p : Int) + (ss[k].l.length : Int) < 0) = false := by rw [decide_eq_false_iff_not]; omega
      go_wp2
      go_round
      case rel => exact ⟨k + 1, by omega, by go_num, by rw [Hl1.out]; go_num⟩
      case measure => simp [intOf]; omega
    · obtain rfl : k = ss.length := by omega
      rw [List.take_length] at hpk ⊢
      clear ht
      generalize (ss.flatMap SV.l).length = q at *
      go_wp2_with fail
      refine (grow_od _ _ (by omega)).mono ?_
      rintro e w1 ⟨v1, rfl, hO1, hb1⟩
      go_wp2_with fail
      go_loopw [6, 27] (fun v i wr => ∃ k : Nat, k ≤ ss.length ∧ i = i64 k ∧ Own wr w.heap.size 55 v ((ss.take k).flatMap SV.l) ∧ Below w.heap.size w wr) (fun _ i _ => ss.length - (intOf i).toNat)
      case atStart => exact ⟨0, Nat.zero_le _, rfl, hO1, hb1⟩
      case round =>
        obtain ⟨k, hk, rfl, hO, hb⟩ := hrel
        have hpk2 := Hpre.out k hk
        by_cases hlt : k < ss.length
        · obtain ⟨b, o, rfl, hbb, hok, d0⟩ := (h.below hb).sv hlt
          have hs := hok.mono (hO.oth (Nat.le_refl _) hb.size)
          have hpk1 := Hpre.out (k + 1) hlt
          rw [Hstep.out k hlt, List.length_append] at hpk1
          have HO := Lib.hid hO
          have Hs := Lib.hid hs
          clear hok hs hO1 hb1 hO
          go_wp2_with (at_builtin; refine wpList_append_slice rfl (some 33) (.tmp 31) (.tmp 32) 22 rfl rfl (.agg #[i64 0, i64 0, i64 0, .string ByteArray.empty, .string ByteArray.empty, i64 0, .slice none 0 0, i64 0, i64 0, .string ByteArray.empty]) 120 Tryz.underlying22 inf_od rfl (by decide) (by decide) rfl HO.out ss[k].a ss[k].l.length ss[k].c ss[k].l rfl rfl Hs.out (by omega) hb.size ?_; intro v3 w3 hO3 hg3 hat3)
          go_roundw
          case rel => exact ⟨k + 1, by omega, by go_num, by rw [Hstep.out k hlt]; exact hO3, hb.trans (HO.out.below hg3 (Nat.le_refl _) hb.size)⟩
          case measure => simp [intOf]; omega
        · obtain rfl : k = ss.length := by omega
          rw [List.take_length] at hO
          go_wp2
          go_ret
          exact ⟨_, rfl, hO, hb⟩
end Go.Proofs.YtmbfalokkabmnaaGreat

/- clash.others, Rest, Meet, Swap -/
namespace Go.Proofs.YtmbfalokkabmnaaGreat
open Go.RowKit
/-- those of b whose Id is not in a -/
def othersL (a b : List Od) : List Od := b.filter fun x => !(posN a x.id).isSome

/-- clash.Rest -/
def restL (a b : List Od) : List Od := if beginsB a b then othersL a b else []
theorem othersL_sub (a b : List Od) : ∀ x ∈ othersL a b, x ∈ b := fun _ hx => (List.mem_filter.1 hx).1
theorem othersL_len (a b : List Od) : (othersL a b).length ≤ b.length := List.length_filter_le _ _

abbrev meetL (a b : List Od) : List Od := a ++ othersL a b
/-- does clash.Meet find a list? -/
def meetOk (a b : List Od) : Bool := beginsB a (meetL a b) && beginsB b (meetL a b)
def meetR (a b : List Od) : List Od := if meetOk a b then meetL a b else []
theorem meetL_few {a b : List Od} (hla : fewLegs a) (hlb : fewLegs b) : fewLegs (meetL a b) := fun x hx => by
  rcases List.mem_append.1 hx with h | h
  · exact hla x h
  · exact hlb x (othersL_sub a b x h)

end Go.Proofs.YtmbfalokkabmnaaGreat

/- ref06.Same -/
namespace Go.Proofs.YtmbfalokkabmnaaGreat
open Go.RowKit
theorem neq_id (a b c d : Int) (w : World) : (binOp .neq 43 (.agg #[i64 a, i64 b]) (.agg #[i64 c, i64 d])).run Tryz.prog w = .ok (.bool (!decide (Id.mk a b = ⟨c, d⟩))) w := by
  have u3 := Tryz.underlying3
  have a3 := Tryz.isAgg3
  have z3 := Tryz.sizeOf3
  have hS : Tryz.prog.underlying 43 = some (.struct (Tryz.prog.fieldsOf 43)) := by kernel_rfl
  have hp : Tryz.prog.stoodInHeld 43 = false := by kernel_rfl
  rw [run_neq_struct, show (10000 : Nat) = 9999 + 1 from rfl, run_equalIn_agg w 9999 43 _ _ hS hp]
  simp only [Program.fieldsOf, Tryz.underlying43]
  go_simp
  by_cases h1 : a = c <;> by_cases h2 : b = d <;> simp [h1, h2]
theorem bneS_of_eq {s t : ByteArray} (h : s = t) : (s.toList != t.toList) = false := by rw [bne, beqS_of_eq h]; rfl
theorem bneS_of_ne {s t : ByteArray} (h : s ≠ t) : (s.toList != t.toList) = true := by rw [bne, beqS_of_ne h]; rfl

set_option maxRecDepth 100000 in
set_option maxHeartbeats 2000000 in
theorem rsame_c (x y : Od) (w : World) (hx : Okb w w.heap.size x) (hy : Okb w w.heap.size y) (hlx : x.legs.length ≤ 65536) (_hly : y.legs.length ≤ 65536) :
    Calls Tryz.prog 50 #[x.v, y.v] w fun e w' => e = .returned (.bool (sameB x y)) ∧ Below w.heap.size w w' := by
  obtain ⟨-, -, -, hgx⟩ := hx
  obtain ⟨-, -, -, hgy⟩ := hy
  have hb1 : Below w.heap.size w ((w.alloc (.cells #[i64 x.client, i64 x.seq, i64 x.kind, .string x.acct, .string x.peer, i64 x.sum, .slice x.la x.legs.length x.lc, i64 x.period, i64 x.hold, .string x.note] 55)).alloc (.cells #[i64 y.client, i64 y.seq, i64 y.kind, .string y.acct, .string y.peer, i64 y.sum, .slice y.la y.legs.length y.lc, i64 y.period, i64 y.hold, .string y.note] 55)) := ((Below.refl _ _).alloc (Nat.le_refl _) _).alloc (by simp) _
  have Hgx := Lib.hid (hgx.later hb1)
  have Hgy := Lib.hid (hgy.later hb1)
  clear hgx hgy
  unfold Od.v
  by_cases h0 : x.id = y.id
  · have q0 : ∀ W : World, (binOp .neq 43 (.agg #[i64 x.client, i64 x.seq]) (.agg #[i64 y.client, i64 y.seq])).run Tryz.prog W = .ok (.bool false) W := fun W => by rw [neq_id, decide_eq_true (show Id.mk x.client x.seq = ⟨y.client, y.seq⟩ from h0)]; rfl
    by_cases h1 : x.kind = y.kind
    · have q1 : (x.kind != y.kind) = false := by rw [h1]; simp
      by_cases h2 : x.acct = y.acct
      · have q2 := bneS_of_eq h2
        have p2 := beqS_of_eq h2
        by_cases h3 : x.peer = y.peer
        · have q3 := bneS_of_eq h3
          have p3 := beqS_of_eq h3
          by_cases h4 : x.sum = y.sum
          · have q4 : (x.sum != y.sum) = false := by rw [h4]; simp
            by_cases h5 : x.period = y.period
            · have q5 : (x.period != y.period) = false := by rw [h5]; simp
              by_cases h6 : x.hold = y.hold
              · have q6 : (x.hold != y.hold) = false := by rw [h6]; simp
                by_cases h7 : x.note = y.note
                · have q7 := bneS_of_eq h7
                  have p7 := beqS_of_eq h7
                  by_cases h8 : x.legs.length = y.legs.length
                  · have q8 : ((x.legs.length : Int) != (y.legs.length : Int)) = false := by rw [h8]; simp
                    have H : Hid (x.id = y.id ∧ x.kind = y.kind ∧ x.acct = y.acct ∧ x.peer = y.peer ∧ x.sum = y.sum ∧ x.period = y.period ∧ x.hold = y.hold ∧ x.note = y.note ∧ x.legs.length = y.legs.length) := Lib.hid ⟨h0, h1, h2, h3, h4, h5, h6, h7, h8⟩
                    clear h0 h1 h2 h3 h4 h5 h6 h7 h8
                    have hxs : sameB x y = decide (x.legs = y.legs) := by
                      obtain ⟨h0, h1, h2, h3, h4, h5, h6, h7, _⟩ := H.out
                      by_cases hl : x.legs = y.legs
                      · rw [decide_eq_true hl]; exact decide_eq_true ⟨h2, h3, h7, h0, h1, h4, h5, h6, hl⟩
                      · rw [decide_eq_false hl]; exact decide_eq_false fun k => hl k.legs
                    have Hxs := Lib.hid hxs
                    clear hxs
                    go_enter Tryz.func50, Tryz.ntmps50
                    go_wp2
                    have hcx : World.cell? ((w.alloc (.cells #[i64 x.client, i64 x.seq, i64 x.kind, .string x.acct, .string x.peer, i64 x.sum, .slice x.la x.legs.length x.lc, i64 x.period, i64 x.hold, .string x.note] 55)).alloc (.cells #[i64 y.client, i64 y.seq, i64 y.kind, .string y.acct, .string y.peer, i64 y.sum, .slice y.la y.legs.length y.lc, i64 y.period, i64 y.hold, .string y.note] 55)) ⟨w.heap.size, 6, none⟩ = some (.slice x.la x.legs.length x.lc) := cell_of_row _ w.heap.size 6 _ _ (0, 0) (heap_alloc2_old w _ _)
                    have hcy : World.cell? ((w.alloc (.cells #[i64 x.client, i64 x.seq, i64 x.kind, .string x.acct, .string x.peer, i64 x.sum, .slice x.la x.legs.length x.lc, i64 x.period, i64 x.hold, .string x.note] 55)).alloc (.cells #[i64 y.client, i64 y.seq, i64 y.kind, .string y.acct, .string y.peer, i64 y.sum, .slice y.la y.legs.length y.lc, i64 y.period, i64 y.hold, .string y.note] 55)) ⟨w.heap.size + 1, 6, none⟩ = some (.slice y.la y.legs.length y.lc) := cell_of_row _ (w.heap.size + 1) 6 _ _ (0, 0) (heap_alloc2_new w _ _)
                    generalize (w.alloc (.cells #[i64 x.client, i64 x.seq, i64 x.kind, .string x.acct, .string x.peer, i64 x.sum, .slice x.la x.legs.length x.lc, i64 x.period, i64 x.hold, .string x.note] 55)).alloc (.cells #[i64 y.client, i64 y.seq, i64 y.kind, .string y.acct, .string y.peer, i64 y.sum, .slice y.la y.legs.length y.lc, i64 y.period, i64 y.hold, .string y.note] 55) = W1 at *
                    go_loopw [5] (fun i wr => ∃ (j m : Nat), i = i64 j ∧ j ≤ x.legs.length ∧ x.legs.take j = y.legs.take j ∧ wr = W1.drewN m) (fun i _ => x.legs.length - (intOf i).toNat)
                    case atStart => exact ⟨0, 0, rfl, by omega, rfl, rfl⟩
                    case round =>
                      obtain ⟨j, m, rfl, hj, ht, rfl⟩ := hrel
                      have HT := Lib.hid ht
                      clear ht
                      by_cases hlt : j < x.legs.length
                      · have hltm : j < y.legs.length := by have := H.out.2.2.2.2.2.2.2.2; omega
                        obtain ⟨b, o, hA, hb, -, c0, c1⟩ := Hgx.out.leg hlt
                        obtain ⟨b', o', hA', hb', -, c0', c1'⟩ := Hgy.out.leg hltm
                        have he : ∀ W : World, (binOp .neq 98 (.agg #[.string x.legs[j].acct, i64 x.legs[j].sum]) (.agg #[.string y.legs[j].acct, i64 y.legs[j].sum])).run Tryz.prog W = .ok (.bool (!decide (x.legs[j] = y.legs[j]))) W := neq_leg _ _ _ _
                        rw [hA] at hcx
                        rw [hA'] at hcy
                        by_cases heq : x.legs[j] = y.legs[j]
                        · simp only [decide_eq_true heq, Bool.not_true] at he
                          have Heq := Lib.hid heq
                          clear heq
                          go_wp2
                          go_quiet (fail)
                          go_wp2
                          go_roundw
                          case rel => exact ⟨j + 1, m + _, by go_num, by omega, by rw [List.take_succ_eq_append_getElem hlt, List.take_succ_eq_append_getElem hltm, HT.out, Heq.out], rfl⟩
                          case measure => simp [intOf]; omega
                        · simp only [decide_eq_false heq, Bool.not_false] at he
                          have Heq := Lib.hid heq
                          clear heq
                          go_wp2
                          go_quiet (fail)
                          go_wp2
                          go_ret
                          refine ⟨?_, below_drewN (below_drewN hb1 _) _⟩
                          rw [Hxs.out, decide_eq_false (show ¬ x.legs = y.legs from fun e => Heq.out (by simp only [e]))]
                          rfl
                      · obtain rfl : j = x.legs.length := by omega
                        go_wp2
                        go_ret
                        refine ⟨?_, below_drewN hb1 _⟩
                        rw [Hxs.out, decide_eq_true (show x.legs = y.legs by
                          have := HT.out
                          rwa [List.take_length, List.take_of_length_le (by have := H.out.2.2.2.2.2.2.2.2; omega)] at this)]
                        rfl
                  · have q8 : ((x.legs.length : Int) != (y.legs.length : Int)) = true := by rw [bne_iff_ne]; omega
                    have Hs : Hid (sameB x y = false) := Lib.hid (decide_eq_false fun k => h8 (by rw [k.legs]))
                    clear h0 h1 h2 h3 h4 h5 h6 h7 h8
                    go_enter Tryz.func50, Tryz.ntmps50
                    go_wp2
                    go_ret
                    exact ⟨by rw [Hs.out]; rfl, hb1⟩
                · have q7 := bneS_of_ne h7
                  have p7 := beqS_of_ne h7
                  have Hs : Hid (sameB x y = false) := Lib.hid (decide_eq_false fun k => h7 k.note)
                  clear h0 h1 h2 h3 h4 h5 h6 h7
                  go_enter Tryz.func50, Tryz.ntmps50
                  go_wp2
                  go_ret
                  exact ⟨by rw [Hs.out]; rfl, hb1⟩
              · have q6 : (x.hold != y.hold) = true := bne_iff_ne.2 h6
                have Hs : Hid (sameB x y = false) := Lib.hid (decide_eq_false fun k => h6 k.hold)
                clear h0 h1 h2 h3 h4 h5 h6
                go_enter Tryz.func50, Tryz.ntmps50
                go_wp2
                go_ret
                exact ⟨by rw [Hs.out]; rfl, hb1⟩
            · have q5 : (x.period != y.period) = true := bne_iff_ne.2 h5
              have Hs : Hid (sameB x y = false) := Lib.hid (decide_eq_false fun k => h5 k.period)
              clear h0 h1 h2 h3 h4 h5
              go_enter Tryz.func50, Tryz.ntmps50
              go_wp2
              go_ret
              exact ⟨by rw [Hs.out]; rfl, hb1⟩
          · have q4 : (x.sum != y.sum) = true := bne_iff_ne.2 h4
            have Hs : Hid (sameB x y = false) := Lib.hid (decide_eq_false fun k => h4 k.sum)
            clear h0 h1 h2 h3 h4
            go_enter Tryz.func50, Tryz.ntmps50
            go_wp2
            go_ret
            exact ⟨by rw [Hs.out]; rfl, hb1⟩
        · have q3 := bneS_of_ne h3
          have p3 := beqS_of_ne h3
          have Hs : Hid (sameB x y = false) := Lib.hid (decide_eq_false fun k => h3 k.peer)
          clear h0 h1 h2 h3
          go_enter Tryz.func50, Tryz.ntmps50
          go_wp2
          go_ret
          exact ⟨by rw [Hs.out]; rfl, hb1⟩
      · have q2 := bneS_of_ne h2
        have p2 := beqS_of_ne h2
        have Hs : Hid (sameB x y = false) := Lib.hid (decide_eq_false fun k => h2 k.acct)
        clear h0 h1 h2
        go_enter Tryz.func50, Tryz.ntmps50
        go_wp2
        go_ret
        exact ⟨by rw [Hs.out]; rfl, hb1⟩
    · have q1 : (x.kind != y.kind) = true := bne_iff_ne.2 h1
      have Hs : Hid (sameB x y = false) := Lib.hid (decide_eq_false fun k => h1 k.kind)
      clear h0 h1
      go_enter Tryz.func50, Tryz.ntmps50
      go_wp2
      go_ret
      exact ⟨by rw [Hs.out]; rfl, hb1⟩
  · have q0 : ∀ W : World, (binOp .neq 43 (.agg #[i64 x.client, i64 x.seq]) (.agg #[i64 y.client, i64 y.seq])).run Tryz.prog W = .ok (.bool true) W := fun W => by rw [neq_id, decide_eq_false (show ¬ Id.mk x.client x.seq = ⟨y.client, y.seq⟩ from h0)]; rfl
    have Hs : Hid (sameB x y = false) := Lib.hid (decide_eq_false fun k => h0 k.id)
    clear h0
    go_enter Tryz.func50, Tryz.ntmps50
    go_wp2
    go_ret
    exact ⟨by rw [Hs.out]; rfl, hb1⟩
end Go.Proofs.YtmbfalokkabmnaaGreat

/- ref10.Same -/
namespace Go.Proofs.YtmbfalokkabmnaaGreat
open Go.RowKit
/-- ref10.Same -/
def sameL (a b : List Od) : Bool := decide (a.length = b.length) && (a.zip b).all fun p => sameB p.1 p.2

set_option maxRecDepth 100000 in
set_option maxHeartbeats 1000000 in
theorem sameL_c (A C : Option Addr) (c d : Nat) (a b : List Od) (w : World) (ha : Sl w w.heap.size A c a) (hb : Sl w w.heap.size C d b) (hna : a.length ≤ 65536) (_hnb : b.length ≤ 65536) (hla : ∀ x ∈ a, x.legs.length ≤ 65536) (hlb : ∀ x ∈ b, x.legs.length ≤ 65536) :
    Calls Tryz.prog 16 #[.slice A a.length c, .slice C b.length d] w fun e w' => e = .returned (.bool (sameL a b)) ∧ Below w.heap.size w w' := by
  by_cases hl : a.length = b.length
  · have q : ((a.length : Int) != (b.length : Int)) = false := by rw [hl]; simp
    have HL := Lib.hid hl
    have Hla := Lib.hid hla
    have Hlb := Lib.hid hlb
    clear hl hla hlb
    go_enter Tryz.func16, Tryz.ntmps16
    go_wp2
    go_loopw [5] (fun i wr => ∃ k : Nat, i = i64 k ∧ k ≤ a.length ∧ (∀ j (hj : j < a.length) (hj' : j < b.length), j < k → sameB a[j] b[j] = true) ∧ Below w.heap.size w wr) (fun i _ => a.length - (intOf i).toNat)
    case atStart => exact ⟨0, rfl, by omega, by omega, Below.refl _ _⟩
    case round =>
      obtain ⟨k, rfl, hk, hall, hbr⟩ := hrel
      have Hall := Lib.hid hall
      clear hall
      by_cases hlt : k < a.length
      · have hltb : k < b.length := by have := HL.out; omega
        obtain ⟨b0, o0, rfl, hbb, hok, c0, c1, c2, c3, c4, c5, c6, c7, c8, c9⟩ := (ha.later hbr).od hlt
        obtain ⟨b2, o2, rfl, hbb2, hok2, d0, d1, d2, d3, d4, d5, d6, d7, d8, d9⟩ := (hb.later hbr).od hltb
        have Hok := Lib.hid hok
        have Hok2 := Lib.hid hok2
        clear hok hok2
        have hbd := (Below.refl wr.heap.size wr).drew
        go_wp2
        refine wp_region_still_tail 8 (by kernel_rfl) (by kernel_rfl) ?_
        simp only [List.take_succ_cons, List.take_zero, List.drop_succ_cons, List.drop_zero]
        change wpStill _ _ (World.drew _) (fun a' => wpList _ _ _ _ a' (World.drew _)) _ _
        repeat still_step
        refine wpStill_nil ?_
        go_wp2_with fail
        refine (rsame_c a[k] b[k] _ (Okb.later Hok.out hbd) (Okb.later Hok2.out hbd) (Hla.out _ (List.getElem_mem _)) (Hlb.out _ (List.getElem_mem _))).mono ?_
        rintro e w5 ⟨rfl, hb5⟩
        have hb6 := hbr.trans ((hbd.trans hb5).mono hbr.size)
        clear hbd hb5
        by_cases hs : sameB a[k] b[k] = true
        · rw [hs]
          have Hs := Lib.hid hs
          clear hs
          go_wp2
          go_roundw
          case rel => exact ⟨k + 1, by go_num, by omega, fun j hj hj' h => by
              rcases Nat.lt_succ_iff_lt_or_eq.1 h with h | rfl
              · exact Hall.out j hj hj' h
              · exact Hs.out, hb6⟩
          case measure => simp [intOf]; omega
        · have hs' : sameB a[k] b[k] = false := by simpa using hs
          rw [hs']
          have Hs := Lib.hid hs'
          clear hs hs'
          go_wp2
          go_ret
          refine ⟨?_, hb6⟩
          have : sameL a b = false := by
            unfold sameL
            rw [Bool.and_eq_false_iff]
            right
            rw [List.all_eq_false]
            refine ⟨(a[k], b[k]), ?_, by simpa using Hs.out⟩
            rw [List.mem_iff_getElem]
            exact ⟨k, by simp; omega, by simp⟩
          rw [this]
          rfl
      · obtain rfl : k = a.length := by omega
        go_wp2
        go_ret
        refine ⟨?_, hbr⟩
        have : sameL a b = true := by
          unfold sameL
          rw [decide_eq_true HL.out, Bool.true_and, List.all_eq_true]
          intro p hp
          obtain ⟨j, hj, rfl⟩ := List.getElem_of_mem hp
          simp only [List.length_zip] at hj
          rw [List.getElem_zip]
          exact Hall.out j (by omega) (by omega) (by omega)
        rw [this]
        rfl
  · have q : ((a.length : Int) != (b.length : Int)) = true := by rw [bne_iff_ne]; omega
    have Hs : Hid (sameL a b = false) := Lib.hid (by unfold sameL; rw [decide_eq_false hl]; rfl)
    clear hl
    go_enter Tryz.func16, Tryz.ntmps16
    go_wp2
    go_ret
    exact ⟨by rw [Hs.out]; rfl, Below.refl _ _⟩
end Go.Proofs.YtmbfalokkabmnaaGreat

/- clash.Swap -/
namespace Go.Proofs.YtmbfalokkabmnaaGreat
open Go.RowKit
/-- may the orders at i and i + 1 change places? -/
def swapOk (l : List Od) (i : Int) : Bool := if h : 0 ≤ i ∧ i.toNat + 1 < l.length then !clashB l[i.toNat] (l[i.toNat + 1]'h.2) else false
def swapAt (l : List Od) (k : Nat) : List Od := if h : k + 1 < l.length then (l.set k l[k + 1]).set (k + 1) l[k] else l
def swapR (l : List Od) (i : Int) : List Od := if swapOk l i then swapAt l i.toNat else []

end Go.Proofs.YtmbfalokkabmnaaGreat
