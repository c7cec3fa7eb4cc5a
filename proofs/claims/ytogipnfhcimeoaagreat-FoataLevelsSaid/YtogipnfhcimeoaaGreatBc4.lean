/- Texts of this claim, laid together: Begins, More, Slices, SlO, Swap, Lives, FewBase, FnO, Others. -/
import Derived.Test.YtogipnfhcimeoaaGreatRows
import Derived.Test.YtogipnfhcimeoaaGreatBc3
import Derived.Test.YtogipnfhcimeoaaGreatBc2
import Derived.WalkKit
import Derived.WalkSpells
import Derived.WalkLawsBesides
import Derived.Deep.QuietTactic
import Derived.BigQuiet
import Derived.Laws.StructEq
import Derived.Deep.DeepFit
import Derived.StillTailTactics
import Derived.Test.YtogipnfhcimeoaaGreatBc1
import Derived.Laws.ResultCell
import Derived.Lib.AppendZeros
import Derived.Deep.RegionHeld3

/- clash.Begins, clash.Alike -/
namespace Go.Proofs.YtogipnfhcimeoaaGreat
open Go.RowKit
abbrev posN (l : List Od) (id : Id) : Option Nat := getM (placesN l) id
abbrev validL (l : List Od) : Bool := decide ((placesN l).length = l.length)
/-- what clash.Begins asks of one order -/
def beginsAt (a b : List Od) (i : Nat) (o : Od) : Bool :=
  match posN b o.id with
  | none => false
  | some k => (match b[k]? with | some x => sameB o x | none => false) && (b.take k).all fun p => !(clashB p o && (match posN a p.id with | none => true | some n => decide (i < n)))
/-- clash.Begins -/
def beginsB (a b : List Od) : Bool := (validL a && validL b) && (a.zipIdx.all fun p => beginsAt a b p.2 p.1)
abbrev alikeB (a b : List Od) : Bool := decide (a.length = b.length) && beginsB a b
theorem snoc_ind {α : Type} {Q : List α → Prop} (h0 : Q []) (hs : ∀ l x, Q l → Q (l ++ [x])) (l : List α) : Q l := by
  rw [← List.reverse_reverse l]
  induction l.reverse with
  | nil => exact h0
  | cons x r ih => rw [List.reverse_cons]; exact hs _ _ ih
theorem posN_lt {l : List Od} : ∀ {id : Id} {k : Nat}, posN l id = some k → k < l.length := by
  refine snoc_ind (Q := fun l => ∀ {id : Id} {k : Nat}, posN l id = some k → k < l.length) ?_ ?_ l
  · intro id k h; cases h
  · intro l x ih id k h
    unfold posN at h
    rw [placesN_snoc, getM_put] at h
    split at h
    · injection h with h; subst h; simp
    · have := ih h; simp; omega

theorem all_zip {a : List Od} {f : Nat → Od → Bool} (h : ∀ j (hj : j < a.length), f j a[j] = true) : (a.zipIdx.all fun p => f p.2 p.1) = true := by
  rw [List.all_eq_true]
  rintro ⟨x, j⟩ hp
  rw [List.mem_zipIdx_iff_getElem?] at hp
  obtain ⟨hj, hx⟩ := List.getElem?_eq_some_iff.1 hp
  have h2 := h j hj
  simp only at hx hj
  rw [← hx]
  exact h2
theorem all_zip_false {a : List Od} {f : Nat → Od → Bool} {j : Nat} (hj : j < a.length) (h : f j a[j] = false) : (a.zipIdx.all fun p => f p.2 p.1) = false := by
  rw [List.all_eq_false]
  exact ⟨(a[j], j), by rw [List.mem_zipIdx_iff_getElem?]; exact List.getElem?_eq_getElem hj, by simp [h]⟩
theorem beginsB_true {a b : List Od} (ha : validL a = true) (hb : validL b = true) (h : ∀ j (hj : j < a.length), beginsAt a b j a[j] = true) : beginsB a b = true := by
  unfold beginsB
  rw [ha, hb, all_zip (f := beginsAt a b) h]
  rfl
theorem beginsB_false {a b : List Od} {j : Nat} (hj : j < a.length) (h : beginsAt a b j a[j] = false) : beginsB a b = false := by
  unfold beginsB
  rw [all_zip_false (f := beginsAt a b) hj h, Bool.and_false]

theorem beginsAt_false {a b : List Od} {i k j : Nat} {o : Od} (hp : posN b o.id = some k) (hk : k < b.length) (hj : j < k) (h : (clashB (b[j]'(by omega)) o && (match posN a (b[j]'(by omega)).id with | none => true | some n => decide (i < n))) = true) : beginsAt a b i o = false := by
  unfold beginsAt
  rw [hp]
  simp only
  have : ((b.take k).all fun p => !(clashB p o && (match posN a p.id with | none => true | some n => decide (i < n)))) = false := by
    rw [List.all_eq_false]
    refine ⟨b[j]'(by omega), ?_, by rw [h]; simp⟩
    rw [List.mem_take_iff_getElem]
    exact ⟨j, by omega, rfl⟩
  rw [this, Bool.and_false]
theorem beginsAt_true {a b : List Od} {i k : Nat} {o : Od} (hp : posN b o.id = some k) (hk : k < b.length) (hs : sameB o b[k] = true) (h : ∀ j (hj : j < b.length), j < k → (clashB b[j] o && (match posN a b[j].id with | none => true | some n => decide (i < n))) = false) : beginsAt a b i o = true := by
  unfold beginsAt
  rw [hp]
  simp only [List.getElem?_eq_getElem hk, hs, Bool.true_and]
  rw [List.all_eq_true]
  intro p hp
  rw [List.mem_take_iff_getElem] at hp
  obtain ⟨j, hj, rfl⟩ := hp
  rw [h j (by omega) (by omega)]
  rfl

def fewLegs (l : List Od) : Prop := ∀ x ∈ l, x.legs.length ≤ 10

set_option maxRecDepth 100000 in
set_option maxHeartbeats 2000000 in
theorem begins_c (A C : Option Addr) (c d : Nat) (a b : List Od) (w : World) (ha : Sl w w.heap.size A c a) (hb : Sl w w.heap.size C d b) (hna : a.length ≤ 65536) (hnb : b.length ≤ 65536) (hla : fewLegs a) (hlb : fewLegs b) :
    Calls Tryz.prog 78 #[.slice A a.length c, .slice C b.length d] w fun e w' => e = .returned (.bool (beginsB a b)) ∧ Below w.heap.size w w' := by
  by_cases hva : validL a = true
  · by_cases hvb : validL b = true
    · have Hva := Lib.hid hva
      have Hvb := Lib.hid hvb
      have Ha := Lib.hid ha
      have Hb := Lib.hid hb
      have Hla := Lib.hid hla
      have Hlb := Lib.hid hlb
      clear hva hvb ha hb hla hlb
      go_enter Tryz.func78, Tryz.ntmps78
      go_wp2_with fail
      refine (right_c A c a _ Ha.out hna).mono ?_
      rintro e w1 ⟨rfl, hb1⟩
      have e1 : decide ((placesN a).length = a.length) = true := Hva.out
      rw [e1]
      clear e1
      go_wp2_with fail
      refine (right_c C d b _ (Hb.out.later hb1) hnb).mono ?_
      rintro e w2 ⟨rfl, hb2⟩
      have e2 : decide ((placesN b).length = b.length) = true := Hvb.out
      rw [e2]
      clear e2
      have hb12 := hb1.trans (hb2.mono hb1.size)
      clear hb1 hb2
      go_wp2_with fail
      refine (places_c A c a _ (Ha.out.later hb12) hna).mono ?_
      rintro e w3 ⟨rfl, hma, hb3⟩
      have hb13 := hb12.trans (hb3.mono hb12.size)
      clear hb3
      go_wp2_with fail
      refine (places_c C d b _ (Hb.out.later hb13) hnb).mono ?_
      rintro e w4 ⟨rfl, hmb, hb4⟩
      have hma4 := hma.later hb4
      have hb14 := hb13.trans (hb4.mono hb13.size)
      clear hma hb4
      obtain ⟨bA, hbA⟩ : ∃ bA, bA = w2.heap.size := ⟨_, rfl⟩
      obtain ⟨bB, hbB⟩ : ∃ bB, bB = w3.heap.size := ⟨_, rfl⟩
      rw [← hbA] at hma4 ⊢
      rw [← hbB] at hmb ⊢
      clear hbA hbB hb12 hb13
      go_wp2_with fail
      go_loopw [29] (fun i wr => ∃ k : Nat, i = i64 k ∧ k ≤ a.length ∧ (∀ j (hj : j < a.length), j < k → beginsAt a b j a[j] = true) ∧ MapIs Id.v wr bA (natV (placesN a)) ∧ MapIs Id.v wr bB (natV (placesN b)) ∧ Below w.heap.size w wr) (fun i _ => a.length - (intOf i).toNat)
      case atStart => exact ⟨0, rfl, by omega, by omega, hma4, hmb, hb14⟩
      case round =>
        obtain ⟨i, rfl, hi, hall, hmA, hmB, hbr⟩ := hrel
        have Hall := Lib.hid hall
        clear hall hma4 hmb hb14
        by_cases hlt : i < a.length
        · obtain ⟨b0, o0, rfl, hbb, hok, c0, c1, c2, c3, c4, c5, c6, c7, c8, c9⟩ := (Ha.out.later hbr).od hlt
          have Hok := Lib.hid hok
          clear hok
          have hB1 := (Below.refl wr.heap.size wr).alloc (Nat.le_refl _) (.cells a[i].cells.toArray 45)
          have hmA1 := hmA.later hB1
          have hmB1 := hmB.later hB1
          have hb1 := hbr.trans (hB1.mono hbr.size)
          simp only [Od.cells] at hB1 hmA1 hmB1 hb1
          have hlk := fun z hz => run_lookup (P := Tryz.prog) idKey Tryz.underlying141 hmB1 a[i].id z hz true
          have hlk1 := hlk (i64 0) (by kernel_rfl)
          rw [getM_map (fun n : Nat => i64 n)] at hlk1
          have hlk2 := Lib.hid hlk1
          clear hlk1
          have HmA1 := Lib.hid hmA1
          have HmB1 := Lib.hid hmB1
          have HB1 := Lib.hid hB1
          clear hmA hmB hmA1 hmB1 hlk hB1
          cases hp : getM (placesN b) a[i].id with
          | none =>
            have hlk1 := hlk2.out
            rw [hp] at hlk1
            simp only [Option.map_none, Option.getD_none, Option.isSome_none, if_true, Id.v, Od.id] at hlk1
            have Hp := Lib.hid hp
            clear hp
            go_wp2
            go_quiet (fail)
            go_wp2
            go_ret
            refine ⟨?_, below_drewN hb1 _⟩
            rw [beginsB_false hlt (by unfold beginsAt; rw [show posN b a[i].id = none from Hp.out])]
            rfl
          | some k =>
            have hlk1 := hlk2.out
            rw [hp] at hlk1
            simp only [Option.map_some, Option.getD_some, Option.isSome_some, if_true, Id.v, Od.id] at hlk1
            have hkb : k < b.length := posN_lt hp
            have hkd : k ≤ d := by have := Hb.out.1; omega
            have Hp := Lib.hid hp
            clear hp
            obtain ⟨b2, o2, rfl, hbb2, hok2, d0, d1, d2, d3, d4, d5, d6, d7, d8, d9⟩ := (Hb.out.later hbr).od hkb
            have Hok2 := Lib.hid hok2
            clear hok2
            go_wp2
            refine wp_region_still_tail 8 (by kernel_rfl) (by kernel_rfl) ?_
            simp only [List.take_succ_cons, List.take_zero, List.drop_succ_cons, List.drop_zero]
            change wpStill _ _ (World.drew _) (fun a' => wpList _ _ _ _ a' (World.drew _)) _ _
            repeat still_step
            refine wpStill_nil ?_
            go_wp2_with fail
            have hbd := (Below.refl (wr.heap.size + 1) (wr.alloc (.cells #[i64 a[i].client, i64 a[i].seq, i64 a[i].kind, .string a[i].acct, .string a[i].peer, i64 a[i].sum, .slice a[i].la a[i].legs.length a[i].lc, i64 a[i].period, i64 a[i].hold, .string a[i].note] 45))).drew
            refine (same_c a[i] b[k] _ (Okb.later (Okb.later Hok.out HB1.out) (Below.drew (Below.refl _ _))) (Okb.later (Okb.later Hok2.out HB1.out) (Below.drew (Below.refl _ _))) (Nat.le_trans (Hla.out _ (List.getElem_mem _)) (by decide)) (Nat.le_trans (Hlb.out _ (List.getElem_mem _)) (by decide))).mono ?_
            rintro e w5 ⟨rfl, hb5⟩
            have hI5 := hbd.trans (hb5.mono (by simp))
            have hbw5 := hb1.trans ((hbd.trans (hb5.mono (by simp))).mono (by have := hbr.size; omega))
            have hcb : ∀ o, w5.cell? ⟨wr.heap.size, o, none⟩ = _ := fun o => hI5.cell (p := ⟨wr.heap.size, o, none⟩) (Nat.lt_succ_self _)
            clear hbd hb5
            by_cases hsm : sameB a[i] b[k] = true
            · rw [hsm]
              have Hsm := Lib.hid hsm
              clear hsm hlk1
              go_wp2_with fail
              obtain ⟨wo, rfl⟩ : ∃ wo : World, wo = wr := ⟨_, rfl⟩
              go_loopw [56] (fun i2 wI => ∃ j : Nat, i2 = i64 j ∧ j ≤ k ∧ (∀ q (hq : q < b.length), q < j → (clashB b[q] a[i] && (match posN a b[q].id with | none => true | some n => decide (i < n))) = false) ∧
                Below (wo.heap.size + 1) (wo.alloc (.cells #[i64 a[i].client, i64 a[i].seq, i64 a[i].kind, .string a[i].acct, .string a[i].peer, i64 a[i].sum, .slice a[i].la a[i].legs.length a[i].lc, i64 a[i].period, i64 a[i].hold, .string a[i].note] 45)) wI) (fun i2 _ => k - (intOf i2).toNat)
              case atStart => exact ⟨0, rfl, by omega, by omega, hI5⟩
              case round =>
                obtain ⟨j, rfl, hj, hin, hI⟩ := hrel
                have Hin := Lib.hid hin
                clear hin hcb hI5 hbw5
                have hbI := hb1.trans (hI.mono (by have := hbr.size; omega))
                have hcb : ∀ o, wr.cell? ⟨wo.heap.size, o, none⟩ = _ := fun o => hI.cell (p := ⟨wo.heap.size, o, none⟩) (Nat.lt_succ_self _)
                by_cases hjk : j < k
                · have hjb : j < b.length := by omega
                  obtain ⟨b3, o3, hA3, hbb3, hok3, g0, g1, g2, g3, g4, g5, g6, g7, g8, g9⟩ := (Hb.out.later hbI).od hjb
                  injection hA3 with hA3
                  injection hA3 with hA4 hA5
                  subst hA4 hA5
                  have Hok3 := Lib.hid hok3
                  clear hok3
                  have hz : wo.heap.size < wr.heap.size := by have := hI.size; simp at this; omega
                  have hB3 := (Below.refl wr.heap.size wr).alloc (Nat.le_refl _) (.cells b[j].cells.toArray 45)
                  simp only [Od.cells] at hB3
                  have hmA3 := (HmA1.out.later (hI.mono (by simp))).later hB3
                  have hlk3 := run_lookup (P := Tryz.prog) idKey Tryz.underlying141 hmA3 b[j].id (i64 0) (by kernel_rfl) true
                  rw [getM_map (fun n : Nat => i64 n)] at hlk3
                  have Hlk3 := Lib.hid hlk3
                  have HB3 := Lib.hid hB3
                  clear hmA3 hlk3 hB3
                  cases hp3 : getM (placesN a) b[j].id with
                  | none =>
                    have hlk4 := Hlk3.out
                    rw [hp3] at hlk4
                    simp only [Option.map_none, Option.getD_none, Option.isSome_none, if_true, Id.v, Od.id] at hlk4
                    have Hp3 := Lib.hid hp3
                    clear hp3
                    go_wp2_with fail
                    refine (clash_c b[j] a[i] _ (Okb.later Hok3.out HB3.out) (Okb.later (Enc.keep (Okb.later Hok.out HB1.out) (fun _ hp => hI.cell (by simpa using hp)) (fun _ hp => Nat.lt_of_lt_of_le hp hI.size)) HB3.out) (Hlb.out _ (List.getElem_mem _)) (Hla.out _ (List.getElem_mem _))).mono ?_
                    rintro e w7 ⟨rfl, hb7⟩
                    have hI7 := (hI.trans (HB3.out.mono (by omega))).trans (hb7.mono (by simp; omega))
                    have hb17 := hb1.trans (hI7.mono (by have := hbr.size; omega))
                    clear hb7 hcb
                    by_cases hcl : clashB b[j] a[i] = true
                    · rw [hcl]
                      have Hcl := Lib.hid hcl
                      clear hcl
                      go_wp2
                      go_ret
                      refine ⟨?_, hb17⟩
                      rw [beginsB_false hlt (beginsAt_false Hp.out hkb hjk (by rw [Hcl.out, show posN a b[j].id = none from Hp3.out]; rfl))]
                      rfl
                    · have hcl : clashB b[j] a[i] = false := by simpa using hcl
                      rw [hcl]
                      have Hcl := Lib.hid hcl
                      clear hcl
                      go_wp2
                      go_roundw
                      case rel => exact ⟨j + 1, by go_num, by omega, fun q hq h => by
                          rcases Nat.lt_succ_iff_lt_or_eq.1 h with h | rfl
                          · exact Hin.out q hq h
                          · rw [Hcl.out]; rfl, hI7⟩
                      case measure => simp [intOf]; omega
                  | some n =>
                    have hlk4 := Hlk3.out
                    rw [hp3] at hlk4
                    simp only [Option.map_some, Option.getD_some, Option.isSome_some, if_true, Id.v, Od.id] at hlk4
                    have Hp3 := Lib.hid hp3
                    clear hp3
                    go_wp2_with fail
                    refine (clash_c b[j] a[i] _ (Okb.later Hok3.out HB3.out) (Okb.later (Enc.keep (Okb.later Hok.out HB1.out) (fun _ hp => hI.cell (by simpa using hp)) (fun _ hp => Nat.lt_of_lt_of_le hp hI.size)) HB3.out) (Hlb.out _ (List.getElem_mem _)) (Hla.out _ (List.getElem_mem _))).mono ?_
                    rintro e w7 ⟨rfl, hb7⟩
                    have hI7 := (hI.trans (HB3.out.mono (by omega))).trans (hb7.mono (by simp; omega))
                    have hb17 := hb1.trans (hI7.mono (by have := hbr.size; omega))
                    clear hb7 hcb
                    by_cases hcl : clashB b[j] a[i] = true
                    · by_cases hni : i < n
                      · rw [hcl]
                        have Hcl := Lib.hid hcl
                        clear hcl
                        go_wp2
                        go_ret
                        refine ⟨?_, hb17⟩
                        rw [beginsB_false hlt (beginsAt_false Hp.out hkb hjk (by rw [Hcl.out, show posN a b[j].id = some n from Hp3.out]; simpa using hni))]
                        rfl
                      · rw [hcl]
                        have Hcl := Lib.hid hcl
                        clear hcl
                        go_wp2
                        go_roundw
                        case rel => exact ⟨j + 1, by go_num, by omega, fun q hq h => by
                            rcases Nat.lt_succ_iff_lt_or_eq.1 h with h | rfl
                            · exact Hin.out q hq h
                            · rw [Hcl.out, show posN a b[q].id = some n from Hp3.out]; simpa using hni, hI7⟩
                        case measure => simp [intOf]; omega
                    · have hcl : clashB b[j] a[i] = false := by simpa using hcl
                      rw [hcl]
                      have Hcl := Lib.hid hcl
                      clear hcl
                      go_wp2
                      go_roundw
                      case rel => exact ⟨j + 1, by go_num, by omega, fun q hq h => by
                          rcases Nat.lt_succ_iff_lt_or_eq.1 h with h | rfl
                          · exact Hin.out q hq h
                          · rw [Hcl.out]; rfl, hI7⟩
                      case measure => simp [intOf]; omega
                · obtain rfl : j = k := by omega
                  go_wp2
                  go_roundw
                  case rel => exact ⟨i + 1, by go_num, by omega, fun q hq h => by
                      rcases Nat.lt_succ_iff_lt_or_eq.1 h with h | rfl
                      · exact Hall.out q hq h
                      · exact beginsAt_true Hp.out hkb Hsm.out Hin.out, HmA1.out.later (hI.mono (by simp)), HmB1.out.later (hI.mono (by simp)), hbI⟩
                  case measure => simp [intOf]; omega
            · have hsm' : sameB a[i] b[k] = false := by simpa using hsm
              rw [hsm']
              have Hsm := Lib.hid hsm'
              clear hsm hsm'
              go_wp2
              go_ret
              refine ⟨?_, hbw5⟩
              rw [beginsB_false hlt (by
                unfold beginsAt
                rw [show posN b a[i].id = some k from Hp.out]
                simp only [List.getElem?_eq_getElem hkb, Hsm.out, Bool.false_and])]
              rfl
        · obtain rfl : i = a.length := by omega
          go_wp2
          go_ret
          refine ⟨?_, hbr⟩
          rw [beginsB_true Hva.out Hvb.out (fun j hj => Hall.out j hj hj)]
          rfl
    · have hvb' : validL b = false := by simpa using hvb
      have Hs : Hid (beginsB a b = false) := Lib.hid (by unfold beginsB; rw [hva, hvb']; rfl)
      have Hva := Lib.hid hva
      have Hvb := Lib.hid hvb'
      clear hva hvb hvb'
      go_enter Tryz.func78, Tryz.ntmps78
      go_wp2_with fail
      refine (right_c A c a _ ha hna).mono ?_
      rintro e w1 ⟨rfl, hb1⟩
      have e1 : decide ((placesN a).length = a.length) = true := Hva.out
      rw [e1]
      clear e1
      go_wp2_with fail
      refine (right_c C d b _ (hb.later hb1) hnb).mono ?_
      rintro e w2 ⟨rfl, hb2⟩
      have e2 : decide ((placesN b).length = b.length) = false := Hvb.out
      rw [e2]
      clear e2
      go_wp2
      go_ret
      exact ⟨by rw [Hs.out]; rfl, hb1.trans (hb2.mono hb1.size)⟩
  · have hva' : validL a = false := by simpa using hva
    have Hs : Hid (beginsB a b = false) := Lib.hid (by unfold beginsB; rw [hva']; rfl)
    have Hva := Lib.hid hva'
    clear hva hva'
    go_enter Tryz.func78, Tryz.ntmps78
    go_wp2_with fail
    refine (right_c A c a _ ha hna).mono ?_
    rintro e w1 ⟨rfl, hb1⟩
    have e1 : decide ((placesN a).length = a.length) = false := Hva.out
    rw [e1]
    clear e1
    go_wp2
    go_ret
    exact ⟨by rw [Hs.out]; rfl, hb1⟩

set_option maxRecDepth 100000 in
set_option maxHeartbeats 400000 in
theorem alike_c (A C : Option Addr) (c d : Nat) (a b : List Od) (w : World) (ha : Sl w w.heap.size A c a) (hb : Sl w w.heap.size C d b) (hna : a.length ≤ 65536) (hnb : b.length ≤ 65536) (hla : fewLegs a) (hlb : fewLegs b) :
    Calls Tryz.prog 31 #[.slice A a.length c, .slice C b.length d] w fun e w' => e = .returned (.bool (alikeB a b)) ∧ Below w.heap.size w w' := by
  have H := Lib.hid (begins_c A C c d a b w ha hb hna hnb hla hlb)
  clear ha hb hla hlb
  by_cases hl : a.length = b.length
  · have q : ((a.length : Int) == (b.length : Int)) = true := by rw [hl]; simp
    have Hs : Hid (alikeB a b = beginsB a b) := Lib.hid (by unfold alikeB; rw [decide_eq_true hl, Bool.true_and])
    clear hl
    go_enter Tryz.func31, Tryz.ntmps31
    go_wp2_with (go_at_call 78; refine (H.out).mono ?_; rintro e w' ⟨rfl, hb⟩)
    go_ret
    exact ⟨by rw [Hs.out]; rfl, hb⟩
  · have q : ((a.length : Int) == (b.length : Int)) = false := by rw [beq_eq_false_iff_ne]; omega
    have Hs : Hid (alikeB a b = false) := Lib.hid (by unfold alikeB; rw [decide_eq_false hl, Bool.false_and])
    clear hl
    go_enter Tryz.func31, Tryz.ntmps31
    go_wp2_with (go_at_call 78; refine (H.out).mono ?_; rintro e w' ⟨rfl, hb⟩)
    go_ret
    exact ⟨by rw [Hs.out]; rfl, Below.refl _ _⟩
end Go.Proofs.YtogipnfhcimeoaaGreat

/- Small things -/
namespace Go.Proofs.YtogipnfhcimeoaaGreat
open Go.RowKit
theorem below_on {n : Nat} {a b c : World} (h : Below n a b) (hn : n ≤ a.heap.size) (k : Below b.heap.size b c) : Below n a c := h.trans (k.mono (Nat.le_trans hn h.size))
theorem Own.sl_of {α : Type} [Enc α] {w : World} {base : Nat} {e : TypeId} {A : Option Addr} {n c : Nat} {l : List α} (h : Own w base e (.slice A n c) l) : Sl w w.heap.size A c l := by
  obtain ⟨A', c', hv, hs⟩ := h.sl
  injection hv with h1 h2 h3
  subst h1 h3
  exact hs
theorem results_cell_row_tmp {P : Program} {fn : Func} {p u : Tmp} {ty : TypeId} (h : fn.results = #[.cell p ty, .tmp u]) (tmps : Array Value) (w : World) (g : Nat) (t : TypeId) (cs : Array Value) (fr : Nat × Nat) (d : TypeDesc)
    (hp : tmps.getD p undef = .pointer (some ⟨g, 0, none⟩)) (hg : w.heap[g]? = some (.cells cs t fr))
    (hu : P.underlying ty = some d) (hd : (match d with | .struct _ | .array _ _ => true | _ => false) = true) (hi : (P.info? ty).map (·.size) = some cs.size) :
    (results fn tmps).run P w = .ok (.tuple #[.agg cs, tmps.getD u undef]) w := by
  rw [results_cell_tmp h, hp]
  simp [asAddr, run_loadVar_row w g t ty cs fr d hg hu hd hi, Result.andThen]
end Go.Proofs.YtogipnfhcimeoaaGreat

/- Slices of slices as data; a new row with room. No program. -/
namespace Go.Proofs.YtogipnfhcimeoaaGreat
open Go.RowKit

/-- a slice as a datum: where it lies, and what it reads as -/
structure SV (α : Type) where
  a : Option Addr
  c : Nat
  l : List α
instance encSV {α : Type} [Enc α] : Enc (SV α) where
  size := 1
  cells s := [.slice s.a s.l.length s.c]
  val s := .slice s.a s.l.length s.c
  ok w S s := SlS w S s.a s.c s.l
  len _ := rfl
  one _ v hv := by simp only [List.mem_singleton] at hv; subst hv; rfl
  keep h hk hS := h.keep hk hS
theorem SlS.sv {α : Type} [Enc α] {w : World} {S : Nat → Prop} {c : Nat} {A : Option Addr} {l : List (SV α)} (h : SlS w S A c l) {k : Nat} (hk : k < l.length) : ∃ b o, A = some ⟨b, o, none⟩ ∧ S b ∧ SlS w S l[k].a l[k].c l[k].l ∧
    w.cell? ⟨b, o + k, none⟩ = some (.slice l[k].a l[k].l.length l[k].c) := by
  obtain ⟨b, o, hA, hb, hok, hc⟩ := h.at_ hk
  have h0 := hc 0 _ rfl
  rw [show k * Enc.size (SV α) + 0 = k from Nat.mul_one k] at h0
  exact ⟨b, o, hA, hb, hok, h0⟩
section
variable {α : Type} [Enc α]
theorem own_room (w : World) (base : Nat) (e : TypeId) (cap : Nat) (cs : Array Value) (hb : base ≤ w.heap.size) (hm : cap ≤ maxLen) (hcs : cs.size = cap * Enc.size α) : Own (w.alloc (.cells cs e)) base e (.slice (some ⟨w.heap.size, 0, none⟩) 0 cap) ([] : List α) :=
  ⟨⟨by simp, .inr ⟨w.heap.size, cap, cs, rfl, hb, heap_alloc_new w _, Nat.zero_le _, hm, hcs, by simp⟩⟩, by simp⟩
end
end Go.Proofs.YtogipnfhcimeoaaGreat

/- Clone, Grow, Concat at api.Order -/
namespace Go.Proofs.YtogipnfhcimeoaaGreat
open Go.RowKit
theorem inf_od : (Tryz.prog.info? 45).map (fun i => (i.zero, i.size, i.bytes)) = some (some (.agg #[i64 0, i64 0, i64 0, .string ByteArray.empty, .string ByteArray.empty, i64 0, .slice none 0 0, i64 0, i64 0, .string ByteArray.empty]), Enc.size Od, 120) := by kernel_rfl

set_option maxRecDepth 100000 in
set_option maxHeartbeats 400000 in
theorem clone_od (A : Option Addr) (c : Nat) (l : List Od) (w : World) (h : Sl w w.heap.size A c l) (hn : l.length ≤ 65536) :
    Calls Tryz.prog 102 #[.slice A l.length c] w fun e w' => ∃ v, e = .returned v ∧ Own w' w.heap.size 45 v l ∧ Below w.heap.size w w' := by
  have hnil := fun W : World => Lib.run_eql_slice_nil (P := Tryz.prog) W 22 45 A l.length c 0 0 Tryz.underlying22
  cases A with
  | none =>
    have hl : l = [] := by
      rcases l with _ | ⟨x, r⟩
      · rfl
      · obtain ⟨_, _, h1, _⟩ := h.2.2.1 (by simp); cases h1
    subst hl
    simp only [Option.isNone_none, List.length_nil] at hnil
    go_enter Tryz.func102, Tryz.ntmps102
    go_wp2
    go_ret
    exact ⟨_, rfl, Own.nil_ _ _ _, Below.refl _ _⟩
  | some ad =>
    simp only [Option.isNone_some] at hnil
    have hO0 := own_lit (w := w) (base := w.heap.size) 45 #[] ([] : List Od) (Nat.le_refl _) rfl (by simp) (by simp)
    have hbx := (Below.refl w.heap.size w).alloc (Nat.le_refl _) (.cells #[] 45)
    have hs := (h.below hbx).mono (hO0.oth (Nat.le_refl _) hbx.size)
    go_enter Tryz.func102, Tryz.ntmps102
    go_wp2_with (at_builtin; refine wpList_append_slice rfl (some 7) (.tmp 5) (.tmp 6) 22 rfl rfl (.agg #[i64 0, i64 0, i64 0, .string ByteArray.empty, .string ByteArray.empty, i64 0, .slice none 0 0, i64 0, i64 0, .string ByteArray.empty]) 120 Tryz.underlying22 inf_od rfl (by decide) (by decide) rfl hO0 (some ad) l.length c l rfl rfl hs (by simp; omega) hbx.size ?_; intro v3 w3 hO3 hg3 hat3)
    go_ret
    exact ⟨_, rfl, by simpa using hO3, hbx.trans (hO0.below hg3 (Nat.le_refl _) hbx.size)⟩

set_option maxRecDepth 100000 in
set_option maxHeartbeats 400000 in
theorem grow_od (n : Nat) (w : World) (hn : n ≤ 1000000000) :
    Calls Tryz.prog 112 #[.slice none 0 0, i64 n] w fun e w' => ∃ v, e = .returned v ∧ Own w' w.heap.size 45 v ([] : List Od) ∧ Below w.heap.size w w' := by
  rcases Nat.eq_zero_or_pos n with rfl | h0
  · go_enter Tryz.func112, Tryz.ntmps112
    go_wp2
    go_ret
    exact ⟨_, rfl, Own.nil_ _ _ _, Below.refl _ _⟩
  · obtain ⟨i, hi, hz, hz1, hz2⟩ := info_parts inf_od
    have hrun := fun ty => Lib.run_append_nil_zeros (P := Tryz.prog) w 22 3 ty 45 i (.agg #[i64 0, i64 0, i64 0, .string ByteArray.empty, .string ByteArray.empty, i64 0, .slice none 0 0, i64 0, i64 0, .string ByteArray.empty]) .i64 .i64 Tryz.underlying22 Tryz.underlying3 hi hz n h0 (by rw [hz1]; decide) (by omega) (by rw [hz2]; omega)
    have hO := own_room (α := Od) w.drew w.heap.size 45 (grownCap w n 0 45) (Builtin.zeroCells (Value.cells (.agg #[i64 0, i64 0, i64 0, .string ByteArray.empty, .string ByteArray.empty, i64 0, .slice none 0 0, i64 0, i64 0, .string ByteArray.empty])) n ++ Builtin.zeroCells (Value.cells (.agg #[i64 0, i64 0, i64 0, .string ByteArray.empty, .string ByteArray.empty, i64 0, .slice none 0 0, i64 0, i64 0, .string ByteArray.empty])) (grownCap w n 0 45 - n)) (Nat.le_refl _) (grownCap_le_maxLen w n 0 _ (by simp only [maxLen]; omega)) (by
      rw [Array.size_append, size_zeroCells, size_zeroCells, show (Value.cells (.agg #[i64 0, i64 0, i64 0, .string ByteArray.empty, .string ByteArray.empty, i64 0, .slice none 0 0, i64 0, i64 0, .string ByteArray.empty])).size = Enc.size Od from rfl, ← Nat.add_mul]
      have := grownCap_ge w n 0 45
      rw [Nat.add_sub_cancel' this])
    have hb := ((Below.refl w.heap.size w).drew).alloc (Nat.le_refl _) (.cells (Builtin.zeroCells (Value.cells (.agg #[i64 0, i64 0, i64 0, .string ByteArray.empty, .string ByteArray.empty, i64 0, .slice none 0 0, i64 0, i64 0, .string ByteArray.empty])) n ++ Builtin.zeroCells (Value.cells (.agg #[i64 0, i64 0, i64 0, .string ByteArray.empty, .string ByteArray.empty, i64 0, .slice none 0 0, i64 0, i64 0, .string ByteArray.empty])) (grownCap w n 0 45 - n)) 45)
    have HO := Lib.hid hO
    have Hb := Lib.hid hb
    have Hrun := Lib.hid hrun
    clear hO hb hrun hi hz hz1 hz2
    generalize (Builtin.zeroCells (Value.cells (.agg #[i64 0, i64 0, i64 0, .string ByteArray.empty, .string ByteArray.empty, i64 0, .slice none 0 0, i64 0, i64 0, .string ByteArray.empty])) n ++ Builtin.zeroCells (Value.cells (.agg #[i64 0, i64 0, i64 0, .string ByteArray.empty, .string ByteArray.empty, i64 0, .slice none 0 0, i64 0, i64 0, .string ByteArray.empty])) (grownCap w n 0 45 - n)) = Z at *
    generalize grownCap w n 0 45 = gc at *
    go_enter Tryz.func112, Tryz.ntmps112
    go_wp2_with (at_builtin; refine Lib.wpList_append_run _ rfl (.tmp 20) (.tmp 21) _ _ rfl _ _ rfl rfl _ _ (Hrun.out _) ?_)
    go_ret
    exact ⟨_, rfl, HO.out, Hb.out⟩

set_option maxRecDepth 100000 in
set_option maxHeartbeats 1000000 in
theorem concat_od (A : Option Addr) (c : Nat) (ss : List (SV Od)) (w : World) (h : Sl w w.heap.size A c ss) (hn : ss.length ≤ 65536) (ht : (ss.flatMap SV.l).length ≤ 65536) :
    Calls Tryz.prog 69 #[.slice A ss.length c] w fun e w' => ∃ v, e = .returned v ∧ Own w' w.heap.size 45 v (ss.flatMap SV.l) ∧ Below w.heap.size w w' := by
  have hpre : ∀ k, k ≤ ss.length → ((ss.take k).flatMap SV.l).length ≤ 65536 := fun k _ => by
    refine Nat.le_trans ?_ ht
    conv => rhs; rw [← List.take_append_drop k ss, List.flatMap_append, List.length_append]
    omega
  have hstep : ∀ k (hk : k < ss.length), (ss.take (k + 1)).flatMap SV.l = (ss.take k).flatMap SV.l ++ ss[k].l := fun k hk => by
    rw [List.take_succ_eq_append_getElem hk, List.flatMap_append]; simp
  have Hpre := Lib.hid hpre
  have Hstep := Lib.hid hstep
  clear hpre hstep
  go_enter Tryz.func69, Tryz.ntmps69
  go_wp2_with fail
  go_loop [3, 11] (fun sz i => ∃ k : Nat, k ≤ ss.length ∧ i = i64 k ∧ sz = i64 ((ss.take k).flatMap SV.l).length) (fun _ i => ss.length - (intOf i).toNat)
  case atStart => exact ⟨0, Nat.zero_le _, rfl, rfl⟩
  case round =>
    obtain ⟨k, hk, rfl, rfl⟩ := hrel
    have hpk := Hpre.out k hk
    by_cases hlt : k < ss.length
    · obtain ⟨b, o, rfl, hbb, -, d0⟩ := h.sv hlt
      have hpk1 := Hpre.out (k + 1) hlt
      have hl1 : ((ss.take (k + 1)).flatMap SV.l).length = ((ss.take k).flatMap SV.l).length + ss[k].l.length := by rw [Hstep.out k hlt, List.length_append]
      rw [hl1] at hpk1
      have Hl1 := Lib.hid hl1
      clear hl1
      generalize ((ss.take k).flatMap SV.l).length = p at *
      have hp1 : (p : Int) + (ss[k].l.length : Int) ≤ 65536 := by omega
      have hp0 : decide ((p : Int) + (ss[k].l.length : Int) < 0) = false := by rw [decide_eq_false_iff_not]; omega
      go_wp2
      go_round
      case rel => exact ⟨k + 1, by omega, by go_num, by rw [Hl1.out]; go_num⟩
      case measure => simp [intOf]; omega
    · obtain rfl : k = ss.length := by omega
      rw [List.take_length] at hpk ⊢
      clear ht
      generalize (ss.flatMap SV.l).length = q at *
      go_wp2_with fail
      refine (grow_od _ _ (by omega)).mono ?_
      rintro e w1 ⟨v1, rfl, hO1, hb1⟩
      go_wp2_with fail
      go_loopw [6, 27] (fun v i wr => ∃ k : Nat, k ≤ ss.length ∧ i = i64 k ∧ Own wr w.heap.size 45 v ((ss.take k).flatMap SV.l) ∧ Below w.heap.size w wr) (fun _ i _ => ss.length - (intOf i).toNat)
      case atStart => exact ⟨0, Nat.zero_le _, rfl, hO1, hb1⟩
      case round =>
        obtain ⟨k, hk, rfl, hO, hb⟩ := hrel
        have hpk2 := Hpre.out k hk
        by_cases hlt : k < ss.length
        · obtain ⟨b, o, rfl, hbb, hok, d0⟩ := (h.below hb).sv hlt
          have hs := hok.mono (hO.oth (Nat.le_refl _) hb.size)
          have hpk1 := Hpre.out (k + 1) hlt
          rw [Hstep.out k hlt, List.length_append] at hpk1
          have HO := Lib.hid hO
          have Hs := Lib.hid hs
          clear hok hs hO1 hb1 hO
          go_wp2_with (at_builtin; refine wpList_append_slice rfl (some 33) (.tmp 31) (.tmp 32) 22 rfl rfl (.agg #[i64 0, i64 0, i64 0, .string ByteArray.empty, .string ByteArray.empty, i64 0, .slice none 0 0, i64 0, i64 0, .string ByteArray.empty]) 120 Tryz.underlying22 inf_od rfl (by decide) (by decide) rfl HO.out ss[k].a ss[k].l.length ss[k].c ss[k].l rfl rfl Hs.out (by omega) hb.size ?_; intro v3 w3 hO3 hg3 hat3)
          go_roundw
          case rel => exact ⟨k + 1, by omega, by go_num, by rw [Hstep.out k hlt]; exact hO3, hb.trans (HO.out.below hg3 (Nat.le_refl _) hb.size)⟩
          case measure => simp [intOf]; omega
        · obtain rfl : k = ss.length := by omega
          rw [List.take_length] at hO
          go_wp2
          go_ret
          exact ⟨_, rfl, hO, hb⟩
end Go.Proofs.YtogipnfhcimeoaaGreat

/- clash.Swap -/
namespace Go.Proofs.YtogipnfhcimeoaaGreat
open Go.RowKit
/-- may the orders at i and i + 1 change places? -/
def swapOk (l : List Od) (i : Int) : Bool := if h : 0 ≤ i ∧ i.toNat + 1 < l.length then !clashB l[i.toNat] (l[i.toNat + 1]'h.2) else false
def swapAt (l : List Od) (k : Nat) : List Od := if h : k + 1 < l.length then (l.set k l[k + 1]).set (k + 1) l[k] else l
def swapR (l : List Od) (i : Int) : List Od := if swapOk l i then swapAt l i.toNat else []

set_option maxRecDepth 100000 in
set_option maxHeartbeats 2000000 in
theorem swap_c (A : Option Addr) (c : Nat) (l : List Od) (i : Int) (w : World) (h : Sl w w.heap.size A c l) (hn : l.length ≤ 65536) (hl : ∀ x ∈ l, x.legs.length ≤ 10) :
    Calls Tryz.prog 53 #[.slice A l.length c, i64 i] w fun e w' => ∃ v, e = .returned (.tuple #[v, .bool (swapOk l i)]) ∧ Own w' w.heap.size 45 v (swapR l i) ∧ Below w.heap.size w w' := by
  by_cases h0 : 0 ≤ i
  · by_cases h1 : i.toNat + 1 < l.length
    · obtain ⟨k, rfl⟩ := Int.eq_ofNat_of_zero_le h0
      rw [Int.toNat_natCast] at h1
      have hg1 : decide ((k : Int) < 0) = false := by rw [decide_eq_false_iff_not]; omega
      have hg2 : decide ((l.length : Int) - 1 ≤ (k : Int)) = false := by rw [decide_eq_false_iff_not]; omega
      obtain ⟨b, o, rfl, hbb, hok, c0, c1, c2, c3, c4, c5, c6, c7, c8, c9⟩ := h.od (k := k) (by omega)
      obtain ⟨b', o', hA', _, hok', d0, d1, d2, d3, d4, d5, d6, d7, d8, d9⟩ := h.od h1
      injection hA' with hA'
      injection hA' with h2 h3
      subst h2 h3
      have Hok := Lib.hid hok
      have Hok' := Lib.hid hok'
      clear hok hok'
      have hw1 : IntKind.i64.wrap ((l.length : Int) - 1) = (l.length : Int) - 1 := by rw [IntKind.wrap_i64]; omega
      have hw2 : IntKind.i64.wrap ((k : Int) + 1) = (k : Int) + 1 := by rw [IntKind.wrap_i64]; omega
      have hw5 : (0 : Int) ≤ (k : Int) := by omega
      have hw6 : (k : Int) < (l.length : Int) := by omega
      have hw7 : (k : Int) + 1 < (l.length : Int) := by omega
      have hw3 : (0 : Int) ≤ (k : Int) + 1 := by omega
      have hw4 : ((k : Int) + 1).toNat = k + 1 := by omega
      go_enter Tryz.func53, Tryz.ntmps53
      go_wp2
      refine wp_region_still_tail 19 (by kernel_rfl) (by kernel_rfl) ?_
      simp only [List.take_succ_cons, List.take_zero, List.drop_succ_cons, List.drop_zero]
      change wpStill _ _ (World.drew _) (fun a' => wpList _ _ _ _ a' (World.drew _)) _ _
      repeat still_step
      refine wpStill_nil ?_
      go_wp2_with fail
      have hbd := (Below.refl w.heap.size w).drew
      refine (clash_c l[k] l[k + 1] _ (Okb.later Hok.out hbd) (Okb.later Hok'.out hbd) (hl _ (List.getElem_mem _)) (hl _ (List.getElem_mem _))).mono ?_
      rintro e w1 ⟨rfl, hb1⟩
      have hb2 := hbd.trans hb1
      have hso : swapOk l k = !clashB l[k] l[k + 1] := by
        unfold swapOk
        rw [dif_pos ⟨by omega, by simpa using h1⟩]
        simp
      have Hso := Lib.hid hso
      clear hso hbd hb1
      by_cases hc : clashB l[k] l[k + 1] = true
      · rw [hc]
        have Hr : Hid (swapOk l k = false) := Lib.hid (by rw [Hso.out, hc]; rfl)
        clear hc
        go_wp2
        go_ret2
        exact ⟨_, by rw [Hr.out]; rfl, by rw [swapR, Hr.out, if_neg (by simp)]; exact Own.nil_ _ _ _, hb2⟩
      · have hc' : clashB l[k] l[k + 1] = false := by simpa using hc
        rw [hc']
        have Hr : Hid (swapOk l k = true) := Lib.hid (by rw [Hso.out, hc']; rfl)
        clear hc hc' c0 c1 c2 c3 c4 c5 c6 c7 c8 c9 d0 d1 d2 d3 d4 d5 d6 d7 d8 d9
        go_wp2_with fail
        refine (clone_od _ c l _ (h.later hb2) hn).mono ?_
        rintro e w2 ⟨v2, rfl, hO2, hb3⟩
        have hb4 := hb2.trans (hb3.mono hb2.size)
        obtain ⟨gb, cp, cur0, rfl, hgb, _, hcap, hcapm, _, _⟩ := hO2.form (by omega)
        obtain ⟨A2, c2, hv2, hs2⟩ := hO2.sl
        injection hv2 with hA2 hB2 hC2
        subst hA2 hC2
        obtain ⟨b3, o3, hA3, _, hok3, c0, c1, c2, c3, c4, c5, c6, c7, c8, c9⟩ := hs2.od (k := k) (by omega)
        injection hA3 with hA3
        injection hA3 with hA4 hA5
        subst hA4 hA5
        obtain ⟨b4, o4, hA6, _, hok4, d0, d1, d2, d3, d4, d5, d6, d7, d8, d9⟩ := hs2.od h1
        injection hA6 with hA6
        injection hA6 with hA7 hA8
        subst hA7 hA8
        simp only [Nat.zero_add] at c0 c1 c2 c3 c4 c5 c6 c7 c8 c9 d0 d1 d2 d3 d4 d5 d6 d7 d8 d9
        have hfr := fun j => hO2.free j
        clear hB2 hok3 hok4 hs2 hcapm
        go_wp2_with fail
        go_region
        go_wp2
        go_ret2
        have hokA : Enc.ok w2 (Oth w2 (.slice (some ⟨gb, 0, none⟩) l.length cp)) l[k + 1] := hO2.2 _ (List.getElem_mem _)
        have hokB : Enc.ok w2 (Oth w2 (.slice (some ⟨gb, 0, none⟩) l.length cp)) l[k] := hO2.2 _ (List.getElem_mem _)
        obtain ⟨p1, p2⟩ := hO2.set_cells k (by omega) l[k + 1] hokA
        obtain ⟨p3, p4⟩ := p1.set_cells (k + 1) (by simpa using h1) l[k] (oth_grown p2 (.inl rfl) hokB)
        have hfin : swapR l k = (l.set k l[k + 1]).set (k + 1) l[k] := by
          rw [swapR, Hr.out, if_pos rfl, Int.toNat_natCast, swapAt, dif_pos h1]
        exact ⟨_, by rw [Hr.out]; rfl, by rw [hfin]; exact (p3.mono hb2.size).drew, ((hb4.grown p2 hb4.size (fun g hg => by injection hg with hg; have := hb2.size; omega)).grown p4 (by have := p2.size; have := hb4.size; omega) (fun g hg => by injection hg with hg; have := hb2.size; omega)).drew⟩
    · have hso : swapOk l i = false := by unfold swapOk; rw [dif_neg (fun h => h1 h.2)]
      have Hr := Lib.hid hso
      have hlm : l.length ≤ 65536 := hn
      have hg1 : decide (i < 0) = false := by rw [decide_eq_false_iff_not]; omega
      have hw1 : IntKind.i64.wrap ((l.length : Int) - 1) = (l.length : Int) - 1 := by rw [IntKind.wrap_i64]; omega
      have hg2 : decide ((l.length : Int) - 1 ≤ i) = true := by rw [decide_eq_true_eq]; omega
      clear hso h
      go_enter Tryz.func53, Tryz.ntmps53
      go_wp2
      go_quiet (fail)
      go_wp2
      go_ret2
      exact ⟨_, by rw [Hr.out]; rfl, by rw [swapR, Hr.out, if_neg (by simp)]; exact Own.nil_ _ _ _, below_drewN (Below.refl _ _) _⟩
  · have hso : swapOk l i = false := by unfold swapOk; rw [dif_neg (fun h => h0 h.1)]
    have Hr := Lib.hid hso
    have hg1 : decide (i < 0) = true := by rw [decide_eq_true_eq]; omega
    clear hso h
    go_enter Tryz.func53, Tryz.ntmps53
    go_wp2
    go_quiet (fail)
    go_wp2
    go_ret2
    exact ⟨_, by rw [Hr.out]; rfl, by rw [swapR, Hr.out, if_neg (by simp)]; exact Own.nil_ _ _ _, below_drewN (Below.refl _ _) _⟩
end Go.Proofs.YtogipnfhcimeoaaGreat

/- lives -/
namespace Go.Proofs.YtogipnfhcimeoaaGreat
open Go.RowKit
/-- the list of lives, and what clash.Swap makes of it -/
def livesL : List Od := [askOd 1 ⟨#[97]⟩, askOd 2 ⟨#[98]⟩, askOd 3 ⟨#[98]⟩]
def livesM : List Od := [askOd 2 ⟨#[98]⟩, askOd 1 ⟨#[97]⟩, askOd 3 ⟨#[98]⟩]
theorem lives_ok : swapOk livesL 0 = true := by kernel_rfl
theorem lives_r : swapR livesL 0 = livesM := by kernel_rfl
theorem lives_no : swapOk livesL 1 = false := by kernel_rfl
theorem lives_alike : alikeB livesL livesM = true := by kernel_rfl
theorem lives_begins : beginsB (livesL.take 1) livesM = true := by kernel_rfl
theorem lives_clash : clashB (askOd 2 ⟨#[98]⟩) (askOd 3 ⟨#[98]⟩) = true := by kernel_rfl
theorem lives_not : beginsB (livesL.drop 2) livesM = false := by kernel_rfl
theorem lives_few {l : List Od} (h : l.all (fun x => decide (x.legs.length ≤ 10)) = true) : fewLegs l := fun x hx => of_decide_eq_true (List.all_eq_true.1 h x hx)
theorem askOd_okb (s : Int) (c : UInt8) (w : World) (n : Nat) : Okb w n (askOd s ⟨#[c]⟩) := ⟨by simp [askOd, ByteArray.size, maxLen], by simp [askOd, ByteArray.size, maxLen], by simp [askOd, ByteArray.size, maxLen], SlS.nil_ _ _⟩

set_option maxRecDepth 100000 in
set_option maxHeartbeats 8000000 in
theorem lives_10 (w : World) :
    Calls Tryz.prog 49 #[] w fun e w' => e = .returned (.bool true) ∧ Below w.heap.size w w' := by
  have a1 : ∀ W : World, Calls Tryz.prog 101 #[i64 1, .string ⟨#[97]⟩] W fun e w' => e = .returned (.agg #[i64 0, i64 1, i64 7, .string ⟨#[97]⟩, .string ⟨#[]⟩, i64 0, .slice none 0 0, i64 0, i64 0, .string ⟨#[]⟩]) ∧ Below W.heap.size W w' := fun W => ask_10 1 ⟨#[97]⟩ W
  have a2 : ∀ W : World, Calls Tryz.prog 101 #[i64 2, .string ⟨#[98]⟩] W fun e w' => e = .returned (.agg #[i64 0, i64 2, i64 7, .string ⟨#[98]⟩, .string ⟨#[]⟩, i64 0, .slice none 0 0, i64 0, i64 0, .string ⟨#[]⟩]) ∧ Below W.heap.size W w' := fun W => ask_10 2 ⟨#[98]⟩ W
  have a3 : ∀ W : World, Calls Tryz.prog 101 #[i64 3, .string ⟨#[98]⟩] W fun e w' => e = .returned (.agg #[i64 0, i64 3, i64 7, .string ⟨#[98]⟩, .string ⟨#[]⟩, i64 0, .slice none 0 0, i64 0, i64 0, .string ⟨#[]⟩]) ∧ Below W.heap.size W w' := fun W => ask_10 3 ⟨#[98]⟩ W
  have sw0 : ∀ (W : World) A c, Sl W W.heap.size A c livesL → Calls Tryz.prog 53 #[.slice A 3 c, i64 0] W fun e w' => ∃ v, e = .returned (.tuple #[v, .bool true]) ∧ Own w' W.heap.size 45 v livesM ∧ Below W.heap.size W w' := fun W A c h => by
    have := swap_c A c livesL 0 W h (by decide) (lives_few (by kernel_rfl))
    rw [lives_ok, lives_r] at this
    exact this
  have sw1 : ∀ (W : World) A c, Sl W W.heap.size A c livesL → Calls Tryz.prog 53 #[.slice A 3 c, i64 1] W fun e w' => ∃ v, e = .returned (.tuple #[v, .bool false]) ∧ Below W.heap.size W w' := fun W A c h => by
    have := swap_c A c livesL 1 W h (by decide) (lives_few (by kernel_rfl))
    rw [lives_no] at this
    exact this.mono (fun e w' h => let ⟨v, h1, _, h2⟩ := h; ⟨v, h1, h2⟩)
  have hfl := lives_few (l := livesL) (by kernel_rfl)
  have hfm := lives_few (l := livesM) (by kernel_rfl)
  have al : ∀ (W : World) A c B d, Sl W W.heap.size A c livesL → Sl W W.heap.size B d livesM → Calls Tryz.prog 31 #[.slice A 3 c, .slice B 3 d] W fun e w' => e = .returned (.bool true) ∧ Below W.heap.size W w' := fun W A c B d h k => by
    have := alike_c A B c d livesL livesM W h k (by decide) (by decide) hfl hfm
    rw [lives_alike] at this
    exact this
  have bg : ∀ (W : World) A c B d, Sl W W.heap.size A c (livesL.take 1) → Sl W W.heap.size B d livesM → Calls Tryz.prog 78 #[.slice A 1 c, .slice B 3 d] W fun e w' => e = .returned (.bool true) ∧ Below W.heap.size W w' := fun W A c B d h k => by
    have := begins_c A B c d (livesL.take 1) livesM W h k (by decide) (by decide) (fun x hx => hfl x (List.mem_of_mem_take hx)) hfm
    rw [lives_begins] at this
    exact this
  have bn : ∀ (W : World) A c B d, Sl W W.heap.size A c (livesL.drop 2) → Sl W W.heap.size B d livesM → Calls Tryz.prog 78 #[.slice A 1 c, .slice B 3 d] W fun e w' => e = .returned (.bool false) ∧ Below W.heap.size W w' := fun W A c B d h k => by
    have := begins_c A B c d (livesL.drop 2) livesM W h k (by decide) (by decide) (fun x hx => hfl x (List.mem_of_mem_drop hx)) hfm
    rw [lives_not] at this
    exact this
  have cl : ∀ W : World, Calls Tryz.prog 29 #[.agg #[i64 0, i64 2, i64 7, .string ⟨#[98]⟩, .string ⟨#[]⟩, i64 0, .slice none 0 0, i64 0, i64 0, .string ⟨#[]⟩], .agg #[i64 0, i64 3, i64 7, .string ⟨#[98]⟩, .string ⟨#[]⟩, i64 0, .slice none 0 0, i64 0, i64 0, .string ⟨#[]⟩]] W fun e w' => e = .returned (.bool true) ∧ Below W.heap.size W w' := fun W => by
    have := clash_c (askOd 2 ⟨#[98]⟩) (askOd 3 ⟨#[98]⟩) W (askOd_okb _ _ _ _) (askOd_okb _ _ _ _) (by decide) (by decide)
    rw [lives_clash] at this
    exact this
  go_enter Tryz.func49, Tryz.ntmps49
  go_wp2_with fail
  refine (a1 _).mono ?_
  rintro e w1 ⟨rfl, hb1⟩
  go_wp2_with fail
  refine (a2 _).mono ?_
  rintro e w2 ⟨rfl, hb2⟩
  go_wp2_with fail
  refine (a3 _).mono ?_
  rintro e w3 ⟨rfl, hb3⟩
  have hb4 := below_on (below_on hb1 (Nat.le_refl _) hb2) (Nat.le_refl _) hb3
  have hO := fun cs hcs => own_lit (w := w3) 45 cs livesL (Nat.le_refl _) hcs (by decide) (fun x hx => by
    simp only [livesL, List.mem_cons, List.not_mem_nil, or_false] at hx
    rcases hx with rfl | rfl | rfl <;> exact askOd_okb _ _ _ _)
  have hb5 := fun o => hb4.alloc hb4.size o
  clear hb1 hb2 hb3 hb4 a1 a2 a3
  go_wp2_with fail
  have hL : Sl _ _ (some ⟨w3.heap.size, 0, none⟩) 3 livesL := (hO _ rfl).sl_of
  refine (sw0 _ _ _ hL).mono ?_
  rintro e w4 ⟨v, rfl, hM, hb6⟩
  have hb7 := below_on (hb5 _) (Nat.le_refl _) hb6
  have hL2 := hL.later hb6
  clear hL hb5 hb6 hO sw0
  go_wp2_with fail
  refine (sw1 _ _ _ hL2).mono ?_
  rintro e w5 ⟨v2, rfl, hb8⟩
  have hb9 := below_on hb7 (Nat.le_refl _) hb8
  obtain ⟨A, c, rfl, hM2⟩ : ∃ A c, v = .slice A 3 c ∧ Sl w4 w4.heap.size A c livesM := hM.sl
  have hM3 := hM2.later hb8
  have hL3 := hL2.later hb8
  clear hL2 hM2 hM hb7 hb8 sw1
  obtain ⟨g2, o2, rfl, hgm, -, -, fm, -⟩ := hM3.od (k := 0) (by decide)
  go_wp2_with fail
  generalize w3.heap.size = g at hL3 ⊢
  obtain ⟨b1, o1, hA1, hgl, -, c0, c1, c2, c3, c4, c5, c6, c7, c8, c9⟩ := hL3.od (k := 1) (by decide)
  injection hA1 with hA1
  injection hA1 with e1 e2
  subst e1 e2
  obtain ⟨b2, o3, hA2, -, -, d0, d1, d2, d3, d4, d5, d6, d7, d8, d9⟩ := hL3.od (k := 2) (by decide)
  injection hA2 with hA2
  injection hA2 with e3 e4
  subst e3 e4
  have fc0 : w5.cell? ⟨g, 10, none⟩ = some (i64 0) := c0
  have fc1 : w5.cell? ⟨g, 11, none⟩ = some (i64 2) := c1
  have fc2 : w5.cell? ⟨g, 12, none⟩ = some (i64 7) := c2
  have fc3 : w5.cell? ⟨g, 13, none⟩ = some (.string ⟨#[98]⟩) := c3
  have fc4 : w5.cell? ⟨g, 14, none⟩ = some (.string ⟨#[]⟩) := c4
  have fc5 : w5.cell? ⟨g, 15, none⟩ = some (i64 0) := c5
  have fc6 : w5.cell? ⟨g, 16, none⟩ = some (.slice none 0 0) := c6
  have fc7 : w5.cell? ⟨g, 17, none⟩ = some (i64 0) := c7
  have fc8 : w5.cell? ⟨g, 18, none⟩ = some (i64 0) := c8
  have fc9 : w5.cell? ⟨g, 19, none⟩ = some (.string ⟨#[]⟩) := c9
  have fd0 : w5.cell? ⟨g, 20, none⟩ = some (i64 0) := d0
  have fd1 : w5.cell? ⟨g, 21, none⟩ = some (i64 3) := d1
  have fd2 : w5.cell? ⟨g, 22, none⟩ = some (i64 7) := d2
  have fd3 : w5.cell? ⟨g, 23, none⟩ = some (.string ⟨#[98]⟩) := d3
  have fd4 : w5.cell? ⟨g, 24, none⟩ = some (.string ⟨#[]⟩) := d4
  have fd5 : w5.cell? ⟨g, 25, none⟩ = some (i64 0) := d5
  have fd6 : w5.cell? ⟨g, 26, none⟩ = some (.slice none 0 0) := d6
  have fd7 : w5.cell? ⟨g, 27, none⟩ = some (i64 0) := d7
  have fd8 : w5.cell? ⟨g, 28, none⟩ = some (i64 0) := d8
  have fd9 : w5.cell? ⟨g, 29, none⟩ = some (.string ⟨#[]⟩) := d9
  have hS : ∀ W, Below w5.heap.size w5 W → (Below w5.heap.size w5 W ∧ W.cell? ⟨g, 10, none⟩ = some (i64 0) ∧ W.cell? ⟨g, 11, none⟩ = some (i64 2) ∧ W.cell? ⟨g, 12, none⟩ = some (i64 7) ∧ W.cell? ⟨g, 13, none⟩ = some (.string ⟨#[98]⟩) ∧ W.cell? ⟨g, 14, none⟩ = some (.string ⟨#[]⟩) ∧ W.cell? ⟨g, 15, none⟩ = some (i64 0) ∧ W.cell? ⟨g, 16, none⟩ = some (.slice none 0 0) ∧ W.cell? ⟨g, 17, none⟩ = some (i64 0) ∧ W.cell? ⟨g, 18, none⟩ = some (i64 0) ∧ W.cell? ⟨g, 19, none⟩ = some (.string ⟨#[]⟩) ∧ W.cell? ⟨g, 20, none⟩ = some (i64 0) ∧ W.cell? ⟨g, 21, none⟩ = some (i64 3) ∧ W.cell? ⟨g, 22, none⟩ = some (i64 7) ∧ W.cell? ⟨g, 23, none⟩ = some (.string ⟨#[98]⟩) ∧ W.cell? ⟨g, 24, none⟩ = some (.string ⟨#[]⟩) ∧ W.cell? ⟨g, 25, none⟩ = some (i64 0) ∧ W.cell? ⟨g, 26, none⟩ = some (.slice none 0 0) ∧ W.cell? ⟨g, 27, none⟩ = some (i64 0) ∧ W.cell? ⟨g, 28, none⟩ = some (i64 0) ∧ W.cell? ⟨g, 29, none⟩ = some (.string ⟨#[]⟩) ∧ W.cell? ⟨g2, o2 + 1, none⟩ = some (i64 2)) := fun W h => ⟨h, (h.cell hgl).trans fc0, (h.cell hgl).trans fc1, (h.cell hgl).trans fc2, (h.cell hgl).trans fc3, (h.cell hgl).trans fc4, (h.cell hgl).trans fc5, (h.cell hgl).trans fc6, (h.cell hgl).trans fc7, (h.cell hgl).trans fc8, (h.cell hgl).trans fc9, (h.cell hgl).trans fd0, (h.cell hgl).trans fd1, (h.cell hgl).trans fd2, (h.cell hgl).trans fd3, (h.cell hgl).trans fd4, (h.cell hgl).trans fd5, (h.cell hgl).trans fd6, (h.cell hgl).trans fd7, (h.cell hgl).trans fd8, (h.cell hgl).trans fd9, (h.cell hgm).trans fm⟩
  have hT1 : ∀ W, Below w5.heap.size w5 W → Sl W W.heap.size (some ⟨g, 0, none⟩) 3 (livesL.take 1) := fun W h => (hL3.later h).take 1
  have hT2 : ∀ W, Below w5.heap.size w5 W → Sl W W.heap.size (some ⟨g, 20, none⟩) 1 (livesL.drop 2) := fun W h => (hL3.later h).drop (k := 2) (by decide)
  have hM4 : ∀ W, Below w5.heap.size w5 W → Sl W W.heap.size (some ⟨g2, o2, none⟩) c livesM := fun W h => hM3.later h
  have hL4 : ∀ W, Below w5.heap.size w5 W → Sl W W.heap.size (some ⟨g, 0, none⟩) 3 livesL := fun W h => hL3.later h
  have xA : ∀ W, Below w5.heap.size w5 W → Calls Tryz.prog 31 #[.slice (some ⟨g, 0, none⟩) 3 3, .slice (some ⟨g2, o2, none⟩) 3 c] W fun e w' => e = .returned (.bool true) ∧ Below W.heap.size W w' := fun W h => al W _ _ _ _ (hL4 W h) (hM4 W h)
  have xB : ∀ W, Below w5.heap.size w5 W → Calls Tryz.prog 78 #[.slice (some ⟨g, 0, none⟩) 1 3, .slice (some ⟨g2, o2, none⟩) 3 c] W fun e w' => e = .returned (.bool true) ∧ Below W.heap.size W w' := fun W h => bg W _ _ _ _ (hT1 W h) (hM4 W h)
  have xN : ∀ W, Below w5.heap.size w5 W → Calls Tryz.prog 78 #[.slice (some ⟨g, 20, none⟩) 1 1, .slice (some ⟨g2, o2, none⟩) 3 c] W fun e w' => e = .returned (.bool false) ∧ Below W.heap.size W w' := fun W h => bn W _ _ _ _ (hT2 W h) (hM4 W h)
  clear al bg bn hT1 hT2 hL4 hM4 hfl hfm
  clear c0 c1 c2 c3 c4 c5 c6 c7 c8 c9 d0 d1 d2 d3 d4 d5 d6 d7 d8 d9 hL3 hM3
  have h0 := (Below.refl w5.heap.size w5).drew
  go_region_held3 (fun W => Below w5.heap.size w5 W ∧ W.cell? ⟨g, 10, none⟩ = some (i64 0) ∧ W.cell? ⟨g, 11, none⟩ = some (i64 2) ∧ W.cell? ⟨g, 12, none⟩ = some (i64 7) ∧ W.cell? ⟨g, 13, none⟩ = some (.string ⟨#[98]⟩) ∧ W.cell? ⟨g, 14, none⟩ = some (.string ⟨#[]⟩) ∧ W.cell? ⟨g, 15, none⟩ = some (i64 0) ∧ W.cell? ⟨g, 16, none⟩ = some (.slice none 0 0) ∧ W.cell? ⟨g, 17, none⟩ = some (i64 0) ∧ W.cell? ⟨g, 18, none⟩ = some (i64 0) ∧ W.cell? ⟨g, 19, none⟩ = some (.string ⟨#[]⟩) ∧ W.cell? ⟨g, 20, none⟩ = some (i64 0) ∧ W.cell? ⟨g, 21, none⟩ = some (i64 3) ∧ W.cell? ⟨g, 22, none⟩ = some (i64 7) ∧ W.cell? ⟨g, 23, none⟩ = some (.string ⟨#[98]⟩) ∧ W.cell? ⟨g, 24, none⟩ = some (.string ⟨#[]⟩) ∧ W.cell? ⟨g, 25, none⟩ = some (i64 0) ∧ W.cell? ⟨g, 26, none⟩ = some (.slice none 0 0) ∧ W.cell? ⟨g, 27, none⟩ = some (i64 0) ∧ W.cell? ⟨g, 28, none⟩ = some (i64 0) ∧ W.cell? ⟨g, 29, none⟩ = some (.string ⟨#[]⟩) ∧ W.cell? ⟨g2, o2 + 1, none⟩ = some (i64 2)) (first | exact hS _ h0 | (go_split_ands; exact hS _ (below_on (by assumption) (Nat.le_refl _) hbX)))
    (first
      | (go_at_call 31; with_reducible refine (xA _ ?hb).mono ?_; (case hb => (go_split_ands; assumption)); rintro e w' ⟨rfl, hbX⟩)
      | (go_at_call 78; with_reducible refine (xB _ ?hb).mono ?_; (case hb => (go_split_ands; assumption)); rintro e w' ⟨rfl, hbX⟩)
      | (go_at_call 78; with_reducible refine (xN _ ?hb).mono ?_; (case hb => (go_split_ands; assumption)); rintro e w' ⟨rfl, hbX⟩)
      | (go_at_call 29; with_reducible refine (cl _).mono ?_; rintro e w' ⟨rfl, hbX⟩))
  go_wp2
  go_ret
  refine ⟨rfl, below_on hb9 (Nat.le_refl _) ?_⟩
  go_split_ands
  assumption
end Go.Proofs.YtogipnfhcimeoaaGreat

/- few and own, in lists. No program. -/
namespace Go.Proofs.YtogipnfhcimeoaaGreat
open Go.RowKit
/-- an order with its first 8 legs alone -/
def cut8 (x : Od) : Od := { x with legs := x.legs.take 8 }
def fewL (n : Nat) (l : List Od) : List Od := (l.take n).map cut8
theorem cut8_ok {w : World} {S : Nat → Prop} {x : Od} (h : Od.Ok w S x) : Od.Ok w S (cut8 x) := ⟨h.acct, h.peer, h.note, h.legs.take 8⟩
theorem cut8_small {x : Od} (h : x.legs.length ≤ 8) : cut8 x = x := by
  unfold cut8
  rw [List.take_of_length_le h]
theorem fewL_len {l : List Od} {k : Nat} (h : k < l.length) : (fewL k l).length = k := by
  unfold fewL
  rw [List.length_map, List.length_take]; omega
theorem fewL_succ {l : List Od} {k : Nat} (h : k < l.length) : fewL (k + 1) l = fewL k l ++ [cut8 l[k]] := by
  unfold fewL
  rw [List.take_succ_eq_append_getElem h, List.map_append]; rfl
theorem fewL_legs (n : Nat) (l : List Od) : ∀ x ∈ fewL n l, x.legs.length ≤ 8 := by
  intro x hx
  obtain ⟨y, _, rfl⟩ := List.mem_map.1 hx
  show (y.legs.take 8).length ≤ 8
  rw [List.length_take]; omega
theorem fewL_le (n : Nat) (l : List Od) : (fewL n l).length ≤ n := by
  unfold fewL
  rw [List.length_map, List.length_take]; omega
/-- those whose Id was not there ahead: the first k places looked at -/
def ownK (l : List Od) (k : Nat) : List Od := ((l.take k).zipIdx.filter fun p => decide (atIdx l p.1.id = (p.2 : Int))).map (·.1)
abbrev ownL (l : List Od) : List Od := ownK l l.length
theorem ownK_succ {l : List Od} {k : Nat} (h : k < l.length) : ownK l (k + 1) = if atIdx l l[k].id = (k : Int) then ownK l k ++ [l[k]] else ownK l k := by
  unfold ownK
  rw [List.take_succ_eq_append_getElem h, List.zipIdx_append, List.filter_append, List.map_append]
  have hl : (l.take k).length = k := by rw [List.length_take]; omega
  simp only [hl, Nat.zero_add, List.zipIdx_cons, List.zipIdx_nil]
  by_cases hc : atIdx l l[k].id = (k : Int)
  · rw [if_pos hc, List.filter_cons_of_pos (by simpa using hc)]; rfl
  · rw [if_neg hc, List.filter_cons_of_neg (by simpa using hc)]; simp
theorem ownK_len (l : List Od) (k : Nat) : (ownK l k).length ≤ k := by
  unfold ownK
  rw [List.length_map]
  refine Nat.le_trans (List.length_filter_le _ _) ?_
  rw [List.length_zipIdx, List.length_take]; omega
theorem ownK_sub (l : List Od) (k : Nat) : ∀ x ∈ ownK l k, x ∈ l := by
  intro x hx
  obtain ⟨p, hp, rfl⟩ := List.mem_map.1 hx
  have := (List.mem_filter.1 hp).1
  exact List.mem_of_mem_take (List.fst_mem_of_mem_zipIdx this)
end Go.Proofs.YtogipnfhcimeoaaGreat

/- IndexFunc, ContainsFunc, DeleteFunc at api.Order -/
namespace Go.Proofs.YtogipnfhcimeoaaGreat
open Go.RowKit
theorem one_od : ∀ u ∈ (Value.agg #[i64 0, i64 0, i64 0, .string ByteArray.empty, .string ByteArray.empty, i64 0, .slice none 0 0, i64 0, i64 0, .string ByteArray.empty]).cells.toList, u.oneCell' = true := by
  intro u hu
  simp only [Value.cells, List.mem_cons, List.not_mem_nil, or_false] at hu
  rcases hu with rfl | rfl | rfl | rfl | rfl | rfl | rfl | rfl | rfl | rfl <;> rfl

end Go.Proofs.YtogipnfhcimeoaaGreat

/- clash.others, Rest, Meet, Swap -/
namespace Go.Proofs.YtogipnfhcimeoaaGreat
open Go.RowKit
/-- those of b whose Id is not in a -/
def othersL (a b : List Od) : List Od := b.filter fun x => !(posN a x.id).isSome

/-- clash.Rest -/
def restL (a b : List Od) : List Od := if beginsB a b then othersL a b else []
theorem othersL_sub (a b : List Od) : ∀ x ∈ othersL a b, x ∈ b := fun _ hx => (List.mem_filter.1 hx).1
theorem othersL_len (a b : List Od) : (othersL a b).length ≤ b.length := List.length_filter_le _ _

abbrev meetL (a b : List Od) : List Od := a ++ othersL a b
/-- does clash.Meet find a list? -/
def meetOk (a b : List Od) : Bool := beginsB a (meetL a b) && beginsB b (meetL a b)
def meetR (a b : List Od) : List Od := if meetOk a b then meetL a b else []
theorem meetL_few {a b : List Od} (hla : fewLegs a) (hlb : fewLegs b) : fewLegs (meetL a b) := fun x hx => by
  rcases List.mem_append.1 hx with h | h
  · exact hla x h
  · exact hlb x (othersL_sub a b x h)

end Go.Proofs.YtogipnfhcimeoaaGreat
