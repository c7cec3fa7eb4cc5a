/- clash.Begins, clash.Alike -/
import Derived.Test.YtogecfddkohigaaRows
import Derived.Test.YtogecfddkohigaaPlaces
import Derived.Test.YtogecfddkohigaaClash
import Derived.Test.YtogecfddkohigaaSame
import Derived.WalkKit
import Derived.WalkSpells
import Derived.WalkLawsBesides
import Derived.Deep.QuietTactic
import Derived.BigQuiet
import Derived.Laws.StructEq
import Derived.Deep.DeepFit
import Derived.StillTailTactics
namespace Go.Proofs.Ytogecfddkohigaa
open Go.RowKit
abbrev posN (l : List Od) (id : Id) : Option Nat := getM (placesN l) id
abbrev validL (l : List Od) : Bool := decide ((placesN l).length = l.length)
/-- what clash.Begins asks of one order -/
def beginsAt (a b : List Od) (i : Nat) (o : Od) : Bool :=
  match posN b o.id with
  | none => false
  | some k => (match b[k]? with | some x => sameB o x | none => false) && (b.take k).all fun p => !(clashB p o && (match posN a p.id with | none => true | some n => decide (i < n)))
/-- clash.Begins -/
def beginsB (a b : List Od) : Bool := (validL a && validL b) && (a.zipIdx.all fun p => beginsAt a b p.2 p.1)
abbrev alikeB (a b : List Od) : Bool := decide (a.length = b.length) && beginsB a b
theorem snoc_ind {α : Type} {Q : List α → Prop} (h0 : Q []) (hs : ∀ l x, Q l → Q (l ++ [x])) (l : List α) : Q l := by
  rw [← List.reverse_reverse l]
  induction l.reverse with
  | nil => exact h0
  | cons x r ih => rw [List.reverse_cons]; exact hs _ _ ih
theorem posN_lt {l : List Od} : ∀ {id : Id} {k : Nat}, posN l id = some k → k < l.length := by
  refine snoc_ind (Q := fun l => ∀ {id : Id} {k : Nat}, posN l id = some k → k < l.length) ?_ ?_ l
  · intro id k h; cases h
  · intro l x ih id k h
    unfold posN at h
    rw [placesN_snoc, getM_put] at h
    split at h
    · injection h with h; subst h; simp
    · have := ih h; simp; omega

theorem all_zip {a : List Od} {f : Nat → Od → Bool} (h : ∀ j (hj : j < a.length), f j a[j] = true) : (a.zipIdx.all fun p => f p.2 p.1) = true := by
  rw [List.all_eq_true]
  rintro ⟨x, j⟩ hp
  rw [List.mem_zipIdx_iff_getElem?] at hp
  obtain ⟨hj, hx⟩ := List.getElem?_eq_some_iff.1 hp
  have h2 := h j hj
  simp only at hx hj
  rw [← hx]
  exact h2
theorem all_zip_false {a : List Od} {f : Nat → Od → Bool} {j : Nat} (hj : j < a.length) (h : f j a[j] = false) : (a.zipIdx.all fun p => f p.2 p.1) = false := by
  rw [List.all_eq_false]
  exact ⟨(a[j], j), by rw [List.mem_zipIdx_iff_getElem?]; exact List.getElem?_eq_getElem hj, by simp [h]⟩
theorem beginsB_true {a b : List Od} (ha : validL a = true) (hb : validL b = true) (h : ∀ j (hj : j < a.length), beginsAt a b j a[j] = true) : beginsB a b = true := by
  unfold beginsB
  rw [ha, hb, all_zip (f := beginsAt a b) h]
  rfl
theorem beginsB_false {a b : List Od} {j : Nat} (hj : j < a.length) (h : beginsAt a b j a[j] = false) : beginsB a b = false := by
  unfold beginsB
  rw [all_zip_false (f := beginsAt a b) hj h, Bool.and_false]

theorem beginsAt_false {a b : List Od} {i k j : Nat} {o : Od} (hp : posN b o.id = some k) (hk : k < b.length) (hj : j < k) (h : (clashB (b[j]'(by omega)) o && (match posN a (b[j]'(by omega)).id with | none => true | some n => decide (i < n))) = true) : beginsAt a b i o = false := by
  unfold beginsAt
  rw [hp]
  simp only
  have : ((b.take k).all fun p => !(clashB p o && (match posN a p.id with | none => true | some n => decide (i < n)))) = false := by
    rw [List.all_eq_false]
    refine ⟨b[j]'(by omega), ?_, by rw [h]; simp⟩
    rw [List.mem_take_iff_getElem]
    exact ⟨j, by omega, rfl⟩
  rw [this, Bool.and_false]
theorem beginsAt_true {a b : List Od} {i k : Nat} {o : Od} (hp : posN b o.id = some k) (hk : k < b.length) (hs : sameB o b[k] = true) (h : ∀ j (hj : j < b.length), j < k → (clashB b[j] o && (match posN a b[j].id with | none => true | some n => decide (i < n))) = false) : beginsAt a b i o = true := by
  unfold beginsAt
  rw [hp]
  simp only [List.getElem?_eq_getElem hk, hs, Bool.true_and]
  rw [List.all_eq_true]
  intro p hp
  rw [List.mem_take_iff_getElem] at hp
  obtain ⟨j, hj, rfl⟩ := hp
  rw [h j (by omega) (by omega)]
  rfl

def fewLegs (l : List Od) : Prop := ∀ x ∈ l, x.legs.length ≤ 10

set_option maxRecDepth 100000 in
set_option maxHeartbeats 2000000 in
theorem begins_c (A C : Option Addr) (c d : Nat) (a b : List Od) (w : World) (ha : Sl w w.heap.size A c a) (hb : Sl w w.heap.size C d b) (hna : a.length ≤ 65536) (hnb : b.length ≤ 65536) (hla : fewLegs a) (hlb : fewLegs b) :
    Calls Try.prog 18 #[.slice A a.length c, .slice C b.length d] w fun e w' => e = .returned (.bool (beginsB a b)) ∧ Below w.heap.size w w' := by
  by_cases hva : validL a = true
  · by_cases hvb : validL b = true
    · have Hva := Lib.hid hva
      have Hvb := Lib.hid hvb
      have Ha := Lib.hid ha
      have Hb := Lib.hid hb
      have Hla := Lib.hid hla
      have Hlb := Lib.hid hlb
      clear hva hvb ha hb hla hlb
      go_enter Try.func18, Try.ntmps18
      go_wp2_with fail
      refine (right_c A c a _ Ha.out hna).mono ?_
      rintro e w1 ⟨rfl, hb1⟩
      have e1 : decide ((placesN a).length = a.length) = true := Hva.out
      rw [e1]
      clear e1
      go_wp2_with fail
      refine (right_c C d b _ (Hb.out.later hb1) hnb).mono ?_
      rintro e w2 ⟨rfl, hb2⟩
      have e2 : decide ((placesN b).length = b.length) = true := Hvb.out
      rw [e2]
      clear e2
      have hb12 := hb1.trans (hb2.mono hb1.size)
      clear hb1 hb2
      go_wp2_with fail
      refine (places_c A c a _ (Ha.out.later hb12) hna).mono ?_
      rintro e w3 ⟨rfl, hma, hb3⟩
      have hb13 := hb12.trans (hb3.mono hb12.size)
      clear hb3
      go_wp2_with fail
      refine (places_c C d b _ (Hb.out.later hb13) hnb).mono ?_
      rintro e w4 ⟨rfl, hmb, hb4⟩
      have hma4 := hma.later hb4
      have hb14 := hb13.trans (hb4.mono hb13.size)
      clear hma hb4
      obtain ⟨bA, hbA⟩ : ∃ bA, bA = w2.heap.size := ⟨_, rfl⟩
      obtain ⟨bB, hbB⟩ : ∃ bB, bB = w3.heap.size := ⟨_, rfl⟩
      rw [← hbA] at hma4 ⊢
      rw [← hbB] at hmb ⊢
      clear hbA hbB hb12 hb13
      go_wp2_with fail
      go_loopw [29] (fun i wr => ∃ k : Nat, i = i64 k ∧ k ≤ a.length ∧ (∀ j (hj : j < a.length), j < k → beginsAt a b j a[j] = true) ∧ MapIs Id.v wr bA (natV (placesN a)) ∧ MapIs Id.v wr bB (natV (placesN b)) ∧ Below w.heap.size w wr) (fun i _ => a.length - (intOf i).toNat)
      case atStart => exact ⟨0, rfl, by omega, by omega, hma4, hmb, hb14⟩
      case round =>
        obtain ⟨i, rfl, hi, hall, hmA, hmB, hbr⟩ := hrel
        have Hall := Lib.hid hall
        clear hall hma4 hmb hb14
        by_cases hlt : i < a.length
        · obtain ⟨b0, o0, rfl, hbb, hok, c0, c1, c2, c3, c4, c5, c6, c7, c8, c9⟩ := (Ha.out.later hbr).od hlt
          have Hok := Lib.hid hok
          clear hok
          have hB1 := (Below.refl wr.heap.size wr).alloc (Nat.le_refl _) (.cells a[i].cells.toArray 30)
          have hmA1 := hmA.later hB1
          have hmB1 := hmB.later hB1
          have hb1 := hbr.trans (hB1.mono hbr.size)
          simp only [Od.cells] at hB1 hmA1 hmB1 hb1
          have hlk := fun z hz => run_lookup (P := Try.prog) idKey Try.underlying67 hmB1 a[i].id z hz true
          have hlk1 := hlk (i64 0) (by kernel_rfl)
          rw [getM_map (fun n : Nat => i64 n)] at hlk1
          have hlk2 := Lib.hid hlk1
          clear hlk1
          have HmA1 := Lib.hid hmA1
          have HmB1 := Lib.hid hmB1
          have HB1 := Lib.hid hB1
          clear hmA hmB hmA1 hmB1 hlk hB1
          cases hp : getM (placesN b) a[i].id with
          | none =>
            have hlk1 := hlk2.out
            rw [hp] at hlk1
            simp only [Option.map_none, Option.getD_none, Option.isSome_none, if_true, Id.v, Od.id] at hlk1
            have Hp := Lib.hid hp
            clear hp
            go_wp2
            go_quiet (fail)
            go_wp2
            go_ret
            refine ⟨?_, below_drewN hb1 _⟩
            rw [beginsB_false hlt (by unfold beginsAt; rw [show posN b a[i].id = none from Hp.out])]
            rfl
          | some k =>
            have hlk1 := hlk2.out
            rw [hp] at hlk1
            simp only [Option.map_some, Option.getD_some, Option.isSome_some, if_true, Id.v, Od.id] at hlk1
            have hkb : k < b.length := posN_lt hp
            have hkd : k ≤ d := by have := Hb.out.1; omega
            have Hp := Lib.hid hp
            clear hp
            obtain ⟨b2, o2, rfl, hbb2, hok2, d0, d1, d2, d3, d4, d5, d6, d7, d8, d9⟩ := (Hb.out.later hbr).od hkb
            have Hok2 := Lib.hid hok2
            clear hok2
            go_wp2
            refine wp_region_still_tail 8 (by kernel_rfl) (by kernel_rfl) ?_
            simp only [List.take_succ_cons, List.take_zero, List.drop_succ_cons, List.drop_zero]
            change wpStill _ _ (World.drew _) (fun a' => wpList _ _ _ _ a' (World.drew _)) _ _
            repeat still_step
            refine wpStill_nil ?_
            go_wp2_with fail
            have hbd := (Below.refl (wr.heap.size + 1) (wr.alloc (.cells #[i64 a[i].client, i64 a[i].seq, i64 a[i].kind, .string a[i].acct, .string a[i].peer, i64 a[i].sum, .slice a[i].la a[i].legs.length a[i].lc, i64 a[i].period, i64 a[i].hold, .string a[i].note] 30))).drew
            refine (same_c a[i] b[k] _ (Okb.later (Okb.later Hok.out HB1.out) (Below.drew (Below.refl _ _))) (Okb.later (Okb.later Hok2.out HB1.out) (Below.drew (Below.refl _ _))) (Nat.le_trans (Hla.out _ (List.getElem_mem _)) (by decide)) (Nat.le_trans (Hlb.out _ (List.getElem_mem _)) (by decide))).mono ?_
            rintro e w5 ⟨rfl, hb5⟩
            have hI5 := hbd.trans (hb5.mono (by simp))
            have hbw5 := hb1.trans ((hbd.trans (hb5.mono (by simp))).mono (by have := hbr.size; omega))
            have hcb : ∀ o, w5.cell? ⟨wr.heap.size, o, none⟩ = _ := fun o => hI5.cell (p := ⟨wr.heap.size, o, none⟩) (Nat.lt_succ_self _)
            clear hbd hb5
            by_cases hsm : sameB a[i] b[k] = true
            · rw [hsm]
              have Hsm := Lib.hid hsm
              clear hsm hlk1
              go_wp2_with fail
              obtain ⟨wo, rfl⟩ : ∃ wo : World, wo = wr := ⟨_, rfl⟩
              go_loopw [56] (fun i2 wI => ∃ j : Nat, i2 = i64 j ∧ j ≤ k ∧ (∀ q (hq : q < b.length), q < j → (clashB b[q] a[i] && (match posN a b[q].id with | none => true | some n => decide (i < n))) = false) ∧
                Below (wo.heap.size + 1) (wo.alloc (.cells #[i64 a[i].client, i64 a[i].seq, i64 a[i].kind, .string a[i].acct, .string a[i].peer, i64 a[i].sum, .slice a[i].la a[i].legs.length a[i].lc, i64 a[i].period, i64 a[i].hold, .string a[i].note] 30)) wI) (fun i2 _ => k - (intOf i2).toNat)
              case atStart => exact ⟨0, rfl, by omega, by omega, hI5⟩
              case round =>
                obtain ⟨j, rfl, hj, hin, hI⟩ := hrel
                have Hin := Lib.hid hin
                clear hin hcb hI5 hbw5
                have hbI := hb1.trans (hI.mono (by have := hbr.size; omega))
                have hcb : ∀ o, wr.cell? ⟨wo.heap.size, o, none⟩ = _ := fun o => hI.cell (p := ⟨wo.heap.size, o, none⟩) (Nat.lt_succ_self _)
                by_cases hjk : j < k
                · have hjb : j < b.length := by omega
                  obtain ⟨b3, o3, hA3, hbb3, hok3, g0, g1, g2, g3, g4, g5, g6, g7, g8, g9⟩ := (Hb.out.later hbI).od hjb
                  injection hA3 with hA3
                  injection hA3 with hA4 hA5
                  subst hA4 hA5
                  have Hok3 := Lib.hid hok3
                  clear hok3
                  have hz : wo.heap.size < wr.heap.size := by have := hI.size; simp at this; omega
                  have hB3 := (Below.refl wr.heap.size wr).alloc (Nat.le_refl _) (.cells b[j].cells.toArray 30)
                  simp only [Od.cells] at hB3
                  have hmA3 := (HmA1.out.later (hI.mono (by simp))).later hB3
                  have hlk3 := run_lookup (P := Try.prog) idKey Try.underlying67 hmA3 b[j].id (i64 0) (by kernel_rfl) true
                  rw [getM_map (fun n : Nat => i64 n)] at hlk3
                  have Hlk3 := Lib.hid hlk3
                  have HB3 := Lib.hid hB3
                  clear hmA3 hlk3 hB3
                  cases hp3 : getM (placesN a) b[j].id with
                  | none =>
                    have hlk4 := Hlk3.out
                    rw [hp3] at hlk4
                    simp only [Option.map_none, Option.getD_none, Option.isSome_none, if_true, Id.v, Od.id] at hlk4
                    have Hp3 := Lib.hid hp3
                    clear hp3
                    go_wp2_with fail
                    refine (clash_c b[j] a[i] _ (Okb.later Hok3.out HB3.out) (Okb.later (Enc.keep (Okb.later Hok.out HB1.out) (fun _ hp => hI.cell (by simpa using hp)) (fun _ hp => Nat.lt_of_lt_of_le hp hI.size)) HB3.out) (Hlb.out _ (List.getElem_mem _)) (Hla.out _ (List.getElem_mem _))).mono ?_
                    rintro e w7 ⟨rfl, hb7⟩
                    have hI7 := (hI.trans (HB3.out.mono (by omega))).trans (hb7.mono (by simp; omega))
                    have hb17 := hb1.trans (hI7.mono (by have := hbr.size; omega))
                    clear hb7 hcb
                    by_cases hcl : clashB b[j] a[i] = true
                    · rw [hcl]
                      have Hcl := Lib.hid hcl
                      clear hcl
                      go_wp2
                      go_ret
                      refine ⟨?_, hb17⟩
                      rw [beginsB_false hlt (beginsAt_false Hp.out hkb hjk (by rw [Hcl.out, show posN a b[j].id = none from Hp3.out]; rfl))]
                      rfl
                    · have hcl : clashB b[j] a[i] = false := by simpa using hcl
                      rw [hcl]
                      have Hcl := Lib.hid hcl
                      clear hcl
                      go_wp2
                      go_roundw
                      case rel => exact ⟨j + 1, by go_num, by omega, fun q hq h => by
                          rcases Nat.lt_succ_iff_lt_or_eq.1 h with h | rfl
                          · exact Hin.out q hq h
                          · rw [Hcl.out]; rfl, hI7⟩
                      case measure => simp [intOf]; omega
                  | some n =>
                    have hlk4 := Hlk3.out
                    rw [hp3] at hlk4
                    simp only [Option.map_some, Option.getD_some, Option.isSome_some, if_true, Id.v, Od.id] at hlk4
                    have Hp3 := Lib.hid hp3
                    clear hp3
                    go_wp2_with fail
                    refine (clash_c b[j] a[i] _ (Okb.later Hok3.out HB3.out) (Okb.later (Enc.keep (Okb.later Hok.out HB1.out) (fun _ hp => hI.cell (by simpa using hp)) (fun _ hp => Nat.lt_of_lt_of_le hp hI.size)) HB3.out) (Hlb.out _ (List.getElem_mem _)) (Hla.out _ (List.getElem_mem _))).mono ?_
                    rintro e w7 ⟨rfl, hb7⟩
                    have hI7 := (hI.trans (HB3.out.mono (by omega))).trans (hb7.mono (by simp; omega))
                    have hb17 := hb1.trans (hI7.mono (by have := hbr.size; omega))
                    clear hb7 hcb
                    by_cases hcl : clashB b[j] a[i] = true
                    · by_cases hni : i < n
                      · rw [hcl]
                        have Hcl := Lib.hid hcl
                        clear hcl
                        go_wp2
                        go_ret
                        refine ⟨?_, hb17⟩
                        rw [beginsB_false hlt (beginsAt_false Hp.out hkb hjk (by rw [Hcl.out, show posN a b[j].id = some n from Hp3.out]; simpa using hni))]
                        rfl
                      · rw [hcl]
                        have Hcl := Lib.hid hcl
                        clear hcl
                        go_wp2
                        go_roundw
                        case rel => exact ⟨j + 1, by go_num, by omega, fun q hq h => by
                            rcases Nat.lt_succ_iff_lt_or_eq.1 h with h | rfl
                            · exact Hin.out q hq h
                            · rw [Hcl.out, show posN a b[q].id = some n from Hp3.out]; simpa using hni, hI7⟩
                        case measure => simp [intOf]; omega
                    · have hcl : clashB b[j] a[i] = false := by simpa using hcl
                      rw [hcl]
                      have Hcl := Lib.hid hcl
                      clear hcl
                      go_wp2
                      go_roundw
                      case rel => exact ⟨j + 1, by go_num, by omega, fun q hq h => by
                          rcases Nat.lt_succ_iff_lt_or_eq.1 h with h | rfl
                          · exact Hin.out q hq h
                          · rw [Hcl.out]; rfl, hI7⟩
                      case measure => simp [intOf]; omega
                · obtain rfl : j = k := by omega
                  go_wp2
                  go_roundw
                  case rel => exact ⟨i + 1, by go_num, by omega, fun q hq h => by
                      rcases Nat.lt_succ_iff_lt_or_eq.1 h with h | rfl
                      · exact Hall.out q hq h
                      · exact beginsAt_true Hp.out hkb Hsm.out Hin.out, HmA1.out.later (hI.mono (by simp)), HmB1.out.later (hI.mono (by simp)), hbI⟩
                  case measure => simp [intOf]; omega
            · have hsm' : sameB a[i] b[k] = false := by simpa using hsm
              rw [hsm']
              have Hsm := Lib.hid hsm'
              clear hsm hsm'
              go_wp2
              go_ret
              refine ⟨?_, hbw5⟩
              rw [beginsB_false hlt (by
                unfold beginsAt
                rw [show posN b a[i].id = some k from Hp.out]
                simp only [List.getElem?_eq_getElem hkb, Hsm.out, Bool.false_and])]
              rfl
        · obtain rfl : i = a.length := by omega
          go_wp2
          go_ret
          refine ⟨?_, hbr⟩
          rw [beginsB_true Hva.out Hvb.out (fun j hj => Hall.out j hj hj)]
          rfl
    · have hvb' : validL b = false := by simpa using hvb
      have Hs : Hid (beginsB a b = false) := Lib.hid (by unfold beginsB; rw [hva, hvb']; rfl)
      have Hva := Lib.hid hva
      have Hvb := Lib.hid hvb'
      clear hva hvb hvb'
      go_enter Try.func18, Try.ntmps18
      go_wp2_with fail
      refine (right_c A c a _ ha hna).mono ?_
      rintro e w1 ⟨rfl, hb1⟩
      have e1 : decide ((placesN a).length = a.length) = true := Hva.out
      rw [e1]
      clear e1
      go_wp2_with fail
      refine (right_c C d b _ (hb.later hb1) hnb).mono ?_
      rintro e w2 ⟨rfl, hb2⟩
      have e2 : decide ((placesN b).length = b.length) = false := Hvb.out
      rw [e2]
      clear e2
      go_wp2
      go_ret
      exact ⟨by rw [Hs.out]; rfl, hb1.trans (hb2.mono hb1.size)⟩
  · have hva' : validL a = false := by simpa using hva
    have Hs : Hid (beginsB a b = false) := Lib.hid (by unfold beginsB; rw [hva']; rfl)
    have Hva := Lib.hid hva'
    clear hva hva'
    go_enter Try.func18, Try.ntmps18
    go_wp2_with fail
    refine (right_c A c a _ ha hna).mono ?_
    rintro e w1 ⟨rfl, hb1⟩
    have e1 : decide ((placesN a).length = a.length) = false := Hva.out
    rw [e1]
    clear e1
    go_wp2
    go_ret
    exact ⟨by rw [Hs.out]; rfl, hb1⟩

set_option maxRecDepth 100000 in
set_option maxHeartbeats 400000 in
theorem alike_c (A C : Option Addr) (c d : Nat) (a b : List Od) (w : World) (ha : Sl w w.heap.size A c a) (hb : Sl w w.heap.size C d b) (hna : a.length ≤ 65536) (hnb : b.length ≤ 65536) (hla : fewLegs a) (hlb : fewLegs b) :
    Calls Try.prog 20 #[.slice A a.length c, .slice C b.length d] w fun e w' => e = .returned (.bool (alikeB a b)) ∧ Below w.heap.size w w' := by
  have H := Lib.hid (begins_c A C c d a b w ha hb hna hnb hla hlb)
  clear ha hb hla hlb
  by_cases hl : a.length = b.length
  · have q : ((a.length : Int) == (b.length : Int)) = true := by rw [hl]; simp
    have Hs : Hid (alikeB a b = beginsB a b) := Lib.hid (by unfold alikeB; rw [decide_eq_true hl, Bool.true_and])
    clear hl
    go_enter Try.func20, Try.ntmps20
    go_wp2_with (go_at_call 18; refine (H.out).mono ?_; rintro e w' ⟨rfl, hb⟩)
    go_ret
    exact ⟨by rw [Hs.out]; rfl, hb⟩
  · have q : ((a.length : Int) == (b.length : Int)) = false := by rw [beq_eq_false_iff_ne]; omega
    have Hs : Hid (alikeB a b = false) := Lib.hid (by unfold alikeB; rw [decide_eq_false hl, Bool.false_and])
    clear hl
    go_enter Try.func20, Try.ntmps20
    go_wp2_with (go_at_call 18; refine (H.out).mono ?_; rintro e w' ⟨rfl, hb⟩)
    go_ret
    exact ⟨by rw [Hs.out]; rfl, Below.refl _ _⟩
end Go.Proofs.Ytogecfddkohigaa
