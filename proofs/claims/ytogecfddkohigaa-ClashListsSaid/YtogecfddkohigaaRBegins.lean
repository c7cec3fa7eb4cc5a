/- ref10.Begins -/
import Derived.Test.YtogecfddkohigaaRows
import Derived.Test.YtogecfddkohigaaRDefs
import Derived.Test.YtogecfddkohigaaRRight
import Derived.Test.YtogecfddkohigaaROthers
import Derived.Test.YtogecfddkohigaaRSame
import Derived.Test.YtogecfddkohigaaOthers
import Derived.Test.YtogecfddkohigaaMore
import Derived.Deep.RegionHeld3
import Derived.WalkKit
import Derived.WalkSpells
import Derived.WalkLawsBesides
import Derived.Deep.QuietTactic
import Derived.BigQuiet
import Derived.Laws.StructEq
import Derived.Deep.DeepFit
import Derived.StillTailTactics
namespace Go.Proofs.Ytogecfddkohigaa
open Go.RowKit
theorem at_some {l : List Od} (hv : Val l) {i : Id} {k : Nat} (h : posN l i = some k) : atIdx l i = (k : Int) := by
  obtain ⟨x, hx, e⟩ := posN_get h
  obtain ⟨hk, hx⟩ := List.getElem?_eq_some_iff.1 hx
  have := at_of_val hv hk
  rw [hx, e] at this
  exact this
theorem at_none {l : List Od} {i : Id} (h : posN l i = none) : atIdx l i < 0 := (at_neg l i).2 (by rw [h]; rfl)
theorem clash_same {x y z : Od} (h : sameB x y = true) : clashB z y = clashB z x := by
  show clashB z y.core = clashB z x.core
  rw [sameB_core.1 h]
/-- the first j places ahead of place i's order's place stand well -/
def goodTo (a b : List Od) (i : Nat) (o : Od) (j : Nat) : Prop := ∀ q (hq : q < b.length), q < j → (clashB b[q] o && (match posN a b[q].id with | none => true | some n => decide (i < n))) = false
theorem goodTo.next {a b : List Od} {i j : Nat} {o : Od} (h : goodTo a b i o j) (hj : j < b.length) (hc : (clashB b[j] o && (match posN a b[j].id with | none => true | some n => decide (i < n))) = false) : goodTo a b i o (j + 1) := fun q hq hqj => by
  rcases Nat.lt_succ_iff_lt_or_eq.1 hqj with hqj | rfl
  · exact h q hq hqj
  · exact hc
def allTo (a b : List Od) (i : Nat) : Prop := ∀ j (hj : j < a.length), j < i → beginsAt a b j a[j] = true
theorem allTo.next {a b : List Od} {i : Nat} (h : allTo a b i) (hi : i < a.length) (hc : beginsAt a b i a[i] = true) : allTo a b (i + 1) := fun q hq hqj => by
  rcases Nat.lt_succ_iff_lt_or_eq.1 hqj with hqj | rfl
  · exact h q hq hqj
  · exact hc

set_option maxRecDepth 100000 in
set_option maxHeartbeats 8000000 in
theorem rbegins_c (hR : RClash) (A C : Option Addr) (c d : Nat) (a b : List Od) (w : World) (ha : Sl w w.heap.size A c a) (hb : Sl w w.heap.size C d b) (hna : a.length ≤ 65536) (hnb : b.length ≤ 65536) (hla : fewLegs a) (hlb : fewLegs b) :
    Calls Try.prog 19 #[.slice A a.length c, .slice C b.length d] w fun e w' => e = .returned (.bool (beginsB a b)) ∧ Below w.heap.size w w' := by
  by_cases hva : validL a = true
  · by_cases hvb : validL b = true
    · have Hva := Lib.hid hva
      have Hvb := Lib.hid hvb
      have Ha := Lib.hid ha
      have Hb := Lib.hid hb
      have Hla := Lib.hid hla
      have Hlb := Lib.hid hlb
      have HR := Lib.hid hR
      clear hva hvb ha hb hla hlb hR
      go_enter Try.func19, Try.ntmps19
      go_wp2_with fail
      refine (rright_c A c a _ Ha.out hna).mono ?_
      rintro e w1 ⟨rfl, hb1⟩
      rw [Hva.out]
      go_wp2_with fail
      refine (rright_c C d b _ (Hb.out.later hb1) hnb).mono ?_
      rintro e w2 ⟨rfl, hb2⟩
      rw [Hvb.out]
      have hB := hb1.trans (hb2.mono hb1.size)
      clear hb1 hb2
      go_wp2_with fail
      go_loopw [5] (fun i wr => ∃ k : Nat, i = i64 k ∧ k ≤ a.length ∧ allTo a b k ∧ Below w.heap.size w wr) (fun i _ => a.length - (intOf i).toNat)
      case atStart => exact ⟨0, rfl, by omega, fun _ _ h => absurd h (by omega), hB⟩
      case round =>
        obtain ⟨i, rfl, hi, hall, hbr⟩ := hrel
        have Hall := Lib.hid hall
        clear hall hB
        by_cases hlt : i < a.length
        · obtain ⟨b0, o0, rfl, hbb, -, c0, c1, -⟩ := (Ha.out.later hbr).od hlt
          go_wp2_with fail
          refine (at_any C d b a[i].id _ (Hb.out.later hbr) hnb).mono ?_
          rintro e w3 ⟨rfl, hF⟩
          have hb3 := below_on hbr (Nat.le_refl _) hF
          clear hF c0 c1 hbr
          cases hp : posN b a[i].id with
          | none =>
            have hneg := at_none hp
            have Hp := Lib.hid hp
            clear hp
            generalize atIdx b a[i].id = p at hneg ⊢
            have g1 : decide (p < 0) = true := decide_eq_true hneg
            go_wp2_with fail
            go_quiet (fail)
            go_wp2
            go_ret
            refine ⟨?_, below_drewN hb3 _⟩
            rw [beginsB_false hlt (by unfold beginsAt; rw [Hp.out])]
            rfl
          | some k =>
            have hkb : k < b.length := posN_lt hp
            have hatk := at_some (validL_iff.1 Hvb.out) hp
            have Hp := Lib.hid hp
            clear hp
            rw [hatk]
            clear hatk
            have g1 : decide ((k : Int) < 0) = false := decide_eq_false (by omega)
            have k0 : (0 : Int) ≤ (k : Int) := by omega
            have k1 : (k : Int) < (b.length : Int) := by omega
            have i0 : (0 : Int) ≤ (i : Int) := by omega
            have i1 : (i : Int) < (a.length : Int) := by omega
            obtain ⟨b1, o1, hA1, -, hok, e0, e1, e2, e3, e4, e5, e6, e7, e8, e9⟩ := (Ha.out.later hb3).od hlt
            injection hA1 with hA1
            injection hA1 with hA1 hA2
            subst hA1 hA2
            obtain ⟨b2, o2, rfl, -, hok2, d0, d1, d2, d3, d4, d5, d6, d7, d8, d9⟩ := (Hb.out.later hb3).od hkb
            have Hok := Lib.hid hok
            have Hok2 := Lib.hid hok2
            clear hok hok2
            go_wp2_with fail
            refine wp_region_still_tail 11 (by kernel_rfl) (by kernel_rfl) ?_
            simp only [List.take_succ_cons, List.take_zero, List.drop_succ_cons, List.drop_zero]
            change wpStill _ _ (World.drew _) (fun a' => wpList _ _ _ _ a' (World.drew _)) _ _
            repeat still_step
            refine wpStill_nil ?_
            go_wp2_with fail
            have hbd := (Below.refl w3.heap.size w3).drew
            refine (rsame_c a[i] b[k] _ (Okb.later Hok.out hbd) (Okb.later Hok2.out hbd) (Nat.le_trans (Hla.out _ (List.getElem_mem _)) (by decide)) (Nat.le_trans (Hlb.out _ (List.getElem_mem _)) (by decide))).mono ?_
            rintro e w4 ⟨rfl, hF⟩
            have hb4 := below_on (below_on hb3 (Nat.le_refl _) hbd) (Nat.le_refl _) hF
            clear hF hbd e0 e1 e2 e3 e4 e5 e6 e7 e8 e9 d0 d1 d2 d3 d4 d5 d6 d7 d8 d9 hb3 Hok Hok2
            by_cases hsm : sameB a[i] b[k] = true
            · rw [hsm]
              have Hsm := Lib.hid hsm
              clear hsm
              go_wp2_with fail
              go_loopw [7] (fun i2 wI => ∃ j : Nat, i2 = i64 j ∧ j ≤ k ∧ goodTo a b i a[i] j ∧ Below w.heap.size w wI) (fun i2 _ => k - (intOf i2).toNat)
              case atStart => exact ⟨0, rfl, by omega, fun _ _ h => absurd h (by omega), hb4⟩
              case round =>
                obtain ⟨j, rfl, hj, hin, hI⟩ := hrel
                have Hin := Lib.hid hin
                clear hin hb4
                by_cases hjk : j < k
                · have hjb : j < b.length := by omega
                  obtain ⟨b3, o3, hA3, -, -, d0, d1, -⟩ := (Hb.out.later hI).od hjb
                  injection hA3 with hA3
                  injection hA3 with hA4 hA5
                  subst hA4 hA5
                  go_wp2_with fail
                  refine (at_any _ c a b[j].id _ (Ha.out.later hI) hna).mono ?_
                  rintro e w5 ⟨rfl, hF⟩
                  have hb5 := below_on hI (Nat.le_refl _) hF
                  clear hF d0 d1 hI
                  have hxc := clash_same (z := b[j]) Hsm.out
                  obtain ⟨b3, o3, hA3, hbl, hok3, d0, d1, d2, d3, d4, d5, d6, d7, d8, d9⟩ := (Hb.out.later hb5).od hjb
                  injection hA3 with hA3
                  injection hA3 with hA4 hA5
                  subst hA4 hA5
                  obtain ⟨b4, o4, hA4, -, hok4, g0, g1, g2, g3, g4, g5, g6, g7, g8, g9⟩ := (Hb.out.later hb5).od hkb
                  injection hA4 with hA4
                  injection hA4 with hA5 hA6
                  subst hA5 hA6
                  have Hok3 := Lib.hid hok3
                  have Hok4 := Lib.hid hok4
                  clear hok3 hok4
                  have xc : ∀ W, Below w5.heap.size w5 W → Calls Try.prog 13 #[.agg #[i64 b[j].client, i64 b[j].seq, i64 b[j].kind, .string b[j].acct, .string b[j].peer, i64 b[j].sum, .slice b[j].la b[j].legs.length b[j].lc, i64 b[j].period, i64 b[j].hold, .string b[j].note], .agg #[i64 b[k].client, i64 b[k].seq, i64 b[k].kind, .string b[k].acct, .string b[k].peer, i64 b[k].sum, .slice b[k].la b[k].legs.length b[k].lc, i64 b[k].period, i64 b[k].hold, .string b[k].note]] W fun e w' => e = .returned (.bool (clashB b[j] a[i])) ∧ Below W.heap.size W w' := fun W h => by
                    have := HR.out b[j] b[k] W (Okb.later Hok3.out h) (Okb.later Hok4.out h) (Hlb.out _ (List.getElem_mem _)) (Hlb.out _ (List.getElem_mem _))
                    rw [hxc] at this
                    exact this
                  have j0 : (0 : Int) ≤ (j : Int) := by omega
                  have j1 : (j : Int) < (b.length : Int) := by omega
                  have hS : ∀ W, Below w5.heap.size w5 W → (Below w5.heap.size w5 W ∧ W.cell? ⟨b2, o2 + j * 10, none⟩ = some (i64 b[j].client) ∧ W.cell? ⟨b2, o2 + j * 10 + 1, none⟩ = some (i64 b[j].seq) ∧ W.cell? ⟨b2, o2 + j * 10 + 2, none⟩ = some (i64 b[j].kind) ∧ W.cell? ⟨b2, o2 + j * 10 + 3, none⟩ = some (.string b[j].acct) ∧ W.cell? ⟨b2, o2 + j * 10 + 4, none⟩ = some (.string b[j].peer) ∧ W.cell? ⟨b2, o2 + j * 10 + 5, none⟩ = some (i64 b[j].sum) ∧ W.cell? ⟨b2, o2 + j * 10 + 6, none⟩ = some (.slice b[j].la b[j].legs.length b[j].lc) ∧ W.cell? ⟨b2, o2 + j * 10 + 7, none⟩ = some (i64 b[j].period) ∧ W.cell? ⟨b2, o2 + j * 10 + 8, none⟩ = some (i64 b[j].hold) ∧ W.cell? ⟨b2, o2 + j * 10 + 9, none⟩ = some (.string b[j].note) ∧ W.cell? ⟨b2, o2 + k * 10, none⟩ = some (i64 b[k].client) ∧ W.cell? ⟨b2, o2 + k * 10 + 1, none⟩ = some (i64 b[k].seq) ∧ W.cell? ⟨b2, o2 + k * 10 + 2, none⟩ = some (i64 b[k].kind) ∧ W.cell? ⟨b2, o2 + k * 10 + 3, none⟩ = some (.string b[k].acct) ∧ W.cell? ⟨b2, o2 + k * 10 + 4, none⟩ = some (.string b[k].peer) ∧ W.cell? ⟨b2, o2 + k * 10 + 5, none⟩ = some (i64 b[k].sum) ∧ W.cell? ⟨b2, o2 + k * 10 + 6, none⟩ = some (.slice b[k].la b[k].legs.length b[k].lc) ∧ W.cell? ⟨b2, o2 + k * 10 + 7, none⟩ = some (i64 b[k].period) ∧ W.cell? ⟨b2, o2 + k * 10 + 8, none⟩ = some (i64 b[k].hold) ∧ W.cell? ⟨b2, o2 + k * 10 + 9, none⟩ = some (.string b[k].note)) := fun W h => ⟨h, (h.cell hbl).trans d0, (h.cell hbl).trans d1, (h.cell hbl).trans d2, (h.cell hbl).trans d3, (h.cell hbl).trans d4, (h.cell hbl).trans d5, (h.cell hbl).trans d6, (h.cell hbl).trans d7, (h.cell hbl).trans d8, (h.cell hbl).trans d9, (h.cell hbl).trans g0, (h.cell hbl).trans g1, (h.cell hbl).trans g2, (h.cell hbl).trans g3, (h.cell hbl).trans g4, (h.cell hbl).trans g5, (h.cell hbl).trans g6, (h.cell hbl).trans g7, (h.cell hbl).trans g8, (h.cell hbl).trans g9⟩
                  clear hxc Hok3 Hok4
                  have h0 := (Below.refl w5.heap.size w5).drew
                  cases hp3 : posN a b[j].id with
                  | none =>
                    have hneg := at_none hp3
                    have Hp3 := Lib.hid hp3
                    clear hp3
                    generalize atIdx a b[j].id = p at hneg ⊢
                    have g2 : decide (p < 0) = true := decide_eq_true hneg
                    by_cases hcl : clashB b[j] a[i] = true
                    · rw [hcl] at xc
                      have Hcl := Lib.hid hcl
                      clear hcl
                      go_wp2_with fail
                      refine wp_region_noPanic ?_
                      refine wp_region_held_drew (S := fun W => Below w5.heap.size w5 W ∧ W.cell? ⟨b2, o2 + j * 10, none⟩ = some (i64 b[j].client) ∧ W.cell? ⟨b2, o2 + j * 10 + 1, none⟩ = some (i64 b[j].seq) ∧ W.cell? ⟨b2, o2 + j * 10 + 2, none⟩ = some (i64 b[j].kind) ∧ W.cell? ⟨b2, o2 + j * 10 + 3, none⟩ = some (.string b[j].acct) ∧ W.cell? ⟨b2, o2 + j * 10 + 4, none⟩ = some (.string b[j].peer) ∧ W.cell? ⟨b2, o2 + j * 10 + 5, none⟩ = some (i64 b[j].sum) ∧ W.cell? ⟨b2, o2 + j * 10 + 6, none⟩ = some (.slice b[j].la b[j].legs.length b[j].lc) ∧ W.cell? ⟨b2, o2 + j * 10 + 7, none⟩ = some (i64 b[j].period) ∧ W.cell? ⟨b2, o2 + j * 10 + 8, none⟩ = some (i64 b[j].hold) ∧ W.cell? ⟨b2, o2 + j * 10 + 9, none⟩ = some (.string b[j].note) ∧ W.cell? ⟨b2, o2 + k * 10, none⟩ = some (i64 b[k].client) ∧ W.cell? ⟨b2, o2 + k * 10 + 1, none⟩ = some (i64 b[k].seq) ∧ W.cell? ⟨b2, o2 + k * 10 + 2, none⟩ = some (i64 b[k].kind) ∧ W.cell? ⟨b2, o2 + k * 10 + 3, none⟩ = some (.string b[k].acct) ∧ W.cell? ⟨b2, o2 + k * 10 + 4, none⟩ = some (.string b[k].peer) ∧ W.cell? ⟨b2, o2 + k * 10 + 5, none⟩ = some (i64 b[k].sum) ∧ W.cell? ⟨b2, o2 + k * 10 + 6, none⟩ = some (.slice b[k].la b[k].legs.length b[k].lc) ∧ W.cell? ⟨b2, o2 + k * 10 + 7, none⟩ = some (i64 b[k].period) ∧ W.cell? ⟨b2, o2 + k * 10 + 8, none⟩ = some (i64 b[k].hold) ∧ W.cell? ⟨b2, o2 + k * 10 + 9, none⟩ = some (.string b[k].note)) (by kernel_rfl) (hS _ h0) (fun hH => ?_)
                      refine wpAnyH_take (i := 0) (v := ?v100) rfl (by kernel_rfl) (by kernel_rfl) (by kernel_rfl) (fun _ _ _ h => h) (Or.inl ⟨by kernel_rfl, ?hy100⟩) (by assumption) ?r100
                      case hy100 => (intro W hSW; obtain ⟨_, f0, f1, f2, f3, f4, f5, f6, f7, f8, f9, f10, f11, f12, f13, f14, f15, f16, f17, f18, f19⟩ := hSW; go_simp; try with_reducible rfl)
                      simp only [Act.put, List.getElem_toArray, List.getElem_cons_zero, List.setIfInBounds_toArray, List.set_cons_zero, List.set_cons_succ]
                      refine wpAnyH_take (i := 1) (v := ?v201) rfl (by kernel_rfl) (by kernel_rfl) (by kernel_rfl) (fun _ _ _ h => h) (Or.inl ⟨by kernel_rfl, ?hy201⟩) (by assumption) ?r201
                      case hy201 => (intro W hSW; obtain ⟨_, f0, f1, f2, f3, f4, f5, f6, f7, f8, f9, f10, f11, f12, f13, f14, f15, f16, f17, f18, f19⟩ := hSW; go_simp; try with_reducible rfl)
                      simp only [Act.put, List.getElem_toArray, List.getElem_cons_zero, List.getElem_cons_succ, List.setIfInBounds_toArray, List.set_cons_zero, List.set_cons_succ]
                      refine wpAnyH_take (i := 2) (v := ?v302) rfl (by kernel_rfl) (by kernel_rfl) (by kernel_rfl) (fun _ _ _ h => h) (Or.inl ⟨by kernel_rfl, ?hy302⟩) (by assumption) ?r302
                      case hy302 => (intro W hSW; obtain ⟨_, f0, f1, f2, f3, f4, f5, f6, f7, f8, f9, f10, f11, f12, f13, f14, f15, f16, f17, f18, f19⟩ := hSW; go_simp; try with_reducible rfl)
                      simp only [Act.put, List.getElem_toArray, List.getElem_cons_zero, List.getElem_cons_succ, List.setIfInBounds_toArray, List.set_cons_zero, List.set_cons_succ]
                      refine wpAnyH_take (i := 3) (v := ?v403) rfl (by kernel_rfl) (by kernel_rfl) (by kernel_rfl) (fun _ _ _ h => h) (Or.inl ⟨by kernel_rfl, ?hy403⟩) (by assumption) ?r403
                      case hy403 => (intro W hSW; obtain ⟨_, f0, f1, f2, f3, f4, f5, f6, f7, f8, f9, f10, f11, f12, f13, f14, f15, f16, f17, f18, f19⟩ := hSW; go_simp; try with_reducible rfl)
                      simp only [Act.put, List.getElem_toArray, List.getElem_cons_zero, List.getElem_cons_succ, List.setIfInBounds_toArray, List.set_cons_zero, List.set_cons_succ]
                      refine wpAnyH_take (i := 4) (v := ?v504) rfl (by kernel_rfl) (by kernel_rfl) (by kernel_rfl) (fun _ _ _ h => h) (Or.inl ⟨by kernel_rfl, ?hy504⟩) (by assumption) ?r504
                      case hy504 => (intro W hSW; obtain ⟨_, f0, f1, f2, f3, f4, f5, f6, f7, f8, f9, f10, f11, f12, f13, f14, f15, f16, f17, f18, f19⟩ := hSW; go_simp; try with_reducible rfl)
                      simp only [Act.put, List.getElem_toArray, List.getElem_cons_zero, List.getElem_cons_succ, List.setIfInBounds_toArray, List.set_cons_zero, List.set_cons_succ]
                      refine wpAnyH_take (i := 5) (v := ?v605) rfl (by kernel_rfl) (by kernel_rfl) (by kernel_rfl) (fun _ _ _ h => h) (Or.inl ⟨by kernel_rfl, ?hy605⟩) (by assumption) ?r605
                      case hy605 => (intro W hSW; obtain ⟨_, f0, f1, f2, f3, f4, f5, f6, f7, f8, f9, f10, f11, f12, f13, f14, f15, f16, f17, f18, f19⟩ := hSW; go_simp; try with_reducible rfl)
                      simp only [Act.put, List.getElem_toArray, List.getElem_cons_zero, List.getElem_cons_succ, List.setIfInBounds_toArray, List.set_cons_zero, List.set_cons_succ]
                      refine wpAnyH_take (i := 6) (v := ?v706) rfl (by kernel_rfl) (by kernel_rfl) (by kernel_rfl) (fun _ _ _ h => h) (Or.inl ⟨by kernel_rfl, ?hy706⟩) (by assumption) ?r706
                      case hy706 => (intro W hSW; obtain ⟨_, f0, f1, f2, f3, f4, f5, f6, f7, f8, f9, f10, f11, f12, f13, f14, f15, f16, f17, f18, f19⟩ := hSW; go_simp; try with_reducible rfl)
                      simp only [Act.put, List.getElem_toArray, List.getElem_cons_zero, List.getElem_cons_succ, List.setIfInBounds_toArray, List.set_cons_zero, List.set_cons_succ]
                      refine wpAnyH_take (i := 7) (v := ?v807) rfl (by kernel_rfl) (by kernel_rfl) (by kernel_rfl) (fun _ _ _ h => h) (Or.inl ⟨by kernel_rfl, ?hy807⟩) (by assumption) ?r807
                      case hy807 => (intro W hSW; obtain ⟨_, f0, f1, f2, f3, f4, f5, f6, f7, f8, f9, f10, f11, f12, f13, f14, f15, f16, f17, f18, f19⟩ := hSW; go_simp; try with_reducible rfl)
                      simp only [Act.put, List.getElem_toArray, List.getElem_cons_zero, List.getElem_cons_succ, List.setIfInBounds_toArray, List.set_cons_zero, List.set_cons_succ]
                      refine wpAnyH_ready (rs := [8]) (by kernel_rfl) (by simp) ?_
                      refine AllReadyH.cons rfl (fun K hK => ?_) AllReadyH.nil
                      go_simp
                      go_at_call 13
                      with_reducible refine (xc _ h0).mono ?_
                      rintro e w6 ⟨rfl, hbX⟩
                      have hb7 := below_on h0 (Nat.le_refl _) hbX
                      refine hK.out _ _ (hS _ hb7) (fun hH2 => ?_)
                      clear hK K hbX
                      refine wpAnyH_take (i := 9) (v := ?v909) rfl (by kernel_rfl) (by kernel_rfl) (by kernel_rfl) (fun _ _ _ h => h) (Or.inl ⟨by kernel_rfl, ?hy909⟩) (by assumption) ?r909
                      case hy909 => (intro W hSW; obtain ⟨_, f0, f1, f2, f3, f4, f5, f6, f7, f8, f9, f10, f11, f12, f13, f14, f15, f16, f17, f18, f19⟩ := hSW; go_simp; try with_reducible rfl)
                      simp only [Act.put, List.getElem_toArray, List.getElem_cons_zero, List.getElem_cons_succ, List.setIfInBounds_toArray, List.set_cons_zero, List.set_cons_succ]
                      refine wpAnyH_take (i := 10) (v := ?v1010) rfl (by kernel_rfl) (by kernel_rfl) (by kernel_rfl) (fun _ _ _ h => h) (Or.inl ⟨by kernel_rfl, ?hy1010⟩) (by assumption) ?r1010
                      case hy1010 => (intro W hSW; obtain ⟨_, f0, f1, f2, f3, f4, f5, f6, f7, f8, f9, f10, f11, f12, f13, f14, f15, f16, f17, f18, f19⟩ := hSW; go_simp; try with_reducible rfl)
                      simp only [Act.put, List.getElem_toArray, List.getElem_cons_zero, List.getElem_cons_succ, List.setIfInBounds_toArray, List.set_cons_zero, List.set_cons_succ]
                      refine wpAnyH_take (i := 11) (v := ?v1111) rfl (by kernel_rfl) (by kernel_rfl) (by kernel_rfl) (fun _ _ _ h => h) (Or.inl ⟨by kernel_rfl, ?hy1111⟩) (by assumption) ?r1111
                      case hy1111 => (intro W hSW; obtain ⟨_, f0, f1, f2, f3, f4, f5, f6, f7, f8, f9, f10, f11, f12, f13, f14, f15, f16, f17, f18, f19⟩ := hSW; go_simp; try with_reducible rfl)
                      simp only [Act.put, List.getElem_toArray, List.getElem_cons_zero, List.getElem_cons_succ, List.setIfInBounds_toArray, List.set_cons_zero, List.set_cons_succ]
                      refine wpAnyH_take (i := 12) (v := ?v1212) rfl (by kernel_rfl) (by kernel_rfl) (by kernel_rfl) (fun _ _ _ h => h) (Or.inl ⟨by kernel_rfl, ?hy1212⟩) (by assumption) ?r1212
                      case hy1212 => (intro W hSW; obtain ⟨_, f0, f1, f2, f3, f4, f5, f6, f7, f8, f9, f10, f11, f12, f13, f14, f15, f16, f17, f18, f19⟩ := hSW; go_simp; try with_reducible rfl)
                      simp only [Act.put, List.getElem_toArray, List.getElem_cons_zero, List.getElem_cons_succ, List.setIfInBounds_toArray, List.set_cons_zero, List.set_cons_succ]
                      refine wpAnyH_take (i := 13) (v := undef) rfl (by kernel_rfl) (by kernel_rfl) (by kernel_rfl) (fun _ _ _ h => h) (Or.inr ⟨by kernel_rfl, rfl⟩) (by assumption) ?r1313
                      simp only [Act.put, List.getElem_toArray, List.getElem_cons_zero, List.getElem_cons_succ, List.setIfInBounds_toArray, List.set_cons_zero, List.set_cons_succ]
                      refine wpAnyH_take (i := 14) (v := undef) rfl (by kernel_rfl) (by kernel_rfl) (by kernel_rfl) (fun _ _ _ h => h) (Or.inr ⟨by kernel_rfl, rfl⟩) (by assumption) ?r1414
                      simp only [Act.put, List.getElem_toArray, List.getElem_cons_zero, List.getElem_cons_succ, List.setIfInBounds_toArray, List.set_cons_zero, List.set_cons_succ]
                      refine wpAnyH_take (i := 15) (v := undef) rfl (by kernel_rfl) (by kernel_rfl) (by kernel_rfl) (fun _ _ _ h => h) (Or.inr ⟨by kernel_rfl, rfl⟩) (by assumption) ?r1515
                      simp only [Act.put, List.getElem_toArray, List.getElem_cons_zero, List.getElem_cons_succ, List.setIfInBounds_toArray, List.set_cons_zero, List.set_cons_succ]
                      refine wpAnyH_take (i := 16) (v := ?v1616) rfl (by kernel_rfl) (by kernel_rfl) (by kernel_rfl) (fun _ _ _ h => h) (Or.inl ⟨by kernel_rfl, ?hy1616⟩) (by assumption) ?r1616
                      case hy1616 => (intro W hSW; obtain ⟨_, f0, f1, f2, f3, f4, f5, f6, f7, f8, f9, f10, f11, f12, f13, f14, f15, f16, f17, f18, f19⟩ := hSW; go_simp; try with_reducible rfl)
                      simp only [Act.put, List.getElem_toArray, List.getElem_cons_zero, List.getElem_cons_succ, List.setIfInBounds_toArray, List.set_cons_zero, List.set_cons_succ]
                      refine wpAnyH_take (i := 17) (v := ?v1717) rfl (by kernel_rfl) (by kernel_rfl) (by kernel_rfl) (fun _ _ _ h => h) (Or.inl ⟨by kernel_rfl, ?hy1717⟩) (by assumption) ?r1717
                      case hy1717 => (intro W hSW; obtain ⟨_, f0, f1, f2, f3, f4, f5, f6, f7, f8, f9, f10, f11, f12, f13, f14, f15, f16, f17, f18, f19⟩ := hSW; go_simp; try with_reducible rfl)
                      simp only [Act.put, List.getElem_toArray, List.getElem_cons_zero, List.getElem_cons_succ, List.setIfInBounds_toArray, List.set_cons_zero, List.set_cons_succ]
                      refine wpAnyH_done (by kernel_rfl) ?_ _
                      refine NoPanic.normal ?_
                      have hb6 := below_on hb5 (Nat.le_refl _) hb7
                      clear hH hH2 hS xc h0 hb7
                      go_wp2
                      go_ret
                      refine ⟨?_, hb6⟩
                      rw [beginsB_false hlt (beginsAt_false Hp.out hkb hjk (by rw [Hcl.out, Hp3.out]; rfl))]
                      rfl
                    · have hcl : clashB b[j] a[i] = false := by simpa using hcl
                      rw [hcl] at xc
                      have Hcl := Lib.hid hcl
                      clear hcl
                      go_wp2_with fail
                      refine wp_region_noPanic ?_
                      refine wp_region_held_drew (S := fun W => Below w5.heap.size w5 W ∧ W.cell? ⟨b2, o2 + j * 10, none⟩ = some (i64 b[j].client) ∧ W.cell? ⟨b2, o2 + j * 10 + 1, none⟩ = some (i64 b[j].seq) ∧ W.cell? ⟨b2, o2 + j * 10 + 2, none⟩ = some (i64 b[j].kind) ∧ W.cell? ⟨b2, o2 + j * 10 + 3, none⟩ = some (.string b[j].acct) ∧ W.cell? ⟨b2, o2 + j * 10 + 4, none⟩ = some (.string b[j].peer) ∧ W.cell? ⟨b2, o2 + j * 10 + 5, none⟩ = some (i64 b[j].sum) ∧ W.cell? ⟨b2, o2 + j * 10 + 6, none⟩ = some (.slice b[j].la b[j].legs.length b[j].lc) ∧ W.cell? ⟨b2, o2 + j * 10 + 7, none⟩ = some (i64 b[j].period) ∧ W.cell? ⟨b2, o2 + j * 10 + 8, none⟩ = some (i64 b[j].hold) ∧ W.cell? ⟨b2, o2 + j * 10 + 9, none⟩ = some (.string b[j].note) ∧ W.cell? ⟨b2, o2 + k * 10, none⟩ = some (i64 b[k].client) ∧ W.cell? ⟨b2, o2 + k * 10 + 1, none⟩ = some (i64 b[k].seq) ∧ W.cell? ⟨b2, o2 + k * 10 + 2, none⟩ = some (i64 b[k].kind) ∧ W.cell? ⟨b2, o2 + k * 10 + 3, none⟩ = some (.string b[k].acct) ∧ W.cell? ⟨b2, o2 + k * 10 + 4, none⟩ = some (.string b[k].peer) ∧ W.cell? ⟨b2, o2 + k * 10 + 5, none⟩ = some (i64 b[k].sum) ∧ W.cell? ⟨b2, o2 + k * 10 + 6, none⟩ = some (.slice b[k].la b[k].legs.length b[k].lc) ∧ W.cell? ⟨b2, o2 + k * 10 + 7, none⟩ = some (i64 b[k].period) ∧ W.cell? ⟨b2, o2 + k * 10 + 8, none⟩ = some (i64 b[k].hold) ∧ W.cell? ⟨b2, o2 + k * 10 + 9, none⟩ = some (.string b[k].note)) (by kernel_rfl) (hS _ h0) (fun hH => ?_)
                      refine wpAnyH_take (i := 0) (v := ?v1800) rfl (by kernel_rfl) (by kernel_rfl) (by kernel_rfl) (fun _ _ _ h => h) (Or.inl ⟨by kernel_rfl, ?hy1800⟩) (by assumption) ?r1800
                      case hy1800 => (intro W hSW; obtain ⟨_, f0, f1, f2, f3, f4, f5, f6, f7, f8, f9, f10, f11, f12, f13, f14, f15, f16, f17, f18, f19⟩ := hSW; go_simp; try with_reducible rfl)
                      simp only [Act.put, List.getElem_toArray, List.getElem_cons_zero, List.setIfInBounds_toArray, List.set_cons_zero, List.set_cons_succ]
                      refine wpAnyH_take (i := 1) (v := ?v1901) rfl (by kernel_rfl) (by kernel_rfl) (by kernel_rfl) (fun _ _ _ h => h) (Or.inl ⟨by kernel_rfl, ?hy1901⟩) (by assumption) ?r1901
                      case hy1901 => (intro W hSW; obtain ⟨_, f0, f1, f2, f3, f4, f5, f6, f7, f8, f9, f10, f11, f12, f13, f14, f15, f16, f17, f18, f19⟩ := hSW; go_simp; try with_reducible rfl)
                      simp only [Act.put, List.getElem_toArray, List.getElem_cons_zero, List.getElem_cons_succ, List.setIfInBounds_toArray, List.set_cons_zero, List.set_cons_succ]
                      refine wpAnyH_take (i := 2) (v := ?v2002) rfl (by kernel_rfl) (by kernel_rfl) (by kernel_rfl) (fun _ _ _ h => h) (Or.inl ⟨by kernel_rfl, ?hy2002⟩) (by assumption) ?r2002
                      case hy2002 => (intro W hSW; obtain ⟨_, f0, f1, f2, f3, f4, f5, f6, f7, f8, f9, f10, f11, f12, f13, f14, f15, f16, f17, f18, f19⟩ := hSW; go_simp; try with_reducible rfl)
                      simp only [Act.put, List.getElem_toArray, List.getElem_cons_zero, List.getElem_cons_succ, List.setIfInBounds_toArray, List.set_cons_zero, List.set_cons_succ]
                      refine wpAnyH_take (i := 3) (v := ?v2103) rfl (by kernel_rfl) (by kernel_rfl) (by kernel_rfl) (fun _ _ _ h => h) (Or.inl ⟨by kernel_rfl, ?hy2103⟩) (by assumption) ?r2103
                      case hy2103 => (intro W hSW; obtain ⟨_, f0, f1, f2, f3, f4, f5, f6, f7, f8, f9, f10, f11, f12, f13, f14, f15, f16, f17, f18, f19⟩ := hSW; go_simp; try with_reducible rfl)
                      simp only [Act.put, List.getElem_toArray, List.getElem_cons_zero, List.getElem_cons_succ, List.setIfInBounds_toArray, List.set_cons_zero, List.set_cons_succ]
                      refine wpAnyH_take (i := 4) (v := ?v2204) rfl (by kernel_rfl) (by kernel_rfl) (by kernel_rfl) (fun _ _ _ h => h) (Or.inl ⟨by kernel_rfl, ?hy2204⟩) (by assumption) ?r2204
                      case hy2204 => (intro W hSW; obtain ⟨_, f0, f1, f2, f3, f4, f5, f6, f7, f8, f9, f10, f11, f12, f13, f14, f15, f16, f17, f18, f19⟩ := hSW; go_simp; try with_reducible rfl)
                      simp only [Act.put, List.getElem_toArray, List.getElem_cons_zero, List.getElem_cons_succ, List.setIfInBounds_toArray, List.set_cons_zero, List.set_cons_succ]
                      refine wpAnyH_take (i := 5) (v := ?v2305) rfl (by kernel_rfl) (by kernel_rfl) (by kernel_rfl) (fun _ _ _ h => h) (Or.inl ⟨by kernel_rfl, ?hy2305⟩) (by assumption) ?r2305
                      case hy2305 => (intro W hSW; obtain ⟨_, f0, f1, f2, f3, f4, f5, f6, f7, f8, f9, f10, f11, f12, f13, f14, f15, f16, f17, f18, f19⟩ := hSW; go_simp; try with_reducible rfl)
                      simp only [Act.put, List.getElem_toArray, List.getElem_cons_zero, List.getElem_cons_succ, List.setIfInBounds_toArray, List.set_cons_zero, List.set_cons_succ]
                      refine wpAnyH_take (i := 6) (v := ?v2406) rfl (by kernel_rfl) (by kernel_rfl) (by kernel_rfl) (fun _ _ _ h => h) (Or.inl ⟨by kernel_rfl, ?hy2406⟩) (by assumption) ?r2406
                      case hy2406 => (intro W hSW; obtain ⟨_, f0, f1, f2, f3, f4, f5, f6, f7, f8, f9, f10, f11, f12, f13, f14, f15, f16, f17, f18, f19⟩ := hSW; go_simp; try with_reducible rfl)
                      simp only [Act.put, List.getElem_toArray, List.getElem_cons_zero, List.getElem_cons_succ, List.setIfInBounds_toArray, List.set_cons_zero, List.set_cons_succ]
                      refine wpAnyH_take (i := 7) (v := ?v2507) rfl (by kernel_rfl) (by kernel_rfl) (by kernel_rfl) (fun _ _ _ h => h) (Or.inl ⟨by kernel_rfl, ?hy2507⟩) (by assumption) ?r2507
                      case hy2507 => (intro W hSW; obtain ⟨_, f0, f1, f2, f3, f4, f5, f6, f7, f8, f9, f10, f11, f12, f13, f14, f15, f16, f17, f18, f19⟩ := hSW; go_simp; try with_reducible rfl)
                      simp only [Act.put, List.getElem_toArray, List.getElem_cons_zero, List.getElem_cons_succ, List.setIfInBounds_toArray, List.set_cons_zero, List.set_cons_succ]
                      refine wpAnyH_ready (rs := [8]) (by kernel_rfl) (by simp) ?_
                      refine AllReadyH.cons rfl (fun K hK => ?_) AllReadyH.nil
                      go_simp
                      go_at_call 13
                      with_reducible refine (xc _ h0).mono ?_
                      rintro e w6 ⟨rfl, hbX⟩
                      have hb7 := below_on h0 (Nat.le_refl _) hbX
                      refine hK.out _ _ (hS _ hb7) (fun hH2 => ?_)
                      clear hK K hbX
                      refine wpAnyH_take (i := 9) (v := ?v2609) rfl (by kernel_rfl) (by kernel_rfl) (by kernel_rfl) (fun _ _ _ h => h) (Or.inl ⟨by kernel_rfl, ?hy2609⟩) (by assumption) ?r2609
                      case hy2609 => (intro W hSW; obtain ⟨_, f0, f1, f2, f3, f4, f5, f6, f7, f8, f9, f10, f11, f12, f13, f14, f15, f16, f17, f18, f19⟩ := hSW; go_simp; try with_reducible rfl)
                      simp only [Act.put, List.getElem_toArray, List.getElem_cons_zero, List.getElem_cons_succ, List.setIfInBounds_toArray, List.set_cons_zero, List.set_cons_succ]
                      refine wpAnyH_take (i := 10) (v := undef) rfl (by kernel_rfl) (by kernel_rfl) (by kernel_rfl) (fun _ _ _ h => h) (Or.inr ⟨by kernel_rfl, rfl⟩) (by assumption) ?r2710
                      simp only [Act.put, List.getElem_toArray, List.getElem_cons_zero, List.getElem_cons_succ, List.setIfInBounds_toArray, List.set_cons_zero, List.set_cons_succ]
                      refine wpAnyH_take (i := 11) (v := undef) rfl (by kernel_rfl) (by kernel_rfl) (by kernel_rfl) (fun _ _ _ h => h) (Or.inr ⟨by kernel_rfl, rfl⟩) (by assumption) ?r2811
                      simp only [Act.put, List.getElem_toArray, List.getElem_cons_zero, List.getElem_cons_succ, List.setIfInBounds_toArray, List.set_cons_zero, List.set_cons_succ]
                      refine wpAnyH_take (i := 12) (v := undef) rfl (by kernel_rfl) (by kernel_rfl) (by kernel_rfl) (fun _ _ _ h => h) (Or.inr ⟨by kernel_rfl, rfl⟩) (by assumption) ?r2912
                      simp only [Act.put, List.getElem_toArray, List.getElem_cons_zero, List.getElem_cons_succ, List.setIfInBounds_toArray, List.set_cons_zero, List.set_cons_succ]
                      refine wpAnyH_take (i := 13) (v := undef) rfl (by kernel_rfl) (by kernel_rfl) (by kernel_rfl) (fun _ _ _ h => h) (Or.inr ⟨by kernel_rfl, rfl⟩) (by assumption) ?r3013
                      simp only [Act.put, List.getElem_toArray, List.getElem_cons_zero, List.getElem_cons_succ, List.setIfInBounds_toArray, List.set_cons_zero, List.set_cons_succ]
                      refine wpAnyH_take (i := 14) (v := undef) rfl (by kernel_rfl) (by kernel_rfl) (by kernel_rfl) (fun _ _ _ h => h) (Or.inr ⟨by kernel_rfl, rfl⟩) (by assumption) ?r3114
                      simp only [Act.put, List.getElem_toArray, List.getElem_cons_zero, List.getElem_cons_succ, List.setIfInBounds_toArray, List.set_cons_zero, List.set_cons_succ]
                      refine wpAnyH_take (i := 15) (v := undef) rfl (by kernel_rfl) (by kernel_rfl) (by kernel_rfl) (fun _ _ _ h => h) (Or.inr ⟨by kernel_rfl, rfl⟩) (by assumption) ?r3215
                      simp only [Act.put, List.getElem_toArray, List.getElem_cons_zero, List.getElem_cons_succ, List.setIfInBounds_toArray, List.set_cons_zero, List.set_cons_succ]
                      refine wpAnyH_take (i := 16) (v := undef) rfl (by kernel_rfl) (by kernel_rfl) (by kernel_rfl) (fun _ _ _ h => h) (Or.inr ⟨by kernel_rfl, rfl⟩) (by assumption) ?r3316
                      simp only [Act.put, List.getElem_toArray, List.getElem_cons_zero, List.getElem_cons_succ, List.setIfInBounds_toArray, List.set_cons_zero, List.set_cons_succ]
                      refine wpAnyH_take (i := 17) (v := ?v3417) rfl (by kernel_rfl) (by kernel_rfl) (by kernel_rfl) (fun _ _ _ h => h) (Or.inl ⟨by kernel_rfl, ?hy3417⟩) (by assumption) ?r3417
                      case hy3417 => (intro W hSW; obtain ⟨_, f0, f1, f2, f3, f4, f5, f6, f7, f8, f9, f10, f11, f12, f13, f14, f15, f16, f17, f18, f19⟩ := hSW; go_simp; try with_reducible rfl)
                      simp only [Act.put, List.getElem_toArray, List.getElem_cons_zero, List.getElem_cons_succ, List.setIfInBounds_toArray, List.set_cons_zero, List.set_cons_succ]
                      refine wpAnyH_done (by kernel_rfl) ?_ _
                      refine NoPanic.normal ?_
                      have hb6 := below_on hb5 (Nat.le_refl _) hb7
                      clear hH hH2 hS xc h0 hb7
                      go_wp2
                      go_roundw
                      case rel => exact ⟨j + 1, by go_num, by omega, Hin.out.next hjb (by rw [Hcl.out]; rfl), hb6⟩
                      case measure => simp [intOf]; omega
                  | some n =>
                    have hatn := at_some (validL_iff.1 Hva.out) hp3
                    have Hp3 := Lib.hid hp3
                    clear hp3
                    rw [hatn]
                    clear hatn
                    have g2 : decide ((n : Int) < 0) = false := decide_eq_false (by omega)
                    by_cases hcl : clashB b[j] a[i] = true
                    · rw [hcl] at xc
                      have Hcl := Lib.hid hcl
                      clear hcl
                      by_cases hni : i < n
                      · have g3 : decide ((i : Int) < (n : Int)) = true := decide_eq_true (by omega)
                        go_wp2_with fail
                        refine wp_region_noPanic ?_
                        refine wp_region_held_drew (S := fun W => Below w5.heap.size w5 W ∧ W.cell? ⟨b2, o2 + j * 10, none⟩ = some (i64 b[j].client) ∧ W.cell? ⟨b2, o2 + j * 10 + 1, none⟩ = some (i64 b[j].seq) ∧ W.cell? ⟨b2, o2 + j * 10 + 2, none⟩ = some (i64 b[j].kind) ∧ W.cell? ⟨b2, o2 + j * 10 + 3, none⟩ = some (.string b[j].acct) ∧ W.cell? ⟨b2, o2 + j * 10 + 4, none⟩ = some (.string b[j].peer) ∧ W.cell? ⟨b2, o2 + j * 10 + 5, none⟩ = some (i64 b[j].sum) ∧ W.cell? ⟨b2, o2 + j * 10 + 6, none⟩ = some (.slice b[j].la b[j].legs.length b[j].lc) ∧ W.cell? ⟨b2, o2 + j * 10 + 7, none⟩ = some (i64 b[j].period) ∧ W.cell? ⟨b2, o2 + j * 10 + 8, none⟩ = some (i64 b[j].hold) ∧ W.cell? ⟨b2, o2 + j * 10 + 9, none⟩ = some (.string b[j].note) ∧ W.cell? ⟨b2, o2 + k * 10, none⟩ = some (i64 b[k].client) ∧ W.cell? ⟨b2, o2 + k * 10 + 1, none⟩ = some (i64 b[k].seq) ∧ W.cell? ⟨b2, o2 + k * 10 + 2, none⟩ = some (i64 b[k].kind) ∧ W.cell? ⟨b2, o2 + k * 10 + 3, none⟩ = some (.string b[k].acct) ∧ W.cell? ⟨b2, o2 + k * 10 + 4, none⟩ = some (.string b[k].peer) ∧ W.cell? ⟨b2, o2 + k * 10 + 5, none⟩ = some (i64 b[k].sum) ∧ W.cell? ⟨b2, o2 + k * 10 + 6, none⟩ = some (.slice b[k].la b[k].legs.length b[k].lc) ∧ W.cell? ⟨b2, o2 + k * 10 + 7, none⟩ = some (i64 b[k].period) ∧ W.cell? ⟨b2, o2 + k * 10 + 8, none⟩ = some (i64 b[k].hold) ∧ W.cell? ⟨b2, o2 + k * 10 + 9, none⟩ = some (.string b[k].note)) (by kernel_rfl) (hS _ h0) (fun hH => ?_)
                        refine wpAnyH_take (i := 0) (v := ?v3500) rfl (by kernel_rfl) (by kernel_rfl) (by kernel_rfl) (fun _ _ _ h => h) (Or.inl ⟨by kernel_rfl, ?hy3500⟩) (by assumption) ?r3500
                        case hy3500 => (intro W hSW; obtain ⟨_, f0, f1, f2, f3, f4, f5, f6, f7, f8, f9, f10, f11, f12, f13, f14, f15, f16, f17, f18, f19⟩ := hSW; go_simp; try with_reducible rfl)
                        simp only [Act.put, List.getElem_toArray, List.getElem_cons_zero, List.setIfInBounds_toArray, List.set_cons_zero, List.set_cons_succ]
                        refine wpAnyH_take (i := 1) (v := ?v3601) rfl (by kernel_rfl) (by kernel_rfl) (by kernel_rfl) (fun _ _ _ h => h) (Or.inl ⟨by kernel_rfl, ?hy3601⟩) (by assumption) ?r3601
                        case hy3601 => (intro W hSW; obtain ⟨_, f0, f1, f2, f3, f4, f5, f6, f7, f8, f9, f10, f11, f12, f13, f14, f15, f16, f17, f18, f19⟩ := hSW; go_simp; try with_reducible rfl)
                        simp only [Act.put, List.getElem_toArray, List.getElem_cons_zero, List.getElem_cons_succ, List.setIfInBounds_toArray, List.set_cons_zero, List.set_cons_succ]
                        refine wpAnyH_take (i := 2) (v := ?v3702) rfl (by kernel_rfl) (by kernel_rfl) (by kernel_rfl) (fun _ _ _ h => h) (Or.inl ⟨by kernel_rfl, ?hy3702⟩) (by assumption) ?r3702
                        case hy3702 => (intro W hSW; obtain ⟨_, f0, f1, f2, f3, f4, f5, f6, f7, f8, f9, f10, f11, f12, f13, f14, f15, f16, f17, f18, f19⟩ := hSW; go_simp; try with_reducible rfl)
                        simp only [Act.put, List.getElem_toArray, List.getElem_cons_zero, List.getElem_cons_succ, List.setIfInBounds_toArray, List.set_cons_zero, List.set_cons_succ]
                        refine wpAnyH_take (i := 3) (v := ?v3803) rfl (by kernel_rfl) (by kernel_rfl) (by kernel_rfl) (fun _ _ _ h => h) (Or.inl ⟨by kernel_rfl, ?hy3803⟩) (by assumption) ?r3803
                        case hy3803 => (intro W hSW; obtain ⟨_, f0, f1, f2, f3, f4, f5, f6, f7, f8, f9, f10, f11, f12, f13, f14, f15, f16, f17, f18, f19⟩ := hSW; go_simp; try with_reducible rfl)
                        simp only [Act.put, List.getElem_toArray, List.getElem_cons_zero, List.getElem_cons_succ, List.setIfInBounds_toArray, List.set_cons_zero, List.set_cons_succ]
                        refine wpAnyH_take (i := 4) (v := ?v3904) rfl (by kernel_rfl) (by kernel_rfl) (by kernel_rfl) (fun _ _ _ h => h) (Or.inl ⟨by kernel_rfl, ?hy3904⟩) (by assumption) ?r3904
                        case hy3904 => (intro W hSW; obtain ⟨_, f0, f1, f2, f3, f4, f5, f6, f7, f8, f9, f10, f11, f12, f13, f14, f15, f16, f17, f18, f19⟩ := hSW; go_simp; try with_reducible rfl)
                        simp only [Act.put, List.getElem_toArray, List.getElem_cons_zero, List.getElem_cons_succ, List.setIfInBounds_toArray, List.set_cons_zero, List.set_cons_succ]
                        refine wpAnyH_take (i := 5) (v := ?v4005) rfl (by kernel_rfl) (by kernel_rfl) (by kernel_rfl) (fun _ _ _ h => h) (Or.inl ⟨by kernel_rfl, ?hy4005⟩) (by assumption) ?r4005
                        case hy4005 => (intro W hSW; obtain ⟨_, f0, f1, f2, f3, f4, f5, f6, f7, f8, f9, f10, f11, f12, f13, f14, f15, f16, f17, f18, f19⟩ := hSW; go_simp; try with_reducible rfl)
                        simp only [Act.put, List.getElem_toArray, List.getElem_cons_zero, List.getElem_cons_succ, List.setIfInBounds_toArray, List.set_cons_zero, List.set_cons_succ]
                        refine wpAnyH_take (i := 6) (v := ?v4106) rfl (by kernel_rfl) (by kernel_rfl) (by kernel_rfl) (fun _ _ _ h => h) (Or.inl ⟨by kernel_rfl, ?hy4106⟩) (by assumption) ?r4106
                        case hy4106 => (intro W hSW; obtain ⟨_, f0, f1, f2, f3, f4, f5, f6, f7, f8, f9, f10, f11, f12, f13, f14, f15, f16, f17, f18, f19⟩ := hSW; go_simp; try with_reducible rfl)
                        simp only [Act.put, List.getElem_toArray, List.getElem_cons_zero, List.getElem_cons_succ, List.setIfInBounds_toArray, List.set_cons_zero, List.set_cons_succ]
                        refine wpAnyH_take (i := 7) (v := ?v4207) rfl (by kernel_rfl) (by kernel_rfl) (by kernel_rfl) (fun _ _ _ h => h) (Or.inl ⟨by kernel_rfl, ?hy4207⟩) (by assumption) ?r4207
                        case hy4207 => (intro W hSW; obtain ⟨_, f0, f1, f2, f3, f4, f5, f6, f7, f8, f9, f10, f11, f12, f13, f14, f15, f16, f17, f18, f19⟩ := hSW; go_simp; try with_reducible rfl)
                        simp only [Act.put, List.getElem_toArray, List.getElem_cons_zero, List.getElem_cons_succ, List.setIfInBounds_toArray, List.set_cons_zero, List.set_cons_succ]
                        refine wpAnyH_ready (rs := [8]) (by kernel_rfl) (by simp) ?_
                        refine AllReadyH.cons rfl (fun K hK => ?_) AllReadyH.nil
                        go_simp
                        go_at_call 13
                        with_reducible refine (xc _ h0).mono ?_
                        rintro e w6 ⟨rfl, hbX⟩
                        have hb7 := below_on h0 (Nat.le_refl _) hbX
                        refine hK.out _ _ (hS _ hb7) (fun hH2 => ?_)
                        clear hK K hbX
                        refine wpAnyH_take (i := 9) (v := ?v4309) rfl (by kernel_rfl) (by kernel_rfl) (by kernel_rfl) (fun _ _ _ h => h) (Or.inl ⟨by kernel_rfl, ?hy4309⟩) (by assumption) ?r4309
                        case hy4309 => (intro W hSW; obtain ⟨_, f0, f1, f2, f3, f4, f5, f6, f7, f8, f9, f10, f11, f12, f13, f14, f15, f16, f17, f18, f19⟩ := hSW; go_simp; try with_reducible rfl)
                        simp only [Act.put, List.getElem_toArray, List.getElem_cons_zero, List.getElem_cons_succ, List.setIfInBounds_toArray, List.set_cons_zero, List.set_cons_succ]
                        refine wpAnyH_take (i := 10) (v := ?v4410) rfl (by kernel_rfl) (by kernel_rfl) (by kernel_rfl) (fun _ _ _ h => h) (Or.inl ⟨by kernel_rfl, ?hy4410⟩) (by assumption) ?r4410
                        case hy4410 => (intro W hSW; obtain ⟨_, f0, f1, f2, f3, f4, f5, f6, f7, f8, f9, f10, f11, f12, f13, f14, f15, f16, f17, f18, f19⟩ := hSW; go_simp; try with_reducible rfl)
                        simp only [Act.put, List.getElem_toArray, List.getElem_cons_zero, List.getElem_cons_succ, List.setIfInBounds_toArray, List.set_cons_zero, List.set_cons_succ]
                        refine wpAnyH_take (i := 11) (v := ?v4511) rfl (by kernel_rfl) (by kernel_rfl) (by kernel_rfl) (fun _ _ _ h => h) (Or.inl ⟨by kernel_rfl, ?hy4511⟩) (by assumption) ?r4511
                        case hy4511 => (intro W hSW; obtain ⟨_, f0, f1, f2, f3, f4, f5, f6, f7, f8, f9, f10, f11, f12, f13, f14, f15, f16, f17, f18, f19⟩ := hSW; go_simp; try with_reducible rfl)
                        simp only [Act.put, List.getElem_toArray, List.getElem_cons_zero, List.getElem_cons_succ, List.setIfInBounds_toArray, List.set_cons_zero, List.set_cons_succ]
                        refine wpAnyH_take (i := 12) (v := ?v4612) rfl (by kernel_rfl) (by kernel_rfl) (by kernel_rfl) (fun _ _ _ h => h) (Or.inl ⟨by kernel_rfl, ?hy4612⟩) (by assumption) ?r4612
                        case hy4612 => (intro W hSW; obtain ⟨_, f0, f1, f2, f3, f4, f5, f6, f7, f8, f9, f10, f11, f12, f13, f14, f15, f16, f17, f18, f19⟩ := hSW; go_simp; try with_reducible rfl)
                        simp only [Act.put, List.getElem_toArray, List.getElem_cons_zero, List.getElem_cons_succ, List.setIfInBounds_toArray, List.set_cons_zero, List.set_cons_succ]
                        refine wpAnyH_take (i := 13) (v := ?v4713) rfl (by kernel_rfl) (by kernel_rfl) (by kernel_rfl) (fun _ _ _ h => h) (Or.inl ⟨by kernel_rfl, ?hy4713⟩) (by assumption) ?r4713
                        case hy4713 => (intro W hSW; obtain ⟨_, f0, f1, f2, f3, f4, f5, f6, f7, f8, f9, f10, f11, f12, f13, f14, f15, f16, f17, f18, f19⟩ := hSW; go_simp; try with_reducible rfl)
                        simp only [Act.put, List.getElem_toArray, List.getElem_cons_zero, List.getElem_cons_succ, List.setIfInBounds_toArray, List.set_cons_zero, List.set_cons_succ]
                        refine wpAnyH_take (i := 14) (v := ?v4814) rfl (by kernel_rfl) (by kernel_rfl) (by kernel_rfl) (fun _ _ _ h => h) (Or.inl ⟨by kernel_rfl, ?hy4814⟩) (by assumption) ?r4814
                        case hy4814 => (intro W hSW; obtain ⟨_, f0, f1, f2, f3, f4, f5, f6, f7, f8, f9, f10, f11, f12, f13, f14, f15, f16, f17, f18, f19⟩ := hSW; go_simp; try with_reducible rfl)
                        simp only [Act.put, List.getElem_toArray, List.getElem_cons_zero, List.getElem_cons_succ, List.setIfInBounds_toArray, List.set_cons_zero, List.set_cons_succ]
                        refine wpAnyH_take (i := 15) (v := ?v4915) rfl (by kernel_rfl) (by kernel_rfl) (by kernel_rfl) (fun _ _ _ h => h) (Or.inl ⟨by kernel_rfl, ?hy4915⟩) (by assumption) ?r4915
                        case hy4915 => (intro W hSW; obtain ⟨_, f0, f1, f2, f3, f4, f5, f6, f7, f8, f9, f10, f11, f12, f13, f14, f15, f16, f17, f18, f19⟩ := hSW; go_simp; try with_reducible rfl)
                        simp only [Act.put, List.getElem_toArray, List.getElem_cons_zero, List.getElem_cons_succ, List.setIfInBounds_toArray, List.set_cons_zero, List.set_cons_succ]
                        refine wpAnyH_take (i := 16) (v := ?v5016) rfl (by kernel_rfl) (by kernel_rfl) (by kernel_rfl) (fun _ _ _ h => h) (Or.inl ⟨by kernel_rfl, ?hy5016⟩) (by assumption) ?r5016
                        case hy5016 => (intro W hSW; obtain ⟨_, f0, f1, f2, f3, f4, f5, f6, f7, f8, f9, f10, f11, f12, f13, f14, f15, f16, f17, f18, f19⟩ := hSW; go_simp; try with_reducible rfl)
                        simp only [Act.put, List.getElem_toArray, List.getElem_cons_zero, List.getElem_cons_succ, List.setIfInBounds_toArray, List.set_cons_zero, List.set_cons_succ]
                        refine wpAnyH_take (i := 17) (v := ?v5117) rfl (by kernel_rfl) (by kernel_rfl) (by kernel_rfl) (fun _ _ _ h => h) (Or.inl ⟨by kernel_rfl, ?hy5117⟩) (by assumption) ?r5117
                        case hy5117 => (intro W hSW; obtain ⟨_, f0, f1, f2, f3, f4, f5, f6, f7, f8, f9, f10, f11, f12, f13, f14, f15, f16, f17, f18, f19⟩ := hSW; go_simp; try with_reducible rfl)
                        simp only [Act.put, List.getElem_toArray, List.getElem_cons_zero, List.getElem_cons_succ, List.setIfInBounds_toArray, List.set_cons_zero, List.set_cons_succ]
                        refine wpAnyH_done (by kernel_rfl) ?_ _
                        refine NoPanic.normal ?_
                        have hb6 := below_on hb5 (Nat.le_refl _) hb7
                        clear hH hH2 hS xc h0 hb7
                        go_wp2
                        go_ret
                        refine ⟨?_, hb6⟩
                        rw [beginsB_false hlt (beginsAt_false Hp.out hkb hjk (by rw [Hcl.out, Hp3.out]; simpa using hni))]
                        rfl
                      · have g3 : decide ((i : Int) < (n : Int)) = false := decide_eq_false (by omega)
                        go_wp2_with fail
                        refine wp_region_noPanic ?_
                        refine wp_region_held_drew (S := fun W => Below w5.heap.size w5 W ∧ W.cell? ⟨b2, o2 + j * 10, none⟩ = some (i64 b[j].client) ∧ W.cell? ⟨b2, o2 + j * 10 + 1, none⟩ = some (i64 b[j].seq) ∧ W.cell? ⟨b2, o2 + j * 10 + 2, none⟩ = some (i64 b[j].kind) ∧ W.cell? ⟨b2, o2 + j * 10 + 3, none⟩ = some (.string b[j].acct) ∧ W.cell? ⟨b2, o2 + j * 10 + 4, none⟩ = some (.string b[j].peer) ∧ W.cell? ⟨b2, o2 + j * 10 + 5, none⟩ = some (i64 b[j].sum) ∧ W.cell? ⟨b2, o2 + j * 10 + 6, none⟩ = some (.slice b[j].la b[j].legs.length b[j].lc) ∧ W.cell? ⟨b2, o2 + j * 10 + 7, none⟩ = some (i64 b[j].period) ∧ W.cell? ⟨b2, o2 + j * 10 + 8, none⟩ = some (i64 b[j].hold) ∧ W.cell? ⟨b2, o2 + j * 10 + 9, none⟩ = some (.string b[j].note) ∧ W.cell? ⟨b2, o2 + k * 10, none⟩ = some (i64 b[k].client) ∧ W.cell? ⟨b2, o2 + k * 10 + 1, none⟩ = some (i64 b[k].seq) ∧ W.cell? ⟨b2, o2 + k * 10 + 2, none⟩ = some (i64 b[k].kind) ∧ W.cell? ⟨b2, o2 + k * 10 + 3, none⟩ = some (.string b[k].acct) ∧ W.cell? ⟨b2, o2 + k * 10 + 4, none⟩ = some (.string b[k].peer) ∧ W.cell? ⟨b2, o2 + k * 10 + 5, none⟩ = some (i64 b[k].sum) ∧ W.cell? ⟨b2, o2 + k * 10 + 6, none⟩ = some (.slice b[k].la b[k].legs.length b[k].lc) ∧ W.cell? ⟨b2, o2 + k * 10 + 7, none⟩ = some (i64 b[k].period) ∧ W.cell? ⟨b2, o2 + k * 10 + 8, none⟩ = some (i64 b[k].hold) ∧ W.cell? ⟨b2, o2 + k * 10 + 9, none⟩ = some (.string b[k].note)) (by kernel_rfl) (hS _ h0) (fun hH => ?_)
                        refine wpAnyH_take (i := 0) (v := ?v5200) rfl (by kernel_rfl) (by kernel_rfl) (by kernel_rfl) (fun _ _ _ h => h) (Or.inl ⟨by kernel_rfl, ?hy5200⟩) (by assumption) ?r5200
                        case hy5200 => (intro W hSW; obtain ⟨_, f0, f1, f2, f3, f4, f5, f6, f7, f8, f9, f10, f11, f12, f13, f14, f15, f16, f17, f18, f19⟩ := hSW; go_simp; try with_reducible rfl)
                        simp only [Act.put, List.getElem_toArray, List.getElem_cons_zero, List.setIfInBounds_toArray, List.set_cons_zero, List.set_cons_succ]
                        refine wpAnyH_take (i := 1) (v := ?v5301) rfl (by kernel_rfl) (by kernel_rfl) (by kernel_rfl) (fun _ _ _ h => h) (Or.inl ⟨by kernel_rfl, ?hy5301⟩) (by assumption) ?r5301
                        case hy5301 => (intro W hSW; obtain ⟨_, f0, f1, f2, f3, f4, f5, f6, f7, f8, f9, f10, f11, f12, f13, f14, f15, f16, f17, f18, f19⟩ := hSW; go_simp; try with_reducible rfl)
                        simp only [Act.put, List.getElem_toArray, List.getElem_cons_zero, List.getElem_cons_succ, List.setIfInBounds_toArray, List.set_cons_zero, List.set_cons_succ]
                        refine wpAnyH_take (i := 2) (v := ?v5402) rfl (by kernel_rfl) (by kernel_rfl) (by kernel_rfl) (fun _ _ _ h => h) (Or.inl ⟨by kernel_rfl, ?hy5402⟩) (by assumption) ?r5402
                        case hy5402 => (intro W hSW; obtain ⟨_, f0, f1, f2, f3, f4, f5, f6, f7, f8, f9, f10, f11, f12, f13, f14, f15, f16, f17, f18, f19⟩ := hSW; go_simp; try with_reducible rfl)
                        simp only [Act.put, List.getElem_toArray, List.getElem_cons_zero, List.getElem_cons_succ, List.setIfInBounds_toArray, List.set_cons_zero, List.set_cons_succ]
                        refine wpAnyH_take (i := 3) (v := ?v5503) rfl (by kernel_rfl) (by kernel_rfl) (by kernel_rfl) (fun _ _ _ h => h) (Or.inl ⟨by kernel_rfl, ?hy5503⟩) (by assumption) ?r5503
                        case hy5503 => (intro W hSW; obtain ⟨_, f0, f1, f2, f3, f4, f5, f6, f7, f8, f9, f10, f11, f12, f13, f14, f15, f16, f17, f18, f19⟩ := hSW; go_simp; try with_reducible rfl)
                        simp only [Act.put, List.getElem_toArray, List.getElem_cons_zero, List.getElem_cons_succ, List.setIfInBounds_toArray, List.set_cons_zero, List.set_cons_succ]
                        refine wpAnyH_take (i := 4) (v := ?v5604) rfl (by kernel_rfl) (by kernel_rfl) (by kernel_rfl) (fun _ _ _ h => h) (Or.inl ⟨by kernel_rfl, ?hy5604⟩) (by assumption) ?r5604
                        case hy5604 => (intro W hSW; obtain ⟨_, f0, f1, f2, f3, f4, f5, f6, f7, f8, f9, f10, f11, f12, f13, f14, f15, f16, f17, f18, f19⟩ := hSW; go_simp; try with_reducible rfl)
                        simp only [Act.put, List.getElem_toArray, List.getElem_cons_zero, List.getElem_cons_succ, List.setIfInBounds_toArray, List.set_cons_zero, List.set_cons_succ]
                        refine wpAnyH_take (i := 5) (v := ?v5705) rfl (by kernel_rfl) (by kernel_rfl) (by kernel_rfl) (fun _ _ _ h => h) (Or.inl ⟨by kernel_rfl, ?hy5705⟩) (by assumption) ?r5705
                        case hy5705 => (intro W hSW; obtain ⟨_, f0, f1, f2, f3, f4, f5, f6, f7, f8, f9, f10, f11, f12, f13, f14, f15, f16, f17, f18, f19⟩ := hSW; go_simp; try with_reducible rfl)
                        simp only [Act.put, List.getElem_toArray, List.getElem_cons_zero, List.getElem_cons_succ, List.setIfInBounds_toArray, List.set_cons_zero, List.set_cons_succ]
                        refine wpAnyH_take (i := 6) (v := ?v5806) rfl (by kernel_rfl) (by kernel_rfl) (by kernel_rfl) (fun _ _ _ h => h) (Or.inl ⟨by kernel_rfl, ?hy5806⟩) (by assumption) ?r5806
                        case hy5806 => (intro W hSW; obtain ⟨_, f0, f1, f2, f3, f4, f5, f6, f7, f8, f9, f10, f11, f12, f13, f14, f15, f16, f17, f18, f19⟩ := hSW; go_simp; try with_reducible rfl)
                        simp only [Act.put, List.getElem_toArray, List.getElem_cons_zero, List.getElem_cons_succ, List.setIfInBounds_toArray, List.set_cons_zero, List.set_cons_succ]
                        refine wpAnyH_take (i := 7) (v := ?v5907) rfl (by kernel_rfl) (by kernel_rfl) (by kernel_rfl) (fun _ _ _ h => h) (Or.inl ⟨by kernel_rfl, ?hy5907⟩) (by assumption) ?r5907
                        case hy5907 => (intro W hSW; obtain ⟨_, f0, f1, f2, f3, f4, f5, f6, f7, f8, f9, f10, f11, f12, f13, f14, f15, f16, f17, f18, f19⟩ := hSW; go_simp; try with_reducible rfl)
                        simp only [Act.put, List.getElem_toArray, List.getElem_cons_zero, List.getElem_cons_succ, List.setIfInBounds_toArray, List.set_cons_zero, List.set_cons_succ]
                        refine wpAnyH_ready (rs := [8]) (by kernel_rfl) (by simp) ?_
                        refine AllReadyH.cons rfl (fun K hK => ?_) AllReadyH.nil
                        go_simp
                        go_at_call 13
                        with_reducible refine (xc _ h0).mono ?_
                        rintro e w6 ⟨rfl, hbX⟩
                        have hb7 := below_on h0 (Nat.le_refl _) hbX
                        refine hK.out _ _ (hS _ hb7) (fun hH2 => ?_)
                        clear hK K hbX
                        refine wpAnyH_take (i := 9) (v := ?v6009) rfl (by kernel_rfl) (by kernel_rfl) (by kernel_rfl) (fun _ _ _ h => h) (Or.inl ⟨by kernel_rfl, ?hy6009⟩) (by assumption) ?r6009
                        case hy6009 => (intro W hSW; obtain ⟨_, f0, f1, f2, f3, f4, f5, f6, f7, f8, f9, f10, f11, f12, f13, f14, f15, f16, f17, f18, f19⟩ := hSW; go_simp; try with_reducible rfl)
                        simp only [Act.put, List.getElem_toArray, List.getElem_cons_zero, List.getElem_cons_succ, List.setIfInBounds_toArray, List.set_cons_zero, List.set_cons_succ]
                        refine wpAnyH_take (i := 10) (v := ?v6110) rfl (by kernel_rfl) (by kernel_rfl) (by kernel_rfl) (fun _ _ _ h => h) (Or.inl ⟨by kernel_rfl, ?hy6110⟩) (by assumption) ?r6110
                        case hy6110 => (intro W hSW; obtain ⟨_, f0, f1, f2, f3, f4, f5, f6, f7, f8, f9, f10, f11, f12, f13, f14, f15, f16, f17, f18, f19⟩ := hSW; go_simp; try with_reducible rfl)
                        simp only [Act.put, List.getElem_toArray, List.getElem_cons_zero, List.getElem_cons_succ, List.setIfInBounds_toArray, List.set_cons_zero, List.set_cons_succ]
                        refine wpAnyH_take (i := 11) (v := ?v6211) rfl (by kernel_rfl) (by kernel_rfl) (by kernel_rfl) (fun _ _ _ h => h) (Or.inl ⟨by kernel_rfl, ?hy6211⟩) (by assumption) ?r6211
                        case hy6211 => (intro W hSW; obtain ⟨_, f0, f1, f2, f3, f4, f5, f6, f7, f8, f9, f10, f11, f12, f13, f14, f15, f16, f17, f18, f19⟩ := hSW; go_simp; try with_reducible rfl)
                        simp only [Act.put, List.getElem_toArray, List.getElem_cons_zero, List.getElem_cons_succ, List.setIfInBounds_toArray, List.set_cons_zero, List.set_cons_succ]
                        refine wpAnyH_take (i := 12) (v := ?v6312) rfl (by kernel_rfl) (by kernel_rfl) (by kernel_rfl) (fun _ _ _ h => h) (Or.inl ⟨by kernel_rfl, ?hy6312⟩) (by assumption) ?r6312
                        case hy6312 => (intro W hSW; obtain ⟨_, f0, f1, f2, f3, f4, f5, f6, f7, f8, f9, f10, f11, f12, f13, f14, f15, f16, f17, f18, f19⟩ := hSW; go_simp; try with_reducible rfl)
                        simp only [Act.put, List.getElem_toArray, List.getElem_cons_zero, List.getElem_cons_succ, List.setIfInBounds_toArray, List.set_cons_zero, List.set_cons_succ]
                        refine wpAnyH_take (i := 13) (v := ?v6413) rfl (by kernel_rfl) (by kernel_rfl) (by kernel_rfl) (fun _ _ _ h => h) (Or.inl ⟨by kernel_rfl, ?hy6413⟩) (by assumption) ?r6413
                        case hy6413 => (intro W hSW; obtain ⟨_, f0, f1, f2, f3, f4, f5, f6, f7, f8, f9, f10, f11, f12, f13, f14, f15, f16, f17, f18, f19⟩ := hSW; go_simp; try with_reducible rfl)
                        simp only [Act.put, List.getElem_toArray, List.getElem_cons_zero, List.getElem_cons_succ, List.setIfInBounds_toArray, List.set_cons_zero, List.set_cons_succ]
                        refine wpAnyH_take (i := 14) (v := ?v6514) rfl (by kernel_rfl) (by kernel_rfl) (by kernel_rfl) (fun _ _ _ h => h) (Or.inl ⟨by kernel_rfl, ?hy6514⟩) (by assumption) ?r6514
                        case hy6514 => (intro W hSW; obtain ⟨_, f0, f1, f2, f3, f4, f5, f6, f7, f8, f9, f10, f11, f12, f13, f14, f15, f16, f17, f18, f19⟩ := hSW; go_simp; try with_reducible rfl)
                        simp only [Act.put, List.getElem_toArray, List.getElem_cons_zero, List.getElem_cons_succ, List.setIfInBounds_toArray, List.set_cons_zero, List.set_cons_succ]
                        refine wpAnyH_take (i := 15) (v := ?v6615) rfl (by kernel_rfl) (by kernel_rfl) (by kernel_rfl) (fun _ _ _ h => h) (Or.inl ⟨by kernel_rfl, ?hy6615⟩) (by assumption) ?r6615
                        case hy6615 => (intro W hSW; obtain ⟨_, f0, f1, f2, f3, f4, f5, f6, f7, f8, f9, f10, f11, f12, f13, f14, f15, f16, f17, f18, f19⟩ := hSW; go_simp; try with_reducible rfl)
                        simp only [Act.put, List.getElem_toArray, List.getElem_cons_zero, List.getElem_cons_succ, List.setIfInBounds_toArray, List.set_cons_zero, List.set_cons_succ]
                        refine wpAnyH_take (i := 16) (v := ?v6716) rfl (by kernel_rfl) (by kernel_rfl) (by kernel_rfl) (fun _ _ _ h => h) (Or.inl ⟨by kernel_rfl, ?hy6716⟩) (by assumption) ?r6716
                        case hy6716 => (intro W hSW; obtain ⟨_, f0, f1, f2, f3, f4, f5, f6, f7, f8, f9, f10, f11, f12, f13, f14, f15, f16, f17, f18, f19⟩ := hSW; go_simp; try with_reducible rfl)
                        simp only [Act.put, List.getElem_toArray, List.getElem_cons_zero, List.getElem_cons_succ, List.setIfInBounds_toArray, List.set_cons_zero, List.set_cons_succ]
                        refine wpAnyH_take (i := 17) (v := ?v6817) rfl (by kernel_rfl) (by kernel_rfl) (by kernel_rfl) (fun _ _ _ h => h) (Or.inl ⟨by kernel_rfl, ?hy6817⟩) (by assumption) ?r6817
                        case hy6817 => (intro W hSW; obtain ⟨_, f0, f1, f2, f3, f4, f5, f6, f7, f8, f9, f10, f11, f12, f13, f14, f15, f16, f17, f18, f19⟩ := hSW; go_simp; try with_reducible rfl)
                        simp only [Act.put, List.getElem_toArray, List.getElem_cons_zero, List.getElem_cons_succ, List.setIfInBounds_toArray, List.set_cons_zero, List.set_cons_succ]
                        refine wpAnyH_done (by kernel_rfl) ?_ _
                        refine NoPanic.normal ?_
                        have hb6 := below_on hb5 (Nat.le_refl _) hb7
                        clear hH hH2 hS xc h0 hb7
                        go_wp2
                        go_roundw
                        case rel => exact ⟨j + 1, by go_num, by omega, Hin.out.next hjb (by rw [Hcl.out, Hp3.out]; simpa using hni), hb6⟩
                        case measure => simp [intOf]; omega
                    · have hcl : clashB b[j] a[i] = false := by simpa using hcl
                      rw [hcl] at xc
                      have Hcl := Lib.hid hcl
                      clear hcl
                      go_wp2_with fail
                      refine wp_region_noPanic ?_
                      refine wp_region_held_drew (S := fun W => Below w5.heap.size w5 W ∧ W.cell? ⟨b2, o2 + j * 10, none⟩ = some (i64 b[j].client) ∧ W.cell? ⟨b2, o2 + j * 10 + 1, none⟩ = some (i64 b[j].seq) ∧ W.cell? ⟨b2, o2 + j * 10 + 2, none⟩ = some (i64 b[j].kind) ∧ W.cell? ⟨b2, o2 + j * 10 + 3, none⟩ = some (.string b[j].acct) ∧ W.cell? ⟨b2, o2 + j * 10 + 4, none⟩ = some (.string b[j].peer) ∧ W.cell? ⟨b2, o2 + j * 10 + 5, none⟩ = some (i64 b[j].sum) ∧ W.cell? ⟨b2, o2 + j * 10 + 6, none⟩ = some (.slice b[j].la b[j].legs.length b[j].lc) ∧ W.cell? ⟨b2, o2 + j * 10 + 7, none⟩ = some (i64 b[j].period) ∧ W.cell? ⟨b2, o2 + j * 10 + 8, none⟩ = some (i64 b[j].hold) ∧ W.cell? ⟨b2, o2 + j * 10 + 9, none⟩ = some (.string b[j].note) ∧ W.cell? ⟨b2, o2 + k * 10, none⟩ = some (i64 b[k].client) ∧ W.cell? ⟨b2, o2 + k * 10 + 1, none⟩ = some (i64 b[k].seq) ∧ W.cell? ⟨b2, o2 + k * 10 + 2, none⟩ = some (i64 b[k].kind) ∧ W.cell? ⟨b2, o2 + k * 10 + 3, none⟩ = some (.string b[k].acct) ∧ W.cell? ⟨b2, o2 + k * 10 + 4, none⟩ = some (.string b[k].peer) ∧ W.cell? ⟨b2, o2 + k * 10 + 5, none⟩ = some (i64 b[k].sum) ∧ W.cell? ⟨b2, o2 + k * 10 + 6, none⟩ = some (.slice b[k].la b[k].legs.length b[k].lc) ∧ W.cell? ⟨b2, o2 + k * 10 + 7, none⟩ = some (i64 b[k].period) ∧ W.cell? ⟨b2, o2 + k * 10 + 8, none⟩ = some (i64 b[k].hold) ∧ W.cell? ⟨b2, o2 + k * 10 + 9, none⟩ = some (.string b[k].note)) (by kernel_rfl) (hS _ h0) (fun hH => ?_)
                      refine wpAnyH_take (i := 0) (v := ?v6900) rfl (by kernel_rfl) (by kernel_rfl) (by kernel_rfl) (fun _ _ _ h => h) (Or.inl ⟨by kernel_rfl, ?hy6900⟩) (by assumption) ?r6900
                      case hy6900 => (intro W hSW; obtain ⟨_, f0, f1, f2, f3, f4, f5, f6, f7, f8, f9, f10, f11, f12, f13, f14, f15, f16, f17, f18, f19⟩ := hSW; go_simp; try with_reducible rfl)
                      simp only [Act.put, List.getElem_toArray, List.getElem_cons_zero, List.setIfInBounds_toArray, List.set_cons_zero, List.set_cons_succ]
                      refine wpAnyH_take (i := 1) (v := ?v7001) rfl (by kernel_rfl) (by kernel_rfl) (by kernel_rfl) (fun _ _ _ h => h) (Or.inl ⟨by kernel_rfl, ?hy7001⟩) (by assumption) ?r7001
                      case hy7001 => (intro W hSW; obtain ⟨_, f0, f1, f2, f3, f4, f5, f6, f7, f8, f9, f10, f11, f12, f13, f14, f15, f16, f17, f18, f19⟩ := hSW; go_simp; try with_reducible rfl)
                      simp only [Act.put, List.getElem_toArray, List.getElem_cons_zero, List.getElem_cons_succ, List.setIfInBounds_toArray, List.set_cons_zero, List.set_cons_succ]
                      refine wpAnyH_take (i := 2) (v := ?v7102) rfl (by kernel_rfl) (by kernel_rfl) (by kernel_rfl) (fun _ _ _ h => h) (Or.inl ⟨by kernel_rfl, ?hy7102⟩) (by assumption) ?r7102
                      case hy7102 => (intro W hSW; obtain ⟨_, f0, f1, f2, f3, f4, f5, f6, f7, f8, f9, f10, f11, f12, f13, f14, f15, f16, f17, f18, f19⟩ := hSW; go_simp; try with_reducible rfl)
                      simp only [Act.put, List.getElem_toArray, List.getElem_cons_zero, List.getElem_cons_succ, List.setIfInBounds_toArray, List.set_cons_zero, List.set_cons_succ]
                      refine wpAnyH_take (i := 3) (v := ?v7203) rfl (by kernel_rfl) (by kernel_rfl) (by kernel_rfl) (fun _ _ _ h => h) (Or.inl ⟨by kernel_rfl, ?hy7203⟩) (by assumption) ?r7203
                      case hy7203 => (intro W hSW; obtain ⟨_, f0, f1, f2, f3, f4, f5, f6, f7, f8, f9, f10, f11, f12, f13, f14, f15, f16, f17, f18, f19⟩ := hSW; go_simp; try with_reducible rfl)
                      simp only [Act.put, List.getElem_toArray, List.getElem_cons_zero, List.getElem_cons_succ, List.setIfInBounds_toArray, List.set_cons_zero, List.set_cons_succ]
                      refine wpAnyH_take (i := 4) (v := ?v7304) rfl (by kernel_rfl) (by kernel_rfl) (by kernel_rfl) (fun _ _ _ h => h) (Or.inl ⟨by kernel_rfl, ?hy7304⟩) (by assumption) ?r7304
                      case hy7304 => (intro W hSW; obtain ⟨_, f0, f1, f2, f3, f4, f5, f6, f7, f8, f9, f10, f11, f12, f13, f14, f15, f16, f17, f18, f19⟩ := hSW; go_simp; try with_reducible rfl)
                      simp only [Act.put, List.getElem_toArray, List.getElem_cons_zero, List.getElem_cons_succ, List.setIfInBounds_toArray, List.set_cons_zero, List.set_cons_succ]
                      refine wpAnyH_take (i := 5) (v := ?v7405) rfl (by kernel_rfl) (by kernel_rfl) (by kernel_rfl) (fun _ _ _ h => h) (Or.inl ⟨by kernel_rfl, ?hy7405⟩) (by assumption) ?r7405
                      case hy7405 => (intro W hSW; obtain ⟨_, f0, f1, f2, f3, f4, f5, f6, f7, f8, f9, f10, f11, f12, f13, f14, f15, f16, f17, f18, f19⟩ := hSW; go_simp; try with_reducible rfl)
                      simp only [Act.put, List.getElem_toArray, List.getElem_cons_zero, List.getElem_cons_succ, List.setIfInBounds_toArray, List.set_cons_zero, List.set_cons_succ]
                      refine wpAnyH_take (i := 6) (v := ?v7506) rfl (by kernel_rfl) (by kernel_rfl) (by kernel_rfl) (fun _ _ _ h => h) (Or.inl ⟨by kernel_rfl, ?hy7506⟩) (by assumption) ?r7506
                      case hy7506 => (intro W hSW; obtain ⟨_, f0, f1, f2, f3, f4, f5, f6, f7, f8, f9, f10, f11, f12, f13, f14, f15, f16, f17, f18, f19⟩ := hSW; go_simp; try with_reducible rfl)
                      simp only [Act.put, List.getElem_toArray, List.getElem_cons_zero, List.getElem_cons_succ, List.setIfInBounds_toArray, List.set_cons_zero, List.set_cons_succ]
                      refine wpAnyH_take (i := 7) (v := ?v7607) rfl (by kernel_rfl) (by kernel_rfl) (by kernel_rfl) (fun _ _ _ h => h) (Or.inl ⟨by kernel_rfl, ?hy7607⟩) (by assumption) ?r7607
                      case hy7607 => (intro W hSW; obtain ⟨_, f0, f1, f2, f3, f4, f5, f6, f7, f8, f9, f10, f11, f12, f13, f14, f15, f16, f17, f18, f19⟩ := hSW; go_simp; try with_reducible rfl)
                      simp only [Act.put, List.getElem_toArray, List.getElem_cons_zero, List.getElem_cons_succ, List.setIfInBounds_toArray, List.set_cons_zero, List.set_cons_succ]
                      refine wpAnyH_ready (rs := [8]) (by kernel_rfl) (by simp) ?_
                      refine AllReadyH.cons rfl (fun K hK => ?_) AllReadyH.nil
                      go_simp
                      go_at_call 13
                      with_reducible refine (xc _ h0).mono ?_
                      rintro e w6 ⟨rfl, hbX⟩
                      have hb7 := below_on h0 (Nat.le_refl _) hbX
                      refine hK.out _ _ (hS _ hb7) (fun hH2 => ?_)
                      clear hK K hbX
                      refine wpAnyH_take (i := 9) (v := ?v7709) rfl (by kernel_rfl) (by kernel_rfl) (by kernel_rfl) (fun _ _ _ h => h) (Or.inl ⟨by kernel_rfl, ?hy7709⟩) (by assumption) ?r7709
                      case hy7709 => (intro W hSW; obtain ⟨_, f0, f1, f2, f3, f4, f5, f6, f7, f8, f9, f10, f11, f12, f13, f14, f15, f16, f17, f18, f19⟩ := hSW; go_simp; try with_reducible rfl)
                      simp only [Act.put, List.getElem_toArray, List.getElem_cons_zero, List.getElem_cons_succ, List.setIfInBounds_toArray, List.set_cons_zero, List.set_cons_succ]
                      refine wpAnyH_take (i := 10) (v := undef) rfl (by kernel_rfl) (by kernel_rfl) (by kernel_rfl) (fun _ _ _ h => h) (Or.inr ⟨by kernel_rfl, rfl⟩) (by assumption) ?r7810
                      simp only [Act.put, List.getElem_toArray, List.getElem_cons_zero, List.getElem_cons_succ, List.setIfInBounds_toArray, List.set_cons_zero, List.set_cons_succ]
                      refine wpAnyH_take (i := 11) (v := undef) rfl (by kernel_rfl) (by kernel_rfl) (by kernel_rfl) (fun _ _ _ h => h) (Or.inr ⟨by kernel_rfl, rfl⟩) (by assumption) ?r7911
                      simp only [Act.put, List.getElem_toArray, List.getElem_cons_zero, List.getElem_cons_succ, List.setIfInBounds_toArray, List.set_cons_zero, List.set_cons_succ]
                      refine wpAnyH_take (i := 12) (v := undef) rfl (by kernel_rfl) (by kernel_rfl) (by kernel_rfl) (fun _ _ _ h => h) (Or.inr ⟨by kernel_rfl, rfl⟩) (by assumption) ?r8012
                      simp only [Act.put, List.getElem_toArray, List.getElem_cons_zero, List.getElem_cons_succ, List.setIfInBounds_toArray, List.set_cons_zero, List.set_cons_succ]
                      refine wpAnyH_take (i := 13) (v := undef) rfl (by kernel_rfl) (by kernel_rfl) (by kernel_rfl) (fun _ _ _ h => h) (Or.inr ⟨by kernel_rfl, rfl⟩) (by assumption) ?r8113
                      simp only [Act.put, List.getElem_toArray, List.getElem_cons_zero, List.getElem_cons_succ, List.setIfInBounds_toArray, List.set_cons_zero, List.set_cons_succ]
                      refine wpAnyH_take (i := 14) (v := undef) rfl (by kernel_rfl) (by kernel_rfl) (by kernel_rfl) (fun _ _ _ h => h) (Or.inr ⟨by kernel_rfl, rfl⟩) (by assumption) ?r8214
                      simp only [Act.put, List.getElem_toArray, List.getElem_cons_zero, List.getElem_cons_succ, List.setIfInBounds_toArray, List.set_cons_zero, List.set_cons_succ]
                      refine wpAnyH_take (i := 15) (v := undef) rfl (by kernel_rfl) (by kernel_rfl) (by kernel_rfl) (fun _ _ _ h => h) (Or.inr ⟨by kernel_rfl, rfl⟩) (by assumption) ?r8315
                      simp only [Act.put, List.getElem_toArray, List.getElem_cons_zero, List.getElem_cons_succ, List.setIfInBounds_toArray, List.set_cons_zero, List.set_cons_succ]
                      refine wpAnyH_take (i := 16) (v := undef) rfl (by kernel_rfl) (by kernel_rfl) (by kernel_rfl) (fun _ _ _ h => h) (Or.inr ⟨by kernel_rfl, rfl⟩) (by assumption) ?r8416
                      simp only [Act.put, List.getElem_toArray, List.getElem_cons_zero, List.getElem_cons_succ, List.setIfInBounds_toArray, List.set_cons_zero, List.set_cons_succ]
                      refine wpAnyH_take (i := 17) (v := ?v8517) rfl (by kernel_rfl) (by kernel_rfl) (by kernel_rfl) (fun _ _ _ h => h) (Or.inl ⟨by kernel_rfl, ?hy8517⟩) (by assumption) ?r8517
                      case hy8517 => (intro W hSW; obtain ⟨_, f0, f1, f2, f3, f4, f5, f6, f7, f8, f9, f10, f11, f12, f13, f14, f15, f16, f17, f18, f19⟩ := hSW; go_simp; try with_reducible rfl)
                      simp only [Act.put, List.getElem_toArray, List.getElem_cons_zero, List.getElem_cons_succ, List.setIfInBounds_toArray, List.set_cons_zero, List.set_cons_succ]
                      refine wpAnyH_done (by kernel_rfl) ?_ _
                      refine NoPanic.normal ?_
                      have hb6 := below_on hb5 (Nat.le_refl _) hb7
                      clear hH hH2 hS xc h0 hb7
                      go_wp2
                      go_roundw
                      case rel => exact ⟨j + 1, by go_num, by omega, Hin.out.next hjb (by rw [Hcl.out]; rfl), hb6⟩
                      case measure => simp [intOf]; omega
                · obtain rfl : j = k := by omega
                  go_wp2
                  go_roundw
                  case rel => exact ⟨i + 1, by go_num, by omega, Hall.out.next hlt (beginsAt_true Hp.out hkb Hsm.out (fun q hq h => Hin.out q hq h)), hI⟩
                  case measure => simp [intOf]; omega
            · have hsm' : sameB a[i] b[k] = false := by simpa using hsm
              rw [hsm']
              have Hsm := Lib.hid hsm'
              clear hsm hsm'
              go_wp2
              go_ret
              refine ⟨?_, hb4⟩
              rw [beginsB_false hlt (by
                unfold beginsAt
                rw [Hp.out]
                simp only [List.getElem?_eq_getElem hkb, Hsm.out, Bool.false_and])]
              rfl
        · obtain rfl : i = a.length := by omega
          go_wp2
          go_ret
          refine ⟨?_, hbr⟩
          rw [beginsB_true Hva.out Hvb.out (fun j hj => Hall.out j hj hj)]
          rfl
    · have hvb' : validL b = false := by simpa using hvb
      have Hs : Hid (beginsB a b = false) := Lib.hid (by unfold beginsB; rw [hva, hvb']; rfl)
      have Hva := Lib.hid hva
      have Hvb := Lib.hid hvb'
      clear hva hvb hvb'
      go_enter Try.func19, Try.ntmps19
      go_wp2_with fail
      refine (rright_c A c a _ ha hna).mono ?_
      rintro e w1 ⟨rfl, hb1⟩
      rw [Hva.out]
      go_wp2_with fail
      refine (rright_c C d b _ (hb.later hb1) hnb).mono ?_
      rintro e w2 ⟨rfl, hb2⟩
      rw [Hvb.out]
      go_wp2
      go_ret
      exact ⟨by rw [Hs.out]; rfl, hb1.trans (hb2.mono hb1.size)⟩
  · have hva' : validL a = false := by simpa using hva
    have Hs : Hid (beginsB a b = false) := Lib.hid (by unfold beginsB; rw [hva']; rfl)
    have Hva := Lib.hid hva'
    clear hva hva'
    go_enter Try.func19, Try.ntmps19
    go_wp2_with fail
    refine (rright_c A c a _ ha hna).mono ?_
    rintro e w1 ⟨rfl, hb1⟩
    rw [Hva.out]
    go_wp2
    go_ret
    exact ⟨by rw [Hs.out]; rfl, hb1⟩
end Go.Proofs.Ytogecfddkohigaa
