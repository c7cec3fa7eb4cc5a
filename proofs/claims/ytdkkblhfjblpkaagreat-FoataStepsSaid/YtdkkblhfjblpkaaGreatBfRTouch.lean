/- ref06.Touches -/
import Derived.Test.YtdkkblhfjblpkaaGreatRows
import Derived.Test.YtdkkblhfjblpkaaGreatBfRTouchP
import Derived.Test.YtdkkblhfjblpkaaGreatBfRAhead
import Derived.Test.YtdkkblhfjblpkaaGreatBi5
import Derived.Test.YtdkkblhfjblpkaaGreatBi11
import Derived.Test.YtdkkblhfjblpkaaGreatBi3
import Derived.Deep.RegionHeld3
import Derived.WalkKit
import Derived.WalkSpells
import Derived.WalkLawsBesides
import Derived.Deep.QuietTactic
import Derived.BigQuiet
import Derived.Laws.StructEq
import Derived.Deep.DeepFit
import Derived.StillTailTactics
namespace Go.Proofs.YtdkkblhfjblpkaaGreat
open Go.RowKit
def upFrom (a : ByteArray) (out : List ByteArray) (k : Nat) : Prop := ∀ j (hj : j < out.length), k ≤ j → bless a out[j] = true
set_option maxRecDepth 100000 in
set_option maxHeartbeats 4000000 in
theorem rtouches_c (x : Od) (w : World) (hx : Okb w w.heap.size x) (hl : x.legs.length ≤ 10) :
    Calls Tryz.prog 109 #[x.v] w fun e w' => ∃ v, e = .returned v ∧ Own w' w.heap.size 9 v (touches x) ∧ Below w.heap.size w w' := by
  obtain ⟨ha, hp, -, hlg⟩ := hx
  have hO0 := own_lit (w := w.alloc (.cells x.cells.toArray 50)) (base := w.heap.size + 1) 9 #[.string x.acct, .string x.peer] [x.acct, x.peer] (by simp) rfl (by simp) (by
    intro s hs
    simp only [List.mem_cons, List.not_mem_nil, or_false] at hs
    rcases hs with rfl | rfl
    · exact ha
    · exact hp)
  have hB0 := (Below.refl w.heap.size w).alloc (Nat.le_refl _) (.cells x.cells.toArray 50)
  have hB1 := (Below.refl (w.alloc (.cells x.cells.toArray 50)).heap.size (w.alloc (.cells x.cells.toArray 50))).alloc (Nat.le_refl _) (.cells #[.string x.acct, .string x.peer] 9)
  have c6 : (w.alloc (.cells x.cells.toArray 50)).cell? ⟨w.heap.size, 6, none⟩ = some (.slice x.la x.legs.length x.lc) := by simp [Od.cells]
  have hlt0 : w.heap.size < (w.alloc (.cells x.cells.toArray 50)).heap.size := by simp
  have c6' := (hB1.cell (p := ⟨w.heap.size, 6, none⟩) hlt0).trans c6
  have hsz1 : (w.alloc (.cells x.cells.toArray 50)).heap.size = w.heap.size + 1 := by simp
  have hB2 := below_on hB0 (Nat.le_refl _) hB1
  obtain ⟨W1, hW1⟩ : ∃ W1, (w.alloc (.cells x.cells.toArray 50)).alloc (.cells #[.string x.acct, .string x.peer] 9) = W1 := ⟨_, rfl⟩
  rw [hsz1, hW1] at hO0 hB1
  rw [hW1] at hB2 c6'
  have hlt1 : w.heap.size < W1.heap.size := by have := hB1.size; rw [hsz1] at this; omega
  clear c6 hB0 hB1 hlt0 hsz1 ha hp
  unfold Od.cells at hW1
  unfold Od.v
  go_enter Tryz.func109, Tryz.ntmps109
  go_wp2_with fail
  clear hW1
  have hlr : x.legs.length ≤ x.lc := hlg.1
  go_loopw [3, 4] (fun v i wr => ∃ k : Nat, i = i64 k ∧ k ≤ x.legs.length ∧ Own wr (w.heap.size + 1) 9 v ((x.acct :: x.peer :: x.legs.map Leg.acct).take (k + 2)) ∧ w.heap.size < wr.heap.size ∧ wr.cell? ⟨w.heap.size, 6, none⟩ = some (.slice x.la x.legs.length x.lc) ∧ Below w.heap.size w wr) (fun _ i _ => x.legs.length - (intOf i).toNat)
  case atStart => exact ⟨0, rfl, by omega, hO0, hlt1, c6', hB2⟩
  case round =>
    obtain ⟨k, rfl, hk, hO, hlw, c6, hb⟩ := hrel
    clear hO0 hlt1 c6' hB2
    by_cases hlt : k < x.legs.length
    · obtain ⟨b, o, hA, hbb, hsz, c0, c1⟩ := (hlg.later hb).leg hlt
      have Hsz := Lib.hid hsz
      rw [hA] at c6
      have HA := Lib.hid hA
      clear hsz hA
      have hB3 := (Below.refl wr.heap.size wr).alloc (Nat.le_refl _) (.cells #[.string x.legs[k].acct] 9)
      have hO2 := hO.later hB3
      have hne := hO.new_ne (Nat.le_refl wr.heap.size)
      have hHeap := heap_alloc_new wr (.cells #[.string x.legs[k].acct] 9)
      have hlen : ((x.acct :: x.peer :: x.legs.map Leg.acct).take (k + 2)).length = k + 2 := by simp; omega
      have hb3 := below_on hb (Nat.le_refl _) hB3
      have c6b := (hB3.cell (p := ⟨w.heap.size, 6, none⟩) hlw).trans c6
      have hlw3 := Nat.lt_of_lt_of_le hlw hB3.size
      have HO2 := Lib.hid hO2
      have Hne := Lib.hid hne
      have HH := Lib.hid hHeap
      have HL := Lib.hid hlen
      have C6 := Lib.hid c6b
      clear hO2 hne hHeap hlen hO hB3 c6b
      go_wp2_with (at_builtin; refine wpList_append_one rfl (some 28) (.tmp 20) (.tmp 27) 59 rfl rfl (.string ByteArray.empty) 16 Tryz.underlying59 strInfo rfl Nat.one_pos (by decide) rfl HO2.out wr.heap.size x.legs[k].acct rfl _ 9 HH.out rfl Hne.out Hsz.out (by rw [HL.out]; omega) hlw3 ?_; intro v3 w3 hO3 hg3 hat3)
      have hF := HO2.out.below hg3 (Nat.le_refl _) hlw3
      go_roundw
      case rel => exact ⟨k + 1, by go_num, by omega, by
        rw [show k + 1 + 2 = k + 2 + 1 from rfl, List.take_succ_eq_append_getElem (by simp; omega)]
        simpa using hO3, Nat.lt_of_lt_of_le hlw3 hF.size, (hF.cell (p := ⟨w.heap.size, 6, none⟩) (Nat.lt_succ_self _)).trans (by rw [C6.out, HA.out]), hb3.trans (hF.mono (Nat.le_succ _))⟩
      case measure => simp [intOf] <;> omega
    · have hkl : k = x.legs.length := by omega
      subst hkl
      rw [List.take_of_length_le (by simp)] at hO
      have hLlen : (x.acct :: x.peer :: x.legs.map Leg.acct).length ≤ 12 := by simp; omega
      obtain ⟨L, hL⟩ : ∃ L, x.acct :: x.peer :: x.legs.map Leg.acct = L := ⟨_, rfl⟩
      have HT := Lib.hid (show ∀ out, GoodT out L → out = touches x from fun out h => GoodT.touches (by rw [hL]; exact h))
      rw [hL] at hO hLlen
      clear hL hlg hlr
      obtain ⟨AL, cL, rfl, hS⟩ := hO.sl
      clear hO
      go_wp2_with fail
      clear c6 hlw
      obtain ⟨wo, rfl⟩ : ∃ wo : World, wo = wr := ⟨_, rfl⟩
      go_loopw [5, 6] (fun v i wr => ∃ n : Nat, i = i64 n ∧ n ≤ L.length ∧ (∃ out, Own wr wo.heap.size 9 v out ∧ GoodT out (L.take n) ∧ out.length ≤ n) ∧ Below wo.heap.size wo wr) (fun _ i _ => L.length - (intOf i).toNat)
      case atStart => exact ⟨0, rfl, by omega, ⟨[], Own.nil_ _ _ _, GoodT.nil, by simp⟩, Below.refl _ _⟩
      case round =>
        obtain ⟨n, rfl, hn, ⟨out, hO, hG, hol⟩, hB⟩ := hrel
        have HG := Lib.hid hG
        clear hG
        by_cases hlt : n < L.length
        · obtain ⟨AO, cO, rfl, hSO⟩ := hO.sl
          have HO := Lib.hid hO
          clear hO
          go_wp2_with fail
          obtain ⟨wp, rfl⟩ : ∃ wp : World, wp = wr := ⟨_, rfl⟩
          have hlen1 : L.length ≤ cL := hS.1
          have hlen2 : out.length ≤ cO := hSO.1
          go_loopw [7] (fun i2 wI => ∃ k : Nat, i2 = i64 k ∧ k ≤ out.length ∧ upFrom L[n] out k ∧ Below wp.heap.size wp wI) (fun i2 _ => (intOf i2).toNat)
          case atStart => exact ⟨out.length, rfl, by omega, fun j hj h => absurd h (by omega), Below.refl _ _⟩
          case round =>
            obtain ⟨k, rfl, hk, hup, hI⟩ := hrel
            have Hup := Lib.hid hup
            clear hup
            have hBI := hB.trans (hI.mono hB.size)
            obtain ⟨b1, o1, rfl, -, hsz, d0⟩ := (hS.later hBI).str hlt
            have n0 : (0 : Int) ≤ (n : Int) := by omega
            have n1 : (n : Int) < (L.length : Int) := by omega
            by_cases hk0 : 0 < k
            · obtain ⟨k, rfl⟩ : ∃ k', k = k' + 1 := ⟨k - 1, by omega⟩
              have hko : k < out.length := by omega
              obtain ⟨b2, o2, rfl, -, hsz2, d1⟩ := (hSO.later hI).str hko
              have g1 : decide ((0 : Int) < (k : Int) + 1) = true := decide_eq_true (by omega)
              have w1 : IntKind.i64.wrap (k : Int) = (k : Int) := by rw [IntKind.wrap_i64]; omega
              have k0 : (0 : Int) ≤ (k : Int) := by omega
              have k1 : (k : Int) < (out.length : Int) := by omega
              have Hsz := Lib.hid hsz
              have Hsz2 := Lib.hid hsz2
              clear hsz hsz2
              go_wp2
              refine wp_region_still_tail 12 (by kernel_rfl) (by kernel_rfl) ?_
              simp only [List.take_succ_cons, List.take_zero, List.drop_succ_cons, List.drop_zero]
              change wpStill _ _ (World.drew _) (fun a' => wpList _ _ _ _ a' (World.drew _)) _ _
              repeat still_step
              refine wpStill_nil ?_
              go_wp2_with fail
              have hbd := (Below.refl wr.heap.size wr).drew
              refine (rahead_c L[n] out[k] Hsz.out Hsz2.out _).mono ?_
              rintro e w5 ⟨rfl, hF⟩
              have hI5 := below_on (below_on hI (Nat.le_refl _) hbd) (Nat.le_refl _) hF
              clear hF hbd d0 d1 hI
              by_cases hbl : bless L[n] out[k] = true
              · rw [hbl]
                have Hbl := Lib.hid hbl
                clear hbl
                go_wp2
                go_roundw
                case rel => exact ⟨k, rfl, by omega, fun j hj hkj => by
                    by_cases e : j = k
                    · subst e; exact Hbl.out
                    · exact Hup.out j hj (by omega), hI5⟩
                case measure => simp [intOf] <;> omega
              · have hbl : bless L[n] out[k] = false := by simpa using hbl
                rw [hbl]
                have Hbl := Lib.hid hbl
                clear hbl
                go_wp2_with fail
                have hB5 := hB.trans (hI5.mono hB.size)
                obtain ⟨b3, o3, hA3, -, -, d0⟩ := (hS.later hB5).str hlt
                injection hA3 with hA3
                injection hA3 with hA4 hA5
                subst hA4 hA5
                obtain ⟨b4, o4, hA4, -, -, d1⟩ := (hSO.later hI5).str hko
                injection hA4 with hA4
                injection hA4 with hA5 hA6
                subst hA5 hA6
                have g2 : (((k : Int) + 1) == 0) = false := by rw [beq_eq_false_iff_ne]; omega
                by_cases hne : nonE L[n] = true
                · have g1 : L[n].toList.isEmpty = false := by simpa using hne
                  by_cases heq : out[k] = L[n]
                  · have g3 := bneS_of_eq heq
                    have p3 := beqS_of_eq heq
                    have Hs := Lib.hid (HG.out.skip (.inr (heq ▸ List.getElem_mem hko)))
                    clear hne heq
                    go_quiet (fail)
                    go_wp2
                    go_roundw
                    case rel => exact ⟨n + 1, by go_num, by omega, ⟨out, HO.out.later (below_drewN hI5 _), by rw [List.take_succ_eq_append_getElem hlt]; exact Hs.out, by omega⟩, below_drewN hB5 _⟩
                    case measure => simp [intOf] <;> omega
                  · have g3 := bneS_of_ne heq
                    have p3 := beqS_of_ne heq
                    have Hne := Lib.hid hne
                    have Heq := Lib.hid heq
                    clear hne heq
                    go_quiet (fail)
                    go_wp2_with fail
                    have HO6 := Lib.hid (HO.out.later (below_drewN hI5 nq))
                    have hB6 := below_drewN hB5 nq
                    have d0 := (World.cell?_drewN w5 nq _).trans d0
                    generalize w5.drewN nq = wq at *
                    have HS6 := Lib.hid (hS.later hB6)
                    have Hlo := Lib.hid (show 0 < k + 1 → ∀ (h : k + 1 - 1 < out.length), bless L[n] (out[k + 1 - 1]'h) = false ∧ out[k + 1 - 1]'h ≠ L[n] from fun _ h => ⟨Hbl.out, Heq.out⟩)
                    generalize out[k] = zz
                    clear d1 hS hSO hI5 hB5 hBI hB Hbl Heq hbl hko k0 k1 g2 g1 g3 p3 Hsz2 hk0 w1
                    rw [show ((k : Int) + 1) = ((k + 1 : Nat) : Int) from rfl]
                    generalize k + 1 = q at *
                    have q0 : (0 : Int) ≤ (q : Int) := by omega
                    have q1 : (q : Int) ≤ (cO : Int) := by omega
                    have q2 : (q : Int) ≤ (out.length : Int) := by omega
                    have q3 : (out.length : Int) ≤ (cO : Int) := by omega
                    have hs6 := HO6.out.sl_of
                    have hTk : ∀ V, Below wq.heap.size wq V → SlS V (Oth V (.slice none 0 0)) (some ⟨b2, o2, none⟩) cO (out.take q) := fun V h => ((hs6.later h).take q).keep (fun _ _ => rfl) (fun b hb => ⟨hb, by simp [Value.ownBlock]⟩)
                    have hDr : ∀ V, Below wq.heap.size wq V → Sl V wq.heap.size (if cO = q then some ⟨b2, o2, none⟩ else some ⟨b2, o2 + q, none⟩) (cO - q) (out.drop q) := fun V h => by
                      have := (hs6.drop hk).below h
                      have e1 : (⟨b2, o2, none⟩ : Addr).add (q * Enc.size ByteArray) = ⟨b2, o2 + q, none⟩ := by
                        rw [show Enc.size ByteArray = 1 from rfl, Nat.mul_one]
                        unfold Addr.add
                        split <;> simp_all
                      rwa [Option.map_some, e1] at this
                    have hLit := (own_lit (w := wq.drew) (base := wq.heap.size) 9 #[.string L[n]] [L[n]] (Nat.le_refl _) rfl (by simp) (by intro s hs; simp only [List.mem_cons, List.not_mem_nil, or_false] at hs; subst hs; exact Hsz.out)).sl_of
                    have Hql := Lib.hid (show q = (out.take q).length by rw [List.length_take]; omega)
                    have hSS : ∀ V, Below wq.heap.size wq V → (fun V : World => Below wq.heap.size wq V ∧ V.cell? ⟨b1, o1 + n, none⟩ = some (.string L[n])) V := fun V h => ⟨h, (h.cell (World.block_lt_of_cell? _ _ d0)).trans d0⟩
                    have hq0 := (Below.refl wq.heap.size wq).drew
                    clear hs6
                    go_region_held3 (fun V => Below wq.heap.size wq V ∧ V.cell? ⟨b1, o1 + n, none⟩ = some (.string L[n])) (first | exact hSS _ hq0 | exact hSS _ (by assumption) | exact hSS _ ((hq0.alloc (by simp) _)) | exact hSS _ (hb1.alloc hb1.size _))
                      (first
                        | (rw [if_pos (by rfl)]; refine oper_append (.const (.slice none 0 0)) (.tmp 76) 59 rfl (.string ByteArray.empty) 16 Tryz.underlying59 strInfo rfl Nat.one_pos (by decide) rfl (Own.nil_ _ _ 9) (some ⟨b2, o2, none⟩) q cO (out.take q) rfl Hql.out (hTk _ (by go_split_ands; assumption)) (by simp <;> omega) (Nat.le_refl _) ?_; intro v1 w1 hO1 hg1 hat1; rw [List.nil_append] at hO1; have hF1 := (Own.nil_ (α := ByteArray) _ _ 9).below hg1 (Nat.le_refl _) (Nat.le_refl _); have hb1 : Below wq.heap.size wq w1 := below_on (by go_split_ands; assumption) (Nat.le_refl _) hF1; clear hg1 hat1)
                        | (rw [if_pos (by rfl)]; refine oper_append_one (.tmp 77) (.tmp 82) 59 rfl (.string ByteArray.empty) 16 Tryz.underlying59 strInfo rfl Nat.one_pos (by decide) rfl (hO1.later ((Below.refl w1.heap.size w1).alloc (Nat.le_refl _) (.cells #[.string L[n]] 9))) w1.heap.size L[n] rfl _ 9 (heap_alloc_new w1 _) rfl (hO1.new_ne (Nat.le_refl _)) Hsz.out (by first | (rw [← Hql.out]; omega) | (simp; done) | (simp; omega)) (Nat.le_trans hb1.size (by simp)) ?_; intro v2 w2 hO2 hg2 hat2; have hb2 : Below wq.heap.size wq w2 := (hb1.alloc hb1.size _).trans ((hO1.later ((Below.refl w1.heap.size w1).alloc (Nat.le_refl _) (.cells #[.string L[n]] 9))).below hg2 (Nat.le_refl _) (Nat.le_trans hb1.size (by simp))); clear hg2 hat2 hO1 hF1 hb1)
                        | (rw [if_pos (by rfl)]; refine oper_append (.tmp 77) (.tmp 82) 59 rfl (.string ByteArray.empty) 16 Tryz.underlying59 strInfo rfl Nat.one_pos (by decide) rfl hO1 (some ⟨wq.drew.heap.size, 0, none⟩) 1 1 [L[n]] rfl rfl ((hLit.below hF1).mono (hO1.oth (Nat.le_refl _) hF1.size)) (by simp <;> omega) hF1.size ?_; intro v2 w2 hO2 hg2 hat2; have hb2 : Below wq.heap.size wq w2 := hb1.trans (hO1.below hg2 (by simp) hb1.size); clear hg2 hat2 hO1 hF1 hb1; have hO2 := hO2.mono (base' := wq.heap.size) (by simp))
                        | (rw [if_pos (by rfl)]; refine oper_append (.tmp 83) (.tmp 86) 59 rfl (.string ByteArray.empty) 16 Tryz.underlying59 strInfo rfl Nat.one_pos (by decide) rfl hO2 _ _ _ (out.drop q) rfl (List.length_drop ..).symm ((hDr _ hb2).mono (hO2.oth (Nat.le_refl _) hb2.size)) (by simp <;> omega) hb2.size ?_; intro v3 w3 hO3 hg3 hat3; have hb3 : Below wq.heap.size wq w3 := hb2.trans (hO2.below hg3 (Nat.le_refl _) hb2.size); clear hg3 hat3 hO2 hb2))
                    all_goals (
                      have hB7 := below_on hB6 (Nat.le_refl _) hb3
                      go_wp2
                      go_roundw
                      case rel => exact ⟨n + 1, by go_num, by omega, ⟨_, hO3.mono hB6.size, by rw [List.take_succ_eq_append_getElem hlt]; exact (HG.out.ins (k := q) hk Hup.out (fun h => Hlo.out h _) Hne.out), by simp <;> omega⟩, hB7⟩
                      case measure => simp [intOf] <;> omega)
                · have hne : nonE L[n] = false := by simpa using hne
                  have g1 : L[n].toList.isEmpty = true := by simpa using hne
                  have Hs := Lib.hid (HG.out.skip (.inl hne))
                  clear hne
                  go_quiet (fail)
                  go_wp2
                  go_roundw
                  case rel => exact ⟨n + 1, by go_num, by omega, ⟨out, HO.out.later (below_drewN hI5 _), by rw [List.take_succ_eq_append_getElem hlt]; exact Hs.out, by omega⟩, below_drewN hB5 _⟩
                  case measure => simp [intOf] <;> omega
            · obtain rfl : k = 0 := by omega
              have g0 : decide ((0 : Int) < 0) = false := by decide
              clear hsz d0 hk0
              go_wp2_with fail
              go_quiet (fail)
              have hI5 := below_drewN hI nq
              generalize wr.drewN nq = w5 at *
              clear hI hBI
              have hB5 := hB.trans (hI5.mono hB.size)
              obtain ⟨b3, o3, hA3, -, hsz, d0⟩ := (hS.later hB5).str hlt
              injection hA3 with hA3
              injection hA3 with hA4 hA5
              subst hA4 hA5
              have Hsz := Lib.hid hsz
              clear hsz
              go_wp2_with fail
              have g2 : ((0 : Int) == 0) = true := by decide
              by_cases hne : nonE L[n] = true
              · have g1 : L[n].toList.isEmpty = false := by simpa using hne
                have Hne := Lib.hid hne
                clear hne
                go_quiet (fail)
                go_wp2_with fail
                have HO6 := Lib.hid (HO.out.later (below_drewN hI5 nq))
                have hB6 := below_drewN hB5 nq
                have d0 := (World.cell?_drewN w5 nq _).trans d0
                generalize w5.drewN nq = wq at *
                have Hlo := Lib.hid (show 0 < 0 → ∀ (h : 0 - 1 < out.length), bless L[n] (out[0 - 1]'h) = false ∧ out[0 - 1]'h ≠ L[n] from fun h => absurd h (by omega))
                clear hS hSO hI5 hB5 hB g2 g1
                rcases HO6.out.1.2 with ⟨hv, -⟩ | ⟨g, cap, cur, hv, -⟩
                · injection hv with hv1 hv2 hv3
                  subst hv1 hv3
                  obtain rfl := List.length_eq_zero_iff.1 hv2
                  clear hv2
                  have hs6 := HO6.out.sl_of
                  have hTk : ∀ V, Below wq.heap.size wq V → SlS V (Oth V (.slice none 0 0)) none 0 ([] : List ByteArray) := fun V h => SlS.nil_ _ _
                  have hDr : ∀ V, Below wq.heap.size wq V → Sl V wq.heap.size none 0 ([] : List ByteArray) := fun V h => SlS.nil_ _ _
                  have hLit := (own_lit (w := wq.drew) (base := wq.heap.size) 9 #[.string L[n]] [L[n]] (Nat.le_refl _) rfl (by simp) (by intro s hs; simp only [List.mem_cons, List.not_mem_nil, or_false] at hs; subst hs; exact Hsz.out)).sl_of
                  have Hql := Lib.hid (show 0 = ([] : List ByteArray).length from rfl)
                  have hSS : ∀ V, Below wq.heap.size wq V → (fun V : World => Below wq.heap.size wq V ∧ V.cell? ⟨b1, o1 + n, none⟩ = some (.string L[n])) V := fun V h => ⟨h, (h.cell (World.block_lt_of_cell? _ _ d0)).trans d0⟩
                  have hq0 := (Below.refl wq.heap.size wq).drew
                  clear hs6
                  go_region_held3 (fun V => Below wq.heap.size wq V ∧ V.cell? ⟨b1, o1 + n, none⟩ = some (.string L[n])) (first | exact hSS _ hq0 | exact hSS _ (by assumption) | exact hSS _ ((hq0.alloc (by simp) _)) | exact hSS _ (hb1.alloc hb1.size _))
                    (first
                      | (rw [if_pos (by rfl)]; refine oper_append (.const (.slice none 0 0)) (.tmp 76) 59 rfl (.string ByteArray.empty) 16 Tryz.underlying59 strInfo rfl Nat.one_pos (by decide) rfl (Own.nil_ _ _ 9) none 0 0 [] rfl Hql.out (hTk _ (by go_split_ands; assumption)) (by simp <;> omega) (Nat.le_refl _) ?_; intro v1 w1 hO1 hg1 hat1; rw [List.nil_append] at hO1; have hF1 := (Own.nil_ (α := ByteArray) _ _ 9).below hg1 (Nat.le_refl _) (Nat.le_refl _); have hb1 : Below wq.heap.size wq w1 := below_on (by go_split_ands; assumption) (Nat.le_refl _) hF1; clear hg1 hat1)
                      | (rw [if_pos (by rfl)]; refine oper_append_one (.tmp 77) (.tmp 82) 59 rfl (.string ByteArray.empty) 16 Tryz.underlying59 strInfo rfl Nat.one_pos (by decide) rfl (hO1.later ((Below.refl w1.heap.size w1).alloc (Nat.le_refl _) (.cells #[.string L[n]] 9))) w1.heap.size L[n] rfl _ 9 (heap_alloc_new w1 _) rfl (hO1.new_ne (Nat.le_refl _)) Hsz.out (by first | (rw [← Hql.out]; omega) | (simp; done) | (simp; omega)) (Nat.le_trans hb1.size (by simp)) ?_; intro v2 w2 hO2 hg2 hat2; have hb2 : Below wq.heap.size wq w2 := (hb1.alloc hb1.size _).trans ((hO1.later ((Below.refl w1.heap.size w1).alloc (Nat.le_refl _) (.cells #[.string L[n]] 9))).below hg2 (Nat.le_refl _) (Nat.le_trans hb1.size (by simp))); clear hg2 hat2 hO1 hF1 hb1)
                      | (rw [if_pos (by rfl)]; refine oper_append (.tmp 77) (.tmp 82) 59 rfl (.string ByteArray.empty) 16 Tryz.underlying59 strInfo rfl Nat.one_pos (by decide) rfl hO1 (some ⟨wq.drew.heap.size, 0, none⟩) 1 1 [L[n]] rfl rfl ((hLit.below hF1).mono (hO1.oth (Nat.le_refl _) hF1.size)) (by simp <;> omega) hF1.size ?_; intro v2 w2 hO2 hg2 hat2; have hb2 : Below wq.heap.size wq w2 := hb1.trans (hO1.below hg2 (by simp) hb1.size); clear hg2 hat2 hO1 hF1 hb1; have hO2 := hO2.mono (base' := wq.heap.size) (by simp))
                      | (rw [if_pos (by rfl)]; refine oper_append (.tmp 83) (.tmp 86) 59 rfl (.string ByteArray.empty) 16 Tryz.underlying59 strInfo rfl Nat.one_pos (by decide) rfl hO2 _ _ _ [] rfl rfl ((hDr _ hb2).mono (hO2.oth (Nat.le_refl _) hb2.size)) (by simp <;> omega) hb2.size ?_; intro v3 w3 hO3 hg3 hat3; have hb3 : Below wq.heap.size wq w3 := hb2.trans (hO2.below hg3 (Nat.le_refl _) hb2.size); clear hg3 hat3 hO2 hb2))
                  all_goals (
                    have hB7 := below_on hB6 (Nat.le_refl _) hb3
                    go_wp2
                    go_roundw
                    case rel => exact ⟨n + 1, by go_num, by omega, ⟨_, hO3.mono hB6.size, by rw [List.take_succ_eq_append_getElem hlt]; exact (HG.out.ins (k := 0) (Nat.zero_le _) Hup.out (fun h => Hlo.out h _) Hne.out), by simp <;> omega⟩, hB7⟩
                    case measure => simp [intOf] <;> omega)
                · injection hv with hv1 hv2 hv3
                  subst hv1 hv3
                  clear hv2
                  have q1 : (0 : Int) ≤ (cO : Int) := by omega
                  have q2 : (0 : Int) ≤ (out.length : Int) := by omega
                  have q3 : (out.length : Int) ≤ (cO : Int) := by omega
                  have hs6 := HO6.out.sl_of
                  have hTk : ∀ V, Below wq.heap.size wq V → SlS V (Oth V (.slice none 0 0)) (some ⟨g, 0, none⟩) cO ([] : List ByteArray) := fun V h => ((hs6.later h).take 0).keep (fun _ _ => rfl) (fun b hb => ⟨hb, by simp [Value.ownBlock]⟩)
                  have hDr : ∀ V, Below wq.heap.size wq V → Sl V wq.heap.size (some ⟨g, 0, none⟩) cO out := fun V h => hs6.below h
                  have hLit := (own_lit (w := wq.drew) (base := wq.heap.size) 9 #[.string L[n]] [L[n]] (Nat.le_refl _) rfl (by simp) (by intro s hs; simp only [List.mem_cons, List.not_mem_nil, or_false] at hs; subst hs; exact Hsz.out)).sl_of
                  have Hql := Lib.hid (show 0 = ([] : List ByteArray).length from rfl)
                  have hSS : ∀ V, Below wq.heap.size wq V → (fun V : World => Below wq.heap.size wq V ∧ V.cell? ⟨b1, o1 + n, none⟩ = some (.string L[n])) V := fun V h => ⟨h, (h.cell (World.block_lt_of_cell? _ _ d0)).trans d0⟩
                  have hq0 := (Below.refl wq.heap.size wq).drew
                  clear hs6
                  go_region_held3 (fun V => Below wq.heap.size wq V ∧ V.cell? ⟨b1, o1 + n, none⟩ = some (.string L[n])) (first | exact hSS _ hq0 | exact hSS _ (by assumption) | exact hSS _ ((hq0.alloc (by simp) _)) | exact hSS _ (hb1.alloc hb1.size _))
                    (first
                      | (rw [if_pos (by rfl)]; refine oper_append (.const (.slice none 0 0)) (.tmp 76) 59 rfl (.string ByteArray.empty) 16 Tryz.underlying59 strInfo rfl Nat.one_pos (by decide) rfl (Own.nil_ _ _ 9) (some ⟨g, 0, none⟩) 0 cO [] rfl Hql.out (hTk _ (by go_split_ands; assumption)) (by simp <;> omega) (Nat.le_refl _) ?_; intro v1 w1 hO1 hg1 hat1; rw [List.nil_append] at hO1; have hF1 := (Own.nil_ (α := ByteArray) _ _ 9).below hg1 (Nat.le_refl _) (Nat.le_refl _); have hb1 : Below wq.heap.size wq w1 := below_on (by go_split_ands; assumption) (Nat.le_refl _) hF1; clear hg1 hat1)
                      | (rw [if_pos (by rfl)]; refine oper_append_one (.tmp 77) (.tmp 82) 59 rfl (.string ByteArray.empty) 16 Tryz.underlying59 strInfo rfl Nat.one_pos (by decide) rfl (hO1.later ((Below.refl w1.heap.size w1).alloc (Nat.le_refl _) (.cells #[.string L[n]] 9))) w1.heap.size L[n] rfl _ 9 (heap_alloc_new w1 _) rfl (hO1.new_ne (Nat.le_refl _)) Hsz.out (by first | (rw [← Hql.out]; omega) | (simp; done) | (simp; omega)) (Nat.le_trans hb1.size (by simp)) ?_; intro v2 w2 hO2 hg2 hat2; have hb2 : Below wq.heap.size wq w2 := (hb1.alloc hb1.size _).trans ((hO1.later ((Below.refl w1.heap.size w1).alloc (Nat.le_refl _) (.cells #[.string L[n]] 9))).below hg2 (Nat.le_refl _) (Nat.le_trans hb1.size (by simp))); clear hg2 hat2 hO1 hF1 hb1)
                      | (rw [if_pos (by rfl)]; refine oper_append (.tmp 77) (.tmp 82) 59 rfl (.string ByteArray.empty) 16 Tryz.underlying59 strInfo rfl Nat.one_pos (by decide) rfl hO1 (some ⟨wq.drew.heap.size, 0, none⟩) 1 1 [L[n]] rfl rfl ((hLit.below hF1).mono (hO1.oth (Nat.le_refl _) hF1.size)) (by simp <;> omega) hF1.size ?_; intro v2 w2 hO2 hg2 hat2; have hb2 : Below wq.heap.size wq w2 := hb1.trans (hO1.below hg2 (by simp) hb1.size); clear hg2 hat2 hO1 hF1 hb1; have hO2 := hO2.mono (base' := wq.heap.size) (by simp))
                      | (rw [if_pos (by rfl)]; refine oper_append (.tmp 83) (.tmp 86) 59 rfl (.string ByteArray.empty) 16 Tryz.underlying59 strInfo rfl Nat.one_pos (by decide) rfl hO2 _ _ _ out rfl rfl ((hDr _ hb2).mono (hO2.oth (Nat.le_refl _) hb2.size)) (by simp <;> omega) hb2.size ?_; intro v3 w3 hO3 hg3 hat3; have hb3 : Below wq.heap.size wq w3 := hb2.trans (hO2.below hg3 (Nat.le_refl _) hb2.size); clear hg3 hat3 hO2 hb2))
                  all_goals (
                    have hB7 := below_on hB6 (Nat.le_refl _) hb3
                    go_wp2
                    go_roundw
                    case rel => exact ⟨n + 1, by go_num, by omega, ⟨_, hO3.mono hB6.size, by rw [List.take_succ_eq_append_getElem hlt]; exact (HG.out.ins (k := 0) (Nat.zero_le _) Hup.out (fun h => Hlo.out h _) Hne.out), by simp <;> omega⟩, hB7⟩
                    case measure => simp [intOf] <;> omega)
              · have hne : nonE L[n] = false := by simpa using hne
                have g1 : L[n].toList.isEmpty = true := by simpa using hne
                have Hs := Lib.hid (HG.out.skip (.inl hne))
                clear hne
                go_quiet (fail)
                go_wp2
                go_roundw
                case rel => exact ⟨n + 1, by go_num, by omega, ⟨out, HO.out.later (below_drewN hI5 _), by rw [List.take_succ_eq_append_getElem hlt]; exact Hs.out, by omega⟩, below_drewN hB5 _⟩
                case measure => simp [intOf] <;> omega
        · obtain rfl : n = L.length := by omega
          have ho := HT.out out (by have := HG.out; rwa [List.take_length] at this)
          have Ho := Lib.hid ho
          clear ho
          go_wp2
          go_ret
          exact ⟨_, rfl, by rw [← Ho.out]; exact hO.mono hb.size, hb.trans (hB.mono hb.size)⟩
end Go.Proofs.YtdkkblhfjblpkaaGreat
