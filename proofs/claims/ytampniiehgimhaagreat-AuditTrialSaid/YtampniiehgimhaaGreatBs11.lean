/- Texts of this claim, laid together. -/
import Derived.Test.YtampniiehgimhaaGreatRows
import Derived.Test.YtampniiehgimhaaGreatBs1
import Derived.Deep.Slices
import Derived.ProofKit
import Derived.OpenShut
import Derived.ChangeOld
import Derived.WalkKit
import Derived.WalkSpells
import Derived.WalkLawsBesides
import Derived.Deep.QuietTactic
import Derived.BigQuiet
import Derived.Laws.StructEq
import Derived.Deep.DeepFit
import Derived.StillTailTactics
import Derived.Test.YtampniiehgimhaaGreatBs10
import Derived.Test.YtampniiehgimhaaGreatBs4
import Derived.Test.YtampniiehgimhaaGreatBs5
import Derived.Test.YtampniiehgimhaaGreatBs7

/- Arguments as data: an int, a text, a slice, as the statement reads them -/
namespace Go.Proofs.YtampniiehgimhaaGreat
open Go.RowKit
open Go.ChangeShapes Go.WideShapes Go.Deep
set_option maxRecDepth 100000 in
set_option maxHeartbeats 1000000 in
theorem list_choose {α : Type} {Q : Nat → α → Prop} : ∀ n, (∀ i, i < n → ∃ y, Q i y) → ∃ l : List α, l.length = n ∧ ∀ i (h : i < l.length), Q i l[i]
 | 0, _ => ⟨[], rfl, fun i h => absurd h (by simp)⟩
 | n + 1, h => by
  obtain ⟨l, hl, hq⟩ := list_choose n (fun i hi => h i (by omega))
  obtain ⟨y, hy⟩ := h n (by omega)
  refine ⟨l ++ [y], by simp [hl], fun i hi => ?_⟩
  rw [List.getElem_append]
  by_cases h1 : i < l.length
  ·rw [dif_pos h1]; exact hq i h1
  ·have : i = n := by simp only [List.length_append, List.length_singleton] at hi; omega
   subst this
   rw [dif_neg h1]
   simpa [hl] using hy
set_option maxRecDepth 100000 in
set_option maxHeartbeats 1000000 in
theorem add_none (b o n : Nat) : (⟨b, o, none⟩ : Addr).add n = ⟨b, o + n, none⟩ := by
 unfold Addr.add
 split
 ·rename_i h
  subst h
  rfl
 ·rfl
set_option maxRecDepth 100000 in
set_option maxHeartbeats 1000000 in
theorem add_zero_ (a : Addr) : a.add 0 = a := by unfold Addr.add; rw [if_pos rfl]
section
variable {α : Type} [Enc α] {P : Program}
end
end Go.Proofs.YtampniiehgimhaaGreat
/- book: Accts, Holds, Closed, Copy, Same -/
namespace Go.Proofs.YtampniiehgimhaaGreat
open Go.RowKit
theorem SlS.acc {w : World} {S : Nat → Prop} {c : Nat} {A : Option Addr} {l : List Ac} (h : SlS w S A c l) {k : Nat} (hk : k < l.length) : ∃ b o, A = some ⟨b, o, none⟩ ∧ S b ∧ l[k].name.size ≤ maxLen ∧
  w.cell? ⟨b, o + k * 4, none⟩ = some (.string l[k].name) ∧ w.cell? ⟨b, o + k * 4 + 1, none⟩ = some (i64 l[k].hav) ∧ w.cell? ⟨b, o + k * 4 + 2, none⟩ = some (i64 l[k].set_) ∧ w.cell? ⟨b, o + k * 4 + 3, none⟩ = some (i64 l[k].lim) := by
 obtain ⟨b, o, hA, hb, hok, hc⟩ := h.at_ hk
 exact ⟨b, o, hA, hb, hok, hc 0 _ rfl, hc 1 _ rfl, hc 2 _ rfl, hc 3 _ rfl⟩
theorem neq_acB (a b : Ac) (w : World) : (binOp .neq 140 (.agg #[.string a.name, i64 a.hav, i64 a.set_, i64 a.lim]) (.agg #[.string b.name, i64 b.hav, i64 b.set_, i64 b.lim])).run Tryz.prog w = .ok (.bool (!decide (a = b))) w := by
 have u3 := Tryz.underlying2
 have a3 := Tryz.isAgg2
 have z3 := Tryz.sizeOf2
 have u9 := Tryz.underlying9
 have a9 := Tryz.isAgg9
 have z9 := Tryz.sizeOf9
 have hS : Tryz.prog.underlying 140 = some (.struct (Tryz.prog.fieldsOf 140)) := by kernel_rfl
 have hp : Tryz.prog.stoodInHeld 140 = false := by kernel_rfl
 rw [run_neq_struct, show (10000 : Nat) = 9999 + 1 from rfl, run_equalIn_agg w 9999 140 _ _ hS hp]
 simp only [Program.fieldsOf, Tryz.underlying140]
 go_simp
 by_cases h1 : a.name = b.name
 ·have t1 := beqS_of_eq h1
  by_cases h2 : a.hav = b.hav
  ·by_cases h3 : a.set_ = b.set_
   ·by_cases h4 : a.lim = b.lim
    ·rw [decide_eq_true (Ac.ext_ h1 h2 h3 h4)]; simp [h1, h2, h3, h4]
    ·rw [decide_eq_false (fun e => h4 (by rw [e]))]; simp [h1, h2, h3, h4]
   ·rw [decide_eq_false (fun e => h3 (by rw [e]))]; simp [h1, h2, h3]
  ·rw [decide_eq_false (fun e => h2 (by rw [e]))]; simp [h1, h2]
 ·have t1 := beqS_of_ne h1
  have t2 : ¬ a.name.toList = b.name.toList := by simpa using t1
  rw [decide_eq_false (fun e => h1 (by rw [e]))]; simp [t2]
theorem neq_hdB (a b : Held) (w : World) : (binOp .neq 145 (.agg #[i64 a.num, .string a.acct, i64 a.sum]) (.agg #[i64 b.num, .string b.acct, i64 b.sum])).run Tryz.prog w = .ok (.bool (!decide (a = b))) w := by
 have u3 := Tryz.underlying2
 have a3 := Tryz.isAgg2
 have z3 := Tryz.sizeOf2
 have u4 := Tryz.underlying3
 have a4 := Tryz.isAgg3
 have z4 := Tryz.sizeOf3
 have u9 := Tryz.underlying9
 have a9 := Tryz.isAgg9
 have z9 := Tryz.sizeOf9
 have hS : Tryz.prog.underlying 145 = some (.struct (Tryz.prog.fieldsOf 145)) := by kernel_rfl
 have hp : Tryz.prog.stoodInHeld 145 = false := by kernel_rfl
 rw [run_neq_struct, show (10000 : Nat) = 9999 + 1 from rfl, run_equalIn_agg w 9999 145 _ _ hS hp]
 simp only [Program.fieldsOf, Tryz.underlying145]
 go_simp
 by_cases h1 : a.num = b.num
 ·by_cases h2 : a.acct = b.acct
  ·by_cases h3 : a.sum = b.sum
   ·rw [decide_eq_true (Held.ext_ h1 h2 h3)]; simp [h1, h2, h3]
   ·rw [decide_eq_false (fun e => h3 (by rw [e]))]; simp [h1, h2, h3]
  ·have t1 := beqS_of_ne h2
   have t2 : ¬ a.acct.toList = b.acct.toList := by simpa using t1
   rw [decide_eq_false (fun e => h2 (by rw [e]))]; simp [h1, t2]
 ·rw [decide_eq_false (fun e => h1 (by rw [e]))]; simp [h1]
set_option maxRecDepth 100000 in
set_option maxHeartbeats 800000 in
theorem equal_ac (A C : Option Addr) (c d : Nat) (l m : List Ac) (w : World) (h : Sl w w.heap.size A c l) (k : Sl w w.heap.size C d m) (hl : l.length ≤ 65536) (hm : m.length ≤ 65536) :
  Calls Tryz.prog 70 #[.slice A l.length c, .slice C m.length d] w fun e w' => e = .returned (.bool (decide (l = m))) ∧ ∃ n, w.drewN n = w' := by
 by_cases hlm : l.length = m.length
 ·have hne : ((l.length : Int) != (m.length : Int)) = false := by rw [hlm]; simp
  have HL := Lib.hid hlm
  clear hlm
  go_enter Tryz.func70, Tryz.ntmps70
  go_wp2
  go_loopw [13] (fun i wr => ∃ (j n : Nat), i = i64 j ∧ j ≤ l.length ∧ l.take j = m.take j ∧ wr = w.drewN n) (fun i _ => l.length - (intOf i).toNat)
  case atStart => exact ⟨0, 0, rfl, by omega, rfl, rfl⟩
  case round =>
   obtain ⟨j, n, rfl, hj, ht, rfl⟩ := hrel
   have HT := Lib.hid ht
   clear ht
   by_cases hlt : j < l.length
   ·have hltm : j < m.length := by have := HL.out; omega
    obtain ⟨b, o, rfl, hb, -, c0, c1, c2, c3⟩ := h.acc hlt
    obtain ⟨b', o', rfl, hb', -, c0', c1', c2', c3'⟩ := k.acc hltm
    have he : ∀ W : World, (binOp .neq 140 (.agg #[.string l[j].name, i64 l[j].hav, i64 l[j].set_, i64 l[j].lim]) (.agg #[.string m[j].name, i64 m[j].hav, i64 m[j].set_, i64 m[j].lim])).run Tryz.prog W = .ok (.bool (!decide (l[j] = m[j]))) W := neq_acB _ _
    by_cases heq : l[j] = m[j]
    ·simp only [decide_eq_true heq, Bool.not_true] at he
     have Heq := Lib.hid heq
     clear heq
     go_wp2
     go_quiet (fail)
     go_wp2
     go_roundw
     case rel => exact ⟨j + 1, n + _, by go_num, by omega, by rw [List.take_succ_eq_append_getElem hlt, List.take_succ_eq_append_getElem hltm, HT.out, Heq.out], rfl⟩
     case measure => simp [intOf]; omega
    ·simp only [decide_eq_false heq, Bool.not_false] at he
     have Heq := Lib.hid heq
     clear heq
     go_wp2
     go_quiet (fail)
     go_wp2
     go_ret
     refine ⟨?_, _, (World.drewN_drewN _ _ _).symm⟩
     rw [decide_eq_false (show ¬ l = m from fun e => Heq.out (by subst e; rfl))]
     rfl
   ·have hjl : j = l.length := by omega
    subst hjl
    go_wp2
    go_ret
    refine ⟨?_, _, rfl⟩
    rw [decide_eq_true (show l = m by
     have := HT.out
     rwa [List.take_length, List.take_of_length_le (by have := HL.out; omega)] at this)]
    rfl
 ·have hne : ((l.length : Int) != (m.length : Int)) = true := by rw [bne_iff_ne]; omega
  have HL := Lib.hid hlm
  clear hlm
  go_enter Tryz.func70, Tryz.ntmps70
  go_wp2
  go_ret
  refine ⟨?_, 0, rfl⟩
  rw [decide_eq_false (show ¬ l = m from fun e => HL.out (by rw [e]))]
  rfl
set_option maxRecDepth 100000 in
set_option maxHeartbeats 800000 in
theorem equal_hd (A C : Option Addr) (c d : Nat) (l m : List Held) (w : World) (h : Sl w w.heap.size A c l) (k : Sl w w.heap.size C d m) (hl : l.length ≤ 65536) (hm : m.length ≤ 65536) :
  Calls Tryz.prog 71 #[.slice A l.length c, .slice C m.length d] w fun e w' => e = .returned (.bool (decide (l = m))) ∧ ∃ n, w.drewN n = w' := by
 by_cases hlm : l.length = m.length
 ·have hne : ((l.length : Int) != (m.length : Int)) = false := by rw [hlm]; simp
  have HL := Lib.hid hlm
  clear hlm
  go_enter Tryz.func71, Tryz.ntmps71
  go_wp2
  go_loopw [13] (fun i wr => ∃ (j n : Nat), i = i64 j ∧ j ≤ l.length ∧ l.take j = m.take j ∧ wr = w.drewN n) (fun i _ => l.length - (intOf i).toNat)
  case atStart => exact ⟨0, 0, rfl, by omega, rfl, rfl⟩
  case round =>
   obtain ⟨j, n, rfl, hj, ht, rfl⟩ := hrel
   have HT := Lib.hid ht
   clear ht
   by_cases hlt : j < l.length
   ·have hltm : j < m.length := by have := HL.out; omega
    obtain ⟨b, o, rfl, hb, -, c0, c1, c2⟩ := h.held hlt
    obtain ⟨b', o', rfl, hb', -, c0', c1', c2'⟩ := k.held hltm
    have he : ∀ W : World, (binOp .neq 145 (.agg #[i64 l[j].num, .string l[j].acct, i64 l[j].sum]) (.agg #[i64 m[j].num, .string m[j].acct, i64 m[j].sum])).run Tryz.prog W = .ok (.bool (!decide (l[j] = m[j]))) W := neq_hdB _ _
    by_cases heq : l[j] = m[j]
    ·simp only [decide_eq_true heq, Bool.not_true] at he
     have Heq := Lib.hid heq
     clear heq
     go_wp2
     go_quiet (fail)
     go_wp2
     go_roundw
     case rel => exact ⟨j + 1, n + _, by go_num, by omega, by rw [List.take_succ_eq_append_getElem hlt, List.take_succ_eq_append_getElem hltm, HT.out, Heq.out], rfl⟩
     case measure => simp [intOf]; omega
    ·simp only [decide_eq_false heq, Bool.not_false] at he
     have Heq := Lib.hid heq
     clear heq
     go_wp2
     go_quiet (fail)
     go_wp2
     go_ret
     refine ⟨?_, _, (World.drewN_drewN _ _ _).symm⟩
     rw [decide_eq_false (show ¬ l = m from fun e => Heq.out (by subst e; rfl))]
     rfl
   ·have hjl : j = l.length := by omega
    subst hjl
    go_wp2
    go_ret
    refine ⟨?_, _, rfl⟩
    rw [decide_eq_true (show l = m by
     have := HT.out
     rwa [List.take_length, List.take_of_length_le (by have := HL.out; omega)] at this)]
    rfl
 ·have hne : ((l.length : Int) != (m.length : Int)) = true := by rw [bne_iff_ne]; omega
  have HL := Lib.hid hlm
  clear hlm
  go_enter Tryz.func71, Tryz.ntmps71
  go_wp2
  go_ret
  refine ⟨?_, 0, rfl⟩
  rw [decide_eq_false (show ¬ l = m from fun e => HL.out (by rw [e]))]
  rfl
set_option maxRecDepth 100000 in
set_option maxHeartbeats 2000000 in
theorem baccts_c (a : BA) (B : Bk) (w : World) (h : BkA w a B) (hI : InvB B) : Calls Tryz.prog 54 #[a.ptr] w fun e w' => ∃ v, e = .returned v ∧ Own w' w.heap.size 140 v B.L ∧ Below w.heap.size w w' := by
 have hA := Lib.hid (challA_c a.g a.b B.L w h.ch hI.inv.okA (Nat.le_trans hI.len (by decide)))
 have p0 := cell_of_row _ a.p 0 _ _ (0, 0) h.cell
 simp only [List.getElem?_toArray, List.getElem?_cons_zero] at p0
 go_enter Tryz.func54, Tryz.ntmps54
 go_wp2_with fail
 refine hA.out.mono ?_
 rintro e w1 ⟨v, rfl, hO, hF⟩
 have HO := Lib.hid hO
 have HF := Lib.hid hF
 clear hO hF
 go_wp2
 go_ret
 exact ⟨v, rfl, HO.out, HF.out⟩
set_option maxRecDepth 100000 in
set_option maxHeartbeats 2000000 in
theorem bholds_c (a : BA) (B : Bk) (w : World) (h : BkA w a B) (hI : InvB B) : Calls Tryz.prog 55 #[a.ptr] w fun e w' => ∃ v, e = .returned v ∧ Own w' w.heap.size 145 v B.H ∧ Below w.heap.size w w' := by
 have hA := Lib.hid (hoall_c a.gh a.bh B.H w h.ho hI.inv.okH (Nat.le_trans hI.lenH (by decide)))
 have p1 := cell_of_row _ a.p 1 _ _ (0, 0) h.cell
 simp only [List.getElem?_toArray, List.getElem?_cons_zero, List.getElem?_cons_succ] at p1
 go_enter Tryz.func55, Tryz.ntmps55
 go_wp2_with fail
 refine hA.out.mono ?_
 rintro e w1 ⟨v, rfl, hO, hF⟩
 have HO := Lib.hid hO
 have HF := Lib.hid hF
 clear hO hF
 go_wp2
 go_ret
 exact ⟨v, rfl, HO.out, HF.out⟩
theorem hocopyB_c (g b : Nat) (H : List Held) (w : World) (h : HoA w g b H) :
  Calls Tryz.prog 101 #[.pointer (some ⟨g, 0, none⟩)] w fun e w' => ∃ g' b', e = .returned (.pointer (some ⟨g', 0, none⟩)) ∧ HoA w' g' b' H ∧ w.heap.size ≤ g' ∧ w.heap.size ≤ b' ∧ Below w.heap.size w w' := by
 obtain ⟨M, h, hr⟩ := h
 exact (hocopy_c g b M w h).mono fun _ _ ⟨g', b', h1, h2, h3⟩ => ⟨g', b', h1, ⟨M, h2, hr⟩, h3⟩
set_option maxRecDepth 100000 in
set_option maxHeartbeats 4000000 in
theorem bcopy_c (a : BA) (B : Bk) (w : World) (h : BkA w a B) : Calls Tryz.prog 56 #[a.ptr] w fun e w' => ∃ c : BA, e = .returned c.ptr ∧ BkA w' c B ∧ (∀ k, c.all k → w.heap.size ≤ k) ∧ Below w.heap.size w w' := by
 have HC := Lib.hid (fun (W : World) (hW : BkA W a B) => chcopyA_c a.g a.b B.L W hW.ch)
 have HH := Lib.hid (fun (W : World) (hW : BkA W a B) => hocopyB_c a.gh a.bh B.H W hW.ho)
 have HSS := Lib.hid (show ∀ V, Below w.heap.size w V → (fun V : World => V.cell? ⟨a.p, 0, none⟩ = some (.pointer (some ⟨a.g, 0, none⟩)) ∧ V.cell? ⟨a.p, 1, none⟩ = some (.pointer (some ⟨a.gh, 0, none⟩)) ∧ V.cell? ⟨a.p, 2, none⟩ = some (i64 B.cl)) V from fun V hb => by
  have hc := (h.later hb).cell
  exact ⟨cell_of_row _ a.p 0 _ _ (0, 0) hc, cell_of_row _ a.p 1 _ _ (0, 0) hc, cell_of_row _ a.p 2 _ _ (0, 0) hc⟩)
 have H := Lib.hid h
 have hb := (Below.refl w.heap.size w).drew
 clear h
 go_enter Tryz.func56, Tryz.ntmps56
 go_wp2_with fail
 refine wp_region_noPanic ?_
 refine wp_region_l 16 (fun V : World => V.cell? ⟨a.p, 0, none⟩ = some (.pointer (some ⟨a.g, 0, none⟩)) ∧ V.cell? ⟨a.p, 1, none⟩ = some (.pointer (some ⟨a.gh, 0, none⟩)) ∧ V.cell? ⟨a.p, 2, none⟩ = some (i64 B.cl)) (by kernel_rfl) (HSS.out _ hb) (fun hH => ?_)
 refine tkZ 0 ?_; refine tkZ 1 ?_; refine tkZ 2 ?_; refine tkZ 3 ?_; refine tkZ 5 ?_; refine tkZ 6 ?_; refine tkZ 7 ?_; refine tkZ 8 ?_; refine tkZ 10 ?_; refine tkZ 11 ?_; refine tkZ 12 ?_; refine tkZ 13 ?_
 refine tkO 4 (fun K hK => ?_)
 go_simp
 refine (HC.out _ (H.out.later hb)).mono ?_
 rintro e w1 ⟨g1, b1, rfl, hc1, hg1, hb1, hF⟩
 have hb := hb.trans (hF.mono hb.size)
 clear hF
 refine hK.out _ _ (HSS.out _ hb) (fun hH => ?_)
 clear hK K
 try simp only [Act.put, uA, uZ, uS, vA, vZ, vS]
 refine tkO 9 (fun K hK => ?_)
 go_simp
 refine (HH.out _ (H.out.later hb)).mono ?_
 rintro e w2 ⟨g2, b2, rfl, hh2, hg2, hb2, hF⟩
 have hc2 := hc1.later hF
 have hz := hF.size
 have hl1 := hc1.lt
 have hb := hb.trans (hF.mono hb.size)
 clear hF hc1
 refine hK.out _ _ (HSS.out _ hb) (fun hH => ?_)
 clear hK K
 try simp only [Act.put, uA, uZ, uS, vA, vZ, vS]
 refine tkZ 14 ?_
 refine tkO 15 (fun K hK => ?_)
 go_simp
 have hba := (Below.refl w2.heap.size w2).alloc (Nat.le_refl _) (.cells #[.pointer (some ⟨g1, 0, none⟩), .pointer (some ⟨g2, 0, none⟩), i64 B.cl] 118)
 have hl2 := hh2.lt
 have hw0 : w.heap.size ≤ w.drew.heap.size := Nat.le_refl _
 have hA : BkA (w2.alloc (.cells #[.pointer (some ⟨g1, 0, none⟩), .pointer (some ⟨g2, 0, none⟩), i64 B.cl] 118)) ⟨w2.heap.size, g1, b1, g2, b2⟩ B := ⟨heap_alloc_new w2 _, hc2.later hba, hh2.later hba, ⟨by show w2.heap.size ≠ g1; omega, by show w2.heap.size ≠ b1; omega, by show w2.heap.size ≠ g2; omega, by show w2.heap.size ≠ b2; omega, by show g2 ≠ b1; omega, by show b2 ≠ b1; omega, by show g1 ≠ b2; omega⟩⟩
 have hbw := hb.size
 have hall : ∀ k, (⟨w2.heap.size, g1, b1, g2, b2⟩ : BA).all k → w.heap.size ≤ k := fun k hk => by
  have hk : k = w2.heap.size ∨ k = g1 ∨ k = b1 ∨ k = g2 ∨ k = b2 := hk
  have hd : w.drew.heap.size = w.heap.size := rfl
  omega
 have HA := Lib.hid hA
 have Hall := Lib.hid hall
 have hb := hb.alloc hbw (.cells #[.pointer (some ⟨g1, 0, none⟩), .pointer (some ⟨g2, 0, none⟩), i64 B.cl] 118)
 clear hA hall hba
 refine hK.out _ _ (HSS.out _ hb) (fun hH => ?_)
 clear hK K
 try simp only [Act.put, uA, uZ, uS, vA, vZ, vS]
 refine tkL (fun K hK => ?_)
 go_simp
 refine hK.out _ _ ?_
 clear hK K
 try simp only [Act.put, uA, uZ, uS, vA, vZ, vS]
 refine tkD ?_
 go_wp2
 go_ret
 exact ⟨_, rfl, HA.out, Hall.out, hb⟩
def sameBk (B C : Bk) : Bool := decide (B.L = C.L) && (decide (B.H = C.H) && decide (B.cl = C.cl))
theorem sameBk_iff {B C : Bk} : sameBk B C = true ↔ B = C := by
 unfold sameBk
 simp only [Bool.and_eq_true, decide_eq_true_eq]
 exact ⟨fun h => Bk.ext_ h.1 h.2.1 h.2.2, fun e => by rw [e]; exact ⟨rfl, rfl, rfl⟩⟩
theorem sameBk_refl (B : Bk) : sameBk B B = true := sameBk_iff.2 rfl
set_option maxRecDepth 100000 in
set_option maxHeartbeats 8000000 in
theorem bsame_c (a c : BA) (B C : Bk) (w : World) (h : BkA w a B) (k : BkA w c C) (hI : InvB B) (kI : InvB C) : Calls Tryz.prog 18 #[a.ptr, c.ptr] w fun e w' => e = .returned (.bool (sameBk B C)) ∧ Below w.heap.size w w' := by
 have HA := Lib.hid (fun (W : World) (hW : BkA W a B) => baccts_c a B W hW hI)
 have HA2 := Lib.hid (fun (W : World) (hW : BkA W c C) => baccts_c c C W hW kI)
 have HH := Lib.hid (fun (W : World) (hW : BkA W a B) => bholds_c a B W hW hI)
 have HH2 := Lib.hid (fun (W : World) (hW : BkA W c C) => bholds_c c C W hW kI)
 have HSS := Lib.hid (show ∀ V, Below w.heap.size w V → (fun V : World => V.cell? ⟨a.p, 2, none⟩ = some (i64 B.cl) ∧ V.cell? ⟨c.p, 2, none⟩ = some (i64 C.cl)) V from fun V hb => ⟨cell_of_row _ a.p 2 _ _ (0, 0) (h.later hb).cell, cell_of_row _ c.p 2 _ _ (0, 0) (k.later hb).cell⟩)
 have H := Lib.hid h
 have HKc := Lib.hid k
 have HL := Lib.hid (show B.L.length ≤ 65536 ∧ C.L.length ≤ 65536 ∧ B.H.length ≤ 65536 ∧ C.H.length ≤ 65536 from ⟨Nat.le_trans hI.len (by decide), Nat.le_trans kI.len (by decide), Nat.le_trans hI.lenH (by decide), Nat.le_trans kI.lenH (by decide)⟩)
 have hb := (Below.refl w.heap.size w).drew
 have HD := Lib.hid (show sameBk B C = (decide (B.L = C.L) && (decide (B.H = C.H) && decide (B.cl = C.cl))) from rfl)
 obtain ⟨R, hR⟩ : ∃ R, sameBk B C = R := ⟨_, rfl⟩
 rw [hR] at HD ⊢
 clear h k hI kI hR
 have HE := Lib.hid (fun (A1 A2 : Option Addr) (c1 c2 : Nat) (W : World) (h1 : Sl W W.heap.size A1 c1 B.L) (h2 : Sl W W.heap.size A2 c2 C.L) => equal_ac A1 A2 c1 c2 B.L C.L W h1 h2 HL.out.1 HL.out.2.1)
 have HE2 := Lib.hid (fun (A1 A2 : Option Addr) (c1 c2 : Nat) (W : World) (h1 : Sl W W.heap.size A1 c1 B.H) (h2 : Sl W W.heap.size A2 c2 C.H) => equal_hd A1 A2 c1 c2 B.H C.H W h1 h2 HL.out.2.2.1 HL.out.2.2.2)
 generalize decide (B.L = C.L) = qa at *
 generalize decide (B.H = C.H) = qh at *
 generalize hqc : decide (B.cl = C.cl) = qc at *
 have hqc2 : (B.cl == C.cl) = qc := by rw [← hqc]; rfl
 clear hqc
 cases qa with
 | false =>
  have HR := Lib.hid (show R = false from HD.out)
  clear HD
  go_enter Tryz.func18, Tryz.ntmps18
  go_wp2_with fail
  refine wp_region_noPanic ?_
  refine wp_region_l 23 (fun V : World => V.cell? ⟨a.p, 2, none⟩ = some (i64 B.cl) ∧ V.cell? ⟨c.p, 2, none⟩ = some (i64 C.cl)) (by kernel_rfl) (HSS.out _ hb) (fun hH => ?_)
  refine tkZ 0 ?_; refine tkZ 2 ?_
  refine tkO 1 (fun K hK => ?_)
  go_simp
  refine (HA.out _ (H.out.later hb)).mono ?_
  rintro e u1 ⟨v1, rfl, hO1, hF⟩
  obtain ⟨A1, c1, rfl, s1⟩ := hO1.sl
  have hb := hb.trans (hF.mono hb.size)
  clear hF hO1
  refine hK.out _ _ (HSS.out _ hb) (fun hH => ?_)
  clear hK K
  try simp only [Act.put, uA, uZ, uS, vA, vZ, vS]
  refine tkO 3 (fun K hK => ?_)
  go_simp
  refine (HA2.out _ (HKc.out.later hb)).mono ?_
  rintro e u2 ⟨v2, rfl, hO2, hF⟩
  obtain ⟨A2, c2, rfl, s2⟩ := hO2.sl
  have s1 := s1.later hF
  have hb := hb.trans (hF.mono hb.size)
  clear hF hO2
  refine hK.out _ _ (HSS.out _ hb) (fun hH => ?_)
  clear hK K
  try simp only [Act.put, uA, uZ, uS, vA, vZ, vS]
  refine tkO 4 (fun K hK => ?_)
  go_simp
  refine (HE.out A1 A2 c1 c2 _ s1 s2).mono ?_
  rintro e u3 ⟨rfl, nq, rfl⟩
  have hb := below_drewN hb nq
  clear s1 s2
  refine hK.out _ _ (HSS.out _ hb) (fun hH => ?_)
  clear hK K
  try simp only [Act.put, uA, uZ, uS, vA, vZ, vS]
  refine tkZ 5 ?_; refine tkM 6 ?_; refine tkM 7 ?_; refine tkM 8 ?_; refine tkM 9 ?_; refine tkM 10 ?_; refine tkZ 11 ?_; refine tkZ 12 ?_; refine tkM 13 ?_; refine tkM 14 ?_; refine tkM 15 ?_; refine tkM 16 ?_; refine tkM 17 ?_; refine tkM 18 ?_; refine tkM 19 ?_; refine tkM 20 ?_; refine tkM 21 ?_; refine tkZ 22 ?_
  refine tkL (fun K hK => ?_)
  go_simp
  refine hK.out _ _ ?_
  clear hK K
  try simp only [Act.put, uA, uZ, uS, vA, vZ, vS]
  refine tkD ?_
  go_wp2
  go_ret
  exact ⟨by rw [HR.out] <;> rfl, hb⟩
 | true =>
  cases qh with
  | false =>
   have HR := Lib.hid (show R = false from HD.out)
   clear HD
   go_enter Tryz.func18, Tryz.ntmps18
   go_wp2_with fail
   refine wp_region_noPanic ?_
   refine wp_region_l 23 (fun V : World => V.cell? ⟨a.p, 2, none⟩ = some (i64 B.cl) ∧ V.cell? ⟨c.p, 2, none⟩ = some (i64 C.cl)) (by kernel_rfl) (HSS.out _ hb) (fun hH => ?_)
   refine tkZ 0 ?_; refine tkZ 2 ?_
   refine tkO 1 (fun K hK => ?_)
   go_simp
   refine (HA.out _ (H.out.later hb)).mono ?_
   rintro e u1 ⟨v1, rfl, hO1, hF⟩
   obtain ⟨A1, c1, rfl, s1⟩ := hO1.sl
   have hb := hb.trans (hF.mono hb.size)
   clear hF hO1
   refine hK.out _ _ (HSS.out _ hb) (fun hH => ?_)
   clear hK K
   try simp only [Act.put, uA, uZ, uS, vA, vZ, vS]
   refine tkO 3 (fun K hK => ?_)
   go_simp
   refine (HA2.out _ (HKc.out.later hb)).mono ?_
   rintro e u2 ⟨v2, rfl, hO2, hF⟩
   obtain ⟨A2, c2, rfl, s2⟩ := hO2.sl
   have s1 := s1.later hF
   have hb := hb.trans (hF.mono hb.size)
   clear hF hO2
   refine hK.out _ _ (HSS.out _ hb) (fun hH => ?_)
   clear hK K
   try simp only [Act.put, uA, uZ, uS, vA, vZ, vS]
   refine tkO 4 (fun K hK => ?_)
   go_simp
   refine (HE.out A1 A2 c1 c2 _ s1 s2).mono ?_
   rintro e u3 ⟨rfl, nq, rfl⟩
   have hb := below_drewN hb nq
   clear s1 s2
   refine hK.out _ _ (HSS.out _ hb) (fun hH => ?_)
   clear hK K
   try simp only [Act.put, uA, uZ, uS, vA, vZ, vS]
   refine tkZ 5 ?_; refine tkZ 6 ?_; refine tkZ 8 ?_
   refine tkO 7 (fun K hK => ?_)
   go_simp
   refine (HH.out _ (H.out.later hb)).mono ?_
   rintro e u4 ⟨v4, rfl, hO4, hF⟩
   obtain ⟨A4, c4, rfl, s4⟩ := hO4.sl
   have hb := hb.trans (hF.mono hb.size)
   clear hF hO4
   refine hK.out _ _ (HSS.out _ hb) (fun hH => ?_)
   clear hK K
   try simp only [Act.put, uA, uZ, uS, vA, vZ, vS]
   refine tkO 9 (fun K hK => ?_)
   go_simp
   refine (HH2.out _ (HKc.out.later hb)).mono ?_
   rintro e u5 ⟨v5, rfl, hO5, hF⟩
   obtain ⟨A5, c5, rfl, s5⟩ := hO5.sl
   have s4 := s4.later hF
   have hb := hb.trans (hF.mono hb.size)
   clear hF hO5
   refine hK.out _ _ (HSS.out _ hb) (fun hH => ?_)
   clear hK K
   try simp only [Act.put, uA, uZ, uS, vA, vZ, vS]
   refine tkO 10 (fun K hK => ?_)
   go_simp
   refine (HE2.out A4 A5 c4 c5 _ s4 s5).mono ?_
   rintro e u6 ⟨rfl, nq, rfl⟩
   have hb := below_drewN hb nq
   clear s4 s5
   refine hK.out _ _ (HSS.out _ hb) (fun hH => ?_)
   clear hK K
   try simp only [Act.put, uA, uZ, uS, vA, vZ, vS]
   refine tkZ 11 ?_; refine tkZ 12 ?_; refine tkM 13 ?_; refine tkM 14 ?_; refine tkM 15 ?_; refine tkM 16 ?_; refine tkM 17 ?_; refine tkM 18 ?_; refine tkM 19 ?_; refine tkM 20 ?_; refine tkM 21 ?_; refine tkZ 22 ?_
   refine tkL (fun K hK => ?_)
   go_simp
   refine hK.out _ _ ?_
   clear hK K
   try simp only [Act.put, uA, uZ, uS, vA, vZ, vS]
   refine tkD ?_
   go_wp2
   go_ret
   exact ⟨by rw [HR.out] <;> rfl, hb⟩
  | true =>
   have HR := Lib.hid (show R = qc from HD.out)
   clear HD
   go_enter Tryz.func18, Tryz.ntmps18
   go_wp2_with fail
   refine wp_region_noPanic ?_
   refine wp_region_l 23 (fun V : World => V.cell? ⟨a.p, 2, none⟩ = some (i64 B.cl) ∧ V.cell? ⟨c.p, 2, none⟩ = some (i64 C.cl)) (by kernel_rfl) (HSS.out _ hb) (fun hH => ?_)
   refine tkZ 0 ?_; refine tkZ 2 ?_
   refine tkO 1 (fun K hK => ?_)
   go_simp
   refine (HA.out _ (H.out.later hb)).mono ?_
   rintro e u1 ⟨v1, rfl, hO1, hF⟩
   obtain ⟨A1, c1, rfl, s1⟩ := hO1.sl
   have hb := hb.trans (hF.mono hb.size)
   clear hF hO1
   refine hK.out _ _ (HSS.out _ hb) (fun hH => ?_)
   clear hK K
   try simp only [Act.put, uA, uZ, uS, vA, vZ, vS]
   refine tkO 3 (fun K hK => ?_)
   go_simp
   refine (HA2.out _ (HKc.out.later hb)).mono ?_
   rintro e u2 ⟨v2, rfl, hO2, hF⟩
   obtain ⟨A2, c2, rfl, s2⟩ := hO2.sl
   have s1 := s1.later hF
   have hb := hb.trans (hF.mono hb.size)
   clear hF hO2
   refine hK.out _ _ (HSS.out _ hb) (fun hH => ?_)
   clear hK K
   try simp only [Act.put, uA, uZ, uS, vA, vZ, vS]
   refine tkO 4 (fun K hK => ?_)
   go_simp
   refine (HE.out A1 A2 c1 c2 _ s1 s2).mono ?_
   rintro e u3 ⟨rfl, nq, rfl⟩
   have hb := below_drewN hb nq
   clear s1 s2
   refine hK.out _ _ (HSS.out _ hb) (fun hH => ?_)
   clear hK K
   try simp only [Act.put, uA, uZ, uS, vA, vZ, vS]
   refine tkZ 5 ?_; refine tkZ 6 ?_; refine tkZ 8 ?_
   refine tkO 7 (fun K hK => ?_)
   go_simp
   refine (HH.out _ (H.out.later hb)).mono ?_
   rintro e u4 ⟨v4, rfl, hO4, hF⟩
   obtain ⟨A4, c4, rfl, s4⟩ := hO4.sl
   have hb := hb.trans (hF.mono hb.size)
   clear hF hO4
   refine hK.out _ _ (HSS.out _ hb) (fun hH => ?_)
   clear hK K
   try simp only [Act.put, uA, uZ, uS, vA, vZ, vS]
   refine tkO 9 (fun K hK => ?_)
   go_simp
   refine (HH2.out _ (HKc.out.later hb)).mono ?_
   rintro e u5 ⟨v5, rfl, hO5, hF⟩
   obtain ⟨A5, c5, rfl, s5⟩ := hO5.sl
   have s4 := s4.later hF
   have hb := hb.trans (hF.mono hb.size)
   clear hF hO5
   refine hK.out _ _ (HSS.out _ hb) (fun hH => ?_)
   clear hK K
   try simp only [Act.put, uA, uZ, uS, vA, vZ, vS]
   refine tkO 10 (fun K hK => ?_)
   go_simp
   refine (HE2.out A4 A5 c4 c5 _ s4 s5).mono ?_
   rintro e u6 ⟨rfl, nq, rfl⟩
   have hb := below_drewN hb nq
   clear s4 s5
   refine hK.out _ _ (HSS.out _ hb) (fun hH => ?_)
   clear hK K
   try simp only [Act.put, uA, uZ, uS, vA, vZ, vS]
   refine tkZ 11 ?_; refine tkZ 12 ?_; refine tkZ 13 ?_; refine tkZ 14 ?_; refine tkZ 15 ?_; refine tkZ 16 ?_; refine tkZ 17 ?_; refine tkZ 18 ?_; refine tkZ 19 ?_; refine tkZ 20 ?_; refine tkZ 21 ?_; refine tkZ 22 ?_
   refine tkL (fun K hK => ?_)
   go_simp
   refine hK.out _ _ ?_
   clear hK K
   try simp only [Act.put, uA, uZ, uS, vA, vZ, vS]
   refine tkD ?_
   go_wp2
   go_ret
   exact ⟨by rw [HR.out] <;> rfl, hb⟩
end Go.Proofs.YtampniiehgimhaaGreat
/- book: New, doers, Do -/
namespace Go.Proofs.YtampniiehgimhaaGreat
open Go.RowKit
theorem bnew_c (w : World) : Calls Tryz.prog 9 #[] w fun e w' => ∃ a : BA, e = .returned a.ptr ∧ BkA w' a bk0 ∧ (∀ k, a.all k → w.heap.size ≤ k) ∧ Below w.heap.size w w' := by
 have h1 := Lib.hid (chnewA_c w)
 have h2 := Lib.hid (fun W => honewA_c W)
 go_enter Tryz.func9, Tryz.ntmps9
 go_wp2_with fail
 refine h1.out.mono ?_
 rintro e w1 ⟨rfl, hc, hF⟩
 have hb1 := hF
 have hlt := hc.lt
 clear hF h1
 go_wp2_with fail
 refine (h2.out _).mono ?_
 rintro e w2 ⟨rfl, hh, hF⟩
 have hb2 := below_on hb1 (Nat.le_refl _) hF
 have hc2 := hc.later hF
 have hz := hF.size
 have hlh := hh.lt
 have hb3 := hb2.alloc hb2.size (.cells #[.pointer (some ⟨w.heap.size + 1, 0, none⟩), .pointer (some ⟨w1.heap.size + 1, 0, none⟩), i64 0] 118)
 have hA : BkA (w2.alloc (.cells #[.pointer (some ⟨w.heap.size + 1, 0, none⟩), .pointer (some ⟨w1.heap.size + 1, 0, none⟩), i64 0] 118)) ⟨w2.heap.size, w.heap.size + 1, w.heap.size, w1.heap.size + 1, w1.heap.size⟩ bk0 :=
  ⟨heap_alloc_new w2 _, hc2.later ((Below.refl _ _).alloc (Nat.le_refl _) _), hh.later ((Below.refl _ _).alloc (Nat.le_refl _) _), ⟨by show w2.heap.size ≠ w.heap.size + 1; omega, by show w2.heap.size ≠ w.heap.size; omega, by show w2.heap.size ≠ w1.heap.size + 1; omega, by show w2.heap.size ≠ w1.heap.size; omega, by show w1.heap.size + 1 ≠ w.heap.size; omega, by show w1.heap.size ≠ w.heap.size; omega, by show w.heap.size + 1 ≠ w1.heap.size; omega⟩⟩
 have hall : ∀ k, (⟨w2.heap.size, w.heap.size + 1, w.heap.size, w1.heap.size + 1, w1.heap.size⟩ : BA).all k → w.heap.size ≤ k := fun k hk => by
  have h1 : k = w2.heap.size ∨ k = w.heap.size + 1 ∨ k = w.heap.size ∨ k = w1.heap.size + 1 ∨ k = w1.heap.size := hk
  omega
 have HA := Lib.hid hA
 have Hall := Lib.hid hall
 clear hA hall hc hc2 hh hF h2
 go_wp2
 go_ret
 exact ⟨_, rfl, HA.out, Hall.out, hb3⟩
/-- what orders do, by their kinds -/
def doersM : List (Int × Value) := [(1, .func (.func 104) #[] #[]), (2, .func (.func 105) #[] #[]), (3, .func (.func 106) #[] #[]), (4, .func (.func 107) #[] #[]), (5, .func (.func 108) #[] #[]), (6, .func (.func 109) #[] #[]), (7, .func (.func 110) #[] #[])]
set_option maxRecDepth 100000 in
set_option maxHeartbeats 4000000 in
theorem doers_c (w : World) : Calls Tryz.prog 60 #[] w fun e w' => e = .returned (.map (some w.heap.size)) ∧ MapIs i64 w' w.heap.size doersM ∧ Below w.heap.size w w' := by
 have hmm := @run_makeMap Tryz.prog
 have m0 := MapIs.made (enc := i64) w
 have k0 := (Below.refl w.heap.size w).alloc (Nat.le_refl _) (.map #[] 0)
 obtain ⟨v1, r1, m1, g1⟩ := run_put (P := Tryz.prog) intKey Tryz.underlying130 m0 1 (.func (.func 104) #[] #[])
 have k1 := k0.trans (below_of_grown g1 (B := w.heap.size) k0.size (fun g e => by injection e; omega))
 obtain ⟨v2, r2, m2, g2⟩ := run_put (P := Tryz.prog) intKey Tryz.underlying130 m1 2 (.func (.func 105) #[] #[])
 have k2 := k1.trans (below_of_grown g2 (B := w.heap.size) k1.size (fun g e => by injection e; omega))
 obtain ⟨v3, r3, m3, g3⟩ := run_put (P := Tryz.prog) intKey Tryz.underlying130 m2 3 (.func (.func 106) #[] #[])
 have k3 := k2.trans (below_of_grown g3 (B := w.heap.size) k2.size (fun g e => by injection e; omega))
 obtain ⟨v4, r4, m4, g4⟩ := run_put (P := Tryz.prog) intKey Tryz.underlying130 m3 4 (.func (.func 107) #[] #[])
 have k4 := k3.trans (below_of_grown g4 (B := w.heap.size) k3.size (fun g e => by injection e; omega))
 obtain ⟨v5, r5, m5, g5⟩ := run_put (P := Tryz.prog) intKey Tryz.underlying130 m4 5 (.func (.func 108) #[] #[])
 have k5 := k4.trans (below_of_grown g5 (B := w.heap.size) k4.size (fun g e => by injection e; omega))
 obtain ⟨v6, r6, m6, g6⟩ := run_put (P := Tryz.prog) intKey Tryz.underlying130 m5 6 (.func (.func 109) #[] #[])
 have k6 := k5.trans (below_of_grown g6 (B := w.heap.size) k5.size (fun g e => by injection e; omega))
 obtain ⟨v7, r7, m7, g7⟩ := run_put (P := Tryz.prog) intKey Tryz.underlying130 m6 7 (.func (.func 110) #[] #[])
 have k7 := k6.trans (below_of_grown g7 (B := w.heap.size) k6.size (fun g e => by injection e; omega))
 go_enter Tryz.func60, Tryz.ntmps60
 go_wp2
 go_ret
 exact ⟨rfl, by have := m7; simpa [putM, doersM] using this, k7⟩
set_option maxRecDepth 100000 in
set_option maxHeartbeats 8000000 in
theorem bdo_gen (a : BA) (B B2 : Bk) (R : Rp) (x : Od) (w : World) (h : BkA w a B) (hl : OdIn w a x) (hr : rightB x = true) (fk : FuncId) (ek : ∀ args w, (callFunc fk args).run Tryz.prog w = .ok (.enter fk args) w)
  (hget : getM doersM x.kind = some (.func (.func fk) #[] #[])) (hK : ∀ W, BkA W a B → OdIn W a x → Calls Tryz.prog fk #[a.ptr, x.v] W fun e w' => e = .returned R.v ∧ BkA w' a B2 ∧ Gr W w' a.own) :
  Calls Tryz.prog 12 #[a.ptr, x.v] w fun e w' => e = .returned R.v ∧ BkA w' a B2 ∧ Gr w w' a.own := by
 have HRt := Lib.hid (fun (W : World) (hW : OdIn W a x) => right_c0 x W hW.okb hW.2)
 have HK := Lib.hid hK
 have Hget := Lib.hid hget
 have HD := Lib.hid (fun W => doers_c W)
 rw [hr] at HRt
 clear hr hK hget
 have hb0 : Below w.heap.size w ((w.alloc (.cells #[i64 x.client, i64 x.seq, i64 x.kind, .string x.acct, .string x.peer, i64 x.sum, .slice x.la x.legs.length x.lc, i64 x.period, i64 x.hold, .string x.note] 37)).alloc (.cells #[i64 0, i64 0, i64 0, i64 0] 31)) := ((Below.refl w.heap.size w).alloc (Nat.le_refl _) (.cells #[i64 x.client, i64 x.seq, i64 x.kind, .string x.acct, .string x.peer, i64 x.sum, .slice x.la x.legs.length x.lc, i64 x.period, i64 x.hold, .string x.note] 37)).alloc (by simp) (.cells #[i64 0, i64 0, i64 0, i64 0] 31)
 have ho0 := heap_alloc2_old w (.cells #[i64 x.client, i64 x.seq, i64 x.kind, .string x.acct, .string x.peer, i64 x.sum, .slice x.la x.legs.length x.lc, i64 x.period, i64 x.hold, .string x.note] 37) (.cells #[i64 0, i64 0, i64 0, i64 0] 31)
 have hr0 := heap_alloc2_new w (.cells #[i64 x.client, i64 x.seq, i64 x.kind, .string x.acct, .string x.peer, i64 x.sum, .slice x.la x.legs.length x.lc, i64 x.period, i64 x.hold, .string x.note] 37) (.cells #[i64 0, i64 0, i64 0, i64 0] 31)
 have hlt0 : w.heap.size < ((w.alloc (.cells #[i64 x.client, i64 x.seq, i64 x.kind, .string x.acct, .string x.peer, i64 x.sum, .slice x.la x.legs.length x.lc, i64 x.period, i64 x.hold, .string x.note] 37)).alloc (.cells #[i64 0, i64 0, i64 0, i64 0] 31)).heap.size ∧ w.heap.size + 1 < ((w.alloc (.cells #[i64 x.client, i64 x.seq, i64 x.kind, .string x.acct, .string x.peer, i64 x.sum, .slice x.la x.legs.length x.lc, i64 x.period, i64 x.hold, .string x.note] 37)).alloc (.cells #[i64 0, i64 0, i64 0, i64 0] 31)).heap.size := ⟨by simp; omega, by simp⟩
 have Hlt := Lib.hid h.lt
 have Hap := Lib.hid h.ap
 have H0 := h.later hb0
 unfold Od.v
 go_enter Tryz.func12, Tryz.ntmps12
 go_wp2_with fail
 generalize ((w.alloc (.cells #[i64 x.client, i64 x.seq, i64 x.kind, .string x.acct, .string x.peer, i64 x.sum, .slice x.la x.legs.length x.lc, i64 x.period, i64 x.hold, .string x.note] 37)).alloc (.cells #[i64 0, i64 0, i64 0, i64 0] 31)) = W0 at *
 generalize hrb : w.heap.size + 1 = rb at *
 have Hrb := Lib.hid (show w.heap.size ≤ rb by omega)
 clear hrb
 have Hna := Lib.hid (not_all Hlt.out Hrb.out)
 have Hnm := Lib.hid (not_maps Hlt.out Hrb.out)
 have hp0 := H0.cell
 have HSS := Lib.hid (show ∀ V, Gr W0 V a.maps → (fun V : World => V.cell? ⟨a.p, 0, none⟩ = some (.pointer (some ⟨a.g, 0, none⟩)) ∧ V.cell? ⟨a.p, 1, none⟩ = some (.pointer (some ⟨a.gh, 0, none⟩)) ∧ V.cell? ⟨a.p, 2, none⟩ = some (i64 B.cl) ∧ V.cell? ⟨w.heap.size, 0, none⟩ = some (i64 x.client) ∧ V.cell? ⟨w.heap.size, 1, none⟩ = some (i64 x.seq) ∧ V.cell? ⟨w.heap.size, 2, none⟩ = some (i64 x.kind) ∧ V.cell? ⟨w.heap.size, 3, none⟩ = some (.string x.acct) ∧ V.cell? ⟨w.heap.size, 4, none⟩ = some (.string x.peer) ∧ V.cell? ⟨w.heap.size, 5, none⟩ = some (i64 x.sum) ∧ V.cell? ⟨w.heap.size, 6, none⟩ = some (.slice x.la x.legs.length x.lc) ∧ V.cell? ⟨w.heap.size, 7, none⟩ = some (i64 x.period) ∧ V.cell? ⟨w.heap.size, 8, none⟩ = some (i64 x.hold) ∧ V.cell? ⟨w.heap.size, 9, none⟩ = some (.string x.note)) V from fun V hG => by
  have hp1 := (hG.block a.p (Array.getElem?_eq_some_iff.1 hp0).1 Hap.out.p_maps).trans hp0
  have ho1 := (hG.block w.heap.size hlt0.1 (not_maps Hlt.out (Nat.le_refl _))).trans ho0
  exact ⟨cell_of_row _ a.p 0 _ _ (0, 0) hp1, cell_of_row _ a.p 1 _ _ (0, 0) hp1, cell_of_row _ a.p 2 _ _ (0, 0) hp1, cell_of_row _ w.heap.size 0 _ _ (0, 0) ho1, cell_of_row _ w.heap.size 1 _ _ (0, 0) ho1, cell_of_row _ w.heap.size 2 _ _ (0, 0) ho1, cell_of_row _ w.heap.size 3 _ _ (0, 0) ho1, cell_of_row _ w.heap.size 4 _ _ (0, 0) ho1, cell_of_row _ w.heap.size 5 _ _ (0, 0) ho1, cell_of_row _ w.heap.size 6 _ _ (0, 0) ho1, cell_of_row _ w.heap.size 7 _ _ (0, 0) ho1, cell_of_row _ w.heap.size 8 _ _ (0, 0) ho1, cell_of_row _ w.heap.size 9 _ _ (0, 0) ho1⟩)
 have HR0 := Lib.hid hr0
 have HO0 := Lib.hid ho0
 have HB0 := Lib.hid H0
 have Hb0 := Lib.hid hb0
 have hG0 := Gr.of_below ((Below.refl W0.heap.size W0).drew) a.maps
 clear hp0 ho0 hr0 H0 hb0 h
 refine (HRt.out _ (hl.later Hb0.out)).mono ?_
 rintro e W1 ⟨rfl, hF⟩
 have hG := (Gr.of_below hF a.maps).more (Below.refl _ _).drew
 have hB := (HB0.out.later hF).later (Below.refl _ _).drew
 have hl := ((hl.later Hb0.out).later hF).later (Below.refl _ _).drew
 clear hF hG0 HRt
 go_wp2_with fail
 refine wp_region_noPanic ?_
 refine wp_region_l 7 (fun V : World => V.cell? ⟨w.heap.size, 0, none⟩ = some (i64 x.client) ∧ V.cell? ⟨w.heap.size, 1, none⟩ = some (i64 x.seq) ∧ V.cell? ⟨w.heap.size, 2, none⟩ = some (i64 x.kind) ∧ V.cell? ⟨w.heap.size, 3, none⟩ = some (.string x.acct) ∧ V.cell? ⟨w.heap.size, 4, none⟩ = some (.string x.peer) ∧ V.cell? ⟨w.heap.size, 5, none⟩ = some (i64 x.sum) ∧ V.cell? ⟨w.heap.size, 6, none⟩ = some (.slice x.la x.legs.length x.lc) ∧ V.cell? ⟨w.heap.size, 7, none⟩ = some (i64 x.period) ∧ V.cell? ⟨w.heap.size, 8, none⟩ = some (i64 x.hold) ∧ V.cell? ⟨w.heap.size, 9, none⟩ = some (.string x.note)) (by kernel_rfl) ((HSS.out _ hG).2.2.2) (fun hH => ?_)
 refine tkZ 1 ?_; refine tkZ 2 ?_; refine tkZ 4 ?_; refine tkZ 5 ?_
 refine tkO 0 (fun K hK => ?_)
 go_simp
 refine (HD.out _).mono ?_
 rintro e W2 ⟨rfl, hm, hF⟩
 have hB := hB.later hF
 have hl := hl.later hF
 have hG := hG.more hF
 have hlk := run_lookup (P := Tryz.prog) intKey Tryz.underlying130 (show MapIs i64 W2 W1.heap.size doersM from hm) x.kind .nilFunc (by kernel_rfl) false
 rw [Hget.out] at hlk
 simp only [Option.getD_some] at hlk
 clear hF hm HD
 refine hK.out _ _ ((HSS.out _ hG).2.2.2) (fun hH => ?_)
 clear hK K
 try simp only [Act.put, uA, uZ, uS, vA, vZ, vS]
 refine tkO 3 (fun K hK => ?_)
 go_simp
 refine hK.out _ _ ((HSS.out _ hG).2.2.2) (fun hH => ?_)
 clear hK K
 try simp only [Act.put, uA, uZ, uS, vA, vZ, vS]
 refine tkO 6 (fun K hK => ?_)
 go_simp
 refine (HK.out _ hB hl).mono ?_
 rintro e W3 ⟨rfl, hB2, hg⟩
 have hr := (hG.block rb hlt0.2 Hnm.out).trans HR0.out
 have hr := (hg.block rb (Nat.lt_of_lt_of_le hlt0.2 hG.size) (fun e => by rcases e with e | e; exact Hna.out _ (.inl rfl) e.symm; exact Hnm.out e)).trans hr
 have hG2 := (hG.mono (fun _ _ e => BA.maps_own e)).after hg
 clear hg hG hB hl hlk
 have ho2 := (hG2.block w.heap.size hlt0.1 (fun e => by rcases e with e | e; exact (not_all Hlt.out (Nat.le_refl _)) _ (.inl rfl) e.symm; exact not_maps Hlt.out (Nat.le_refl _) e)).trans HO0.out
 refine hK.out _ _ (⟨cell_of_row _ w.heap.size 0 _ _ (0, 0) ho2, cell_of_row _ w.heap.size 1 _ _ (0, 0) ho2, cell_of_row _ w.heap.size 2 _ _ (0, 0) ho2, cell_of_row _ w.heap.size 3 _ _ (0, 0) ho2, cell_of_row _ w.heap.size 4 _ _ (0, 0) ho2, cell_of_row _ w.heap.size 5 _ _ (0, 0) ho2, cell_of_row _ w.heap.size 6 _ _ (0, 0) ho2, cell_of_row _ w.heap.size 7 _ _ (0, 0) ho2, cell_of_row _ w.heap.size 8 _ _ (0, 0) ho2, cell_of_row _ w.heap.size 9 _ _ (0, 0) ho2⟩) (fun hH => ?_)
 clear hK K
 try simp only [Act.put, uA, uZ, uS, vA, vZ, vS]
 refine tkL (fun K hK => ?_)
 refine wp_store_row 31 (.tmp 4) (.tmp 19) rfl rb #[i64 R.err, i64 R.hav, i64 R.set_, i64 R.num] rfl rfl 31 #[i64 0, i64 0, i64 0, i64 0] hr (by kernel_rfl) rfl (by simp [Value.oneCell']) ?_
 refine hK.out _ _ ?_
 clear hK K
 try simp only [Act.put, uA, uZ, uS]
 refine tkD ?_
 have hrow := setRow_heap W3 rb _ #[i64 R.err, i64 R.hav, i64 R.set_, i64 R.num] _ _ hr
 have hB9 := hB2.row Hna.out #[i64 R.err, i64 R.hav, i64 R.set_, i64 R.num]
 have hG9 := ((Gr.of_below Hb0.out a.own).after hG2).own_row Hrb.out #[i64 R.err, i64 R.hav, i64 R.set_, i64 R.num]
 have HB9 := Lib.hid hB9
 have HG9 := Lib.hid hG9
 clear hB9 hG9 hB2 hG2
 go_wp2
 exact bodyPost_ret (results_cell_row rfl _ _ rb 31 _ (0, 0) _ rfl hrow Tryz.underlying31 rfl (by kernel_rfl)) rfl ⟨rfl, HB9.out, HG9.out⟩
set_option maxRecDepth 100000 in
set_option maxHeartbeats 8000000 in
theorem bdo_no (a : BA) (B : Bk) (x : Od) (w : World) (h : BkA w a B) (hl : OdIn w a x) (hr : rightB x = false) :
  Calls Tryz.prog 12 #[a.ptr, x.v] w fun e w' => e = .returned (rpE 1).v ∧ BkA w' a B ∧ Gr w w' a.own := by
 have HRt := Lib.hid (fun (W : World) (hW : OdIn W a x) => right_c0 x W hW.okb hW.2)
 rw [hr] at HRt
 clear hr
 have hb0 : Below w.heap.size w ((w.alloc (.cells #[i64 x.client, i64 x.seq, i64 x.kind, .string x.acct, .string x.peer, i64 x.sum, .slice x.la x.legs.length x.lc, i64 x.period, i64 x.hold, .string x.note] 37)).alloc (.cells #[i64 0, i64 0, i64 0, i64 0] 31)) := ((Below.refl w.heap.size w).alloc (Nat.le_refl _) (.cells #[i64 x.client, i64 x.seq, i64 x.kind, .string x.acct, .string x.peer, i64 x.sum, .slice x.la x.legs.length x.lc, i64 x.period, i64 x.hold, .string x.note] 37)).alloc (by simp) (.cells #[i64 0, i64 0, i64 0, i64 0] 31)
 have ho0 := heap_alloc2_old w (.cells #[i64 x.client, i64 x.seq, i64 x.kind, .string x.acct, .string x.peer, i64 x.sum, .slice x.la x.legs.length x.lc, i64 x.period, i64 x.hold, .string x.note] 37) (.cells #[i64 0, i64 0, i64 0, i64 0] 31)
 have hr0 := heap_alloc2_new w (.cells #[i64 x.client, i64 x.seq, i64 x.kind, .string x.acct, .string x.peer, i64 x.sum, .slice x.la x.legs.length x.lc, i64 x.period, i64 x.hold, .string x.note] 37) (.cells #[i64 0, i64 0, i64 0, i64 0] 31)
 have hlt0 : w.heap.size < ((w.alloc (.cells #[i64 x.client, i64 x.seq, i64 x.kind, .string x.acct, .string x.peer, i64 x.sum, .slice x.la x.legs.length x.lc, i64 x.period, i64 x.hold, .string x.note] 37)).alloc (.cells #[i64 0, i64 0, i64 0, i64 0] 31)).heap.size ∧ w.heap.size + 1 < ((w.alloc (.cells #[i64 x.client, i64 x.seq, i64 x.kind, .string x.acct, .string x.peer, i64 x.sum, .slice x.la x.legs.length x.lc, i64 x.period, i64 x.hold, .string x.note] 37)).alloc (.cells #[i64 0, i64 0, i64 0, i64 0] 31)).heap.size := ⟨by simp; omega, by simp⟩
 have Hlt := Lib.hid h.lt
 have Hap := Lib.hid h.ap
 have H0 := h.later hb0
 unfold Od.v
 go_enter Tryz.func12, Tryz.ntmps12
 go_wp2_with fail
 generalize ((w.alloc (.cells #[i64 x.client, i64 x.seq, i64 x.kind, .string x.acct, .string x.peer, i64 x.sum, .slice x.la x.legs.length x.lc, i64 x.period, i64 x.hold, .string x.note] 37)).alloc (.cells #[i64 0, i64 0, i64 0, i64 0] 31)) = W0 at *
 generalize hrb : w.heap.size + 1 = rb at *
 have Hrb := Lib.hid (show w.heap.size ≤ rb by omega)
 clear hrb
 have Hna := Lib.hid (not_all Hlt.out Hrb.out)
 have Hnm := Lib.hid (not_maps Hlt.out Hrb.out)
 have hp0 := H0.cell
 have HSS := Lib.hid (show ∀ V, Gr W0 V a.maps → (fun V : World => V.cell? ⟨a.p, 0, none⟩ = some (.pointer (some ⟨a.g, 0, none⟩)) ∧ V.cell? ⟨a.p, 1, none⟩ = some (.pointer (some ⟨a.gh, 0, none⟩)) ∧ V.cell? ⟨a.p, 2, none⟩ = some (i64 B.cl) ∧ V.cell? ⟨w.heap.size, 0, none⟩ = some (i64 x.client) ∧ V.cell? ⟨w.heap.size, 1, none⟩ = some (i64 x.seq) ∧ V.cell? ⟨w.heap.size, 2, none⟩ = some (i64 x.kind) ∧ V.cell? ⟨w.heap.size, 3, none⟩ = some (.string x.acct) ∧ V.cell? ⟨w.heap.size, 4, none⟩ = some (.string x.peer) ∧ V.cell? ⟨w.heap.size, 5, none⟩ = some (i64 x.sum) ∧ V.cell? ⟨w.heap.size, 6, none⟩ = some (.slice x.la x.legs.length x.lc) ∧ V.cell? ⟨w.heap.size, 7, none⟩ = some (i64 x.period) ∧ V.cell? ⟨w.heap.size, 8, none⟩ = some (i64 x.hold) ∧ V.cell? ⟨w.heap.size, 9, none⟩ = some (.string x.note)) V from fun V hG => by
  have hp1 := (hG.block a.p (Array.getElem?_eq_some_iff.1 hp0).1 Hap.out.p_maps).trans hp0
  have ho1 := (hG.block w.heap.size hlt0.1 (not_maps Hlt.out (Nat.le_refl _))).trans ho0
  exact ⟨cell_of_row _ a.p 0 _ _ (0, 0) hp1, cell_of_row _ a.p 1 _ _ (0, 0) hp1, cell_of_row _ a.p 2 _ _ (0, 0) hp1, cell_of_row _ w.heap.size 0 _ _ (0, 0) ho1, cell_of_row _ w.heap.size 1 _ _ (0, 0) ho1, cell_of_row _ w.heap.size 2 _ _ (0, 0) ho1, cell_of_row _ w.heap.size 3 _ _ (0, 0) ho1, cell_of_row _ w.heap.size 4 _ _ (0, 0) ho1, cell_of_row _ w.heap.size 5 _ _ (0, 0) ho1, cell_of_row _ w.heap.size 6 _ _ (0, 0) ho1, cell_of_row _ w.heap.size 7 _ _ (0, 0) ho1, cell_of_row _ w.heap.size 8 _ _ (0, 0) ho1, cell_of_row _ w.heap.size 9 _ _ (0, 0) ho1⟩)
 have HR0 := Lib.hid hr0
 have HO0 := Lib.hid ho0
 have HB0 := Lib.hid H0
 have Hb0 := Lib.hid hb0
 have hG0 := Gr.of_below ((Below.refl W0.heap.size W0).drew) a.maps
 clear hp0 ho0 hr0 H0 hb0 h
 refine (HRt.out _ (hl.later Hb0.out)).mono ?_
 rintro e W1 ⟨rfl, hF⟩
 have hr := (hF.block rb hlt0.2).trans HR0.out
 have hrow := setRow_heap W1 rb _ #[i64 1, i64 0, i64 0, i64 0] _ _ hr
 have HB9 := Lib.hid ((HB0.out.later hF).row Hna.out #[i64 1, i64 0, i64 0, i64 0])
 have HG9 := Lib.hid ((((Gr.of_below Hb0.out a.own).more hF)).own_row Hrb.out #[i64 1, i64 0, i64 0, i64 0])
 clear hF hG0 HRt
 go_wp2_with (refine wpList_store_row rfl 31 (.tmp 4) (.tmp 12) rfl rb #[i64 1, i64 0, i64 0, i64 0] rfl rfl 31 #[i64 0, i64 0, i64 0, i64 0] hr (by kernel_rfl) rfl (by simp [Value.oneCell']) ?_)
 exact bodyPost_ret (results_cell_row rfl _ _ rb 31 _ (0, 0) _ rfl hrow Tryz.underlying31 rfl (by kernel_rfl)) rfl ⟨rfl, HB9.out, HG9.out⟩
theorem bdo_c (a : BA) (B : Bk) (x : Od) (w : World) (h : BkA w a B) (hI : InvB B) (hx : OdB x) (hl : OdIn w a x) :
  Calls Tryz.prog 12 #[a.ptr, x.v] w fun e w' => e = .returned (doL B x).1.v ∧ BkA w' a (doL B x).2 ∧ Gr w w' a.own := by
 unfold doL
 by_cases hr : rightB x = false
 ·rw [if_pos hr]
  exact bdo_no a B x w h hl hr
 rw [if_neg hr]
 have hr : rightB x = true := by simpa using hr
 have hk := (rightB_ids hr).1
 unfold kindD
 by_cases k1 : x.kind = 1
 ·rw [if_pos k1]
  exact bdo_gen a B _ _ x w h hl hr 104 (enters_of Tryz.func104 (by kernel_rfl) rfl) (by rw [k1]; rfl) (fun W hW hl => bopen_c a B x W hW hI hx)
 rw [if_neg k1]
 by_cases k2 : x.kind = 2
 ·rw [if_pos k2]
  exact bdo_gen a B _ _ x w h hl hr 105 (enters_of Tryz.func105 (by kernel_rfl) rfl) (by rw [k2]; rfl) (fun W hW hl => bpost_c a B x W hW hI hx hl)
 rw [if_neg k2]
 by_cases k3 : x.kind = 3
 ·rw [if_pos k3]
  exact bdo_gen a B _ _ x w h hl hr 106 (enters_of Tryz.func106 (by kernel_rfl) rfl) (by rw [k3]; rfl) (fun W hW hl => bhold_c a B x W hW hI hx hr)
 rw [if_neg k3]
 by_cases k4 : x.kind = 4
 ·rw [if_pos k4]
  exact bdo_gen a B _ _ x w h hl hr 107 (enters_of Tryz.func107 (by kernel_rfl) rfl) (by rw [k4]; rfl) (fun W hW hl => bcap_c a B x W hW hI hx)
 rw [if_neg k4]
 by_cases k5 : x.kind = 5
 ·rw [if_pos k5]
  exact bdo_gen a B _ _ x w h hl hr 108 (enters_of Tryz.func108 (by kernel_rfl) rfl) (by rw [k5]; rfl) (fun W hW hl => brel_c a B x W hW hI hx)
 rw [if_neg k5]
 by_cases k6 : x.kind = 6
 ·rw [if_pos k6]
  exact bdo_gen a B _ _ x w h hl hr 109 (enters_of Tryz.func109 (by kernel_rfl) rfl) (by rw [k6]; rfl) (fun W hW hl => bshut_c a B x W hW hI hx)
 rw [if_neg k6]
 have k7 : x.kind = 7 := by omega
 exact bdo_gen a B _ _ x w h hl hr 110 (enters_of Tryz.func110 (by kernel_rfl) rfl) (by rw [k7]; rfl) (fun W hW hl => bask_c a B x W hW hI hx)
end Go.Proofs.YtampniiehgimhaaGreat
/- book: Fold -/
namespace Go.Proofs.YtampniiehgimhaaGreat
open Go.RowKit
section
variable {α : Type} [Enc α] {w w' : World} {base : Nat} {e : TypeId} {v : Value} {l : List α}
theorem Own.gr {S : Nat → Prop} (h : Own w base e v l) (hg : Gr w w' S) (hS : ∀ b, v.ownBlock = some b → ¬ S b) (hx : ∀ x ∈ l, Enc.ok w' (Oth w' v) x) : Own w' base e v l := by
 obtain ⟨⟨h1, h2⟩, _⟩ := h
 refine ⟨⟨h1, ?_⟩, hx⟩
 rcases h2 with h2 | ⟨g, cap, cur, hv, hb, hh, r⟩
 ·exact .inl h2
 ·exact .inr ⟨g, cap, cur, hv, hb, (hg.block g (Array.getElem?_eq_some_iff.1 hh).1 (hS g (by rw [hv]; rfl))).trans hh, r⟩
end
theorem rpInfo : (Tryz.prog.info? 31).map (fun i => (i.zero, i.size, i.bytes)) = some (some (.agg #[i64 0, i64 0, i64 0, i64 0]), Enc.size Rp, 32) := by kernel_rfl
theorem BkA.own_below {w w' : World} {a : BA} {B : Nat} (h : Gr w w' a.own) (hB : B ≤ w.heap.size) (ha : ∀ k, a.all k → B ≤ k) : Below B w w' := h.below hB fun k hk => by
 rcases hk with e | e | e
 ·exact ha k (.inl e)
 ·exact ha k (.inr (.inr (.inl e)))
 ·exact ha k (.inr (.inr (.inr (.inr e))))
theorem BA.own_all {a : BA} {k : Nat} (h : a.own k) : a.all k := by
 rcases h with e | e | e
 ·exact .inl e
 ·exact .inr (.inr (.inl e))
 ·exact .inr (.inr (.inr (.inr e)))
/-- what lies below a book is an order's as a book takes it -/
theorem OdIn.of_sl {w : World} {B : Nat} {A : Option Addr} {c : Nat} {l : List Od} (h : Sl w B A c l) {a : BA} (ha : ∀ k, a.all k → B ≤ k) (hB : B ≤ w.heap.size) (hl : ∀ x ∈ l, x.legs.length ≤ 65536) : ∀ x ∈ l, OdIn w a x := fun x hx =>
 ⟨Enc.keep (α := Od) (h.2.2.2 x hx) (fun _ _ => rfl) (fun k hk => ⟨Nat.lt_of_lt_of_le hk hB, fun e => by have := ha k e; omega⟩), hl x hx⟩
set_option maxRecDepth 100000 in
set_option maxHeartbeats 8000000 in
theorem bfold_c (A : Option Addr) (c : Nat) (l : List Od) (w : World) (h : Sl w w.heap.size A c l) (hx : ∀ x ∈ l, OdB x) (hl : ∀ x ∈ l, x.legs.length ≤ 65536) (hn : l.length ≤ 60000) :
  Calls Tryz.prog 15 #[.slice A l.length c] w fun e w' => ∃ (a : BA) (v : Value) (B0 : Nat), e = .returned (.tuple #[v, a.ptr]) ∧ BkA w' a (foldL bk0 l) ∧ InvB (foldL bk0 l) ∧ Own w' B0 31 v (toldL bk0 l) ∧ w.heap.size ≤ B0 ∧ (∀ k, a.all k → w.heap.size ≤ k ∧ k < B0) ∧ Below w.heap.size w w' := by
 have hN := Lib.hid (bnew_c w)
 have H := Lib.hid h
 have Hx := Lib.hid hx
 have Hl := Lib.hid hl
 have hlc : l.length ≤ c := h.1
 clear h hx hl
 go_enter Tryz.func15, Tryz.ntmps15
 go_wp2_with fail
 refine hN.out.mono ?_
 rintro e w1 ⟨a, rfl, hb0, ha, hF⟩
 have Hlt := Lib.hid hb0.lt
 have Ha := Lib.hid ha
 have hsz := hF.size
 clear hN ha
 go_wp2_with fail
 go_loopw [5, 11] (fun v i wr => ∃ k : Nat, i = i64 k ∧ k ≤ l.length ∧ BkA wr a (foldL bk0 (l.take k)) ∧ InvB (foldL bk0 (l.take k)) ∧ Own wr w1.heap.size 31 v (toldL bk0 (l.take k)) ∧ Below w.heap.size w wr ∧ w1.heap.size ≤ wr.heap.size) (fun _ i _ => l.length - (intOf i).toNat)
 case atStart => exact ⟨0, rfl, Nat.zero_le _, hb0, inv_bk0, Own.nil_ _ _ _, hF, Nat.le_refl _⟩
 case round =>
  obtain ⟨k, rfl, hk, hB, hI, hO, hb, hz⟩ := hrel
  clear hb0 hF
  by_cases hlt : k < l.length
  ·have g1 : decide ((k : Int) < (l.length : Int)) = true := decide_eq_true (by omega)
   have g2 : decide (k < l.length) = true := decide_eq_true hlt
   have i0 : (0 : Int) ≤ (k : Int) := by omega
   have i1 : (k : Int) < (l.length : Int) := by omega
   have hlw := H.out.below hb
   obtain ⟨b, o, rfl, hbb, _, c0, c1, c2, c3, c4, c5, c6, c7, c8, c9⟩ := hlw.od hlt
   have hin := OdIn.of_sl (hlw.mono fun _ h => h) (fun k hk => Ha.out k hk) hb.size Hl.out l[k] (List.getElem_mem hlt)
   have hxo := Hx.out l[k] (List.getElem_mem hlt)
   have HF := Lib.hid (show foldL bk0 (l.take (k + 1)) = (doL (foldL bk0 (l.take k)) l[k]).2 by rw [List.take_succ_eq_append_getElem hlt, foldL_snoc])
   have HTl := Lib.hid (show toldL bk0 (l.take (k + 1)) = toldL bk0 (l.take k) ++ [(doL (foldL bk0 (l.take k)) l[k]).1] by rw [List.take_succ_eq_append_getElem hlt, toldL_snoc])
   have HLn := Lib.hid (show (toldL bk0 (l.take k)).length = k by rw [toldL_len, List.length_take]; omega)
   have hI2 := hI.do_ hxo
   generalize foldL bk0 (l.take k) = B at *
   generalize toldL bk0 (l.take k) = ts at *
   obtain ⟨x, hxk⟩ : ∃ x, l[k] = x := ⟨_, rfl⟩
   rw [hxk] at c0 c1 c2 c3 c4 c5 c6 c7 c8 c9 hin hxo HF HTl hI2
   have hba := (Below.refl wr.heap.size wr).alloc (Nat.le_refl _) (.cells #[i64 x.client, i64 x.seq, i64 x.kind, .string x.acct, .string x.peer, i64 x.sum, .slice x.la x.legs.length x.lc, i64 x.period, i64 x.hold, .string x.note] 37)
   have hob := heap_alloc_new wr (.cells #[i64 x.client, i64 x.seq, i64 x.kind, .string x.acct, .string x.peer, i64 x.sum, .slice x.la x.legs.length x.lc, i64 x.period, i64 x.hold, .string x.note] 37)
   have hB1 := hB.later hba
   have hin1 := hin.later hba
   have HO1 := Lib.hid (hO.later hba)
   have hb1 := hb.alloc hb.size (.cells #[i64 x.client, i64 x.seq, i64 x.kind, .string x.acct, .string x.peer, i64 x.sum, .slice x.la x.legs.length x.lc, i64 x.period, i64 x.hold, .string x.note] 37)
   have hz1 : wr.heap.size < (wr.alloc (.cells #[i64 x.client, i64 x.seq, i64 x.kind, .string x.acct, .string x.peer, i64 x.sum, .slice x.la x.legs.length x.lc, i64 x.period, i64 x.hold, .string x.note] 37)).heap.size := by simp
   have HD := Lib.hid (bdo_c a B x _ hB1 hI hxo hin1)
   have k0 := cell_of_row _ wr.heap.size 0 _ _ (0, 0) hob
   have k1 := cell_of_row _ wr.heap.size 1 _ _ (0, 0) hob
   have k2 := cell_of_row _ wr.heap.size 2 _ _ (0, 0) hob
   have k3 := cell_of_row _ wr.heap.size 3 _ _ (0, 0) hob
   have k4 := cell_of_row _ wr.heap.size 4 _ _ (0, 0) hob
   have k5 := cell_of_row _ wr.heap.size 5 _ _ (0, 0) hob
   have k6 := cell_of_row _ wr.heap.size 6 _ _ (0, 0) hob
   have k7 := cell_of_row _ wr.heap.size 7 _ _ (0, 0) hob
   have k8 := cell_of_row _ wr.heap.size 8 _ _ (0, 0) hob
   have k9 := cell_of_row _ wr.heap.size 9 _ _ (0, 0) hob
   simp only [List.getElem?_toArray, List.getElem?_cons_zero, List.getElem?_cons_succ] at k0 k1 k2 k3 k4 k5 k6 k7 k8 k9
   generalize doL B x = d at *
   obtain ⟨R, B2⟩ := d
   dsimp only at *
   have HI2 := Lib.hid hI2
   clear hxk hin hxo hI hI2 hB hO hin1 hB1 hba hob hlw hbb
   go_wp2_with fail
   refine HD.out.mono ?_
   rintro e w2 ⟨rfl, hB2, hG⟩
   have hb2 := hb1.trans (BkA.own_below hG hb1.size (fun k hk => (Ha.out k hk)))
   have HO2 := HO1.out.gr hG (fun b hv e => by have h1 := (HO1.out.1.lt b hv).1; have h2 := Hlt.out b (BA.own_all e); omega) (fun _ _ => trivial)
   have hz2 : w1.heap.size ≤ w2.heap.size := by have := hG.size; omega
   have HO3 := Lib.hid (HO2.later ((Below.refl _ _).alloc (Nat.le_refl _) (.cells #[i64 R.err, i64 R.hav, i64 R.set_, i64 R.num] 31)))
   have Hne := Lib.hid (HO2.new_ne (Nat.le_refl w2.heap.size))
   have HH := Lib.hid (heap_alloc_new w2 (.cells #[i64 R.err, i64 R.hav, i64 R.set_, i64 R.num] 31))
   have hb3 := hb2.alloc hb2.size (.cells #[i64 R.err, i64 R.hav, i64 R.set_, i64 R.num] 31)
   have hB3 := hB2.later ((Below.refl _ _).alloc (Nat.le_refl _) (.cells #[i64 R.err, i64 R.hav, i64 R.set_, i64 R.num] 31))
   have Hz3 := Lib.hid (show w1.heap.size ≤ (w2.alloc (.cells #[i64 R.err, i64 R.hav, i64 R.set_, i64 R.num] 31)).heap.size by simp; omega)
   clear HO1 HO2 hG hb1 hb2 HD hB2 k0 k1 k2 k3 k4 k5 k6 k7 k8 k9 c0 c1 c2 c3 c4 c5 c6 c7 c8 c9
   go_wp2_with (at_builtin; refine wpList_append_one rfl (some 20) (.tmp 15) (.tmp 19) 39 rfl rfl (.agg #[i64 0, i64 0, i64 0, i64 0]) 32 Tryz.underlying39 rpInfo rfl (by decide) (by decide) rfl HO3.out w2.heap.size R rfl _ 31 HH.out rfl Hne.out trivial (by rw [HLn.out]; omega) Hz3.out ?_; intro v3 w3 hO3 hg3 hat3)
   rw [← HTl.out] at hO3
   have hB4 := hB3.kept (Gr.of_grown hg3) (fun j hj e => by have h1 := (HO3.out.1.lt j e).1; have h2 := Hlt.out j hj; omega)
   rw [← HF.out] at hB4 HI2
   have hb4 := hb3.trans (HO3.out.below hg3 hsz hb3.size)
   have hz4 := hg3.size
   clear hg3 hat3 HO3 HH Hne hB3 hb3
   go_roundw
   case rel => exact ⟨k + 1, by go_num, by omega, hB4, HI2.out, hO3, hb4, Nat.le_trans Hz3.out hz4⟩
   case measure => simp [intOf]; omega
  ·obtain rfl : k = l.length := by omega
   have g1 : decide ((l.length : Int) < (l.length : Int)) = false := decide_eq_false (by omega)
   rw [List.take_length] at hB hI hO
   have HB := Lib.hid hB
   have HI := Lib.hid hI
   have HO := Lib.hid hO
   clear hB hI hO
   go_wp2
   go_ret2
   exact ⟨a, _, w1.heap.size, rfl, HB.out, HI.out, HO.out, hsz, fun k hk => ⟨Ha.out k hk, Hlt.out k hk⟩, hb⟩
end Go.Proofs.YtampniiehgimhaaGreat
