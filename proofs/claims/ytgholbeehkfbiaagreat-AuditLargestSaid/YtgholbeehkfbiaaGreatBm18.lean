/- Texts of this claim, laid together: BookE. -/
import Derived.Test.YtgholbeehkfbiaaGreatRows
import Derived.Test.YtgholbeehkfbiaaGreatBm16
import Derived.WalkKit
import Derived.WalkSpells
import Derived.WalkLawsBesides
import Derived.Deep.QuietTactic
import Derived.BigQuiet
import Derived.Laws.StructEq
import Derived.Deep.DeepFit
import Derived.StillTailTactics

/- book: Accts, Holds, Closed, Copy, Same -/
namespace Go.Proofs.YtgholbeehkfbiaaGreat
open Go.RowKit
theorem SlS.acc {w : World} {S : Nat → Prop} {c : Nat} {A : Option Addr} {l : List Ac} (h : SlS w S A c l) {k : Nat} (hk : k < l.length) : ∃ b o, A = some ⟨b, o, none⟩ ∧ S b ∧ l[k].name.size ≤ maxLen ∧
    w.cell? ⟨b, o + k * 4, none⟩ = some (.string l[k].name) ∧ w.cell? ⟨b, o + k * 4 + 1, none⟩ = some (i64 l[k].hav) ∧ w.cell? ⟨b, o + k * 4 + 2, none⟩ = some (i64 l[k].set_) ∧ w.cell? ⟨b, o + k * 4 + 3, none⟩ = some (i64 l[k].lim) := by
  obtain ⟨b, o, hA, hb, hok, hc⟩ := h.at_ hk
  exact ⟨b, o, hA, hb, hok, hc 0 _ rfl, hc 1 _ rfl, hc 2 _ rfl, hc 3 _ rfl⟩
theorem neq_acB (a b : Ac) (w : World) : (binOp .neq 113 (.agg #[.string a.name, i64 a.hav, i64 a.set_, i64 a.lim]) (.agg #[.string b.name, i64 b.hav, i64 b.set_, i64 b.lim])).run Tryz.prog w = .ok (.bool (!decide (a = b))) w := by
  have u3 := Tryz.underlying2
  have a3 := Tryz.isAgg2
  have z3 := Tryz.sizeOf2
  have u9 := Tryz.underlying9
  have a9 := Tryz.isAgg9
  have z9 := Tryz.sizeOf9
  have hS : Tryz.prog.underlying 113 = some (.struct (Tryz.prog.fieldsOf 113)) := by kernel_rfl
  have hp : Tryz.prog.stoodInHeld 113 = false := by kernel_rfl
  rw [run_neq_struct, show (10000 : Nat) = 9999 + 1 from rfl, run_equalIn_agg w 9999 113 _ _ hS hp]
  simp only [Program.fieldsOf, Tryz.underlying113]
  go_simp
  by_cases h1 : a.name = b.name
  · have t1 := beqS_of_eq h1
    by_cases h2 : a.hav = b.hav
    · by_cases h3 : a.set_ = b.set_
      · by_cases h4 : a.lim = b.lim
        · rw [decide_eq_true (Ac.ext_ h1 h2 h3 h4)]; simp [h1, h2, h3, h4]
        · rw [decide_eq_false (fun e => h4 (by rw [e]))]; simp [h1, h2, h3, h4]
      · rw [decide_eq_false (fun e => h3 (by rw [e]))]; simp [h1, h2, h3]
    · rw [decide_eq_false (fun e => h2 (by rw [e]))]; simp [h1, h2]
  · have t1 := beqS_of_ne h1
    have t2 : ¬ a.name.toList = b.name.toList := by simpa using t1
    rw [decide_eq_false (fun e => h1 (by rw [e]))]; simp [t2]
theorem neq_hdB (a b : Held) (w : World) : (binOp .neq 151 (.agg #[i64 a.num, .string a.acct, i64 a.sum]) (.agg #[i64 b.num, .string b.acct, i64 b.sum])).run Tryz.prog w = .ok (.bool (!decide (a = b))) w := by
  have u3 := Tryz.underlying2
  have a3 := Tryz.isAgg2
  have z3 := Tryz.sizeOf2
  have u4 := Tryz.underlying3
  have a4 := Tryz.isAgg3
  have z4 := Tryz.sizeOf3
  have u9 := Tryz.underlying9
  have a9 := Tryz.isAgg9
  have z9 := Tryz.sizeOf9
  have hS : Tryz.prog.underlying 151 = some (.struct (Tryz.prog.fieldsOf 151)) := by kernel_rfl
  have hp : Tryz.prog.stoodInHeld 151 = false := by kernel_rfl
  rw [run_neq_struct, show (10000 : Nat) = 9999 + 1 from rfl, run_equalIn_agg w 9999 151 _ _ hS hp]
  simp only [Program.fieldsOf, Tryz.underlying151]
  go_simp
  by_cases h1 : a.num = b.num
  · by_cases h2 : a.acct = b.acct
    · by_cases h3 : a.sum = b.sum
      · rw [decide_eq_true (Held.ext_ h1 h2 h3)]; simp [h1, h2, h3]
      · rw [decide_eq_false (fun e => h3 (by rw [e]))]; simp [h1, h2, h3]
    · have t1 := beqS_of_ne h2
      have t2 : ¬ a.acct.toList = b.acct.toList := by simpa using t1
      rw [decide_eq_false (fun e => h2 (by rw [e]))]; simp [h1, t2]
  · rw [decide_eq_false (fun e => h1 (by rw [e]))]; simp [h1]
set_option maxRecDepth 100000 in
set_option maxHeartbeats 800000 in
theorem equal_ac (A C : Option Addr) (c d : Nat) (l m : List Ac) (w : World) (h : Sl w w.heap.size A c l) (k : Sl w w.heap.size C d m) (hl : l.length ≤ 65536) (hm : m.length ≤ 65536) :
    Calls Tryz.prog 76 #[.slice A l.length c, .slice C m.length d] w fun e w' => e = .returned (.bool (decide (l = m))) ∧ ∃ n, w.drewN n = w' := by
  by_cases hlm : l.length = m.length
  · have hne : ((l.length : Int) != (m.length : Int)) = false := by rw [hlm]; simp
    have HL := Lib.hid hlm
    clear hlm
    go_enter Tryz.func76, Tryz.ntmps76
    go_wp2
    go_loopw [13] (fun i wr => ∃ (j n : Nat), i = i64 j ∧ j ≤ l.length ∧ l.take j = m.take j ∧ wr = w.drewN n) (fun i _ => l.length - (intOf i).toNat)
    case atStart => exact ⟨0, 0, rfl, by omega, rfl, rfl⟩
    case round =>
      obtain ⟨j, n, rfl, hj, ht, rfl⟩ := hrel
      have HT := Lib.hid ht
      clear ht
      by_cases hlt : j < l.length
      · have hltm : j < m.length := by have := HL.out; omega
        obtain ⟨b, o, rfl, hb, -, c0, c1, c2, c3⟩ := h.acc hlt
        obtain ⟨b', o', rfl, hb', -, c0', c1', c2', c3'⟩ := k.acc hltm
        have he : ∀ W : World, (binOp .neq 113 (.agg #[.string l[j].name, i64 l[j].hav, i64 l[j].set_, i64 l[j].lim]) (.agg #[.string m[j].name, i64 m[j].hav, i64 m[j].set_, i64 m[j].lim])).run Tryz.prog W = .ok (.bool (!decide (l[j] = m[j]))) W := neq_acB _ _
        by_cases heq : l[j] = m[j]
        · simp only [decide_eq_true heq, Bool.not_true] at he
          have Heq := Lib.hid heq
          clear heq
          go_wp2
          go_quiet (fail)
          go_wp2
          go_roundw
          case rel => exact ⟨j + 1, n + _, by go_num, by omega, by rw [List.take_succ_eq_append_getElem hlt, List.take_succ_eq_append_getElem hltm, HT.out, Heq.out], rfl⟩
          case measure => simp [intOf]; omega
        · simp only [decide_eq_false heq, Bool.not_false] at he
          have Heq := Lib.hid heq
          clear heq
          go_wp2
          go_quiet (fail)
          go_wp2
          go_ret
          refine ⟨?_, _, (World.drewN_drewN _ _ _).symm⟩
          rw [decide_eq_false (show ¬ l = m from fun e => Heq.out (by subst e; rfl))]
          rfl
      · have hjl : j = l.length := by omega
        subst hjl
        go_wp2
        go_ret
        refine ⟨?_, _, rfl⟩
        rw [decide_eq_true (show l = m by
          have := HT.out
          rwa [List.take_length, List.take_of_length_le (by have := HL.out; omega)] at this)]
        rfl
  · have hne : ((l.length : Int) != (m.length : Int)) = true := by rw [bne_iff_ne]; omega
    have HL := Lib.hid hlm
    clear hlm
    go_enter Tryz.func76, Tryz.ntmps76
    go_wp2
    go_ret
    refine ⟨?_, 0, rfl⟩
    rw [decide_eq_false (show ¬ l = m from fun e => HL.out (by rw [e]))]
    rfl
set_option maxRecDepth 100000 in
set_option maxHeartbeats 800000 in
theorem equal_hd (A C : Option Addr) (c d : Nat) (l m : List Held) (w : World) (h : Sl w w.heap.size A c l) (k : Sl w w.heap.size C d m) (hl : l.length ≤ 65536) (hm : m.length ≤ 65536) :
    Calls Tryz.prog 77 #[.slice A l.length c, .slice C m.length d] w fun e w' => e = .returned (.bool (decide (l = m))) ∧ ∃ n, w.drewN n = w' := by
  by_cases hlm : l.length = m.length
  · have hne : ((l.length : Int) != (m.length : Int)) = false := by rw [hlm]; simp
    have HL := Lib.hid hlm
    clear hlm
    go_enter Tryz.func77, Tryz.ntmps77
    go_wp2
    go_loopw [13] (fun i wr => ∃ (j n : Nat), i = i64 j ∧ j ≤ l.length ∧ l.take j = m.take j ∧ wr = w.drewN n) (fun i _ => l.length - (intOf i).toNat)
    case atStart => exact ⟨0, 0, rfl, by omega, rfl, rfl⟩
    case round =>
      obtain ⟨j, n, rfl, hj, ht, rfl⟩ := hrel
      have HT := Lib.hid ht
      clear ht
      by_cases hlt : j < l.length
      · have hltm : j < m.length := by have := HL.out; omega
        obtain ⟨b, o, rfl, hb, -, c0, c1, c2⟩ := h.held hlt
        obtain ⟨b', o', rfl, hb', -, c0', c1', c2'⟩ := k.held hltm
        have he : ∀ W : World, (binOp .neq 151 (.agg #[i64 l[j].num, .string l[j].acct, i64 l[j].sum]) (.agg #[i64 m[j].num, .string m[j].acct, i64 m[j].sum])).run Tryz.prog W = .ok (.bool (!decide (l[j] = m[j]))) W := neq_hdB _ _
        by_cases heq : l[j] = m[j]
        · simp only [decide_eq_true heq, Bool.not_true] at he
          have Heq := Lib.hid heq
          clear heq
          go_wp2
          go_quiet (fail)
          go_wp2
          go_roundw
          case rel => exact ⟨j + 1, n + _, by go_num, by omega, by rw [List.take_succ_eq_append_getElem hlt, List.take_succ_eq_append_getElem hltm, HT.out, Heq.out], rfl⟩
          case measure => simp [intOf]; omega
        · simp only [decide_eq_false heq, Bool.not_false] at he
          have Heq := Lib.hid heq
          clear heq
          go_wp2
          go_quiet (fail)
          go_wp2
          go_ret
          refine ⟨?_, _, (World.drewN_drewN _ _ _).symm⟩
          rw [decide_eq_false (show ¬ l = m from fun e => Heq.out (by subst e; rfl))]
          rfl
      · have hjl : j = l.length := by omega
        subst hjl
        go_wp2
        go_ret
        refine ⟨?_, _, rfl⟩
        rw [decide_eq_true (show l = m by
          have := HT.out
          rwa [List.take_length, List.take_of_length_le (by have := HL.out; omega)] at this)]
        rfl
  · have hne : ((l.length : Int) != (m.length : Int)) = true := by rw [bne_iff_ne]; omega
    have HL := Lib.hid hlm
    clear hlm
    go_enter Tryz.func77, Tryz.ntmps77
    go_wp2
    go_ret
    refine ⟨?_, 0, rfl⟩
    rw [decide_eq_false (show ¬ l = m from fun e => HL.out (by rw [e]))]
    rfl
set_option maxRecDepth 100000 in
set_option maxHeartbeats 2000000 in
theorem baccts_c (a : BA) (B : Bk) (w : World) (h : BkA w a B) (hI : InvB B) : Calls Tryz.prog 58 #[a.ptr] w fun e w' => ∃ v, e = .returned v ∧ Own w' w.heap.size 113 v B.L ∧ Below w.heap.size w w' := by
  have hA := Lib.hid (challA_c a.g a.b B.L w h.ch hI.inv.okA (Nat.le_trans hI.len (by decide)))
  have p0 := cell_of_row _ a.p 0 _ _ (0, 0) h.cell
  simp only [List.getElem?_toArray, List.getElem?_cons_zero] at p0
  go_enter Tryz.func58, Tryz.ntmps58
  go_wp2_with fail
  refine hA.out.mono ?_
  rintro e w1 ⟨v, rfl, hO, hF⟩
  have HO := Lib.hid hO
  have HF := Lib.hid hF
  clear hO hF
  go_wp2
  go_ret
  exact ⟨v, rfl, HO.out, HF.out⟩
set_option maxRecDepth 100000 in
set_option maxHeartbeats 2000000 in
theorem bholds_c (a : BA) (B : Bk) (w : World) (h : BkA w a B) (hI : InvB B) : Calls Tryz.prog 61 #[a.ptr] w fun e w' => ∃ v, e = .returned v ∧ Own w' w.heap.size 151 v B.H ∧ Below w.heap.size w w' := by
  have hA := Lib.hid (hoall_c a.gh a.bh B.H w h.ho hI.inv.okH (Nat.le_trans hI.lenH (by decide)))
  have p1 := cell_of_row _ a.p 1 _ _ (0, 0) h.cell
  simp only [List.getElem?_toArray, List.getElem?_cons_zero, List.getElem?_cons_succ] at p1
  go_enter Tryz.func61, Tryz.ntmps61
  go_wp2_with fail
  refine hA.out.mono ?_
  rintro e w1 ⟨v, rfl, hO, hF⟩
  have HO := Lib.hid hO
  have HF := Lib.hid hF
  clear hO hF
  go_wp2
  go_ret
  exact ⟨v, rfl, HO.out, HF.out⟩
theorem bclosed_c (a : BA) (B : Bk) (w : World) (h : BkA w a B) : Calls Tryz.prog 75 #[a.ptr] w fun e w' => e = .returned (i64 B.cl) ∧ w = w' := by
  have p2 := cell_of_row _ a.p 2 _ _ (0, 0) h.cell
  simp only [List.getElem?_toArray, List.getElem?_cons_zero, List.getElem?_cons_succ] at p2
  go_enter Tryz.func75, Tryz.ntmps75
  go_wp2
  go_ret
  exact ⟨rfl, rfl⟩
theorem hocopyB_c (g b : Nat) (H : List Held) (w : World) (h : HoA w g b H) :
    Calls Tryz.prog 109 #[.pointer (some ⟨g, 0, none⟩)] w fun e w' => ∃ g' b', e = .returned (.pointer (some ⟨g', 0, none⟩)) ∧ HoA w' g' b' H ∧ w.heap.size ≤ g' ∧ w.heap.size ≤ b' ∧ Below w.heap.size w w' := by
  obtain ⟨M, h, hr⟩ := h
  exact (hocopy_c g b M w h).mono fun _ _ ⟨g', b', h1, h2, h3⟩ => ⟨g', b', h1, ⟨M, h2, hr⟩, h3⟩
set_option maxRecDepth 100000 in
set_option maxHeartbeats 4000000 in
theorem bcopy_c (a : BA) (B : Bk) (w : World) (h : BkA w a B) : Calls Tryz.prog 62 #[a.ptr] w fun e w' => ∃ c : BA, e = .returned c.ptr ∧ BkA w' c B ∧ (∀ k, c.all k → w.heap.size ≤ k) ∧ Below w.heap.size w w' := by
  have HC := Lib.hid (fun (W : World) (hW : BkA W a B) => chcopyA_c a.g a.b B.L W hW.ch)
  have HH := Lib.hid (fun (W : World) (hW : BkA W a B) => hocopyB_c a.gh a.bh B.H W hW.ho)
  have HSS := Lib.hid (show ∀ V, Below w.heap.size w V → (fun V : World => V.cell? ⟨a.p, 0, none⟩ = some (.pointer (some ⟨a.g, 0, none⟩)) ∧ V.cell? ⟨a.p, 1, none⟩ = some (.pointer (some ⟨a.gh, 0, none⟩)) ∧ V.cell? ⟨a.p, 2, none⟩ = some (i64 B.cl)) V from fun V hb => by
    have hc := (h.later hb).cell
    exact ⟨cell_of_row _ a.p 0 _ _ (0, 0) hc, cell_of_row _ a.p 1 _ _ (0, 0) hc, cell_of_row _ a.p 2 _ _ (0, 0) hc⟩)
  have H := Lib.hid h
  have hb := (Below.refl w.heap.size w).drew
  clear h
  go_enter Tryz.func62, Tryz.ntmps62
  go_wp2_with fail
  refine wp_region_noPanic ?_
  refine wp_region_l 16 (fun V : World => V.cell? ⟨a.p, 0, none⟩ = some (.pointer (some ⟨a.g, 0, none⟩)) ∧ V.cell? ⟨a.p, 1, none⟩ = some (.pointer (some ⟨a.gh, 0, none⟩)) ∧ V.cell? ⟨a.p, 2, none⟩ = some (i64 B.cl)) (by kernel_rfl) (HSS.out _ hb) (fun hH => ?_)
  refine wpAnyL_take (i := 0) (v := ?v20001) rfl (by kernel_rfl) (by kernel_rfl) (by kernel_rfl) (by kernel_rfl) (fun _ _ _ h => h) (Or.inl ⟨by kernel_rfl, ?hy20001⟩) (by assumption) ?r20001
  case hy20001 => (intro W hSW; obtain ⟨s0, s1, s2⟩ := hSW; go_simp; try with_reducible rfl)
  try simp only [Act.put, List.getElem_toArray, List.getElem_cons_zero, List.setIfInBounds_toArray, List.set_cons_zero, List.set_cons_succ]
  refine wpAnyL_take (i := 1) (v := ?v20002) rfl (by kernel_rfl) (by kernel_rfl) (by kernel_rfl) (by kernel_rfl) (fun _ _ _ h => h) (Or.inl ⟨by kernel_rfl, ?hy20002⟩) (by assumption) ?r20002
  case hy20002 => (intro W hSW; obtain ⟨s0, s1, s2⟩ := hSW; go_simp; try with_reducible rfl)
  try simp only [Act.put, List.getElem_toArray, List.getElem_cons_zero, List.getElem_cons_succ, List.setIfInBounds_toArray, List.set_cons_zero, List.set_cons_succ]
  refine wpAnyL_take (i := 2) (v := ?v20003) rfl (by kernel_rfl) (by kernel_rfl) (by kernel_rfl) (by kernel_rfl) (fun _ _ _ h => h) (Or.inl ⟨by kernel_rfl, ?hy20003⟩) (by assumption) ?r20003
  case hy20003 => (intro W hSW; obtain ⟨s0, s1, s2⟩ := hSW; go_simp; try with_reducible rfl)
  try simp only [Act.put, List.getElem_toArray, List.getElem_cons_zero, List.getElem_cons_succ, List.setIfInBounds_toArray, List.set_cons_zero, List.set_cons_succ]
  refine wpAnyL_take (i := 3) (v := ?v20004) rfl (by kernel_rfl) (by kernel_rfl) (by kernel_rfl) (by kernel_rfl) (fun _ _ _ h => h) (Or.inl ⟨by kernel_rfl, ?hy20004⟩) (by assumption) ?r20004
  case hy20004 => (intro W hSW; obtain ⟨s0, s1, s2⟩ := hSW; go_simp; try with_reducible rfl)
  try simp only [Act.put, List.getElem_toArray, List.getElem_cons_zero, List.getElem_cons_succ, List.setIfInBounds_toArray, List.set_cons_zero, List.set_cons_succ]
  refine wpAnyL_take (i := 5) (v := ?v20005) rfl (by kernel_rfl) (by kernel_rfl) (by kernel_rfl) (by kernel_rfl) (fun _ _ _ h => h) (Or.inl ⟨by kernel_rfl, ?hy20005⟩) (by assumption) ?r20005
  case hy20005 => (intro W hSW; obtain ⟨s0, s1, s2⟩ := hSW; go_simp; try with_reducible rfl)
  try simp only [Act.put, List.getElem_toArray, List.getElem_cons_zero, List.getElem_cons_succ, List.setIfInBounds_toArray, List.set_cons_zero, List.set_cons_succ]
  refine wpAnyL_take (i := 6) (v := ?v20006) rfl (by kernel_rfl) (by kernel_rfl) (by kernel_rfl) (by kernel_rfl) (fun _ _ _ h => h) (Or.inl ⟨by kernel_rfl, ?hy20006⟩) (by assumption) ?r20006
  case hy20006 => (intro W hSW; obtain ⟨s0, s1, s2⟩ := hSW; go_simp; try with_reducible rfl)
  try simp only [Act.put, List.getElem_toArray, List.getElem_cons_zero, List.getElem_cons_succ, List.setIfInBounds_toArray, List.set_cons_zero, List.set_cons_succ]
  refine wpAnyL_take (i := 7) (v := ?v20007) rfl (by kernel_rfl) (by kernel_rfl) (by kernel_rfl) (by kernel_rfl) (fun _ _ _ h => h) (Or.inl ⟨by kernel_rfl, ?hy20007⟩) (by assumption) ?r20007
  case hy20007 => (intro W hSW; obtain ⟨s0, s1, s2⟩ := hSW; go_simp; try with_reducible rfl)
  try simp only [Act.put, List.getElem_toArray, List.getElem_cons_zero, List.getElem_cons_succ, List.setIfInBounds_toArray, List.set_cons_zero, List.set_cons_succ]
  refine wpAnyL_take (i := 8) (v := ?v20008) rfl (by kernel_rfl) (by kernel_rfl) (by kernel_rfl) (by kernel_rfl) (fun _ _ _ h => h) (Or.inl ⟨by kernel_rfl, ?hy20008⟩) (by assumption) ?r20008
  case hy20008 => (intro W hSW; obtain ⟨s0, s1, s2⟩ := hSW; go_simp; try with_reducible rfl)
  try simp only [Act.put, List.getElem_toArray, List.getElem_cons_zero, List.getElem_cons_succ, List.setIfInBounds_toArray, List.set_cons_zero, List.set_cons_succ]
  refine wpAnyL_take (i := 10) (v := ?v20009) rfl (by kernel_rfl) (by kernel_rfl) (by kernel_rfl) (by kernel_rfl) (fun _ _ _ h => h) (Or.inl ⟨by kernel_rfl, ?hy20009⟩) (by assumption) ?r20009
  case hy20009 => (intro W hSW; obtain ⟨s0, s1, s2⟩ := hSW; go_simp; try with_reducible rfl)
  try simp only [Act.put, List.getElem_toArray, List.getElem_cons_zero, List.getElem_cons_succ, List.setIfInBounds_toArray, List.set_cons_zero, List.set_cons_succ]
  refine wpAnyL_take (i := 11) (v := ?v20010) rfl (by kernel_rfl) (by kernel_rfl) (by kernel_rfl) (by kernel_rfl) (fun _ _ _ h => h) (Or.inl ⟨by kernel_rfl, ?hy20010⟩) (by assumption) ?r20010
  case hy20010 => (intro W hSW; obtain ⟨s0, s1, s2⟩ := hSW; go_simp; try with_reducible rfl)
  try simp only [Act.put, List.getElem_toArray, List.getElem_cons_zero, List.getElem_cons_succ, List.setIfInBounds_toArray, List.set_cons_zero, List.set_cons_succ]
  refine wpAnyL_take (i := 12) (v := ?v20011) rfl (by kernel_rfl) (by kernel_rfl) (by kernel_rfl) (by kernel_rfl) (fun _ _ _ h => h) (Or.inl ⟨by kernel_rfl, ?hy20011⟩) (by assumption) ?r20011
  case hy20011 => (intro W hSW; obtain ⟨s0, s1, s2⟩ := hSW; go_simp; try with_reducible rfl)
  try simp only [Act.put, List.getElem_toArray, List.getElem_cons_zero, List.getElem_cons_succ, List.setIfInBounds_toArray, List.set_cons_zero, List.set_cons_succ]
  refine wpAnyL_take (i := 13) (v := ?v20012) rfl (by kernel_rfl) (by kernel_rfl) (by kernel_rfl) (by kernel_rfl) (fun _ _ _ h => h) (Or.inl ⟨by kernel_rfl, ?hy20012⟩) (by assumption) ?r20012
  case hy20012 => (intro W hSW; obtain ⟨s0, s1, s2⟩ := hSW; go_simp; try with_reducible rfl)
  try simp only [Act.put, List.getElem_toArray, List.getElem_cons_zero, List.getElem_cons_succ, List.setIfInBounds_toArray, List.set_cons_zero, List.set_cons_succ]
  refine wpAnyL_one (i := 4) (by kernel_rfl) rfl (by decide) (fun K hK => ?_)
  go_simp
  refine (HC.out _ (H.out.later hb)).mono ?_
  rintro e w1 ⟨g1, b1, rfl, hc1, hg1, hb1, hF⟩
  have hb := hb.trans (hF.mono hb.size)
  clear hF
  refine hK.out _ _ (HSS.out _ hb) (fun hH => ?_)
  clear hK K
  try simp only [Act.put, List.getElem_toArray, List.getElem_cons_zero, List.getElem_cons_succ, List.setIfInBounds_toArray, List.set_cons_zero, List.set_cons_succ]
  refine wpAnyL_one (i := 9) (by kernel_rfl) rfl (by decide) (fun K hK => ?_)
  go_simp
  refine (HH.out _ (H.out.later hb)).mono ?_
  rintro e w2 ⟨g2, b2, rfl, hh2, hg2, hb2, hF⟩
  have hc2 := hc1.later hF
  have hz := hF.size
  have hl1 := hc1.lt
  have hb := hb.trans (hF.mono hb.size)
  clear hF hc1
  refine hK.out _ _ (HSS.out _ hb) (fun hH => ?_)
  clear hK K
  try simp only [Act.put, List.getElem_toArray, List.getElem_cons_zero, List.getElem_cons_succ, List.setIfInBounds_toArray, List.set_cons_zero, List.set_cons_succ]
  refine wpAnyL_take (i := 14) (v := ?v20013) rfl (by kernel_rfl) (by kernel_rfl) (by kernel_rfl) (by kernel_rfl) (fun _ _ _ h => h) (Or.inl ⟨by kernel_rfl, ?hy20013⟩) (by assumption) ?r20013
  case hy20013 => (intro W hSW; obtain ⟨s0, s1, s2⟩ := hSW; go_simp; try with_reducible rfl)
  try simp only [Act.put, List.getElem_toArray, List.getElem_cons_zero, List.getElem_cons_succ, List.setIfInBounds_toArray, List.set_cons_zero, List.set_cons_succ]
  refine wpAnyL_one (i := 15) (by kernel_rfl) rfl (by decide) (fun K hK => ?_)
  go_simp
  have hba := (Below.refl w2.heap.size w2).alloc (Nat.le_refl _) (.cells #[.pointer (some ⟨g1, 0, none⟩), .pointer (some ⟨g2, 0, none⟩), i64 B.cl] 126)
  have hl2 := hh2.lt
  have hw0 : w.heap.size ≤ w.drew.heap.size := Nat.le_refl _
  have hA : BkA (w2.alloc (.cells #[.pointer (some ⟨g1, 0, none⟩), .pointer (some ⟨g2, 0, none⟩), i64 B.cl] 126)) ⟨w2.heap.size, g1, b1, g2, b2⟩ B := ⟨heap_alloc_new w2 _, hc2.later hba, hh2.later hba, ⟨by show w2.heap.size ≠ g1; omega, by show w2.heap.size ≠ b1; omega, by show w2.heap.size ≠ g2; omega, by show w2.heap.size ≠ b2; omega, by show g2 ≠ b1; omega, by show b2 ≠ b1; omega, by show g1 ≠ b2; omega⟩⟩
  have hbw := hb.size
  have hall : ∀ k, (⟨w2.heap.size, g1, b1, g2, b2⟩ : BA).all k → w.heap.size ≤ k := fun k hk => by
    have hk : k = w2.heap.size ∨ k = g1 ∨ k = b1 ∨ k = g2 ∨ k = b2 := hk
    have hd : w.drew.heap.size = w.heap.size := rfl
    omega
  have HA := Lib.hid hA
  have Hall := Lib.hid hall
  have hb := hb.alloc hbw (.cells #[.pointer (some ⟨g1, 0, none⟩), .pointer (some ⟨g2, 0, none⟩), i64 B.cl] 126)
  clear hA hall hba
  refine hK.out _ _ (HSS.out _ hb) (fun hH => ?_)
  clear hK K
  try simp only [Act.put, List.getElem_toArray, List.getElem_cons_zero, List.getElem_cons_succ, List.setIfInBounds_toArray, List.set_cons_zero, List.set_cons_succ]
  refine wpAnyL_last (by kernel_rfl) rfl (fun K hK => ?_)
  go_simp
  refine hK.out _ _ ?_
  clear hK K
  try simp only [Act.put, List.getElem_toArray, List.getElem_cons_zero, List.getElem_cons_succ, List.setIfInBounds_toArray, List.set_cons_zero, List.set_cons_succ]
  refine wpAnyL_done (by kernel_rfl) ?_ _
  refine NoPanic.normal ?_
  go_wp2
  go_ret
  exact ⟨_, rfl, HA.out, Hall.out, hb⟩
def sameBk (B C : Bk) : Bool := decide (B.L = C.L) && (decide (B.H = C.H) && decide (B.cl = C.cl))
theorem sameBk_iff {B C : Bk} : sameBk B C = true ↔ B = C := by
  unfold sameBk
  simp only [Bool.and_eq_true, decide_eq_true_eq]
  exact ⟨fun h => Bk.ext_ h.1 h.2.1 h.2.2, fun e => by rw [e]; exact ⟨rfl, rfl, rfl⟩⟩
theorem sameBk_refl (B : Bk) : sameBk B B = true := sameBk_iff.2 rfl
set_option maxRecDepth 100000 in
set_option maxHeartbeats 8000000 in
theorem bsame_c (a c : BA) (B C : Bk) (w : World) (h : BkA w a B) (k : BkA w c C) (hI : InvB B) (kI : InvB C) : Calls Tryz.prog 22 #[a.ptr, c.ptr] w fun e w' => e = .returned (.bool (sameBk B C)) ∧ Below w.heap.size w w' := by
  have HA := Lib.hid (fun (W : World) (hW : BkA W a B) => baccts_c a B W hW hI)
  have HA2 := Lib.hid (fun (W : World) (hW : BkA W c C) => baccts_c c C W hW kI)
  have HH := Lib.hid (fun (W : World) (hW : BkA W a B) => bholds_c a B W hW hI)
  have HH2 := Lib.hid (fun (W : World) (hW : BkA W c C) => bholds_c c C W hW kI)
  have HSS := Lib.hid (show ∀ V, Below w.heap.size w V → (fun V : World => V.cell? ⟨a.p, 2, none⟩ = some (i64 B.cl) ∧ V.cell? ⟨c.p, 2, none⟩ = some (i64 C.cl)) V from fun V hb => ⟨cell_of_row _ a.p 2 _ _ (0, 0) (h.later hb).cell, cell_of_row _ c.p 2 _ _ (0, 0) (k.later hb).cell⟩)
  have H := Lib.hid h
  have HKc := Lib.hid k
  have HL := Lib.hid (show B.L.length ≤ 65536 ∧ C.L.length ≤ 65536 ∧ B.H.length ≤ 65536 ∧ C.H.length ≤ 65536 from ⟨Nat.le_trans hI.len (by decide), Nat.le_trans kI.len (by decide), Nat.le_trans hI.lenH (by decide), Nat.le_trans kI.lenH (by decide)⟩)
  have hb := (Below.refl w.heap.size w).drew
  have HD := Lib.hid (show sameBk B C = (decide (B.L = C.L) && (decide (B.H = C.H) && decide (B.cl = C.cl))) from rfl)
  obtain ⟨R, hR⟩ : ∃ R, sameBk B C = R := ⟨_, rfl⟩
  rw [hR] at HD ⊢
  clear h k hI kI hR
  have HE := Lib.hid (fun (A1 A2 : Option Addr) (c1 c2 : Nat) (W : World) (h1 : Sl W W.heap.size A1 c1 B.L) (h2 : Sl W W.heap.size A2 c2 C.L) => equal_ac A1 A2 c1 c2 B.L C.L W h1 h2 HL.out.1 HL.out.2.1)
  have HE2 := Lib.hid (fun (A1 A2 : Option Addr) (c1 c2 : Nat) (W : World) (h1 : Sl W W.heap.size A1 c1 B.H) (h2 : Sl W W.heap.size A2 c2 C.H) => equal_hd A1 A2 c1 c2 B.H C.H W h1 h2 HL.out.2.2.1 HL.out.2.2.2)
  generalize decide (B.L = C.L) = qa at *
  generalize decide (B.H = C.H) = qh at *
  generalize hqc : decide (B.cl = C.cl) = qc at *
  have hqc2 : (B.cl == C.cl) = qc := by rw [← hqc]; rfl
  clear hqc
  cases qa with
  | false =>
    have HR := Lib.hid (show R = false from HD.out)
    clear HD
    go_enter Tryz.func22, Tryz.ntmps22
    go_wp2_with fail
    refine wp_region_noPanic ?_
    refine wp_region_l 23 (fun V : World => V.cell? ⟨a.p, 2, none⟩ = some (i64 B.cl) ∧ V.cell? ⟨c.p, 2, none⟩ = some (i64 C.cl)) (by kernel_rfl) (HSS.out _ hb) (fun hH => ?_)
    refine wpAnyL_take (i := 0) (v := ?v20014) rfl (by kernel_rfl) (by kernel_rfl) (by kernel_rfl) (by kernel_rfl) (fun _ _ _ h => h) (Or.inl ⟨by kernel_rfl, ?hy20014⟩) (by assumption) ?r20014
    case hy20014 => (intro W hSW; obtain ⟨s0, s1⟩ := hSW; go_simp; try with_reducible rfl)
    try simp only [Act.put, List.getElem_toArray, List.getElem_cons_zero, List.setIfInBounds_toArray, List.set_cons_zero, List.set_cons_succ]
    refine wpAnyL_take (i := 2) (v := ?v20015) rfl (by kernel_rfl) (by kernel_rfl) (by kernel_rfl) (by kernel_rfl) (fun _ _ _ h => h) (Or.inl ⟨by kernel_rfl, ?hy20015⟩) (by assumption) ?r20015
    case hy20015 => (intro W hSW; obtain ⟨s0, s1⟩ := hSW; go_simp; try with_reducible rfl)
    try simp only [Act.put, List.getElem_toArray, List.getElem_cons_zero, List.getElem_cons_succ, List.setIfInBounds_toArray, List.set_cons_zero, List.set_cons_succ]
    refine wpAnyL_one (i := 1) (by kernel_rfl) rfl (by decide) (fun K hK => ?_)
    go_simp
    refine (HA.out _ (H.out.later hb)).mono ?_
    rintro e u1 ⟨v1, rfl, hO1, hF⟩
    obtain ⟨A1, c1, rfl, s1⟩ := hO1.sl
    have hb := hb.trans (hF.mono hb.size)
    clear hF hO1
    refine hK.out _ _ (HSS.out _ hb) (fun hH => ?_)
    clear hK K
    try simp only [Act.put, List.getElem_toArray, List.getElem_cons_zero, List.getElem_cons_succ, List.setIfInBounds_toArray, List.set_cons_zero, List.set_cons_succ]
    refine wpAnyL_one (i := 3) (by kernel_rfl) rfl (by decide) (fun K hK => ?_)
    go_simp
    refine (HA2.out _ (HKc.out.later hb)).mono ?_
    rintro e u2 ⟨v2, rfl, hO2, hF⟩
    obtain ⟨A2, c2, rfl, s2⟩ := hO2.sl
    have s1 := s1.later hF
    have hb := hb.trans (hF.mono hb.size)
    clear hF hO2
    refine hK.out _ _ (HSS.out _ hb) (fun hH => ?_)
    clear hK K
    try simp only [Act.put, List.getElem_toArray, List.getElem_cons_zero, List.getElem_cons_succ, List.setIfInBounds_toArray, List.set_cons_zero, List.set_cons_succ]
    refine wpAnyL_one (i := 4) (by kernel_rfl) rfl (by decide) (fun K hK => ?_)
    go_simp
    refine (HE.out A1 A2 c1 c2 _ s1 s2).mono ?_
    rintro e u3 ⟨rfl, nq, rfl⟩
    have hb := below_drewN hb nq
    clear s1 s2
    refine hK.out _ _ (HSS.out _ hb) (fun hH => ?_)
    clear hK K
    try simp only [Act.put, List.getElem_toArray, List.getElem_cons_zero, List.getElem_cons_succ, List.setIfInBounds_toArray, List.set_cons_zero, List.set_cons_succ]
    refine wpAnyL_take (i := 5) (v := ?v20016) rfl (by kernel_rfl) (by kernel_rfl) (by kernel_rfl) (by kernel_rfl) (fun _ _ _ h => h) (Or.inl ⟨by kernel_rfl, ?hy20016⟩) (by assumption) ?r20016
    case hy20016 => (intro W hSW; obtain ⟨s0, s1⟩ := hSW; go_simp; try with_reducible rfl)
    try simp only [Act.put, List.getElem_toArray, List.getElem_cons_zero, List.getElem_cons_succ, List.setIfInBounds_toArray, List.set_cons_zero, List.set_cons_succ]
    refine wpAnyL_take (i := 6) (v := undef) rfl (by kernel_rfl) (by kernel_rfl) (by kernel_rfl) (by kernel_rfl) (fun _ _ _ h => h) (Or.inr ⟨by kernel_rfl, rfl⟩) (by assumption) ?r20017
    try simp only [Act.put, List.getElem_toArray, List.getElem_cons_zero, List.getElem_cons_succ, List.setIfInBounds_toArray, List.set_cons_zero, List.set_cons_succ]
    refine wpAnyL_take (i := 7) (v := undef) rfl (by kernel_rfl) (by kernel_rfl) (by kernel_rfl) (by kernel_rfl) (fun _ _ _ h => h) (Or.inr ⟨by kernel_rfl, rfl⟩) (by assumption) ?r20018
    try simp only [Act.put, List.getElem_toArray, List.getElem_cons_zero, List.getElem_cons_succ, List.setIfInBounds_toArray, List.set_cons_zero, List.set_cons_succ]
    refine wpAnyL_take (i := 8) (v := undef) rfl (by kernel_rfl) (by kernel_rfl) (by kernel_rfl) (by kernel_rfl) (fun _ _ _ h => h) (Or.inr ⟨by kernel_rfl, rfl⟩) (by assumption) ?r20019
    try simp only [Act.put, List.getElem_toArray, List.getElem_cons_zero, List.getElem_cons_succ, List.setIfInBounds_toArray, List.set_cons_zero, List.set_cons_succ]
    refine wpAnyL_take (i := 9) (v := undef) rfl (by kernel_rfl) (by kernel_rfl) (by kernel_rfl) (by kernel_rfl) (fun _ _ _ h => h) (Or.inr ⟨by kernel_rfl, rfl⟩) (by assumption) ?r20020
    try simp only [Act.put, List.getElem_toArray, List.getElem_cons_zero, List.getElem_cons_succ, List.setIfInBounds_toArray, List.set_cons_zero, List.set_cons_succ]
    refine wpAnyL_take (i := 10) (v := undef) rfl (by kernel_rfl) (by kernel_rfl) (by kernel_rfl) (by kernel_rfl) (fun _ _ _ h => h) (Or.inr ⟨by kernel_rfl, rfl⟩) (by assumption) ?r20021
    try simp only [Act.put, List.getElem_toArray, List.getElem_cons_zero, List.getElem_cons_succ, List.setIfInBounds_toArray, List.set_cons_zero, List.set_cons_succ]
    refine wpAnyL_take (i := 11) (v := ?v20022) rfl (by kernel_rfl) (by kernel_rfl) (by kernel_rfl) (by kernel_rfl) (fun _ _ _ h => h) (Or.inl ⟨by kernel_rfl, ?hy20022⟩) (by assumption) ?r20022
    case hy20022 => (intro W hSW; obtain ⟨s0, s1⟩ := hSW; go_simp; try with_reducible rfl)
    try simp only [Act.put, List.getElem_toArray, List.getElem_cons_zero, List.getElem_cons_succ, List.setIfInBounds_toArray, List.set_cons_zero, List.set_cons_succ]
    refine wpAnyL_take (i := 12) (v := ?v20023) rfl (by kernel_rfl) (by kernel_rfl) (by kernel_rfl) (by kernel_rfl) (fun _ _ _ h => h) (Or.inl ⟨by kernel_rfl, ?hy20023⟩) (by assumption) ?r20023
    case hy20023 => (intro W hSW; obtain ⟨s0, s1⟩ := hSW; go_simp; try with_reducible rfl)
    try simp only [Act.put, List.getElem_toArray, List.getElem_cons_zero, List.getElem_cons_succ, List.setIfInBounds_toArray, List.set_cons_zero, List.set_cons_succ]
    refine wpAnyL_take (i := 13) (v := undef) rfl (by kernel_rfl) (by kernel_rfl) (by kernel_rfl) (by kernel_rfl) (fun _ _ _ h => h) (Or.inr ⟨by kernel_rfl, rfl⟩) (by assumption) ?r20024
    try simp only [Act.put, List.getElem_toArray, List.getElem_cons_zero, List.getElem_cons_succ, List.setIfInBounds_toArray, List.set_cons_zero, List.set_cons_succ]
    refine wpAnyL_take (i := 14) (v := undef) rfl (by kernel_rfl) (by kernel_rfl) (by kernel_rfl) (by kernel_rfl) (fun _ _ _ h => h) (Or.inr ⟨by kernel_rfl, rfl⟩) (by assumption) ?r20025
    try simp only [Act.put, List.getElem_toArray, List.getElem_cons_zero, List.getElem_cons_succ, List.setIfInBounds_toArray, List.set_cons_zero, List.set_cons_succ]
    refine wpAnyL_take (i := 15) (v := undef) rfl (by kernel_rfl) (by kernel_rfl) (by kernel_rfl) (by kernel_rfl) (fun _ _ _ h => h) (Or.inr ⟨by kernel_rfl, rfl⟩) (by assumption) ?r20026
    try simp only [Act.put, List.getElem_toArray, List.getElem_cons_zero, List.getElem_cons_succ, List.setIfInBounds_toArray, List.set_cons_zero, List.set_cons_succ]
    refine wpAnyL_take (i := 16) (v := undef) rfl (by kernel_rfl) (by kernel_rfl) (by kernel_rfl) (by kernel_rfl) (fun _ _ _ h => h) (Or.inr ⟨by kernel_rfl, rfl⟩) (by assumption) ?r20027
    try simp only [Act.put, List.getElem_toArray, List.getElem_cons_zero, List.getElem_cons_succ, List.setIfInBounds_toArray, List.set_cons_zero, List.set_cons_succ]
    refine wpAnyL_take (i := 17) (v := undef) rfl (by kernel_rfl) (by kernel_rfl) (by kernel_rfl) (by kernel_rfl) (fun _ _ _ h => h) (Or.inr ⟨by kernel_rfl, rfl⟩) (by assumption) ?r20028
    try simp only [Act.put, List.getElem_toArray, List.getElem_cons_zero, List.getElem_cons_succ, List.setIfInBounds_toArray, List.set_cons_zero, List.set_cons_succ]
    refine wpAnyL_take (i := 18) (v := undef) rfl (by kernel_rfl) (by kernel_rfl) (by kernel_rfl) (by kernel_rfl) (fun _ _ _ h => h) (Or.inr ⟨by kernel_rfl, rfl⟩) (by assumption) ?r20029
    try simp only [Act.put, List.getElem_toArray, List.getElem_cons_zero, List.getElem_cons_succ, List.setIfInBounds_toArray, List.set_cons_zero, List.set_cons_succ]
    refine wpAnyL_take (i := 19) (v := undef) rfl (by kernel_rfl) (by kernel_rfl) (by kernel_rfl) (by kernel_rfl) (fun _ _ _ h => h) (Or.inr ⟨by kernel_rfl, rfl⟩) (by assumption) ?r20030
    try simp only [Act.put, List.getElem_toArray, List.getElem_cons_zero, List.getElem_cons_succ, List.setIfInBounds_toArray, List.set_cons_zero, List.set_cons_succ]
    refine wpAnyL_take (i := 20) (v := undef) rfl (by kernel_rfl) (by kernel_rfl) (by kernel_rfl) (by kernel_rfl) (fun _ _ _ h => h) (Or.inr ⟨by kernel_rfl, rfl⟩) (by assumption) ?r20031
    try simp only [Act.put, List.getElem_toArray, List.getElem_cons_zero, List.getElem_cons_succ, List.setIfInBounds_toArray, List.set_cons_zero, List.set_cons_succ]
    refine wpAnyL_take (i := 21) (v := undef) rfl (by kernel_rfl) (by kernel_rfl) (by kernel_rfl) (by kernel_rfl) (fun _ _ _ h => h) (Or.inr ⟨by kernel_rfl, rfl⟩) (by assumption) ?r20032
    try simp only [Act.put, List.getElem_toArray, List.getElem_cons_zero, List.getElem_cons_succ, List.setIfInBounds_toArray, List.set_cons_zero, List.set_cons_succ]
    refine wpAnyL_take (i := 22) (v := ?v20033) rfl (by kernel_rfl) (by kernel_rfl) (by kernel_rfl) (by kernel_rfl) (fun _ _ _ h => h) (Or.inl ⟨by kernel_rfl, ?hy20033⟩) (by assumption) ?r20033
    case hy20033 => (intro W hSW; obtain ⟨s0, s1⟩ := hSW; go_simp; try with_reducible rfl)
    try simp only [Act.put, List.getElem_toArray, List.getElem_cons_zero, List.getElem_cons_succ, List.setIfInBounds_toArray, List.set_cons_zero, List.set_cons_succ]
    refine wpAnyL_last (by kernel_rfl) rfl (fun K hK => ?_)
    go_simp
    refine hK.out _ _ ?_
    clear hK K
    try simp only [Act.put, List.getElem_toArray, List.getElem_cons_zero, List.getElem_cons_succ, List.setIfInBounds_toArray, List.set_cons_zero, List.set_cons_succ]
    refine wpAnyL_done (by kernel_rfl) ?_ _
    refine NoPanic.normal ?_
    go_wp2
    go_ret
    exact ⟨by rw [HR.out] <;> rfl, hb⟩
  | true =>
    cases qh with
    | false =>
      have HR := Lib.hid (show R = false from HD.out)
      clear HD
      go_enter Tryz.func22, Tryz.ntmps22
      go_wp2_with fail
      refine wp_region_noPanic ?_
      refine wp_region_l 23 (fun V : World => V.cell? ⟨a.p, 2, none⟩ = some (i64 B.cl) ∧ V.cell? ⟨c.p, 2, none⟩ = some (i64 C.cl)) (by kernel_rfl) (HSS.out _ hb) (fun hH => ?_)
      refine wpAnyL_take (i := 0) (v := ?v20034) rfl (by kernel_rfl) (by kernel_rfl) (by kernel_rfl) (by kernel_rfl) (fun _ _ _ h => h) (Or.inl ⟨by kernel_rfl, ?hy20034⟩) (by assumption) ?r20034
      case hy20034 => (intro W hSW; obtain ⟨s0, s1⟩ := hSW; go_simp; try with_reducible rfl)
      try simp only [Act.put, List.getElem_toArray, List.getElem_cons_zero, List.setIfInBounds_toArray, List.set_cons_zero, List.set_cons_succ]
      refine wpAnyL_take (i := 2) (v := ?v20035) rfl (by kernel_rfl) (by kernel_rfl) (by kernel_rfl) (by kernel_rfl) (fun _ _ _ h => h) (Or.inl ⟨by kernel_rfl, ?hy20035⟩) (by assumption) ?r20035
      case hy20035 => (intro W hSW; obtain ⟨s0, s1⟩ := hSW; go_simp; try with_reducible rfl)
      try simp only [Act.put, List.getElem_toArray, List.getElem_cons_zero, List.getElem_cons_succ, List.setIfInBounds_toArray, List.set_cons_zero, List.set_cons_succ]
      refine wpAnyL_one (i := 1) (by kernel_rfl) rfl (by decide) (fun K hK => ?_)
      go_simp
      refine (HA.out _ (H.out.later hb)).mono ?_
      rintro e u1 ⟨v1, rfl, hO1, hF⟩
      obtain ⟨A1, c1, rfl, s1⟩ := hO1.sl
      have hb := hb.trans (hF.mono hb.size)
      clear hF hO1
      refine hK.out _ _ (HSS.out _ hb) (fun hH => ?_)
      clear hK K
      try simp only [Act.put, List.getElem_toArray, List.getElem_cons_zero, List.getElem_cons_succ, List.setIfInBounds_toArray, List.set_cons_zero, List.set_cons_succ]
      refine wpAnyL_one (i := 3) (by kernel_rfl) rfl (by decide) (fun K hK => ?_)
      go_simp
      refine (HA2.out _ (HKc.out.later hb)).mono ?_
      rintro e u2 ⟨v2, rfl, hO2, hF⟩
      obtain ⟨A2, c2, rfl, s2⟩ := hO2.sl
      have s1 := s1.later hF
      have hb := hb.trans (hF.mono hb.size)
      clear hF hO2
      refine hK.out _ _ (HSS.out _ hb) (fun hH => ?_)
      clear hK K
      try simp only [Act.put, List.getElem_toArray, List.getElem_cons_zero, List.getElem_cons_succ, List.setIfInBounds_toArray, List.set_cons_zero, List.set_cons_succ]
      refine wpAnyL_one (i := 4) (by kernel_rfl) rfl (by decide) (fun K hK => ?_)
      go_simp
      refine (HE.out A1 A2 c1 c2 _ s1 s2).mono ?_
      rintro e u3 ⟨rfl, nq, rfl⟩
      have hb := below_drewN hb nq
      clear s1 s2
      refine hK.out _ _ (HSS.out _ hb) (fun hH => ?_)
      clear hK K
      try simp only [Act.put, List.getElem_toArray, List.getElem_cons_zero, List.getElem_cons_succ, List.setIfInBounds_toArray, List.set_cons_zero, List.set_cons_succ]
      refine wpAnyL_take (i := 5) (v := ?v20036) rfl (by kernel_rfl) (by kernel_rfl) (by kernel_rfl) (by kernel_rfl) (fun _ _ _ h => h) (Or.inl ⟨by kernel_rfl, ?hy20036⟩) (by assumption) ?r20036
      case hy20036 => (intro W hSW; obtain ⟨s0, s1⟩ := hSW; go_simp; try with_reducible rfl)
      try simp only [Act.put, List.getElem_toArray, List.getElem_cons_zero, List.getElem_cons_succ, List.setIfInBounds_toArray, List.set_cons_zero, List.set_cons_succ]
      refine wpAnyL_take (i := 6) (v := ?v20037) rfl (by kernel_rfl) (by kernel_rfl) (by kernel_rfl) (by kernel_rfl) (fun _ _ _ h => h) (Or.inl ⟨by kernel_rfl, ?hy20037⟩) (by assumption) ?r20037
      case hy20037 => (intro W hSW; obtain ⟨s0, s1⟩ := hSW; go_simp; try with_reducible rfl)
      try simp only [Act.put, List.getElem_toArray, List.getElem_cons_zero, List.getElem_cons_succ, List.setIfInBounds_toArray, List.set_cons_zero, List.set_cons_succ]
      refine wpAnyL_take (i := 8) (v := ?v20038) rfl (by kernel_rfl) (by kernel_rfl) (by kernel_rfl) (by kernel_rfl) (fun _ _ _ h => h) (Or.inl ⟨by kernel_rfl, ?hy20038⟩) (by assumption) ?r20038
      case hy20038 => (intro W hSW; obtain ⟨s0, s1⟩ := hSW; go_simp; try with_reducible rfl)
      try simp only [Act.put, List.getElem_toArray, List.getElem_cons_zero, List.getElem_cons_succ, List.setIfInBounds_toArray, List.set_cons_zero, List.set_cons_succ]
      refine wpAnyL_one (i := 7) (by kernel_rfl) rfl (by decide) (fun K hK => ?_)
      go_simp
      refine (HH.out _ (H.out.later hb)).mono ?_
      rintro e u4 ⟨v4, rfl, hO4, hF⟩
      obtain ⟨A4, c4, rfl, s4⟩ := hO4.sl
      have hb := hb.trans (hF.mono hb.size)
      clear hF hO4
      refine hK.out _ _ (HSS.out _ hb) (fun hH => ?_)
      clear hK K
      try simp only [Act.put, List.getElem_toArray, List.getElem_cons_zero, List.getElem_cons_succ, List.setIfInBounds_toArray, List.set_cons_zero, List.set_cons_succ]
      refine wpAnyL_one (i := 9) (by kernel_rfl) rfl (by decide) (fun K hK => ?_)
      go_simp
      refine (HH2.out _ (HKc.out.later hb)).mono ?_
      rintro e u5 ⟨v5, rfl, hO5, hF⟩
      obtain ⟨A5, c5, rfl, s5⟩ := hO5.sl
      have s4 := s4.later hF
      have hb := hb.trans (hF.mono hb.size)
      clear hF hO5
      refine hK.out _ _ (HSS.out _ hb) (fun hH => ?_)
      clear hK K
      try simp only [Act.put, List.getElem_toArray, List.getElem_cons_zero, List.getElem_cons_succ, List.setIfInBounds_toArray, List.set_cons_zero, List.set_cons_succ]
      refine wpAnyL_one (i := 10) (by kernel_rfl) rfl (by decide) (fun K hK => ?_)
      go_simp
      refine (HE2.out A4 A5 c4 c5 _ s4 s5).mono ?_
      rintro e u6 ⟨rfl, nq, rfl⟩
      have hb := below_drewN hb nq
      clear s4 s5
      refine hK.out _ _ (HSS.out _ hb) (fun hH => ?_)
      clear hK K
      try simp only [Act.put, List.getElem_toArray, List.getElem_cons_zero, List.getElem_cons_succ, List.setIfInBounds_toArray, List.set_cons_zero, List.set_cons_succ]
      refine wpAnyL_take (i := 11) (v := ?v20039) rfl (by kernel_rfl) (by kernel_rfl) (by kernel_rfl) (by kernel_rfl) (fun _ _ _ h => h) (Or.inl ⟨by kernel_rfl, ?hy20039⟩) (by assumption) ?r20039
      case hy20039 => (intro W hSW; obtain ⟨s0, s1⟩ := hSW; go_simp; try with_reducible rfl)
      try simp only [Act.put, List.getElem_toArray, List.getElem_cons_zero, List.getElem_cons_succ, List.setIfInBounds_toArray, List.set_cons_zero, List.set_cons_succ]
      refine wpAnyL_take (i := 12) (v := ?v20040) rfl (by kernel_rfl) (by kernel_rfl) (by kernel_rfl) (by kernel_rfl) (fun _ _ _ h => h) (Or.inl ⟨by kernel_rfl, ?hy20040⟩) (by assumption) ?r20040
      case hy20040 => (intro W hSW; obtain ⟨s0, s1⟩ := hSW; go_simp; try with_reducible rfl)
      try simp only [Act.put, List.getElem_toArray, List.getElem_cons_zero, List.getElem_cons_succ, List.setIfInBounds_toArray, List.set_cons_zero, List.set_cons_succ]
      refine wpAnyL_take (i := 13) (v := undef) rfl (by kernel_rfl) (by kernel_rfl) (by kernel_rfl) (by kernel_rfl) (fun _ _ _ h => h) (Or.inr ⟨by kernel_rfl, rfl⟩) (by assumption) ?r20041
      try simp only [Act.put, List.getElem_toArray, List.getElem_cons_zero, List.getElem_cons_succ, List.setIfInBounds_toArray, List.set_cons_zero, List.set_cons_succ]
      refine wpAnyL_take (i := 14) (v := undef) rfl (by kernel_rfl) (by kernel_rfl) (by kernel_rfl) (by kernel_rfl) (fun _ _ _ h => h) (Or.inr ⟨by kernel_rfl, rfl⟩) (by assumption) ?r20042
      try simp only [Act.put, List.getElem_toArray, List.getElem_cons_zero, List.getElem_cons_succ, List.setIfInBounds_toArray, List.set_cons_zero, List.set_cons_succ]
      refine wpAnyL_take (i := 15) (v := undef) rfl (by kernel_rfl) (by kernel_rfl) (by kernel_rfl) (by kernel_rfl) (fun _ _ _ h => h) (Or.inr ⟨by kernel_rfl, rfl⟩) (by assumption) ?r20043
      try simp only [Act.put, List.getElem_toArray, List.getElem_cons_zero, List.getElem_cons_succ, List.setIfInBounds_toArray, List.set_cons_zero, List.set_cons_succ]
      refine wpAnyL_take (i := 16) (v := undef) rfl (by kernel_rfl) (by kernel_rfl) (by kernel_rfl) (by kernel_rfl) (fun _ _ _ h => h) (Or.inr ⟨by kernel_rfl, rfl⟩) (by assumption) ?r20044
      try simp only [Act.put, List.getElem_toArray, List.getElem_cons_zero, List.getElem_cons_succ, List.setIfInBounds_toArray, List.set_cons_zero, List.set_cons_succ]
      refine wpAnyL_take (i := 17) (v := undef) rfl (by kernel_rfl) (by kernel_rfl) (by kernel_rfl) (by kernel_rfl) (fun _ _ _ h => h) (Or.inr ⟨by kernel_rfl, rfl⟩) (by assumption) ?r20045
      try simp only [Act.put, List.getElem_toArray, List.getElem_cons_zero, List.getElem_cons_succ, List.setIfInBounds_toArray, List.set_cons_zero, List.set_cons_succ]
      refine wpAnyL_take (i := 18) (v := undef) rfl (by kernel_rfl) (by kernel_rfl) (by kernel_rfl) (by kernel_rfl) (fun _ _ _ h => h) (Or.inr ⟨by kernel_rfl, rfl⟩) (by assumption) ?r20046
      try simp only [Act.put, List.getElem_toArray, List.getElem_cons_zero, List.getElem_cons_succ, List.setIfInBounds_toArray, List.set_cons_zero, List.set_cons_succ]
      refine wpAnyL_take (i := 19) (v := undef) rfl (by kernel_rfl) (by kernel_rfl) (by kernel_rfl) (by kernel_rfl) (fun _ _ _ h => h) (Or.inr ⟨by kernel_rfl, rfl⟩) (by assumption) ?r20047
      try simp only [Act.put, List.getElem_toArray, List.getElem_cons_zero, List.getElem_cons_succ, List.setIfInBounds_toArray, List.set_cons_zero, List.set_cons_succ]
      refine wpAnyL_take (i := 20) (v := undef) rfl (by kernel_rfl) (by kernel_rfl) (by kernel_rfl) (by kernel_rfl) (fun _ _ _ h => h) (Or.inr ⟨by kernel_rfl, rfl⟩) (by assumption) ?r20048
      try simp only [Act.put, List.getElem_toArray, List.getElem_cons_zero, List.getElem_cons_succ, List.setIfInBounds_toArray, List.set_cons_zero, List.set_cons_succ]
      refine wpAnyL_take (i := 21) (v := undef) rfl (by kernel_rfl) (by kernel_rfl) (by kernel_rfl) (by kernel_rfl) (fun _ _ _ h => h) (Or.inr ⟨by kernel_rfl, rfl⟩) (by assumption) ?r20049
      try simp only [Act.put, List.getElem_toArray, List.getElem_cons_zero, List.getElem_cons_succ, List.setIfInBounds_toArray, List.set_cons_zero, List.set_cons_succ]
      refine wpAnyL_take (i := 22) (v := ?v20050) rfl (by kernel_rfl) (by kernel_rfl) (by kernel_rfl) (by kernel_rfl) (fun _ _ _ h => h) (Or.inl ⟨by kernel_rfl, ?hy20050⟩) (by assumption) ?r20050
      case hy20050 => (intro W hSW; obtain ⟨s0, s1⟩ := hSW; go_simp; try with_reducible rfl)
      try simp only [Act.put, List.getElem_toArray, List.getElem_cons_zero, List.getElem_cons_succ, List.setIfInBounds_toArray, List.set_cons_zero, List.set_cons_succ]
      refine wpAnyL_last (by kernel_rfl) rfl (fun K hK => ?_)
      go_simp
      refine hK.out _ _ ?_
      clear hK K
      try simp only [Act.put, List.getElem_toArray, List.getElem_cons_zero, List.getElem_cons_succ, List.setIfInBounds_toArray, List.set_cons_zero, List.set_cons_succ]
      refine wpAnyL_done (by kernel_rfl) ?_ _
      refine NoPanic.normal ?_
      go_wp2
      go_ret
      exact ⟨by rw [HR.out] <;> rfl, hb⟩
    | true =>
      have HR := Lib.hid (show R = qc from HD.out)
      clear HD
      go_enter Tryz.func22, Tryz.ntmps22
      go_wp2_with fail
      refine wp_region_noPanic ?_
      refine wp_region_l 23 (fun V : World => V.cell? ⟨a.p, 2, none⟩ = some (i64 B.cl) ∧ V.cell? ⟨c.p, 2, none⟩ = some (i64 C.cl)) (by kernel_rfl) (HSS.out _ hb) (fun hH => ?_)
      refine wpAnyL_take (i := 0) (v := ?v20051) rfl (by kernel_rfl) (by kernel_rfl) (by kernel_rfl) (by kernel_rfl) (fun _ _ _ h => h) (Or.inl ⟨by kernel_rfl, ?hy20051⟩) (by assumption) ?r20051
      case hy20051 => (intro W hSW; obtain ⟨s0, s1⟩ := hSW; go_simp; try with_reducible rfl)
      try simp only [Act.put, List.getElem_toArray, List.getElem_cons_zero, List.setIfInBounds_toArray, List.set_cons_zero, List.set_cons_succ]
      refine wpAnyL_take (i := 2) (v := ?v20052) rfl (by kernel_rfl) (by kernel_rfl) (by kernel_rfl) (by kernel_rfl) (fun _ _ _ h => h) (Or.inl ⟨by kernel_rfl, ?hy20052⟩) (by assumption) ?r20052
      case hy20052 => (intro W hSW; obtain ⟨s0, s1⟩ := hSW; go_simp; try with_reducible rfl)
      try simp only [Act.put, List.getElem_toArray, List.getElem_cons_zero, List.getElem_cons_succ, List.setIfInBounds_toArray, List.set_cons_zero, List.set_cons_succ]
      refine wpAnyL_one (i := 1) (by kernel_rfl) rfl (by decide) (fun K hK => ?_)
      go_simp
      refine (HA.out _ (H.out.later hb)).mono ?_
      rintro e u1 ⟨v1, rfl, hO1, hF⟩
      obtain ⟨A1, c1, rfl, s1⟩ := hO1.sl
      have hb := hb.trans (hF.mono hb.size)
      clear hF hO1
      refine hK.out _ _ (HSS.out _ hb) (fun hH => ?_)
      clear hK K
      try simp only [Act.put, List.getElem_toArray, List.getElem_cons_zero, List.getElem_cons_succ, List.setIfInBounds_toArray, List.set_cons_zero, List.set_cons_succ]
      refine wpAnyL_one (i := 3) (by kernel_rfl) rfl (by decide) (fun K hK => ?_)
      go_simp
      refine (HA2.out _ (HKc.out.later hb)).mono ?_
      rintro e u2 ⟨v2, rfl, hO2, hF⟩
      obtain ⟨A2, c2, rfl, s2⟩ := hO2.sl
      have s1 := s1.later hF
      have hb := hb.trans (hF.mono hb.size)
      clear hF hO2
      refine hK.out _ _ (HSS.out _ hb) (fun hH => ?_)
      clear hK K
      try simp only [Act.put, List.getElem_toArray, List.getElem_cons_zero, List.getElem_cons_succ, List.setIfInBounds_toArray, List.set_cons_zero, List.set_cons_succ]
      refine wpAnyL_one (i := 4) (by kernel_rfl) rfl (by decide) (fun K hK => ?_)
      go_simp
      refine (HE.out A1 A2 c1 c2 _ s1 s2).mono ?_
      rintro e u3 ⟨rfl, nq, rfl⟩
      have hb := below_drewN hb nq
      clear s1 s2
      refine hK.out _ _ (HSS.out _ hb) (fun hH => ?_)
      clear hK K
      try simp only [Act.put, List.getElem_toArray, List.getElem_cons_zero, List.getElem_cons_succ, List.setIfInBounds_toArray, List.set_cons_zero, List.set_cons_succ]
      refine wpAnyL_take (i := 5) (v := ?v20053) rfl (by kernel_rfl) (by kernel_rfl) (by kernel_rfl) (by kernel_rfl) (fun _ _ _ h => h) (Or.inl ⟨by kernel_rfl, ?hy20053⟩) (by assumption) ?r20053
      case hy20053 => (intro W hSW; obtain ⟨s0, s1⟩ := hSW; go_simp; try with_reducible rfl)
      try simp only [Act.put, List.getElem_toArray, List.getElem_cons_zero, List.getElem_cons_succ, List.setIfInBounds_toArray, List.set_cons_zero, List.set_cons_succ]
      refine wpAnyL_take (i := 6) (v := ?v20054) rfl (by kernel_rfl) (by kernel_rfl) (by kernel_rfl) (by kernel_rfl) (fun _ _ _ h => h) (Or.inl ⟨by kernel_rfl, ?hy20054⟩) (by assumption) ?r20054
      case hy20054 => (intro W hSW; obtain ⟨s0, s1⟩ := hSW; go_simp; try with_reducible rfl)
      try simp only [Act.put, List.getElem_toArray, List.getElem_cons_zero, List.getElem_cons_succ, List.setIfInBounds_toArray, List.set_cons_zero, List.set_cons_succ]
      refine wpAnyL_take (i := 8) (v := ?v20055) rfl (by kernel_rfl) (by kernel_rfl) (by kernel_rfl) (by kernel_rfl) (fun _ _ _ h => h) (Or.inl ⟨by kernel_rfl, ?hy20055⟩) (by assumption) ?r20055
      case hy20055 => (intro W hSW; obtain ⟨s0, s1⟩ := hSW; go_simp; try with_reducible rfl)
      try simp only [Act.put, List.getElem_toArray, List.getElem_cons_zero, List.getElem_cons_succ, List.setIfInBounds_toArray, List.set_cons_zero, List.set_cons_succ]
      refine wpAnyL_one (i := 7) (by kernel_rfl) rfl (by decide) (fun K hK => ?_)
      go_simp
      refine (HH.out _ (H.out.later hb)).mono ?_
      rintro e u4 ⟨v4, rfl, hO4, hF⟩
      obtain ⟨A4, c4, rfl, s4⟩ := hO4.sl
      have hb := hb.trans (hF.mono hb.size)
      clear hF hO4
      refine hK.out _ _ (HSS.out _ hb) (fun hH => ?_)
      clear hK K
      try simp only [Act.put, List.getElem_toArray, List.getElem_cons_zero, List.getElem_cons_succ, List.setIfInBounds_toArray, List.set_cons_zero, List.set_cons_succ]
      refine wpAnyL_one (i := 9) (by kernel_rfl) rfl (by decide) (fun K hK => ?_)
      go_simp
      refine (HH2.out _ (HKc.out.later hb)).mono ?_
      rintro e u5 ⟨v5, rfl, hO5, hF⟩
      obtain ⟨A5, c5, rfl, s5⟩ := hO5.sl
      have s4 := s4.later hF
      have hb := hb.trans (hF.mono hb.size)
      clear hF hO5
      refine hK.out _ _ (HSS.out _ hb) (fun hH => ?_)
      clear hK K
      try simp only [Act.put, List.getElem_toArray, List.getElem_cons_zero, List.getElem_cons_succ, List.setIfInBounds_toArray, List.set_cons_zero, List.set_cons_succ]
      refine wpAnyL_one (i := 10) (by kernel_rfl) rfl (by decide) (fun K hK => ?_)
      go_simp
      refine (HE2.out A4 A5 c4 c5 _ s4 s5).mono ?_
      rintro e u6 ⟨rfl, nq, rfl⟩
      have hb := below_drewN hb nq
      clear s4 s5
      refine hK.out _ _ (HSS.out _ hb) (fun hH => ?_)
      clear hK K
      try simp only [Act.put, List.getElem_toArray, List.getElem_cons_zero, List.getElem_cons_succ, List.setIfInBounds_toArray, List.set_cons_zero, List.set_cons_succ]
      refine wpAnyL_take (i := 11) (v := ?v20056) rfl (by kernel_rfl) (by kernel_rfl) (by kernel_rfl) (by kernel_rfl) (fun _ _ _ h => h) (Or.inl ⟨by kernel_rfl, ?hy20056⟩) (by assumption) ?r20056
      case hy20056 => (intro W hSW; obtain ⟨s0, s1⟩ := hSW; go_simp; try with_reducible rfl)
      try simp only [Act.put, List.getElem_toArray, List.getElem_cons_zero, List.getElem_cons_succ, List.setIfInBounds_toArray, List.set_cons_zero, List.set_cons_succ]
      refine wpAnyL_take (i := 12) (v := ?v20057) rfl (by kernel_rfl) (by kernel_rfl) (by kernel_rfl) (by kernel_rfl) (fun _ _ _ h => h) (Or.inl ⟨by kernel_rfl, ?hy20057⟩) (by assumption) ?r20057
      case hy20057 => (intro W hSW; obtain ⟨s0, s1⟩ := hSW; go_simp; try with_reducible rfl)
      try simp only [Act.put, List.getElem_toArray, List.getElem_cons_zero, List.getElem_cons_succ, List.setIfInBounds_toArray, List.set_cons_zero, List.set_cons_succ]
      refine wpAnyL_take (i := 13) (v := ?v20058) rfl (by kernel_rfl) (by kernel_rfl) (by kernel_rfl) (by kernel_rfl) (fun _ _ _ h => h) (Or.inl ⟨by kernel_rfl, ?hy20058⟩) (by assumption) ?r20058
      case hy20058 => (intro W hSW; obtain ⟨s0, s1⟩ := hSW; go_simp; try with_reducible rfl)
      try simp only [Act.put, List.getElem_toArray, List.getElem_cons_zero, List.getElem_cons_succ, List.setIfInBounds_toArray, List.set_cons_zero, List.set_cons_succ]
      refine wpAnyL_take (i := 14) (v := ?v20059) rfl (by kernel_rfl) (by kernel_rfl) (by kernel_rfl) (by kernel_rfl) (fun _ _ _ h => h) (Or.inl ⟨by kernel_rfl, ?hy20059⟩) (by assumption) ?r20059
      case hy20059 => (intro W hSW; obtain ⟨s0, s1⟩ := hSW; go_simp; try with_reducible rfl)
      try simp only [Act.put, List.getElem_toArray, List.getElem_cons_zero, List.getElem_cons_succ, List.setIfInBounds_toArray, List.set_cons_zero, List.set_cons_succ]
      refine wpAnyL_take (i := 15) (v := ?v20060) rfl (by kernel_rfl) (by kernel_rfl) (by kernel_rfl) (by kernel_rfl) (fun _ _ _ h => h) (Or.inl ⟨by kernel_rfl, ?hy20060⟩) (by assumption) ?r20060
      case hy20060 => (intro W hSW; obtain ⟨s0, s1⟩ := hSW; go_simp; try with_reducible rfl)
      try simp only [Act.put, List.getElem_toArray, List.getElem_cons_zero, List.getElem_cons_succ, List.setIfInBounds_toArray, List.set_cons_zero, List.set_cons_succ]
      refine wpAnyL_take (i := 16) (v := ?v20061) rfl (by kernel_rfl) (by kernel_rfl) (by kernel_rfl) (by kernel_rfl) (fun _ _ _ h => h) (Or.inl ⟨by kernel_rfl, ?hy20061⟩) (by assumption) ?r20061
      case hy20061 => (intro W hSW; obtain ⟨s0, s1⟩ := hSW; go_simp; try with_reducible rfl)
      try simp only [Act.put, List.getElem_toArray, List.getElem_cons_zero, List.getElem_cons_succ, List.setIfInBounds_toArray, List.set_cons_zero, List.set_cons_succ]
      refine wpAnyL_take (i := 17) (v := ?v20062) rfl (by kernel_rfl) (by kernel_rfl) (by kernel_rfl) (by kernel_rfl) (fun _ _ _ h => h) (Or.inl ⟨by kernel_rfl, ?hy20062⟩) (by assumption) ?r20062
      case hy20062 => (intro W hSW; obtain ⟨s0, s1⟩ := hSW; go_simp; try with_reducible rfl)
      try simp only [Act.put, List.getElem_toArray, List.getElem_cons_zero, List.getElem_cons_succ, List.setIfInBounds_toArray, List.set_cons_zero, List.set_cons_succ]
      refine wpAnyL_take (i := 18) (v := ?v20063) rfl (by kernel_rfl) (by kernel_rfl) (by kernel_rfl) (by kernel_rfl) (fun _ _ _ h => h) (Or.inl ⟨by kernel_rfl, ?hy20063⟩) (by assumption) ?r20063
      case hy20063 => (intro W hSW; obtain ⟨s0, s1⟩ := hSW; go_simp; try with_reducible rfl)
      try simp only [Act.put, List.getElem_toArray, List.getElem_cons_zero, List.getElem_cons_succ, List.setIfInBounds_toArray, List.set_cons_zero, List.set_cons_succ]
      refine wpAnyL_take (i := 19) (v := ?v20064) rfl (by kernel_rfl) (by kernel_rfl) (by kernel_rfl) (by kernel_rfl) (fun _ _ _ h => h) (Or.inl ⟨by kernel_rfl, ?hy20064⟩) (by assumption) ?r20064
      case hy20064 => (intro W hSW; obtain ⟨s0, s1⟩ := hSW; go_simp; try with_reducible rfl)
      try simp only [Act.put, List.getElem_toArray, List.getElem_cons_zero, List.getElem_cons_succ, List.setIfInBounds_toArray, List.set_cons_zero, List.set_cons_succ]
      refine wpAnyL_take (i := 20) (v := ?v20065) rfl (by kernel_rfl) (by kernel_rfl) (by kernel_rfl) (by kernel_rfl) (fun _ _ _ h => h) (Or.inl ⟨by kernel_rfl, ?hy20065⟩) (by assumption) ?r20065
      case hy20065 => (intro W hSW; obtain ⟨s0, s1⟩ := hSW; go_simp; try with_reducible rfl)
      try simp only [Act.put, List.getElem_toArray, List.getElem_cons_zero, List.getElem_cons_succ, List.setIfInBounds_toArray, List.set_cons_zero, List.set_cons_succ]
      refine wpAnyL_take (i := 21) (v := ?v20066) rfl (by kernel_rfl) (by kernel_rfl) (by kernel_rfl) (by kernel_rfl) (fun _ _ _ h => h) (Or.inl ⟨by kernel_rfl, ?hy20066⟩) (by assumption) ?r20066
      case hy20066 => (intro W hSW; obtain ⟨s0, s1⟩ := hSW; go_simp; try with_reducible rfl)
      try simp only [Act.put, List.getElem_toArray, List.getElem_cons_zero, List.getElem_cons_succ, List.setIfInBounds_toArray, List.set_cons_zero, List.set_cons_succ]
      refine wpAnyL_take (i := 22) (v := ?v20067) rfl (by kernel_rfl) (by kernel_rfl) (by kernel_rfl) (by kernel_rfl) (fun _ _ _ h => h) (Or.inl ⟨by kernel_rfl, ?hy20067⟩) (by assumption) ?r20067
      case hy20067 => (intro W hSW; obtain ⟨s0, s1⟩ := hSW; go_simp; try with_reducible rfl)
      try simp only [Act.put, List.getElem_toArray, List.getElem_cons_zero, List.getElem_cons_succ, List.setIfInBounds_toArray, List.set_cons_zero, List.set_cons_succ]
      refine wpAnyL_last (by kernel_rfl) rfl (fun K hK => ?_)
      go_simp
      refine hK.out _ _ ?_
      clear hK K
      try simp only [Act.put, List.getElem_toArray, List.getElem_cons_zero, List.getElem_cons_succ, List.setIfInBounds_toArray, List.set_cons_zero, List.set_cons_succ]
      refine wpAnyL_done (by kernel_rfl) ?_ _
      refine NoPanic.normal ?_
      go_wp2
      go_ret
      exact ⟨by rw [HR.out] <;> rfl, hb⟩
end Go.Proofs.YtgholbeehkfbiaaGreat
