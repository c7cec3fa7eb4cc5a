/- Texts of this claim, laid together: StS. -/
import Derived.Test.YtdkkblhfjblpkaaGreatRows
import Derived.Test.YtdkkblhfjblpkaaGreatBk14
import Derived.Test.YtdkkblhfjblpkaaGreatBi8
import Derived.Test.YtdkkblhfjblpkaaGreatBk1
import Derived.Deep.Cut
import Derived.WalkKit
import Derived.WalkSpells
import Derived.WalkLawsBesides
import Derived.Deep.QuietTactic
import Derived.BigQuiet
import Derived.Laws.StructEq
import Derived.Deep.DeepFit
import Derived.StillTailTactics

/- ref12.Same, law12.as -/
namespace Go.Proofs.YtdkkblhfjblpkaaGreat
open Go.RowKit
theorem Ev.ext_ {a b : Ev} (h1 : a.client = b.client) (h2 : a.seq = b.seq) (h3 : a.kind = b.kind) (h4 : a.hav = b.hav) (h5 : a.set_ = b.set_) : a = b := by cases a; cases b; simp_all
theorem neq_ev (a b : Ev) (w : World) : (binOp .neq 172 (.agg #[i64 a.client, i64 a.seq, i64 a.kind, i64 a.hav, i64 a.set_]) (.agg #[i64 b.client, i64 b.seq, i64 b.kind, i64 b.hav, i64 b.set_])).run Tryz.prog w = .ok (.bool (!decide (a = b))) w := by
  have u3 := Tryz.underlying2
  have a3 := Tryz.isAgg2
  have z3 := Tryz.sizeOf2
  have u4 := Tryz.underlying3
  have a4 := Tryz.isAgg3
  have z4 := Tryz.sizeOf3
  have u5 := Tryz.underlying47
  have hS : Tryz.prog.underlying 172 = some (.struct (Tryz.prog.fieldsOf 172)) := by kernel_rfl
  have hp : Tryz.prog.stoodInHeld 172 = false := by kernel_rfl
  have hS2 : Tryz.prog.underlying 47 = some (.struct (Tryz.prog.fieldsOf 47)) := by kernel_rfl
  have hp2 : Tryz.prog.stoodInHeld 47 = false := by kernel_rfl
  rw [run_neq_struct, show (10000 : Nat) = 9999 + 1 from rfl, run_equalIn_agg w 9999 172 _ _ hS hp]
  simp only [Program.fieldsOf, Tryz.underlying172]
  go_simp
  by_cases h1 : a.client = b.client
  · by_cases h2 : a.seq = b.seq
    · by_cases h3 : a.kind = b.kind
      · by_cases h4 : a.hav = b.hav
        · by_cases h5 : a.set_ = b.set_
          · rw [decide_eq_true (Ev.ext_ h1 h2 h3 h4 h5)]; simp [h1, h2, h3, h4, h5]
          · rw [decide_eq_false (fun e => h5 (by rw [e]))]; simp [h1, h2, h3, h4, h5]
        · rw [decide_eq_false (fun e => h4 (by rw [e]))]; simp [h1, h2, h3, h4]
      · rw [decide_eq_false (fun e => h3 (by rw [e]))]; simp [h1, h2, h3]
    · rw [decide_eq_false (fun e => h2 (by rw [e]))]; simp [h1, h2]
  · rw [decide_eq_false (fun e => h1 (by rw [e]))]; simp [h1]
theorem SlS.ev {w : World} {S : Nat → Prop} {c : Nat} {A : Option Addr} {l : List Ev} (h : SlS w S A c l) {k : Nat} (hk : k < l.length) : ∃ b o, A = some ⟨b, o, none⟩ ∧ S b ∧
    w.cell? ⟨b, o + k * 5, none⟩ = some (i64 l[k].client) ∧ w.cell? ⟨b, o + k * 5 + 1, none⟩ = some (i64 l[k].seq) ∧ w.cell? ⟨b, o + k * 5 + 2, none⟩ = some (i64 l[k].kind) ∧ w.cell? ⟨b, o + k * 5 + 3, none⟩ = some (i64 l[k].hav) ∧ w.cell? ⟨b, o + k * 5 + 4, none⟩ = some (i64 l[k].set_) := by
  obtain ⟨b, o, hA, hb, _, hc⟩ := h.at_ hk
  exact ⟨b, o, hA, hb, hc 0 _ rfl, hc 1 _ rfl, hc 2 _ rfl, hc 3 _ rfl, hc 4 _ rfl⟩
theorem quiet12 (w : World) (n : Nat) : Below w.heap.size w (w.drewN n) := below_drewN (Below.refl _ _) n
set_option maxRecDepth 100000 in
set_option maxHeartbeats 4000000 in
theorem same12_c (S T : Nat → Prop) (A B : Option Addr) (c d : Nat) (x y : List Ev) (w : World) (hx : SlS w S A c x) (hy : SlS w T B d y) :
    Calls Tryz.prog 39 #[.slice A x.length c, .slice B y.length d] w fun e w' => e = .returned (.bool (decide (x = y))) ∧ Below w.heap.size w w' := by
  have Hx := Lib.hid hx
  have Hy := Lib.hid hy
  have hxc : x.length ≤ c := hx.1
  have hyd : y.length ≤ d := hy.1
  have hxm : x.length ≤ 9223372036854775807 := hx.len_le
  clear hx hy
  by_cases hl : x.length = y.length
  · have q0 : ((x.length : Int) != (y.length : Int)) = false := by rw [hl]; simp
    have Hl := Lib.hid hl
    clear hl
    go_enter Tryz.func39, Tryz.ntmps39
    go_wp2
    go_loopw [5] (fun i wr => ∃ (j m : Nat), i = i64 j ∧ j ≤ x.length ∧ x.take j = y.take j ∧ wr = w.drewN m) (fun i _ => x.length - (intOf i).toNat)
    case atStart => exact ⟨0, 0, rfl, by omega, rfl, rfl⟩
    case round =>
      obtain ⟨j, m, rfl, hj, ht, rfl⟩ := hrel
      have HT := Lib.hid ht
      clear ht
      by_cases hlt : j < x.length
      · have hltm : j < y.length := by have := Hl.out; omega
        obtain ⟨b, o, hA, hb, c0, c1, c2, c3, c4⟩ := Hx.out.ev hlt
        obtain ⟨b', o', hA', hb', c0', c1', c2', c3', c4'⟩ := Hy.out.ev hltm
        subst hA hA'
        have he := fun W : World => neq_ev x[j] y[j] W
        by_cases heq : x[j] = y[j]
        · simp only [decide_eq_true heq, Bool.not_true] at he
          have Heq := Lib.hid heq
          clear heq
          go_wp2
          go_quiet (fail)
          go_wp2
          go_roundw
          case rel => exact ⟨j + 1, m + _, by go_num, by omega, by rw [List.take_succ_eq_append_getElem hlt, List.take_succ_eq_append_getElem hltm, HT.out, Heq.out], rfl⟩
          case measure => simp [intOf]; omega
        · simp only [decide_eq_false heq, Bool.not_false] at he
          have Heq := Lib.hid heq
          clear heq
          go_wp2
          go_quiet (fail)
          go_wp2
          go_ret
          refine ⟨?_, below_drewN (quiet12 _ _) _⟩
          rw [decide_eq_false (show ¬ x = y from fun e => Heq.out (by simp only [e]))]
          rfl
      · obtain rfl : j = x.length := by omega
        go_wp2
        go_ret
        refine ⟨?_, quiet12 _ _⟩
        rw [decide_eq_true (show x = y by
          have := HT.out
          rwa [List.take_length, List.take_of_length_le (by have := Hl.out; omega)] at this)]
        rfl
  · have q0 : ((x.length : Int) != (y.length : Int)) = true := by rw [bne_iff_ne]; omega
    have Hs := Lib.hid (show decide (x = y) = false from decide_eq_false fun e => hl (by rw [e]))
    clear hl
    go_enter Tryz.func39, Tryz.ntmps39
    go_wp2
    go_ret
    exact ⟨by rw [Hs.out]; rfl, Below.refl _ _⟩
theorem inf12 : (Tryz.prog.info? 172).map (fun i => (i.zero, i.size, i.bytes)) = some (some (.agg #[i64 0, i64 0, i64 0, i64 0, i64 0]), Enc.size Ev, 40) := by kernel_rfl
set_option maxRecDepth 100000 in
set_option maxHeartbeats 8000000 in
theorem as12_c (A : Option Addr) (c : Nat) (l : List Ev) (w : World) (h : Sl w w.heap.size A c l) (hn : l.length ≤ 65536) :
    Calls Tryz.prog 40 #[.slice A l.length c] w fun e w' => ∃ v, e = .returned v ∧ Own w' w.heap.size 172 v l ∧ Below w.heap.size w w' := by
  have H := Lib.hid h
  have hlc : l.length ≤ c := h.1
  clear h
  go_enter Tryz.func40, Tryz.ntmps40
  go_wp2
  go_loopw [3, 4] (fun rv iv wr => ∃ n : Nat, iv = i64 n ∧ n ≤ l.length ∧ Own wr w.heap.size 172 rv (l.take n) ∧ Below w.heap.size w wr) (fun _ iv _ => l.length - (intOf iv).toNat)
  case atStart => exact ⟨0, rfl, Nat.zero_le _, Own.nil_ _ _ _, Below.refl _ _⟩
  case round =>
    obtain ⟨n, rfl, hnl, hO, hb⟩ := hrel
    have hbs := hb.size
    by_cases hlt : n < l.length
    · have g1 : decide ((n : Int) < (l.length : Int)) = true := decide_eq_true (by omega)
      have g2 : decide (n < l.length) = true := decide_eq_true hlt
      have i0 : (0 : Int) ≤ (n : Int) := by omega
      have i1 : (n : Int) < (l.length : Int) := by omega
      have Hcell := Lib.hid (fun V (hV : Below w.heap.size w V) => (H.out.below hV).ev hlt)
      obtain ⟨b, o, rfl, hbb, -⟩ := Hcell.out w (Below.refl _ _)
      have Htk := Lib.hid (show l.take (n + 1) = l.take n ++ [l[n]] from List.take_succ_eq_append_getElem hlt)
      have Hlen := Lib.hid (show (l.take n).length + 1 ≤ 4294967296 by rw [List.length_take]; omega)
      obtain ⟨x, hx⟩ : ∃ x, l[n] = x := ⟨_, rfl⟩
      simp only [hx] at Hcell Htk
      have HS : Hid (∀ V, Below w.heap.size w V → (fun V : World => Below w.heap.size w V ∧ V.cell? ⟨b, o + n * 5, none⟩ = some (i64 x.client) ∧ V.cell? ⟨b, o + n * 5 + 1, none⟩ = some (i64 x.seq) ∧ V.cell? ⟨b, o + n * 5 + 2, none⟩ = some (i64 x.kind) ∧ V.cell? ⟨b, o + n * 5 + 3, none⟩ = some (i64 x.hav) ∧ V.cell? ⟨b, o + n * 5 + 4, none⟩ = some (i64 x.set_)) V) := Lib.hid fun V hV => by
        obtain ⟨b2, o2, e, -, h2⟩ := Hcell.out V hV
        injection e with e
        injection e with e1 e2
        subst e1 e2
        exact ⟨hV, h2⟩
      have HO := Lib.hid hO
      clear hO hx Hcell
      go_upto_region 5 with fail
      refine wp_region_noPanic ?_
      refine wp_region_l 24 (fun V : World => Below w.heap.size w V ∧ V.cell? ⟨b, o + n * 5, none⟩ = some (i64 x.client) ∧ V.cell? ⟨b, o + n * 5 + 1, none⟩ = some (i64 x.seq) ∧ V.cell? ⟨b, o + n * 5 + 2, none⟩ = some (i64 x.kind) ∧ V.cell? ⟨b, o + n * 5 + 3, none⟩ = some (i64 x.hav) ∧ V.cell? ⟨b, o + n * 5 + 4, none⟩ = some (i64 x.set_)) (by kernel_rfl) (HS.out _ ((hb.trans ((Below.refl _ _).drew.mono hbs)))) (fun hH => ?_)
      have hbd := (Below.refl wr.heap.size wr).drew
      generalize wr.drew = Wd at *
      refine wpAnyL_take (i := 0) (v := ?v20001) rfl (by kernel_rfl) (by kernel_rfl) (by kernel_rfl) (by kernel_rfl) (fun _ _ _ h => h) (Or.inl ⟨by kernel_rfl, ?hy20001⟩) (by assumption) ?r20001
      case hy20001 => (intro W hSW; obtain ⟨hV0, e0, e1, e2, e3, e4⟩ := hSW; go_simp; try with_reducible rfl)
      try simp only [Act.put, List.getElem_toArray, List.getElem_cons_zero, List.setIfInBounds_toArray, List.set_cons_zero, List.set_cons_succ]
      refine wpAnyL_take (i := 1) (v := ?v20002) rfl (by kernel_rfl) (by kernel_rfl) (by kernel_rfl) (by kernel_rfl) (fun _ _ _ h => h) (Or.inl ⟨by kernel_rfl, ?hy20002⟩) (by assumption) ?r20002
      case hy20002 => (intro W hSW; obtain ⟨hV0, e0, e1, e2, e3, e4⟩ := hSW; go_simp; try with_reducible rfl)
      try simp only [Act.put, List.getElem_toArray, List.getElem_cons_zero, List.getElem_cons_succ, List.setIfInBounds_toArray, List.set_cons_zero, List.set_cons_succ]
      refine wpAnyL_take (i := 2) (v := ?v20003) rfl (by kernel_rfl) (by kernel_rfl) (by kernel_rfl) (by kernel_rfl) (fun _ _ _ h => h) (Or.inl ⟨by kernel_rfl, ?hy20003⟩) (by assumption) ?r20003
      case hy20003 => (intro W hSW; obtain ⟨hV0, e0, e1, e2, e3, e4⟩ := hSW; go_simp; try with_reducible rfl)
      try simp only [Act.put, List.getElem_toArray, List.getElem_cons_zero, List.getElem_cons_succ, List.setIfInBounds_toArray, List.set_cons_zero, List.set_cons_succ]
      refine wpAnyL_take (i := 3) (v := ?v20004) rfl (by kernel_rfl) (by kernel_rfl) (by kernel_rfl) (by kernel_rfl) (fun _ _ _ h => h) (Or.inl ⟨by kernel_rfl, ?hy20004⟩) (by assumption) ?r20004
      case hy20004 => (intro W hSW; obtain ⟨hV0, e0, e1, e2, e3, e4⟩ := hSW; go_simp; try with_reducible rfl)
      try simp only [Act.put, List.getElem_toArray, List.getElem_cons_zero, List.getElem_cons_succ, List.setIfInBounds_toArray, List.set_cons_zero, List.set_cons_succ]
      refine wpAnyL_take (i := 4) (v := ?v20005) rfl (by kernel_rfl) (by kernel_rfl) (by kernel_rfl) (by kernel_rfl) (fun _ _ _ h => h) (Or.inl ⟨by kernel_rfl, ?hy20005⟩) (by assumption) ?r20005
      case hy20005 => (intro W hSW; obtain ⟨hV0, e0, e1, e2, e3, e4⟩ := hSW; go_simp; try with_reducible rfl)
      try simp only [Act.put, List.getElem_toArray, List.getElem_cons_zero, List.getElem_cons_succ, List.setIfInBounds_toArray, List.set_cons_zero, List.set_cons_succ]
      refine wpAnyL_take (i := 5) (v := ?v20006) rfl (by kernel_rfl) (by kernel_rfl) (by kernel_rfl) (by kernel_rfl) (fun _ _ _ h => h) (Or.inl ⟨by kernel_rfl, ?hy20006⟩) (by assumption) ?r20006
      case hy20006 => (intro W hSW; obtain ⟨hV0, e0, e1, e2, e3, e4⟩ := hSW; go_simp; try with_reducible rfl)
      try simp only [Act.put, List.getElem_toArray, List.getElem_cons_zero, List.getElem_cons_succ, List.setIfInBounds_toArray, List.set_cons_zero, List.set_cons_succ]
      refine wpAnyL_take (i := 6) (v := ?v20007) rfl (by kernel_rfl) (by kernel_rfl) (by kernel_rfl) (by kernel_rfl) (fun _ _ _ h => h) (Or.inl ⟨by kernel_rfl, ?hy20007⟩) (by assumption) ?r20007
      case hy20007 => (intro W hSW; obtain ⟨hV0, e0, e1, e2, e3, e4⟩ := hSW; go_simp; try with_reducible rfl)
      try simp only [Act.put, List.getElem_toArray, List.getElem_cons_zero, List.getElem_cons_succ, List.setIfInBounds_toArray, List.set_cons_zero, List.set_cons_succ]
      refine wpAnyL_take (i := 7) (v := ?v20008) rfl (by kernel_rfl) (by kernel_rfl) (by kernel_rfl) (by kernel_rfl) (fun _ _ _ h => h) (Or.inl ⟨by kernel_rfl, ?hy20008⟩) (by assumption) ?r20008
      case hy20008 => (intro W hSW; obtain ⟨hV0, e0, e1, e2, e3, e4⟩ := hSW; go_simp; try with_reducible rfl)
      try simp only [Act.put, List.getElem_toArray, List.getElem_cons_zero, List.getElem_cons_succ, List.setIfInBounds_toArray, List.set_cons_zero, List.set_cons_succ]
      refine wpAnyL_take (i := 8) (v := ?v20009) rfl (by kernel_rfl) (by kernel_rfl) (by kernel_rfl) (by kernel_rfl) (fun _ _ _ h => h) (Or.inl ⟨by kernel_rfl, ?hy20009⟩) (by assumption) ?r20009
      case hy20009 => (intro W hSW; obtain ⟨hV0, e0, e1, e2, e3, e4⟩ := hSW; go_simp; try with_reducible rfl)
      try simp only [Act.put, List.getElem_toArray, List.getElem_cons_zero, List.getElem_cons_succ, List.setIfInBounds_toArray, List.set_cons_zero, List.set_cons_succ]
      refine wpAnyL_take (i := 9) (v := ?v20010) rfl (by kernel_rfl) (by kernel_rfl) (by kernel_rfl) (by kernel_rfl) (fun _ _ _ h => h) (Or.inl ⟨by kernel_rfl, ?hy20010⟩) (by assumption) ?r20010
      case hy20010 => (intro W hSW; obtain ⟨hV0, e0, e1, e2, e3, e4⟩ := hSW; go_simp; try with_reducible rfl)
      try simp only [Act.put, List.getElem_toArray, List.getElem_cons_zero, List.getElem_cons_succ, List.setIfInBounds_toArray, List.set_cons_zero, List.set_cons_succ]
      refine wpAnyL_take (i := 10) (v := ?v20011) rfl (by kernel_rfl) (by kernel_rfl) (by kernel_rfl) (by kernel_rfl) (fun _ _ _ h => h) (Or.inl ⟨by kernel_rfl, ?hy20011⟩) (by assumption) ?r20011
      case hy20011 => (intro W hSW; obtain ⟨hV0, e0, e1, e2, e3, e4⟩ := hSW; go_simp; try with_reducible rfl)
      try simp only [Act.put, List.getElem_toArray, List.getElem_cons_zero, List.getElem_cons_succ, List.setIfInBounds_toArray, List.set_cons_zero, List.set_cons_succ]
      refine wpAnyL_take (i := 11) (v := ?v20012) rfl (by kernel_rfl) (by kernel_rfl) (by kernel_rfl) (by kernel_rfl) (fun _ _ _ h => h) (Or.inl ⟨by kernel_rfl, ?hy20012⟩) (by assumption) ?r20012
      case hy20012 => (intro W hSW; obtain ⟨hV0, e0, e1, e2, e3, e4⟩ := hSW; go_simp; try with_reducible rfl)
      try simp only [Act.put, List.getElem_toArray, List.getElem_cons_zero, List.getElem_cons_succ, List.setIfInBounds_toArray, List.set_cons_zero, List.set_cons_succ]
      refine wpAnyL_take (i := 12) (v := ?v20013) rfl (by kernel_rfl) (by kernel_rfl) (by kernel_rfl) (by kernel_rfl) (fun _ _ _ h => h) (Or.inl ⟨by kernel_rfl, ?hy20013⟩) (by assumption) ?r20013
      case hy20013 => (intro W hSW; obtain ⟨hV0, e0, e1, e2, e3, e4⟩ := hSW; go_simp; try with_reducible rfl)
      try simp only [Act.put, List.getElem_toArray, List.getElem_cons_zero, List.getElem_cons_succ, List.setIfInBounds_toArray, List.set_cons_zero, List.set_cons_succ]
      refine wpAnyL_take (i := 13) (v := ?v20014) rfl (by kernel_rfl) (by kernel_rfl) (by kernel_rfl) (by kernel_rfl) (fun _ _ _ h => h) (Or.inl ⟨by kernel_rfl, ?hy20014⟩) (by assumption) ?r20014
      case hy20014 => (intro W hSW; obtain ⟨hV0, e0, e1, e2, e3, e4⟩ := hSW; go_simp; try with_reducible rfl)
      try simp only [Act.put, List.getElem_toArray, List.getElem_cons_zero, List.getElem_cons_succ, List.setIfInBounds_toArray, List.set_cons_zero, List.set_cons_succ]
      refine wpAnyL_take (i := 14) (v := ?v20015) rfl (by kernel_rfl) (by kernel_rfl) (by kernel_rfl) (by kernel_rfl) (fun _ _ _ h => h) (Or.inl ⟨by kernel_rfl, ?hy20015⟩) (by assumption) ?r20015
      case hy20015 => (intro W hSW; obtain ⟨hV0, e0, e1, e2, e3, e4⟩ := hSW; go_simp; try with_reducible rfl)
      try simp only [Act.put, List.getElem_toArray, List.getElem_cons_zero, List.getElem_cons_succ, List.setIfInBounds_toArray, List.set_cons_zero, List.set_cons_succ]
      refine wpAnyL_take (i := 15) (v := ?v20016) rfl (by kernel_rfl) (by kernel_rfl) (by kernel_rfl) (by kernel_rfl) (fun _ _ _ h => h) (Or.inl ⟨by kernel_rfl, ?hy20016⟩) (by assumption) ?r20016
      case hy20016 => (intro W hSW; obtain ⟨hV0, e0, e1, e2, e3, e4⟩ := hSW; go_simp; try with_reducible rfl)
      try simp only [Act.put, List.getElem_toArray, List.getElem_cons_zero, List.getElem_cons_succ, List.setIfInBounds_toArray, List.set_cons_zero, List.set_cons_succ]
      refine wpAnyL_take (i := 16) (v := ?v20017) rfl (by kernel_rfl) (by kernel_rfl) (by kernel_rfl) (by kernel_rfl) (fun _ _ _ h => h) (Or.inl ⟨by kernel_rfl, ?hy20017⟩) (by assumption) ?r20017
      case hy20017 => (intro W hSW; obtain ⟨hV0, e0, e1, e2, e3, e4⟩ := hSW; go_simp; try with_reducible rfl)
      try simp only [Act.put, List.getElem_toArray, List.getElem_cons_zero, List.getElem_cons_succ, List.setIfInBounds_toArray, List.set_cons_zero, List.set_cons_succ]
      refine wpAnyL_take (i := 17) (v := ?v20018) rfl (by kernel_rfl) (by kernel_rfl) (by kernel_rfl) (by kernel_rfl) (fun _ _ _ h => h) (Or.inl ⟨by kernel_rfl, ?hy20018⟩) (by assumption) ?r20018
      case hy20018 => (intro W hSW; obtain ⟨hV0, e0, e1, e2, e3, e4⟩ := hSW; go_simp; try with_reducible rfl)
      try simp only [Act.put, List.getElem_toArray, List.getElem_cons_zero, List.getElem_cons_succ, List.setIfInBounds_toArray, List.set_cons_zero, List.set_cons_succ]
      refine wpAnyL_take (i := 18) (v := ?v20019) rfl (by kernel_rfl) (by kernel_rfl) (by kernel_rfl) (by kernel_rfl) (fun _ _ _ h => h) (Or.inl ⟨by kernel_rfl, ?hy20019⟩) (by assumption) ?r20019
      case hy20019 => (intro W hSW; obtain ⟨hV0, e0, e1, e2, e3, e4⟩ := hSW; go_simp; try with_reducible rfl)
      try simp only [Act.put, List.getElem_toArray, List.getElem_cons_zero, List.getElem_cons_succ, List.setIfInBounds_toArray, List.set_cons_zero, List.set_cons_succ]
      refine wpAnyL_take (i := 19) (v := ?v20020) rfl (by kernel_rfl) (by kernel_rfl) (by kernel_rfl) (by kernel_rfl) (fun _ _ _ h => h) (Or.inl ⟨by kernel_rfl, ?hy20020⟩) (by assumption) ?r20020
      case hy20020 => (intro W hSW; obtain ⟨hV0, e0, e1, e2, e3, e4⟩ := hSW; go_simp; try with_reducible rfl)
      try simp only [Act.put, List.getElem_toArray, List.getElem_cons_zero, List.getElem_cons_succ, List.setIfInBounds_toArray, List.set_cons_zero, List.set_cons_succ]
      refine wpAnyL_take (i := 20) (v := ?v20021) rfl (by kernel_rfl) (by kernel_rfl) (by kernel_rfl) (by kernel_rfl) (fun _ _ _ h => h) (Or.inl ⟨by kernel_rfl, ?hy20021⟩) (by assumption) ?r20021
      case hy20021 => (intro W hSW; obtain ⟨hV0, e0, e1, e2, e3, e4⟩ := hSW; go_simp; try with_reducible rfl)
      try simp only [Act.put, List.getElem_toArray, List.getElem_cons_zero, List.getElem_cons_succ, List.setIfInBounds_toArray, List.set_cons_zero, List.set_cons_succ]
      refine wpAnyL_take (i := 21) (v := ?v20022) rfl (by kernel_rfl) (by kernel_rfl) (by kernel_rfl) (by kernel_rfl) (fun _ _ _ h => h) (Or.inl ⟨by kernel_rfl, ?hy20022⟩) (by assumption) ?r20022
      case hy20022 => (intro W hSW; obtain ⟨hV0, e0, e1, e2, e3, e4⟩ := hSW; go_simp; try with_reducible rfl)
      try simp only [Act.put, List.getElem_toArray, List.getElem_cons_zero, List.getElem_cons_succ, List.setIfInBounds_toArray, List.set_cons_zero, List.set_cons_succ]
      refine wpAnyL_one (i := 22) (by kernel_rfl) rfl (by decide) (fun K hK => ?_)
      go_simp
      have hgl := heap_alloc_new Wd (.cells #[i64 x.client, i64 x.seq, i64 x.kind, i64 x.hav, i64 x.set_] 172)
      have hb1 := (hb.trans (hbd.mono hbs)).alloc (Nat.le_trans hbs hbd.size) (.cells #[i64 x.client, i64 x.seq, i64 x.kind, i64 x.hav, i64 x.set_] 172)
      have HOv := Lib.hid ((HO.out.later hbd).later ((Below.refl Wd.heap.size Wd).alloc (Nat.le_refl _) (.cells #[i64 x.client, i64 x.seq, i64 x.kind, i64 x.hav, i64 x.set_] 172)))
      refine hK.out _ _ (HS.out _ hb1) (fun hH => ?_)
      clear hK K
      try simp only [Act.put, List.getElem_toArray, List.getElem_cons_zero, List.getElem_cons_succ, List.setIfInBounds_toArray, List.set_cons_zero, List.set_cons_succ]
      refine wpAnyL_one (i := 23) (by kernel_rfl) rfl (by decide) (fun K hK => ?_)
      refine oper_append_one (.tmp 11) (.tmp 33) 64 rfl _ 40 Tryz.underlying64 inf12 rfl (by decide) (by decide) rfl HOv.out Wd.heap.size x rfl _ 172 hgl rfl (fun e => by have := (HO.out.1.lt _ e.symm).2; have h2 := hbd.size; omega) trivial Hlen.out hb1.size ?_
      intro v6 w6 hO6 hg6 hat6
      have hb6 := hb1.trans (HOv.out.below hg6 (Nat.le_refl _) hb1.size)
      have HO6 := Lib.hid hO6
      clear hO6 hg6 hat6
      refine hK.out _ _ (HS.out _ hb6) (fun hH => ?_)
      clear hK K
      try simp only [Act.put, List.getElem_toArray, List.getElem_cons_zero, List.getElem_cons_succ, List.setIfInBounds_toArray, List.set_cons_zero, List.set_cons_succ]
      refine wpAnyL_last (by kernel_rfl) rfl (fun K hK => ?_)
      go_simp
      refine hK.out _ _ ?_
      clear hK K
      try simp only [Act.put, List.getElem_toArray, List.getElem_cons_zero, List.getElem_cons_succ, List.setIfInBounds_toArray, List.set_cons_zero, List.set_cons_succ]
      refine wpAnyL_done (by kernel_rfl) ?_ _
      refine NoPanic.normal ?_
      clear hH HS
      go_wp2
      go_roundw
      case rel => exact ⟨n + 1, by go_num, by omega, by rw [Htk.out]; exact HO6.out, hb6⟩
      case measure => simp [intOf]; omega
    · obtain rfl : n = l.length := by omega
      have g1 : decide ((l.length : Int) < (l.length : Int)) = false := decide_eq_false (by omega)
      rw [List.take_length] at hO
      have HO := Lib.hid hO
      clear hO
      go_wp2
      go_ret
      exact ⟨_, rfl, HO.out, hb⟩
end Go.Proofs.YtdkkblhfjblpkaaGreat
