/- Texts of this claim, laid together: Rf05S, Rf08, Rf08C, Rf01A. -/
import Derived.Test.YtmljlkjomjflpaaGreatRows
import Derived.Test.YtmljlkjomjflpaaGreatHp9
import Derived.Test.YtmljlkjomjflpaaGreatHp14
import Derived.WalkKit
import Derived.WalkSpells
import Derived.WalkLawsBesides
import Derived.Deep.QuietTactic
import Derived.BigQuiet
import Derived.Laws.StructEq
import Derived.Deep.DeepFit
import Derived.StillTailTactics
import Derived.Test.YtmljlkjomjflpaaGreatHp13
import Derived.Test.YtmljlkjomjflpaaGreatHp7
import Derived.Test.YtmljlkjomjflpaaGreatHp2

/- ref05.Same -/
namespace Go.Proofs.YtmljlkjomjflpaaGreat
open Go.RowKit
theorem neq_ac (a b : Ac) (w : World) : (binOp .neq 70 (.agg #[.string a.name, i64 a.hav, i64 a.set_, i64 a.lim]) (.agg #[.string b.name, i64 b.hav, i64 b.set_, i64 b.lim])).run Tryz.prog w = .ok (.bool (!decide (a = b))) w := by
  have u3 := Tryz.underlying2
  have a3 := Tryz.isAgg2
  have z3 := Tryz.sizeOf2
  have u9 := Tryz.underlying9
  have a9 := Tryz.isAgg9
  have z9 := Tryz.sizeOf9
  have hS : Tryz.prog.underlying 70 = some (.struct (Tryz.prog.fieldsOf 70)) := by kernel_rfl
  have hp : Tryz.prog.stoodInHeld 70 = false := by kernel_rfl
  rw [run_neq_struct, show (10000 : Nat) = 9999 + 1 from rfl, run_equalIn_agg w 9999 70 _ _ hS hp]
  simp only [Program.fieldsOf, Tryz.underlying70]
  go_simp
  by_cases h1 : a.name = b.name
  · have t1 := beqS_of_eq h1
    by_cases h2 : a.hav = b.hav
    · by_cases h3 : a.set_ = b.set_
      · by_cases h4 : a.lim = b.lim
        · rw [decide_eq_true (Ac.ext_ h1 h2 h3 h4)]; simp [h1, h2, h3, h4]
        · rw [decide_eq_false (fun e => h4 (by rw [e]))]; simp [h1, h2, h3, h4]
      · rw [decide_eq_false (fun e => h3 (by rw [e]))]; simp [h1, h2, h3]
    · rw [decide_eq_false (fun e => h2 (by rw [e]))]; simp [h1, h2]
  · have t1 := beqS_of_ne h1
    have t2 : ¬ a.name.toList = b.name.toList := by simpa using t1
    rw [decide_eq_false (fun e => h1 (by rw [e]))]; simp [t2]
theorem below_quiet (w : World) (n : Nat) : Below w.heap.size w (w.drewN n) := below_drewN (Below.refl _ _) n
set_option maxRecDepth 100000 in
set_option maxHeartbeats 2000000 in
theorem rsame5_c (S T : Nat → Prop) (A B : Option Addr) (c d : Nat) (x y : List Ac) (w : World) (hx : SlS w S A c x) (hy : SlS w T B d y) (hlx : x.length ≤ 65536) (_hly : y.length ≤ 65536) :
    Calls Tryz.prog 22 #[.slice A x.length c, .slice B y.length d] w fun e w' => e = .returned (.bool (decide (x = y))) ∧ Below w.heap.size w w' := by
  have Hx := Lib.hid hx
  have Hy := Lib.hid hy
  have hxc : x.length ≤ c := hx.1
  have hyd : y.length ≤ d := hy.1
  clear hx hy
  by_cases hl : x.length = y.length
  · have q0 : ((x.length : Int) != (y.length : Int)) = false := by rw [hl]; simp
    have Hl := Lib.hid hl
    clear hl
    go_enter Tryz.func22, Tryz.ntmps22
    go_wp2
    go_loopw [5] (fun i wr => ∃ (j m : Nat), i = i64 j ∧ j ≤ x.length ∧ x.take j = y.take j ∧ wr = w.drewN m) (fun i _ => x.length - (intOf i).toNat)
    case atStart => exact ⟨0, 0, rfl, by omega, rfl, rfl⟩
    case round =>
      obtain ⟨j, m, rfl, hj, ht, rfl⟩ := hrel
      have HT := Lib.hid ht
      clear ht
      by_cases hlt : j < x.length
      · have hltm : j < y.length := by have := Hl.out; omega
        obtain ⟨b, o, hA, hb, -, c0, c1, c2, c3⟩ := Hx.out.ac hlt
        obtain ⟨b', o', hA', hb', -, c0', c1', c2', c3'⟩ := Hy.out.ac hltm
        subst hA hA'
        have he : ∀ W : World, (binOp .neq 70 (.agg #[.string x[j].name, i64 x[j].hav, i64 x[j].set_, i64 x[j].lim]) (.agg #[.string y[j].name, i64 y[j].hav, i64 y[j].set_, i64 y[j].lim])).run Tryz.prog W = .ok (.bool (!decide (x[j] = y[j]))) W := neq_ac _ _
        by_cases heq : x[j] = y[j]
        · simp only [decide_eq_true heq, Bool.not_true] at he
          have Heq := Lib.hid heq
          clear heq
          go_wp2
          go_quiet (fail)
          go_wp2
          go_roundw
          case rel => exact ⟨j + 1, m + _, by go_num, by omega, by rw [List.take_succ_eq_append_getElem hlt, List.take_succ_eq_append_getElem hltm, HT.out, Heq.out], rfl⟩
          case measure => simp [intOf]; omega
        · simp only [decide_eq_false heq, Bool.not_false] at he
          have Heq := Lib.hid heq
          clear heq
          go_wp2
          go_quiet (fail)
          go_wp2
          go_ret
          refine ⟨?_, below_drewN (below_quiet _ _) _⟩
          rw [decide_eq_false (show ¬ x = y from fun e => Heq.out (by simp only [e]))]
          rfl
      · obtain rfl : j = x.length := by omega
        go_wp2
        go_ret
        refine ⟨?_, below_quiet _ _⟩
        rw [decide_eq_true (show x = y by
          have := HT.out
          rwa [List.take_length, List.take_of_length_le (by have := Hl.out; omega)] at this)]
        rfl
  · have q0 : ((x.length : Int) != (y.length : Int)) = true := by rw [bne_iff_ne]; omega
    have Hs := Lib.hid (show decide (x = y) = false from decide_eq_false fun e => hl (by rw [e]))
    clear hl
    go_enter Tryz.func22, Tryz.ntmps22
    go_wp2
    go_ret
    exact ⟨by rw [Hs.out]; rfl, Below.refl _ _⟩
end Go.Proofs.YtmljlkjomjflpaaGreat

/- ref08.at, Of -/
namespace Go.Proofs.YtmljlkjomjflpaaGreat
open Go.RowKit
/-- block g holds the reference's holds: H; they lie in blocks of T -/
def RhIs (w : World) (T : Nat → Prop) (g : Nat) (H : List Held) : Prop := ∃ A c, w.heap[g]? = some (.cells #[.slice A H.length c] 33 (0, 0)) ∧ SlS w (fun k => k < w.heap.size ∧ T k) A c H ∧ FormA A c
theorem RhIs.kept {w w' : World} {T S : Nat → Prop} {g : Nat} {H : List Held} (h : RhIs w T g H) (hk : Gr w w' S) (h1 : ¬ S g) (h2 : ∀ k, T k → ¬ S k) : RhIs w' T g H := by
  obtain ⟨A, c, hc, hs, hf⟩ := h
  refine ⟨A, c, (hk.block g (Array.getElem?_eq_some_iff.1 hc).1 h1).trans hc, (hs.grs hk fun b hb => ⟨hb.1, h2 b hb.2⟩).mono fun b hb => ⟨Nat.lt_of_lt_of_le hb.1 hk.size, hb.2⟩, hf⟩
theorem RhIs.later {w w' : World} {T : Nat → Prop} {g : Nat} {H : List Held} (h : RhIs w T g H) (hb : Below w.heap.size w w') : RhIs w' T g H := h.kept (Gr.of_below hb (fun _ => False)) id (fun _ _ => id)
theorem RhIs.lt {w : World} {T : Nat → Prop} {g : Nat} {H : List Held} (h : RhIs w T g H) : g < w.heap.size := by
  obtain ⟨A, c, hc, hs, hf⟩ := h
  exact (Array.getElem?_eq_some_iff.1 hc).1
abbrev idxH (H : List Held) (k : ByteArray) (n : Int) : Int := idxP (fun a : Held => decide (a.key = ⟨k, n⟩)) H
theorem idxH_get {H : List Held} {k : ByteArray} {n : Int} : (idxH H k n < 0 ∧ getK Held.key H ⟨k, n⟩ = none) ∨ ∃ (i : Nat) (h : i < H.length), idxH H k n = i ∧ getK Held.key H ⟨k, n⟩ = some H[i] ∧ H[i].key = ⟨k, n⟩ := by
  unfold idxH idxP getK
  rw [List.find?_eq_bind_findIdx?_getElem?]
  cases h : H.findIdx? fun a => decide (a.key = ⟨k, n⟩) with
  | none => exact .inl ⟨by decide, rfl⟩
  | some i =>
    obtain ⟨h1, h2, _⟩ := List.findIdx?_eq_some_iff_getElem.1 h
    exact .inr ⟨i, h1, rfl, by simp [List.getElem?_eq_getElem h1], by simpa using h2⟩
theorem key_ne {x : Held} {k : ByteArray} {n : Int} (h : x.acct ≠ k ∨ x.num ≠ n) : x.key ≠ ⟨k, n⟩ := fun e => by
  unfold Held.key at e
  injection e with e1 e2
  rcases h with h | h
  · exact h e1
  · exact h e2
set_option maxRecDepth 100000 in
set_option maxHeartbeats 4000000 in
theorem rhat_c (T : Nat → Prop) (g : Nat) (H : List Held) (k : ByteArray) (m : Int) (w : World) (h : RhIs w T g H) (hL : H.length ≤ 65536) :
    Calls Tryz.prog 96 #[.pointer (some ⟨g, 0, none⟩), .string k, i64 m] w fun e w' => e = .returned (i64 (idxH H k m)) ∧ w = w' := by
  obtain ⟨A, c, hc, hs, hf⟩ := h
  have c0 := cell_of_row _ g 0 _ _ (0, 0) hc
  simp only [List.getElem?_toArray, List.getElem?_cons_zero] at c0
  clear hc hf
  go_enter Tryz.func96, Tryz.ntmps96
  go_wp2
  go_loop [7] (fun i => ∃ n : Nat, n ≤ H.length ∧ i = i64 n ∧ (∀ j (hj : j < H.length), j < n → H[j].key ≠ ⟨k, m⟩)) (fun i => H.length - (intOf i).toNat)
  case atStart => exact ⟨0, Nat.zero_le _, rfl, by omega⟩
  case round =>
    obtain ⟨n, hn, rfl, hno⟩ := hrel
    by_cases hlt : n < H.length
    · obtain ⟨b, o, rfl, hb, _, d0, d1, _⟩ := hs.held hlt
      have Hno := Lib.hid hno
      clear hno hs
      have i0 : (0 : Int) ≤ (n : Int) := by omega
      have i1 : (n : Int) < (H.length : Int) := by omega
      by_cases heq : H[n].acct = k
      · have e1 := beqS_of_eq heq
        by_cases heq2 : H[n].num = m
        · have e2 : (H[n].num == m) = true := beq_iff_eq.2 heq2
          have Heq := Lib.hid (show H[n].key = ⟨k, m⟩ by unfold Held.key; rw [heq, heq2])
          clear heq heq2
          go_wp2
          go_ret
          exact ⟨by rw [show idxH H k m = n from idxP_hit hlt (by simpa using Heq.out) (fun j hj h => by simpa using Hno.out j hj h)]; rfl, rfl⟩
        · have e2 : (H[n].num == m) = false := beq_eq_false_iff_ne.2 heq2
          have Heq := Lib.hid (key_ne (x := H[n]) (k := k) (.inr heq2))
          clear heq heq2
          go_wp2
          go_round
          case rel => exact ⟨n + 1, by omega, by go_num, fun j hj h => by
              rcases Nat.lt_succ_iff_lt_or_eq.1 h with h | rfl
              · exact Hno.out j hj h
              · exact Heq.out⟩
          case measure => simp [intOf]; omega
      · have e1 := beqS_of_ne heq
        have Heq := Lib.hid (key_ne (x := H[n]) (n := m) (.inl heq))
        clear heq
        go_wp2
        go_round
        case rel => exact ⟨n + 1, by omega, by go_num, fun j hj h => by
            rcases Nat.lt_succ_iff_lt_or_eq.1 h with h | rfl
            · exact Hno.out j hj h
            · exact Heq.out⟩
        case measure => simp [intOf]; omega
    · have hkl : n = H.length := by omega
      subst hkl
      go_wp2
      go_ret
      exact ⟨by rw [show idxH H k m = -1 from idxP_miss (fun j hj => by simpa using hno j hj hj)]; rfl, rfl⟩
theorem rheldInfo : (Tryz.prog.info? 104).map (fun i => (i.zero, i.size, i.bytes)) = some (some (.agg #[i64 0, .string ByteArray.empty, i64 0]), Enc.size Held, 32) := by kernel_rfl
theorem ofL_snoc (l : List Held) (x : Held) (s : ByteArray) : ofL (l ++ [x]) s = if x.acct = s then ofL l s ++ [x] else ofL l s := by
  unfold ofL
  rw [List.filter_append]
  by_cases h : x.acct = s
  · rw [if_pos h, List.filter_cons_of_pos (by simpa using h)]; rfl
  · rw [if_neg h, List.filter_cons_of_neg (by simpa using h)]; simp
set_option maxRecDepth 100000 in
set_option maxHeartbeats 4000000 in
theorem rhof_c (T : Nat → Prop) (g : Nat) (H : List Held) (k : ByteArray) (w : World) (h : RhIs w T g H) (hL : H.length ≤ 65536) :
    Calls Tryz.prog 21 #[.pointer (some ⟨g, 0, none⟩), .string k] w fun e w' => ∃ v, e = .returned v ∧ Own w' w.heap.size 104 v (ofL H k) ∧ Below w.heap.size w w' := by
  have Hr := Lib.hid h
  have hlt := h.lt
  clear h
  go_enter Tryz.func21, Tryz.ntmps21
  go_wp2
  go_loopw [5, 6] (fun v i wr => ∃ n : Nat, i = i64 n ∧ n ≤ H.length ∧ Own wr w.heap.size 104 v (ofL (H.take n) k) ∧ Below w.heap.size w wr) (fun _ i _ => H.length - (intOf i).toNat)
  case atStart => exact ⟨0, rfl, Nat.zero_le _, Own.nil_ _ _ _, Below.refl _ _⟩
  case round =>
    obtain ⟨n, rfl, hn, hO, hB⟩ := hrel
    obtain ⟨A, c, hc, hs, hf⟩ := Hr.out.later hB
    have c0 := cell_of_row _ g 0 _ _ (0, 0) hc
    simp only [List.getElem?_toArray, List.getElem?_cons_zero] at c0
    clear hc hf
    by_cases hlt2 : n < H.length
    · obtain ⟨b, o, rfl, hb, hsz, d0, d1, d2⟩ := hs.held hlt2
      have hlc : H.length ≤ c := hs.1
      have g1 : decide ((n : Int) < (H.length : Int)) = true := decide_eq_true (by omega)
      have i0 : (0 : Int) ≤ (n : Int) := by omega
      have Hln := Lib.hid (show (ofL (H.take n) k).length + 1 ≤ 65536 by have h1 := List.length_filter_le (fun x : Held => decide (x.acct = k)) (H.take n); rw [List.length_take] at h1; unfold ofL; omega)
      have Htk := Lib.hid (show ofL (H.take (n + 1)) k = if H[n].acct = k then ofL (H.take n) k ++ [H[n]] else ofL (H.take n) k by rw [List.take_succ_eq_append_getElem hlt2, ofL_snoc])
      generalize H[n] = x at *
      by_cases heq : x.acct = k
      · have e1 := beqS_of_eq heq
        have HT2 := Lib.hid (show ofL (H.take (n + 1)) k = ofL (H.take n) k ++ [x] by rw [Htk.out, if_pos heq])
        have HO2 := Lib.hid (hO.later ((Below.refl _ _).alloc (Nat.le_refl _) (.cells #[i64 x.num, .string x.acct, i64 x.sum] 104)))
        have Hne := Lib.hid (hO.new_ne (Nat.le_refl wr.heap.size))
        have HH := Lib.hid (heap_alloc_new wr (.cells #[i64 x.num, .string x.acct, i64 x.sum] 104))
        have HB2 := Lib.hid (hB.alloc hB.size (.cells #[i64 x.num, .string x.acct, i64 x.sum] 104))
        have Hsz := Lib.hid hsz
        clear heq Htk hs hO hB hsz
        go_wp2_with (at_builtin; refine wpList_append_one rfl (some 35) (.tmp 26) (.tmp 34) 31 rfl rfl (.agg #[i64 0, .string ByteArray.empty, i64 0]) 32 Tryz.underlying31 rheldInfo rfl (by decide) (by decide) rfl HO2.out wr.heap.size x rfl _ 104 HH.out rfl Hne.out Hsz.out (by have := Hln.out; omega) HB2.out.size ?_; intro v3 w3 hO3 hg3 hat3)
        rw [← HT2.out] at hO3
        have hB3 := HB2.out.trans (HO2.out.below hg3 (Nat.le_refl _) HB2.out.size)
        clear hg3 hat3 HO2 HB2 HH Hne
        go_roundw
        case rel => exact ⟨n + 1, by go_num, by omega, hO3, hB3⟩
        case measure => simp [intOf]; omega
      · have e1 := beqS_of_ne heq
        have HT2 := Lib.hid (show ofL (H.take (n + 1)) k = ofL (H.take n) k by rw [Htk.out, if_neg heq])
        clear heq Htk hs
        go_wp2
        go_roundw
        case rel => exact ⟨n + 1, by go_num, by omega, by rw [HT2.out]; exact hO, hB⟩
        case measure => simp [intOf]; omega
    · have g1 : decide ((n : Int) < (H.length : Int)) = false := decide_eq_false (by omega)
      rw [List.take_of_length_le (by omega)] at hO
      go_wp2
      go_ret
      exact ⟨_, rfl, hO, hB⟩
end Go.Proofs.YtmljlkjomjflpaaGreat

/- ref08.cut -/
namespace Go.Proofs.YtmljlkjomjflpaaGreat
open Go.RowKit
theorem add_noneC (b o n : Nat) : (⟨b, o, none⟩ : Addr).add n = ⟨b, o + n, none⟩ := by
  unfold Addr.add
  split
  · rename_i h
    subst h
    rfl
  · rfl
/-- a list of the call's own, put into the holds of block g -/
theorem rh_put {w u : World} {T : Nat → Prop} {g base : Nat} {L' : List Held} {v V0 : Value} (hb0 : w.heap.size ≤ base) (HB : Below w.heap.size w u) (hlg : g < w.heap.size) (hT : ∀ k, w.heap.size ≤ k → T k)
    (hg : u.heap[g]? = some (.cells #[V0] 33 (0, 0))) (hO : Own u base 104 v L') (hok : ∀ x ∈ L', x.acct.size ≤ maxLen) : RhIs (u.setCell ⟨g, 0, none⟩ v) T g L' ∧ w.grownBy (u.setCell ⟨g, 0, none⟩ v) (some g) := by
  have hg3 := heap_setCell_same u g 0 _ _ v hg
  have hgr := grown_setCell (World.grownBy.refl u (some g)) (p := ⟨g, 0, none⟩) (.inl rfl) v
  have hO3 := hO.grown hgr (by
    cases hv : v.ownBlock with
    | none => exact .inl rfl
    | some b =>
      right
      intro e
      injection e with e
      have := (hO.1.lt b hv).1
      omega) (fun x hx => hok x hx)
  obtain ⟨A, c, hv, hs, hf⟩ := hO3.slT (T := T) (fun k hk => hT k (Nat.le_trans hb0 hk)) hok
  refine ⟨⟨A, c, ?_, hs, hf⟩, grown_setCell (grown_of_below HB (some g)) (p := ⟨g, 0, none⟩) (.inl rfl) v⟩
  have e5 : (#[V0] : Array Value).setIfInBounds 0 v = #[.slice A L'.length c] := by rw [← hv]; rfl
  rw [e5] at hg3
  exact hg3
set_option maxRecDepth 100000 in
set_option maxHeartbeats 8000000 in
theorem rhcut_c (T : Nat → Prop) (g : Nat) (H : List Held) (i : Nat) (wq : World) (h : RhIs wq T g H) (hL : H.length ≤ 65536) (hi : i < H.length) (hTn : ∀ k, wq.heap.size ≤ k → T k) :
    Calls Tryz.prog 98 #[.pointer (some ⟨g, 0, none⟩), i64 i] wq fun e w' => e = .returned (.tuple #[]) ∧ RhIs w' T g (H.take i ++ H.drop (i + 1)) ∧ wq.grownBy w' (some g) := by
  have hlgq := h.lt
  have HTn := Lib.hid hTn
  obtain ⟨A, c, hc, hs, hf⟩ := h
  obtain ⟨b, o, rfl, -⟩ := hs.held hi
  have hcq := Lib.hid hc
  have c0q := cell_of_row _ g 0 _ _ (0, 0) hc
  simp only [List.getElem?_toArray, List.getElem?_cons_zero] at c0q
  have hlc : H.length ≤ c := hs.1
  have Hs := Lib.hid hs
  have hTk := Lib.hid (fun (V : World) (h : Below wq.heap.size wq V) => (show SlS V (Oth V (.slice none 0 0)) (some ⟨b, o, none⟩) c (H.take i) from ((hs.below_ h).take i).keep (fun _ _ => rfl) (fun b hb => ⟨hb.1, by simp [Value.ownBlock]⟩)))
  have hDr := Lib.hid (fun (V : World) (h : Below wq.heap.size wq V) => (show Sl V wq.heap.size (if c = i + 1 then some ⟨b, o, none⟩ else some ⟨b, o + (i + 1) * 3, none⟩) (c - (i + 1)) (H.drop (i + 1)) from by
    have := ((hs.mono (fun b hb => hb.1)).drop (k := i + 1) (by omega)).below h
    rwa [Option.map_some, show (⟨b, o, none⟩ : Addr).add ((i + 1) * Enc.size Held) = ⟨b, o + (i + 1) * 3, none⟩ from add_noneC ..] at this))
  have Hql := Lib.hid (show i = (H.take i).length by rw [List.length_take]; omega)
  have hw1 : IntKind.i64.wrap ((i : Int) + 1) = ((i + 1 : Nat) : Int) := by rw [IntKind.wrap_i64]; omega
  have q1 : ((i : Nat) : Int) ≤ (c : Int) := by omega
  have q0 : (0 : Int) ≤ ((i : Nat) : Int) := by omega
  have q4 : (i : Int) + 1 ≤ (H.length : Int) := by omega
  have q5 : (0 : Int) ≤ (i : Int) + 1 := by omega
  have q3 : (H.length : Int) ≤ (c : Int) := by omega
  clear hc hs hf hTn
  go_enter Tryz.func98, Tryz.ntmps98
  go_wp2_with fail
  have hb : Below wq.heap.size wq wq.drew := (Below.refl _ _).drew
  refine wp_region_noPanic ?_
  refine wp_region_l 18 (fun V => V.cell? ⟨g, 0, none⟩ = some (.slice (some ⟨b, o, none⟩) H.length c)) (by kernel_rfl) ((hb.cell (p := ⟨g, 0, none⟩) hlgq).trans c0q) (fun hH => ?_)
  refine wpAnyL_take (i := 0) (v := ?v1) rfl (by kernel_rfl) (by kernel_rfl) (by kernel_rfl) (by kernel_rfl) (fun _ _ _ h => h) (Or.inl ⟨by kernel_rfl, ?hy1⟩) (by assumption) ?r1
  case hy1 => (intro W s0; go_simp; try with_reducible rfl)
  try simp only [Act.put, List.getElem_toArray, List.getElem_cons_zero, List.setIfInBounds_toArray, List.set_cons_zero, List.set_cons_succ]
  refine wpAnyL_take (i := 1) (v := ?v2) rfl (by kernel_rfl) (by kernel_rfl) (by kernel_rfl) (by kernel_rfl) (fun _ _ _ h => h) (Or.inl ⟨by kernel_rfl, ?hy2⟩) (by assumption) ?r2
  case hy2 => (intro W s0; go_simp; try with_reducible rfl)
  try simp only [Act.put, List.getElem_toArray, List.getElem_cons_zero, List.getElem_cons_succ, List.setIfInBounds_toArray, List.set_cons_zero, List.set_cons_succ]
  refine wpAnyL_take (i := 2) (v := ?v3) rfl (by kernel_rfl) (by kernel_rfl) (by kernel_rfl) (by kernel_rfl) (fun _ _ _ h => h) (Or.inl ⟨by kernel_rfl, ?hy3⟩) (by assumption) ?r3
  case hy3 => (intro W s0; go_simp; try with_reducible rfl)
  try simp only [Act.put, List.getElem_toArray, List.getElem_cons_zero, List.getElem_cons_succ, List.setIfInBounds_toArray, List.set_cons_zero, List.set_cons_succ]
  refine wpAnyL_take (i := 3) (v := ?v4) rfl (by kernel_rfl) (by kernel_rfl) (by kernel_rfl) (by kernel_rfl) (fun _ _ _ h => h) (Or.inl ⟨by kernel_rfl, ?hy4⟩) (by assumption) ?r4
  case hy4 => (intro W s0; go_simp; try with_reducible rfl)
  try simp only [Act.put, List.getElem_toArray, List.getElem_cons_zero, List.getElem_cons_succ, List.setIfInBounds_toArray, List.set_cons_zero, List.set_cons_succ]
  refine wpAnyL_take (i := 4) (v := ?v5) rfl (by kernel_rfl) (by kernel_rfl) (by kernel_rfl) (by kernel_rfl) (fun _ _ _ h => h) (Or.inl ⟨by kernel_rfl, ?hy5⟩) (by assumption) ?r5
  case hy5 => (intro W s0; go_simp; try with_reducible rfl)
  try simp only [Act.put, List.getElem_toArray, List.getElem_cons_zero, List.getElem_cons_succ, List.setIfInBounds_toArray, List.set_cons_zero, List.set_cons_succ]
  refine wpAnyL_take (i := 5) (v := ?v6) rfl (by kernel_rfl) (by kernel_rfl) (by kernel_rfl) (by kernel_rfl) (fun _ _ _ h => h) (Or.inl ⟨by kernel_rfl, ?hy6⟩) (by assumption) ?r6
  case hy6 => (intro W s0; go_simp; try with_reducible rfl)
  try simp only [Act.put, List.getElem_toArray, List.getElem_cons_zero, List.getElem_cons_succ, List.setIfInBounds_toArray, List.set_cons_zero, List.set_cons_succ]
  refine wpAnyL_take (i := 6) (v := ?v7) rfl (by kernel_rfl) (by kernel_rfl) (by kernel_rfl) (by kernel_rfl) (fun _ _ _ h => h) (Or.inl ⟨by kernel_rfl, ?hy7⟩) (by assumption) ?r7
  case hy7 => (intro W s0; go_simp; try with_reducible rfl)
  try simp only [Act.put, List.getElem_toArray, List.getElem_cons_zero, List.getElem_cons_succ, List.setIfInBounds_toArray, List.set_cons_zero, List.set_cons_succ]
  refine wpAnyL_take (i := 8) (v := ?v8) rfl (by kernel_rfl) (by kernel_rfl) (by kernel_rfl) (by kernel_rfl) (fun _ _ _ h => h) (Or.inl ⟨by kernel_rfl, ?hy8⟩) (by assumption) ?r8
  case hy8 => (intro W s0; go_simp; try with_reducible rfl)
  try simp only [Act.put, List.getElem_toArray, List.getElem_cons_zero, List.getElem_cons_succ, List.setIfInBounds_toArray, List.set_cons_zero, List.set_cons_succ]
  refine wpAnyL_take (i := 9) (v := ?v9) rfl (by kernel_rfl) (by kernel_rfl) (by kernel_rfl) (by kernel_rfl) (fun _ _ _ h => h) (Or.inl ⟨by kernel_rfl, ?hy9⟩) (by assumption) ?r9
  case hy9 => (intro W s0; go_simp; try with_reducible rfl)
  try simp only [Act.put, List.getElem_toArray, List.getElem_cons_zero, List.getElem_cons_succ, List.setIfInBounds_toArray, List.set_cons_zero, List.set_cons_succ]
  refine wpAnyL_take (i := 10) (v := ?v10) rfl (by kernel_rfl) (by kernel_rfl) (by kernel_rfl) (by kernel_rfl) (fun _ _ _ h => h) (Or.inl ⟨by kernel_rfl, ?hy10⟩) (by assumption) ?r10
  case hy10 => (intro W s0; go_simp; try with_reducible rfl)
  try simp only [Act.put, List.getElem_toArray, List.getElem_cons_zero, List.getElem_cons_succ, List.setIfInBounds_toArray, List.set_cons_zero, List.set_cons_succ]
  refine wpAnyL_take (i := 11) (v := ?v11) rfl (by kernel_rfl) (by kernel_rfl) (by kernel_rfl) (by kernel_rfl) (fun _ _ _ h => h) (Or.inl ⟨by kernel_rfl, ?hy11⟩) (by assumption) ?r11
  case hy11 => (intro W s0; go_simp; try with_reducible rfl)
  try simp only [Act.put, List.getElem_toArray, List.getElem_cons_zero, List.getElem_cons_succ, List.setIfInBounds_toArray, List.set_cons_zero, List.set_cons_succ]
  refine wpAnyL_take (i := 12) (v := ?v12) rfl (by kernel_rfl) (by kernel_rfl) (by kernel_rfl) (by kernel_rfl) (fun _ _ _ h => h) (Or.inl ⟨by kernel_rfl, ?hy12⟩) (by assumption) ?r12
  case hy12 => (intro W s0; go_simp; try with_reducible rfl)
  try simp only [Act.put, List.getElem_toArray, List.getElem_cons_zero, List.getElem_cons_succ, List.setIfInBounds_toArray, List.set_cons_zero, List.set_cons_succ]
  refine wpAnyL_take (i := 13) (v := ?v13) rfl (by kernel_rfl) (by kernel_rfl) (by kernel_rfl) (by kernel_rfl) (fun _ _ _ h => h) (Or.inl ⟨by kernel_rfl, ?hy13⟩) (by assumption) ?r13
  case hy13 => (intro W s0; go_simp; try with_reducible rfl)
  try simp only [Act.put, List.getElem_toArray, List.getElem_cons_zero, List.getElem_cons_succ, List.setIfInBounds_toArray, List.set_cons_zero, List.set_cons_succ]
  refine wpAnyL_take (i := 14) (v := ?v14) rfl (by kernel_rfl) (by kernel_rfl) (by kernel_rfl) (by kernel_rfl) (fun _ _ _ h => h) (Or.inl ⟨by kernel_rfl, ?hy14⟩) (by assumption) ?r14
  case hy14 => (intro W s0; go_simp; try with_reducible rfl)
  try simp only [Act.put, List.getElem_toArray, List.getElem_cons_zero, List.getElem_cons_succ, List.setIfInBounds_toArray, List.set_cons_zero, List.set_cons_succ]
  refine wpAnyL_one (i := 7) (by kernel_rfl) rfl (by decide) (fun K hK => ?_)
  rw [if_pos (by rfl)]
  refine oper_append (.const (.slice none 0 0)) (.tmp 10) 31 rfl (.agg #[i64 0, .string ByteArray.empty, i64 0]) 32 Tryz.underlying31 rheldInfo rfl (by decide) (by decide) rfl (Own.nil_ _ wq.heap.size 104) (some ⟨b, o, none⟩) i c (H.take i) rfl Hql.out (hTk.out _ hb) (by simp <;> omega) hb.size ?_
  intro v1 u1 hO1 hg1 hat1
  rw [List.nil_append] at hO1
  have hF := (Own.nil_ (α := Held) _ _ 104).below hg1 (Nat.le_refl _) (Nat.le_refl _)
  have hb := below_on hb (Nat.le_refl _) hF
  have HO1 := Lib.hid hO1
  clear hF hg1 hat1 hO1
  refine hK.out _ _ ((hb.cell (p := ⟨g, 0, none⟩) hlgq).trans c0q) (fun hH => ?_)
  clear hK K
  try simp only [Act.put, List.getElem_toArray, List.getElem_cons_zero, List.getElem_cons_succ, List.setIfInBounds_toArray, List.set_cons_zero, List.set_cons_succ]
  refine wpAnyL_one (i := 15) (by kernel_rfl) rfl (by decide) (fun K hK => ?_)
  rw [if_pos (by rfl)]
  refine oper_append (.tmp 11) (.tmp 18) 31 rfl (.agg #[i64 0, .string ByteArray.empty, i64 0]) 32 Tryz.underlying31 rheldInfo rfl (by decide) (by decide) rfl HO1.out _ _ _ (H.drop (i + 1)) rfl (by simp) ((hDr.out _ hb).mono (HO1.out.oth (Nat.le_refl _) hb.size)) (by simp <;> omega) hb.size ?_
  intro v3 u3 hO3 hg3 hat3
  obtain ⟨A3, cap3, hv3, -⟩ := hO3.sl
  generalize List.length _ = n3 at hv3
  subst hv3
  have hb := hb.trans (HO1.out.below hg3 (Nat.le_refl _) hb.size)
  have HO3 := Lib.hid hO3
  clear hg3 hat3 hO3 HO1
  refine hK.out _ _ ((hb.cell (p := ⟨g, 0, none⟩) hlgq).trans c0q) (fun hH => ?_)
  clear hK K
  try simp only [Act.put, List.getElem_toArray, List.getElem_cons_zero, List.getElem_cons_succ, List.setIfInBounds_toArray, List.set_cons_zero, List.set_cons_succ]
  refine wpAnyL_take (i := 16) (v := ?v15) rfl (by kernel_rfl) (by kernel_rfl) (by kernel_rfl) (by kernel_rfl) (fun _ _ _ h => h) (Or.inl ⟨by kernel_rfl, ?hy15⟩) (by assumption) ?r15
  case hy15 => (intro W s0; go_simp; try with_reducible rfl)
  try simp only [Act.put, List.getElem_toArray, List.getElem_cons_zero, List.getElem_cons_succ, List.setIfInBounds_toArray, List.set_cons_zero, List.set_cons_succ]
  refine wpAnyL_take (i := 17) (v := ?v16) rfl (by kernel_rfl) (by kernel_rfl) (by kernel_rfl) (by kernel_rfl) (fun _ _ _ h => h) (Or.inl ⟨by kernel_rfl, ?hy16⟩) (by assumption) ?r16
  case hy16 => (intro W s0; go_simp; try with_reducible rfl)
  try simp only [Act.put, List.getElem_toArray, List.getElem_cons_zero, List.getElem_cons_succ, List.setIfInBounds_toArray, List.set_cons_zero, List.set_cons_succ]
  refine wpAnyL_last (by kernel_rfl) rfl (fun K hK => ?_)
  have c3 := (hb.cell (p := ⟨g, 0, none⟩) hlgq).trans c0q
  have hg3 := Lib.hid ((hb.block _ hlgq).trans hcq.out)
  have f3 := frozen_of_row _ g 0 _ _ hg3.out
  go_simp
  refine hK.out _ _ ?_
  clear hK K
  try simp only [Act.put, List.getElem_toArray, List.getElem_cons_zero, List.getElem_cons_succ, List.setIfInBounds_toArray, List.set_cons_zero, List.set_cons_succ]
  refine wpAnyL_done (by kernel_rfl) ?_ _
  refine NoPanic.normal ?_
  have hD := rh_put (Nat.le_refl _) hb hlgq HTn.out hg3.out HO3.out (fun x hx => by
    rcases List.mem_append.1 hx with hx | hx
    · exact Hs.out.2.2.2 x (List.mem_of_mem_take hx)
    · exact Hs.out.2.2.2 x (List.mem_of_mem_drop hx))
  have HD := Lib.hid hD
  clear hD
  go_wp2
  all_goals (refine bodyPost_end (results_none rfl _ _ _) rfl ?_; exact ⟨rfl, HD.out.1, HD.out.2⟩)
end Go.Proofs.YtmljlkjomjflpaaGreat

/- ref01.Add -/
namespace Go.Proofs.YtmljlkjomjflpaaGreat
open Go.RowKit
set_option maxRecDepth 100000 in
set_option maxHeartbeats 4000000 in
theorem radd_c (a b : Int) (w : World) (ha : R64 a) (hb : R64 b) : Calls Tryz.prog 138 #[i64 a, i64 b] w fun e w' => e = .returned (.tuple #[i64 (sumR (a + b)).1, i64 (sumR (a + b)).2]) ∧ Below w.heap.size w w' := by
  have k1 := Lib.hid fun W => of_c a W ha
  have k2 := Lib.hid fun W => of_c b W hb
  have k4 := Lib.hid fun W => plus_c a b W (.of64 ha) (.of64 hb)
  have k5 := Lib.hid fun W => rsum_c (a + b) W
  generalize wdV a = A at *
  generalize wdV b = B at *
  generalize wdV (a + b) = D at *
  generalize sumR (a + b) = R at *
  clear ha hb
  go_enter Tryz.func138, Tryz.ntmps138
  go_wp2_with fail
  refine (k1.out _).mono ?_
  rintro e w1 ⟨rfl, h1⟩
  go_wp2_with fail
  refine (k2.out _).mono ?_
  rintro e w2 ⟨rfl, h2⟩
  have h2 := below_on h1 (Nat.le_refl _) h2
  go_wp2_with fail
  refine (k4.out _).mono ?_
  rintro e w4 ⟨rfl, h4⟩
  have h4 := below_on h2 (Nat.le_refl _) h4
  go_wp2_with fail
  refine (k5.out _).mono ?_
  rintro e w5 ⟨rfl, h5⟩
  have h5 := below_on h4 (Nat.le_refl _) h5
  go_wp2
  go_ret2
  exact ⟨rfl, h5⟩
end Go.Proofs.YtmljlkjomjflpaaGreat
