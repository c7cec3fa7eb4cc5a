/- Texts of this claim, laid together: Law10, Few10, Few11, Has6, SlB, Num, Text, Rdr. -/
import Derived.Test.YtogipnfhcimeoaaGreatRows
import Derived.Test.YtogipnfhcimeoaaGreatBc5
import Derived.Test.YtogipnfhcimeoaaGreatBc4
import Derived.WalkKit
import Derived.WalkSpells
import Derived.WalkLawsBesides
import Derived.Deep.QuietTactic
import Derived.BigQuiet
import Derived.Laws.StructEq
import Derived.Deep.DeepFit
import Derived.StillTailTactics
import Derived.Test.YtogipnfhcimeoaaGreatBc1
import Derived.Test.YtogipnfhcimeoaaGreatShelf
import Derived.Test.YtogipnfhcimeoaaGreatBc2
import Derived.Lib.Zigzag
import Derived.Lib.VarintMem
import Derived.Lib.ConvBytes
import Derived.Lib.VarintDec

/- The plain laws of clash's statements -/
namespace Go.Proofs.YtogipnfhcimeoaaGreat
open Go.RowKit
theorem valK {l : List Od} (h : Val l) : Val (K l) := validL_iff.1 (by rw [validL_core]; exact validL_iff.2 h)
theorem ownK_at {l : List Od} : ∀ {k : Nat}, k ≤ l.length → ∀ {y : Od}, y ∈ ownK l k → ∃ j, j < k ∧ l[j]? = some y
  | 0, _, _, h => by simp [ownK] at h
  | k + 1, hk, y, h => by
    rw [ownK_succ (by omega)] at h
    split at h
    · rcases List.mem_append.1 h with h | h
      · obtain ⟨j, hj, e⟩ := ownK_at (by omega) h
        exact ⟨j, by omega, e⟩
      · rw [List.mem_singleton.1 h]
        exact ⟨k, by omega, List.getElem?_eq_getElem (by omega)⟩
    · obtain ⟨j, hj, e⟩ := ownK_at (by omega) h
      exact ⟨j, by omega, e⟩
theorem val_ownK {l : List Od} : ∀ {k : Nat}, k ≤ l.length → Val (ownK l k)
  | 0, _ => by simp [ownK]; exact val_nil
  | k + 1, hk => by
    rw [ownK_succ (by omega)]
    split
    · rename_i h
      refine val_snoc.2 ⟨val_ownK (by omega), fun y hy e => ?_⟩
      obtain ⟨j, hj, ej⟩ := ownK_at (by omega) hy
      obtain ⟨hjl, ej⟩ := List.getElem?_eq_some_iff.1 ej
      unfold atIdx idxP at h
      split at h
      · rename_i k' hk'
        have : k' = k := by omega
        subst this
        have h2 := (List.findIdx?_eq_some_iff_getElem.1 hk').2.2 j hj
        rw [ej] at h2
        simp [e] at h2
      · omega
    · exact val_ownK (by omega)
theorem val_own (l : List Od) : Val (ownL l) := val_ownK (Nat.le_refl _)
theorem own_small (n : Nat) (l : List Od) : (ownL (fewL n l)).length ≤ n := Nat.le_trans (ownK_len _ _) (fewL_le n l)
theorem own_legs (n : Nat) (l : List Od) : fewLegs (ownL (fewL n l)) := fun x hx => Nat.le_trans (fewL_legs n l x (ownK_sub _ _ x hx)) (by decide)
theorem at_in {l : List Od} {i : Id} (h : ∃ y ∈ l, y.id = i) : 0 ≤ atIdx l i := by
  have h2 := idxP_any (fun x : Od => decide (x.id = i)) l
  have h3 : (l.any fun x : Od => decide (x.id = i)) = true := List.any_eq_true.2 (by obtain ⟨y, hy, e⟩ := h; exact ⟨y, hy, by simpa using e⟩)
  rw [h3] at h2
  exact of_decide_eq_true h2
theorem at_out {l : List Od} {i : Id} (h : ∀ y ∈ l, y.id ≠ i) : atIdx l i < 0 := by
  have h2 := idxP_any (fun x : Od => decide (x.id = i)) l
  have h3 : (l.any fun x : Od => decide (x.id = i)) = false := List.any_eq_false.2 (fun y hy => by simpa using h y hy)
  rw [h3] at h2
  exact Int.not_le.1 (of_decide_eq_false h2)
theorem sameL_self (l : List Od) : sameL l l = true := sameL_core.2 rfl
theorem begins_nil {l : List Od} (h : Val l) : beginsB [] l = true := beginsB_K.2 (.nil (valK h))
theorem begins_self {l : List Od} (h : Val l) : beginsB l l = true := beginsB_K.2 (.refl (valK h))
theorem rest_nil {l : List Od} (h : Val l) : restL [] l = l := by rw [restL, if_pos (begins_nil h), others_nil]
theorem rest_self (l : List Od) : restL l l = [] := by
  unfold restL
  split
  · exact others_all fun _ h => h
  · rfl
theorem rest_len {a b : List Od} (h : beginsB a b = true) : a.length + (restL a b).length = b.length := by
  have hb := beginsB_K.1 h
  have h1 := others_len hb.1 hb.2.1 hb.2.2.1
  rw [othersL_core] at h1
  simp only [List.length_map] at h1
  rw [restL, if_pos h]
  exact h1
theorem rest_at {a b : List Od} {x : Od} (hx : x ∈ restL a b) : atIdx a x.id < 0 ∧ 0 ≤ atIdx b x.id := by
  unfold restL at hx
  split at hx
  · have := mem_others.1 hx
    exact ⟨at_out this.2, at_in ⟨x, this.1, rfl⟩⟩
  · cases hx

/-- two beginnings of lists of one list's orders that have changed places meet -/
theorem law_begins {l m : List Od} (hv : Val l) (hm : Mix l m) (i k : Nat) :
    beginsB (l.take i) m = true ∧ beginsB (m.take k) l = true ∧ alikeB (l.take i ++ restL (l.take i) m) m = true ∧ meetOk (l.take i) (m.take k) = true ∧
      beginsB (l.take i) (meetR (l.take i) (m.take k)) = true ∧ beginsB (m.take k) (meetR (l.take i) (m.take k)) = true ∧ beginsB (meetR (l.take i) (m.take k)) l = true ∧ validL (meetR (l.take i) (m.take k)) = true := by
  have hK : ∀ {l m : List Od}, Mix l m → Mix (K l) (K m) := by
    intro l m h
    induction h with
    | refl => exact .refl _
    | step _ hn ih =>
      simp only [K, List.map_append, List.map_cons] at ih ⊢
      exact ih.step hn
  obtain ⟨h1, h2⟩ := (hK hm).beg (valK hv)
  have hvm := h1.2.1
  have a1 : Beg (K (l.take i)) (K l) := by rw [K, List.map_take]; exact .take (valK hv) i
  have b1 : Beg (K (m.take k)) (K m) := by rw [K, List.map_take]; exact .take hvm k
  have a2 := a1.trans h1
  have b2 := b1.trans h2
  have q1 := beginsB_K.2 a2
  have q2 := beginsB_K.2 b2
  obtain ⟨m1, m2, m3⟩ := a1.meet b2
  rw [meetL_core] at m1 m2 m3
  have q3 := beginsB_K.2 m1
  have q4 := beginsB_K.2 m2
  have q5 := beginsB_K.2 m3
  have q6 : meetOk (l.take i) (m.take k) = true := by unfold meetOk; rw [q3, q4]; rfl
  have q7 : meetR (l.take i) (m.take k) = meetL (l.take i) (m.take k) := by rw [meetR, if_pos q6]
  refine ⟨q1, q2, ?_, q6, by rw [q7]; exact q3, by rw [q7]; exact q4, by rw [q7]; exact q5, ?_⟩
  · obtain ⟨r1, r2⟩ := a2.rest
    rw [← alikeB_core]
    rw [restL, if_pos q1, K, List.map_append, ← K, ← K, ← othersL_core]
    unfold alikeB
    rw [Bool.and_eq_true, decide_eq_true_eq]
    refine ⟨r2, (beginsB_iff ?_ (bare_K m)).2 r1⟩
    have := bare_K (meetL (l.take i) m)
    rw [← meetL_core] at this
    exact this
  · rw [q7, ← validL_core]
    exact validL_iff.2 m3.1
theorem meet_bare (a b : List Od) : Bare (meetL (K a) (K b)) := by rw [meetL_core]; exact bare_K _
/-- where two lists meet they do so the other way round, too -/
theorem law_meet {a b : List Od} (ha : Val a) (hb : Val b) : meetOk a b = meetOk b a ∧ (meetOk a b = true → alikeB (meetR a b) (meetR b a) = true) := by
  have ka := valK ha
  have kb := valK hb
  have key : ∀ {a b : List Od}, Val (K a) → meetOk a b = true → Beg (K b) (meetL (K a) (K b)) := fun {a b} ka h => by
    unfold meetOk at h
    rw [Bool.and_eq_true] at h
    have := beginsB_K.1 h.2
    rw [← meetL_core] at this
    exact this
  have ok : ∀ {a b : List Od}, Val (K a) → Val (K b) → Beg (K b) (meetL (K a) (K b)) → meetOk a b = true := fun {a b} ka kb h => by
    unfold meetOk
    rw [Bool.and_eq_true]
    have h1 := Beg.left (val_meet ka kb)
    have h1' : Beg (K a) (meetL (K a) (K b)) := h1
    rw [meetL_core] at h h1'
    exact ⟨beginsB_K.2 h1', beginsB_K.2 h⟩
  have step : ∀ {a b : List Od}, Val (K a) → Val (K b) → meetOk a b = true → meetOk b a = true := fun {a b} ka kb h => ok kb ka (Beg.meet_comm ka (key ka h))
  have heq : meetOk a b = meetOk b a := by
    rw [Bool.eq_iff_iff]
    exact ⟨step ka kb, step kb ka⟩
  refine ⟨heq, fun h => ?_⟩
  have h2 := heq ▸ h
  obtain ⟨g1, g2⟩ := Beg.meet_alike ka (key ka h)
  rw [meetR, if_pos h, meetR, if_pos h2, ← alikeB_core, ← meetL_core, ← meetL_core]
  unfold alikeB
  rw [Bool.and_eq_true, decide_eq_true_eq]
  exact ⟨g2, (beginsB_iff (meet_bare a b) (meet_bare b a)).2 g1⟩
theorem others_take (a : List Od) (k : Nat) : othersL a (a.take k) = [] := others_all fun _ h => List.mem_of_mem_take h
/-- a list meets its beginnings -/
theorem law_meet_take {a : List Od} (ha : Val a) (k : Nat) : meetOk a (a.take k) = true ∧ meetR a (a.take k) = a ∧ meetOk (a.take k) a = true ∧ alikeB (meetR (a.take k) a) a = true := by
  have h1 : meetL a (a.take k) = a := by unfold meetL; rw [others_take, List.append_nil]
  have ht : beginsB (a.take k) a = true := beginsB_K.2 (by rw [K, List.map_take]; exact .take (valK ha) k)
  have h2 : meetOk a (a.take k) = true := by unfold meetOk; rw [h1, begins_self ha, ht]; rfl
  have hv : Val (a.take k) := ha.sub (List.take_sublist k a)
  obtain ⟨h3, h4⟩ := law_meet ha hv
  have h5 : meetR a (a.take k) = a := by rw [meetR, if_pos h2, h1]
  obtain ⟨h6, h7⟩ := law_meet hv ha
  have h8 : meetOk (a.take k) a = true := h6.trans h2
  have h9 := h7 h8
  rw [h5] at h9
  exact ⟨h2, h5, h8, h9⟩
theorem meetR_few {a b : List Od} (ha : fewLegs a) (hb : fewLegs b) : fewLegs (meetR a b) := by
  unfold meetR
  split
  · exact meetL_few ha hb
  · exact fun _ h => absurd h (by simp)
theorem meetR_len (a b : List Od) : (meetR a b).length ≤ a.length + b.length := by
  unfold meetR
  split
  · have := othersL_len a b
    rw [List.length_append]
    omega
  · simp
/-- a place that 'int(uint(x) % uint(n + 1))' names -/
theorem place_mod (x : Int) (n : Nat) (hn : n ≤ 65536) : ∃ k : Nat, wrap64 ((IntKind.u64.wrap x).tmod ((n : Int) + 1)) = (k : Int) ∧ k ≤ n := by
  have h0 : 0 ≤ IntKind.u64.wrap x := by simp only [IntKind.wrap_u64]; omega
  have h1 : 0 ≤ (IntKind.u64.wrap x).tmod ((n : Int) + 1) := Int.tmod_nonneg _ h0
  have h2 : (IntKind.u64.wrap x).tmod ((n : Int) + 1) < (n : Int) + 1 := Int.tmod_lt_of_pos _ (by omega)
  generalize (IntKind.u64.wrap x).tmod ((n : Int) + 1) = y at h1 h2
  refine ⟨y.toNat, ?_, by omega⟩
  unfold wrap64
  omega
end Go.Proofs.YtogipnfhcimeoaaGreat

/- few, own of countinghouselaw10 -/
namespace Go.Proofs.YtogipnfhcimeoaaGreat
open Go.RowKit
set_option maxRecDepth 100000 in
set_option maxHeartbeats 1000000 in
theorem few_10 (A : Option Addr) (c n : Nat) (l : List Od) (w : World) (h : Sl w w.heap.size A c l) (hn : n ≤ 65536) :
    Calls Tryz.prog 51 #[.slice A l.length c, i64 n] w fun e w' => ∃ v, e = .returned v ∧ Own w' w.heap.size 45 v (fewL n l) ∧ Below w.heap.size w w' := by
  have hlm : l.length ≤ 9223372036854775807 := h.len_le
  go_enter Tryz.func51, Tryz.ntmps51
  go_wp2
  go_loopw [5, 6] (fun v i wr => ∃ k : Nat, i = i64 k ∧ k ≤ l.length ∧ k ≤ n ∧ Own wr w.heap.size 45 v (fewL k l) ∧ Below w.heap.size w wr) (fun _ i _ => l.length - (intOf i).toNat)
  case atStart => exact ⟨0, rfl, by omega, by omega, Own.nil_ _ _ _, Below.refl _ _⟩
  case round =>
    obtain ⟨k, rfl, hk, hkn, hO, hb⟩ := hrel
    by_cases hlt : k < l.length ∧ k < n
    · obtain ⟨h1, h2⟩ := hlt
      obtain ⟨b, o, rfl, hbb, hok, c0, c1, c2, c3, c4, c5, c6, c7, c8, c9⟩ := (h.below hb).od h1
      have hlc : l[k].legs.length ≤ l[k].lc := hok.legs.1
      have Hok := Lib.hid hok
      clear hok
      have HO := Lib.hid hO
      have hne := hO.new_ne (Nat.le_succ wr.heap.size)
      have Hne := Lib.hid hne
      clear hO hne
      have hlen : (fewL k l).length = k := fewL_len h1
      have HL := Lib.hid hlen
      clear hlen
      by_cases h8 : l[k].legs.length ≤ 8
      all_goals
        have hB2 := ((Below.refl wr.heap.size wr).alloc (Nat.le_refl _) (.cells (cut8 l[k]).cells.toArray 45)).alloc (by simp) (.cells (cut8 l[k]).cells.toArray 45)
        have hb2 := hb.trans (hB2.mono hb.size)
        have hHeap := heap_alloc2_new wr (.cells (cut8 l[k]).cells.toArray 45) (.cells (cut8 l[k]).cells.toArray 45)
        have hO2 := HO.out.later hB2
        have hok2 : Enc.ok ((wr.alloc (.cells (cut8 l[k]).cells.toArray 45)).alloc (.cells (cut8 l[k]).cells.toArray 45)) (Oth ((wr.alloc (.cells (cut8 l[k]).cells.toArray 45)).alloc (.cells (cut8 l[k]).cells.toArray 45)) _) (cut8 l[k]) := Enc.keep (cut8_ok Hok.out) (fun _ hp => hB2.cell (Nat.lt_of_lt_of_le hp hb.size)) (hO2.oth (Nat.le_refl _) hb2.size)
        have HO2 := Lib.hid hO2
        have Hok2 := Lib.hid hok2
        have HH := Lib.hid hHeap
        have Hb2 := Lib.hid hb2
        clear hO2 hok2 hHeap hb2 hB2
        have hcs : (cut8 l[k]).cells = [i64 l[k].client, i64 l[k].seq, i64 l[k].kind, .string l[k].acct, .string l[k].peer, i64 l[k].sum, .slice l[k].la (cut8 l[k]).legs.length l[k].lc, i64 l[k].period, i64 l[k].hold, .string l[k].note] := rfl
        first
          | (first
               | (have h88 : (cut8 l[k]).legs.length = l[k].legs.length := by rw [cut8_small h8]
                  rw [h88] at hcs
                  clear h88)
               | (have h88 : (cut8 l[k]).legs.length = 8 := by show (l[k].legs.take 8).length = 8; rw [List.length_take]; omega
                  rw [h88] at hcs
                  clear h88)
             have Hcs := Lib.hid hcs
             rw [hcs] at HO2 Hok2 HH Hb2
             clear hcs
             go_wp2_with (at_builtin; refine wpList_append_one rfl (some 34) (.tmp 31) (.tmp 33) 22 rfl rfl _ 120 Tryz.underlying22 inf_od rfl (by decide) (by decide) rfl HO2.out (wr.heap.size + 1) (cut8 l[k]) rfl _ 45 HH.out Hcs.out.symm Hne.out Hok2.out (by rw [HL.out]; omega) Hb2.out.size ?_; intro v3 w3 hO3 hg3 hat3)
             go_roundw
             case rel => exact ⟨k + 1, by go_num, by omega, by omega, by rw [fewL_succ h1]; exact hO3, Hb2.out.trans (HO2.out.below hg3 (Nat.le_refl _) Hb2.out.size)⟩
             case measure => simp [intOf]; omega)
          | (have h88 : (cut8 l[k]).legs.length = (min (l[k].legs.length : Int) 8).toNat := by show (l[k].legs.take 8).length = _; rw [List.length_take]; omega
             rw [h88] at hcs
             clear h88
             have Hcs := Lib.hid hcs
             rw [hcs] at HO2 Hok2 HH Hb2
             clear hcs
             go_wp2_with (at_builtin; refine wpList_append_one rfl (some 34) (.tmp 31) (.tmp 33) 22 rfl rfl _ 120 Tryz.underlying22 inf_od rfl (by decide) (by decide) rfl HO2.out (wr.heap.size + 1) (cut8 l[k]) rfl _ 45 HH.out Hcs.out.symm Hne.out Hok2.out (by rw [HL.out]; omega) Hb2.out.size ?_; intro v3 w3 hO3 hg3 hat3)
             go_roundw
             case rel => exact ⟨k + 1, by go_num, by omega, by omega, by rw [fewL_succ h1]; exact hO3, Hb2.out.trans (HO2.out.below hg3 (Nat.le_refl _) Hb2.out.size)⟩
             case measure => simp [intOf]; omega)
    · have hf : fewL n l = fewL k l := by
        unfold fewL
        rcases Nat.lt_or_ge k l.length with h1 | h1
        · rw [show n = k by omega]
        · rw [List.take_of_length_le (by omega), List.take_of_length_le h1]
      have Hf := Lib.hid hf
      clear hf
      by_cases hkl : k < l.length
      · have hkn2 : ¬ k < n := fun h => hlt ⟨hkl, h⟩
        clear hlt
        go_wp2
        go_ret
        exact ⟨_, rfl, by rw [Hf.out]; exact hO, hb⟩
      · clear hlt
        go_wp2
        go_ret
        exact ⟨_, rfl, by rw [Hf.out]; exact hO, hb⟩
set_option maxRecDepth 100000 in
set_option maxHeartbeats 1000000 in
theorem own_10 (A : Option Addr) (c : Nat) (l : List Od) (w : World) (h : Sl w w.heap.size A c l) (hn : l.length ≤ 65536) :
    Calls Tryz.prog 50 #[.slice A l.length c] w fun e w' => ∃ v, e = .returned v ∧ Own w' w.heap.size 45 v (ownL l) ∧ Below w.heap.size w w' := by
  go_enter Tryz.func50, Tryz.ntmps50
  go_wp2_with fail
  go_loopw [3, 4] (fun v i wr => ∃ k : Nat, i = i64 k ∧ k ≤ l.length ∧ Own wr w.heap.size 45 v (ownK l k) ∧ Below w.heap.size w wr) (fun _ i _ => l.length - (intOf i).toNat)
  case atStart => exact ⟨0, rfl, by omega, Own.nil_ _ _ _, Below.refl _ _⟩
  case round =>
    obtain ⟨k, rfl, hk, hO, hb⟩ := hrel
    by_cases hlt : k < l.length
    · obtain ⟨b, o, rfl, hbb, hok, c0, c1, c2, c3, c4, c5, c6, c7, c8, c9⟩ := (h.below hb).od hlt
      have Hok := Lib.hid hok
      have HO := Lib.hid hO
      have HB := Lib.hid hb
      clear hok hO
      go_wp2_with fail
      refine (at_any _ c l l[k].id _ (h.keep (fun _ hp => HB.out.cell hp) (fun _ hp => Nat.lt_of_lt_of_le hp HB.out.size)) hn).mono ?_
      rintro e w1 ⟨rfl, hb1⟩
      have hbw := HB.out.trans (hb1.mono HB.out.size)
      have hO1 := HO.out.later hb1
      obtain ⟨_, _, hA1, _, hok1, d0, d1, d2, d3, d4, d5, d6, d7, d8, d9⟩ := (h.below hbw).od hlt
      injection hA1 with hA1
      injection hA1 with hA2 hA3
      subst hA2 hA3
      have Hok1 := Lib.hid hok1
      have HO1 := Lib.hid hO1
      clear hok1 hO1 hb1 c0 c1 c2 c3 c4 c5 c6 c7 c8 c9
      by_cases hat : atIdx l l[k].id = (k : Int)
      · have hq : (atIdx l l[k].id == (k : Int)) = true := beq_iff_eq.2 hat
        have Hs := Lib.hid (show ownK l (k + 1) = ownK l k ++ [l[k]] by rw [ownK_succ hlt, if_pos hat])
        have Hk := Lib.hid (ownK_len l k)
        have hB2 := (Below.refl w1.heap.size w1).alloc (Nat.le_refl _) (.cells l[k].cells.toArray 45)
        have hb2 := hbw.trans (hB2.mono hbw.size)
        have hO2 := HO1.out.later hB2
        have HO2 := Lib.hid hO2
        have Hok2 := Lib.hid (Enc.keep (x := l[k]) Hok1.out (fun _ hp => hB2.cell (Nat.lt_of_lt_of_le hp hbw.size)) (hO2.oth (Nat.le_refl _) hb2.size))
        have HH := Lib.hid (heap_alloc_new w1 (.cells l[k].cells.toArray 45))
        have Hne := Lib.hid (HO1.out.new_ne (Nat.le_refl w1.heap.size))
        have Hb2 := Lib.hid hb2
        clear hO2 hb2 hB2 hat
        simp only [Od.cells] at HO2 HH Hb2 Hok2
        generalize atIdx l l[k].id = r at *
        go_wp2_with (at_builtin; refine wpList_append_one rfl (some 26) (.tmp 20) (.tmp 25) 22 rfl rfl _ 120 Tryz.underlying22 inf_od rfl (by decide) (by decide) rfl HO2.out w1.heap.size l[k] rfl _ 45 HH.out rfl Hne.out Hok2.out (by have := Hk.out; omega) Hb2.out.size ?_; intro v3 w3 hO3 hg3 hat3)
        go_roundw
        case rel => exact ⟨k + 1, by go_num, by omega, by rw [Hs.out]; exact hO3, Hb2.out.trans (HO2.out.below hg3 (Nat.le_refl _) Hb2.out.size)⟩
        case measure => simp [intOf]; omega
      · have hq : (atIdx l l[k].id == (k : Int)) = false := beq_eq_false_iff_ne.2 hat
        have Hs := Lib.hid (show ownK l (k + 1) = ownK l k by rw [ownK_succ hlt, if_neg hat])
        clear hat
        generalize atIdx l l[k].id = r at *
        go_wp2
        go_roundw
        case rel => exact ⟨k + 1, by go_num, by omega, by rw [Hs.out]; exact HO1.out, hbw⟩
        case measure => simp [intOf]; omega
    · obtain rfl : k = l.length := by omega
      go_wp2
      go_ret
      exact ⟨_, rfl, hO, hb⟩
end Go.Proofs.YtogipnfhcimeoaaGreat

/- few, own of countinghouselaw11 -/
namespace Go.Proofs.YtogipnfhcimeoaaGreat
open Go.RowKit
set_option maxRecDepth 100000 in
set_option maxHeartbeats 1000000 in
theorem few_11 (A : Option Addr) (c n : Nat) (l : List Od) (w : World) (h : Sl w w.heap.size A c l) (hn : n ≤ 65536) :
    Calls Tryz.prog 16 #[.slice A l.length c, i64 n] w fun e w' => ∃ v, e = .returned v ∧ Own w' w.heap.size 45 v (fewL n l) ∧ Below w.heap.size w w' := by
  have hlm : l.length ≤ 9223372036854775807 := h.len_le
  go_enter Tryz.func16, Tryz.ntmps16
  go_wp2
  go_loopw [5, 6] (fun v i wr => ∃ k : Nat, i = i64 k ∧ k ≤ l.length ∧ k ≤ n ∧ Own wr w.heap.size 45 v (fewL k l) ∧ Below w.heap.size w wr) (fun _ i _ => l.length - (intOf i).toNat)
  case atStart => exact ⟨0, rfl, by omega, by omega, Own.nil_ _ _ _, Below.refl _ _⟩
  case round =>
    obtain ⟨k, rfl, hk, hkn, hO, hb⟩ := hrel
    by_cases hlt : k < l.length ∧ k < n
    · obtain ⟨h1, h2⟩ := hlt
      obtain ⟨b, o, rfl, hbb, hok, c0, c1, c2, c3, c4, c5, c6, c7, c8, c9⟩ := (h.below hb).od h1
      have hlc : l[k].legs.length ≤ l[k].lc := hok.legs.1
      have Hok := Lib.hid hok
      clear hok
      have HO := Lib.hid hO
      have hne := hO.new_ne (Nat.le_succ wr.heap.size)
      have Hne := Lib.hid hne
      clear hO hne
      have hlen : (fewL k l).length = k := fewL_len h1
      have HL := Lib.hid hlen
      clear hlen
      by_cases h8 : l[k].legs.length ≤ 8
      all_goals
        have hB2 := ((Below.refl wr.heap.size wr).alloc (Nat.le_refl _) (.cells (cut8 l[k]).cells.toArray 45)).alloc (by simp) (.cells (cut8 l[k]).cells.toArray 45)
        have hb2 := hb.trans (hB2.mono hb.size)
        have hHeap := heap_alloc2_new wr (.cells (cut8 l[k]).cells.toArray 45) (.cells (cut8 l[k]).cells.toArray 45)
        have hO2 := HO.out.later hB2
        have hok2 : Enc.ok ((wr.alloc (.cells (cut8 l[k]).cells.toArray 45)).alloc (.cells (cut8 l[k]).cells.toArray 45)) (Oth ((wr.alloc (.cells (cut8 l[k]).cells.toArray 45)).alloc (.cells (cut8 l[k]).cells.toArray 45)) _) (cut8 l[k]) := Enc.keep (cut8_ok Hok.out) (fun _ hp => hB2.cell (Nat.lt_of_lt_of_le hp hb.size)) (hO2.oth (Nat.le_refl _) hb2.size)
        have HO2 := Lib.hid hO2
        have Hok2 := Lib.hid hok2
        have HH := Lib.hid hHeap
        have Hb2 := Lib.hid hb2
        clear hO2 hok2 hHeap hb2 hB2
        have hcs : (cut8 l[k]).cells = [i64 l[k].client, i64 l[k].seq, i64 l[k].kind, .string l[k].acct, .string l[k].peer, i64 l[k].sum, .slice l[k].la (cut8 l[k]).legs.length l[k].lc, i64 l[k].period, i64 l[k].hold, .string l[k].note] := rfl
        first
          | (first
               | (have h88 : (cut8 l[k]).legs.length = l[k].legs.length := by rw [cut8_small h8]
                  rw [h88] at hcs
                  clear h88)
               | (have h88 : (cut8 l[k]).legs.length = 8 := by show (l[k].legs.take 8).length = 8; rw [List.length_take]; omega
                  rw [h88] at hcs
                  clear h88)
             have Hcs := Lib.hid hcs
             rw [hcs] at HO2 Hok2 HH Hb2
             clear hcs
             go_wp2_with (at_builtin; refine wpList_append_one rfl (some 34) (.tmp 31) (.tmp 33) 22 rfl rfl _ 120 Tryz.underlying22 inf_od rfl (by decide) (by decide) rfl HO2.out (wr.heap.size + 1) (cut8 l[k]) rfl _ 45 HH.out Hcs.out.symm Hne.out Hok2.out (by rw [HL.out]; omega) Hb2.out.size ?_; intro v3 w3 hO3 hg3 hat3)
             go_roundw
             case rel => exact ⟨k + 1, by go_num, by omega, by omega, by rw [fewL_succ h1]; exact hO3, Hb2.out.trans (HO2.out.below hg3 (Nat.le_refl _) Hb2.out.size)⟩
             case measure => simp [intOf]; omega)
          | (have h88 : (cut8 l[k]).legs.length = (min (l[k].legs.length : Int) 8).toNat := by show (l[k].legs.take 8).length = _; rw [List.length_take]; omega
             rw [h88] at hcs
             clear h88
             have Hcs := Lib.hid hcs
             rw [hcs] at HO2 Hok2 HH Hb2
             clear hcs
             go_wp2_with (at_builtin; refine wpList_append_one rfl (some 34) (.tmp 31) (.tmp 33) 22 rfl rfl _ 120 Tryz.underlying22 inf_od rfl (by decide) (by decide) rfl HO2.out (wr.heap.size + 1) (cut8 l[k]) rfl _ 45 HH.out Hcs.out.symm Hne.out Hok2.out (by rw [HL.out]; omega) Hb2.out.size ?_; intro v3 w3 hO3 hg3 hat3)
             go_roundw
             case rel => exact ⟨k + 1, by go_num, by omega, by omega, by rw [fewL_succ h1]; exact hO3, Hb2.out.trans (HO2.out.below hg3 (Nat.le_refl _) Hb2.out.size)⟩
             case measure => simp [intOf]; omega)
    · have hf : fewL n l = fewL k l := by
        unfold fewL
        rcases Nat.lt_or_ge k l.length with h1 | h1
        · rw [show n = k by omega]
        · rw [List.take_of_length_le (by omega), List.take_of_length_le h1]
      have Hf := Lib.hid hf
      clear hf
      by_cases hkl : k < l.length
      · have hkn2 : ¬ k < n := fun h => hlt ⟨hkl, h⟩
        clear hlt
        go_wp2
        go_ret
        exact ⟨_, rfl, by rw [Hf.out]; exact hO, hb⟩
      · clear hlt
        go_wp2
        go_ret
        exact ⟨_, rfl, by rw [Hf.out]; exact hO, hb⟩
set_option maxRecDepth 100000 in
set_option maxHeartbeats 1000000 in
theorem own_11 (A : Option Addr) (c : Nat) (l : List Od) (w : World) (h : Sl w w.heap.size A c l) (hn : l.length ≤ 65536) :
    Calls Tryz.prog 28 #[.slice A l.length c] w fun e w' => ∃ v, e = .returned v ∧ Own w' w.heap.size 45 v (ownL l) ∧ Below w.heap.size w w' := by
  go_enter Tryz.func28, Tryz.ntmps28
  go_wp2_with fail
  go_loopw [3, 4] (fun v i wr => ∃ k : Nat, i = i64 k ∧ k ≤ l.length ∧ Own wr w.heap.size 45 v (ownK l k) ∧ Below w.heap.size w wr) (fun _ i _ => l.length - (intOf i).toNat)
  case atStart => exact ⟨0, rfl, by omega, Own.nil_ _ _ _, Below.refl _ _⟩
  case round =>
    obtain ⟨k, rfl, hk, hO, hb⟩ := hrel
    by_cases hlt : k < l.length
    · obtain ⟨b, o, rfl, hbb, hok, c0, c1, c2, c3, c4, c5, c6, c7, c8, c9⟩ := (h.below hb).od hlt
      have Hok := Lib.hid hok
      have HO := Lib.hid hO
      have HB := Lib.hid hb
      clear hok hO
      go_wp2_with fail
      refine (at_any _ c l l[k].id _ (h.keep (fun _ hp => HB.out.cell hp) (fun _ hp => Nat.lt_of_lt_of_le hp HB.out.size)) hn).mono ?_
      rintro e w1 ⟨rfl, hb1⟩
      have hbw := HB.out.trans (hb1.mono HB.out.size)
      have hO1 := HO.out.later hb1
      obtain ⟨_, _, hA1, _, hok1, d0, d1, d2, d3, d4, d5, d6, d7, d8, d9⟩ := (h.below hbw).od hlt
      injection hA1 with hA1
      injection hA1 with hA2 hA3
      subst hA2 hA3
      have Hok1 := Lib.hid hok1
      have HO1 := Lib.hid hO1
      clear hok1 hO1 hb1 c0 c1 c2 c3 c4 c5 c6 c7 c8 c9
      by_cases hat : atIdx l l[k].id = (k : Int)
      · have hq : (atIdx l l[k].id == (k : Int)) = true := beq_iff_eq.2 hat
        have Hs := Lib.hid (show ownK l (k + 1) = ownK l k ++ [l[k]] by rw [ownK_succ hlt, if_pos hat])
        have Hk := Lib.hid (ownK_len l k)
        have hB2 := (Below.refl w1.heap.size w1).alloc (Nat.le_refl _) (.cells l[k].cells.toArray 45)
        have hb2 := hbw.trans (hB2.mono hbw.size)
        have hO2 := HO1.out.later hB2
        have HO2 := Lib.hid hO2
        have Hok2 := Lib.hid (Enc.keep (x := l[k]) Hok1.out (fun _ hp => hB2.cell (Nat.lt_of_lt_of_le hp hbw.size)) (hO2.oth (Nat.le_refl _) hb2.size))
        have HH := Lib.hid (heap_alloc_new w1 (.cells l[k].cells.toArray 45))
        have Hne := Lib.hid (HO1.out.new_ne (Nat.le_refl w1.heap.size))
        have Hb2 := Lib.hid hb2
        clear hO2 hb2 hB2 hat
        simp only [Od.cells] at HO2 HH Hb2 Hok2
        generalize atIdx l l[k].id = r at *
        go_wp2_with (at_builtin; refine wpList_append_one rfl (some 26) (.tmp 20) (.tmp 25) 22 rfl rfl _ 120 Tryz.underlying22 inf_od rfl (by decide) (by decide) rfl HO2.out w1.heap.size l[k] rfl _ 45 HH.out rfl Hne.out Hok2.out (by have := Hk.out; omega) Hb2.out.size ?_; intro v3 w3 hO3 hg3 hat3)
        go_roundw
        case rel => exact ⟨k + 1, by go_num, by omega, by rw [Hs.out]; exact hO3, Hb2.out.trans (HO2.out.below hg3 (Nat.le_refl _) Hb2.out.size)⟩
        case measure => simp [intOf]; omega
      · have hq : (atIdx l l[k].id == (k : Int)) = false := beq_eq_false_iff_ne.2 hat
        have Hs := Lib.hid (show ownK l (k + 1) = ownK l k by rw [ownK_succ hlt, if_neg hat])
        clear hat
        generalize atIdx l l[k].id = r at *
        go_wp2
        go_roundw
        case rel => exact ⟨k + 1, by go_num, by omega, by rw [Hs.out]; exact HO1.out, hbw⟩
        case measure => simp [intOf]; omega
    · obtain rfl : k = l.length := by omega
      go_wp2
      go_ret
      exact ⟨_, rfl, hO, hb⟩
end Go.Proofs.YtogipnfhcimeoaaGreat

/- law06.has, few -/
namespace Go.Proofs.YtogipnfhcimeoaaGreat
open Go.RowKit
def anyS (l : List ByteArray) (s : ByteArray) : Bool := l.any fun t => decide (t = s)
def noS (l : List ByteArray) (s : ByteArray) (k : Nat) : Prop := ∀ j (hj : j < l.length), j < k → l[j] ≠ s
theorem noS.next {l : List ByteArray} {s : ByteArray} {k : Nat} (h : noS l s k) (hk : k < l.length) (he : l[k] ≠ s) : noS l s (k + 1) := fun j hj hjk => by
  rcases Nat.lt_succ_iff_lt_or_eq.1 hjk with hjk | rfl
  · exact h j hj hjk
  · exact he
def cut10 (x : Od) : Od := { x with legs := x.legs.take 10 }
theorem cut10_legs (x : Od) : (cut10 x).legs.length ≤ 10 := by unfold cut10; simp; omega
theorem cut10_ok {w : World} {n : Nat} {x : Od} (h : Okb w n x) : Okb w n (cut10 x) := by
  obtain ⟨a, b, c, d⟩ := h
  exact ⟨a, b, c, d.take 10⟩
end Go.Proofs.YtogipnfhcimeoaaGreat

/- Clone, Grow, Concat at uint8 -/
namespace Go.Proofs.YtogipnfhcimeoaaGreat
open Go.RowKit
theorem inf_byte : (Tryz.prog.info? 5).map (fun i => (i.zero, i.size, i.bytes)) = some (some (.int .u8 0), Enc.size UInt8, 1) := by kernel_rfl

set_option maxRecDepth 100000 in
set_option maxHeartbeats 400000 in
theorem grow_byte (n : Nat) (w : World) (hn : n ≤ 1000000000) :
    Calls Tryz.prog 204 #[.slice none 0 0, i64 n] w fun e w' => ∃ v, e = .returned v ∧ Own w' w.heap.size 5 v ([] : List UInt8) ∧ Below w.heap.size w w' := by
  rcases Nat.eq_zero_or_pos n with rfl | h0
  · go_enter Tryz.func204, Tryz.ntmps204
    go_wp2
    go_ret
    exact ⟨_, rfl, Own.nil_ _ _ _, Below.refl _ _⟩
  · obtain ⟨i, hi, hz, hz1, hz2⟩ := info_parts inf_byte
    have hrun := fun ty => Lib.run_append_nil_zeros (P := Tryz.prog) w 25 3 ty 5 i (.int .u8 0) .i64 .i64 Tryz.underlying25 Tryz.underlying3 hi hz n h0 (by rw [hz1]; decide) (by omega) (by rw [hz2]; omega)
    have hO := own_room (α := UInt8) w.drew w.heap.size 5 (grownCap w n 0 5) (Builtin.zeroCells (Value.cells (.int .u8 0)) n ++ Builtin.zeroCells (Value.cells (.int .u8 0)) (grownCap w n 0 5 - n)) (Nat.le_refl _) (grownCap_le_maxLen w n 0 _ (by simp only [maxLen]; omega)) (by
      rw [Array.size_append, size_zeroCells, size_zeroCells, show (Value.cells (.int .u8 0)).size = Enc.size UInt8 from rfl, ← Nat.add_mul]
      have := grownCap_ge w n 0 5
      rw [Nat.add_sub_cancel' this])
    have hb := ((Below.refl w.heap.size w).drew).alloc (Nat.le_refl _) (.cells (Builtin.zeroCells (Value.cells (.int .u8 0)) n ++ Builtin.zeroCells (Value.cells (.int .u8 0)) (grownCap w n 0 5 - n)) 5)
    have HO := Lib.hid hO
    have Hb := Lib.hid hb
    have Hrun := Lib.hid hrun
    clear hO hb hrun hi hz hz1 hz2
    generalize (Builtin.zeroCells (Value.cells (.int .u8 0)) n ++ Builtin.zeroCells (Value.cells (.int .u8 0)) (grownCap w n 0 5 - n)) = Z at *
    generalize grownCap w n 0 5 = gc at *
    go_enter Tryz.func204, Tryz.ntmps204
    go_wp2_with (at_builtin; refine Lib.wpList_append_run _ rfl (.tmp 20) (.tmp 21) _ _ rfl _ _ rfl rfl _ _ (Hrun.out _) ?_)
    go_ret
    exact ⟨_, rfl, HO.out, Hb.out⟩

set_option maxRecDepth 100000 in
set_option maxHeartbeats 1000000 in
theorem concat_byte (A : Option Addr) (c : Nat) (ss : List (SV UInt8)) (w : World) (h : Sl w w.heap.size A c ss) (hn : ss.length ≤ 65536) (ht : (ss.flatMap SV.l).length ≤ 65536) :
    Calls Tryz.prog 152 #[.slice A ss.length c] w fun e w' => ∃ v, e = .returned v ∧ Own w' w.heap.size 5 v (ss.flatMap SV.l) ∧ Below w.heap.size w w' := by
  have hpre : ∀ k, k ≤ ss.length → ((ss.take k).flatMap SV.l).length ≤ 65536 := fun k _ => by
    refine Nat.le_trans ?_ ht
    conv => rhs; rw [← List.take_append_drop k ss, List.flatMap_append, List.length_append]
    omega
  have hstep : ∀ k (hk : k < ss.length), (ss.take (k + 1)).flatMap SV.l = (ss.take k).flatMap SV.l ++ ss[k].l := fun k hk => by
    rw [List.take_succ_eq_append_getElem hk, List.flatMap_append]; simp
  have Hpre := Lib.hid hpre
  have Hstep := Lib.hid hstep
  clear hpre hstep
  go_enter Tryz.func152, Tryz.ntmps152
  go_wp2_with fail
  go_loop [3, 11] (fun sz i => ∃ k : Nat, k ≤ ss.length ∧ i = i64 k ∧ sz = i64 ((ss.take k).flatMap SV.l).length) (fun _ i => ss.length - (intOf i).toNat)
  case atStart => exact ⟨0, Nat.zero_le _, rfl, rfl⟩
  case round =>
    obtain ⟨k, hk, rfl, rfl⟩ := hrel
    have hpk := Hpre.out k hk
    by_cases hlt : k < ss.length
    · obtain ⟨b, o, rfl, hbb, -, d0⟩ := h.sv hlt
      have hpk1 := Hpre.out (k + 1) hlt
      have hl1 : ((ss.take (k + 1)).flatMap SV.l).length = ((ss.take k).flatMap SV.l).length + ss[k].l.length := by rw [Hstep.out k hlt, List.length_append]
      rw [hl1] at hpk1
      have Hl1 := Lib.hid hl1
      clear hl1
      generalize ((ss.take k).flatMap SV.l).length = p at *
      have hp1 : (p : Int) + (ss[k].l.length : Int) ≤ 65536 := by omega
      have hp0 : decide ((p : Int) + (ss[k].l.length : Int) < 0) = false := by rw [decide_eq_false_iff_not]; omega
      go_wp2
      go_round
      case rel => exact ⟨k + 1, by omega, by go_num, by rw [Hl1.out]; go_num⟩
      case measure => simp [intOf]; omega
    · obtain rfl : k = ss.length := by omega
      rw [List.take_length] at hpk ⊢
      clear ht
      generalize (ss.flatMap SV.l).length = q at *
      go_wp2_with fail
      refine (grow_byte _ _ (by omega)).mono ?_
      rintro e w1 ⟨v1, rfl, hO1, hb1⟩
      go_wp2_with fail
      go_loopw [6, 27] (fun v i wr => ∃ k : Nat, k ≤ ss.length ∧ i = i64 k ∧ Own wr w.heap.size 5 v ((ss.take k).flatMap SV.l) ∧ Below w.heap.size w wr) (fun _ i _ => ss.length - (intOf i).toNat)
      case atStart => exact ⟨0, Nat.zero_le _, rfl, hO1, hb1⟩
      case round =>
        obtain ⟨k, hk, rfl, hO, hb⟩ := hrel
        have hpk2 := Hpre.out k hk
        by_cases hlt : k < ss.length
        · obtain ⟨b, o, rfl, hbb, hok, d0⟩ := (h.below hb).sv hlt
          have hs := hok.mono (hO.oth (Nat.le_refl _) hb.size)
          have hpk1 := Hpre.out (k + 1) hlt
          rw [Hstep.out k hlt, List.length_append] at hpk1
          have HO := Lib.hid hO
          have Hs := Lib.hid hs
          clear hok hs hO1 hb1 hO
          go_wp2_with (at_builtin; refine wpList_append_slice rfl (some 33) (.tmp 31) (.tmp 32) 25 rfl rfl (.int .u8 0) 1 Tryz.underlying25 inf_byte rfl (by decide) (by decide) rfl HO.out ss[k].a ss[k].l.length ss[k].c ss[k].l rfl rfl Hs.out (by omega) hb.size ?_; intro v3 w3 hO3 hg3 hat3)
          go_roundw
          case rel => exact ⟨k + 1, by omega, by go_num, by rw [Hstep.out k hlt]; exact hO3, hb.trans (HO.out.below hg3 (Nat.le_refl _) hb.size)⟩
          case measure => simp [intOf]; omega
        · obtain rfl : k = ss.length := by omega
          rw [List.take_length] at hO
          go_wp2
          go_ret
          exact ⟨_, rfl, hO, hb⟩
end Go.Proofs.YtogipnfhcimeoaaGreat

/- pack.fold, Num; order.num -/
namespace Go.Proofs.YtogipnfhcimeoaaGreat
open Go.RowKit
theorem fold_bits (n : Int) (h0 : -9223372036854775808 ≤ n) (h1 : n ≤ 9223372036854775807) : bits .xor .u64 (IntKind.u64.wrap (IntKind.u64.wrap n * 2)) (IntKind.u64.wrap (n / 9223372036854775808)) = ((Lib.zigzag n : Nat) : Int) := by
  by_cases hn : 0 ≤ n
  · have e1 : IntKind.u64.wrap (IntKind.u64.wrap n * 2) = (((2 * n).toNat : Nat) : Int) := by rw [IntKind.wrap_u64, IntKind.wrap_u64]; omega
    have e2 : IntKind.u64.wrap (n / 9223372036854775808) = ((0 : Nat) : Int) := by rw [IntKind.wrap_u64]; omega
    rw [e1, e2, bits_xor_u64_nat _ _ (by omega) (by decide), Nat.xor_zero]
    unfold Lib.zigzag
    rw [if_pos hn]
  · have e1 : IntKind.u64.wrap (IntKind.u64.wrap n * 2) = (((2 * n + 18446744073709551616).toNat : Nat) : Int) := by rw [IntKind.wrap_u64, IntKind.wrap_u64]; omega
    have e2 : IntKind.u64.wrap (n / 9223372036854775808) = ((2 ^ 64 - 1 : Nat) : Int) := by rw [IntKind.wrap_u64]; omega
    rw [e1, e2, bits_xor_u64_nat _ _ (by omega) (by decide), Nat.xor_comm, Lib.xor_ones64 _ (by omega)]
    unfold Lib.zigzag
    rw [if_neg hn]
    omega
set_option maxRecDepth 100000 in
set_option maxHeartbeats 400000 in
theorem fold_c (n : Int) (w : World) (h0 : -9223372036854775808 ≤ n) (h1 : n ≤ 9223372036854775807) :
    Calls Tryz.prog 151 #[.int .i64 n] w fun e w' => e = .returned (.int .u64 (Lib.zigzag n)) ∧ Below w.heap.size w w' := by
  have hf := Lib.hid (fold_bits n h0 h1)
  go_enter Tryz.func151, Tryz.ntmps151
  go_wp2
  go_ret
  exact ⟨by rw [← hf.out]; rfl, Below.refl _ _⟩
/-- a number's bytes -/
abbrev numB (n : Int) : List UInt8 := Lib.uvarint (Lib.zigzag n)
theorem uvarint_le {m : Nat} (h : m < 18446744073709551616) : (Lib.uvarint m).length ≤ 10 := Lib.uvarint_length64 h
set_option maxRecDepth 100000 in
set_option maxHeartbeats 1000000 in
theorem num_c (n : Int) (w : World) (h0 : -9223372036854775808 ≤ n) (h1 : n ≤ 9223372036854775807) :
    Calls Tryz.prog 104 #[.int .i64 n] w fun e w' => ∃ v, e = .returned v ∧ Own w' w.heap.size 5 v (numB n) ∧ Below w.heap.size w w' := by
  have hz := Lib.zigzag_lt h0 h1
  have hF := Lib.hid (fold_c n w h0 h1)
  unfold numB
  generalize Lib.zigzag n = z at hz hF ⊢
  clear h0 h1
  go_enter Tryz.func104, Tryz.ntmps104
  go_wp2_with fail
  refine hF.out.mono ?_
  rintro e w1 ⟨rfl, hb1⟩
  go_wp2_with fail
  go_loopw [3, 4] (fun v i wr => ∃ (m : Nat) (pre : List UInt8), i = .int .u64 (m : Int) ∧ m < 18446744073709551616 ∧ pre.length + (Lib.uvarint m).length ≤ 10 ∧ pre ++ Lib.uvarint m = Lib.uvarint z ∧ Own wr w.heap.size 5 v pre ∧ Below w.heap.size w wr) (fun _ i _ => (intOf i).toNat)
  case atStart => exact ⟨z, [], rfl, hz, by simpa using uvarint_le hz, rfl, Own.nil_ _ _ _, hb1⟩
  case round =>
    obtain ⟨m, pre, rfl, hm, hl, he, hO, hb⟩ := hrel
    by_cases hbig : 128 ≤ m
    · have g1 : decide ((128 : Int) ≤ (m : Int)) = true := decide_eq_true (by omega)
      rw [Lib.uvarint_big hbig] at he hl
      obtain ⟨y, hy⟩ : ∃ y : UInt8, y = (m % 128 + 128).toUInt8 := ⟨_, rfl⟩
      have hyn : y.toNat = m % 128 + 128 := by rw [hy, Lib.toUInt8_toNat (by omega)]
      have g2 : bits .or .u8 ((m : Int) % 256) 128 = ((y.toNat : Nat) : Int) := by
        rw [Lib.u8_or128_any _ (by omega) (by omega), hyn]
        omega
      rw [← hy] at he hl
      have He := Lib.hid he
      have Hl := Lib.hid hl
      have HB := (Below.refl wr.heap.size wr).alloc (Nat.le_refl _) (.cells #[.int .u8 y.toNat] 5)
      have HO2 := Lib.hid (hO.later HB)
      have HH := Lib.hid (heap_alloc_new wr (.cells #[.int .u8 y.toNat] 5))
      have Hne := Lib.hid (hO.new_ne (Nat.le_refl wr.heap.size))
      have hb3 := below_on hb (Nat.le_refl _) HB
      clear he hl hy hyn hO HB hF
      go_wp2_with (at_builtin; refine wpList_append_one rfl (some 16) (.tmp 11) (.tmp 15) 25 rfl rfl (.int .u8 0) 1 Tryz.underlying25 inf_byte rfl (by decide) (by decide) rfl HO2.out wr.heap.size y rfl _ 5 HH.out rfl Hne.out trivial (by have := Hl.out; simp only [List.length_cons] at this; omega) hb3.size ?_; intro v3 w3 hO3 hg3 hat3)
      go_roundw
      case rel => exact ⟨m / 128, pre ++ [y], by go_num, by omega, by have := Hl.out; simp only [List.length_append, List.length_cons, List.length_nil] at this ⊢; omega, by rw [List.append_assoc]; exact He.out, hO3, hb3.trans (HO2.out.below hg3 (Nat.le_refl _) hb3.size)⟩
      case measure => simp [intOf]; omega
    · have g1 : decide ((128 : Int) ≤ (m : Int)) = false := decide_eq_false (by omega)
      rw [Lib.uvarint_small (by omega)] at he hl
      obtain ⟨y, hy⟩ : ∃ y : UInt8, y = m.toUInt8 := ⟨_, rfl⟩
      have hyn : y.toNat = m := by rw [hy, Lib.toUInt8_toNat (by omega)]
      have hcs := Lib.hid (show [Value.int .u8 (m : Int)] = [Value.int .u8 ((y.toNat : Nat) : Int)] by rw [hyn])
      rw [← hy] at he hl
      have He := Lib.hid he
      have Hl := Lib.hid hl
      have HB := (Below.refl wr.heap.size wr).alloc (Nat.le_refl _) (.cells #[.int .u8 (m : Int)] 5)
      have HO2 := Lib.hid (hO.later HB)
      have HH := Lib.hid (heap_alloc_new wr (.cells #[.int .u8 (m : Int)] 5))
      have Hne := Lib.hid (hO.new_ne (Nat.le_refl wr.heap.size))
      have hb3 := below_on hb (Nat.le_refl _) HB
      clear he hl hy hyn hO HB hF
      go_wp2_with (at_builtin; refine wpList_append_one rfl (some 21) (.tmp 17) (.tmp 20) 25 rfl rfl (.int .u8 0) 1 Tryz.underlying25 inf_byte rfl (by decide) (by decide) rfl HO2.out wr.heap.size y rfl _ 5 HH.out hcs.out Hne.out trivial (by have := Hl.out; simp only [List.length_cons] at this; omega) hb3.size ?_; intro v3 w3 hO3 hg3 hat3)
      go_ret
      exact ⟨_, rfl, by rw [← He.out]; exact hO3, hb3.trans (HO2.out.below hg3 (Nat.le_refl _) hb3.size)⟩
set_option maxRecDepth 100000 in
set_option maxHeartbeats 400000 in
theorem onum_c (n : Int) (w : World) (h0 : -9223372036854775808 ≤ n) (h1 : n ≤ 9223372036854775807) :
    Calls Tryz.prog 153 #[.int .i64 n] w fun e w' => ∃ v, e = .returned v ∧ Own w' w.heap.size 5 v (numB n) ∧ Below w.heap.size w w' := by
  have H := Lib.hid (num_c n w h0 h1)
  clear h0 h1
  go_enter Tryz.func153, Tryz.ntmps153
  go_wp2_with fail
  refine H.out.mono ?_
  rintro e w1 ⟨v, rfl, hO, hb⟩
  go_wp2
  go_ret
  exact ⟨_, rfl, hO, hb⟩
end Go.Proofs.YtogipnfhcimeoaaGreat

/- pack.Text -/
namespace Go.Proofs.YtogipnfhcimeoaaGreat
open Go.RowKit
theorem below_bytes (w : World) (e : TypeId) (s : ByteArray) : Below w.heap.size w (Lib.bytesWorld w e s) := by
  have h := (Below.refl w.heap.size w).drew.alloc (Nat.le_refl _) (.cells (Lib.bytesCells w e s) e)
  exact ⟨h.os, h.tape, h.output, by rw [Lib.bytesWorld_size]; omega, fun b hb => Lib.bytesWorld_at_old w e s b hb⟩
theorem flat_byte (l : List UInt8) (j : Nat) : (l.flatMap (Enc.cells (α := UInt8)))[j]? = l[j]?.map fun b => Value.int .u8 b.toNat := by
  rw [show l.flatMap (Enc.cells (α := UInt8)) = l.map fun b => Value.int .u8 b.toNat from by
    induction l with
    | nil => rfl
    | cons x r ih => rw [List.flatMap_cons, List.map_cons, ih]; rfl, List.getElem?_map]
theorem sl_bytes (w : World) (e : TypeId) (s : ByteArray) (hs : s.size ≤ 60000) : Sl (Lib.bytesWorld w e s) (Lib.bytesWorld w e s).heap.size (some ⟨w.heap.size, 0, none⟩) (grownCap w s.size 0 e) s.data.toList := by
  refine ⟨?_, ?_, fun _ => ⟨w.heap.size, 0, rfl, ?_, fun j u hu => ?_⟩, fun _ _ => trivial⟩
  · have := grownCap_ge w s.size 0 e
    simpa using this
  · exact grownCap_le_maxLen w s.size 0 e (by simp only [maxLen]; omega)
  · rw [Lib.bytesWorld_size]; exact Nat.lt_succ_self _
  · rw [flat_byte] at hu
    have hj : j < s.data.toList.length := by
      rcases Nat.lt_or_ge j s.data.toList.length with h | h
      · exact h
      · rw [List.getElem?_eq_none h] at hu; simp at hu
    rw [List.getElem?_eq_getElem hj] at hu
    simp only [Option.map_some, Option.some.injEq] at hu
    rw [Nat.zero_add, Lib.bytesWorld_cell w e s j (by simpa using hj), ← hu, List.getD_eq_getElem?_getD, List.getElem?_eq_getElem hj]
    rfl
/-- a text's bytes -/
abbrev textB (s : ByteArray) : List UInt8 := numB s.size ++ s.data.toList
set_option maxRecDepth 100000 in
set_option maxHeartbeats 1000000 in
theorem text_c (s : ByteArray) (w : World) (hs : s.size ≤ 60000) :
    Calls Tryz.prog 106 #[.string s] w fun e w' => ∃ v, e = .returned v ∧ Own w' w.heap.size 5 v (textB s) ∧ Below w.heap.size w w' := by
  have hN := Lib.hid (num_c s.size w (by omega) (by omega))
  have hnl : (numB s.size).length ≤ 10 := uvarint_le (Lib.zigzag_lt (by omega) (by omega))
  have hc : ∀ W, (convert 9 25 (.string s)).run Tryz.prog W = .ok (.slice (some ⟨W.heap.size, 0, none⟩) s.size (grownCap W s.size 0 5)) (Lib.bytesWorld W 5 s) := fun W => Lib.run_convert_string_bytes W _ _ _ s Tryz.underlying9 Tryz.underlying25 Tryz.underlying5
  unfold textB
  generalize numB s.size = nb at hN hnl ⊢
  go_enter Tryz.func106, Tryz.ntmps106
  go_wp2_with fail
  refine hN.out.mono ?_
  rintro e w1 ⟨v, rfl, hO, hb⟩
  obtain ⟨A1, c1, rfl, hs1⟩ := hO.sl
  have hb2 := below_bytes w1 5 s
  have hs2 := hs1.later hb2
  have hs3 := sl_bytes w1 5 s hs
  have hb3 := below_on hb (Nat.le_refl _) hb2
  have hsl : s.data.toList.length = s.size := by simp
  generalize hw2 : Lib.bytesWorld w1 5 s = w2 at hb2 hs2 hs3 hb3
  generalize hgc : grownCap w1 s.size 0 5 = gc at hs3
  have hB3 := (Below.refl w2.heap.size w2).alloc (Nat.le_refl _) (.cells #[.slice A1 nb.length c1, .slice (some ⟨w1.heap.size, 0, none⟩) s.data.toList.length gc] 25)
  have hO2 := own_lit (w := w2) (base := w.heap.size) 25 #[.slice A1 nb.length c1, .slice (some ⟨w1.heap.size, 0, none⟩) s.data.toList.length gc] [(⟨A1, c1, nb⟩ : SV UInt8), ⟨some ⟨w1.heap.size, 0, none⟩, gc, s.data.toList⟩] hb3.size rfl (by simp) (by
    intro x hx
    simp only [List.mem_cons, List.not_mem_nil, or_false] at hx
    rcases hx with rfl | rfl
    · exact hs2
    · exact hs3)
  have hS := hO2.sl_of
  have hb4 := below_on hb3 (Nat.le_refl _) hB3
  have hC := concat_byte _ _ [(⟨A1, c1, nb⟩ : SV UInt8), ⟨some ⟨w1.heap.size, 0, none⟩, gc, s.data.toList⟩] _ hS (by simp) (by simp [hsl]; omega)
  rw [hsl] at hC hb4
  have HC := Lib.hid hC
  have Hb4 := Lib.hid hb4
  have HW := Lib.hid hw2
  have Hgc := Lib.hid hgc
  clear hC hb4 hw2 hgc hO2 hS hB3 hb3 hb2 hs2 hs3 hs1 hO hN hnl hb
  go_wp2_with fail
  rw [HW.out, Hgc.out]
  refine HC.out.mono ?_
  rintro e w3 ⟨v2, rfl, hO3, hb5⟩
  have e3 : [(⟨A1, c1, nb⟩ : SV UInt8), ⟨some ⟨w1.heap.size, 0, none⟩, gc, s.data.toList⟩].flatMap SV.l = nb ++ s.data.toList := by simp
  rw [e3] at hO3
  go_wp2
  go_ret
  exact ⟨_, rfl, hO3.mono Hb4.out.size, below_on Hb4.out (Nat.le_refl _) hb5⟩
end Go.Proofs.YtogipnfhcimeoaaGreat

/- pack.Reader: fail, long, unfold -/
namespace Go.Proofs.YtogipnfhcimeoaaGreat
open Go.RowKit
/-- block g holds a reader: its error, and what is left, which lies in block r -/
def Rd (w : World) (g r : Nat) (err : Int) (l : List UInt8) : Prop :=
  r ≠ g ∧ ∃ A c, w.heap[g]? = some (.cells #[.slice A l.length c, i64 err] 203 (0, 0)) ∧ SlS w (fun b => b = r) A c l
theorem Rd.lt {w : World} {g r : Nat} {err : Int} {l : List UInt8} (h : Rd w g r err l) : g < w.heap.size := by
  obtain ⟨_, _, _, hg, _⟩ := h
  exact (Array.getElem?_eq_some_iff.1 hg).1
theorem Rd.grown {w w' : World} {g r : Nat} {err : Int} {l : List UInt8} {row : Option Nat} (h : Rd w g r err l) (hk : w.grownBy w' row) (h1 : row ≠ some g) (h2 : row ≠ some r) (hr : r < w.heap.size) : Rd w' g r err l := by
  obtain ⟨hne, A, c, hg, hs⟩ := h
  refine ⟨hne, A, c, ?_, hs.keep (fun p hp => ?_) (fun _ h => h)⟩
  · rw [hk.block g (Array.getElem?_eq_some_iff.1 hg).1 (fun e => h1 e.symm), hg]
  · refine World.cell?_of_block (w := w) ?_
    rw [hp]
    exact hk.block r hr (fun e => h2 e.symm)
theorem Rd.later {w w' : World} {g r : Nat} {err : Int} {l : List UInt8} (h : Rd w g r err l) (hr : r < w.heap.size) (hb : Below w.heap.size w w') : Rd w' g r err l := h.grown (grown_of_below hb none) (by simp) (by simp) hr
set_option maxRecDepth 100000 in
set_option maxHeartbeats 400000 in
theorem rfail_c (g r : Nat) (err x : Int) (l : List UInt8) (w : World) (h : Rd w g r err l) :
    Calls Tryz.prog 165 #[.pointer (some ⟨g, 0, none⟩), i64 x] w fun e w' => e = .returned (i64 x) ∧ Rd w' g r x [] ∧ w.grownBy w' (some g) := by
  obtain ⟨hne, A, c, hg, hs⟩ := h
  have c0 := cell_of_row w g 0 _ _ (0, 0) hg
  have c1 := cell_of_row w g 1 _ _ (0, 0) hg
  have f0 := frozen_of_row w g 0 _ _ hg
  have f1 := frozen_of_row w g 1 _ _ hg
  have hS1 := heap_setCell_same w g 0 _ _ (.slice none 0 0) hg
  have hS2 := heap_setCell_same _ g 1 _ _ (i64 x) hS1
  have hG1 := grown_setCell (g := g) (World.grownBy.refl w (some g)) (p := ⟨g, 0, none⟩) (.inl rfl) (.slice none 0 0)
  have hG2 := grown_setCell (g := g) hG1 (p := ⟨g, 1, none⟩) (.inl rfl) (i64 x)
  have HS := Lib.hid hS2
  have HG := Lib.hid hG2
  clear hg hs hS1 hS2 hG1 hG2
  go_enter Tryz.func165, Tryz.ntmps165
  go_wp2
  go_ret
  refine ⟨rfl, ⟨hne, none, 0, ?_, SlS.nil_ _ _⟩, HG.out⟩
  rw [HS.out]
  rfl
theorem bits_xor_comm (k : IntKind) (x y : Int) : bits .xor k x y = bits .xor k y x := by
  unfold bits
  simp only
  rw [BitVec.xor_comm]
theorem unfold_bits (m : Nat) (hm : m < 18446744073709551616) : bits .xor .i64 (IntKind.i64.wrap ((m : Int) / 2)) (IntKind.i64.wrap (-IntKind.i64.wrap (bits .and .u64 (m : Int) 1))) = Lib.unzigzag m := by
  rw [Lib.u64_and1 _ (by omega) (by omega)]
  have e0 : IntKind.i64.wrap ((m : Int) / 2) = ((m / 2 : Nat) : Int) := by rw [IntKind.wrap_i64]; omega
  unfold Lib.unzigzag
  by_cases hp : m % 2 = 0
  · have e1 : IntKind.i64.wrap (-IntKind.i64.wrap ((m : Int) % 2)) = ((0 : Nat) : Int) := by rw [IntKind.wrap_i64, IntKind.wrap_i64]; omega
    rw [if_pos hp, e0, e1]
    show IntKind.i64.wrap ((BitVec.ofInt 64 ((m / 2 : Nat) : Int) ^^^ BitVec.ofInt 64 ((0 : Nat) : Int)).toNat : Int) = _
    rw [BitVec.toNat_xor, BitVec.ofInt_natCast, BitVec.ofInt_natCast, BitVec.toNat_ofNat, BitVec.toNat_ofNat, Nat.zero_mod, Nat.xor_zero, Nat.mod_eq_of_lt (by omega), IntKind.wrap_i64]
    omega
  · have e1 : IntKind.i64.wrap (-IntKind.i64.wrap ((m : Int) % 2)) = -1 := by rw [IntKind.wrap_i64, IntKind.wrap_i64]; omega
    rw [if_neg hp, e0, e1, bits_xor_comm, Lib.i64_not _ (by omega)]
set_option maxRecDepth 100000 in
set_option maxHeartbeats 400000 in
theorem unfold_c (m : Nat) (hm : m < 18446744073709551616) (w : World) :
    Calls Tryz.prog 211 #[.int .u64 (m : Int)] w fun e w' => e = .returned (i64 (Lib.unzigzag m)) ∧ Below w.heap.size w w' := by
  have h1 := unfold_bits m hm
  rw [IntWalk.i64_left, IntWalk.i64_left, IntWalk.i64_left, IntWalk.wrap64_in ((m : Int) / 2) (by omega)] at h1
  have H := Lib.hid h1
  clear h1
  go_enter Tryz.func211, Tryz.ntmps211
  go_wp2
  go_ret
  exact ⟨by rw [← H.out]; rfl, Below.refl _ _⟩
/-- the error of a number with too many bits -/
def longE (l : List UInt8) (i : Nat) (b : UInt8) : Int := if i + 1 = l.length ∧ 128 ≤ b.toNat ∧ i < 10 then 4 else 3
set_option maxRecDepth 100000 in
set_option maxHeartbeats 1000000 in
theorem long_c (g r : Nat) (err : Int) (l : List UInt8) (i : Nat) (hi : i < l.length) (w : World) (h : Rd w g r err l) (hn : l.length ≤ 65536) :
    Calls Tryz.prog 210 #[.pointer (some ⟨g, 0, none⟩), i64 i] w fun e w' => e = .returned (i64 (longE l i l[i])) ∧ Below w.heap.size w w' := by
  obtain ⟨hne, A, c, hg, hs⟩ := h
  have c0 := cell_of_row w g 0 _ _ (0, 0) hg
  obtain ⟨b, o, rfl, -, -, hc⟩ := hs.at_ hi
  have d0 := hc 0 _ rfl
  rw [show i * Enc.size UInt8 + 0 = i from Nat.mul_one i] at d0
  have hlb := l[i].toNat_lt
  simp only [List.getElem?_toArray, List.getElem?_cons_zero] at c0
  have i0 : (0 : Int) ≤ (i : Int) := by omega
  have i1 : (i : Int) < (l.length : Int) := by omega
  have HU : Hid (∀ v : Int, v = longE l i l[i] → (.returned (i64 v) : Ending) = .returned (i64 (longE l i l[i]))) := Lib.hid fun v e => by rw [e]
  clear hg hs hc
  by_cases h1 : i + 1 = l.length
  · have g1 : ((i : Int) == (l.length : Int) - 1) = true := by rw [beq_iff_eq]; omega
    have w1 : IntKind.i64.wrap ((l.length : Int) - 1) = (l.length : Int) - 1 := by rw [IntKind.wrap_i64]; omega
    by_cases h2 : 128 ≤ l[i].toNat
    · have g2 : decide ((128 : Int) ≤ (l[i].toNat : Int)) = true := decide_eq_true (by omega)
      by_cases h3 : i < 10
      · have g3 : decide ((i : Int) < 10) = true := decide_eq_true (by omega)
        have HS := Lib.hid (show longE l i l[i] = 4 by unfold longE; rw [if_pos ⟨h1, h2, h3⟩])
        clear h1 h2 h3
        go_enter Tryz.func210, Tryz.ntmps210
        go_wp2
        go_ret
        exact ⟨by rw [HS.out]; rfl, Below.refl _ _⟩
      · have g3 : decide ((i : Int) < 10) = false := decide_eq_false (by omega)
        have HS := Lib.hid (show longE l i l[i] = 3 by unfold longE; rw [if_neg (fun h => h3 h.2.2)])
        clear h1 h2 h3
        go_enter Tryz.func210, Tryz.ntmps210
        go_wp2
        go_ret
        exact ⟨by rw [HS.out]; rfl, Below.refl _ _⟩
    · have g2 : decide ((128 : Int) ≤ (l[i].toNat : Int)) = false := decide_eq_false (by omega)
      have HS := Lib.hid (show longE l i l[i] = 3 by unfold longE; rw [if_neg (fun h => h2 h.2.1)])
      clear h1 h2
      go_enter Tryz.func210, Tryz.ntmps210
      go_wp2
      go_ret
      exact ⟨by rw [HS.out]; rfl, Below.refl _ _⟩
  · have g1 : ((i : Int) == (l.length : Int) - 1) = false := by rw [beq_eq_false_iff_ne]; omega
    have w1 : IntKind.i64.wrap ((l.length : Int) - 1) = (l.length : Int) - 1 := by rw [IntKind.wrap_i64]; omega
    have HS := Lib.hid (show longE l i l[i] = 3 by unfold longE; rw [if_neg (fun h => h1 h.1)])
    clear h1
    go_enter Tryz.func210, Tryz.ntmps210
    go_wp2
    go_ret
    exact ⟨by rw [HS.out]; rfl, Below.refl _ _⟩
end Go.Proofs.YtogipnfhcimeoaaGreat
