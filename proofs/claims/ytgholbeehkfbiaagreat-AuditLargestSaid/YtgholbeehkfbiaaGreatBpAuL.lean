/- audit: Errors; Largest of one move at most -/
import Derived.Test.YtgholbeehkfbiaaGreatRows
import Derived.Test.YtgholbeehkfbiaaGreatBpAuU
import Derived.WalkKit
import Derived.WalkSpells
import Derived.WalkLawsBesides
import Derived.Deep.QuietTactic
import Derived.BigQuiet
import Derived.Laws.StructEq
import Derived.Deep.DeepFit
import Derived.StillTailTactics
namespace Go.Proofs.YtgholbeehkfbiaaGreat
open Go.RowKit
set_option maxRecDepth 100000 in
set_option maxHeartbeats 4000000 in
theorem ainsert1_c (A : Option Addr) (n c : Nat) (f : Value) (w : World) (hn : n ≤ 1) : Calls Tryz.prog 189 #[.slice A n c, i64 0, i64 n, f] w fun e w' => e = .returned (.tuple #[]) ∧ w = w' := by
  have g1 : decide ((1 : Int) < (n : Int)) = false := decide_eq_false (by omega)
  go_enter Tryz.func189, Tryz.ntmps189
  go_wp2
  refine wp_loop_rounds 1 ?_
  rw [rounds_succ]
  go_wp2
  go_end0
  exact ⟨rfl, rfl⟩
set_option maxRecDepth 100000 in
set_option maxHeartbeats 4000000 in
theorem astable1_c (A : Option Addr) (n c : Nat) (f : Value) (w : World) (hn : n ≤ 1) : Calls Tryz.prog 134 #[.slice A n c, i64 n, f] w fun e w' => e = .returned (.tuple #[]) ∧ w = w' := by
  have g1 : decide ((20 : Int) ≤ (n : Int)) = false := decide_eq_false (by omega)
  have g2 : decide ((20 : Int) < (n : Int)) = false := decide_eq_false (by omega)
  have g3 : decide (20 ≤ n) = false := decide_eq_false (by omega)
  have g4 : decide (20 < n) = false := decide_eq_false (by omega)
  go_enter Tryz.func134, Tryz.ntmps134
  go_wp2
  refine wp_loop_rounds 1 ?_
  rw [rounds_succ]
  go_wp2_with fail
  refine (ainsert1_c A n c f _ hn).mono ?_
  rintro e w1 ⟨rfl, rfl⟩
  go_wp2
  refine wp_loop_rounds 1 ?_
  rw [rounds_succ]
  go_wp2
  go_end0
  exact ⟨rfl, rfl⟩
set_option maxRecDepth 100000 in
set_option maxHeartbeats 4000000 in
theorem asort1_c (A : Option Addr) (n c : Nat) (f : Value) (w : World) (hn : n ≤ 1) : Calls Tryz.prog 88 #[.slice A n c, f] w fun e w' => e = .returned (.tuple #[]) ∧ w = w' := by
  go_enter Tryz.func88, Tryz.ntmps88
  go_wp2_with fail
  refine (astable1_c A n c f _ hn).mono ?_
  rintro e w1 ⟨rfl, rfl⟩
  go_wp2
  go_end0
  exact ⟨rfl, rfl⟩
set_option maxRecDepth 100000 in
set_option maxHeartbeats 8000000 in
theorem alargG_c (A : Option Addr) (c : Nat) (l : List Od) (n : Int) (tgt : List (Id × Int × List Leg)) (w : World) (h : Sl w w.heap.size A c l) (hx : ∀ x ∈ l, OdB x) (hl : ∀ x ∈ l, x.legs.length ≤ 65536) (hn : l.length ≤ 60000) (ht : tgt.length = (movedL l).length)
    (hsort : ∀ (v : Value) (M : List Mv) (W : World), M.map Mv.core = (movedL l).map coreM → Own W w.heap.size 85 v M → w.heap.size ≤ W.heap.size → Calls Tryz.prog 88 #[v, .func (.func 89) #[] #[]] W fun e W' => e = .returned (.tuple #[]) ∧ ∃ M', M'.map Mv.core = tgt ∧ Own W' w.heap.size 85 v M' ∧ Below w.heap.size W W') :
    Calls Tryz.prog 51 #[.slice A l.length c, i64 n] w fun e w' => ∃ v, e = .returned v ∧ Own w' w.heap.size 34 v ((tgt.take (max n 0).toNat).map (·.1)) ∧ Below w.heap.size w w' := by
  have hN := Lib.hid (amoves_c A c l w h hx hl hn)
  have hlc : l.length ≤ c := h.1
  have Hso := Lib.hid hsort
  have hLn : (movedL l).length ≤ 60000 := Nat.le_trans (movedL_len l) hn
  have Ht := Lib.hid ht
  clear h hx hl hsort ht
  generalize movedL l = L at *
  go_enter Tryz.func51, Tryz.ntmps51
  go_wp2_with fail
  refine hN.out.mono ?_
  rintro e w1 ⟨vm, M, rfl, hcore, hOm, hF⟩
  have HS := Lib.hid (Hso.out vm M w1 hcore hOm hF.size)
  have HF1 := Lib.hid hF
  clear hN Hso hOm hF hcore
  go_wp2_with fail
  refine HS.out.mono ?_
  rintro e w2 ⟨rfl, M2, hM2, hO2, hF2⟩
  obtain ⟨Am, cm, rfl, hsm⟩ := hO2.sl
  have hML : M2.length ≤ 60000 := by have := congrArg List.length hM2; rw [List.length_map] at this; have := Ht.out; omega
  have Hidn := Lib.hid (show (tgt.take (max n 0).toNat).map (·.1) = (M2.take (max n 0).toNat).map (fun m : Mv => (⟨m.client, m.seq⟩ : Id)) by rw [← hM2, ← List.map_take, List.map_map]; rfl)
  have hcm : M2.length ≤ cm := hsm.1
  have Hb2 := Lib.hid (HF1.out.trans hF2)
  have hw2 := Hb2.out.size
  obtain ⟨q, hq⟩ : ∃ q : Nat, (min (max n 0) (M2.length : Int)).toNat = q := ⟨_, rfl⟩
  have hq2 : (q : Int) = min (max n 0) (M2.length : Int) := by omega
  have m0 : (0 : Int) ≤ min (max n 0) (M2.length : Int) := by omega
  have m1 : min (max n 0) (M2.length : Int) ≤ (cm : Int) := by omega
  have hqM : q ≤ M2.length := by omega
  have Htk := Lib.hid (show M2.take (max n 0).toNat = M2.take q by
    rcases Nat.le_total (max n 0).toNat M2.length with hh | hh
    · congr 1; omega
    · rw [List.take_of_length_le hh, List.take_of_length_le (by omega)])
  have Htg := Lib.hid (Hidn.out.trans (congrArg (List.map _) Htk.out))
  have HL := Lib.hid (fun V (hV : Below w2.heap.size w2 V) => hsm.later hV)
  clear HS hO2 hsm hF2 Hidn hM2 Htk HF1 Ht
  have h60 : q ≤ 60000 := by omega
  go_wp2_with fail
  rw [← hq2]
  clear hq2 hq m0 m1
  go_loopw [6, 21] (fun v i wr => ∃ k : Nat, i = i64 k ∧ k ≤ q ∧ Own wr w2.heap.size 34 v ((M2.take k).map (fun m : Mv => (⟨m.client, m.seq⟩ : Id))) ∧ Below w2.heap.size w2 wr) (fun _ i _ => q - (intOf i).toNat)
  case atStart => exact ⟨0, rfl, Nat.zero_le _, Own.nil_ _ _ _, Below.refl _ _⟩
  case round =>
    obtain ⟨k, rfl, hk, hO, hb⟩ := hrel
    by_cases hlt : k < q
    · have g1 : decide ((k : Int) < (q : Int)) = true := decide_eq_true (by omega)
      have g2 : decide (k < q) = true := decide_eq_true hlt
      have i0 : (0 : Int) ≤ (k : Int) := by omega
      have i1 : (k : Int) < (q : Int) := by omega
      have hlM : k < M2.length := by omega
      obtain ⟨b, o, rfl, hbb, hok, c0, c1, c2, c3⟩ := (HL.out _ hb).mv hlM
      have Htk := Lib.hid (show (M2.take (k + 1)).map (fun m : Mv => (⟨m.client, m.seq⟩ : Id)) = (M2.take k).map (fun m : Mv => (⟨m.client, m.seq⟩ : Id)) ++ [⟨M2[k].client, M2[k].seq⟩] by rw [List.take_succ_eq_append_getElem hlM, List.map_append]; rfl)
      have Hlen := Lib.hid (show ((M2.take k).map (fun m : Mv => (⟨m.client, m.seq⟩ : Id))).length + 1 ≤ 4294967296 by rw [List.length_map, List.length_take]; omega)
      generalize (M2.take k).map (fun m : Mv => (⟨m.client, m.seq⟩ : Id)) = out at *
      obtain ⟨m, hmk⟩ : ∃ m, M2[k] = m := ⟨_, rfl⟩
      simp only [hmk] at c0 c1 c2 c3 Htk
      have hba := (Below.refl wr.heap.size wr).alloc (Nat.le_refl _) (.cells #[i64 m.client, i64 m.seq, i64 m.period, .slice m.la m.legs.length m.lc] 85)
      have hO1 := hO.later hba
      have hb1 := hb.alloc hb.size (.cells #[i64 m.client, i64 m.seq, i64 m.period, .slice m.la m.legs.length m.lc] 85)
      have hba2 := (Below.refl _ (wr.alloc (.cells #[i64 m.client, i64 m.seq, i64 m.period, .slice m.la m.legs.length m.lc] 85))).alloc (Nat.le_refl _) (.cells #[i64 m.client, i64 m.seq] 34)
      have HO2 := Lib.hid (hO1.later hba2)
      have Hne := Lib.hid (hO1.new_ne (Nat.le_refl _))
      have HH := Lib.hid (heap_alloc_new (wr.alloc (.cells #[i64 m.client, i64 m.seq, i64 m.period, .slice m.la m.legs.length m.lc] 85)) (.cells #[i64 m.client, i64 m.seq] 34))
      have Hb3 := Lib.hid (hb1.alloc hb1.size (.cells #[i64 m.client, i64 m.seq] 34))
      have hzz : (wr.alloc (.cells #[i64 m.client, i64 m.seq, i64 m.period, .slice m.la m.legs.length m.lc] 85)).heap.size = wr.heap.size + 1 := by simp
      rw [hzz] at HH Hne
      clear hmk hok hba hO hO1 hb hb1 hba2 hbb
      go_wp2_with (at_builtin; refine wpList_append_one rfl (some 29) (.tmp 25) (.tmp 28) 90 rfl rfl _ 16 Tryz.underlying90 idInfo rfl (by decide) (by decide) rfl HO2.out (wr.heap.size + 1) (⟨m.client, m.seq⟩ : Id) rfl _ 34 HH.out rfl Hne.out trivial Hlen.out Hb3.out.size ?_; intro v4 w4 hO5 hg5 hat5)
      go_roundw
      case rel => exact ⟨k + 1, by go_num, by omega, by rw [Htk.out]; exact hO5, Hb3.out.trans (HO2.out.below hg5 (Nat.le_refl _) Hb3.out.size)⟩
      case measure => simp [intOf]; omega
    · obtain rfl : k = q := by omega
      have g1 : decide ((k : Int) < (k : Int)) = false := decide_eq_false (by omega)
      have HO := Lib.hid hO
      clear hO
      go_wp2
      go_ret
      exact ⟨_, rfl, by rw [Htg.out]; exact HO.out.mono hw2, Hb2.out.trans (hb.mono hw2)⟩
theorem alarg1_c (A : Option Addr) (c : Nat) (l : List Od) (n : Int) (w : World) (h : Sl w w.heap.size A c l) (hx : ∀ x ∈ l, OdB x) (hl : ∀ x ∈ l, x.legs.length ≤ 65536) (hn : l.length ≤ 60000) (h1 : (movedL l).length ≤ 1) :
    Calls Tryz.prog 51 #[.slice A l.length c, i64 n] w fun e w' => ∃ v, e = .returned v ∧ Own w' w.heap.size 34 v ((((movedL l).map coreM).take (max n 0).toNat).map (·.1)) ∧ Below w.heap.size w w' :=
  alargG_c A c l n _ w h hx hl hn (List.length_map ..) fun v M W hc hO hW => by
    obtain ⟨Am, cm, rfl, hsm⟩ := hO.sl
    have hM1 : M.length ≤ 1 := by have := congrArg List.length hc; rw [List.length_map, List.length_map] at this; omega
    refine (asort1_c Am M.length cm _ W hM1).mono ?_
    rintro e w' ⟨rfl, rfl⟩
    exact ⟨rfl, M, hc, hO, Below.refl _ _⟩
end Go.Proofs.YtgholbeehkfbiaaGreat
