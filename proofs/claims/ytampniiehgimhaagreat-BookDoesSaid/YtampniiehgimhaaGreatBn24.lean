/- Texts of this claim, laid together: FewN, Few09. -/
import Derived.Test.YtampniiehgimhaaGreatBn1
import Derived.Test.YtampniiehgimhaaGreatRows
import Derived.WalkKit
import Derived.WalkSpells
import Derived.WalkLawsBesides
import Derived.Deep.QuietTactic
import Derived.BigQuiet
import Derived.Laws.StructEq
import Derived.Deep.DeepFit
import Derived.StillTailTactics

/- few, in lists: so many legs of each. -/
namespace Go.Proofs.YtampniiehgimhaaGreat
open Go.RowKit
/-- an order with its first m legs alone -/
def cutN (m : Nat) (x : Od) : Od := { x with legs := x.legs.take m }
def fewN (m n : Nat) (l : List Od) : List Od := (l.take n).map (cutN m)
theorem cutN_ok {m : Nat} {w : World} {S : Nat → Prop} {x : Od} (h : Od.Ok w S x) : Od.Ok w S (cutN m x) := ⟨h.acct, h.peer, h.note, h.legs.take m⟩
theorem cutN_small {m : Nat} {x : Od} (h : x.legs.length ≤ m) : cutN m x = x := by
 unfold cutN
 rw [List.take_of_length_le h]
theorem fewN_len {m : Nat} {l : List Od} {k : Nat} (h : k < l.length) : (fewN m k l).length = k := by
 unfold fewN
 rw [List.length_map, List.length_take]; omega
theorem fewN_succ {m : Nat} {l : List Od} {k : Nat} (h : k < l.length) : fewN m (k + 1) l = fewN m k l ++ [cutN m l[k]] := by
 unfold fewN
 rw [List.take_succ_eq_append_getElem h, List.map_append]; rfl
theorem fewN_legs (m n : Nat) (l : List Od) : ∀ x ∈ fewN m n l, x.legs.length ≤ m := by
 intro x hx
 obtain ⟨y, _, rfl⟩ := List.mem_map.1 hx
 show (y.legs.take m).length ≤ m
 rw [List.length_take]; omega
theorem fewN_le (m n : Nat) (l : List Od) : (fewN m n l).length ≤ n := by
 unfold fewN
 rw [List.length_map, List.length_take]; omega
theorem inf_odN : (Tryz.prog.info? 37).map (fun i => (i.zero, i.size, i.bytes)) = some (some (.agg #[i64 0, i64 0, i64 0, .string ByteArray.empty, .string ByteArray.empty, i64 0, .slice none 0 0, i64 0, i64 0, .string ByteArray.empty]), Enc.size Od, 120) := by kernel_rfl
end Go.Proofs.YtampniiehgimhaaGreat

/- few, own of countinghouselaw09 -/
namespace Go.Proofs.YtampniiehgimhaaGreat
open Go.RowKit
set_option maxRecDepth 100000 in
set_option maxHeartbeats 1000000 in
theorem few_09 (A : Option Addr) (c n : Nat) (l : List Od) (w : World) (h : Sl w w.heap.size A c l) (hn : n ≤ 65536) :
    Calls Tryz.prog 11 #[.slice A l.length c, i64 n] w fun e w' => ∃ v, e = .returned v ∧ Own w' w.heap.size 37 v (fewN 10 n l) ∧ Below w.heap.size w w' := by
  have hlm : l.length ≤ 9223372036854775807 := h.len_le
  go_enter Tryz.func11, Tryz.ntmps11
  go_wp2
  go_loopw [5, 6] (fun v i wr => ∃ k : Nat, i = i64 k ∧ k ≤ l.length ∧ k ≤ n ∧ Own wr w.heap.size 37 v (fewN 10 k l) ∧ Below w.heap.size w wr) (fun _ i _ => l.length - (intOf i).toNat)
  case atStart => exact ⟨0, rfl, by omega, by omega, Own.nil_ _ _ _, Below.refl _ _⟩
  case round =>
    obtain ⟨k, rfl, hk, hkn, hO, hb⟩ := hrel
    by_cases hlt : k < l.length ∧ k < n
    · obtain ⟨h1, h2⟩ := hlt
      obtain ⟨b, o, rfl, hbb, hok, c0, c1, c2, c3, c4, c5, c6, c7, c8, c9⟩ := (h.below hb).od h1
      have hlc : l[k].legs.length ≤ l[k].lc := hok.legs.1
      have Hok := Lib.hid hok
      clear hok
      have HO := Lib.hid hO
      have hne := hO.new_ne (Nat.le_succ wr.heap.size)
      have Hne := Lib.hid hne
      clear hO hne
      have hlen : (fewN 10 k l).length = k := fewN_len h1
      have HL := Lib.hid hlen
      clear hlen
      by_cases h8 : l[k].legs.length ≤ 10
      all_goals
        have hB2 := ((Below.refl wr.heap.size wr).alloc (Nat.le_refl _) (.cells (cutN 10 l[k]).cells.toArray 37)).alloc (by simp) (.cells (cutN 10 l[k]).cells.toArray 37)
        have hb2 := hb.trans (hB2.mono hb.size)
        have hHeap := heap_alloc2_new wr (.cells (cutN 10 l[k]).cells.toArray 37) (.cells (cutN 10 l[k]).cells.toArray 37)
        have hO2 := HO.out.later hB2
        have hok2 : Enc.ok ((wr.alloc (.cells (cutN 10 l[k]).cells.toArray 37)).alloc (.cells (cutN 10 l[k]).cells.toArray 37)) (Oth ((wr.alloc (.cells (cutN 10 l[k]).cells.toArray 37)).alloc (.cells (cutN 10 l[k]).cells.toArray 37)) _) (cutN 10 l[k]) := Enc.keep (cutN_ok Hok.out) (fun _ hp => hB2.cell (Nat.lt_of_lt_of_le hp hb.size)) (hO2.oth (Nat.le_refl _) hb2.size)
        have HO2 := Lib.hid hO2
        have Hok2 := Lib.hid hok2
        have HH := Lib.hid hHeap
        have Hb2 := Lib.hid hb2
        clear hO2 hok2 hHeap hb2 hB2
        have hcs : (cutN 10 l[k]).cells = [i64 l[k].client, i64 l[k].seq, i64 l[k].kind, .string l[k].acct, .string l[k].peer, i64 l[k].sum, .slice l[k].la (cutN 10 l[k]).legs.length l[k].lc, i64 l[k].period, i64 l[k].hold, .string l[k].note] := rfl
        first
          | (first
               | (have h88 : (cutN 10 l[k]).legs.length = l[k].legs.length := by rw [cutN_small h8]
                  rw [h88] at hcs
                  clear h88)
               | (have h88 : (cutN 10 l[k]).legs.length = 10 := by show (l[k].legs.take 10).length = 10; rw [List.length_take]; omega
                  rw [h88] at hcs
                  clear h88)
             have Hcs := Lib.hid hcs
             rw [hcs] at HO2 Hok2 HH Hb2
             clear hcs
             go_wp2_with (at_builtin; refine wpList_append_one rfl (some 34) (.tmp 31) (.tmp 33) 22 rfl rfl _ 120 Tryz.underlying22 inf_odN rfl (by decide) (by decide) rfl HO2.out (wr.heap.size + 1) (cutN 10 l[k]) rfl _ 37 HH.out Hcs.out.symm Hne.out Hok2.out (by rw [HL.out]; omega) Hb2.out.size ?_; intro v3 w3 hO3 hg3 hat3)
             go_roundw
             case rel => exact ⟨k + 1, by go_num, by omega, by omega, by rw [fewN_succ h1]; exact hO3, Hb2.out.trans (HO2.out.below hg3 (Nat.le_refl _) Hb2.out.size)⟩
             case measure => simp [intOf]; omega)
          | (have h88 : (cutN 10 l[k]).legs.length = (min (l[k].legs.length : Int) 10).toNat := by show (l[k].legs.take 10).length = _; rw [List.length_take]; omega
             rw [h88] at hcs
             clear h88
             have Hcs := Lib.hid hcs
             rw [hcs] at HO2 Hok2 HH Hb2
             clear hcs
             go_wp2_with (at_builtin; refine wpList_append_one rfl (some 34) (.tmp 31) (.tmp 33) 22 rfl rfl _ 120 Tryz.underlying22 inf_odN rfl (by decide) (by decide) rfl HO2.out (wr.heap.size + 1) (cutN 10 l[k]) rfl _ 37 HH.out Hcs.out.symm Hne.out Hok2.out (by rw [HL.out]; omega) Hb2.out.size ?_; intro v3 w3 hO3 hg3 hat3)
             go_roundw
             case rel => exact ⟨k + 1, by go_num, by omega, by omega, by rw [fewN_succ h1]; exact hO3, Hb2.out.trans (HO2.out.below hg3 (Nat.le_refl _) Hb2.out.size)⟩
             case measure => simp [intOf]; omega)
    · have hf : fewN 10 n l = fewN 10 k l := by
        unfold fewN
        rcases Nat.lt_or_ge k l.length with h1 | h1
        · rw [show n = k by omega]
        · rw [List.take_of_length_le (by omega), List.take_of_length_le h1]
      have Hf := Lib.hid hf
      clear hf
      by_cases hkl : k < l.length
      · have hkn2 : ¬ k < n := fun h => hlt ⟨hkl, h⟩
        clear hlt
        go_wp2
        go_ret
        exact ⟨_, rfl, by rw [Hf.out]; exact hO, hb⟩
      · clear hlt
        go_wp2
        go_ret
        exact ⟨_, rfl, by rw [Hf.out]; exact hO, hb⟩
end Go.Proofs.YtampniiehgimhaaGreat
