/- ref02.Text, ref06.num, ref06.Told -/
import Derived.Test.YtogecfddkohigaaRows
import Derived.Test.YtogecfddkohigaaRfNum
import Derived.Test.YtogecfddkohigaaBytesO
import Derived.Test.YtogecfddkohigaaAppendG
import Derived.Test.YtogecfddkohigaaTRead
import Derived.Lib.AppendStr
import Derived.Deep.RegionHeld3
import Derived.WalkKit
import Derived.WalkSpells
import Derived.WalkLawsBesides
import Derived.Deep.QuietTactic
import Derived.BigQuiet
import Derived.Laws.StructEq
import Derived.Deep.DeepFit
import Derived.StillTailTactics
namespace Go.Proofs.Ytogecfddkohigaa
open Go.RowKit
theorem strCells_flat (s : ByteArray) : Lib.strCells s = s.data.toList.flatMap (Enc.cells (α := UInt8)) := by
  have e : ∀ l : List UInt8, l.flatMap (Enc.cells (α := UInt8)) = l.map fun b => Value.int .u8 b.toNat := fun l => by
    induction l with
    | nil => rfl
    | cons x r ih => rw [List.flatMap_cons, List.map_cons, ih]; rfl
  rw [e]
  unfold Lib.strCells
  rfl
theorem u8_info : ∃ i, Try.prog.info? 5 = some i ∧ i.zero = some (.int .u8 0) ∧ i.size = 1 ∧ i.bytes = 1 := by
  obtain ⟨i, hi, hz, h1, h2⟩ := info_parts inf_byte
  exact ⟨i, hi, hz, h1, h2⟩
set_option maxRecDepth 100000 in
set_option maxHeartbeats 2000000 in
theorem rtext2_c (s : ByteArray) (w : World) (hs : s.size ≤ 60000) :
    Calls Try.prog 78 #[.string s] w fun e w' => ∃ v, e = .returned v ∧ Own w' w.heap.size 5 v (textB s) ∧ Below w.heap.size w w' := by
  have hN := Lib.hid (rnum2_c s.size w (by omega) (by omega))
  have hnl : (numB s.size).length ≤ 10 := uvarint_le (Lib.zigzag_lt (by omega) (by omega))
  obtain ⟨i, hi, hz, hi1, hi2⟩ := u8_info
  have hsl : s.data.toList.length = s.size := by simp
  unfold textB
  generalize numB s.size = nb at hN hnl ⊢
  go_enter Try.func78, Try.ntmps78
  go_wp2_with fail
  refine hN.out.mono ?_
  rintro e w1 ⟨v, rfl, hO, hb⟩
  have HO := Lib.hid hO.1
  have Hv := Lib.hid (fun g hg => hO.1.lt g hg)
  go_wp2_with (at_builtin; refine Lib.wpList_append_own_string _ rfl (.tmp 5) (.tmp 6) 36 9 rfl w.heap.size 5 i Try.underlying36 Try.underlying9 hi hz hi1 hi2 _ nb.length _ rfl HO.out s rfl (by simp only [maxLen]; omega) (by omega) hb.size ?_; intro v3 w3 hO3 hg3 hat3)
  go_ret
  refine ⟨_, rfl, ⟨?_, fun _ _ => trivial⟩, hb.trans (below_of_grown hg3 hb.size (fun g hg => (Hv.out g hg).1))⟩
  rw [List.flatMap_append, List.length_append, hsl, ← strCells_flat]
  exact hO3
set_option maxRecDepth 100000 in
set_option maxHeartbeats 400000 in
theorem rnum6_c (n : Int) (w : World) (h0 : -9223372036854775808 ≤ n) (h1 : n ≤ 9223372036854775807) :
    Calls Try.prog 77 #[.int .i64 n] w fun e w' => ∃ v, e = .returned v ∧ Own w' w.heap.size 5 v (numB n) ∧ Below w.heap.size w w' := by
  have H := Lib.hid (rnum2_c n w h0 h1)
  clear h0 h1
  go_enter Try.func77, Try.ntmps77
  go_wp2_with fail
  refine H.out.mono ?_
  rintro e w1 ⟨v, rfl, hO, hb⟩
  go_wp2
  go_ret
  exact ⟨_, rfl, hO, hb⟩
end Go.Proofs.Ytogecfddkohigaa
