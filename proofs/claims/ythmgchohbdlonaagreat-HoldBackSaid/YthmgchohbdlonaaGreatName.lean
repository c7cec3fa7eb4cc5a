/- strings.IndexRune at runes from 128 on; chart.Name; chart.Name -/
import Derived.Test.YthmgchohbdlonaaGreatRows
import Derived.Test.YthmgchohbdlonaaGreatMore
import Derived.Test.YthmgchohbdlonaaGreatShelf
import Derived.Laws.Runes
import Derived.Laws.RangeAny
import Derived.Lib.OthersKept
import Derived.WalkMore
import Derived.Deep.RegionHeld3
import Derived.WalkKit
import Derived.WalkSpells
import Derived.WalkLawsBesides
import Derived.Deep.QuietTactic
import Derived.BigQuiet
import Derived.Laws.StructEq
import Derived.Deep.DeepFit
import Derived.StillTailTactics
namespace Go.Proofs.YthmgchohbdlonaaGreat
open Go.RowKit
theorem iterPos_of {w : World} {k : Nat} {s : ByteArray} {p : Nat} (h : w.heap[k]? = some (.stringIter s p)) : w.iterPos k = p := by simp [World.iterPos, h]
theorem indexByte_none {c : UInt8} : ∀ {l : List UInt8}, (∀ b ∈ l, b ≠ c) → Lib.indexByte l c = -1
  | [], _ => rfl
  | b :: r, h => by
    have h1 : (b == c) = false := by simpa using h b (by simp)
    have ih := indexByte_none (l := r) (fun x hx => h x (by simp [hx]))
    simp [Lib.indexByte, h1, ih]
/-- a string of ASCII bytes -/
def AsciiB (S : ByteArray) : Prop := ∀ b ∈ S.data.toList, b.toNat < 128
theorem AsciiB.at_ {S : ByteArray} (h : AsciiB S) {k : Nat} (hk : k < S.size) : S[k].toNat < 128 := h _ (Array.getElem_mem_toList (xs := S.data) hk)
set_option maxRecDepth 100000 in
set_option maxHeartbeats 4000000 in
theorem irune_c (S : ByteArray) (hS : AsciiB S) (hn : S.size ≤ 1000) (r : Int) (h0 : 128 ≤ r) (w : World) :
    Calls Tryz.prog 74 #[.string S, .int .i32 r] w fun e w' => e = .returned (i64 (-1)) ∧ Below w.heap.size w w' := by
  have g0 : decide ((0 : Int) ≤ r) = true := decide_eq_true (by omega)
  have g1 : decide (r < 128) = false := decide_eq_false (by omega)
  by_cases he : r = 65533
  · have g2 : (r == 65533) = true := by rw [beq_iff_eq]; exact he
    clear he
    go_enter Tryz.func74, Tryz.ntmps74
    go_wp2_with fail
    go_loopw [5] (fun _ wr => ∃ pos : Nat, wr.heap[w.heap.size]? = some (.stringIter S pos) ∧ pos ≤ S.size ∧ Below w.heap.size w wr) (fun _ wr => S.size - wr.iterPos w.heap.size)
    case atStart => exact ⟨0, World.iter_heap w S 0, by omega, (Below.refl _ _).alloc (Nat.le_refl _) _⟩
    case round =>
      obtain ⟨pos, hit, hp, hb⟩ := hrel
      have hpos0 := iterPos_of hit
      by_cases hlt : pos < S.size
      · have ha := hS.at_ hlt
        have hnx : ∀ ty, (Instr.next (.pointer (some ⟨w.heap.size, 0, none⟩)) true ty).run Tryz.prog wr = _ := fun ty => Lib.run_next_ascii_at wr w.heap.size S pos ty hit hlt ha
        have hit2 := Lib.iterAt_heap wr w.heap.size S pos (pos + 1) hit
        have hb2 := Lib.below_iterAt hb (k := w.heap.size) (Nat.le_refl _) S (pos + 1)
        generalize wr.iterAt w.heap.size S (pos + 1) = W1 at *
        have g3 : (((S[pos].toNat : Nat) : Int) == 65533) = false := by rw [beq_eq_false_iff_ne]; omega
        have Hit := Lib.hid hit
        clear hit
        go_wp2
        go_roundw
        case rel => exact ⟨pos + 1, hit2, by omega, hb2⟩
        case measure => rw [iterPos_of hit2, hpos0]; omega
      · have hnx : ∀ ty, (Instr.next (.pointer (some ⟨w.heap.size, 0, none⟩)) true ty).run Tryz.prog wr = _ := fun ty => Lib.run_next_end_at wr w.heap.size S pos ty hit hlt
        go_wp2
        go_ret
        exact ⟨rfl, hb⟩
  · have g2 : (r == 65533) = false := by rw [beq_eq_false_iff_ne]; exact he
    clear he
    by_cases hv : Lib.validRune r = true
    · have hE := encode_facts r (by rw [validRune_eq]; exact hv) h0
      have hV := Lib.hid hv
      clear hv
      have hcv : ∀ W, (convert 21 9 (.int .i32 r)).run Tryz.prog W = .ok (.string (Utf8.encode r)) W := fun W => run_convert_int_string W _ _ _ r (by kernel_rfl) Tryz.underlying9
      generalize Utf8.encode r = E at hE hcv
      obtain ⟨hE2, hE4, hEl⟩ := hE
      obtain ⟨m, hm⟩ : ∃ m, E.size = m + 1 := ⟨E.size - 1, by omega⟩
      have hm1 : m < E.size := by omega
      have hl : 128 ≤ E[m].toNat := by
        have := hEl (by omega)
        simpa only [hm, Nat.add_sub_cancel] using this
      have hmi : (E.size : Int) - 1 = (m : Int) := by omega
      have Hmi := Lib.hid hmi
      have w1 : IntKind.i64.wrap ((E.size : Int) - 1) = (E.size : Int) - 1 := by rw [IntKind.wrap_i64]; omega
      have hm4 : m ≤ 3 := by omega
      have hmE : (m : Int) < (E.size : Int) := by omega
      clear hE2 hE4 hEl hm hmi
      have hib : ∀ e, Lib.indexByte (List.take e (List.drop (m + 1) S.data.toList)) E[m] = -1 := fun e => indexByte_none fun b hb hbc => by
        have := hS b (List.mem_of_mem_drop (List.mem_of_mem_take hb))
        rw [hbc] at this
        omega
      go_enter Tryz.func74, Tryz.ntmps74
      go_wp2_with fail
      refine (Tryz.utf8_ValidRune r _).mono ?_
      rintro e wv ⟨rfl, hw⟩
      rw [hV.out, hw]
      go_wp2_with fail
      go_step3
      go_wp2_with fail
      rw [Hmi.out]
      go_loopw [9, 10] (fun i _ wr => i = i64 (m : Int) ∧ wr = w) (fun _ _ _ => 0)
      case atStart => exact ⟨rfl, rfl⟩
      case round =>
        obtain ⟨rfl, rfl⟩ := hrel
        have i0 : (0 : Int) ≤ (m : Int) := by omega
        by_cases hlt : m < S.size
        · have i1 : (m : Int) < (S.size : Int) := by omega
          have hlo := hS.at_ hlt
          have g : ((S[m].toNat : Int) != (E[m].toNat : Int)) = true := by rw [bne_iff_ne]; omega
          have Hib := Lib.hid (hib (S.size - (m + 1)))
          have i3 : (m : Int) + 1 ≤ (S.size : Int) := by omega
          clear hib hl hlo
          go_wp2_with fail
          go_step3
          go_wp2_with fail
          go_quiet (fail)
          have hB := below_drewN (Below.refl wr.heap.size wr) nq
          generalize wr.drewN nq = wq at hB ⊢
          have i4 : (0 : Int) ≤ (m : Int) + 1 := by omega
          have w2 : IntKind.i64.wrap ((m : Int) + 1) = (m : Int) + 1 := by rw [IntKind.wrap_i64]; omega
          go_wp2_with fail
          go_region_held3 (fun W => Below wr.heap.size wr W) (first | exact hB.drew | assumption)
            (first
              | (go_at_call 97; refine (Tryz.strings_IndexByte _ _ _).mono ?_; rintro e w' ⟨rfl, hw⟩; rw [hw]))
          rename_i hH
          rw [Hib.out]
          go_wp2
          rw [Exit.noGoto_ret]
          go_wp2
          rw [Exit.noGoto_ret]
          go_wp2
          go_ret
          exact ⟨rfl, hH⟩
        · go_wp2
          rw [Exit.noGoto_ret]
          go_wp2
          go_ret
          exact ⟨rfl, Below.refl _ _⟩
    · have hv' : Lib.validRune r = false := by simpa using hv
      have hV := Lib.hid hv'
      clear hv hv'
      go_enter Tryz.func74, Tryz.ntmps74
      go_wp2_with fail
      refine (Tryz.utf8_ValidRune r _).mono ?_
      rintro e w1 ⟨rfl, hw⟩
      rw [hV.out, hw]
      go_wp2
      go_ret
      exact ⟨rfl, Below.refl _ _⟩
abbrev signsA : ByteArray := ⟨#[97, 98, 99, 100, 101, 102, 103, 104, 105, 106, 107, 108, 109, 110, 111, 112, 113, 114, 115, 116, 117, 118, 119, 120, 121, 122, 48, 49, 50, 51, 52, 53, 54, 55, 56, 57]⟩
/-- is a byte a sign of names? -/
def signB (b : UInt8) : Bool := decide (97 ≤ b.toNat ∧ b.toNat ≤ 122) || decide (48 ≤ b.toNat ∧ b.toNat ≤ 57)
theorem signs_ascii : AsciiB signsA := by
  have h : ∀ b ∈ signsA.data.toList, b.toNat < 128 := by decide
  exact h
theorem index_sign (b : UInt8) : decide (Lib.indexByte signsA.data.toList b < 0) = !signB b := by
  have h : ∀ a : Fin 256, decide (Lib.indexByte signsA.data.toList (UInt8.ofNat a.val) < 0) = !signB (UInt8.ofNat a.val) := by decide +kernel
  have := h ⟨b.toNat, b.toNat_lt⟩
  simpa using this
/-- chart.Name -/
def nameB (s : ByteArray) : Bool := s.data.toList.all signB && (!s.toList.isEmpty && decide (s.size ≤ 8))
def signTo (s : ByteArray) (k : Nat) : Prop := ∀ j (hj : j < s.size), j < k → signB s[j] = true
theorem signTo.next {s : ByteArray} {k : Nat} (h : signTo s k) (hk : k < s.size) (he : signB s[k] = true) : signTo s (k + 1) := fun j hj hjk => by
  rcases Nat.lt_succ_iff_lt_or_eq.1 hjk with hjk | rfl
  · exact h j hj hjk
  · exact he
theorem signTo.all {s : ByteArray} (h : signTo s s.size) : s.data.toList.all signB = true := by
  rw [List.all_eq_true]
  intro b hb
  obtain ⟨j, hj, rfl⟩ := List.getElem_of_mem hb
  have hj' : j < s.size := by simpa using hj
  exact h j hj' hj'
theorem nameB_bad {s : ByteArray} {k : Nat} (hk : k < s.size) (h : signB s[k] = false) : nameB s = false := by
  unfold nameB
  have : s.data.toList.all signB = false := by
    rw [List.all_eq_false]
    exact ⟨s[k], Array.getElem_mem_toList (xs := s.data) hk, by rw [h]; simp⟩
  rw [this]; rfl
set_option maxRecDepth 100000 in
set_option maxHeartbeats 4000000 in
theorem name_b (s : ByteArray) (w : World) : Calls Tryz.prog 47 #[.string s] w fun e w' => e = .returned (.bool (nameB s)) ∧ Below w.heap.size w w' := by
  go_enter Tryz.func47, Tryz.ntmps47
  go_wp2_with fail
  go_loopw [4] (fun _ wr => ∃ pos : Nat, wr.heap[w.heap.size]? = some (.stringIter s pos) ∧ pos ≤ s.size ∧ signTo s pos ∧ Below w.heap.size w wr) (fun _ wr => s.size - wr.iterPos w.heap.size)
  case atStart => exact ⟨0, World.iter_heap w s 0, by omega, fun _ _ h => absurd h (by omega), (Below.refl _ _).alloc (Nat.le_refl _) _⟩
  case round =>
    obtain ⟨pos, hit, hp, hst, hb⟩ := hrel
    have Hst := Lib.hid hst
    clear hst
    have hpos0 := iterPos_of hit
    by_cases hlt : pos < s.size
    · by_cases ha : s[pos].toNat < 128
      · have hnx : ∀ ty, (Instr.next (.pointer (some ⟨w.heap.size, 0, none⟩)) true ty).run Tryz.prog wr = _ := fun ty => Lib.run_next_ascii_at wr w.heap.size s pos ty hit hlt ha
        have hit2 := Lib.iterAt_heap wr w.heap.size s pos (pos + 1) hit
        have hb2 := Lib.below_iterAt hb (k := w.heap.size) (Nat.le_refl _) s (pos + 1)
        generalize wr.iterAt w.heap.size s (pos + 1) = W1 at *
        have Hit := Lib.hid hit
        clear hit
        have hI := Tryz.strings_IndexRune_ascii signsA ((s[pos].toNat : Nat) : Int) W1 (by omega) (by omega)
        rw [show (((s[pos].toNat : Nat) : Int)).toNat.toUInt8 = s[pos] from by simp] at hI
        have g := index_sign s[pos]
        have hI := Lib.hid hI
        generalize Lib.indexByte signsA.data.toList s[pos] = q at hI g
        go_wp2_with fail
        refine hI.out.mono ?_
        rintro e w2 ⟨rfl, rfl⟩
        by_cases hs : signB s[pos] = true
        · rw [hs] at g
          have Hs := Lib.hid hs
          clear hs hI
          go_wp2
          go_roundw
          case rel => exact ⟨pos + 1, hit2, by omega, Hst.out.next hlt Hs.out, hb2⟩
          case measure => rw [iterPos_of hit2, hpos0]; omega
        · have hs' : signB s[pos] = false := by simpa using hs
          rw [hs'] at g
          have Hs := Lib.hid hs'
          clear hs hs' hI
          go_wp2
          go_ret
          exact ⟨by rw [nameB_bad hlt Hs.out]; rfl, hb2⟩
      · have hd := decode_high s pos hlt (by omega)
        have hnx : ∀ ty, (Instr.next (.pointer (some ⟨w.heap.size, 0, none⟩)) true ty).run Tryz.prog wr = _ := fun ty => Lib.run_next_any_at wr w.heap.size s pos ty hit hlt
        have hb2 := Lib.below_iterAt hb (k := w.heap.size) (Nat.le_refl _) s (pos + (Utf8.decode s pos).2)
        generalize wr.iterAt w.heap.size s (pos + (Utf8.decode s pos).2) = W1 at *
        generalize (Utf8.decode s pos).1 = rn at *
        have hI := Lib.hid (irune_c signsA signs_ascii (by decide) (rn : Int) (by omega) W1)
        have Hs := Lib.hid (show nameB s = false from nameB_bad hlt (by unfold signB; rw [decide_eq_false (by omega), decide_eq_false (by omega)]; rfl))
        clear hit hd ha
        go_wp2_with fail
        refine hI.out.mono ?_
        rintro e w2 ⟨rfl, hF⟩
        go_wp2
        go_ret
        exact ⟨by rw [Hs.out]; rfl, below_on hb2 (Nat.le_refl _) hF⟩
    · obtain rfl : pos = s.size := by omega
      have hnx : ∀ ty, (Instr.next (.pointer (some ⟨w.heap.size, 0, none⟩)) true ty).run Tryz.prog wr = _ := fun ty => Lib.run_next_end_at wr w.heap.size s s.size ty hit hlt
      have hal := Hst.out.all
      by_cases he : s.toList.isEmpty = true
      · have Hs := Lib.hid (show nameB s = false by unfold nameB; rw [he]; simp)
        clear hal
        go_wp2
        go_ret
        exact ⟨by rw [Hs.out]; rfl, hb⟩
      · have he' : s.toList.isEmpty = false := by simpa using he
        have Hs := Lib.hid (show nameB s = decide (s.size ≤ 8) by unfold nameB; rw [he', hal]; simp)
        clear he hal
        by_cases h8 : s.size ≤ 8
        · have g8 : decide ((s.size : Int) ≤ 8) = true := decide_eq_true (by omega)
          have H8 := Lib.hid (decide_eq_true h8)
          clear h8
          go_wp2
          go_ret
          exact ⟨by rw [Hs.out, H8.out]; rfl, hb⟩
        · have g8 : decide ((s.size : Int) ≤ 8) = false := decide_eq_false (by omega)
          have H8 := Lib.hid (decide_eq_false h8)
          clear h8
          go_wp2
          go_ret
          exact ⟨by rw [Hs.out, H8.out]; rfl, hb⟩
end Go.Proofs.YthmgchohbdlonaaGreat
