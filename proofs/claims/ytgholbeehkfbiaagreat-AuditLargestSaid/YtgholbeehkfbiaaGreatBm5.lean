/- Texts of this claim, laid together: Name, LegsP, Legs. -/
import Derived.Test.YtgholbeehkfbiaaGreatRows
import Derived.Test.YtgholbeehkfbiaaGreatBm4
import Derived.Test.YtgholbeehkfbiaaGreatShelf
import Derived.Laws.Runes
import Derived.Laws.RangeAny
import Derived.Lib.OthersKept
import Derived.WalkMore
import Derived.Deep.RegionHeld3
import Derived.WalkKit
import Derived.WalkSpells
import Derived.WalkLawsBesides
import Derived.Deep.QuietTactic
import Derived.BigQuiet
import Derived.Laws.StructEq
import Derived.Deep.DeepFit
import Derived.StillTailTactics
import Derived.Test.YtgholbeehkfbiaaGreatBm3

/- strings.IndexRune at runes from 128 on; chart.Name; chart.Name -/
namespace Go.Proofs.YtgholbeehkfbiaaGreat
open Go.RowKit
theorem iterPos_of {w : World} {k : Nat} {s : ByteArray} {p : Nat} (h : w.heap[k]? = some (.stringIter s p)) : w.iterPos k = p := by simp [World.iterPos, h]
theorem indexByte_none {c : UInt8} : ∀ {l : List UInt8}, (∀ b ∈ l, b ≠ c) → Lib.indexByte l c = -1
  | [], _ => rfl
  | b :: r, h => by
    have h1 : (b == c) = false := by simpa using h b (by simp)
    have ih := indexByte_none (l := r) (fun x hx => h x (by simp [hx]))
    simp [Lib.indexByte, h1, ih]
/-- a string of ASCII bytes -/
def AsciiB (S : ByteArray) : Prop := ∀ b ∈ S.data.toList, b.toNat < 128
theorem AsciiB.at_ {S : ByteArray} (h : AsciiB S) {k : Nat} (hk : k < S.size) : S[k].toNat < 128 := h _ (Array.getElem_mem_toList (xs := S.data) hk)
set_option maxRecDepth 100000 in
set_option maxHeartbeats 4000000 in
theorem irune_c (S : ByteArray) (hS : AsciiB S) (hn : S.size ≤ 1000) (r : Int) (h0 : 128 ≤ r) (w : World) :
    Calls Tryz.prog 132 #[.string S, .int .i32 r] w fun e w' => e = .returned (i64 (-1)) ∧ Below w.heap.size w w' := by
  have g0 : decide ((0 : Int) ≤ r) = true := decide_eq_true (by omega)
  have g1 : decide (r < 128) = false := decide_eq_false (by omega)
  by_cases he : r = 65533
  · have g2 : (r == 65533) = true := by rw [beq_iff_eq]; exact he
    clear he
    go_enter Tryz.func132, Tryz.ntmps132
    go_wp2_with fail
    go_loopw [5] (fun _ wr => ∃ pos : Nat, wr.heap[w.heap.size]? = some (.stringIter S pos) ∧ pos ≤ S.size ∧ Below w.heap.size w wr) (fun _ wr => S.size - wr.iterPos w.heap.size)
    case atStart => exact ⟨0, World.iter_heap w S 0, by omega, (Below.refl _ _).alloc (Nat.le_refl _) _⟩
    case round =>
      obtain ⟨pos, hit, hp, hb⟩ := hrel
      have hpos0 := iterPos_of hit
      by_cases hlt : pos < S.size
      · have ha := hS.at_ hlt
        have hnx : ∀ ty, (Instr.next (.pointer (some ⟨w.heap.size, 0, none⟩)) true ty).run Tryz.prog wr = _ := fun ty => Lib.run_next_ascii_at wr w.heap.size S pos ty hit hlt ha
        have hit2 := Lib.iterAt_heap wr w.heap.size S pos (pos + 1) hit
        have hb2 := Lib.below_iterAt hb (k := w.heap.size) (Nat.le_refl _) S (pos + 1)
        generalize wr.iterAt w.heap.size S (pos + 1) = W1 at *
        have g3 : (((S[pos].toNat : Nat) : Int) == 65533) = false := by rw [beq_eq_false_iff_ne]; omega
        have Hit := Lib.hid hit
        clear hit
        go_wp2
        go_roundw
        case rel => exact ⟨pos + 1, hit2, by omega, hb2⟩
        case measure => rw [iterPos_of hit2, hpos0]; omega
      · have hnx : ∀ ty, (Instr.next (.pointer (some ⟨w.heap.size, 0, none⟩)) true ty).run Tryz.prog wr = _ := fun ty => Lib.run_next_end_at wr w.heap.size S pos ty hit hlt
        go_wp2
        go_ret
        exact ⟨rfl, hb⟩
  · have g2 : (r == 65533) = false := by rw [beq_eq_false_iff_ne]; exact he
    clear he
    by_cases hv : Lib.validRune r = true
    · have hE := encode_facts r (by rw [validRune_eq]; exact hv) h0
      have hV := Lib.hid hv
      clear hv
      have hcv : ∀ W, (convert 21 9 (.int .i32 r)).run Tryz.prog W = .ok (.string (Utf8.encode r)) W := fun W => run_convert_int_string W _ _ _ r (by kernel_rfl) Tryz.underlying9
      generalize Utf8.encode r = E at hE hcv
      obtain ⟨hE2, hE4, hEl⟩ := hE
      obtain ⟨m, hm⟩ : ∃ m, E.size = m + 1 := ⟨E.size - 1, by omega⟩
      have hm1 : m < E.size := by omega
      have hl : 128 ≤ E[m].toNat := by
        have := hEl (by omega)
        simpa only [hm, Nat.add_sub_cancel] using this
      have hmi : (E.size : Int) - 1 = (m : Int) := by omega
      have Hmi := Lib.hid hmi
      have w1 : IntKind.i64.wrap ((E.size : Int) - 1) = (E.size : Int) - 1 := by rw [IntKind.wrap_i64]; omega
      have hm4 : m ≤ 3 := by omega
      have hmE : (m : Int) < (E.size : Int) := by omega
      clear hE2 hE4 hEl hm hmi
      have hib : ∀ e, Lib.indexByte (List.take e (List.drop (m + 1) S.data.toList)) E[m] = -1 := fun e => indexByte_none fun b hb hbc => by
        have := hS b (List.mem_of_mem_drop (List.mem_of_mem_take hb))
        rw [hbc] at this
        omega
      go_enter Tryz.func132, Tryz.ntmps132
      go_wp2_with fail
      refine (Tryz.utf8_ValidRune r _).mono ?_
      rintro e wv ⟨rfl, hw⟩
      rw [hV.out, hw]
      go_wp2_with fail
      go_step3
      go_wp2_with fail
      rw [Hmi.out]
      go_loopw [9, 10] (fun i _ wr => i = i64 (m : Int) ∧ wr = w) (fun _ _ _ => 0)
      case atStart => exact ⟨rfl, rfl⟩
      case round =>
        obtain ⟨rfl, rfl⟩ := hrel
        have i0 : (0 : Int) ≤ (m : Int) := by omega
        by_cases hlt : m < S.size
        · have i1 : (m : Int) < (S.size : Int) := by omega
          have hlo := hS.at_ hlt
          have g : ((S[m].toNat : Int) != (E[m].toNat : Int)) = true := by rw [bne_iff_ne]; omega
          have Hib := Lib.hid (hib (S.size - (m + 1)))
          have i3 : (m : Int) + 1 ≤ (S.size : Int) := by omega
          clear hib hl hlo
          go_wp2_with fail
          go_step3
          go_wp2_with fail
          go_quiet (fail)
          have hB := below_drewN (Below.refl wr.heap.size wr) nq
          generalize wr.drewN nq = wq at hB ⊢
          have i4 : (0 : Int) ≤ (m : Int) + 1 := by omega
          have w2 : IntKind.i64.wrap ((m : Int) + 1) = (m : Int) + 1 := by rw [IntKind.wrap_i64]; omega
          go_wp2_with fail
          go_region_held3 (fun W => Below wr.heap.size wr W) (first | exact hB.drew | assumption)
            (first
              | (go_at_call 185; refine (Tryz.strings_IndexByte _ _ _).mono ?_; rintro e w' ⟨rfl, hw⟩; rw [hw]))
          rename_i hH
          rw [Hib.out]
          go_wp2
          rw [Exit.noGoto_ret]
          go_wp2
          rw [Exit.noGoto_ret]
          go_wp2
          go_ret
          exact ⟨rfl, hH⟩
        · go_wp2
          rw [Exit.noGoto_ret]
          go_wp2
          go_ret
          exact ⟨rfl, Below.refl _ _⟩
    · have hv' : Lib.validRune r = false := by simpa using hv
      have hV := Lib.hid hv'
      clear hv hv'
      go_enter Tryz.func132, Tryz.ntmps132
      go_wp2_with fail
      refine (Tryz.utf8_ValidRune r _).mono ?_
      rintro e w1 ⟨rfl, hw⟩
      rw [hV.out, hw]
      go_wp2
      go_ret
      exact ⟨rfl, Below.refl _ _⟩
abbrev signsA : ByteArray := ⟨#[97, 98, 99, 100, 101, 102, 103, 104, 105, 106, 107, 108, 109, 110, 111, 112, 113, 114, 115, 116, 117, 118, 119, 120, 121, 122, 48, 49, 50, 51, 52, 53, 54, 55, 56, 57]⟩
/-- is a byte a sign of names? -/
def signB (b : UInt8) : Bool := decide (97 ≤ b.toNat ∧ b.toNat ≤ 122) || decide (48 ≤ b.toNat ∧ b.toNat ≤ 57)
theorem signs_ascii : AsciiB signsA := by
  have h : ∀ b ∈ signsA.data.toList, b.toNat < 128 := by decide
  exact h
theorem index_sign (b : UInt8) : decide (Lib.indexByte signsA.data.toList b < 0) = !signB b := by
  have h : ∀ a : Fin 256, decide (Lib.indexByte signsA.data.toList (UInt8.ofNat a.val) < 0) = !signB (UInt8.ofNat a.val) := by decide +kernel
  have := h ⟨b.toNat, b.toNat_lt⟩
  simpa using this
/-- chart.Name -/
def nameB (s : ByteArray) : Bool := s.data.toList.all signB && (!s.toList.isEmpty && decide (s.size ≤ 8))
def signTo (s : ByteArray) (k : Nat) : Prop := ∀ j (hj : j < s.size), j < k → signB s[j] = true
theorem signTo.next {s : ByteArray} {k : Nat} (h : signTo s k) (hk : k < s.size) (he : signB s[k] = true) : signTo s (k + 1) := fun j hj hjk => by
  rcases Nat.lt_succ_iff_lt_or_eq.1 hjk with hjk | rfl
  · exact h j hj hjk
  · exact he
theorem signTo.all {s : ByteArray} (h : signTo s s.size) : s.data.toList.all signB = true := by
  rw [List.all_eq_true]
  intro b hb
  obtain ⟨j, hj, rfl⟩ := List.getElem_of_mem hb
  have hj' : j < s.size := by simpa using hj
  exact h j hj' hj'
theorem nameB_bad {s : ByteArray} {k : Nat} (hk : k < s.size) (h : signB s[k] = false) : nameB s = false := by
  unfold nameB
  have : s.data.toList.all signB = false := by
    rw [List.all_eq_false]
    exact ⟨s[k], Array.getElem_mem_toList (xs := s.data) hk, by rw [h]; simp⟩
  rw [this]; rfl
set_option maxRecDepth 100000 in
set_option maxHeartbeats 4000000 in
theorem name_b (s : ByteArray) (w : World) : Calls Tryz.prog 80 #[.string s] w fun e w' => e = .returned (.bool (nameB s)) ∧ Below w.heap.size w w' := by
  go_enter Tryz.func80, Tryz.ntmps80
  go_wp2_with fail
  go_loopw [4] (fun _ wr => ∃ pos : Nat, wr.heap[w.heap.size]? = some (.stringIter s pos) ∧ pos ≤ s.size ∧ signTo s pos ∧ Below w.heap.size w wr) (fun _ wr => s.size - wr.iterPos w.heap.size)
  case atStart => exact ⟨0, World.iter_heap w s 0, by omega, fun _ _ h => absurd h (by omega), (Below.refl _ _).alloc (Nat.le_refl _) _⟩
  case round =>
    obtain ⟨pos, hit, hp, hst, hb⟩ := hrel
    have Hst := Lib.hid hst
    clear hst
    have hpos0 := iterPos_of hit
    by_cases hlt : pos < s.size
    · by_cases ha : s[pos].toNat < 128
      · have hnx : ∀ ty, (Instr.next (.pointer (some ⟨w.heap.size, 0, none⟩)) true ty).run Tryz.prog wr = _ := fun ty => Lib.run_next_ascii_at wr w.heap.size s pos ty hit hlt ha
        have hit2 := Lib.iterAt_heap wr w.heap.size s pos (pos + 1) hit
        have hb2 := Lib.below_iterAt hb (k := w.heap.size) (Nat.le_refl _) s (pos + 1)
        generalize wr.iterAt w.heap.size s (pos + 1) = W1 at *
        have Hit := Lib.hid hit
        clear hit
        have hI := Tryz.strings_IndexRune_ascii signsA ((s[pos].toNat : Nat) : Int) W1 (by omega) (by omega)
        rw [show (((s[pos].toNat : Nat) : Int)).toNat.toUInt8 = s[pos] from by simp] at hI
        have g := index_sign s[pos]
        have hI := Lib.hid hI
        generalize Lib.indexByte signsA.data.toList s[pos] = q at hI g
        go_wp2_with fail
        refine hI.out.mono ?_
        rintro e w2 ⟨rfl, rfl⟩
        by_cases hs : signB s[pos] = true
        · rw [hs] at g
          have Hs := Lib.hid hs
          clear hs hI
          go_wp2
          go_roundw
          case rel => exact ⟨pos + 1, hit2, by omega, Hst.out.next hlt Hs.out, hb2⟩
          case measure => rw [iterPos_of hit2, hpos0]; omega
        · have hs' : signB s[pos] = false := by simpa using hs
          rw [hs'] at g
          have Hs := Lib.hid hs'
          clear hs hs' hI
          go_wp2
          go_ret
          exact ⟨by rw [nameB_bad hlt Hs.out]; rfl, hb2⟩
      · have hd := decode_high s pos hlt (by omega)
        have hnx : ∀ ty, (Instr.next (.pointer (some ⟨w.heap.size, 0, none⟩)) true ty).run Tryz.prog wr = _ := fun ty => Lib.run_next_any_at wr w.heap.size s pos ty hit hlt
        have hb2 := Lib.below_iterAt hb (k := w.heap.size) (Nat.le_refl _) s (pos + (Utf8.decode s pos).2)
        generalize wr.iterAt w.heap.size s (pos + (Utf8.decode s pos).2) = W1 at *
        generalize (Utf8.decode s pos).1 = rn at *
        have hI := Lib.hid (irune_c signsA signs_ascii (by decide) (rn : Int) (by omega) W1)
        have Hs := Lib.hid (show nameB s = false from nameB_bad hlt (by unfold signB; rw [decide_eq_false (by omega), decide_eq_false (by omega)]; rfl))
        clear hit hd ha
        go_wp2_with fail
        refine hI.out.mono ?_
        rintro e w2 ⟨rfl, hF⟩
        go_wp2
        go_ret
        exact ⟨by rw [Hs.out]; rfl, below_on hb2 (Nat.le_refl _) hF⟩
    · obtain rfl : pos = s.size := by omega
      have hnx : ∀ ty, (Instr.next (.pointer (some ⟨w.heap.size, 0, none⟩)) true ty).run Tryz.prog wr = _ := fun ty => Lib.run_next_end_at wr w.heap.size s s.size ty hit hlt
      have hal := Hst.out.all
      by_cases he : s.toList.isEmpty = true
      · have Hs := Lib.hid (show nameB s = false by unfold nameB; rw [he]; simp)
        clear hal
        go_wp2
        go_ret
        exact ⟨by rw [Hs.out]; rfl, hb⟩
      · have he' : s.toList.isEmpty = false := by simpa using he
        have Hs := Lib.hid (show nameB s = decide (s.size ≤ 8) by unfold nameB; rw [he', hal]; simp)
        clear he hal
        by_cases h8 : s.size ≤ 8
        · have g8 : decide ((s.size : Int) ≤ 8) = true := decide_eq_true (by omega)
          have H8 := Lib.hid (decide_eq_true h8)
          clear h8
          go_wp2
          go_ret
          exact ⟨by rw [Hs.out, H8.out]; rfl, hb⟩
        · have g8 : decide ((s.size : Int) ≤ 8) = false := decide_eq_false (by omega)
          have H8 := Lib.hid (decide_eq_false h8)
          clear h8
          go_wp2
          go_ret
          exact ⟨by rw [Hs.out, H8.out]; rfl, hb⟩
end Go.Proofs.YtgholbeehkfbiaaGreat

/- legs that may be: the plain law -/
namespace Go.Proofs.YtgholbeehkfbiaaGreat
open Go.RowKit
/-- accounts that were seen -/
def seenM (l : List Leg) : List (ByteArray × Value) := l.foldl (fun M x => putM M x.acct (.bool true)) []
theorem seenM_snoc (l : List Leg) (x : Leg) : seenM (l ++ [x]) = putM (seenM l) x.acct (.bool true) := by unfold seenM; rw [List.foldl_append]; rfl
theorem getM_fold : ∀ (l : List Leg) (M : List (ByteArray × Value)) (s : ByteArray), (s ∈ l.map Leg.acct → getM (l.foldl (fun M x => putM M x.acct (.bool true)) M) s = some (.bool true)) ∧ (s ∉ l.map Leg.acct → getM (l.foldl (fun M x => putM M x.acct (.bool true)) M) s = getM M s)
  | [], M, s => ⟨fun h => by simp at h, fun _ => rfl⟩
  | x :: r, M, s => by
    have ih := getM_fold r (putM M x.acct (.bool true)) s
    rw [List.foldl_cons]
    constructor
    · intro h
      by_cases hr : s ∈ r.map Leg.acct
      · exact ih.1 hr
      · have hx : x.acct = s := by
          rw [List.map_cons] at h
          rcases List.mem_cons.1 h with h | h
          · exact h.symm
          · exact absurd h hr
        rw [ih.2 hr, getM_put, if_pos hx]
    · intro h
      rw [List.map_cons] at h
      have h1 : s ≠ x.acct := fun e => h (by rw [e]; exact List.mem_cons_self ..)
      have h2 : s ∉ r.map Leg.acct := fun e => h (List.mem_cons_of_mem _ e)
      rw [ih.2 h2, getM_put, if_neg (fun e => h1 e.symm)]
theorem getM_seen {l : List Leg} {s : ByteArray} (h : s ∈ l.map Leg.acct) : getM (seenM l) s = some (.bool true) := (getM_fold l [] s).1 h
theorem getM_unseen {l : List Leg} {s : ByteArray} (h : s ∉ l.map Leg.acct) : getM (seenM l) s = none := (getM_fold l [] s).2 h
def legB (x : Leg) : Bool := nameB x.acct && decide (x.sum ≠ 0)
/-- order.legs -/
def legsB (l : List Leg) : Bool := decide ((l.map Leg.acct).Nodup) && l.all legB && (decide (2 ≤ l.length) && decide (l.length ≤ 6))
def legsTo (l : List Leg) (k : Nat) : Prop := ((l.take k).map Leg.acct).Nodup ∧ ∀ x ∈ l.take k, legB x = true
theorem legsTo.next {l : List Leg} {k : Nat} (h : legsTo l k) (hk : k < l.length) (h1 : l[k].acct ∉ (l.take k).map Leg.acct) (h2 : legB l[k] = true) : legsTo l (k + 1) := by
  obtain ⟨a, b⟩ := h
  unfold legsTo
  rw [List.take_succ_eq_append_getElem hk]
  refine ⟨?_, fun x hx => ?_⟩
  · rw [List.map_append, List.nodup_append]
    refine ⟨a, by simp, fun s hs t ht e => ?_⟩
    simp only [List.map_cons, List.map_nil, List.mem_singleton] at ht
    subst ht e
    exact h1 hs
  · rcases List.mem_append.1 hx with hx | hx
    · exact b x hx
    · simp only [List.mem_singleton] at hx
      subst hx; exact h2
theorem legsB_seen {l : List Leg} {k : Nat} (hk : k < l.length) (h1 : l[k].acct ∈ (l.take k).map Leg.acct) : legsB l = false := by
  unfold legsB
  have : ¬ (l.map Leg.acct).Nodup := fun hn => by
    rw [← List.take_append_drop k l, List.map_append, List.nodup_append] at hn
    exact hn.2.2 _ h1 _ (List.mem_map_of_mem (by rw [List.drop_eq_getElem_cons hk]; exact List.mem_cons_self ..)) rfl
  rw [decide_eq_false this]; rfl
theorem legsB_bad {l : List Leg} {k : Nat} (hk : k < l.length) (h1 : legB l[k] = false) : legsB l = false := by
  unfold legsB
  have : l.all legB = false := by rw [List.all_eq_false]; exact ⟨l[k], List.getElem_mem hk, by rw [h1]; simp⟩
  rw [this, Bool.and_false]; rfl
theorem legsB_all {l : List Leg} (h : legsTo l l.length) : legsB l = (decide (2 ≤ l.length) && decide (l.length ≤ 6)) := by
  obtain ⟨a, b⟩ := h
  rw [List.take_length] at a b
  unfold legsB
  rw [decide_eq_true a, List.all_eq_true.2 b]; rfl
theorem snocInd {α : Type} {motive : List α → Prop} (l : List α) (nil : motive []) (snoc : ∀ l x, motive l → motive (l ++ [x])) : motive l := by
  have h : ∀ m : List α, motive m.reverse := fun m => by
    induction m with
    | nil => exact nil
    | cons x r ih => rw [List.reverse_cons]; exact snoc _ _ ih
  have := h l.reverse
  rwa [List.reverse_reverse] at this
open Classical in
theorem seenM_len (l : List Leg) : (seenM l).length ≤ l.length ∧ ((seenM l).length = l.length ↔ (l.map Leg.acct).Nodup) := by
  induction l using snocInd with
  | nil => simp [seenM]
  | snoc l x ih =>
    rw [seenM_snoc]
    have hl : (putM (seenM l) x.acct (.bool true)).length = if x.acct ∈ l.map Leg.acct then (seenM l).length else (seenM l).length + 1 := by
      unfold putM
      by_cases hm : x.acct ∈ l.map Leg.acct
      · have h1 := getM_seen hm
        unfold getM at h1
        rw [Option.map_eq_some_iff] at h1
        obtain ⟨p, hp, _⟩ := h1
        rw [if_pos hm, if_pos (List.any_eq_true.2 ⟨p, List.mem_of_find?_eq_some hp, by simpa using List.find?_some hp⟩), List.length_map]
      · have h1 := getM_unseen hm
        unfold getM at h1
        rw [Option.map_eq_none_iff, List.find?_eq_none] at h1
        rw [if_neg hm, if_neg (fun e => by obtain ⟨p, hp, he⟩ := List.any_eq_true.1 e; exact h1 p hp he), List.length_append, List.length_singleton]
    rw [hl, List.map_append, List.nodup_append, List.length_append, List.length_singleton]
    by_cases hm : x.acct ∈ l.map Leg.acct
    · rw [if_pos hm]
      refine ⟨by omega, fun e => by omega, fun h => absurd rfl (h.2.2 _ hm _ (by simp))⟩
    · rw [if_neg hm]
      refine ⟨by omega, fun e => ⟨ih.2.1 (by omega), by simp, fun s hs t ht e => ?_⟩, fun h => by rw [ih.2.2 h.1]⟩
      simp only [List.map_cons, List.map_nil, List.mem_singleton] at ht
      subst ht e
      exact hm hs
end Go.Proofs.YtgholbeehkfbiaaGreat

/- order.legs, period, held -/
namespace Go.Proofs.YtgholbeehkfbiaaGreat
open Go.RowKit
def periodB (n : Int) : Bool := decide (1 ≤ n) && decide (n ≤ 1000)
def heldB (n : Int) : Bool := decide (1 ≤ n) && decide (n ≤ 9999)
set_option maxRecDepth 100000 in
set_option maxHeartbeats 400000 in
theorem period_c (n : Int) (w : World) : Calls Tryz.prog 160 #[i64 n] w fun e w' => e = .returned (.bool (periodB n)) ∧ Below w.heap.size w w' := by
  by_cases h1 : 1 ≤ n
  · have g1 : decide (1 ≤ n) = true := decide_eq_true h1
    have Hs := Lib.hid (show periodB n = decide (n ≤ 1000) by unfold periodB; rw [g1]; rfl)
    clear h1
    by_cases h2 : n ≤ 1000
    · have g2 : decide (n ≤ 1000) = true := decide_eq_true h2
      have H2 := Lib.hid g2
      clear h2
      go_enter Tryz.func160, Tryz.ntmps160
      go_wp2
      go_ret
      exact ⟨by rw [Hs.out, H2.out]; rfl, Below.refl _ _⟩
    · have g2 : decide (n ≤ 1000) = false := decide_eq_false h2
      have H2 := Lib.hid g2
      clear h2
      go_enter Tryz.func160, Tryz.ntmps160
      go_wp2
      go_ret
      exact ⟨by rw [Hs.out, H2.out]; rfl, Below.refl _ _⟩
  · have g1 : decide (1 ≤ n) = false := decide_eq_false h1
    have Hs := Lib.hid (show periodB n = false by unfold periodB; rw [g1]; rfl)
    clear h1
    go_enter Tryz.func160, Tryz.ntmps160
    go_wp2
    go_ret
    exact ⟨by rw [Hs.out]; rfl, Below.refl _ _⟩
set_option maxRecDepth 100000 in
set_option maxHeartbeats 400000 in
theorem held_c (n : Int) (w : World) : Calls Tryz.prog 165 #[i64 n] w fun e w' => e = .returned (.bool (heldB n)) ∧ Below w.heap.size w w' := by
  by_cases h1 : 1 ≤ n
  · have g1 : decide (1 ≤ n) = true := decide_eq_true h1
    have Hs := Lib.hid (show heldB n = decide (n ≤ 9999) by unfold heldB; rw [g1]; rfl)
    clear h1
    by_cases h2 : n ≤ 9999
    · have g2 : decide (n ≤ 9999) = true := decide_eq_true h2
      have H2 := Lib.hid g2
      clear h2
      go_enter Tryz.func165, Tryz.ntmps165
      go_wp2
      go_ret
      exact ⟨by rw [Hs.out, H2.out]; rfl, Below.refl _ _⟩
    · have g2 : decide (n ≤ 9999) = false := decide_eq_false h2
      have H2 := Lib.hid g2
      clear h2
      go_enter Tryz.func165, Tryz.ntmps165
      go_wp2
      go_ret
      exact ⟨by rw [Hs.out, H2.out]; rfl, Below.refl _ _⟩
  · have g1 : decide (1 ≤ n) = false := decide_eq_false h1
    have Hs := Lib.hid (show heldB n = false by unfold heldB; rw [g1]; rfl)
    clear h1
    go_enter Tryz.func165, Tryz.ntmps165
    go_wp2
    go_ret
    exact ⟨by rw [Hs.out]; rfl, Below.refl _ _⟩
set_option maxRecDepth 100000 in
set_option maxHeartbeats 4000000 in
theorem legs_c (A : Option Addr) (c : Nat) (l : List Leg) (w : World) (h : Sl w w.heap.size A c l) (hn : l.length ≤ 65536) :
    Calls Tryz.prog 159 #[.slice A l.length c] w fun e w' => e = .returned (.bool (legsB l)) ∧ Below w.heap.size w w' := by
  have hmm := @run_makeMap Tryz.prog
  go_enter Tryz.func159, Tryz.ntmps159
  go_wp2
  have hm0 := MapIs.made (enc := Value.string) w
  have hb0 := (Below.refl w.heap.size w).alloc (Nat.le_refl _) (.map #[] 0)
  go_loopw [9] (fun i wr => ∃ k : Nat, i = i64 k ∧ k ≤ l.length ∧ MapIs Value.string wr w.heap.size (seenM (l.take k)) ∧ legsTo l k ∧ Below w.heap.size w wr) (fun i _ => l.length - (intOf i).toNat)
  case atStart => exact ⟨0, rfl, by omega, hm0, ⟨by simp, by simp⟩, hb0⟩
  case round =>
    obtain ⟨k, rfl, hk, hm, ht, hb⟩ := hrel
    have HT := Lib.hid ht
    clear hm0 hb0 hmm ht
    by_cases hlt : k < l.length
    · obtain ⟨b, o, rfl, hbb, hsz, c0, c1⟩ := (h.later hb).leg hlt
      have hB1 := (Below.refl wr.heap.size wr).alloc (Nat.le_refl _) (.cells #[.string l[k].acct, i64 l[k].sum] 173)
      have hm1 := hm.later hB1
      have hb1 := hb.alloc hb.size (.cells #[.string l[k].acct, i64 l[k].sum] 173)
      have hlk := run_lookup (P := Tryz.prog) strKey Tryz.underlying262 hm1 l[k].acct (.bool false) (by kernel_rfl) false
      have Hm1 := Lib.hid hm1
      have Hb1 := Lib.hid hb1
      by_cases hs : l[k].acct ∈ (l.take k).map Leg.acct
      · rw [getM_seen hs] at hlk
        have Hs := Lib.hid (legsB_seen hlt hs)
        clear hm hm1 hb1 hs
        go_wp2
        go_ret
        exact ⟨by rw [Hs.out]; rfl, Hb1.out⟩
      · rw [getM_unseen hs] at hlk
        have Hs := Lib.hid hs
        clear hm hm1 hb1 hs
        go_wp2_with fail
        refine (name_b l[k].acct _).mono ?_
        rintro e w2 ⟨rfl, hF⟩
        have e0 : (wr.alloc (.cells #[.string l[k].acct, i64 l[k].sum] 173)).cell? ⟨wr.heap.size, 0, none⟩ = some (.string l[k].acct) := by simp
        have e1 : (wr.alloc (.cells #[.string l[k].acct, i64 l[k].sum] 173)).cell? ⟨wr.heap.size, 1, none⟩ = some (i64 l[k].sum) := by simp
        have e0 := (hF.cell (p := ⟨wr.heap.size, 0, none⟩) (by simp)).trans e0
        have e1 := (hF.cell (p := ⟨wr.heap.size, 1, none⟩) (by simp)).trans e1
        have hm2 := Lib.hid (Hm1.out.later hF)
        have hb2 := Lib.hid (below_on Hb1.out (Nat.le_refl _) hF)
        clear hF hlk c0 c1 Hm1 Hb1 hb hB1
        by_cases hnm : nameB l[k].acct = true
        · rw [hnm]
          by_cases hz : l[k].sum = 0
          · have g1 : (l[k].sum == 0) = true := beq_iff_eq.2 hz
            have Hs2 := Lib.hid (legsB_bad hlt (by unfold legB; rw [hz]; simp))
            clear hz hnm
            go_wp2
            go_ret
            exact ⟨by rw [Hs2.out]; rfl, hb2.out⟩
          · have g1 : (l[k].sum == 0) = false := beq_eq_false_iff_ne.2 hz
            have Hl := Lib.hid (show legB l[k] = true by unfold legB; rw [hnm, decide_eq_true hz]; rfl)
            clear hz hnm
            go_wp2_with (refine wpList_put rfl none (.tmp 28) (.tmp 30) (.const (.bool true)) 262 rfl rfl strKey Tryz.underlying262 rfl hm2.out l[k].acct (.bool true) rfl rfl ?_; intro w3 hm3 hg3)
            go_roundw
            case rel => exact ⟨k + 1, by go_num, by omega, by rw [List.take_succ_eq_append_getElem hlt, seenM_snoc]; exact hm3, HT.out.next hlt Hs.out Hl.out, hb2.out.trans (below_of_grown hg3 hb2.out.size (fun g e => by injection e with e; omega))⟩
            case measure => simp [intOf]; omega
        · have hnm' : nameB l[k].acct = false := by simpa using hnm
          rw [hnm']
          have Hs2 := Lib.hid (legsB_bad hlt (by unfold legB; rw [hnm']; rfl))
          clear hnm hnm'
          go_wp2
          go_ret
          exact ⟨by rw [Hs2.out]; rfl, hb2.out⟩
    · obtain rfl : k = l.length := by omega
      have hal := legsB_all HT.out
      by_cases h2 : 2 ≤ l.length
      · have g1 : decide ((2 : Int) ≤ (l.length : Int)) = true := decide_eq_true (by omega)
        rw [decide_eq_true h2] at hal
        by_cases h6 : l.length ≤ 6
        · have g2 : decide ((l.length : Int) ≤ 6) = true := decide_eq_true (by omega)
          rw [decide_eq_true h6] at hal
          have Hs := Lib.hid hal
          clear hal h2 h6
          go_wp2
          go_ret
          exact ⟨by rw [Hs.out]; rfl, hb⟩
        · have g2 : decide ((l.length : Int) ≤ 6) = false := decide_eq_false (by omega)
          rw [decide_eq_false h6] at hal
          have Hs := Lib.hid hal
          clear hal h2 h6
          go_wp2
          go_ret
          exact ⟨by rw [Hs.out]; rfl, hb⟩
      · have g1 : decide ((2 : Int) ≤ (l.length : Int)) = false := decide_eq_false (by omega)
        rw [decide_eq_false h2] at hal
        have Hs := Lib.hid hal
        clear hal h2
        go_wp2
        go_ret
        exact ⟨by rw [Hs.out]; rfl, hb⟩
end Go.Proofs.YtgholbeehkfbiaaGreat
