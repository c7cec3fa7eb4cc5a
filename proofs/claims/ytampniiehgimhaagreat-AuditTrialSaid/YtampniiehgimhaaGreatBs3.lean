/- Texts of this claim, laid together. -/
import Derived.Test.YtampniiehgimhaaGreatBs1
import Derived.Laws.StructEq
import Derived.Test.YtampniiehgimhaaGreatRows
import Derived.Test.YtampniiehgimhaaGreatBs2
import Derived.Test.YtampniiehgimhaaGreatShelf
import Derived.Laws.Runes
import Derived.Laws.RangeAny
import Derived.Lib.OthersKept
import Derived.WalkMore
import Derived.Deep.RegionHeld3
import Derived.WalkKit
import Derived.WalkSpells
import Derived.WalkLawsBesides
import Derived.Deep.QuietTactic
import Derived.BigQuiet
import Derived.Deep.DeepFit
import Derived.StillTailTactics
import Derived.Maps.RangeRun
import Derived.Maps.RangeWalk

/- Sorting: one list a set of data with a strict order; the order of texts. No program. -/
namespace Go.Proofs.YtampniiehgimhaaGreat
/-- strict, and of two one is ahead (unless neither is) -/
structure Strict {α : Type} (lt : α → α → Bool) : Prop where
 irr : ∀ a, lt a a = false
 trans : ∀ a b c, lt a b = true → lt b c = true → lt a c = true
 co : ∀ a b c, lt a b = false → lt b c = false → lt a c = false
def insB {α : Type} (lt : α → α → Bool) (x : α) : List α → List α
 | [] => [x]
 | y :: r => if lt y x then y :: insB lt x r else x :: y :: r
def sortB {α : Type} (lt : α → α → Bool) (l : List α) : List α := l.foldr (insB lt) []
/-- none behind another one is ahead of it -/
def SortedB {α : Type} (lt : α → α → Bool) (l : List α) : Prop := l.Pairwise fun a b => lt b a = false
section
variable {α : Type} {lt : α → α → Bool}
theorem Strict.asymm (S : Strict lt) {a b : α} (h : lt a b = true) : lt b a = false := by
 cases hb : lt b a with
 | false => rfl
 | true => rw [← S.trans a b a h hb, S.irr a]
theorem insB_perm (x : α) (l : List α) : (insB lt x l).Perm (x :: l) := by
 induction l with
 | nil => exact .refl _
 | cons y r ih =>
  unfold insB
  split
  ·exact (ih.cons y).trans (.swap x y r)
  ·exact .refl _
theorem sortB_perm (l : List α) : (sortB lt l).Perm l := by
 induction l with
 | nil => exact .refl _
 | cons x r ih => exact (insB_perm x _).trans (ih.cons x)
theorem insB_sorted (S : Strict lt) (x : α) (l : List α) (h : SortedB lt l) : SortedB lt (insB lt x l) := by
 induction l with
 | nil => exact List.pairwise_singleton _ _
 | cons y r ih =>
  have hr := List.pairwise_cons.1 h
  unfold insB
  by_cases hy : lt y x = true
  ·rw [if_pos hy]
   refine List.pairwise_cons.2 ⟨fun z hz => ?_, ih hr.2⟩
   rcases List.mem_cons.1 ((insB_perm x r).mem_iff.1 hz) with rfl | hz
   ·exact S.asymm hy
   ·exact hr.1 z hz
  ·rw [if_neg hy]
   have hy' : lt y x = false := by simpa using hy
   refine List.pairwise_cons.2 ⟨fun z hz => ?_, h⟩
   rcases List.mem_cons.1 hz with rfl | hz
   ·exact hy'
   ·exact S.co z y x (hr.1 z hz) hy'
theorem sortB_sorted (S : Strict lt) (l : List α) : SortedB lt (sortB lt l) := by
 induction l with
 | nil => exact List.Pairwise.nil
 | cons x r ih => exact insB_sorted S x _ ih
theorem sorted_unique : ∀ {l m : List α}, l.Perm m → SortedB lt l → SortedB lt m → (∀ a, a ∈ l → ∀ b, b ∈ l → lt a b = false → lt b a = false → a = b) → l = m
 | [], m, hp, _, _, _ => (List.nil_perm.1 hp).symm
 | x :: r, [], hp, _, _, _ => by simpa using hp.length_eq
 | x :: r, y :: s, hp, hl, hm, ha => by
  have h1 := List.pairwise_cons.1 hl
  have h2 := List.pairwise_cons.1 hm
  have hxy : x = y := by
   have hx : x ∈ y :: s := hp.mem_iff.1 (List.mem_cons_self ..)
   have hy : y ∈ x :: r := hp.mem_iff.2 (List.mem_cons_self ..)
   rcases List.mem_cons.1 hx with h | h
   ·exact h
   ·rcases List.mem_cons.1 hy with h' | h'
    ·exact h'.symm
    ·exact ha x (List.mem_cons_self ..) y (List.mem_cons_of_mem _ h') (h2.1 x h) (h1.1 y h')
  subst hxy
  rw [sorted_unique ((List.perm_cons x).1 hp) h1.2 h2.2 (fun a h b h' => ha a (List.mem_cons_of_mem _ h) b (List.mem_cons_of_mem _ h'))]
end
/-- byte by byte, a proper prefix first -/
def bless (a b : ByteArray) : Bool := Op.bytesLess a.toList b.toList
theorem bl_irr : ∀ a : List UInt8, Op.bytesLess a a = false
 | [] => rfl
 | x :: r => by
  have h : ¬ x < x := by rw [UInt8.lt_iff_toNat_lt]; omega
  simp [Op.bytesLess, bl_irr r, h]
theorem bl_tri : ∀ a b : List UInt8, Op.bytesLess a b = false → Op.bytesLess b a = false → a = b
 | [], [], _, _ => rfl
 | [], y :: s, h, _ => by simp [Op.bytesLess] at h
 | x :: r, [], _, h => by simp [Op.bytesLess] at h
 | x :: r, y :: s, h, h' => by
  simp only [Op.bytesLess, Bool.or_eq_false_iff, decide_eq_false_iff_not, UInt8.lt_iff_toNat_lt, Bool.and_eq_false_iff] at h h'
  have hxy : x = y := UInt8.toNat_inj.1 (by omega)
  subst hxy
  have h1 := h.2.resolve_left (by simp)
  have h2 := h'.2.resolve_left (by simp)
  rw [bl_tri r s h1 h2]
theorem bl_trans : ∀ a b c : List UInt8, Op.bytesLess a b = true → Op.bytesLess b c = true → Op.bytesLess a c = true
 | _, _, [], _, h => by simp [Op.bytesLess] at h
 | _, [], _ :: _, h, _ => by simp [Op.bytesLess] at h
 | [], _ :: _, _ :: _, _, _ => by simp [Op.bytesLess]
 | x :: r, y :: s, z :: t, h, h' => by
  simp only [Op.bytesLess, Bool.or_eq_true, decide_eq_true_eq, Bool.and_eq_true, beq_iff_eq, UInt8.lt_iff_toNat_lt] at h h' ⊢
  rcases h with h | ⟨rfl, h⟩ <;> rcases h' with h' | ⟨rfl, h'⟩
  ·exact .inl (by omega)
  ·exact .inl h
  ·exact .inl h'
  ·exact .inr ⟨rfl, bl_trans _ _ _ h h'⟩
theorem bless_tri {a b : ByteArray} (h : bless a b = false) (h' : bless b a = false) : a = b := by
 have e := bl_tri _ _ h h'
 rw [ByteArray.toList_eq, ByteArray.toList_eq] at e
 obtain ⟨⟨x⟩⟩ := a
 obtain ⟨⟨y⟩⟩ := b
 simp_all
theorem bless_strict : Strict bless where
 irr a := bl_irr _
 trans a b c := bl_trans _ _ _
 co a b c h h' := by
  cases hc : bless a c with
  | false => rfl
  | true =>
   cases hb : bless b a with
   | true =>
    have h2 : bless b c = true := bl_trans _ _ _ hb hc
    rw [h'] at h2
    cases h2
   | false =>
    have := bless_tri h hb
    subst this
    rw [h'] at hc
    cases hc
abbrev sortS (l : List ByteArray) : List ByteArray := sortB bless l
theorem sortS_unique {l m : List ByteArray} (hp : l.Perm m) (h : SortedB bless l) : l = sortS m :=
 sorted_unique (hp.trans (sortB_perm m).symm) h (sortB_sorted bless_strict m) (fun _ _ _ _ h h' => bless_tri h h')
end Go.Proofs.YtampniiehgimhaaGreat
/- strings.IndexRune at runes from 128 on; chart.Name; chart.Name -/
namespace Go.Proofs.YtampniiehgimhaaGreat
open Go.RowKit
theorem iterPos_of {w : World} {k : Nat} {s : ByteArray} {p : Nat} (h : w.heap[k]? = some (.stringIter s p)) : w.iterPos k = p := by simp [World.iterPos, h]
theorem indexByte_none {c : UInt8} : ∀ {l : List UInt8}, (∀ b ∈ l, b ≠ c) → Lib.indexByte l c = -1
 | [], _ => rfl
 | b :: r, h => by
  have h1 : (b == c) = false := by simpa using h b (by simp)
  have ih := indexByte_none (l := r) (fun x hx => h x (by simp [hx]))
  simp [Lib.indexByte, h1, ih]
/-- a string of ASCII bytes -/
def AsciiB (S : ByteArray) : Prop := ∀ b ∈ S.data.toList, b.toNat < 128
theorem AsciiB.at_ {S : ByteArray} (h : AsciiB S) {k : Nat} (hk : k < S.size) : S[k].toNat < 128 := h _ (Array.getElem_mem_toList (xs := S.data) hk)
set_option maxRecDepth 100000 in
set_option maxHeartbeats 4000000 in
theorem irune_c (S : ByteArray) (hS : AsciiB S) (hn : S.size ≤ 1000) (r : Int) (h0 : 128 ≤ r) (w : World) :
  Calls Tryz.prog 124 #[.string S, .int .i32 r] w fun e w' => e = .returned (i64 (-1)) ∧ Below w.heap.size w w' := by
 have g0 : decide ((0 : Int) ≤ r) = true := decide_eq_true (by omega)
 have g1 : decide (r < 128) = false := decide_eq_false (by omega)
 by_cases he : r = 65533
 ·have g2 : (r == 65533) = true := by rw [beq_iff_eq]; exact he
  clear he
  go_enter Tryz.func124, Tryz.ntmps124
  go_wp2_with fail
  go_loopw [5] (fun _ wr => ∃ pos : Nat, wr.heap[w.heap.size]? = some (.stringIter S pos) ∧ pos ≤ S.size ∧ Below w.heap.size w wr) (fun _ wr => S.size - wr.iterPos w.heap.size)
  case atStart => exact ⟨0, World.iter_heap w S 0, by omega, (Below.refl _ _).alloc (Nat.le_refl _) _⟩
  case round =>
   obtain ⟨pos, hit, hp, hb⟩ := hrel
   have hpos0 := iterPos_of hit
   by_cases hlt : pos < S.size
   ·have ha := hS.at_ hlt
    have hnx : ∀ ty, (Instr.next (.pointer (some ⟨w.heap.size, 0, none⟩)) true ty).run Tryz.prog wr = _ := fun ty => Lib.run_next_ascii_at wr w.heap.size S pos ty hit hlt ha
    have hit2 := Lib.iterAt_heap wr w.heap.size S pos (pos + 1) hit
    have hb2 := Lib.below_iterAt hb (k := w.heap.size) (Nat.le_refl _) S (pos + 1)
    generalize wr.iterAt w.heap.size S (pos + 1) = W1 at *
    have g3 : (((S[pos].toNat : Nat) : Int) == 65533) = false := by rw [beq_eq_false_iff_ne]; omega
    have Hit := Lib.hid hit
    clear hit
    go_wp2
    go_roundw
    case rel => exact ⟨pos + 1, hit2, by omega, hb2⟩
    case measure => rw [iterPos_of hit2, hpos0]; omega
   ·have hnx : ∀ ty, (Instr.next (.pointer (some ⟨w.heap.size, 0, none⟩)) true ty).run Tryz.prog wr = _ := fun ty => Lib.run_next_end_at wr w.heap.size S pos ty hit hlt
    go_wp2
    go_ret
    exact ⟨rfl, hb⟩
 ·have g2 : (r == 65533) = false := by rw [beq_eq_false_iff_ne]; exact he
  clear he
  by_cases hv : Lib.validRune r = true
  ·have hE := encode_facts r (by rw [validRune_eq]; exact hv) h0
   have hV := Lib.hid hv
   clear hv
   have hcv : ∀ W, (convert 21 9 (.int .i32 r)).run Tryz.prog W = .ok (.string (Utf8.encode r)) W := fun W => run_convert_int_string W _ _ _ r (by kernel_rfl) Tryz.underlying9
   generalize Utf8.encode r = E at hE hcv
   obtain ⟨hE2, hE4, hEl⟩ := hE
   obtain ⟨m, hm⟩ : ∃ m, E.size = m + 1 := ⟨E.size - 1, by omega⟩
   have hm1 : m < E.size := by omega
   have hl : 128 ≤ E[m].toNat := by
    have := hEl (by omega)
    simpa only [hm, Nat.add_sub_cancel] using this
   have hmi : (E.size : Int) - 1 = (m : Int) := by omega
   have Hmi := Lib.hid hmi
   have w1 : IntKind.i64.wrap ((E.size : Int) - 1) = (E.size : Int) - 1 := by rw [IntKind.wrap_i64]; omega
   have hm4 : m ≤ 3 := by omega
   have hmE : (m : Int) < (E.size : Int) := by omega
   clear hE2 hE4 hEl hm hmi
   have hib : ∀ e, Lib.indexByte (List.take e (List.drop (m + 1) S.data.toList)) E[m] = -1 := fun e => indexByte_none fun b hb hbc => by
    have := hS b (List.mem_of_mem_drop (List.mem_of_mem_take hb))
    rw [hbc] at this
    omega
   go_enter Tryz.func124, Tryz.ntmps124
   go_wp2_with fail
   refine (Tryz.utf8_ValidRune r _).mono ?_
   rintro e wv ⟨rfl, hw⟩
   rw [hV.out, hw]
   go_wp2_with fail
   go_step3
   go_wp2_with fail
   rw [Hmi.out]
   go_loopw [9, 10] (fun i _ wr => i = i64 (m : Int) ∧ wr = w) (fun _ _ _ => 0)
   case atStart => exact ⟨rfl, rfl⟩
   case round =>
    obtain ⟨rfl, rfl⟩ := hrel
    have i0 : (0 : Int) ≤ (m : Int) := by omega
    by_cases hlt : m < S.size
    ·have i1 : (m : Int) < (S.size : Int) := by omega
     have hlo := hS.at_ hlt
     have g : ((S[m].toNat : Int) != (E[m].toNat : Int)) = true := by rw [bne_iff_ne]; omega
     have Hib := Lib.hid (hib (S.size - (m + 1)))
     have i3 : (m : Int) + 1 ≤ (S.size : Int) := by omega
     clear hib hl hlo
     go_wp2_with fail
     go_step3
     go_wp2_with fail
     go_quiet (fail)
     have hB := below_drewN (Below.refl wr.heap.size wr) nq
     generalize wr.drewN nq = wq at hB ⊢
     have i4 : (0 : Int) ≤ (m : Int) + 1 := by omega
     have w2 : IntKind.i64.wrap ((m : Int) + 1) = (m : Int) + 1 := by rw [IntKind.wrap_i64]; omega
     go_wp2_with fail
     go_region_held3 (fun W => Below wr.heap.size wr W) (first | exact hB.drew | assumption)
      (first
       | (go_at_call 175; refine (Tryz.strings_IndexByte _ _ _).mono ?_; rintro e w' ⟨rfl, hw⟩; rw [hw]))
     rename_i hH
     rw [Hib.out]
     go_wp2
     rw [Exit.noGoto_ret]
     go_wp2
     rw [Exit.noGoto_ret]
     go_wp2
     go_ret
     exact ⟨rfl, hH⟩
    ·go_wp2
     rw [Exit.noGoto_ret]
     go_wp2
     go_ret
     exact ⟨rfl, Below.refl _ _⟩
  ·have hv' : Lib.validRune r = false := by simpa using hv
   have hV := Lib.hid hv'
   clear hv hv'
   go_enter Tryz.func124, Tryz.ntmps124
   go_wp2_with fail
   refine (Tryz.utf8_ValidRune r _).mono ?_
   rintro e w1 ⟨rfl, hw⟩
   rw [hV.out, hw]
   go_wp2
   go_ret
   exact ⟨rfl, Below.refl _ _⟩
abbrev signsA : ByteArray := ⟨#[97, 98, 99, 100, 101, 102, 103, 104, 105, 106, 107, 108, 109, 110, 111, 112, 113, 114, 115, 116, 117, 118, 119, 120, 121, 122, 48, 49, 50, 51, 52, 53, 54, 55, 56, 57]⟩
/-- is a byte a sign of names? -/
def signB (b : UInt8) : Bool := decide (97 ≤ b.toNat ∧ b.toNat ≤ 122) || decide (48 ≤ b.toNat ∧ b.toNat ≤ 57)
theorem signs_ascii : AsciiB signsA := by
 have h : ∀ b ∈ signsA.data.toList, b.toNat < 128 := by decide
 exact h
theorem index_sign (b : UInt8) : decide (Lib.indexByte signsA.data.toList b < 0) = !signB b := by
 have h : ∀ a : Fin 256, decide (Lib.indexByte signsA.data.toList (UInt8.ofNat a.val) < 0) = !signB (UInt8.ofNat a.val) := by decide +kernel
 have := h ⟨b.toNat, b.toNat_lt⟩
 simpa using this
/-- chart.Name -/
def nameB (s : ByteArray) : Bool := s.data.toList.all signB && (!s.toList.isEmpty && decide (s.size ≤ 8))
def signTo (s : ByteArray) (k : Nat) : Prop := ∀ j (hj : j < s.size), j < k → signB s[j] = true
theorem signTo.next {s : ByteArray} {k : Nat} (h : signTo s k) (hk : k < s.size) (he : signB s[k] = true) : signTo s (k + 1) := fun j hj hjk => by
 rcases Nat.lt_succ_iff_lt_or_eq.1 hjk with hjk | rfl
 ·exact h j hj hjk
 ·exact he
theorem signTo.all {s : ByteArray} (h : signTo s s.size) : s.data.toList.all signB = true := by
 rw [List.all_eq_true]
 intro b hb
 obtain ⟨j, hj, rfl⟩ := List.getElem_of_mem hb
 have hj' : j < s.size := by simpa using hj
 exact h j hj' hj'
theorem nameB_bad {s : ByteArray} {k : Nat} (hk : k < s.size) (h : signB s[k] = false) : nameB s = false := by
 unfold nameB
 have : s.data.toList.all signB = false := by
  rw [List.all_eq_false]
  exact ⟨s[k], Array.getElem_mem_toList (xs := s.data) hk, by rw [h]; simp⟩
 rw [this]; rfl
set_option maxRecDepth 100000 in
set_option maxHeartbeats 4000000 in
theorem name_b (s : ByteArray) (w : World) : Calls Tryz.prog 74 #[.string s] w fun e w' => e = .returned (.bool (nameB s)) ∧ Below w.heap.size w w' := by
 go_enter Tryz.func74, Tryz.ntmps74
 go_wp2_with fail
 go_loopw [4] (fun _ wr => ∃ pos : Nat, wr.heap[w.heap.size]? = some (.stringIter s pos) ∧ pos ≤ s.size ∧ signTo s pos ∧ Below w.heap.size w wr) (fun _ wr => s.size - wr.iterPos w.heap.size)
 case atStart => exact ⟨0, World.iter_heap w s 0, by omega, fun _ _ h => absurd h (by omega), (Below.refl _ _).alloc (Nat.le_refl _) _⟩
 case round =>
  obtain ⟨pos, hit, hp, hst, hb⟩ := hrel
  have Hst := Lib.hid hst
  clear hst
  have hpos0 := iterPos_of hit
  by_cases hlt : pos < s.size
  ·by_cases ha : s[pos].toNat < 128
   ·have hnx : ∀ ty, (Instr.next (.pointer (some ⟨w.heap.size, 0, none⟩)) true ty).run Tryz.prog wr = _ := fun ty => Lib.run_next_ascii_at wr w.heap.size s pos ty hit hlt ha
    have hit2 := Lib.iterAt_heap wr w.heap.size s pos (pos + 1) hit
    have hb2 := Lib.below_iterAt hb (k := w.heap.size) (Nat.le_refl _) s (pos + 1)
    generalize wr.iterAt w.heap.size s (pos + 1) = W1 at *
    have Hit := Lib.hid hit
    clear hit
    have hI := Tryz.strings_IndexRune_ascii signsA ((s[pos].toNat : Nat) : Int) W1 (by omega) (by omega)
    rw [show (((s[pos].toNat : Nat) : Int)).toNat.toUInt8 = s[pos] from by simp] at hI
    have g := index_sign s[pos]
    have hI := Lib.hid hI
    generalize Lib.indexByte signsA.data.toList s[pos] = q at hI g
    go_wp2_with fail
    refine hI.out.mono ?_
    rintro e w2 ⟨rfl, rfl⟩
    by_cases hs : signB s[pos] = true
    ·rw [hs] at g
     have Hs := Lib.hid hs
     clear hs hI
     go_wp2
     go_roundw
     case rel => exact ⟨pos + 1, hit2, by omega, Hst.out.next hlt Hs.out, hb2⟩
     case measure => rw [iterPos_of hit2, hpos0]; omega
    ·have hs' : signB s[pos] = false := by simpa using hs
     rw [hs'] at g
     have Hs := Lib.hid hs'
     clear hs hs' hI
     go_wp2
     go_ret
     exact ⟨by rw [nameB_bad hlt Hs.out]; rfl, hb2⟩
   ·have hd := decode_high s pos hlt (by omega)
    have hnx : ∀ ty, (Instr.next (.pointer (some ⟨w.heap.size, 0, none⟩)) true ty).run Tryz.prog wr = _ := fun ty => Lib.run_next_any_at wr w.heap.size s pos ty hit hlt
    have hb2 := Lib.below_iterAt hb (k := w.heap.size) (Nat.le_refl _) s (pos + (Utf8.decode s pos).2)
    generalize wr.iterAt w.heap.size s (pos + (Utf8.decode s pos).2) = W1 at *
    generalize (Utf8.decode s pos).1 = rn at *
    have hI := Lib.hid (irune_c signsA signs_ascii (by decide) (rn : Int) (by omega) W1)
    have Hs := Lib.hid (show nameB s = false from nameB_bad hlt (by unfold signB; rw [decide_eq_false (by omega), decide_eq_false (by omega)]; rfl))
    clear hit hd ha
    go_wp2_with fail
    refine hI.out.mono ?_
    rintro e w2 ⟨rfl, hF⟩
    go_wp2
    go_ret
    exact ⟨by rw [Hs.out]; rfl, below_on hb2 (Nat.le_refl _) hF⟩
  ·obtain rfl : pos = s.size := by omega
   have hnx : ∀ ty, (Instr.next (.pointer (some ⟨w.heap.size, 0, none⟩)) true ty).run Tryz.prog wr = _ := fun ty => Lib.run_next_end_at wr w.heap.size s s.size ty hit hlt
   have hal := Hst.out.all
   by_cases he : s.toList.isEmpty = true
   ·have Hs := Lib.hid (show nameB s = false by unfold nameB; rw [he]; simp)
    clear hal
    go_wp2
    go_ret
    exact ⟨by rw [Hs.out]; rfl, hb⟩
   ·have he' : s.toList.isEmpty = false := by simpa using he
    have Hs := Lib.hid (show nameB s = decide (s.size ≤ 8) by unfold nameB; rw [he', hal]; simp)
    clear he hal
    by_cases h8 : s.size ≤ 8
    ·have g8 : decide ((s.size : Int) ≤ 8) = true := decide_eq_true (by omega)
     have H8 := Lib.hid (decide_eq_true h8)
     clear h8
     go_wp2
     go_ret
     exact ⟨by rw [Hs.out, H8.out]; rfl, hb⟩
    ·have g8 : decide ((s.size : Int) ≤ 8) = false := decide_eq_false (by omega)
     have H8 := Lib.hid (decide_eq_false h8)
     clear h8
     go_wp2
     go_ret
     exact ⟨by rw [Hs.out, H8.out]; rfl, hb⟩
end Go.Proofs.YtampniiehgimhaaGreat
/- chart.Open -/
namespace Go.Proofs.YtampniiehgimhaaGreat
open Go.RowKit
/-- chart.Open -/
def openC (M : List (ByteArray × Ac)) (k : ByteArray) (lim : Int) : Int × List (ByteArray × Ac) :=
 if nameB k = false ∨ lim < 0 then (1, M) else if (getM M k).isSome = true then (7, M) else if M.length = 12 then (5, M) else (0, putM M k ⟨k, 0, 0, lim⟩)
set_option maxRecDepth 100000 in
set_option maxHeartbeats 4000000 in
theorem open_c (g b : Nat) (M : List (ByteArray × Ac)) (k : ByteArray) (lim : Int) (w : World) (h : ChIs w g b M) :
  Calls Tryz.prog 163 #[.pointer (some ⟨g, 0, none⟩), .string k, i64 lim] w fun e w' => e = .returned (i64 (openC M k lim).1) ∧ ChIs w' g b (openC M k lim).2 ∧ w.grownBy w' (some b) := by
 have hN := Lib.hid (name_b k w)
 obtain ⟨R, hR⟩ : ∃ R, openC M k lim = R := ⟨_, rfl⟩
 rw [hR]
 unfold openC at hR
 have HR := Lib.hid hR
 clear hR
 go_enter Tryz.func163, Tryz.ntmps163
 go_wp2_with fail
 refine hN.out.mono ?_
 rintro e w1 ⟨rfl, hF⟩
 have h1 := h.later hF
 have hb1 := hF
 clear hF hN h
 cases hn : nameB k with
 | false =>
  have HS := Lib.hid (show R = (1, M) by rw [← HR.out, if_pos (.inl hn)])
  clear hn HR
  go_wp2
  go_ret
  exact ⟨by rw [HS.out]; rfl, by rw [HS.out]; exact h1, grown_of_below hb1 _⟩
 | true =>
  by_cases hl : lim < 0
  ·have g1 : decide (lim < 0) = true := decide_eq_true hl
   have HS := Lib.hid (show R = (1, M) by rw [← HR.out, if_pos (.inr hl)])
   clear hn hl HR
   go_wp2
   go_ret
   exact ⟨by rw [HS.out]; rfl, by rw [HS.out]; exact h1, grown_of_below hb1 _⟩
  ·have g1 : decide (lim < 0) = false := decide_eq_false hl
   have HS := Lib.hid (show R = (if (getM M k).isSome = true then (7, M) else if M.length = 12 then (5, M) else (0, putM M k ⟨k, 0, 0, lim⟩)) by rw [← HR.out, if_neg (by rw [hn]; simpa using hl)])
   clear hn hl HR
   have c0 := cell_of_row _ g 0 _ _ (0, 0) h1.cell
   simp only [List.getElem?_toArray, List.getElem?_cons_zero] at c0
   have hlk := run_lookup (P := Tryz.prog) strKey Tryz.underlying189 h1.map k (ac0.v) (by kernel_rfl) true
   rw [getM_mv] at hlk
   unfold ac0 at hlk
   cases hm : getM M k with
   | some a =>
    rw [hm] at hlk
    have HT := Lib.hid (show R = (7, M) by rw [HS.out, hm]; rfl)
    have hB := (Below.refl w1.heap.size w1).alloc (Nat.le_refl _) (.cells #[.string a.name, i64 a.hav, i64 a.set_, i64 a.lim] 140)
    clear hm HS
    go_wp2
    go_ret
    exact ⟨by rw [HT.out]; rfl, by rw [HT.out]; exact h1.later hB, grown_of_below (below_on hb1 (Nat.le_refl _) hB) _⟩
   | none =>
    rw [hm] at hlk
    have HT := Lib.hid (show R = (if M.length = 12 then (5, M) else (0, putM M k ⟨k, 0, 0, lim⟩)) by rw [HS.out, hm]; rfl)
    have hB := (Below.refl w1.heap.size w1).alloc (Nat.le_refl _) (.cells #[.string ⟨#[]⟩, i64 0, i64 0, i64 0] 140)
    have h2 := h1.later hB
    have c0 := cell_of_row _ g 0 _ _ (0, 0) h2.cell
    simp only [List.getElem?_toArray, List.getElem?_cons_zero] at c0
    have hb2 := below_on hb1 (Nat.le_refl _) hB
    have hlen := fun ty => run_lenM (P := Tryz.prog) Tryz.underlying189 h2.map ty
    rw [show (mv M).length = M.length from List.length_map ..] at hlen
    clear hm HS h1 hb1 hB
    by_cases h12 : M.length = 12
    ·have g2 : ((M.length : Int) == 12) = true := by rw [beq_iff_eq]; omega
     have HU := Lib.hid (show R = (5, M) by rw [HT.out, if_pos h12])
     clear h12 HT
     go_wp2
     go_ret
     exact ⟨by rw [HU.out]; rfl, by rw [HU.out]; exact h2, grown_of_below hb2 _⟩
    ·have g2 : ((M.length : Int) == 12) = false := by rw [beq_eq_false_iff_ne]; omega
     have HU := Lib.hid (show R = (0, putM M k ⟨k, 0, 0, lim⟩) by rw [HT.out, if_neg h12])
     obtain ⟨w5, hrun, hm5, hg5⟩ := run_put (P := Tryz.prog) strKey Tryz.underlying189 h2.map k (Ac.v ⟨k, 0, 0, lim⟩)
     rw [putM_mv] at hm5
     have HM := Lib.hid hm5
     have HG := Lib.hid hg5
     have H2 := Lib.hid h2
     clear hm5 hg5 h12 HT
     go_wp2
     go_ret
     exact ⟨by rw [HU.out]; rfl, by rw [HU.out]; exact ⟨H2.out.ne, (HG.out.block g H2.out.lt.1 (fun e => H2.out.ne (by injection e with e; exact e.symm))).trans H2.out.cell, HM.out⟩, grown_trans (grown_of_below hb2 _) HG.out⟩
end Go.Proofs.YtampniiehgimhaaGreat
/- A map, and its entries in order. No program. -/
namespace Go.Proofs.YtampniiehgimhaaGreat
section
variable {α κ ν : Type} [DecidableEq κ] {lt : α → α → Bool}
/-- in order, none twice -/
def SrtL (lt : α → α → Bool) (L : List α) : Prop := L.Pairwise fun a b => lt a b = true
theorem SrtL.sorted (S : Strict lt) {L : List α} (h : SrtL lt L) : SortedB lt L := h.imp fun h => S.asymm h
theorem insB_srt (S : Strict lt) (x : α) : ∀ (L : List α), SrtL lt L → (∀ y ∈ L, lt x y = true ∨ lt y x = true) → SrtL lt (insB lt x L)
 | [], _, _ => List.pairwise_singleton _ _
 | y :: r, h, hx => by
  obtain ⟨h1, h2⟩ := List.pairwise_cons.1 h
  unfold insB
  by_cases hy : lt y x = true
  ·rw [if_pos hy]
   refine List.pairwise_cons.2 ⟨fun z hz => ?_, insB_srt S x r h2 fun z hz => hx z (by simp [hz])⟩
   rcases List.mem_cons.1 ((insB_perm x r).mem_iff.1 hz) with rfl | hz
   ·exact hy
   ·exact h1 z hz
  ·rw [if_neg hy]
   have hxy : lt x y = true := (hx y (by simp)).resolve_right hy
   refine List.pairwise_cons.2 ⟨fun z hz => ?_, h⟩
   rcases List.mem_cons.1 hz with rfl | hz
   ·exact hxy
   ·exact S.trans _ _ _ hxy (h1 z hz)
/-- the place of x in a list in order -/
theorem insB_at (S : Strict lt) (x : α) : ∀ (L : List α) (k : Nat), SrtL lt L → k ≤ L.length → (∀ j (h : j < L.length), j < k → lt L[j] x = true) → (∀ j (h : j < L.length), k ≤ j → lt L[j] x = false) → insB lt x L = L.take k ++ x :: L.drop k
 | [], k, _, _, _, _ => by simp [insB]
 | y :: r, k, h, hk, h1, h2 => by
  obtain ⟨g1, g2⟩ := List.pairwise_cons.1 h
  unfold insB
  cases k with
  | zero =>
   rw [if_neg (by rw [h2 0 (by simp) (Nat.le_refl _) |> fun e => (show lt y x = false from e)]; decide)]
   rfl
  | succ k =>
   rw [if_pos (show lt y x = true from h1 0 (by simp) (by omega)), insB_at S x r k g2 (by simpa using hk) (fun j hj hjk => h1 (j + 1) (by simpa using hj) (by omega)) (fun j hj hjk => h2 (j + 1) (by simpa using hj) (by omega))]
   simp
variable (kf : α → κ)
def getK (L : List α) (k : κ) : Option α := L.find? fun a => decide (kf a = k)
def setK (L : List α) (a : α) : List α := L.map fun x => if kf x = kf a then a else x
def delK (L : List α) (k : κ) : List α := L.filter fun x => !decide (kf x = k)
variable {kf}
theorem getK_mem {L : List α} {k : κ} {a : α} (h : getK kf L k = some a) : a ∈ L ∧ kf a = k := by
 unfold getK at h
 exact ⟨List.mem_of_find?_eq_some h, by simpa using List.find?_some h⟩
theorem getK_none {L : List α} {k : κ} : getK kf L k = none ↔ ∀ a ∈ L, kf a ≠ k := by
 unfold getK
 rw [List.find?_eq_none]
 simp
/-- keys part what is in order -/
structure KeyOrd (lt : α → α → Bool) (kf : α → κ) : Prop where
 strict : Strict lt
 ne : ∀ a b, lt a b = true → kf a ≠ kf b
 co : ∀ a b, kf a ≠ kf b → lt a b = true ∨ lt b a = true
 eq : ∀ a b, kf a = kf b → ∀ c, lt a c = lt b c ∧ lt c a = lt c b
omit [DecidableEq κ] in
theorem SrtL.one (O : KeyOrd lt kf) {L : List α} (h : SrtL lt L) : ∀ {a b : α}, a ∈ L → b ∈ L → kf a = kf b → a = b := by
 intro a b ha hb he
 obtain ⟨i, hi, rfl⟩ := List.getElem_of_mem ha
 obtain ⟨j, hj, rfl⟩ := List.getElem_of_mem hb
 rcases Nat.lt_trichotomy i j with hij | rfl | hij
 ·exact absurd he (O.ne _ _ (List.pairwise_iff_getElem.1 h i j hi hj hij))
 ·rfl
 ·exact absurd he.symm (O.ne _ _ (List.pairwise_iff_getElem.1 h j i hj hi hij))
theorem getK_of (O : KeyOrd lt kf) {L : List α} (h : SrtL lt L) {a : α} (ha : a ∈ L) : getK kf L (kf a) = some a := by
 cases hg : getK kf L (kf a) with
 | none => exact absurd rfl (getK_none.1 hg a ha)
 | some b =>
  obtain ⟨h1, h2⟩ := getK_mem hg
  rw [h.one O h1 ha h2]
theorem setK_srt (O : KeyOrd lt kf) {L : List α} (h : SrtL lt L) (a : α) : SrtL lt (setK kf L a) := by
 unfold setK SrtL
 rw [List.pairwise_map]
 refine h.imp fun {x y} hxy => ?_
 have hne := O.ne _ _ hxy
 by_cases hx : kf x = kf a
 ·rw [if_pos hx, if_neg (fun e => hne (by rw [hx, e])), ← (O.eq _ _ hx y).1]
  exact hxy
 ·rw [if_neg hx]
  by_cases hy : kf y = kf a
  ·rw [if_pos hy, ← (O.eq _ _ hy x).2]
   exact hxy
  ·rw [if_neg hy]
   exact hxy
theorem delK_srt {L : List α} (h : SrtL lt L) (k : κ) : SrtL lt (delK kf L k) := List.Pairwise.sublist List.filter_sublist h
theorem setK_len (L : List α) (a : α) : (setK kf L a).length = L.length := List.length_map ..
theorem setK_mem {L : List α} {a x : α} (h : x ∈ setK kf L a) : x = a ∨ (x ∈ L ∧ kf x ≠ kf a) := by
 obtain ⟨y, hy, he⟩ := List.mem_map.1 h
 by_cases hk : kf y = kf a
 ·rw [if_pos hk] at he; exact .inl he.symm
 ·rw [if_neg hk] at he; subst he; exact .inr ⟨hy, hk⟩
theorem setK_set (O : KeyOrd lt kf) {L : List α} (h : SrtL lt L) {k : Nat} (hk : k < L.length) {a : α} (ha : kf L[k] = kf a) : setK kf L a = L.set k a := by
 apply List.ext_getElem
 ·simp [setK]
 ·intro j h1 h2
  have hj : j < L.length := by simpa [setK] using h1
  simp only [setK, List.getElem_map, List.getElem_set]
  by_cases hjk : k = j
  ·subst hjk; simp [ha]
  ·rw [if_neg hjk, if_neg]
   intro e
   exact hjk (by
    rcases Nat.lt_trichotomy j k with hlt | rfl | hlt
    ·exact absurd (e.trans ha.symm) (O.ne _ _ (List.pairwise_iff_getElem.1 h j k hj hk hlt))
    ·rfl
    ·exact absurd (ha.trans e.symm) (O.ne _ _ (List.pairwise_iff_getElem.1 h k j hk hj hlt)))
theorem delK_at (O : KeyOrd lt kf) {L : List α} (h : SrtL lt L) {k : Nat} (hk : k < L.length) : delK kf L (kf L[k]) = L.take k ++ L.drop (k + 1) := by
 unfold delK
 have e : L = L.take k ++ L[k] :: L.drop (k + 1) := by rw [← List.drop_eq_getElem_cons hk, List.take_append_drop]
 have hp := h
 unfold SrtL at hp
 rw [e, List.pairwise_append] at hp
 obtain ⟨p1, p2, p3⟩ := hp
 obtain ⟨p4, p5⟩ := List.pairwise_cons.1 p2
 conv => lhs; arg 2; rw [e]
 rw [List.filter_append, List.filter_cons_of_neg (by simp), List.filter_eq_self.2, List.filter_eq_self.2]
 ·intro x hx
  simpa using fun e => O.ne _ _ (p4 x hx) e.symm
 ·intro x hx
  simpa using O.ne _ _ (p3 x hx _ (List.mem_cons_self ..))
variable (lt kf) in
/-- a map's entries, in order -/
structure RK (g : κ × ν → α) (M : List (κ × ν)) (L : List α) : Prop where
 perm : (M.map g).Perm L
 srt : SrtL lt L
 key : ∀ p ∈ M, kf (g p) = p.1
variable {g : κ × ν → α} {M : List (κ × ν)} {L : List α}
omit [DecidableEq κ] in
theorem RK.len (h : RK lt kf g M L) : M.length = L.length := by have := h.perm.length_eq; simpa using this
omit [DecidableEq κ] in
theorem RK.uniq (S : Strict lt) {L' : List α} (h : RK lt kf g M L) (h' : RK lt kf g M L') : L = L' :=
 sorted_unique (h.perm.symm.trans h'.perm) (h.srt.sorted S) (h'.srt.sorted S) fun a ha b hb e1 e2 => by
  obtain ⟨i, hi, rfl⟩ := List.getElem_of_mem ha
  obtain ⟨j, hj, rfl⟩ := List.getElem_of_mem hb
  rcases Nat.lt_trichotomy i j with hij | rfl | hij
  ·rw [List.pairwise_iff_getElem.1 h.srt i j hi hj hij] at e1; cases e1
  ·rfl
  ·rw [List.pairwise_iff_getElem.1 h.srt j i hj hi hij] at e2; cases e2
theorem RK.get (O : KeyOrd lt kf) (h : RK lt kf g M L) (k : κ) : (getM M k).map (fun v => g (k, v)) = getK kf L k := by
 unfold getM
 cases hf : M.find? (fun p => decide (p.1 = k)) with
 | none =>
  refine (getK_none.2 fun a ha e => ?_).symm
  obtain ⟨p, hp, rfl⟩ := List.mem_map.1 (h.perm.mem_iff.2 ha)
  rw [List.find?_eq_none] at hf
  exact hf p hp (by simpa [h.key p hp] using e)
 | some p =>
  have hp := List.mem_of_find?_eq_some hf
  have hk : p.1 = k := by simpa using List.find?_some hf
  subst hk
  have hm : g p ∈ L := h.perm.mem_iff.1 (List.mem_map.2 ⟨p, hp, rfl⟩)
  have := getK_of O h.srt hm
  rw [h.key p hp] at this
  exact this.symm
theorem RK.put (O : KeyOrd lt kf) (h : RK lt kf g M L) {k : κ} {v : ν} (hk : kf (g (k, v)) = k) (hs : (getK kf L k).isSome = true) : RK lt kf g (putM M k v) (setK kf L (g (k, v))) := by
 have hany : M.any (fun p => decide (p.1 = k)) = true := by
  cases hg : getK kf L k with
  | none => rw [hg] at hs; cases hs
  | some a =>
   obtain ⟨ha, hka⟩ := getK_mem hg
   obtain ⟨p, hp, rfl⟩ := List.mem_map.1 (h.perm.mem_iff.2 ha)
   exact List.any_eq_true.2 ⟨p, hp, by rw [← hka, h.key p hp]; simp⟩
 unfold putM
 rw [if_pos hany]
 refine ⟨?_, setK_srt O h.srt _, ?_⟩
 ·rw [List.map_map]
  have := h.perm.map (fun x => if kf x = kf (g (k, v)) then g (k, v) else x)
  rw [List.map_map] at this
  refine (List.Perm.of_eq (List.map_congr_left fun p hp => ?_)).trans this
  simp only [Function.comp_def]
  rw [h.key p hp, hk]
  split <;> rfl
 ·intro p hp
  obtain ⟨q, hq, rfl⟩ := List.mem_map.1 hp
  split
  ·exact hk
  ·exact h.key q hq
theorem RK.add (O : KeyOrd lt kf) (h : RK lt kf g M L) {k : κ} {v : ν} (hk : kf (g (k, v)) = k) (hs : getK kf L k = none) : RK lt kf g (putM M k v) (insB lt (g (k, v)) L) := by
 have hno := getK_none.1 hs
 have hany : ¬ M.any (fun p => decide (p.1 = k)) = true := by
  rw [List.any_eq_true]
  rintro ⟨p, hp, e⟩
  exact hno (g p) (h.perm.mem_iff.1 (List.mem_map.2 ⟨p, hp, rfl⟩)) (by rw [h.key p hp]; simpa using e)
 unfold putM
 rw [if_neg hany]
 refine ⟨?_, insB_srt O.strict _ _ h.srt fun y hy => O.co _ _ (by rw [hk]; exact fun e => hno y hy e.symm), ?_⟩
 ·rw [List.map_append, List.map_singleton]
  exact (List.perm_append_comm.trans (by simpa using h.perm.cons (g (k, v)))).trans (insB_perm _ _).symm
 ·intro p hp
  rcases List.mem_append.1 hp with hp | hp
  ·exact h.key p hp
  ·simp only [List.mem_singleton] at hp; subst hp; exact hk
theorem RK.del (h : RK lt kf g M L) (k : κ) : RK lt kf g (delM M k) (delK kf L k) := by
 refine ⟨?_, delK_srt h.srt k, fun p hp => h.key p (List.mem_filter.1 hp).1⟩
 have := h.perm.filter (fun x => !decide (kf x = k))
 rw [List.filter_map] at this
 refine (List.Perm.of_eq ?_).trans this
 unfold delM
 congr 1
 refine List.filter_congr fun p hp => ?_
 simp only [Function.comp_def]
 rw [h.key p hp]
omit [DecidableEq κ] in
theorem RK.nil : RK lt kf g ([] : List (κ × ν)) [] := ⟨.refl _, List.Pairwise.nil, by simp⟩
end
end Go.Proofs.YtampniiehgimhaaGreat
/- Frames of many blocks; a range over a map. No program. -/
namespace Go.Proofs.YtampniiehgimhaaGreat
open Go.RowKit
/-- nothing of w has turned but blocks of S -/
structure Gr (w w' : World) (S : Nat → Prop) : Prop where
 os : w'.os = w.os
 tape : w'.tape = w.tape
 output : w'.output = w.output
 size : w.heap.size ≤ w'.heap.size
 block : ∀ k, k < w.heap.size → ¬ S k → w'.heap[k]? = w.heap[k]?
theorem Gr.of_grown {w w' : World} {row : Option Nat} (h : w.grownBy w' row) : Gr w w' (fun k => row = some k) := ⟨h.os, h.tape, h.output, h.size, fun k hk hn => h.block k hk (fun e => hn e.symm)⟩
theorem Gr.of_below {w w' : World} (h : Below w.heap.size w w') (S : Nat → Prop) : Gr w w' S := ⟨h.os, h.tape, h.output, h.size, fun k hk _ => h.block k hk⟩
theorem Gr.mono {w w' : World} {S S' : Nat → Prop} (h : Gr w w' S) (hS : ∀ k, k < w.heap.size → S k → S' k) : Gr w w' S' := ⟨h.os, h.tape, h.output, h.size, fun k hk hn => h.block k hk (fun e => hn (hS k hk e))⟩
theorem Gr.refl (w : World) (S : Nat → Prop) : Gr w w S := ⟨rfl, rfl, rfl, Nat.le_refl _, fun _ _ _ => rfl⟩
theorem Gr.trans {w w' w'' : World} {S S' : Nat → Prop} (h : Gr w w' S) (k : Gr w' w'' S') (hS : ∀ b, S' b → S b ∨ w.heap.size ≤ b) : Gr w w'' S :=
 ⟨k.os.trans h.os, k.tape.trans h.tape, k.output.trans h.output, Nat.le_trans h.size k.size, fun n hn hx => (k.block n (Nat.lt_of_lt_of_le hn h.size) (fun e => (hS n e).elim hx (fun e => by omega))).trans (h.block n hn hx)⟩
/-- a frame that touches no block below B -/
theorem Gr.below {w w' : World} {S : Nat → Prop} (h : Gr w w' S) {B : Nat} (hB : B ≤ w.heap.size) (hS : ∀ b, S b → B ≤ b) : Below B w w' :=
 ⟨h.os, h.tape, h.output, h.size, fun k hk => h.block k (by omega) (fun e => by have := hS k e; omega)⟩
theorem Gr.grown {w w' : World} {S : Nat → Prop} (h : Gr w w' S) {b : Nat} (hS : ∀ k, S k → k = b) : w.grownBy w' (some b) := ⟨h.os, h.tape, h.output, h.size, fun k hk hn => h.block k hk (fun e => hn (by rw [hS k e]))⟩
theorem SlS.grs {α : Type} [Enc α] {w w' : World} {S T : Nat → Prop} {A : Option Addr} {c : Nat} {l : List α} (h : SlS w T A c l) (hg : Gr w w' S) (hT : ∀ b, T b → b < w.heap.size ∧ ¬ S b) : SlS w' T A c l :=
 h.keep (fun _ hp => World.cell?_of_block (hg.block _ (hT _ hp).1 (hT _ hp).2)) (fun _ h => h)
theorem leftOf_push {es : Array MapEntry} {seen : Array Nat} {e : MapEntry} (he : e ∈ (leftOf es seen).toList) (hn : es.toList.Pairwise (fun x y => x.born < y.born)) : (leftOf es seen).toList.Perm (e :: (leftOf es (seen.push e.born)).toList) := by
 unfold leftOf at *
 simp only [Array.toList_filter, contains_push] at *
 generalize es.toList = l at *
 induction l with
 | nil => simp at he
 | cons a r ih =>
  obtain ⟨h1, h2⟩ := List.pairwise_cons.1 hn
  by_cases ha : seen.contains a.born = true
  ·rw [List.filter_cons_of_neg (by rw [ha]; decide)] at he ⊢
   rw [List.filter_cons_of_neg (by rw [ha]; simp)]
   exact ih h2 he
  ·have ha : seen.contains a.born = false := by simpa using ha
   rw [List.filter_cons_of_pos (by rw [ha]; rfl)] at he ⊢
   rcases List.mem_cons.1 he with rfl | he
   ·rw [List.filter_cons_of_neg (by simp)]
    refine List.Perm.cons _ (List.Perm.of_eq ?_)
    refine List.filter_congr fun x hx => ?_
    have := h1 x hx
    rw [show (x.born == e.born) = false from beq_eq_false_iff_ne.2 (by omega), Bool.or_false]
   ·have hr : e ∈ r := (List.mem_filter.1 he).1
    have := h1 e hr
    rw [List.filter_cons_of_pos (by rw [ha, show (a.born == e.born) = false from beq_eq_false_iff_ne.2 (by omega)]; rfl)]
    exact (List.Perm.cons a (ih h2 he)).trans (List.Perm.swap _ _ _)
section
variable {κ : Type} [DecidableEq κ] {enc : κ → Value} {P : Program} {w : World} {b r : Nat} {M L : List (κ × Value)}
/-- a range over the map of block b under way, its iterator in block r: L is still to come -/
def RngIs (enc : κ → Value) (w : World) (b r : Nat) (M L : List (κ × Value)) : Prop :=
 ∃ es clock since seen c0, w.heap[b]? = some (.map es clock) ∧ (es.toList.map (fun e => (e.key, e.val)) = M.map (fun p => (enc p.1, p.2)) ∧ es.toList.Pairwise (fun x y => x.born < y.born) ∧ (∀ x ∈ es.toList, x.born < clock) ∧ M.Pairwise (fun p q => p.1 ≠ q.1)) ∧
  w.heap[r]? = some (.mapIter (some b) since seen c0) ∧ (∀ x ∈ es.toList, x.born < since) ∧ since ≤ c0 ∧ since ≤ clock ∧ (leftOf es seen).toList.map (fun e => (e.key, e.val)) = L.map (fun p => (enc p.1, p.2))
omit [DecidableEq κ] in
theorem RngIs.map (h : RngIs enc w b r M L) : MapIs enc w b M := by
 obtain ⟨es, clock, since, seen, c0, hb, h1, _⟩ := h
 exact ⟨es, clock, hb, h1⟩
omit [DecidableEq κ] in
theorem RngIs.lt (h : RngIs enc w b r M L) : b < w.heap.size ∧ r < w.heap.size := by
 obtain ⟨es, clock, since, seen, c0, hb, h1, hr, _⟩ := h
 exact ⟨(Array.getElem?_eq_some_iff.1 hb).1, (Array.getElem?_eq_some_iff.1 hr).1⟩
omit [DecidableEq κ] in
theorem RngIs.kept {w' : World} {row : Option Nat} (h : RngIs enc w b r M L) (hg : w.grownBy w' row) (h1 : some b ≠ row) (h2 : some r ≠ row) : RngIs enc w' b r M L := by
 have hl := h.lt
 obtain ⟨es, clock, since, seen, c0, hb, hh, hr, rest⟩ := h
 exact ⟨es, clock, since, seen, c0, (hg.block b hl.1 h1).trans hb, hh, (hg.block r hl.2 h2).trans hr, rest⟩
omit [DecidableEq κ] in
theorem RngIs.later {w' : World} (h : RngIs enc w b r M L) (hb : Below w.heap.size w w') : RngIs enc w' b r M L := h.kept (grown_of_below hb none) (by simp) (by simp)
omit [DecidableEq κ] in
theorem RngIs.ne (h : RngIs enc w b r M L) : r ≠ b := by
 obtain ⟨es, clock, since, seen, c0, hb, hh, hr, _⟩ := h
 intro e
 rw [e, hb] at hr
 cases hr
omit [DecidableEq κ] in
theorem RngIs.len (h : RngIs enc w b r M L) : w.rangeLeft b r = L.length := by
 obtain ⟨es, clock, since, seen, c0, hb, hh, hr, _, _, _, hL⟩ := h
 simp only [World.rangeLeft, hb, hr]
 have := congrArg List.length hL
 simpa using this
omit [DecidableEq κ] in
theorem rng_start {t e K : TypeId} (ht : P.underlying t = some (.map K e)) (h : MapIs enc w b M) :
  ∃ w', (Instr.range t (.map (some b))).run P w = .ok (.pointer (some ⟨w.heap.size, 0, none⟩)) w' ∧ RngIs enc w' b w.heap.size M M ∧ Below w.heap.size w w' ∧ w'.heap.size = w.heap.size + 1 := by
 have hlt := h.lt
 obtain ⟨es, clock, hb, h1, h2, h3, h4⟩ := h
 refine ⟨_, run_range_map w t K e b es clock ht hb, ⟨es, clock, clock, #[], clock, (heap_alloc_old w _ hlt).trans hb, ⟨h1, h2, h3, h4⟩, heap_alloc_new w _, h3, Nat.le_refl _, Nat.le_refl _, ?_⟩, (Below.refl _ _).alloc (Nat.le_refl _) _, by simp⟩
 rw [show leftOf es #[] = es by unfold leftOf; simp]
 exact h1
omit [DecidableEq κ] in
theorem rng_next (h : RngIs enc w b r M L) (ty : TypeId) :
  (L = [] ∧ (Instr.next (.pointer (some ⟨r, 0, none⟩)) false ty).run P w = .ok (.tuple #[.bool false]) w) ∨
  ∃ (p : κ × Value) (L' : List (κ × Value)) (w' : World), L.Perm (p :: L') ∧ (Instr.next (.pointer (some ⟨r, 0, none⟩)) false ty).run P w = .ok (.tuple #[.bool true, enc p.1, p.2]) w' ∧ RngIs enc w' b r M L' ∧ w.grownBy w' (some r) ∧ w'.heap.size = w.heap.size ∧
   (Instr.entry (.pointer (some ⟨r, 0, none⟩))).run P w' = .ok (.tuple #[enc p.1, p.2]) w' := by
 have hne := h.ne
 obtain ⟨es, clock, since, seen, c0, hb, ⟨hh, hpw, hcl, hnd⟩, hr, hold, hsc, hsk, hL⟩ := h
 rcases run_next_at (P := P) w ty r b since c0 seen es clock hr hb hold hsc with ⟨h0, hrun⟩ | ⟨e, he, w1, hal, hrun⟩
 ·refine Or.inl ⟨?_, hrun⟩
  have := congrArg List.length hL
  simp only [List.length_map, Array.length_toList, h0] at this
  exact List.length_eq_zero_iff.1 this.symm
 ·obtain ⟨hem, hes⟩ := mem_left he
  have hp := leftOf_push he hpw
  have hp2 := (hp.map (fun e => (e.key, e.val)))
  rw [hL, List.map_cons] at hp2
  have hmem : (e.key, e.val) ∈ L.map (fun p => (enc p.1, p.2)) := hp2.mem_iff.2 (by simp)
  obtain ⟨p, hpL, hpe⟩ := List.mem_map.1 hmem
  injection hpe with hk hv
  obtain ⟨L1, L2, rfl⟩ := List.append_of_mem hpL
  have hperm : (L1 ++ p :: L2).Perm (p :: (L1 ++ L2)) := List.perm_middle
  have hp3 : ((L1 ++ L2).map (fun p => (enc p.1, p.2))).Perm ((leftOf es (seen.push e.born)).toList.map (fun e => (e.key, e.val))) := by
   have h1 := (hperm.map (fun p => (enc p.1, p.2))).symm.trans hp2
   rw [List.map_cons, hk, hv] at h1
   exact (List.perm_cons _).1 h1
  obtain ⟨L', hL', hL'2⟩ : ∃ L', (L1 ++ L2).Perm L' ∧ L'.map (fun p => (enc p.1, p.2)) = (leftOf es (seen.push e.born)).toList.map (fun e => (e.key, e.val)) := by
   clear hL hp2 hmem hpL hp hrun
   generalize (leftOf es (seen.push e.born)).toList.map (fun e => (e.key, e.val)) = R at hp3
   generalize L1 ++ L2 = X at hp3
   clear hperm
   induction R generalizing X with
   | nil =>
    have : X = [] := by simpa using hp3
    subst this
    exact ⟨[], List.Perm.refl _, rfl⟩
   | cons u R ih =>
    have : u ∈ X.map (fun p => (enc p.1, p.2)) := hp3.mem_iff.2 (by simp)
    obtain ⟨q, hq, hqe⟩ := List.mem_map.1 this
    obtain ⟨X1, X2, rfl⟩ := List.append_of_mem hq
    have h2 : (X1 ++ q :: X2).Perm (q :: (X1 ++ X2)) := List.perm_middle
    have h3 := (h2.map (fun p => (enc p.1, p.2))).symm.trans hp3
    rw [List.map_cons, hqe] at h3
    obtain ⟨L', e1, e2⟩ := ih _ ((List.perm_cons _).1 h3)
    exact ⟨q :: L', h2.trans (e1.cons q), by rw [List.map_cons, e2, hqe]⟩
  have hr1 : w1.heap[r]? = some (.mapIter (some b) since seen c0) := by rcases hal with rfl | rfl <;> exact hr
  have hb1 : w1.heap[b]? = some (.map es clock) := by rcases hal with rfl | rfl <;> exact hb
  have hset := MapKept.heap_set (o' := .mapIter (some b) since (seen.push e.born) clock) hr1
  have hb' : (ChangeMaps.setBlock w1 r (.mapIter (some b) since (seen.push e.born) clock)).heap[b]? = some (.map es clock) := (hset.2 b (fun e1 => hne e1.symm)).trans hb1
  have hn : (es.toList.map (·.born)).Nodup := List.pairwise_map.2 (hpw.imp fun h => Nat.ne_of_lt h)
  refine Or.inr ⟨p, L', _, hperm.trans (hL'.cons p), by rw [hk, hv]; exact hrun, ⟨es, clock, since, seen.push e.born, clock, hb', ⟨hh, hpw, hcl, hnd⟩, hset.1, hold, hsk, hsk, hL'2.symm⟩, ?_, ?_, by rw [hk, hv]; exact run_entry_at _ r b since seen es clock e hset.1 hb' hem hn⟩
  ·rcases hal with rfl | rfl <;> exact ⟨rfl, rfl, rfl, by simp [ChangeMaps.setBlock], fun i _ hi => hset.2 i (fun e1 => hi (by rw [e1]))⟩
  ·rcases hal with rfl | rfl <;> simp [ChangeMaps.setBlock]
variable {ops : Array Oper} {rest : List Oper} {o : Oper} {a : Act} {Q : Exit → Act → World → Prop}
omit [DecidableEq κ] in
theorem wpList_rng (hg : o.guard = none) (m : Operand) (t : TypeId) (hop : o.op = Op.range t m) {K e : TypeId} (ht : P.underlying t = some (.map K e)) (hm : a.eval m = .map (some b)) (h : MapIs enc w b M)
  (hK : ∀ w', RngIs enc w' b w.heap.size M M → Below w.heap.size w w' → w'.heap.size = w.heap.size + 1 → wpList P ops Q rest (a.put o.dst (.pointer (some ⟨w.heap.size, 0, none⟩))) w') :
  wpList P ops Q (o :: rest) a w := by
 refine wpList_plain hg fun K' hK' => ?_
 obtain ⟨w', hrun, r1, r2, r3⟩ := rng_start (P := P) (w := w) ht h
 unfold Oper.wp
 simp [execOp, hop, hm, hrun, Result.andThen]
 exact hK' _ _ (hK w' r1 r2 r3)
omit [DecidableEq κ] in
theorem wpList_rng_next (hg : o.guard = none) (it : Operand) (hop : o.op = Op.next it false) (hit : a.eval it = .pointer (some ⟨r, 0, none⟩)) (h : RngIs enc w b r M L)
  (hDone : L = [] → wpList P ops Q rest (a.put o.dst (.tuple #[.bool false])) w)
  (hMore : ∀ (p : κ × Value) (L' : List (κ × Value)) (w' : World), L.Perm (p :: L') → RngIs enc w' b r M L' → w.grownBy w' (some r) → w'.heap.size = w.heap.size → (Instr.entry (.pointer (some ⟨r, 0, none⟩))).run P w' = .ok (.tuple #[enc p.1, p.2]) w' →
   wpList P ops Q rest (a.put o.dst (.tuple #[.bool true, enc p.1, p.2])) w') :
  wpList P ops Q (o :: rest) a w := by
 refine wpList_plain hg fun K' hK' => ?_
 unfold Oper.wp
 rcases rng_next (P := P) h o.type with ⟨h0, hrun⟩ | ⟨p, L', w', hp, hrun, hrg, hgr, hsz, hen⟩
 ·simp [execOp, hop, hit, hrun, Result.andThen]
  exact hK' _ _ (hDone h0)
 ·simp [execOp, hop, hit, hrun, Result.andThen]
  exact hK' _ _ (hMore p L' w' hp hrg hgr hsz hen)
end
end Go.Proofs.YtampniiehgimhaaGreat
/- chart: accounts in order -/
namespace Go.Proofs.YtampniiehgimhaaGreat
open Go.RowKit
instance encAc : Enc Ac where
 size := 4
 cells a := [.string a.name, i64 a.hav, i64 a.set_, i64 a.lim]
 val := Ac.v
 ok _ _ a := a.name.size ≤ maxLen
 len _ := rfl
 one _ v hv := by simp only [List.mem_cons, List.not_mem_nil, or_false] at hv; rcases hv with rfl | rfl | rfl | rfl <;> rfl
 keep h _ _ := h
theorem Ac.ext_ {a b : Ac} (h1 : a.name = b.name) (h2 : a.hav = b.hav) (h3 : a.set_ = b.set_) (h4 : a.lim = b.lim) : a = b := by cases a; cases b; simp_all
instance : DecidableEq Ac := fun a b => if h : a.name = b.name ∧ a.hav = b.hav ∧ a.set_ = b.set_ ∧ a.lim = b.lim then isTrue (Ac.ext_ h.1 h.2.1 h.2.2.1 h.2.2.2) else isFalse (fun e => h (by rw [e]; exact ⟨rfl, rfl, rfl, rfl⟩))
def ltA (a b : Ac) : Bool := bless a.name b.name
theorem keyA : KeyOrd ltA Ac.name where
 strict := ⟨fun a => bless_strict.irr _, fun a b c => bless_strict.trans _ _ _, fun a b c => bless_strict.co _ _ _⟩
 ne a b h e := by unfold ltA at h; rw [e, bless_strict.irr] at h; cases h
 co a b h := by
  cases h1 : ltA a b with
  | true => exact .inl rfl
  | false =>
   cases h2 : ltA b a with
   | true => exact .inr rfl
   | false => exact absurd (bless_tri h1 h2) h
 eq a b h c := by unfold ltA; rw [h]; exact ⟨rfl, rfl⟩
/-- accounts as they are kept -/
def OkA (L : List Ac) : Prop := ∀ a ∈ L, InA a ∧ 0 ≤ a.set_ ∧ nameB a.name = true
/-- chart.Give, Aside, as they turn accounts in order -/
def turnL (D : Ac → Ac × Int) (L : List Ac) (k : ByteArray) (x : Int) : Int × List Ac := match getK Ac.name L k with
 | none => (6, L)
 | some a => if (D a).2 ≠ 0 then ((D a).2, L) else if 0 < x ∧ freeA a x = false then (9, L) else if (D a).1.set_ < 0 then (13, L) else (0, setK Ac.name L (D a).1)
def openL (L : List Ac) (k : ByteArray) (lim : Int) : Int × List Ac :=
 if nameB k = false ∨ lim < 0 then (1, L) else if (getK Ac.name L k).isSome = true then (7, L) else if L.length = 12 then (5, L) else (0, insB ltA ⟨k, 0, 0, lim⟩ L)
def getLR (L : List Ac) (k : ByteArray) : Ac × Int := match getK Ac.name L k with
 | some a => (a, 0)
 | none => (ac0, 6)
abbrev RkA (M : List (ByteArray × Ac)) (L : List Ac) : Prop := RK ltA Ac.name Prod.snd M L
theorem RkA.get_ {M : List (ByteArray × Ac)} {L : List Ac} (h : RkA M L) (k : ByteArray) : getM M k = getK Ac.name L k := by
 have := RK.get keyA h k
 simpa using this
theorem RkA.getC_ {M : List (ByteArray × Ac)} {L : List Ac} (h : RkA M L) (k : ByteArray) : getC M k = getLR L k := by
 unfold getC getLR
 rw [h.get_ k]
 cases getK Ac.name L k <;> rfl
theorem RkA.turn {M : List (ByteArray × Ac)} {L : List Ac} (h : RkA M L) (D : Ac → Ac × Int) (hD : ∀ a, (D a).1.name = a.name) (k : ByteArray) (x : Int) : (turnC D M k x).1 = (turnL D L k x).1 ∧ RkA (turnC D M k x).2 (turnL D L k x).2 := by
 unfold turnC turnL
 rw [h.get_ k]
 cases hg : getK Ac.name L k with
 | none => exact ⟨rfl, h⟩
 | some a =>
  have hk := (getK_mem hg).2
  dsimp only
  by_cases h1 : (D a).2 ≠ 0
  ·rw [if_pos h1, if_pos h1]; exact ⟨rfl, h⟩
  ·rw [if_neg h1, if_neg h1]
   by_cases h2 : 0 < x ∧ freeA a x = false
   ·rw [if_pos h2, if_pos h2]; exact ⟨rfl, h⟩
   ·rw [if_neg h2, if_neg h2]
    by_cases h3 : (D a).1.set_ < 0
    ·rw [if_pos h3, if_pos h3]; exact ⟨rfl, h⟩
    ·rw [if_neg h3, if_neg h3]
     exact ⟨rfl, RK.put keyA h (k := k) (v := (D a).1) (by rw [← hk]; exact hD a) (by rw [hg]; rfl)⟩
theorem RkA.open_ {M : List (ByteArray × Ac)} {L : List Ac} (h : RkA M L) (k : ByteArray) (lim : Int) : (openC M k lim).1 = (openL L k lim).1 ∧ RkA (openC M k lim).2 (openL L k lim).2 := by
 unfold openC openL
 rw [h.get_ k, RK.len h]
 by_cases h1 : nameB k = false ∨ lim < 0
 ·rw [if_pos h1, if_pos h1]; exact ⟨rfl, h⟩
 ·rw [if_neg h1, if_neg h1]
  cases hg : getK Ac.name L k with
  | some a => exact ⟨rfl, h⟩
  | none =>
   simp only [Option.isSome_none, Bool.false_eq_true, if_false]
   by_cases h3 : L.length = 12
   ·rw [if_pos h3, if_pos h3]; exact ⟨rfl, h⟩
   ·rw [if_neg h3, if_neg h3]
    exact ⟨rfl, RK.add keyA h (k := k) (v := ⟨k, 0, 0, lim⟩) rfl hg⟩
/-- block g holds a chart, whose map lies in block b: the accounts L, in order -/
def ChA (w : World) (g b : Nat) (L : List Ac) : Prop := ∃ M, ChIs w g b M ∧ RkA M L
theorem ChA.kept {w w' : World} {g b : Nat} {L : List Ac} {S : Nat → Prop} (h : ChA w g b L) (hk : Gr w w' S) (h1 : ¬ S g) (h2 : ¬ S b) : ChA w' g b L := by
 obtain ⟨M, h, hr⟩ := h
 exact ⟨M, ⟨h.ne, (hk.block g h.lt.1 h1).trans h.cell, by
  have hlt := h.map.lt
  obtain ⟨es, clock, hb, r⟩ := h.map
  exact ⟨es, clock, (hk.block b hlt h2).trans hb, r⟩⟩, hr⟩
theorem ChA.later {w w' : World} {g b : Nat} {L : List Ac} (h : ChA w g b L) (hb : Below w.heap.size w w') : ChA w' g b L := h.kept (Gr.of_below hb (fun _ => False)) id id
theorem ChA.lt {w : World} {g b : Nat} {L : List Ac} (h : ChA w g b L) : g < w.heap.size ∧ b < w.heap.size ∧ b ≠ g := by
 obtain ⟨M, h, _⟩ := h
 exact ⟨h.lt.1, h.lt.2, h.ne⟩
theorem ChA.srt {w : World} {g b : Nat} {L : List Ac} (h : ChA w g b L) : SrtL ltA L := by
 obtain ⟨M, _, h⟩ := h
 exact h.srt
theorem OkA.inM {M : List (ByteArray × Ac)} {L : List Ac} (h : OkA L) (hr : RkA M L) : ∀ y ∈ M, InA y.2 := fun y hy => (h y.2 (hr.perm.mem_iff.1 (List.mem_map.2 ⟨y, hy, rfl⟩))).1
theorem chnewA_c (w : World) : Calls Tryz.prog 57 #[] w fun e w' => e = .returned (.pointer (some ⟨w.heap.size + 1, 0, none⟩)) ∧ ChA w' (w.heap.size + 1) w.heap.size [] ∧ Below w.heap.size w w' :=
 (chnew_c w).mono fun _ _ ⟨h1, h2, h3⟩ => ⟨h1, ⟨[], h2, RK.nil⟩, h3⟩
theorem getA_c (g b : Nat) (L : List Ac) (k : ByteArray) (w : World) (h : ChA w g b L) :
  Calls Tryz.prog 187 #[.pointer (some ⟨g, 0, none⟩), .string k] w fun e w' => e = .returned (.tuple #[(getLR L k).1.v, i64 (getLR L k).2]) ∧ Below w.heap.size w w' := by
 obtain ⟨M, h, hr⟩ := h
 have := get_c g b M k w h
 rw [hr.getC_ k] at this
 exact this
theorem giveA_c (g b : Nat) (L : List Ac) (k : ByteArray) (x : Int) (w : World) (h : ChA w g b L) (hL : OkA L) (hx : R64 x) :
  Calls Tryz.prog 231 #[.pointer (some ⟨g, 0, none⟩), .string k, i64 x] w fun e w' => e = .returned (i64 (turnL (givD x) L k x).1) ∧ ChA w' g b (turnL (givD x) L k x).2 ∧ w.grownBy w' (some b) := by
 obtain ⟨M, h, hr⟩ := h
 obtain ⟨e1, e2⟩ := hr.turn (givD x) (fun _ => rfl) k x
 exact (give_c g b M k x w h (hL.inM hr) hx).mono fun _ _ ⟨h1, h2, h3⟩ => ⟨by rw [← e1]; exact h1, ⟨_, h2, e2⟩, h3⟩
theorem asideA_c (g b : Nat) (L : List Ac) (k : ByteArray) (x : Int) (w : World) (h : ChA w g b L) (hL : OkA L) (hx : R64 x) :
  Calls Tryz.prog 191 #[.pointer (some ⟨g, 0, none⟩), .string k, i64 x] w fun e w' => e = .returned (i64 (turnL (asiD x) L k x).1) ∧ ChA w' g b (turnL (asiD x) L k x).2 ∧ w.grownBy w' (some b) := by
 obtain ⟨M, h, hr⟩ := h
 obtain ⟨e1, e2⟩ := hr.turn (asiD x) (fun _ => rfl) k x
 exact (aside_c g b M k x w h (hL.inM hr) hx).mono fun _ _ ⟨h1, h2, h3⟩ => ⟨by rw [← e1]; exact h1, ⟨_, h2, e2⟩, h3⟩
theorem openA_c (g b : Nat) (L : List Ac) (k : ByteArray) (lim : Int) (w : World) (h : ChA w g b L) :
  Calls Tryz.prog 163 #[.pointer (some ⟨g, 0, none⟩), .string k, i64 lim] w fun e w' => e = .returned (i64 (openL L k lim).1) ∧ ChA w' g b (openL L k lim).2 ∧ w.grownBy w' (some b) := by
 obtain ⟨M, h, hr⟩ := h
 obtain ⟨e1, e2⟩ := hr.open_ k lim
 exact (open_c g b M k lim w h).mono fun _ _ ⟨h1, h2, h3⟩ => ⟨by rw [← e1]; exact h1, ⟨_, h2, e2⟩, h3⟩
theorem R64_0 : R64 0 := ⟨by decide, by decide⟩
theorem turnL_ok {D : Ac → Ac × Int} (hD : ∀ a, InA a → 0 ≤ a.set_ → (D a).1.name = a.name ∧ InA (D a).1) {L : List Ac} (h : OkA L) (k : ByteArray) (x : Int) : OkA (turnL D L k x).2 := by
 unfold turnL
 cases hg : getK Ac.name L k with
 | none => exact h
 | some a =>
  dsimp only
  by_cases h1 : (D a).2 ≠ 0
  ·rw [if_pos h1]; exact h
  ·rw [if_neg h1]
   by_cases h2 : 0 < x ∧ freeA a x = false
   ·rw [if_pos h2]; exact h
   ·rw [if_neg h2]
    by_cases h3 : (D a).1.set_ < 0
    ·rw [if_pos h3]; exact h
    ·rw [if_neg h3]
     have ha := h a (getK_mem hg).1
     intro y hy
     rcases setK_mem hy with rfl | hy
     ·obtain ⟨e1, e2⟩ := hD a ha.1 ha.2.1
      exact ⟨e2, by omega, by rw [e1]; exact ha.2.2⟩
     ·exact h y hy.1
theorem givD_ok (x : Int) : ∀ a, InA a → 0 ≤ a.set_ → (givD x a).1.name = a.name ∧ InA (givD x a).1 := fun _ h _ => ⟨rfl, sumR_R64 _, h.2⟩
theorem asiD_ok (x : Int) : ∀ a, InA a → 0 ≤ a.set_ → (asiD x a).1.name = a.name ∧ InA (asiD x a).1 := fun _ h _ => ⟨rfl, h.1, sumR_R64 _, h.2.2⟩
theorem openL_ok {L : List Ac} (h : OkA L) (k : ByteArray) {lim : Int} (hl : R64 lim) : OkA (openL L k lim).2 := by
 unfold openL
 by_cases h1 : nameB k = false ∨ lim < 0
 ·rw [if_pos h1]; exact h
 ·rw [if_neg h1]
  by_cases h2 : (getK Ac.name L k).isSome = true
  ·rw [if_pos h2]; exact h
  ·rw [if_neg h2]
   by_cases h3 : L.length = 12
   ·rw [if_pos h3]; exact h
   ·rw [if_neg h3]
    intro y hy
    rcases List.mem_cons.1 ((insB_perm _ L).mem_iff.1 hy) with rfl | hy
    ·exact ⟨⟨R64_0, R64_0, by have : ¬ lim < 0 := fun e => h1 (.inr e); show 0 ≤ lim; omega, hl.2⟩, Int.le_refl _, by
      cases hn : nameB k with
      | true => rfl
      | false => exact absurd (.inl hn) h1⟩
    ·exact h y hy
end Go.Proofs.YtampniiehgimhaaGreat
