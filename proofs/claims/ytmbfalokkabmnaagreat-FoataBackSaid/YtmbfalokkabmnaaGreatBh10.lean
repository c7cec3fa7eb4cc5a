/- Texts of this claim, laid together: BytesO, AppendG, RdrB, ReadP. -/
import Derived.Test.YtmbfalokkabmnaaGreatRows
import Derived.Test.YtmbfalokkabmnaaGreatBh9
import Derived.Test.YtmbfalokkabmnaaGreatBh6
import Derived.Deep.RegionHeld3
import Derived.WalkKit
import Derived.WalkSpells
import Derived.WalkLawsBesides
import Derived.Deep.QuietTactic
import Derived.BigQuiet
import Derived.Laws.StructEq
import Derived.Deep.DeepFit
import Derived.StillTailTactics
import Derived.Test.YtmbfalokkabmnaaGreatBh1
import Derived.Laws.CopyRow
import Derived.Laws.MakeOwn
import Derived.Laws.IdiomStrings
import Derived.Laws.IdiomCopy

/- order.Bytes -/
namespace Go.Proofs.YtmbfalokkabmnaaGreat
open Go.RowKit
def legBs (l : Leg) : List UInt8 := textB l.acct ++ numB l.sum
def headBs (x : Od) : List UInt8 := numB x.client ++ numB x.seq ++ numB x.kind ++ textB x.acct ++ textB x.peer ++ numB x.sum ++ numB x.legs.length
/-- an order's bytes -/
def bytesB (x : Od) : List UInt8 := (headBs x ++ x.legs.flatMap legBs) ++ numB x.period ++ numB x.hold ++ textB x.note
theorem numB_le {n : Int} (h : R64 n) : (numB n).length ≤ 10 := uvarint_le (Lib.zigzag_lt h.1 h.2)
theorem textB_le {s : ByteArray} (h : s.size ≤ 100) : (textB s).length ≤ 110 := by
  unfold textB
  rw [List.length_append]
  have := numB_le (n := s.size) ⟨by omega, by omega⟩
  simp; omega
/-- what a right order's parts are like -/
structure Fine (x : Od) : Prop where
  acct : x.acct.size ≤ 100
  peer : x.peer.size ≤ 100
  note : x.note.size ≤ 100
  legs : x.legs.length ≤ 10
  each : ∀ l ∈ x.legs, l.acct.size ≤ 100
theorem nameB_size {s : ByteArray} (h : nameB s = true) : s.size ≤ 8 := by
  unfold nameB at h
  simp only [Bool.and_eq_true, decide_eq_true_eq] at h
  exact h.2.2
theorem legsB_fine {l : List Leg} (h : legsB l = true) : l.length ≤ 6 ∧ ∀ y ∈ l, nameB y.acct = true := by
  unfold legsB at h
  simp only [Bool.and_eq_true, decide_eq_true_eq, List.all_eq_true] at h
  exact ⟨h.2.2, fun y hy => by have := h.1.2 y hy; unfold legB at this; simp only [Bool.and_eq_true] at this; exact this.1⟩
theorem fine_of {x : Od} (h : rightB x = true) : Fine x := by
  unfold rightB at h
  simp only [Bool.and_eq_true] at h
  obtain ⟨hk, _, hs, hf⟩ := h
  by_cases h1 : x.kind = 1
  · have e1 : bareO x = bare1 x := by unfold bareO; rw [if_pos h1]
    have e2 : fitsO x = fits1 x := by unfold fitsO; rw [if_pos h1]
    rw [e1] at hs
    rw [e2] at hf
    obtain ⟨ea, ep, en, -, -, -, -, -, el⟩ := of_decide_eq_true hs
    simp only [fits1, Bool.and_eq_true, decide_eq_true_eq] at hf
    exact ⟨Nat.le_trans (nameB_size (hf.1)) (by decide), by rw [show x.peer = ⟨#[]⟩ from ep]; decide, by rw [show x.note = ⟨#[]⟩ from en]; decide, by rw [show x.legs = [] from el]; decide, fun l hl => by rw [show x.legs = [] from el] at hl; simp at hl⟩
  by_cases h2 : x.kind = 2
  · have e1 : bareO x = bare2 x := by unfold bareO; rw [if_neg h1, if_pos h2]
    have e2 : fitsO x = fits2 x := by unfold fitsO; rw [if_neg h1, if_pos h2]
    rw [e1] at hs
    rw [e2] at hf
    obtain ⟨ea, ep, en, -, -, -, -, -, el⟩ := of_decide_eq_true hs
    simp only [fits2, Bool.and_eq_true, decide_eq_true_eq] at hf
    exact ⟨by rw [show x.acct = ⟨#[]⟩ from ea]; decide, by rw [show x.peer = ⟨#[]⟩ from ep]; decide, by have := hf.2; omega, Nat.le_trans (legsB_fine hf.1.1).1 (by decide), fun l hl => Nat.le_trans (nameB_size ((legsB_fine hf.1.1).2 l hl)) (by decide)⟩
  by_cases h3 : x.kind = 3
  · have e1 : bareO x = bare3 x := by unfold bareO; rw [if_neg h1, if_neg h2, if_pos h3]
    have e2 : fitsO x = fits3 x := by unfold fitsO; rw [if_neg h1, if_neg h2, if_pos h3]
    rw [e1] at hs
    rw [e2] at hf
    obtain ⟨ea, ep, en, -, -, -, -, -, el⟩ := of_decide_eq_true hs
    simp only [fits3, Bool.and_eq_true, decide_eq_true_eq] at hf
    exact ⟨Nat.le_trans (nameB_size (hf.1)) (by decide), by rw [show x.peer = ⟨#[]⟩ from ep]; decide, by rw [show x.note = ⟨#[]⟩ from en]; decide, by rw [show x.legs = [] from el]; decide, fun l hl => by rw [show x.legs = [] from el] at hl; simp at hl⟩
  by_cases h4 : x.kind = 4
  · have e1 : bareO x = bare4 x := by unfold bareO; rw [if_neg h1, if_neg h2, if_neg h3, if_pos h4]
    have e2 : fitsO x = fits4 x := by unfold fitsO; rw [if_neg h1, if_neg h2, if_neg h3, if_pos h4]
    rw [e1] at hs
    rw [e2] at hf
    obtain ⟨ea, ep, en, -, -, -, -, -, el⟩ := of_decide_eq_true hs
    simp only [fits4, Bool.and_eq_true, decide_eq_true_eq] at hf
    exact ⟨Nat.le_trans (nameB_size (hf.1.1.1.1.1)) (by decide), Nat.le_trans (nameB_size (hf.1.1.1.1.2)) (by decide), by rw [show x.note = ⟨#[]⟩ from en]; decide, by rw [show x.legs = [] from el]; decide, fun l hl => by rw [show x.legs = [] from el] at hl; simp at hl⟩
  by_cases h5 : x.kind = 5
  · have e1 : bareO x = bare5 x := by unfold bareO; rw [if_neg h1, if_neg h2, if_neg h3, if_neg h4, if_pos h5]
    have e2 : fitsO x = fits5 x := by unfold fitsO; rw [if_neg h1, if_neg h2, if_neg h3, if_neg h4, if_pos h5]
    rw [e1] at hs
    rw [e2] at hf
    obtain ⟨ea, ep, en, -, -, -, -, -, el⟩ := of_decide_eq_true hs
    simp only [fits5, Bool.and_eq_true] at hf
    exact ⟨Nat.le_trans (nameB_size (hf.1)) (by decide), by rw [show x.peer = ⟨#[]⟩ from ep]; decide, by rw [show x.note = ⟨#[]⟩ from en]; decide, by rw [show x.legs = [] from el]; decide, fun l hl => by rw [show x.legs = [] from el] at hl; simp at hl⟩
  by_cases h6 : x.kind = 6
  · have e1 : bareO x = bare6 x := by unfold bareO; rw [if_neg h1, if_neg h2, if_neg h3, if_neg h4, if_neg h5, if_pos h6]
    have e2 : fitsO x = fits6 x := by unfold fitsO; rw [if_neg h1, if_neg h2, if_neg h3, if_neg h4, if_neg h5, if_pos h6]
    rw [e1] at hs
    rw [e2] at hf
    obtain ⟨ea, ep, en, -, -, -, -, -, el⟩ := of_decide_eq_true hs
    exact ⟨by rw [show x.acct = ⟨#[]⟩ from ea]; decide, by rw [show x.peer = ⟨#[]⟩ from ep]; decide, by rw [show x.note = ⟨#[]⟩ from en]; decide, by rw [show x.legs = [] from el]; decide, fun l hl => by rw [show x.legs = [] from el] at hl; simp at hl⟩
  by_cases h7 : x.kind = 7
  · have e1 : bareO x = bare7 x := by unfold bareO; rw [if_neg h1, if_neg h2, if_neg h3, if_neg h4, if_neg h5, if_neg h6]
    have e2 : fitsO x = nameB x.acct := by unfold fitsO; rw [if_neg h1, if_neg h2, if_neg h3, if_neg h4, if_neg h5, if_neg h6]
    rw [e1] at hs
    rw [e2] at hf
    obtain ⟨ea, ep, en, -, -, -, -, -, el⟩ := of_decide_eq_true hs
    exact ⟨Nat.le_trans (nameB_size (hf)) (by decide), by rw [show x.peer = ⟨#[]⟩ from ep]; decide, by rw [show x.note = ⟨#[]⟩ from en]; decide, by rw [show x.legs = [] from el]; decide, fun l hl => by rw [show x.legs = [] from el] at hl; simp at hl⟩
  have := of_decide_eq_true hk
  omega
theorem flat_step {l : List Leg} {k : Nat} (hk : k < l.length) : (l.take (k + 1)).flatMap legBs = (l.take k).flatMap legBs ++ legBs l[k] := by
  rw [List.take_succ_eq_append_getElem hk, List.flatMap_append]; simp
theorem legs_le {x : Od} (he : ∀ l ∈ x.legs, l.acct.size ≤ 100) (k : Nat) (hr : ∀ l ∈ x.legs, R64 l.sum) (hn : x.legs.length ≤ 10) : ((x.legs.take k).flatMap legBs).length ≤ 1200 := by
  have h : ∀ l : List Leg, (∀ y ∈ l, (legBs y).length ≤ 120) → (l.flatMap legBs).length ≤ l.length * 120 := by
    intro l hl
    induction l with
    | nil => simp
    | cons y r ih =>
      rw [List.flatMap_cons, List.length_append, List.length_cons]
      have h1 := hl y (by simp)
      have h2 := ih fun z hz => hl z (by simp [hz])
      omega
  have h1 := h (x.legs.take k) fun y hy => by
    have hm := List.mem_of_mem_take hy
    unfold legBs
    rw [List.length_append]
    have := textB_le (he y hm)
    have := numB_le (hr y hm)
    omega
  have h2 := List.length_take_le k x.legs
  have h3 : (x.legs.take k).length ≤ 10 := by rw [List.length_take]; omega
  omega
theorem rightB_la (x : Od) (a : Option Addr) (c : Nat) : rightB { x with la := a, lc := c } = rightB x := by
  have key : ∀ B B' : Od, B.core = B'.core → sameB { x with la := a, lc := c } (dress { x with la := a, lc := c } B) = sameB x (dress x B') := fun B B' e => by
    rw [Bool.eq_iff_iff, sameB_core, sameB_core]
    have e2 : (dress { x with la := a, lc := c } B).core = (dress x B').core := by
      have := congrArg (fun z : Od => ({ z with client := x.client, seq := x.seq, kind := x.kind } : Od)) e
      exact this
    rw [e2]
    exact Iff.rfl
  unfold rightB
  have e : (bareO { x with la := a, lc := c }).core = (bareO x).core := by
    unfold bareO
    by_cases h1 : x.kind = 1
    · rw [if_pos h1, if_pos h1] <;> rfl
    rw [if_neg h1, if_neg h1]
    by_cases h2 : x.kind = 2
    · rw [if_pos h2, if_pos h2] <;> rfl
    rw [if_neg h2, if_neg h2]
  rw [key _ _ e] <;> rfl
end Go.Proofs.YtmbfalokkabmnaaGreat

/- append of a slice behind a guard that is met -/
namespace Go.Proofs.YtmbfalokkabmnaaGreat
open Go.RowKit
section
variable {α : Type} [Enc α] {w : World} {base : Nat} {e : TypeId} {v : Value} {l : List α} {P : Program}
theorem wpList_append_guarded {ops : Array Oper} {rest : List Oper} {o : Oper} {a : Act} {Q : Exit → Act → World → Prop} (hgd : Region.wanted o (yielded ops a.tmps) = true) (d : Option Nat) (s x : Operand) (t : TypeId)
    (ho : o.op = .call { callee := .builtin .append, args := #[s, x], argTypes := #[t, t] }) (hd : o.dst = d) (z : Value) (bytes : Nat) (ht : P.underlying t = some (.slice e)) (hinf : (P.info? e).map (fun i => (i.zero, i.size, i.bytes)) = some (some z, Enc.size α, bytes)) (hzs : z.cells.size = Enc.size α) (hsz : 0 < Enc.size α) (hby : bytes ≤ 1000)
    (hs : a.eval s = v) (h : Own w base e v l) (A : Option Addr) (n c : Nat) (ys : List α) (hx : a.eval x = .slice A n c) (hn : n = ys.length) (hsl : SlS w (Oth w v) A c ys) (hlen : l.length + ys.length ≤ 4294967296) (hbase : base ≤ w.heap.size)
    (hK : ∀ v' w', Own w' base e v' (l ++ ys) → w.grownBy w' v.ownBlock → (v'.ownBlock = v.ownBlock ∨ v'.ownBlock = some w.heap.size) → wpList P ops Q rest (a.put d v') w') : wpList P ops Q (o :: rest) a w := by
  subst hd hn
  obtain ⟨v', w', hrun, h2, h3, h4⟩ := run_append_slice (P := P) t o.type z bytes ht hinf hzs hsz hby h A c ys hsl hlen hbase
  refine wpList_step fun K hk => ?_
  rw [if_pos hgd]
  unfold Oper.wp execOp
  simp only [ho, resolve, invoke, builtin, Sem.run_bind, Sem.run_pure, Result.andThen_ok, List.map_toArray, List.map_cons, List.map_nil, hs, hx, hrun]
  exact hk _ _ (hK v' w' h2 h3 h4)
/-- the same as one operation of a drawn region -/
theorem oper_append {o : Oper} {a : Act} {K : Act → World → Prop} {Q : Exit → Act → World → Prop} (s x : Operand) (t : TypeId)
    (ho : o.op = .call { callee := .builtin .append, args := #[s, x], argTypes := #[t, t] }) (z : Value) (bytes : Nat) (ht : P.underlying t = some (.slice e)) (hinf : (P.info? e).map (fun i => (i.zero, i.size, i.bytes)) = some (some z, Enc.size α, bytes)) (hzs : z.cells.size = Enc.size α) (hsz : 0 < Enc.size α) (hby : bytes ≤ 1000)
    (hs : a.eval s = v) (h : Own w base e v l) (A : Option Addr) (n c : Nat) (ys : List α) (hx : a.eval x = .slice A n c) (hn : n = ys.length) (hsl : SlS w (Oth w v) A c ys) (hlen : l.length + ys.length ≤ 4294967296) (hbase : base ≤ w.heap.size)
    (hK : ∀ v' w', Own w' base e v' (l ++ ys) → w.grownBy w' v.ownBlock → (v'.ownBlock = v.ownBlock ∨ v'.ownBlock = some w.heap.size) → K (a.put o.dst v') w') : Oper.wp P o a w K Q := by
  subst hn
  obtain ⟨v', w', hrun, h2, h3, h4⟩ := run_append_slice (P := P) t o.type z bytes ht hinf hzs hsz hby h A c ys hsl hlen hbase
  unfold Oper.wp execOp
  simp only [ho, resolve, invoke, builtin, Sem.run_bind, Sem.run_pure, Result.andThen_ok, List.map_toArray, List.map_cons, List.map_nil, hs, hx, hrun]
  exact hK v' w' h2 h3 h4
theorem oper_append_one {o : Oper} {a : Act} {K : Act → World → Prop} {Q : Exit → Act → World → Prop} (s x : Operand) (t : TypeId)
    (ho : o.op = .call { callee := .builtin .append, args := #[s, x], argTypes := #[t, t] }) (z : Value) (bytes : Nat) (ht : P.underlying t = some (.slice e)) (hinf : (P.info? e).map (fun i => (i.zero, i.size, i.bytes)) = some (some z, Enc.size α, bytes)) (hzs : z.cells.size = Enc.size α) (hsz : 0 < Enc.size α) (hby : bytes ≤ 1000)
    (hs : a.eval s = v) (h : Own w base e v l) (g : Nat) (y : α) (hx : a.eval x = .slice (some ⟨g, 0, none⟩) 1 1) (cs : Array Value) (te : TypeId) (hg : w.heap[g]? = some (.cells cs te (0, 0))) (hcs : cs.toList = Enc.cells y) (hne : some g ≠ v.ownBlock) (hy : Enc.ok w (Oth w v) y)
    (hlen : l.length + 1 ≤ 4294967296) (hbase : base ≤ w.heap.size)
    (hK : ∀ v' w', Own w' base e v' (l ++ [y]) → w.grownBy w' v.ownBlock → (v'.ownBlock = v.ownBlock ∨ v'.ownBlock = some w.heap.size) → K (a.put o.dst v') w') : Oper.wp P o a w K Q := by
  refine oper_append s x t ho z bytes ht hinf hzs hsz hby hs h (some ⟨g, 0, none⟩) 1 1 [y] hx rfl ⟨Nat.le_refl _, by simp [maxLen], fun _ => ⟨g, 0, rfl, ⟨(Array.getElem?_eq_some_iff.1 hg).1, hne⟩, fun j u hu => ?_⟩, fun x hx => ?_⟩ hlen hbase hK
  · rw [cell_of_row w g (0 + j) cs te (0, 0) hg, Nat.zero_add]
    simp only [List.flatMap_cons, List.flatMap_nil, List.append_nil, ← hcs] at hu
    simpa using hu
  · simp only [List.mem_singleton] at hx
    subst hx; exact hy
end
end Go.Proofs.YtmbfalokkabmnaaGreat

/- pack.Reader: Range, Text, Done, New; order.small, name; pack.Reader: Text, New; order.name -/
namespace Go.Proofs.YtmbfalokkabmnaaGreat
open Go.RowKit
theorem conv_bytes {w : World} {S : Nat → Prop} {c : Nat} {A : Option Addr} {l : List UInt8} (h : SlS w S A c l) : (convert 25 9 (.slice A l.length c)).run Tryz.prog w = .ok (.string ⟨l.toArray⟩) w := by
  by_cases hl : l = []
  · subst hl
    rw [run_convert_bytes_string w _ _ _ _ _ c Tryz.underlying25 Tryz.underlying5 Tryz.underlying9]
    cases A <;> simp [Conv.bytesToString, loadCells]
    all_goals rfl
  · obtain ⟨b, o, rfl, -, hc⟩ := h.2.2.1 (List.length_pos_iff.2 hl)
    refine run_convert_bytes_back w _ _ _ ⟨b, o, none⟩ c l Tryz.underlying25 Tryz.underlying5 Tryz.underlying9 fun j hj => ?_
    have := hc j (.int .u8 l[j].toNat) (by rw [flat_byte, List.getElem?_eq_getElem hj]; rfl)
    rw [show (⟨b, o, none⟩ : Addr).add j = ⟨b, o + j, none⟩ from by unfold Addr.add; split <;> simp_all]
    exact this
theorem uvR_len : ∀ (l : List UInt8) (i acc : Nat) {m : Nat} {t : List UInt8}, uvR i acc l = .ok (m, t) → t.length < l.length
  | [], _, _, _, _, h => by simp [uvR] at h
  | b :: r, i, acc, m, t, h => by
    rw [uvR] at h
    split at h
    · simp at h
    · split at h
      · simp at h
      · split at h
        · simp only [Except.ok.injEq, Prod.mk.injEq] at h
          rw [← h.2]; simp
        · have := uvR_len r _ _ h
          simp; omega
theorem uvR_err : ∀ (l : List UInt8) (i acc : Nat) {e : Int}, uvR i acc l = .error e → e = 3 ∨ e = 4
  | [], _, _, _, h => by simp [uvR] at h; exact .inr h.symm
  | b :: r, i, acc, e, h => by
    rw [uvR] at h
    split at h
    · simp only [Except.error.injEq] at h
      split at h <;> omega
    · split at h
      · simp only [Except.error.injEq] at h; omega
      · split at h
        · simp at h
        · exact uvR_err r _ _ h
/-- what is left is no more than there was; where no error is told there is none -/
theorem numRd_left (err : Int) (l : List UInt8) : (numRd err l).2.2.length ≤ l.length ∧ (numRd err l).2.1 = (numRd err l).1.2 := by
  unfold numRd
  split
  · exact ⟨Nat.le_refl _, rfl⟩
  · split
    · exact ⟨by simp, rfl⟩
    · rename_i m t h
      exact ⟨Nat.le_of_lt (uvR_len l 0 0 h), rfl⟩
/-- the next number, if it is one of some -/
def rangeRd (lo hi err : Int) (l : List UInt8) : (Int × Int) × (Int × List UInt8) :=
  if (numRd err l).1.2 ≠ 0 then ((0, (numRd err l).1.2), (numRd err l).2)
  else if (numRd err l).1.1 < lo ∨ hi < (numRd err l).1.1 then ((0, 3), (3, []))
  else (((numRd err l).1.1, 0), (numRd err l).2)
theorem rangeRd_left (lo hi err : Int) (l : List UInt8) : (rangeRd lo hi err l).2.2.length ≤ l.length ∧ (rangeRd lo hi err l).2.1 = (rangeRd lo hi err l).1.2 := by
  have h := numRd_left err l
  unfold rangeRd
  split
  · exact h
  · rename_i h0
    split
    · exact ⟨by simp, rfl⟩
    · exact ⟨h.1, by rw [h.2]; simpa using h0⟩
theorem rangeRd_in {lo hi err : Int} {l : List UInt8} (h : (rangeRd lo hi err l).1.2 = 0) : lo ≤ (rangeRd lo hi err l).1.1 ∧ (rangeRd lo hi err l).1.1 ≤ hi := by
  unfold rangeRd at h ⊢
  split at h
  · rename_i h0; exact absurd h h0
  · rename_i h0
    rw [if_neg h0]
    split at h
    · simp at h
    · rename_i h1
      rw [if_neg h1]
      exact ⟨by simp only; omega, by simp only; omega⟩
set_option maxRecDepth 100000 in
set_option maxHeartbeats 2000000 in
theorem range_c (g r : Nat) (lo hi err : Int) (l : List UInt8) (w : World) (h : Rd w g r err l) (hr : r < w.heap.size) (hn : l.length ≤ 65536) :
    Calls Tryz.prog 82 #[.pointer (some ⟨g, 0, none⟩), i64 lo, i64 hi] w fun e w' => e = .returned (.tuple #[i64 (rangeRd lo hi err l).1.1, i64 (rangeRd lo hi err l).1.2]) ∧ Rd w' g r (rangeRd lo hi err l).2.1 (rangeRd lo hi err l).2.2 ∧ w.grownBy w' (some g) := by
  have hN := Lib.hid (rnum_c g r err l w h hr hn)
  have HR : Hid (∀ q, q = numRd err l → rangeRd lo hi err l = if q.1.2 ≠ 0 then ((0, q.1.2), q.2) else if q.1.1 < lo ∨ hi < q.1.1 then ((0, 3), (3, [])) else ((q.1.1, 0), q.2)) := Lib.hid fun q hq => by subst hq; rfl
  have hN2 := HR.out _ rfl
  have HN2 := Lib.hid hN2
  clear HR hN2
  generalize rangeRd lo hi err l = Z at HN2 ⊢
  generalize numRd err l = q at hN HN2
  obtain ⟨⟨n, e⟩, x, t⟩ := q
  go_enter Tryz.func82, Tryz.ntmps82
  go_wp2_with fail
  refine hN.out.mono ?_
  rintro e1 w1 ⟨rfl, hR, hG⟩
  have HR := Lib.hid hR
  have HG := Lib.hid hG
  clear hR hG
  by_cases he : e = 0
  · subst he
    by_cases h1 : n < lo
    · have hZ := Lib.hid (show Z = ((0, 3), (3, [])) by rw [HN2.out, if_neg (by simp), if_pos (.inl h1)])
      have g1 : decide (n < lo) = true := decide_eq_true h1
      clear h1 HN2 hN
      go_wp2_with fail
      refine (rfail_c g r x 3 t _ HR.out).mono ?_
      rintro e w3 ⟨rfl, hR, hG⟩
      go_wp2
      go_ret2
      rw [hZ.out]
      exact ⟨rfl, hR, grown_trans HG.out hG⟩
    · by_cases h2 : hi < n
      · have hZ := Lib.hid (show Z = ((0, 3), (3, [])) by rw [HN2.out, if_neg (by simp), if_pos (.inr h2)])
        have g1 : decide (n < lo) = false := decide_eq_false h1
        have g2 : decide (hi < n) = true := decide_eq_true h2
        clear h1 h2 HN2 hN
        go_wp2_with fail
        refine (rfail_c g r x 3 t _ HR.out).mono ?_
        rintro e w3 ⟨rfl, hR, hG⟩
        go_wp2
        go_ret2
        rw [hZ.out]
        exact ⟨rfl, hR, grown_trans HG.out hG⟩
      · have hZ := Lib.hid (show Z = ((n, 0), (x, t)) by rw [HN2.out, if_neg (by simp), if_neg (by omega)])
        have g1 : decide (n < lo) = false := decide_eq_false h1
        have g2 : decide (hi < n) = false := decide_eq_false h2
        clear h1 h2 HN2 hN
        go_wp2
        go_ret2
        rw [hZ.out]
        exact ⟨rfl, HR.out, HG.out⟩
  · have hZ := Lib.hid (show Z = ((0, e), (x, t)) by rw [HN2.out, if_pos he])
    have g1 : (e != 0) = true := by simpa using he
    clear he HN2 hN
    go_wp2
    go_ret2
    rw [hZ.out]
    exact ⟨rfl, HR.out, HG.out⟩
set_option maxRecDepth 100000 in
set_option maxHeartbeats 1000000 in
theorem small_c (g r : Nat) (most err : Int) (l : List UInt8) (w : World) (h : Rd w g r err l) (hr : r < w.heap.size) (hn : l.length ≤ 65536) :
    Calls Tryz.prog 116 #[.pointer (some ⟨g, 0, none⟩), i64 most] w fun e w' => e = .returned (i64 (rangeRd 0 most err l).1.1) ∧ Rd w' g r (rangeRd 0 most err l).2.1 (rangeRd 0 most err l).2.2 ∧ w.grownBy w' (some g) := by
  have hN := Lib.hid (range_c g r 0 most err l w h hr hn)
  generalize rangeRd 0 most err l = q at hN ⊢
  obtain ⟨⟨n, e⟩, x, t⟩ := q
  go_enter Tryz.func116, Tryz.ntmps116
  go_wp2_with fail
  refine hN.out.mono ?_
  rintro e1 w1 ⟨rfl, hR, hG⟩
  have HR := Lib.hid hR
  have HG := Lib.hid hG
  clear hR hG hN
  go_wp2
  go_ret
  exact ⟨rfl, HR.out, HG.out⟩
/-- is all read? -/
def doneRd (err : Int) (l : List UInt8) : Int × (Int × List UInt8) := if err ≠ 0 then (err, (err, l)) else if l ≠ [] then (3, (3, [])) else (0, (0, []))
set_option maxRecDepth 100000 in
set_option maxHeartbeats 1000000 in
theorem done_c (g r : Nat) (err : Int) (l : List UInt8) (w : World) (h : Rd w g r err l) (_hr : r < w.heap.size) (_hn : l.length ≤ 65536) :
    Calls Tryz.prog 85 #[.pointer (some ⟨g, 0, none⟩)] w fun e w' => e = .returned (i64 (doneRd err l).1) ∧ Rd w' g r (doneRd err l).2.1 (doneRd err l).2.2 ∧ w.grownBy w' (some g) := by
  have H := Lib.hid h
  obtain ⟨hne, A, c, hg, hs⟩ := h
  have c0 := cell_of_row w g 0 _ _ (0, 0) hg
  have c1 := cell_of_row w g 1 _ _ (0, 0) hg
  simp only [List.getElem?_toArray, List.getElem?_cons_zero, List.getElem?_cons_succ] at c0 c1
  clear hg hs hne
  by_cases he : err = 0
  · subst he
    by_cases hl : l = []
    · subst hl
      go_enter Tryz.func85, Tryz.ntmps85
      go_wp2
      go_ret
      exact ⟨rfl, H.out, World.grownBy.refl _ _⟩
    · have hZ := Lib.hid (show doneRd 0 l = (3, (3, [])) by unfold doneRd; rw [if_neg (by simp), if_pos hl])
      have g1 : 0 < l.length := List.length_pos_iff.2 hl
      clear hl
      go_enter Tryz.func85, Tryz.ntmps85
      go_wp2_with fail
      refine (rfail_c g r 0 3 l _ H.out).mono ?_
      rintro e w3 ⟨rfl, hR, hG⟩
      go_wp2
      go_ret
      rw [hZ.out]
      exact ⟨rfl, hR, hG⟩
  · have hZ := Lib.hid (show doneRd err l = (err, (err, l)) by unfold doneRd; rw [if_pos he])
    have g1 : (err != 0) = true := by simpa using he
    clear he
    go_enter Tryz.func85, Tryz.ntmps85
    go_wp2
    go_ret
    rw [hZ.out]
    exact ⟨rfl, H.out, World.grownBy.refl _ _⟩
/-- the next text -/
def textRd (most err : Int) (l : List UInt8) : (ByteArray × Int) × (Int × List UInt8) :=
  if (rangeRd 0 most err l).1.2 ≠ 0 then ((⟨#[]⟩, (rangeRd 0 most err l).1.2), (rangeRd 0 most err l).2)
  else if ((rangeRd 0 most err l).2.2.length : Int) < (rangeRd 0 most err l).1.1 then ((⟨#[]⟩, 4), (4, []))
  else ((⟨((rangeRd 0 most err l).2.2.take (rangeRd 0 most err l).1.1.toNat).toArray⟩, 0), (0, (rangeRd 0 most err l).2.2.drop (rangeRd 0 most err l).1.1.toNat))
theorem textRd_left (most err : Int) (l : List UInt8) : (textRd most err l).2.2.length ≤ l.length ∧ (textRd most err l).2.1 = (textRd most err l).1.2 ∧ (textRd most err l).1.1.size ≤ l.length := by
  have h := rangeRd_left 0 most err l
  unfold textRd
  split
  · exact ⟨h.1, h.2, Nat.zero_le _⟩
  · split
    · exact ⟨by simp, rfl, Nat.zero_le _⟩
    · refine ⟨by simp only [List.length_drop]; omega, rfl, ?_⟩
      show ((rangeRd 0 most err l).2.2.take (rangeRd 0 most err l).1.1.toNat).toArray.size ≤ l.length
      simp only [List.size_toArray, List.length_take]; omega
set_option maxRecDepth 100000 in
set_option maxHeartbeats 4000000 in
theorem rtext_c (g r : Nat) (most err : Int) (l : List UInt8) (w : World) (h : Rd w g r err l) (hr : r < w.heap.size) (hn : l.length ≤ 65536) :
    Calls Tryz.prog 83 #[.pointer (some ⟨g, 0, none⟩), i64 most] w fun e w' => e = .returned (.tuple #[.string (textRd most err l).1.1, i64 (textRd most err l).1.2]) ∧ Rd w' g r (textRd most err l).2.1 (textRd most err l).2.2 ∧ w.grownBy w' (some g) := by
  have hN := Lib.hid (range_c g r 0 most err l w h hr hn)
  have hl := rangeRd_left 0 most err l
  have hi := rangeRd_in (lo := 0) (hi := most) (err := err) (l := l)
  have HN2 := Lib.hid (show textRd most err l = _ from rfl)
  unfold textRd at HN2
  have HN2 := Lib.hid (show ∀ q, q = rangeRd 0 most err l → textRd most err l = if q.1.2 ≠ 0 then ((⟨#[]⟩, q.1.2), q.2) else if (q.2.2.length : Int) < q.1.1 then ((⟨#[]⟩, 4), (4, [])) else ((⟨(q.2.2.take q.1.1.toNat).toArray⟩, 0), (0, q.2.2.drop q.1.1.toNat)) from fun q hq => by subst hq; rfl)
  have HN2 := Lib.hid (HN2.out _ rfl)
  generalize textRd most err l = Z at HN2 ⊢
  generalize rangeRd 0 most err l = q at hN HN2 hl hi
  obtain ⟨⟨n, e⟩, x, t⟩ := q
  obtain ⟨hl1, hl2⟩ := hl
  simp only at hl1 hl2 hi
  subst hl2
  go_enter Tryz.func83, Tryz.ntmps83
  go_wp2_with fail
  refine hN.out.mono ?_
  rintro e1 w1 ⟨rfl, hR, hG⟩
  have HR := Lib.hid hR
  have HG := Lib.hid hG
  clear hN
  have hr1 := Nat.lt_of_lt_of_le hr hG.size
  clear hG
  by_cases he : x = 0
  · subst he
    obtain ⟨hn0, hn1⟩ := hi rfl
    obtain ⟨m, rfl⟩ := Int.eq_ofNat_of_zero_le hn0
    clear hi hn0
    obtain ⟨hne, A, c, hg, hs⟩ := hR
    have c0 := cell_of_row w1 g 0 _ _ (0, 0) hg
    simp only [List.getElem?_toArray, List.getElem?_cons_zero] at c0
    have f0 := frozen_of_row w1 g 0 _ _ hg
    have hlc : t.length ≤ c := hs.1
    have Hg := Lib.hid hg
    have Hs := Lib.hid hs
    clear hg hs
    by_cases hm : t.length < m
    · have hZ := Lib.hid (show Z = ((⟨#[]⟩, 4), (4, [])) by rw [HN2.out, if_neg (by simp), if_pos (by omega)])
      have g1 : decide ((t.length : Int) < (m : Int)) = true := decide_eq_true (by omega)
      clear HN2
      go_wp2_with fail
      refine (rfail_c g r 0 4 t _ HR.out).mono ?_
      rintro e w3 ⟨rfl, hR, hG⟩
      go_wp2
      go_ret2
      rw [hZ.out]
      exact ⟨rfl, hR, grown_trans HG.out hG⟩
    · have hZ := Lib.hid (show Z = ((⟨(t.take m).toArray⟩, 0), (0, t.drop m)) by rw [HN2.out, if_neg (by simp), if_neg (by omega)]; rfl)
      have g1 : decide ((t.length : Int) < (m : Int)) = false := decide_eq_false (by omega)
      have hcv := conv_bytes (Hs.out.take m)
      rw [List.length_take, Nat.min_eq_left (by omega)] at hcv
      have j0 : (0 : Int) ≤ (m : Int) := by omega
      have j1 : (m : Int) ≤ (t.length : Int) := by omega
      have j2 : (t.length : Int) ≤ (c : Int) := by omega
      have j3 : (m : Int) ≤ (c : Int) := by omega
      have hdr := Lib.hid (Hs.out.drop (k := m) (by omega))
      have Hcv := Lib.hid hcv
      clear HN2
      by_cases hcm : c = m
      · obtain rfl := hcm
        have hset := Lib.hid (heap_setCell_same w1 g 0 _ _ (.slice A 0 0) Hg.out)
        have hG1 := grown_setCell (g := g) (World.grownBy.refl w1 (some g)) (p := ⟨g, 0, none⟩) (.inl rfl) (.slice A 0 0)
        have hnd : (t.drop c).length = 0 := by rw [List.length_drop]; omega
        go_wp2
        go_ret2
        rw [hZ.out]
        refine ⟨rfl, ⟨hne, _, _, by rw [hset.out]; simp only [List.setIfInBounds_toArray, List.set_cons_zero, hnd]; rfl, ?_⟩, grown_trans HG.out hG1⟩
        have := hdr.out
        simp only [if_true, Nat.sub_self] at this
        exact this.keep (fun p hp => World.cell?_of_block (w := w1) (by rw [hp]; exact hG1.block r hr1 (fun e => hne (by injection e)))) (fun _ h => h)
      · have hset := Lib.hid (heap_setCell_same w1 g 0 _ _ (.slice (Option.map (fun x : Addr => x.add m) A) (t.length - m) (c - m)) Hg.out)
        have hG1 := grown_setCell (g := g) (World.grownBy.refl w1 (some g)) (p := ⟨g, 0, none⟩) (.inl rfl) (.slice (Option.map (fun x : Addr => x.add m) A) (t.length - m) (c - m))
        have hnd : (t.drop m).length = t.length - m := List.length_drop ..
        go_wp2
        go_ret2
        rw [hZ.out]
        refine ⟨rfl, ⟨hne, _, _, by rw [hset.out]; simp only [List.setIfInBounds_toArray, List.set_cons_zero, hnd]; rfl, ?_⟩, grown_trans HG.out hG1⟩
        have := hdr.out
        rw [if_neg hcm, show Enc.size UInt8 = 1 from rfl, Nat.mul_one] at this
        exact this.keep (fun p hp => World.cell?_of_block (w := w1) (by rw [hp]; exact hG1.block r hr1 (fun e => hne (by injection e)))) (fun _ h => h)
  · have hZ := Lib.hid (show Z = ((⟨#[]⟩, x), (x, t)) by rw [HN2.out, if_pos he])
    have g1 : (x != 0) = true := by simpa using he
    clear he HN2 hi hR
    go_wp2
    go_ret2
    rw [hZ.out]
    exact ⟨rfl, HR.out, HG.out⟩
set_option maxRecDepth 100000 in
set_option maxHeartbeats 1000000 in
theorem name_c (g r : Nat) (err : Int) (l : List UInt8) (w : World) (h : Rd w g r err l) (hr : r < w.heap.size) (hn : l.length ≤ 65536) :
    Calls Tryz.prog 117 #[.pointer (some ⟨g, 0, none⟩)] w fun e w' => e = .returned (.string (textRd 8 err l).1.1) ∧ Rd w' g r (textRd 8 err l).2.1 (textRd 8 err l).2.2 ∧ w.grownBy w' (some g) := by
  have hN := Lib.hid (rtext_c g r 8 err l w h hr hn)
  generalize textRd 8 err l = q at hN ⊢
  obtain ⟨⟨n, e⟩, x, t⟩ := q
  go_enter Tryz.func117, Tryz.ntmps117
  go_wp2_with fail
  refine hN.out.mono ?_
  rintro e1 w1 ⟨rfl, hR, hG⟩
  have HR := Lib.hid hR
  have HG := Lib.hid hG
  clear hR hG hN
  go_wp2
  go_ret
  exact ⟨rfl, HR.out, HG.out⟩
set_option maxRecDepth 100000 in
set_option maxHeartbeats 4000000 in
theorem rnew_c (A : Option Addr) (c : Nat) (l : List UInt8) (w : World) (h : Sl w w.heap.size A c l) (hn : l.length ≤ 65536) :
    Calls Tryz.prog 81 #[.slice A l.length c] w fun e w' => e = .returned (.pointer (some ⟨w.heap.size + 1, 0, none⟩)) ∧ Rd w' (w.heap.size + 1) w.heap.size 0 l ∧ w'.heap.size = w.heap.size + 2 ∧ Below w.heap.size w w' := by
  obtain ⟨i, hi, hz, hz1, hz2⟩ := info_parts inf_byte
  have hmk := run_makeSlice (P := Tryz.prog) (w := w) 25 5 i (.int .u8 0) Tryz.underlying25 hi hz .i64 .i64 l.length l.length (by omega) (Int.le_refl _) (by rw [Int.toNat_natCast, hz1]; show l.length * 1 ≤ _; omega) (by rw [hz2]; omega) (by omega)
  have hsz := size_madeCells (Value.int IntKind.u8 0).cells (((l.length : Int)).toNat * i.size)
  simp only [Int.toNat_natCast, hz1, show Enc.size UInt8 = 1 from rfl, Nat.mul_one] at hmk hsz
  generalize madeCells (Value.int IntKind.u8 0).cells l.length = Z at hmk hsz
  clear hi hz hz1 hz2
  have hb1 := ((Below.refl w.heap.size w).alloc (Nat.le_refl _) (.cells Z 5)).alloc (by simp) (.cells #[.slice (some ⟨w.heap.size, 0, none⟩) l.length l.length, i64 0] 135)
  have hg0 := heap_alloc2_old w (.cells Z 5) (.cells #[.slice (some ⟨w.heap.size, 0, none⟩) l.length l.length, i64 0] 135)
  have hg1 := heap_alloc2_new w (.cells Z 5) (.cells #[.slice (some ⟨w.heap.size, 0, none⟩) l.length l.length, i64 0] 135)
  have hs2 := h.later hb1
  have hsz2 : ((w.alloc (.cells Z 5)).alloc (.cells #[.slice (some ⟨w.heap.size, 0, none⟩) l.length l.length, i64 0] 135)).heap.size = w.heap.size + 2 := by simp
  have f0 := frozen_of_row _ (w.heap.size + 1) 0 _ _ hg1
  have c0 := cell_of_row _ (w.heap.size + 1) 0 _ _ (0, 0) hg1
  simp only [List.getElem?_toArray, List.getElem?_cons_zero] at c0
  have hcp : ∀ ty, (Builtin.copy_ #[25, 25] ty #[.slice (some ⟨w.heap.size, 0, none⟩) l.length l.length, .slice A l.length c]).run Tryz.prog ((w.alloc (.cells Z 5)).alloc (.cells #[.slice (some ⟨w.heap.size, 0, none⟩) l.length l.length, i64 0] 135)) =
      .ok (goInt l.length) (((w.alloc (.cells Z 5)).alloc (.cells #[.slice (some ⟨w.heap.size, 0, none⟩) l.length l.length, i64 0] 135)).setRow w.heap.size (l.map fun b => Value.int .u8 b.toNat).toArray) := fun ty => by
    by_cases hl : l = []
    · subst hl
      have hz0 : Z = #[] := Array.eq_empty_of_size_eq_zero (by simpa using hsz)
      subst hz0
      rw [run_copy_none _ _ _ ty 5 _ _ _ _ _ _ Tryz.underlying25 (by kernel_rfl) (by rfl), List.map_nil, setRow_self _ _ _ _ _ hg0]
      rfl
    · obtain ⟨b, o, rfl, -, hc⟩ := hs2.2.2.1 (List.length_pos_iff.2 hl)
      rw [run_copy_row _ _ _ _ ty 5 w.heap.size 0 l.length l.length ⟨b, o, none⟩ l.length c Z 5 (l.map fun b => Value.int .u8 b.toNat) Tryz.underlying25 (by kernel_rfl) hg0 (by simp) (fun j v hj => by
        rw [show (⟨b, o, none⟩ : Addr).add j = ⟨b, o + j, none⟩ from by unfold Addr.add; split <;> simp_all]
        exact hc j v (by rw [flat_byte, ← List.getElem?_map]; exact hj)) (by simp [hsz]) (by simp only [List.mem_map]; rintro v ⟨b, _, rfl⟩; rfl)]
      rw [List.length_map, List.take_zero, List.nil_append, Nat.zero_add, List.drop_eq_nil_of_le (by rw [Array.length_toList, hsz]; exact Nat.le_refl _), List.append_nil]
  have Hcp := Lib.hid hcp
  have Hg0 := Lib.hid hg0
  have Hg1 := Lib.hid hg1
  have Hb1 := Lib.hid hb1
  have Hsz2 := Lib.hid hsz2
  clear hg0 hg1 hb1 hs2 hsz2 h hsz
  go_enter Tryz.func81, Tryz.ntmps81
  go_wp2
  go_ret
  refine ⟨rfl, ⟨by omega, some ⟨w.heap.size, 0, none⟩, l.length, ?_, ?_⟩, ?_, ?_⟩
  · rw [setRow_other _ _ _ _ (by omega), Hg1.out]
  · refine ⟨Nat.le_refl _, by simp only [maxLen]; omega, fun _ => ⟨w.heap.size, 0, rfl, rfl, fun j u hu => ?_⟩, fun _ _ => trivial⟩
    rw [Nat.zero_add, cell_setRow_same _ _ _ _ _ _ _ Hg0.out]
    rw [flat_byte] at hu
    simpa using hu
  · rw [setRow_size]; exact Hsz2.out
  · exact Hb1.out.trans ⟨rfl, rfl, rfl, by simp, fun k hk => setRow_other _ _ _ _ (by omega)⟩
end Go.Proofs.YtmbfalokkabmnaaGreat

/- what order.Read reads -/
namespace Go.Proofs.YtmbfalokkabmnaaGreat
open Go.RowKit
/-- a reader's state: its error, what is left -/
abbrev St := Int × List UInt8
abbrev smR (most : Int) (s : St) : (Int × Int) × St := rangeRd 0 most s.1 s.2
abbrev txR (most : Int) (s : St) : (ByteArray × Int) × St := textRd most s.1 s.2
abbrev nuR (s : St) : (Int × Int) × St := numRd s.1 s.2
def legsR : Nat → St → List Leg × St
  | 0, s => ([], s)
  | n + 1, s => ((⟨(txR 8 s).1.1, (nuR (txR 8 s).2).1.1⟩ : Leg) :: (legsR n (nuR (txR 8 s).2).2).1, (legsR n (nuR (txR 8 s).2).2).2)
def s1 (l : List UInt8) : St := (smR 9 (0, l)).2
def s2 (l : List UInt8) : St := (smR 999 (s1 l)).2
def s3 (l : List UInt8) : St := (smR 7 (s2 l)).2
def s4 (l : List UInt8) : St := (txR 8 (s3 l)).2
def s5 (l : List UInt8) : St := (txR 8 (s4 l)).2
def s6 (l : List UInt8) : St := (nuR (s5 l)).2
def s7 (l : List UInt8) : St := (smR 6 (s6 l)).2
def nLegs (l : List UInt8) : Nat := (smR 6 (s6 l)).1.1.toNat
def s8 (l : List UInt8) : St := (legsR (nLegs l) (s7 l)).2
def s9 (l : List UInt8) : St := (smR 1000 (s8 l)).2
def s10 (l : List UInt8) : St := (smR 9999 (s9 l)).2
def s11 (l : List UInt8) : St := (txR 20 (s10 l)).2
/-- the order that is read, whether it may be or not -/
def rawO (l : List UInt8) : Od := ⟨(smR 9 (0, l)).1.1, (smR 999 (s1 l)).1.1, (smR 7 (s2 l)).1.1, (txR 8 (s3 l)).1.1, (txR 8 (s4 l)).1.1, (nuR (s5 l)).1.1, none, 0, (legsR (nLegs l) (s7 l)).1, (smR 1000 (s8 l)).1.1, (smR 9999 (s9 l)).1.1, (txR 20 (s10 l)).1.1⟩
def readOk (l : List UInt8) : Bool := decide ((doneRd (s11 l).1 (s11 l).2).1 = 0) && rightB (rawO l)
/-- the error that order.Read tells -/
def readE (l : List UInt8) : Int := if readOk l then 0 else 3
/-- order.Read -/
def readO (l : List UInt8) : Od := if readOk l then rawO l else od0
theorem smR_len (m : Int) (s : St) : (smR m s).2.2.length ≤ s.2.length := (rangeRd_left 0 m s.1 s.2).1
theorem txR_len (m : Int) (s : St) : (txR m s).2.2.length ≤ s.2.length := (textRd_left m s.1 s.2).1
theorem txR_size (m : Int) (s : St) : (txR m s).1.1.size ≤ s.2.length := (textRd_left m s.1 s.2).2.2
theorem nuR_len (s : St) : (nuR s).2.2.length ≤ s.2.length := (numRd_left s.1 s.2).1
/-- a number of some is one of them, or nought -/
theorem smR_in {m : Int} (h0 : 0 ≤ m) (s : St) : 0 ≤ (smR m s).1.1 ∧ (smR m s).1.1 ≤ m := by
  by_cases h : (rangeRd 0 m s.1 s.2).1.2 = 0
  · exact rangeRd_in h
  · unfold smR rangeRd at *
    split
    · exact ⟨by simp, h0⟩
    · split
      · exact ⟨by simp, h0⟩
      · rename_i h1 h2
        rw [if_neg h1, if_neg h2] at h
        exact absurd rfl h
theorem legsR_len : ∀ (n : Nat) (s : St), (legsR n s).2.2.length ≤ s.2.length ∧ (legsR n s).1.length = n ∧ ∀ y ∈ (legsR n s).1, y.acct.size ≤ s.2.length
  | 0, s => ⟨Nat.le_refl _, rfl, by simp [legsR]⟩
  | n + 1, s => by
    obtain ⟨h1, h2, h3⟩ := legsR_len n (nuR (txR 8 s).2).2
    have a := txR_len 8 s
    have b := nuR_len (txR 8 s).2
    refine ⟨by simp only [legsR]; omega, by simp only [legsR, List.length_cons, h2], fun y hy => ?_⟩
    simp only [legsR, List.mem_cons] at hy
    rcases hy with rfl | hy
    · exact txR_size 8 s
    · have := h3 y hy; omega
theorem legsR_step {n k : Nat} {s0 S : St} {L : List Leg} {a1 : (ByteArray × Int) × St} {a2 : (Int × Int) × St} (hk : k < n) (h : legsR n s0 = (L ++ (legsR (n - k) S).1, (legsR (n - k) S).2)) (h1 : textRd 8 S.1 S.2 = a1) (h2 : numRd a1.2.1 a1.2.2 = a2) :
    legsR n s0 = ((L ++ [(⟨a1.1.1, a2.1.1⟩ : Leg)]) ++ (legsR (n - (k + 1)) a2.2).1, (legsR (n - (k + 1)) a2.2).2) := by
  rw [h, show n - k = (n - (k + 1)) + 1 from by omega]
  simp only [legsR, txR, nuR, h1, h2, List.append_assoc, List.singleton_append]
end Go.Proofs.YtmbfalokkabmnaaGreat
