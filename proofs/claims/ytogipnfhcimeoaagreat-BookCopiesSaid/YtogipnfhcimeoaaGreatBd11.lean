/- Texts of this claim, laid together: ClSwP, ShutN, OpTwo, Join, RAhead. -/
import Derived.Test.YtogipnfhcimeoaaGreatRows
import Derived.Test.YtogipnfhcimeoaaGreatBc4
import Derived.Test.YtogipnfhcimeoaaGreatBc6
import Derived.Test.YtogipnfhcimeoaaGreatBc5
import Derived.Test.YtogipnfhcimeoaaGreatBd10
import Derived.Test.YtogipnfhcimeoaaGreatBd9
import Derived.Test.YtogipnfhcimeoaaGreatBd6
import Derived.Test.YtogipnfhcimeoaaGreatBd7
import Derived.WalkKit
import Derived.WalkSpells
import Derived.WalkLawsBesides
import Derived.Deep.QuietTactic
import Derived.BigQuiet
import Derived.Laws.StructEq
import Derived.Deep.DeepFit
import Derived.StillTailTactics
import Derived.Test.YtogipnfhcimeoaaGreatBc18
import Derived.Test.YtogipnfhcimeoaaGreatProg
import Derived.JoinedOf
import Derived.Test.YtogipnfhcimeoaaGreatBc1

/- lists that swaps make of one another: what the statements use -/
namespace Go.Proofs.YtogipnfhcimeoaaGreat
open Go.RowKit
theorem cut8_inR {x : Od} (h : InR x) : InR (cut8 x) := ⟨h.1, h.2.1, h.2.2.1, h.2.2.2.1, h.2.2.2.2.1, h.2.2.2.2.2.1, fun l hl => h.2.2.2.2.2.2 l (List.mem_of_mem_take hl)⟩
theorem fewL_odB {w : World} {S : Nat → Prop} {A : Option Addr} {c n : Nat} {l : List Od} (h : SlS w S A c l) (hr : ∀ x ∈ l, InR x) : ∀ x ∈ fewL n l, OdB x := fun x hx => by
  obtain ⟨y, hy, rfl⟩ := List.mem_map.1 hx
  have hy := List.mem_of_mem_take hy
  have ho : Od.Ok w S y := h.2.2.2 y hy
  exact ⟨ho.acct, ho.peer, cut8_inR (hr y hy)⟩
theorem mix_alike {l m : List Od} (h : Mix l m) (hv : Val l) : alikeB l m = true ∧ alikeB m l = true := by
  have hb := h.K.beg (valK hv)
  have hl := h.perm.length_eq
  constructor
  · unfold alikeB
    rw [beginsB_K.2 hb.1, decide_eq_true hl]; rfl
  · unfold alikeB
    rw [beginsB_K.2 hb.2, decide_eq_true hl.symm]; rfl
theorem at_get {l : List Od} {i : Id} (h : ∃ y ∈ l, y.id = i) : ∃ k : Nat, atIdx l i = k ∧ ∃ hk : k < l.length, l[k].id = i := by
  have h0 := at_in h
  unfold atIdx idxP at h0 ⊢
  cases hf : l.findIdx? (fun x => decide (x.id = i)) with
  | none => rw [hf] at h0; exact absurd h0 (by decide)
  | some k =>
    obtain ⟨hk, hp, _⟩ := List.findIdx?_eq_some_iff_getElem.1 hf
    exact ⟨k, rfl, hk, by simpa using hp⟩
/-- what is told of the orders of two lists that swaps make of one another -/
theorem swaps_told {l m : List Od} (h : Mix l m) (hv : Val l) (ho : ∀ x ∈ l, OdB x) {i : Nat} (hi : i < l.length) :
    ∃ k : Nat, atIdx m l[i].id = k ∧ k < m.length ∧ (toldL bk0 m)[k]? = (toldL bk0 l)[i]? := by
  obtain ⟨k, hk1, hk, e⟩ := at_get (l := m) (i := l[i].id) ⟨l[i], h.perm.mem_iff.1 (List.getElem_mem hi), rfl⟩
  refine ⟨k, hk1, hk, ?_⟩
  rw [List.getElem?_eq_getElem (by rw [toldL_len]; exact hk), List.getElem?_eq_getElem (by rw [toldL_len]; exact hi), mix_reply inv_bk0 h ho (h.beg hv).2.1 hi hk e]
end Go.Proofs.YtogipnfhcimeoaaGreat

/- What the frames use: numbers opened -/
namespace Go.Proofs.YtogipnfhcimeoaaGreat
open Go.RowKit
open Go.ChangeShapes Go.WideShapes Go.Deep
section
variable {H : Type} {enc : TypeId × Value → H} {P : Program} {w : World} {base : Nat} {spare : Nat → Bool} {held : Bool} {r : Reach} {b0 : Nat} {v : Value} {d : DataW H} {p : List MemPlace}
set_option maxRecDepth 100000 in
set_option maxHeartbeats 1000000 in
theorem open_ns_of {t e : TypeId} (ht : P.underlying t = some (.slice e)) (he : P.underlying e = some (.int .i64)) (hC : P.cellsOf e = 1) (hv : Value.okWide P w r b0 t v) (h : DataW.Trod enc P w base spare held t v d p) : ∃ A c, ∃ l : List Int, v = .slice A l.length c ∧ Sl w w.heap.size A c l := by
  obtain ⟨a, len, cap, rfl⟩ := okWide_slice ht hv
  obtain ⟨fuel, hf⟩ := h
  obtain ⟨A, c, l, hx, hs⟩ := reads_slice (α := Int) ht hC (by decide) (reads_int he) hf
  have hx2 : [Value.slice a len cap] = [.slice A l.length c] := hx
  injection hx2 with hx3
  exact ⟨A, c, l, hx3, hs⟩
set_option maxRecDepth 100000 in
set_option maxHeartbeats 1000000 in
theorem okWide_array {t : TypeId} {n : Nat} {e : TypeId} (ht : P.underlying t = some (.array n e)) (h : Value.okWide P w r b0 t v) : ∃ cs, v = .agg cs ∧ cs.size = P.cellsOf t := by
  simp only [Value.okWide, ht] at h
  cases v <;> simp_all
set_option maxRecDepth 100000 in
set_option maxHeartbeats 1000000 in
theorem open_two_of {t e : TypeId} (ht : P.underlying t = some (.array 2 e)) (he : P.underlying e = some (.int .i64)) (hC : P.cellsOf e = 1) (hC2 : P.cellsOf t = 2) (hv : Value.okWide P w r b0 t v) (h : DataW.Trod enc P w base spare held t v d p) : ∃ x y : Int, v = .agg #[.int .i64 x, .int .i64 y] := by
  obtain ⟨cs, rfl, hsz⟩ := okWide_array ht hv
  obtain ⟨fuel, hf⟩ := h
  obtain ⟨cs⟩ := cs
  match cs, hsz.trans hC2 with
  | [c0, c1], _ =>
    obtain ⟨xs, m, _, _, _, hlen, hg⟩ := DataW.trod_array ht hf
    have h0 := hg 0 (by decide)
    have h1 := hg 1 (by decide)
    rw [List.getElem?_eq_getElem (by rw [hlen]; decide), hC] at h0 h1
    obtain ⟨x, e0, _, _⟩ := DataW.trod_int he h0
    obtain ⟨y, e1, _, _⟩ := DataW.trod_int he h1
    have e2 : [c0] = [.int .i64 x] := e0
    have e3 : [c1] = [.int .i64 y] := e1
    injection e2 with e2
    injection e3 with e3
    subst e2 e3
    exact ⟨x, y, rfl⟩
end
end Go.Proofs.YtogipnfhcimeoaaGreat

/- What ClashBegins' frame uses: a slice of numbers, an array of two -/
namespace Go.Proofs.YtogipnfhcimeoaaGreat
open Go.RowKit
section
variable {H : Type} {enc : TypeId × Value → H} {w : World} {base : Nat} {spare : Nat → Bool} {held : Bool} {r : Reach} {b0 : Nat} {v : Value} {d : DataW H} {p : List MemPlace}
set_option maxRecDepth 100000 in
set_option maxHeartbeats 1000000 in
theorem open_ns (hv : Value.okWide Tryz.prog w r b0 76 v) (h : DataW.Trod enc Tryz.prog w base spare held 76 v d p) : ∃ A c, ∃ l : List Int, v = .slice A l.length c ∧ Sl w w.heap.size A c l :=
  open_ns_of Tryz.underlying76 Tryz.underlying3 cellsN hv h
end
end Go.Proofs.YtogipnfhcimeoaaGreat

/- Closed facts on the whole program that each statement's frame asks. -/
namespace Go.Proofs.YtogipnfhcimeoaaGreat
theorem join_laid : laidOutB Tryz.checked.prog = true := by kernel_rfl
theorem join_maps : mapsRowed Tryz.checked.prog = true := by kernel_rfl
end Go.Proofs.YtogipnfhcimeoaaGreat

/- ref05.Ahead -/
namespace Go.Proofs.YtogipnfhcimeoaaGreat
open Go.RowKit
theorem bl_at : ∀ (x y : List UInt8) (k : Nat) (h1 : k < x.length) (h2 : k < y.length), (∀ j, j < k → x[j]? = y[j]?) → x[k] ≠ y[k] → Op.bytesLess x y = decide (x[k] < y[k])
  | [], _, _, h, _, _, _ => absurd h (by simp)
  | _ :: _, [], _, _, h, _, _ => absurd h (by simp)
  | u :: r, v :: s, 0, _, _, _, hne => by
    have hne2 : (u == v) = false := by simpa using hne
    simp [Op.bytesLess, hne2]
  | u :: r, v :: s, k + 1, h1, h2, hp, hne => by
    have h0 : u = v := by simpa using hp 0 (by omega)
    subst h0
    have hl : ¬ u < u := by rw [UInt8.lt_iff_toNat_lt]; omega
    have ih := bl_at r s k (by simpa using h1) (by simpa using h2) (fun j hj => by simpa using hp (j + 1) (by omega)) (by simpa using hne)
    simp only [Op.bytesLess, decide_eq_false hl, Bool.false_or, beq_self_eq_true, Bool.true_and, List.getElem_cons_succ]
    exact ih
theorem bl_end : ∀ (x y : List UInt8) (k : Nat), (∀ j, j < k → x[j]? = y[j]?) → k ≤ x.length → k ≤ y.length → (k = x.length ∨ k = y.length) → Op.bytesLess x y = decide (x.length < y.length)
  | [], [], _, _, _, _, _ => by simp [Op.bytesLess]
  | [], _ :: _, _, _, _, _, _ => by simp [Op.bytesLess]
  | _ :: _, [], _, _, _, _, _ => by simp [Op.bytesLess]
  | u :: r, v :: s, 0, _, _, _, h => by simp at h
  | u :: r, v :: s, k + 1, hp, h1, h2, h => by
    have h0 : u = v := by simpa using hp 0 (by omega)
    subst h0
    have hl : ¬ u < u := by rw [UInt8.lt_iff_toNat_lt]; omega
    have ih := bl_end r s k (fun j hj => by simpa using hp (j + 1) (by omega)) (by simpa using h1) (by simpa using h2) (by simpa using h)
    simp only [Op.bytesLess, decide_eq_false hl, Bool.false_or, beq_self_eq_true, Bool.true_and, ih, List.length_cons, Nat.add_lt_add_iff_right]
theorem toList_get (a : ByteArray) (k : Nat) (h : k < a.size) : a.toList[k]? = some a[k] := by
  rw [ByteArray.toList_eq]
  exact List.getElem?_eq_getElem (by simpa using h)
theorem toList_len (a : ByteArray) : a.toList.length = a.size := by rw [ByteArray.toList_eq]; simp
def samePre (a b : ByteArray) (k : Nat) : Prop := ∀ j (h1 : j < a.size) (h2 : j < b.size), j < k → a[j] = b[j]
theorem samePre.get {a b : ByteArray} {k : Nat} (h : samePre a b k) (h1 : k ≤ a.size) (h2 : k ≤ b.size) : ∀ j, j < k → a.toList[j]? = b.toList[j]? := fun j hj => by
  rw [toList_get a j (by omega), toList_get b j (by omega), h j (by omega) (by omega) hj]
theorem bless_at {a b : ByteArray} {k : Nat} (h : samePre a b k) (h1 : k < a.size) (h2 : k < b.size) (hne : a[k] ≠ b[k]) : bless a b = decide (a[k].toNat < b[k].toNat) := by
  have g1 : a.toList[k]'(by rw [toList_len]; exact h1) = a[k] := (List.getElem?_eq_some_iff.1 (toList_get a k h1)).2
  have g2 : b.toList[k]'(by rw [toList_len]; exact h2) = b[k] := (List.getElem?_eq_some_iff.1 (toList_get b k h2)).2
  unfold bless
  rw [bl_at a.toList b.toList k (by rw [toList_len]; exact h1) (by rw [toList_len]; exact h2) (h.get (by omega) (by omega)) (by rw [g1, g2]; exact hne), g1, g2]
  rw [decide_eq_decide, UInt8.lt_iff_toNat_lt]
theorem bless_end {a b : ByteArray} {k : Nat} (h : samePre a b k) (h1 : k ≤ a.size) (h2 : k ≤ b.size) (he : k = a.size ∨ k = b.size) : bless a b = decide (a.size < b.size) := by
  unfold bless
  rw [bl_end a.toList b.toList k (h.get h1 h2) (by rw [toList_len]; exact h1) (by rw [toList_len]; exact h2) (by rw [toList_len, toList_len]; exact he), toList_len, toList_len]

set_option maxRecDepth 100000 in
set_option maxHeartbeats 1000000 in
theorem rahead_c (a b : ByteArray) (ha : a.size ≤ maxLen) (hb : b.size ≤ maxLen) (w : World) :
    Calls Tryz.prog 142 #[.string a, .string b] w fun e w' => e = .returned (.bool (bless a b)) ∧ Below w.heap.size w w' := by
  have ha' : a.size ≤ 9223372036854775807 := Nat.le_trans ha (by decide)
  have hb' : b.size ≤ 9223372036854775807 := Nat.le_trans hb (by decide)
  clear ha hb
  go_enter Tryz.func142, Tryz.ntmps142
  go_wp2_with fail
  go_loopw [5] (fun i wr => ∃ k : Nat, i = i64 k ∧ k ≤ a.size ∧ k ≤ b.size ∧ samePre a b k ∧ Below w.heap.size w wr) (fun i _ => a.size - (intOf i).toNat)
  case atStart => exact ⟨0, rfl, by omega, by omega, fun j _ _ h => absurd h (by omega), Below.refl _ _⟩
  case round =>
    obtain ⟨k, rfl, hka, hkb, hpre, hB⟩ := hrel
    have Hpre := Lib.hid hpre
    clear hpre
    by_cases h1 : k < a.size
    · by_cases h2 : k < b.size
      · have i0 : (0 : Int) ≤ (k : Int) := by omega
        have i1 : (k : Int) < (a.size : Int) := by omega
        have i2 : (k : Int) < (b.size : Int) := by omega
        by_cases he : a[k] = b[k]
        · have g : ((a[k].toNat : Int) != (b[k].toNat : Int)) = false := by rw [he]; simp
          have He := Lib.hid he
          clear he
          go_wp2_with fail
          go_quiet (fail)
          go_wp2
          go_roundw
          case rel => exact ⟨k + 1, by go_num, by omega, by omega, fun j h1 h2 hj => by
              rcases Nat.lt_succ_iff_lt_or_eq.1 hj with hj | rfl
              · exact Hpre.out j h1 h2 hj
              · exact He.out, below_drewN hB _⟩
          case measure => simp [intOf]; omega
        · have g : ((a[k].toNat : Int) != (b[k].toNat : Int)) = true := by
            rw [bne_iff_ne]
            exact fun h => he (UInt8.toNat_inj.1 (by omega))
          have hres := bless_at Hpre.out h1 h2 he
          have Hres := Lib.hid hres
          clear he hres
          go_wp2_with fail
          go_quiet (fail)
          have hB2 := below_drewN hB nq
          generalize wr.drewN nq = wq at hB2 ⊢
          go_wp2_with fail
          go_quiet (fail)
          go_wp2
          go_ret
          exact ⟨by rw [Hres.out]; rfl, below_drewN hB2 _⟩
      · have hres := bless_end Hpre.out hka hkb (.inr (by omega))
        have Hres := Lib.hid hres
        clear hres
        go_wp2
        go_ret
        exact ⟨by rw [Hres.out]; rfl, hB⟩
    · have hres := bless_end Hpre.out hka hkb (.inl (by omega))
      have Hres := Lib.hid hres
      clear hres
      go_wp2
      go_ret
      exact ⟨by rw [Hres.out]; rfl, hB⟩
end Go.Proofs.YtogipnfhcimeoaaGreat
