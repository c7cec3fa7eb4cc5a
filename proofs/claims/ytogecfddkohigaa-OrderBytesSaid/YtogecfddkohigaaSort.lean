/- slices.Sort at strings, of twelve or fewer -/
import Derived.Test.YtogecfddkohigaaRows
import Derived.Test.YtogecfddkohigaaRow
import Derived.Test.YtogecfddkohigaaStrA
import Derived.Test.YtogecfddkohigaaShelf
import Derived.Test.YtogecfddkohigaaOrd
import Derived.WalkKit
import Derived.WalkSpells
import Derived.WalkLawsBesides
import Derived.Deep.QuietTactic
import Derived.BigQuiet
import Derived.Laws.StructEq
import Derived.Deep.DeepFit
import Derived.StillTailTactics
namespace Go.Proofs.Ytogecfddkohigaa
open Go.RowKit

set_option maxRecDepth 100000 in
set_option maxHeartbeats 400000 in
theorem isNaN_str (s : ByteArray) (w : World) : Calls Try.prog 138 #[.string s] w fun e w' => e = .returned (.bool false) ∧ w = w' := by
  have h : (s.toList != s.toList) = false := by simp
  go_enter Try.func138, Try.ntmps138
  go_wp2
  go_ret
  exact ⟨rfl, rfl⟩
set_option maxRecDepth 100000 in
set_option maxHeartbeats 400000 in
theorem less_str (s t : ByteArray) (w : World) : Calls Try.prog 124 #[.string s, .string t] w fun e w' => e = .returned (.bool (bless s t)) ∧ w = w' := by
  go_enter Try.func124, Try.ntmps124
  go_wp2_with (go_at_call 138; refine (isNaN_str _ _).mono ?_; rintro e w' ⟨rfl, rfl⟩)
  go_ret
  exact ⟨rfl, rfl⟩

/-- the inner loop's step, in lists -/
theorem ins_step (p1 p2 rest : List ByteArray) (q x : ByteArray) : (((p1 ++ [q]) ++ x :: p2 ++ rest).set (p1.length + 1) q).set p1.length x = p1 ++ x :: (q :: p2) ++ rest := by
  simp
theorem ins_step' (p1 p2 rest : List ByteArray) (q x : ByteArray) : (((p1 ++ [q]) ++ x :: p2 ++ rest).set p1.length x).set (p1.length + 1) q = p1 ++ x :: (q :: p2) ++ rest := by
  simp

theorem sorted_mid {p1 p2 : List ByteArray} {x : ByteArray} (h : SortedB bless (p1 ++ p2)) (h1 : ∀ a, p1.getLast? = some a → bless x a = false) (h2 : ∀ y ∈ p2, bless x y = true) : SortedB bless (p1 ++ x :: p2) := by
  obtain ⟨ha, hb, hc⟩ := List.pairwise_append.1 h
  refine List.pairwise_append.2 ⟨ha, List.pairwise_cons.2 ⟨fun y hy => bless_strict.asymm (h2 y hy), hb⟩, fun a haa b hbb => ?_⟩
  rcases List.mem_cons.1 hbb with rfl | hbb
  · rcases List.eq_nil_or_concat p1 with rfl | ⟨p0, q, rfl⟩
    · cases haa
    · have hq := h1 q (by simp)
      rw [List.concat_eq_append] at haa ha
      rcases List.mem_append.1 haa with h0 | h0
      · exact bless_strict.co _ q _ hq ((List.pairwise_append.1 ha).2.2 a h0 q (by simp))
      · simp only [List.mem_singleton] at h0; subst h0; exact hq
  · exact hc a haa b hbb
theorem ins_done {p1 p2 p rest cur l : List ByteArray} {x : ByteArray} {ni : Nat} (hpp : p1 ++ p2 = p) (hpl : p.length = ni) (hs : SortedB bless p) (hp : (p ++ x :: rest).Perm l) (hc : (p ++ x :: rest).length = l.length)
    (h1 : ∀ a, p1.getLast? = some a → bless x a = false) (h2 : ∀ y ∈ p2, bless x y = true) (e : cur = p1 ++ x :: p2 ++ rest) : cur.length = l.length ∧ cur.Perm l ∧ SortedB bless (cur.take (ni + 1)) := by
  subst hpp hpl e
  refine ⟨by simp at hc ⊢; omega, ?_, ?_⟩
  · refine List.Perm.trans ?_ hp
    rw [List.append_assoc, List.append_assoc]
    refine List.Perm.append_left p1 ?_
    rw [List.cons_append]
    exact List.perm_middle.symm
  · rw [List.take_left' (by simp; omega)]
    exact sorted_mid hs h1 h2

set_option maxRecDepth 100000 in
set_option maxHeartbeats 1000000 in
theorem insertionSort_str (base : Nat) (gb cp : Nat) (l : List ByteArray) (w : World) (h : Own w base 9 (.slice (some ⟨gb, 0, none⟩) l.length cp) l) (hn : l.length ≤ 65536) :
    Calls Try.prog 118 #[.slice (some ⟨gb, 0, none⟩) l.length cp, i64 0, i64 l.length] w fun e w' => e = .returned (.tuple #[]) ∧ Own w' base 9 (.slice (some ⟨gb, 0, none⟩) l.length cp) (sortS l) ∧ w.grownBy w' (some gb) := by
  have hgr0 := World.grownBy.refl w (some gb)
  go_enter Try.func118, Try.ntmps118
  go_wp2
  go_loopw [6, 7] (fun i j wr => ∃ (ni : Nat) (cur : List ByteArray), i = i64 ni ∧ 1 ≤ ni ∧ cur.length = l.length ∧ Own wr base 9 (.slice (some ⟨gb, 0, none⟩) l.length cp) cur ∧ w.grownBy wr (some gb) ∧
      cur.Perm l ∧ SortedB bless (cur.take ni)) (fun i _ _ => l.length + 1 - (intOf i).toNat)
  case atStart => exact ⟨1, l, rfl, by omega, rfl, h, hgr0, .refl _, by cases l <;> simp [SortedB]⟩
  case round =>
    obtain ⟨ni, cur, rfl, hi1, hcl, hO, hgr, hp, hs⟩ := hrel
    by_cases hlt : ni < l.length
    · have HP := Lib.hid hp
      have HS := Lib.hid hs
      have HC := Lib.hid hcl
      clear hp hs hcl h hgr0
      obtain ⟨p, x, rest, hcur, hpl⟩ : ∃ p x rest, cur = p ++ x :: rest ∧ p.length = ni := ⟨cur.take ni, cur[ni]'(by have := HC.out; omega), cur.drop (ni + 1), by
        rw [← List.drop_eq_getElem_cons, List.take_append_drop], by rw [List.length_take]; have := HC.out; omega⟩
      subst hcur
      have HS2 : Hid (SortedB bless p) := Lib.hid (by have := HS.out; rwa [List.take_append_of_le_length (by omega), List.take_of_length_le (by omega)] at this)
      have HP2 : Hid (p.length = ni) := Lib.hid hpl
      clear HS hpl
      obtain ⟨wo, rfl⟩ : ∃ wo : World, wo = wr := ⟨_, rfl⟩
      go_wp2
      go_loopw [7] (fun j wr => ∃ (p1 p2 : List ByteArray), j = i64 p1.length ∧ p1 ++ p2 = p ∧ (∀ y ∈ p2, bless x y = true) ∧ Own wr base 9 (.slice (some ⟨gb, 0, none⟩) l.length cp) (p1 ++ x :: p2 ++ rest) ∧ w.grownBy wr (some gb)) (fun j _ => (intOf j).toNat)
      case atStart => exact ⟨p, [], by rw [HP2.out], by simp, by simp, by simpa using hO, hgr⟩
      case round =>
        obtain ⟨p1, p2, rfl, hpp, hall, hO1, hgr1⟩ := hrel
        have Hpp := Lib.hid hpp
        have Hall := Lib.hid hall
        have hle : p1.length < l.length := by
          have h1 := HC.out
          have h2 := HP2.out
          have h3 := congrArg List.length hpp
          simp only [List.length_append, List.length_cons] at h1 h3
          omega
        clear hpp hall
        by_cases hj : 0 < p1.length
        · obtain ⟨p0, q, rfl⟩ : ∃ p0 q, p1 = p0 ++ [q] := ⟨p1.dropLast, p1.getLast (by rintro rfl; simp at hj), (List.dropLast_concat_getLast _).symm⟩
          have hq := hO1.str (k := p0.length) (by simp)
          have hx := hO1.str (k := p0.length + 1) (by simp)
          rw [show ((p0 ++ [q]) ++ x :: p2 ++ rest)[p0.length]'(by simp) = q by simp] at hq
          rw [show ((p0 ++ [q]) ++ x :: p2 ++ rest)[p0.length + 1]'(by simp) = x by simp] at hx
          have hlen : (((p0 ++ [q]).length : Nat) : Int) = (p0.length : Int) + 1 := by simp
          have hle' : p0.length + 1 < l.length := by simpa using hle
          have hO1' := Lib.hid hO1
          clear hO1 hj hle
          rw [hlen]
          have hd : decide ((0 : Int) < (p0.length : Int) + 1) = true := by rw [decide_eq_true_eq]; omega
          clear hlen
          by_cases hb : bless x q = true
          · have Hb := Lib.hid hb
            go_wp2
            go_quiet ((go_at_call 124; first | exact quiet_left (less_str _ _ _) | exact quiet_add_left (less_str _ _ _)))
            go_wp2
            have hq1 := hO1'.out.free p0.length
            have hq2 := hO1'.out.free (p0.length + 1)
            go_region
            go_wp2
            go_roundw
            case rel =>
              have hO2 := hO1'.out
              have hqs : q.size ≤ maxLen := hO2.2 q (by simp)
              have hxs : x.size ≤ maxLen := hO2.2 x (by simp)
              have hO3 := ((hO2.drewN (nq + 1)).set_str (i := p0.length + 1) (by simp) q hqs).set_str (i := p0.length) (by simp) x hxs
              rw [ins_step] at hO3
              refine ⟨p0, q :: p2, by go_num, by rw [← Hpp.out]; simp, fun y hy => ?_, hO3, grown_setCell (grown_setCell (grown_drewN hgr1 _) (.inl rfl) _) (.inl rfl) _⟩
              rcases List.mem_cons.1 hy with rfl | hy
              · exact Hb.out
              · exact Hall.out y hy
            case measure => simp [intOf]
          · have hb' : bless x q = false := by simpa using hb
            clear hb
            have Hb := Lib.hid hb'
            go_wp2
            go_quiet ((go_at_call 124; first | exact quiet_left (less_str _ _ _) | exact quiet_add_left (less_str _ _ _)))
            go_wp2
            go_roundw
            case rel =>
              obtain ⟨d1, d2, d3⟩ := ins_done Hpp.out HP2.out HS2.out HP.out HC.out (x := x) (by simp; exact Hb.out) Hall.out rfl
              exact ⟨ni + 1, _, by go_num, by omega, d1, hO1'.out.drewN _, grown_drewN hgr1 _, d2, d3⟩
            case measure => simp [intOf]; omega
        · obtain rfl : p1 = [] := List.length_eq_zero_iff.1 (by omega)
          have hO1' := Lib.hid hO1
          have hd : decide ((0 : Int) < 0) = false := rfl
          clear hO1 hj hle
          go_wp2
          go_quiet (fail)
          go_wp2
          go_roundw
          case rel =>
            obtain ⟨d1, d2, d3⟩ := ins_done Hpp.out HP2.out HS2.out HP.out HC.out (x := x) (by simp) Hall.out rfl
            exact ⟨ni + 1, _, by go_num, by omega, d1, hO1'.out.drewN _, grown_drewN hgr1 _, d2, d3⟩
          case measure => simp [intOf]; omega
    · have HP := Lib.hid hp
      have HS := Lib.hid hs
      have HC := Lib.hid hcl
      clear hp hs hcl
      go_wp2
      go_end0
      refine ⟨rfl, ?_, hgr⟩
      rw [← sortS_unique HP.out (by have := HS.out; rwa [List.take_of_length_le (by have := HC.out; omega)] at this)]
      exact hO
end Go.Proofs.Ytogecfddkohigaa
