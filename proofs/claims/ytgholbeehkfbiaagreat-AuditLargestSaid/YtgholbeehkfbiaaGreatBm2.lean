/- Texts of this claim, laid together: Sort, SortB, StrB, Compact, Touch, Clash, Slices, SlO, Swap. -/
import Derived.Test.YtgholbeehkfbiaaGreatRows
import Derived.Test.YtgholbeehkfbiaaGreatBm1
import Derived.Test.YtgholbeehkfbiaaGreatShelf
import Derived.WalkKit
import Derived.WalkSpells
import Derived.WalkLawsBesides
import Derived.Deep.QuietTactic
import Derived.BigQuiet
import Derived.Laws.StructEq
import Derived.Deep.DeepFit
import Derived.StillTailTactics
import Derived.Lib.AppendZeros

/- slices.Sort at strings, of twelve or fewer -/
namespace Go.Proofs.YtgholbeehkfbiaaGreat
open Go.RowKit

set_option maxRecDepth 100000 in
set_option maxHeartbeats 400000 in
theorem isNaN_str (s : ByteArray) (w : World) : Calls Tryz.prog 194 #[.string s] w fun e w' => e = .returned (.bool false) ∧ w = w' := by
  have h : (s.toList != s.toList) = false := by simp
  go_enter Tryz.func194, Tryz.ntmps194
  go_wp2
  go_ret
  exact ⟨rfl, rfl⟩
set_option maxRecDepth 100000 in
set_option maxHeartbeats 400000 in
theorem less_str (s t : ByteArray) (w : World) : Calls Tryz.prog 208 #[.string s, .string t] w fun e w' => e = .returned (.bool (bless s t)) ∧ w = w' := by
  go_enter Tryz.func208, Tryz.ntmps208
  go_wp2_with (go_at_call 194; refine (isNaN_str _ _).mono ?_; rintro e w' ⟨rfl, rfl⟩)
  go_ret
  exact ⟨rfl, rfl⟩

/-- the inner loop's step, in lists -/
theorem ins_step (p1 p2 rest : List ByteArray) (q x : ByteArray) : (((p1 ++ [q]) ++ x :: p2 ++ rest).set (p1.length + 1) q).set p1.length x = p1 ++ x :: (q :: p2) ++ rest := by
  simp
theorem ins_step' (p1 p2 rest : List ByteArray) (q x : ByteArray) : (((p1 ++ [q]) ++ x :: p2 ++ rest).set p1.length x).set (p1.length + 1) q = p1 ++ x :: (q :: p2) ++ rest := by
  simp

theorem sorted_mid {p1 p2 : List ByteArray} {x : ByteArray} (h : SortedB bless (p1 ++ p2)) (h1 : ∀ a, p1.getLast? = some a → bless x a = false) (h2 : ∀ y ∈ p2, bless x y = true) : SortedB bless (p1 ++ x :: p2) := by
  obtain ⟨ha, hb, hc⟩ := List.pairwise_append.1 h
  refine List.pairwise_append.2 ⟨ha, List.pairwise_cons.2 ⟨fun y hy => bless_strict.asymm (h2 y hy), hb⟩, fun a haa b hbb => ?_⟩
  rcases List.mem_cons.1 hbb with rfl | hbb
  · rcases List.eq_nil_or_concat p1 with rfl | ⟨p0, q, rfl⟩
    · cases haa
    · have hq := h1 q (by simp)
      rw [List.concat_eq_append] at haa ha
      rcases List.mem_append.1 haa with h0 | h0
      · exact bless_strict.co _ q _ hq ((List.pairwise_append.1 ha).2.2 a h0 q (by simp))
      · simp only [List.mem_singleton] at h0; subst h0; exact hq
  · exact hc a haa b hbb
theorem ins_done {p1 p2 p rest cur l : List ByteArray} {x : ByteArray} {ni : Nat} (hpp : p1 ++ p2 = p) (hpl : p.length = ni) (hs : SortedB bless p) (hp : (p ++ x :: rest).Perm l) (hc : (p ++ x :: rest).length = l.length)
    (h1 : ∀ a, p1.getLast? = some a → bless x a = false) (h2 : ∀ y ∈ p2, bless x y = true) (e : cur = p1 ++ x :: p2 ++ rest) : cur.length = l.length ∧ cur.Perm l ∧ SortedB bless (cur.take (ni + 1)) := by
  subst hpp hpl e
  refine ⟨by simp at hc ⊢; omega, ?_, ?_⟩
  · refine List.Perm.trans ?_ hp
    rw [List.append_assoc, List.append_assoc]
    refine List.Perm.append_left p1 ?_
    rw [List.cons_append]
    exact List.perm_middle.symm
  · rw [List.take_left' (by simp; omega)]
    exact sorted_mid hs h1 h2

set_option maxRecDepth 100000 in
set_option maxHeartbeats 1000000 in
theorem insertionSort_str (base : Nat) (gb cp : Nat) (l : List ByteArray) (w : World) (h : Own w base 9 (.slice (some ⟨gb, 0, none⟩) l.length cp) l) (hn : l.length ≤ 65536) :
    Calls Tryz.prog 202 #[.slice (some ⟨gb, 0, none⟩) l.length cp, i64 0, i64 l.length] w fun e w' => e = .returned (.tuple #[]) ∧ Own w' base 9 (.slice (some ⟨gb, 0, none⟩) l.length cp) (sortS l) ∧ w.grownBy w' (some gb) := by
  have hgr0 := World.grownBy.refl w (some gb)
  go_enter Tryz.func202, Tryz.ntmps202
  go_wp2
  go_loopw [6, 7] (fun i j wr => ∃ (ni : Nat) (cur : List ByteArray), i = i64 ni ∧ 1 ≤ ni ∧ cur.length = l.length ∧ Own wr base 9 (.slice (some ⟨gb, 0, none⟩) l.length cp) cur ∧ w.grownBy wr (some gb) ∧
      cur.Perm l ∧ SortedB bless (cur.take ni)) (fun i _ _ => l.length + 1 - (intOf i).toNat)
  case atStart => exact ⟨1, l, rfl, by omega, rfl, h, hgr0, .refl _, by cases l <;> simp [SortedB]⟩
  case round =>
    obtain ⟨ni, cur, rfl, hi1, hcl, hO, hgr, hp, hs⟩ := hrel
    by_cases hlt : ni < l.length
    · have HP := Lib.hid hp
      have HS := Lib.hid hs
      have HC := Lib.hid hcl
      clear hp hs hcl h hgr0
      obtain ⟨p, x, rest, hcur, hpl⟩ : ∃ p x rest, cur = p ++ x :: rest ∧ p.length = ni := ⟨cur.take ni, cur[ni]'(by have := HC.out; omega), cur.drop (ni + 1), by
        rw [← List.drop_eq_getElem_cons, List.take_append_drop], by rw [List.length_take]; have := HC.out; omega⟩
      subst hcur
      have HS2 : Hid (SortedB bless p) := Lib.hid (by have := HS.out; rwa [List.take_append_of_le_length (by omega), List.take_of_length_le (by omega)] at this)
      have HP2 : Hid (p.length = ni) := Lib.hid hpl
      clear HS hpl
      obtain ⟨wo, rfl⟩ : ∃ wo : World, wo = wr := ⟨_, rfl⟩
      go_wp2
      go_loopw [7] (fun j wr => ∃ (p1 p2 : List ByteArray), j = i64 p1.length ∧ p1 ++ p2 = p ∧ (∀ y ∈ p2, bless x y = true) ∧ Own wr base 9 (.slice (some ⟨gb, 0, none⟩) l.length cp) (p1 ++ x :: p2 ++ rest) ∧ w.grownBy wr (some gb)) (fun j _ => (intOf j).toNat)
      case atStart => exact ⟨p, [], by rw [HP2.out], by simp, by simp, by simpa using hO, hgr⟩
      case round =>
        obtain ⟨p1, p2, rfl, hpp, hall, hO1, hgr1⟩ := hrel
        have Hpp := Lib.hid hpp
        have Hall := Lib.hid hall
        have hle : p1.length < l.length := by
          have h1 := HC.out
          have h2 := HP2.out
          have h3 := congrArg List.length hpp
          simp only [List.length_append, List.length_cons] at h1 h3
          omega
        clear hpp hall
        by_cases hj : 0 < p1.length
        · obtain ⟨p0, q, rfl⟩ : ∃ p0 q, p1 = p0 ++ [q] := ⟨p1.dropLast, p1.getLast (by rintro rfl; simp at hj), (List.dropLast_concat_getLast _).symm⟩
          have hq := hO1.str (k := p0.length) (by simp)
          have hx := hO1.str (k := p0.length + 1) (by simp)
          rw [show ((p0 ++ [q]) ++ x :: p2 ++ rest)[p0.length]'(by simp) = q by simp] at hq
          rw [show ((p0 ++ [q]) ++ x :: p2 ++ rest)[p0.length + 1]'(by simp) = x by simp] at hx
          have hlen : (((p0 ++ [q]).length : Nat) : Int) = (p0.length : Int) + 1 := by simp
          have hle' : p0.length + 1 < l.length := by simpa using hle
          have hO1' := Lib.hid hO1
          clear hO1 hj hle
          rw [hlen]
          have hd : decide ((0 : Int) < (p0.length : Int) + 1) = true := by rw [decide_eq_true_eq]; omega
          clear hlen
          by_cases hb : bless x q = true
          · have Hb := Lib.hid hb
            go_wp2
            go_quiet ((go_at_call 208; first | exact quiet_left (less_str _ _ _) | exact quiet_add_left (less_str _ _ _)))
            go_wp2
            have hq1 := hO1'.out.free p0.length
            have hq2 := hO1'.out.free (p0.length + 1)
            go_region
            go_wp2
            go_roundw
            case rel =>
              have hO2 := hO1'.out
              have hqs : q.size ≤ maxLen := hO2.2 q (by simp)
              have hxs : x.size ≤ maxLen := hO2.2 x (by simp)
              have hO3 := ((hO2.drewN (nq + 1)).set_str (i := p0.length + 1) (by simp) q hqs).set_str (i := p0.length) (by simp) x hxs
              rw [ins_step] at hO3
              refine ⟨p0, q :: p2, by go_num, by rw [← Hpp.out]; simp, fun y hy => ?_, hO3, grown_setCell (grown_setCell (grown_drewN hgr1 _) (.inl rfl) _) (.inl rfl) _⟩
              rcases List.mem_cons.1 hy with rfl | hy
              · exact Hb.out
              · exact Hall.out y hy
            case measure => simp [intOf]
          · have hb' : bless x q = false := by simpa using hb
            clear hb
            have Hb := Lib.hid hb'
            go_wp2
            go_quiet ((go_at_call 208; first | exact quiet_left (less_str _ _ _) | exact quiet_add_left (less_str _ _ _)))
            go_wp2
            go_roundw
            case rel =>
              obtain ⟨d1, d2, d3⟩ := ins_done Hpp.out HP2.out HS2.out HP.out HC.out (x := x) (by simp; exact Hb.out) Hall.out rfl
              exact ⟨ni + 1, _, by go_num, by omega, d1, hO1'.out.drewN _, grown_drewN hgr1 _, d2, d3⟩
            case measure => simp [intOf]; omega
        · obtain rfl : p1 = [] := List.length_eq_zero_iff.1 (by omega)
          have hO1' := Lib.hid hO1
          have hd : decide ((0 : Int) < 0) = false := rfl
          clear hO1 hj hle
          go_wp2
          go_quiet (fail)
          go_wp2
          go_roundw
          case rel =>
            obtain ⟨d1, d2, d3⟩ := ins_done Hpp.out HP2.out HS2.out HP.out HC.out (x := x) (by simp) Hall.out rfl
            exact ⟨ni + 1, _, by go_num, by omega, d1, hO1'.out.drewN _, grown_drewN hgr1 _, d2, d3⟩
          case measure => simp [intOf]; omega
    · have HP := Lib.hid hp
      have HS := Lib.hid hs
      have HC := Lib.hid hcl
      clear hp hs hcl
      go_wp2
      go_end0
      refine ⟨rfl, ?_, hgr⟩
      rw [← sortS_unique HP.out (by have := HS.out; rwa [List.take_of_length_le (by have := HC.out; omega)] at this)]
      exact hO
end Go.Proofs.YtgholbeehkfbiaaGreat

/- slices.Sort, Compact at strings -/
namespace Go.Proofs.YtgholbeehkfbiaaGreat
open Go.RowKit
set_option maxRecDepth 100000 in
set_option maxHeartbeats 400000 in
theorem pdqsort_str (base : Nat) (gb cp : Nat) (l : List ByteArray) (lim : Int) (w : World) (h : Own w base 9 (.slice (some ⟨gb, 0, none⟩) l.length cp) l) (hn : l.length ≤ 12) :
    Calls Tryz.prog 183 #[.slice (some ⟨gb, 0, none⟩) l.length cp, i64 0, i64 l.length, i64 lim] w fun e w' => e = .returned (.tuple #[]) ∧ Own w' base 9 (.slice (some ⟨gb, 0, none⟩) l.length cp) (sortS l) ∧ w.grownBy w' (some gb) := by
  have hn' : l.length ≤ 65536 := by omega
  go_enter Tryz.func183, Tryz.ntmps183
  go_wp2_with fail
  refine wp_loop_rounds 1 ?_
  rw [rounds_succ]
  go_wp2_with (go_at_call 202; refine (insertionSort_str base gb cp l _ h hn').mono ?_; rintro e w' ⟨rfl, hO, hg⟩)
  refine bodyPost_ret (results_none rfl _ _ _) rfl ?_
  exact ⟨rfl, hO, hg⟩

theorem Own.nil_form {w : World} {base : Nat} {e : TypeId} {v : Value} {l : List ByteArray} (h : Own w base e v l) (hl : l = []) : ∃ A c, v = .slice A 0 c := by
  obtain ⟨A, c, hv, _⟩ := h.sl
  subst hl
  exact ⟨A, c, hv⟩
set_option maxRecDepth 100000 in
set_option maxHeartbeats 400000 in
theorem insertionSort_none (A : Option Addr) (c : Nat) (w : World) :
    Calls Tryz.prog 202 #[.slice A 0 c, i64 0, i64 0] w fun e w' => e = .returned (.tuple #[]) ∧ w = w' := by
  go_enter Tryz.func202, Tryz.ntmps202
  go_wp2_with fail
  refine wp_loop_rounds 1 ?_
  rw [rounds_succ]
  go_wp2
  go_end0
  exact ⟨rfl, rfl⟩
set_option maxRecDepth 100000 in
set_option maxHeartbeats 400000 in
theorem pdqsort_none (A : Option Addr) (c : Nat) (lim : Int) (w : World) :
    Calls Tryz.prog 183 #[.slice A 0 c, i64 0, i64 0, i64 lim] w fun e w' => e = .returned (.tuple #[]) ∧ w = w' := by
  go_enter Tryz.func183, Tryz.ntmps183
  go_wp2_with fail
  refine wp_loop_rounds 1 ?_
  rw [rounds_succ]
  go_wp2_with (go_at_call 202; refine (insertionSort_none A c _).mono ?_; rintro e w' ⟨rfl, rfl⟩)
  refine bodyPost_ret (results_none rfl _ _ _) rfl ?_
  exact ⟨rfl, rfl⟩
set_option maxRecDepth 100000 in
set_option maxHeartbeats 400000 in
theorem sort_str (base : Nat) (v : Value) (l : List ByteArray) (w : World) (h : Own w base 9 v l) (hn : l.length ≤ 12) :
    Calls Tryz.prog 129 #[v] w fun e w' => e = .returned (.tuple #[]) ∧ Own w' base 9 v (sortS l) ∧ w.grownBy w' v.ownBlock := by
  have hu : ∀ x : Int, 0 ≤ x → x ≤ 12 → IntKind.u64.wrap x = x := by intro x h0 h1; simp only [IntKind.wrap_u64]; omega
  rcases Nat.eq_zero_or_pos l.length with h0 | h0
  · have hl : l = [] := List.length_eq_zero_iff.1 h0
    obtain ⟨A, c, rfl⟩ := h.nil_form hl
    subst hl
    have H := Lib.hid h
    clear h h0 hn
    go_enter Tryz.func129, Tryz.ntmps129
    go_wp2_with (first | (go_at_call 184; refine (Tryz.bits_Len _ _ (by omega) (by omega)).mono ?_; rintro e w' ⟨rfl, rfl⟩) | (go_at_call 183; refine (pdqsort_none A c _ _).mono ?_; rintro e w' ⟨rfl, rfl⟩))
    go_end0
    exact ⟨rfl, H.out, World.grownBy.refl _ _⟩
  · obtain ⟨gb, cp, cur0, rfl, _⟩ := h.form h0
    have Hn := hn
    go_enter Tryz.func129, Tryz.ntmps129
    go_wp2_with (first | (go_at_call 184; refine (Tryz.bits_Len _ _ (by omega) (by omega)).mono ?_; rintro e w' ⟨rfl, rfl⟩) | (go_at_call 183; refine (pdqsort_str base gb cp l _ _ h hn).mono ?_; rintro e w' ⟨rfl, hO, hg⟩))
    go_end0
    exact ⟨rfl, hO, hg⟩
end Go.Proofs.YtgholbeehkfbiaaGreat

/- slices.DeleteFunc at strings -/
namespace Go.Proofs.YtgholbeehkfbiaaGreat
open Go.RowKit
theorem oneStr : ∀ u ∈ (Value.string ByteArray.empty).cells.toList, u.oneCell' = true := by
  intro u hu
  simp only [Value.cells, List.mem_singleton] at hu
  subst hu
  rfl

set_option maxRecDepth 100000 in
set_option maxHeartbeats 400000 in
theorem deleteFunc_str (base : Nat) (v : Value) (l : List ByteArray) (g : FuncId) (cap : Array Value) (p : ByteArray → Bool) (w : World) (h : Own w base 9 v l) (hn : l.length ≤ 65536)
    (eg : ∀ args w, (callFunc g args).run Tryz.prog w = .ok (.enter g args) w)
    (hf : ∀ x, x ∈ l → ∀ w1, w.grownBy w1 v.ownBlock → Calls Tryz.prog g (#[.string x] ++ cap) w1 fun e w2 => e = .returned (.bool (p x)) ∧ Below w1.heap.size w1 w2) :
    Calls Tryz.prog 127 #[v, .func (.func g) #[] cap] w fun e w' => ∃ v', e = .returned v' ∧ Own w' base 9 v' (l.filter fun x => !p x) ∧ w.grownBy w' v.ownBlock ∧ (v'.ownBlock = v.ownBlock) := by
  obtain ⟨A, c, hv, hs⟩ := h.sl
  have HI := Lib.hid (indexFunc_str A c l g cap p w hs hn eg (fun x hx w1 hb => hf x hx w1 (grown_of_below hb _)))
  by_cases hno : ∀ j (hj : j < l.length), p l[j] = false
  · have hfil : l.filter (fun x => !p x) = l := List.filter_eq_self.2 (fun x hx => by
      obtain ⟨j, hj, rfl⟩ := List.getElem_of_mem hx
      simp [hno j hj])
    rw [show idxP p l = -1 from idxP_miss hno] at HI
    rw [hfil, hv]
    rw [hv] at h hf
    have Hf := Lib.hid h
    clear hfil hno hf hv h hs eg
    go_enter Tryz.func127, Tryz.ntmps127
    go_wp2_with (go_at_call 182; refine (HI.out).mono ?_; rintro e w' ⟨rfl, hb⟩)
    go_ret
    exact ⟨_, rfl, Hf.out.later hb, grown_of_below hb _, rfl⟩
  · obtain ⟨i0, hi0, hpi0, hbef⟩ : ∃ i0, ∃ h : i0 < l.length, p l[i0] = true ∧ ∀ j (hj : j < l.length), j < i0 → p l[j] = false := by
      have hex : ∃ k, l.findIdx? p = some k := by
        cases hq : l.findIdx? p with
        | some k => exact ⟨k, rfl⟩
        | none => exact absurd (fun j hj => List.findIdx?_eq_none_iff.1 hq _ (List.getElem_mem hj)) hno
      obtain ⟨k, hk⟩ := hex
      obtain ⟨h1, h2, h3⟩ := List.findIdx?_eq_some_iff_getElem.1 hk
      exact ⟨k, h1, h2, fun j hj hjk => by simpa using h3 j hjk⟩
    rw [show idxP p l = i0 from idxP_hit hi0 hpi0 hbef] at HI
    have hfil0 : (l.take (i0 + 1)).filter (fun x => !p x) = l.take i0 := by
      rw [List.take_succ_eq_append_getElem hi0, List.filter_append, List.filter_eq_self.2 (fun x hx => by
        obtain ⟨j, hj, rfl⟩ := List.getElem_of_mem hx
        simp only [List.length_take] at hj
        rw [List.getElem_take, hbef j (by omega) (by omega)]; rfl)]
      simp [hpi0]
    clear hno hbef hpi0
    obtain ⟨gb, cp, cur0, rfl, hgb, _, hcap, hcapm, _, _⟩ := h.form (by omega)
    injection hv with hA hB hC
    subst hA hC
    have HF := Lib.hid hf
    have HF0 := Lib.hid hfil0
    have hcm : cp ≤ 9223372036854775807 := by unfold maxLen at hcapm; exact hcapm
    clear hf hfil0 hs hcapm hB
    have hne : ((i0 : Int) == -1) = false := by rw [beq_eq_false_iff_ne]; omega
    go_enter Tryz.func127, Tryz.ntmps127
    go_wp2_with (go_at_call 182; refine (HI.out).mono ?_; rintro e w' ⟨rfl, hb⟩)
    have hO' := h.later hb
    have hgr' := grown_of_below hb (some gb)
    go_loopw [5, 6] (fun i j wr => ∃ (ni nj : Nat) (cur : List ByteArray), i = i64 ni ∧ j = i64 nj ∧ ni < nj ∧ nj ≤ l.length ∧ cur.length = l.length ∧ Own wr base 9 (.slice (some ⟨gb, 0, none⟩) l.length cp) cur ∧ w.grownBy wr (some gb) ∧
      cur.take ni = (l.take nj).filter (fun x => !p x) ∧ cur.drop nj = l.drop nj) (fun _ j _ => l.length - (intOf j).toNat)
    case atStart => exact ⟨i0, i0 + 1, l, rfl, by go_num, by omega, by omega, rfl, hO', hgr', HF0.out.symm, rfl⟩
    case round =>
      obtain ⟨ni, nj, cur, rfl, rfl, hij, hjn, hcl, hO, hgr, htk, hdr⟩ := hrel
      by_cases hlt : nj < l.length
      · have hjc : nj < cur.length := by omega
        have hcj : cur[nj] = l[nj] := by
          have h1 : (cur.drop nj)[0]? = (l.drop nj)[0]? := by rw [hdr]
          simpa [hjc, hlt] using h1
        have d0 := hO.str hjc
        rw [hcj] at d0
        have HC := Lib.hid hcl
        have HT := Lib.hid htk
        have HD := Lib.hid hdr
        have HJ := Lib.hid hcj
        clear hcl htk hdr hcj
        go_wp2_with fail
        refine (HF.out _ (List.getElem_mem hlt) _ hgr).mono ?_
        rintro e w2 ⟨rfl, hb2⟩
        have hO2 := hO.later hb2
        have hgr2 := grown_trans hgr (grown_of_below hb2 (some gb))
        by_cases hp : p l[nj] = true
        · rw [hp]
          have Hp := Lib.hid hp
          clear hp
          go_wp2
          go_roundw
          case rel => exact ⟨ni, nj + 1, cur, rfl, by go_num, by omega, by omega, HC.out, hO2, hgr2, by rw [HT.out, List.take_succ_eq_append_getElem hlt, List.filter_append]; simp [Hp.out], by
            rw [← List.drop_drop, HD.out, List.drop_drop]⟩
          case measure => simp [intOf]; omega
        · have hp' : p l[nj] = false := by simpa using hp
          rw [hp']
          have Hp := Lib.hid hp'
          clear hp hp'
          have hok : Enc.ok w2 (Oth w2 (.slice (some ⟨gb, 0, none⟩) l.length cp)) l[nj] := by
            have := hO2.2 cur[nj] (List.getElem_mem hjc)
            rwa [HJ.out] at this
          have hni : ni < cur.length := by omega
          go_wp2_with (refine wpList_store_own rfl none (.tmp 33) (.tmp 32) 9 rfl rfl (by kernel_rfl) gb l.length cp ni ni l[nj] hO2 hni rfl (Nat.mul_one _).symm rfl hok ?_; intro w3 hO3 hg3)
          go_roundw
          case rel => exact ⟨ni + 1, nj + 1, cur.set ni l[nj], by go_num, by go_num, by omega, by omega, by rw [List.length_set]; exact HC.out, hO3, grown_trans hgr2 hg3, by
              rw [List.take_succ_eq_append_getElem (by rw [List.length_set]; exact hni), List.getElem_set_self, List.take_set_of_le (Nat.le_refl _), HT.out, List.take_succ_eq_append_getElem hlt, List.filter_append]; simp [Hp.out], by
              rw [List.drop_set_of_lt (by omega), ← List.drop_drop, HD.out, List.drop_drop]⟩
          case measure => simp [intOf]; omega
      · obtain rfl : nj = l.length := by omega
        have HC := Lib.hid hcl
        have HT := Lib.hid htk
        clear hcl htk hdr
        have hni : ni ≤ cur.length := by have := HC.out; omega
        go_wp2_with (refine wpList_clear_own rfl none (.tmp 38) 73 rfl rfl 9 Tryz.underlying73 (.string ByteArray.empty) (fun _ => by kernel_rfl) rfl oneStr gb l.length cp ni ni _ _ hO hni rfl (Nat.mul_one _).symm (fun _ => rfl) ?_; intro w3 hO3 hg3)
        go_ret
        exact ⟨_, rfl, by rw [HT.out, List.take_length] at hO3; exact hO3, grown_trans hgr hg3, rfl⟩
end Go.Proofs.YtgholbeehkfbiaaGreat

/- slices.Compact at strings -/
namespace Go.Proofs.YtgholbeehkfbiaaGreat
open Go.RowKit
/-- of each run of equal ones the first -/
def compactL : List ByteArray → List ByteArray
  | [] => []
  | [x] => [x]
  | x :: y :: r => if x = y then compactL (y :: r) else x :: compactL (y :: r)
theorem compactL_snoc (a b : ByteArray) : ∀ m : List ByteArray, compactL (m ++ [b, a]) = if b = a then compactL (m ++ [b]) else compactL (m ++ [b]) ++ [a]
  | [] => by by_cases h : b = a <;> simp [compactL, h]
  | [x] => by
    have := compactL_snoc a b []
    simp only [List.nil_append] at this
    by_cases h1 : x = b <;> by_cases h : b = a <;> simp [compactL, h1, h]
  | x :: y :: r => by
    have ih := compactL_snoc a b (y :: r)
    by_cases h1 : x = y <;> by_cases h : b = a <;> simp_all [compactL]
theorem compactL_take {l : List ByteArray} {j : Nat} (h : j + 1 < l.length) : compactL (l.take (j + 2)) = if l[j] = l[j + 1] then compactL (l.take (j + 1)) else compactL (l.take (j + 1)) ++ [l[j + 1]] := by
  rw [List.take_succ_eq_append_getElem h, List.take_succ_eq_append_getElem (by omega : j < l.length), List.append_assoc]
  exact compactL_snoc _ _ _

set_option maxRecDepth 100000 in
set_option maxHeartbeats 1000000 in
theorem compact_str (base : Nat) (v : Value) (l : List ByteArray) (w : World) (h : Own w base 9 v l) (hn : l.length ≤ 65536) :
    Calls Tryz.prog 130 #[v] w fun e w' => ∃ v', e = .returned v' ∧ Own w' base 9 v' (compactL l) ∧ w.grownBy w' v.ownBlock ∧ v'.ownBlock = v.ownBlock := by
  by_cases hs : l.length < 2
  · obtain ⟨A, c, rfl, _⟩ := h.sl
    have hcl : compactL l = l := by
      rcases l with _ | ⟨x, _ | ⟨y, r⟩⟩
      · rfl
      · rfl
      · simp at hs; omega
    rw [hcl]
    have H := Lib.hid h
    clear h hcl
    go_enter Tryz.func130, Tryz.ntmps130
    go_wp2
    go_ret
    exact ⟨_, rfl, H.out, World.grownBy.refl _ _, rfl⟩
  · obtain ⟨gb, cp, cur0, rfl, hgb, _, hcap, hcapm, _, _⟩ := h.form (by omega)
    have hcm : cp ≤ 9223372036854775807 := by unfold maxLen at hcapm; exact hcapm
    clear hcapm
    have HH := Lib.hid h
    have h2 : decide ((l.length : Int) < 2) = false := by rw [decide_eq_false_iff_not]; omega
    go_enter Tryz.func130, Tryz.ntmps130
    go_wp2
    go_loopw [3] (fun i wr => ∃ k : Nat, i = i64 (k + 1) ∧ k + 1 ≤ l.length ∧ compactL (l.take (k + 1)) = l.take (k + 1) ∧ ∃ nd, wr = w.drewN nd) (fun i _ => l.length + 1 - (intOf i).toNat)
    case atStart => exact ⟨0, rfl, by omega, by cases l <;> simp [compactL], 0, rfl⟩
    case round =>
      obtain ⟨k, rfl, hk, hc, nd, rfl⟩ := hrel
      have Hc := Lib.hid hc
      clear hc
      by_cases hlt : k + 1 < l.length
      · have hdk : decide ((k : Int) + 1 < (l.length : Int)) = true := by rw [decide_eq_true_eq]; omega
        have d0 := h.str (k := k) (by omega)
        have d1 := h.str hlt
        by_cases he : l[k + 1] = l[k]
        · have hq := beqS_of_eq he
          have He := Lib.hid he
          clear he
          go_wp2
          go_quiet (fail)
          go_wp2
          have hO0 := h.drewN (nd + nq)
          go_loopw [3, 5] (fun i j wr => ∃ (kk q : Nat) (cur : List ByteArray), i = i64 kk ∧ j = i64 (q + 1) ∧ k + 1 ≤ kk ∧ kk ≤ k + 1 + q ∧ k + q + 2 ≤ l.length ∧ cur.length = l.length ∧
            Own wr base 9 (.slice (some ⟨gb, 0, none⟩) l.length cp) cur ∧ w.grownBy wr (some gb) ∧ cur.take kk = compactL (l.take (k + q + 2)) ∧ cur.drop (k + 1 + q) = l.drop (k + 1 + q)) (fun _ j _ => l.length - (intOf j).toNat)
          case atStart => exact ⟨k + 1, 0, l, by go_num, by go_num, by omega, by omega, by omega, rfl, hO0, grown_drewN (World.grownBy.refl _ _) _, by
            rw [compactL_take hlt, if_pos He.out.symm, Hc.out], rfl⟩
          case round =>
            obtain ⟨kk, q, cur, rfl, rfl, hk1, hk2, hq2, hcl, hO, hgr, htk, hdr⟩ := hrel
            have HC := Lib.hid hcl
            have HT := Lib.hid htk
            have HD := Lib.hid hdr
            have hkc : kk < cur.length := by omega
            clear htk hdr
            by_cases hjl : k + q + 2 < l.length
            · have b0 : k + 1 + q < l.length := by omega
              have b1 : k + 1 + (q + 1) < l.length := by omega
              have e0 : cur[k + 1 + q]'(by omega) = l[k + 1 + q] := by
                have h1 : (cur.drop (k + 1 + q))[0]? = (l.drop (k + 1 + q))[0]? := by rw [HD.out]
                rw [List.getElem?_drop, List.getElem?_drop, List.getElem?_eq_getElem (by omega), List.getElem?_eq_getElem (by omega)] at h1
                exact Option.some.inj h1
              have e1 : cur[k + 1 + (q + 1)]'(by omega) = l[k + 1 + (q + 1)] := by
                have h1 : (cur.drop (k + 1 + q))[1]? = (l.drop (k + 1 + q))[1]? := by rw [HD.out]
                rw [List.getElem?_drop, List.getElem?_drop, List.getElem?_eq_getElem (by omega), List.getElem?_eq_getElem (by omega)] at h1
                exact Option.some.inj h1
              have c0 : wr.cell? ⟨gb, k + 1 + q, none⟩ = some (.string l[k + 1 + q]) := by rw [hO.str (k := k + 1 + q) (by omega), e0]
              have c1 : wr.cell? ⟨gb, k + 1 + (q + 1), none⟩ = some (.string l[k + 1 + (q + 1)]) := by rw [hO.str (k := k + 1 + (q + 1)) (by omega), e1]
              have E1 : Hid (l[k + 1 + (q + 1)].size ≤ maxLen) := Lib.hid (by have h5 := hO.2 _ (List.getElem_mem (l := cur) (n := k + 1 + (q + 1)) (by omega)); rw [e1] at h5; exact h5)
              have hidx : k + q + 1 + 1 < l.length := hjl
              clear e0 e1 hcl
              by_cases hne : l[k + 1 + (q + 1)] = l[k + 1 + q]
              · have hq3 : (l[k + 1 + (q + 1)].toList != l[k + 1 + q].toList) = false := by rw [hne]; simp
                have hq4 := beqS_of_eq hne
                have Hne := Lib.hid hne
                clear hne
                go_wp2
                go_quiet (fail)
                go_wp2
                go_roundw
                case rel => exact ⟨kk, q + 1, cur, rfl, by go_num, by omega, by omega, by omega, HC.out, hO.drewN _, grown_drewN hgr _, by
                    have h6 := compactL_take (l := l) (j := k + 1 + q) (by omega)
                    have ht : cur.take kk = compactL (l.take (k + 1 + q + 1)) := by rw [HT.out, show k + q + 2 = k + 1 + q + 1 by omega]
                    rw [if_pos (show l[k + 1 + q] = l[k + 1 + q + 1] from Hne.out.symm), ← ht] at h6
                    rw [← h6, show k + (q + 1) + 2 = k + 1 + q + 2 by omega], by
                    have := congrArg (List.drop 1) HD.out
                    rwa [List.drop_drop, List.drop_drop] at this⟩
                case measure => simp [intOf]; omega
              · have hq3 : (l[k + 1 + (q + 1)].toList != l[k + 1 + q].toList) = true := by
                  have := beqS_of_ne hne
                  simp [bne, this]
                have hq4 := beqS_of_ne hne
                have Hne := Lib.hid hne
                clear hne
                go_wp2
                go_quiet (fail)
                have hkc' : kk < cur.length := by rw [HC.out]; omega
                go_wp2_with (refine wpList_store_own rfl none (.tmp 51) (.tmp 50) 9 rfl rfl (by kernel_rfl) gb l.length cp kk kk l[k + 1 + (q + 1)] (hO.drewN nq) hkc' rfl (Nat.mul_one _).symm rfl E1.out ?_; intro w3 hO3 hg3)
                go_roundw
                case rel => exact ⟨kk + 1, q + 1, cur.set kk l[k + 1 + (q + 1)], by go_num, by go_num, by omega, by omega, by omega, by rw [List.length_set]; exact HC.out, hO3, grown_trans (grown_drewN hgr _) hg3, by
                    have h6 := compactL_take (l := l) (j := k + 1 + q) (by omega)
                    have ht : cur.take kk = compactL (l.take (k + 1 + q + 1)) := by rw [HT.out, show k + q + 2 = k + 1 + q + 1 by omega]
                    rw [if_neg (show ¬ l[k + 1 + q] = l[k + 1 + q + 1] from fun e => Hne.out e.symm), ← ht] at h6
                    rw [show k + (q + 1) + 2 = k + 1 + q + 2 by omega, h6, List.take_succ_eq_append_getElem (by rw [List.length_set]; exact hkc'), List.getElem_set_self, List.take_set_of_le (Nat.le_refl _)]; rfl, by
                    rw [List.drop_set_of_lt (by omega)]
                    have := congrArg (List.drop 1) HD.out
                    rwa [List.drop_drop, List.drop_drop] at this⟩
                case measure => simp [intOf]; omega
            · have hkc2 : kk ≤ cur.length := by omega
              have hkl : kk < l.length := by omega
              clear hcl
              go_wp2_with (refine wpList_clear_own rfl none (.tmp 56) 73 rfl rfl 9 Tryz.underlying73 (.string ByteArray.empty) (fun _ => by kernel_rfl) rfl oneStr gb l.length cp kk kk _ _ hO hkc2 rfl (Nat.mul_one _).symm (fun _ => rfl) ?_; intro w3 hO3 hg3)
              go_ret
              exact ⟨_, rfl, by rw [HT.out, List.take_of_length_le (by omega)] at hO3; exact hO3, grown_trans hgr hg3, rfl⟩
        · have hq := beqS_of_ne he
          have He := Lib.hid he
          clear he
          go_wp2
          go_quiet (fail)
          go_wp2
          go_roundw
          case rel => exact ⟨k + 1, by go_num, by omega, by rw [compactL_take hlt, if_neg (fun e => He.out e.symm), Hc.out, ← List.take_succ_eq_append_getElem hlt], _, rfl⟩
          case measure => simp [intOf]; omega
      · go_wp2
        go_ret
        refine ⟨_, rfl, ?_, grown_drewN (World.grownBy.refl _ _) _, rfl⟩
        have := Hc.out
        rw [List.take_of_length_le (by omega)] at this
        rw [this]
        exact HH.out.drewN _
end Go.Proofs.YtgholbeehkfbiaaGreat

/- order.Touches -/
namespace Go.Proofs.YtgholbeehkfbiaaGreat
open Go.RowKit
abbrev nonE (s : ByteArray) : Bool := !s.toList.isEmpty
/-- order.Touches -/
def touches (x : Od) : List ByteArray := compactL (sortS ((x.acct :: x.peer :: x.legs.map Leg.acct).filter nonE))

theorem strInfo : (Tryz.prog.info? 9).map (fun i => (i.zero, i.size, i.bytes)) = some (some (.string ByteArray.empty), Enc.size ByteArray, 16) := by kernel_rfl

set_option maxRecDepth 100000 in
set_option maxHeartbeats 400000 in
theorem touches1_c (s : ByteArray) (w : World) : Calls Tryz.prog 128 #[.string s] w fun e w' => e = .returned (.bool s.toList.isEmpty) ∧ w = w' := by
  go_enter Tryz.func128, Tryz.ntmps128
  go_wp2
  go_ret
  exact ⟨rfl, rfl⟩

set_option maxRecDepth 100000 in
set_option maxHeartbeats 1000000 in
theorem touches_c (x : Od) (w : World) (hx : Okb w w.heap.size x) (hl : x.legs.length ≤ 10) :
    Calls Tryz.prog 78 #[x.v] w fun e w' => ∃ v, e = .returned v ∧ Own w' w.heap.size 9 v (touches x) ∧ Below w.heap.size w w' := by
  obtain ⟨ha, hp, -, hlg⟩ := hx
  have Ha := Lib.hid ha
  have Hp := Lib.hid hp
  clear ha hp
  unfold Od.v
  go_enter Tryz.func78, Tryz.ntmps78
  go_wp2
  have hO0 : Own ((w.alloc (.cells #[i64 x.client, i64 x.seq, i64 x.kind, .string x.acct, .string x.peer, i64 x.sum, .slice x.la x.legs.length x.lc, i64 x.period, i64 x.hold, .string x.note] 37)).alloc (.cells #[.string x.acct, .string x.peer] 9)) w.heap.size 9 (.slice (some ⟨w.heap.size + 1, 0, none⟩) 2 2) [x.acct, x.peer] := by
    have h2 := own_lit (w := w.alloc (.cells #[i64 x.client, i64 x.seq, i64 x.kind, .string x.acct, .string x.peer, i64 x.sum, .slice x.la x.legs.length x.lc, i64 x.period, i64 x.hold, .string x.note] 37)) (base := w.heap.size) 9 #[.string x.acct, .string x.peer] [x.acct, x.peer] (by simp) rfl (by simp) (by
      intro s hs
      simp only [List.mem_cons, List.not_mem_nil, or_false] at hs
      rcases hs with rfl | rfl
      · exact Ha.out
      · exact Hp.out)
    simpa using h2
  have hb0 : Below w.heap.size w ((w.alloc (.cells #[i64 x.client, i64 x.seq, i64 x.kind, .string x.acct, .string x.peer, i64 x.sum, .slice x.la x.legs.length x.lc, i64 x.period, i64 x.hold, .string x.note] 37)).alloc (.cells #[.string x.acct, .string x.peer] 9)) := ((Below.refl _ _).alloc (Nat.le_refl _) _).alloc (by simp) _
  go_loopw [3, 14] (fun v i wr => ∃ k : Nat, i = i64 k ∧ k ≤ x.legs.length ∧ Own wr w.heap.size 9 v ((x.acct :: x.peer :: x.legs.map Leg.acct).take (k + 2)) ∧ Below w.heap.size w wr) (fun _ i _ => x.legs.length - (intOf i).toNat)
  case atStart => exact ⟨0, rfl, by omega, hO0, hb0⟩
  case round =>
    obtain ⟨k, rfl, hk, hO, hb⟩ := hrel
    by_cases hlt : k < x.legs.length
    · obtain ⟨b, o, hA, hbb, hsz, c0, c1⟩ := (hlg.later hb).leg hlt
      have Hsz := Lib.hid hsz
      rw [hA]
      clear hA hsz hO0 hb0
      have hszr := hb.size
      have hO1 := (hO.later ((Below.refl _ _).alloc (Nat.le_refl _) (.cells #[.string x.legs[k].acct, i64 x.legs[k].sum] 173)))
      have hO2 := hO1.later ((Below.refl _ _).alloc (Nat.le_refl _) (.cells #[.string x.legs[k].acct] 9))
      have hne := hO.new_ne (Nat.le_succ wr.heap.size)
      have hHeap := heap_alloc2_new wr (.cells #[.string x.legs[k].acct, i64 x.legs[k].sum] 173) (.cells #[.string x.legs[k].acct] 9)
      have hlen : ((x.acct :: x.peer :: x.legs.map Leg.acct).take (k + 2)).length = k + 2 := by simp; omega
      have hbb' : Below w.heap.size w ((wr.alloc (.cells #[.string x.legs[k].acct, i64 x.legs[k].sum] 173)).alloc (.cells #[.string x.legs[k].acct] 9)) := (hb.alloc hszr _).alloc (by simp; omega) _
      have HO2 := Lib.hid hO2
      have Hne := Lib.hid hne
      have HH := Lib.hid hHeap
      have HL := Lib.hid hlen
      clear hO2 hne hHeap hlen hO1 hO
      go_wp2_with (at_builtin; refine wpList_append_one rfl (some 22) (.tmp 18) (.tmp 21) 73 rfl rfl (.string ByteArray.empty) 16 Tryz.underlying73 strInfo rfl Nat.one_pos (by decide) rfl HO2.out (wr.heap.size + 1) x.legs[k].acct rfl _ 9 HH.out rfl Hne.out Hsz.out (by rw [HL.out]; omega) hbb'.size ?_; intro v3 w3 hO3 hg3 hat3)
      go_roundw
      case rel => exact ⟨k + 1, by go_num, by omega, by
        rw [show k + 1 + 2 = k + 2 + 1 from rfl, List.take_succ_eq_append_getElem (by simp; omega)]
        simpa using hO3, hbb'.trans (HO2.out.below hg3 (Nat.le_refl _) hbb'.size)⟩
      case measure => simp [intOf]; omega
    · have hkl : k = x.legs.length := by omega
      subst hkl
      clear hO0 hb0
      rw [List.take_of_length_le (by simp)] at hO
      go_wp2_with fail
      refine (deleteFunc_str w.heap.size _ _ 128 #[] (fun s => s.toList.isEmpty) _ hO (by simp; omega) (enters_of Tryz.func128 (by kernel_rfl) rfl) (fun s _ w1 _ => (touches1_c s w1).mono (fun e w2 h => ⟨h.1, h.2 ▸ Below.refl _ _⟩))).mono ?_
      rintro e w1 ⟨v1, rfl, hO1, hg1, hv1⟩
      have hb1 := hb.trans (hO.below hg1 (Nat.le_refl _) hb.size)
      have hl1 : ((x.acct :: x.peer :: x.legs.map Leg.acct).filter nonE).length ≤ 12 := Nat.le_trans (List.length_filter_le _ _) (by simp; omega)
      have HL1 := Lib.hid hl1
      clear hl1 hO
      go_wp2_with fail
      refine (sort_str w.heap.size _ _ _ hO1 HL1.out).mono ?_
      rintro e w2 ⟨rfl, hO2, hg2⟩
      have hb2 := hb1.trans (hO1.below hg2 (Nat.le_refl _) hb1.size)
      clear hO1
      go_wp2_with fail
      refine (compact_str w.heap.size _ _ _ hO2 (by rw [(sortB_perm _).length_eq]; exact Nat.le_trans HL1.out (by decide))).mono ?_
      rintro e w3 ⟨v3, rfl, hO3, hg3, hv3⟩
      have hb3 := hb2.trans (hO2.below hg3 (Nat.le_refl _) hb2.size)
      clear hO2
      go_wp2
      go_ret
      exact ⟨_, rfl, hO3, hb3⟩
end Go.Proofs.YtgholbeehkfbiaaGreat

/- clash.Clash -/
namespace Go.Proofs.YtgholbeehkfbiaaGreat
open Go.RowKit
/-- clash.Clash -/
def clashB (x y : Od) : Bool :=
  decide (x.id = y.id) || (decide (x.kind = 6) || decide (y.kind = 6)) || (decide (x.kind = 1) && decide (y.kind = 1)) || (touches x).any fun s => (touches y).any fun t => decide (s = t)

set_option maxRecDepth 100000 in
set_option maxHeartbeats 400000 in
theorem clash1_c (s : ByteArray) (g : Nat) (A : Option Addr) (c : Nat) (l : List ByteArray) (w : World) (hg : w.cell? ⟨g, 0, none⟩ = some (.slice A l.length c)) (h : Sl w w.heap.size A c l) (hn : l.length ≤ 65536) :
    Calls Tryz.prog 146 #[.string s, .pointer (some ⟨g, 0, none⟩)] w fun e w' => e = .returned (.bool (l.any fun t => decide (s = t))) ∧ Below w.heap.size w w' := by
  have H := Lib.hid (contains_str A c l s w h hn)
  clear h
  go_enter Tryz.func146, Tryz.ntmps146
  go_wp2_with (go_at_call 79; refine (H.out).mono ?_; rintro e w' ⟨rfl, hb⟩)
  go_ret
  exact ⟨rfl, hb⟩

theorem touches_len (x : Od) (h : x.legs.length ≤ 10) : (touches x).length ≤ 12 := by
  have h1 : ∀ l : List ByteArray, (compactL l).length ≤ l.length := by
    intro l
    induction l using compactL.induct with
    | case1 => simp [compactL]
    | case2 x => simp [compactL]
    | case3 => rw [compactL, if_pos rfl]; simp_all; omega
    | case4 => rw [compactL, if_neg (by assumption)]; simp_all
  refine Nat.le_trans (h1 _) ?_
  rw [(sortB_perm _).length_eq]
  exact Nat.le_trans (List.length_filter_le _ _) (by simp; omega)

set_option maxRecDepth 100000 in
set_option maxHeartbeats 1000000 in
theorem clash_c (x y : Od) (w : World) (hx : Okb w w.heap.size x) (hy : Okb w w.heap.size y) (hlx : x.legs.length ≤ 10) (hly : y.legs.length ≤ 10) :
    Calls Tryz.prog 105 #[x.v, y.v] w fun e w' => e = .returned (.bool (clashB x y)) ∧ Below w.heap.size w w' := by
  have hb2 : Below w.heap.size w ((w.alloc (.cells #[i64 x.client, i64 x.seq, i64 x.kind, .string x.acct, .string x.peer, i64 x.sum, .slice x.la x.legs.length x.lc, i64 x.period, i64 x.hold, .string x.note] 37)).alloc (.cells #[i64 y.client, i64 y.seq, i64 y.kind, .string y.acct, .string y.peer, i64 y.sum, .slice y.la y.legs.length y.lc, i64 y.period, i64 y.hold, .string y.note] 37)) := ((Below.refl _ _).alloc (Nat.le_refl _) _).alloc (by simp) _
  by_cases h1 : x.id = y.id
  · have q1 : ∀ W : World, (binOp .eql 34 (.agg #[i64 x.client, i64 x.seq]) (.agg #[i64 y.client, i64 y.seq])).run Tryz.prog W = .ok (.bool true) W := fun W => by rw [eq_id, decide_eq_true (show Id.mk x.client x.seq = ⟨y.client, y.seq⟩ from h1)]
    have Hs : Hid (clashB x y = true) := Lib.hid (by unfold clashB; rw [decide_eq_true h1]; rfl)
    clear h1 hx hy
    unfold Od.v
    go_enter Tryz.func105, Tryz.ntmps105
    go_wp2
    go_ret
    exact ⟨by rw [Hs.out]; rfl, hb2⟩
  · have q1 : ∀ W : World, (binOp .eql 34 (.agg #[i64 x.client, i64 x.seq]) (.agg #[i64 y.client, i64 y.seq])).run Tryz.prog W = .ok (.bool false) W := fun W => by rw [eq_id, decide_eq_false (show ¬ Id.mk x.client x.seq = ⟨y.client, y.seq⟩ from h1)]
    have H1 := Lib.hid h1
    clear h1
    by_cases h2 : x.kind = 6
    · have q2 : (x.kind == 6) = true := beq_iff_eq.2 h2
      have Hs : Hid (clashB x y = true) := Lib.hid (by unfold clashB; rw [decide_eq_false H1.out, decide_eq_true h2]; rfl)
      clear h2 hx hy
      unfold Od.v
      go_enter Tryz.func105, Tryz.ntmps105
      go_wp2
      go_ret
      exact ⟨by rw [Hs.out]; rfl, hb2⟩
    · have q2 : (x.kind == 6) = false := beq_eq_false_iff_ne.2 h2
      have H2 := Lib.hid h2
      clear h2
      by_cases h3 : y.kind = 6
      · have q3 : (y.kind == 6) = true := beq_iff_eq.2 h3
        have Hs : Hid (clashB x y = true) := Lib.hid (by unfold clashB; rw [decide_eq_false H1.out, decide_eq_false H2.out, decide_eq_true h3]; rfl)
        clear h3 hx hy
        unfold Od.v
        go_enter Tryz.func105, Tryz.ntmps105
        go_wp2
        go_ret
        exact ⟨by rw [Hs.out]; rfl, hb2⟩
      · have q3 : (y.kind == 6) = false := beq_eq_false_iff_ne.2 h3
        have H3 := Lib.hid h3
        clear h3
        by_cases h4 : x.kind = 1 ∧ y.kind = 1
        · have q4 : (x.kind == 1) = true := beq_iff_eq.2 h4.1
          have q5 : (y.kind == 1) = true := beq_iff_eq.2 h4.2
          have Hs : Hid (clashB x y = true) := Lib.hid (by unfold clashB; rw [decide_eq_false H1.out, decide_eq_false H2.out, decide_eq_false H3.out, decide_eq_true h4.1, decide_eq_true h4.2]; rfl)
          clear h4 hx hy
          unfold Od.v
          go_enter Tryz.func105, Tryz.ntmps105
          go_wp2
          go_ret
          exact ⟨by rw [Hs.out]; rfl, hb2⟩
        · have Hs : Hid (clashB x y = (touches x).any fun s => (touches y).any fun t => decide (s = t)) := Lib.hid (by
            unfold clashB
            rw [decide_eq_false H1.out, decide_eq_false H2.out, decide_eq_false H3.out, ← Bool.decide_and, decide_eq_false h4]; rfl)
          have Hx := Lib.hid (show Okb w w.heap.size x from hx)
          have Hy := Lib.hid (show Okb w w.heap.size y from hy)
          clear hx hy
          unfold Od.v
          by_cases h5 : x.kind = 1
          · have q4 : (x.kind == 1) = true := beq_iff_eq.2 h5
            have q5 : (y.kind == 1) = false := beq_eq_false_iff_ne.2 fun h => h4 ⟨h5, h⟩
            clear h4 h5
            go_enter Tryz.func105, Tryz.ntmps105
            go_wp2_with fail
            refine (touches_c y _ (Hy.out.later hb2) hly).mono ?_
            rintro e w1 ⟨v1, rfl, hO1, hb1⟩
            obtain ⟨A1, c1, rfl, hs1⟩ := hO1.sl
            have hbw := hb2.trans (hb1.mono hb2.size)
            have hbA := (Below.refl w1.heap.size w1).alloc (Nat.le_refl _) (.cells #[.slice A1 (touches y).length c1] 73)
            have hb3 := hbw.alloc hbw.size (.cells #[.slice A1 (touches y).length c1] 73)
            have Hs1 := Lib.hid hs1
            have hcx : ∀ o, w1.cell? ⟨w.heap.size, o, none⟩ = _ := fun o => hb1.cell (p := ⟨w.heap.size, o, none⟩) (by simp; omega)
            have hzx : w.heap.size < w1.heap.size := by have := hb1.size; simp at this; omega
            clear hs1 hO1 hb2
            go_wp2_with fail
            clear hcx
            refine (touches_c x _ (Hx.out.later hb3) hlx).mono ?_
            rintro e w2 ⟨v2, rfl, hO2, hb4⟩
            obtain ⟨A2, c2, rfl, hs2⟩ := hO2.sl
            have hb5 := hb3.trans (hb4.mono hb3.size)
            have hb6 := hbA.trans (hb4.mono hbA.size)
            have hc2 : w2.cell? ⟨w1.heap.size, 0, none⟩ = some (.slice A1 (touches y).length c1) := (hb4.cell (p := ⟨w1.heap.size, 0, none⟩) (by simp)).trans (cell_of_row _ w1.heap.size 0 #[.slice A1 (touches y).length c1] 73 (0, 0) (heap_alloc_new w1 _))
            have Hc2 := Lib.hid hc2
            have HT := Lib.hid (touches_len y hly)
            have Hlt : w1.heap.size < w2.heap.size := by have := hb4.size; simp at this; omega
            clear hO2 hc2
            go_wp2_with fail
            refine (containsFunc_str A2 c2 (touches x) 146 #[.pointer (some ⟨w1.heap.size, 0, none⟩)] (fun s => (touches y).any fun t => decide (s = t)) _ hs2 (Nat.le_trans (touches_len x hlx) (by decide)) (enters_of Tryz.func146 (by kernel_rfl) rfl)
              (fun s _ w3 hb7 => clash1_c s w1.heap.size A1 c1 (touches y) w3 ((hb7.cell (p := ⟨w1.heap.size, 0, none⟩) Hlt).trans Hc2.out) (Hs1.out.later (hb6.trans (hb7.mono hb6.size))) (Nat.le_trans HT.out (by decide)))).mono ?_
            rintro e w3 ⟨rfl, hb8⟩
            go_wp2
            go_ret
            exact ⟨by rw [Hs.out]; rfl, hb5.trans (hb8.mono hb5.size)⟩
          · have q4 : (x.kind == 1) = false := beq_eq_false_iff_ne.2 h5
            clear h4 h5
            go_enter Tryz.func105, Tryz.ntmps105
            go_wp2_with fail
            refine (touches_c y _ (Hy.out.later hb2) hly).mono ?_
            rintro e w1 ⟨v1, rfl, hO1, hb1⟩
            obtain ⟨A1, c1, rfl, hs1⟩ := hO1.sl
            have hbw := hb2.trans (hb1.mono hb2.size)
            have hbA := (Below.refl w1.heap.size w1).alloc (Nat.le_refl _) (.cells #[.slice A1 (touches y).length c1] 73)
            have hb3 := hbw.alloc hbw.size (.cells #[.slice A1 (touches y).length c1] 73)
            have Hs1 := Lib.hid hs1
            have hcx : ∀ o, w1.cell? ⟨w.heap.size, o, none⟩ = _ := fun o => hb1.cell (p := ⟨w.heap.size, o, none⟩) (by simp; omega)
            have hzx : w.heap.size < w1.heap.size := by have := hb1.size; simp at this; omega
            clear hs1 hO1 hb2
            go_wp2_with fail
            clear hcx
            refine (touches_c x _ (Hx.out.later hb3) hlx).mono ?_
            rintro e w2 ⟨v2, rfl, hO2, hb4⟩
            obtain ⟨A2, c2, rfl, hs2⟩ := hO2.sl
            have hb5 := hb3.trans (hb4.mono hb3.size)
            have hb6 := hbA.trans (hb4.mono hbA.size)
            have hc2 : w2.cell? ⟨w1.heap.size, 0, none⟩ = some (.slice A1 (touches y).length c1) := (hb4.cell (p := ⟨w1.heap.size, 0, none⟩) (by simp)).trans (cell_of_row _ w1.heap.size 0 #[.slice A1 (touches y).length c1] 73 (0, 0) (heap_alloc_new w1 _))
            have Hc2 := Lib.hid hc2
            have HT := Lib.hid (touches_len y hly)
            have Hlt : w1.heap.size < w2.heap.size := by have := hb4.size; simp at this; omega
            clear hO2 hc2
            go_wp2_with fail
            refine (containsFunc_str A2 c2 (touches x) 146 #[.pointer (some ⟨w1.heap.size, 0, none⟩)] (fun s => (touches y).any fun t => decide (s = t)) _ hs2 (Nat.le_trans (touches_len x hlx) (by decide)) (enters_of Tryz.func146 (by kernel_rfl) rfl)
              (fun s _ w3 hb7 => clash1_c s w1.heap.size A1 c1 (touches y) w3 ((hb7.cell (p := ⟨w1.heap.size, 0, none⟩) Hlt).trans Hc2.out) (Hs1.out.later (hb6.trans (hb7.mono hb6.size))) (Nat.le_trans HT.out (by decide)))).mono ?_
            rintro e w3 ⟨rfl, hb8⟩
            go_wp2
            go_ret
            exact ⟨by rw [Hs.out]; rfl, hb5.trans (hb8.mono hb5.size)⟩
end Go.Proofs.YtgholbeehkfbiaaGreat

/- Slices of slices as data; a new row with room. No program. -/
namespace Go.Proofs.YtgholbeehkfbiaaGreat
open Go.RowKit

/-- a slice as a datum: where it lies, and what it reads as -/
structure SV (α : Type) where
  a : Option Addr
  c : Nat
  l : List α
instance encSV {α : Type} [Enc α] : Enc (SV α) where
  size := 1
  cells s := [.slice s.a s.l.length s.c]
  val s := .slice s.a s.l.length s.c
  ok w S s := SlS w S s.a s.c s.l
  len _ := rfl
  one _ v hv := by simp only [List.mem_singleton] at hv; subst hv; rfl
  keep h hk hS := h.keep hk hS
theorem SlS.sv {α : Type} [Enc α] {w : World} {S : Nat → Prop} {c : Nat} {A : Option Addr} {l : List (SV α)} (h : SlS w S A c l) {k : Nat} (hk : k < l.length) : ∃ b o, A = some ⟨b, o, none⟩ ∧ S b ∧ SlS w S l[k].a l[k].c l[k].l ∧
    w.cell? ⟨b, o + k, none⟩ = some (.slice l[k].a l[k].l.length l[k].c) := by
  obtain ⟨b, o, hA, hb, hok, hc⟩ := h.at_ hk
  have h0 := hc 0 _ rfl
  rw [show k * Enc.size (SV α) + 0 = k from Nat.mul_one k] at h0
  exact ⟨b, o, hA, hb, hok, h0⟩
section
variable {α : Type} [Enc α]
theorem own_room (w : World) (base : Nat) (e : TypeId) (cap : Nat) (cs : Array Value) (hb : base ≤ w.heap.size) (hm : cap ≤ maxLen) (hcs : cs.size = cap * Enc.size α) : Own (w.alloc (.cells cs e)) base e (.slice (some ⟨w.heap.size, 0, none⟩) 0 cap) ([] : List α) :=
  ⟨⟨by simp, .inr ⟨w.heap.size, cap, cs, rfl, hb, heap_alloc_new w _, Nat.zero_le _, hm, hcs, by simp⟩⟩, by simp⟩
end
end Go.Proofs.YtgholbeehkfbiaaGreat

/- Clone, Grow, Concat at api.Order -/
namespace Go.Proofs.YtgholbeehkfbiaaGreat
open Go.RowKit
theorem inf_od : (Tryz.prog.info? 37).map (fun i => (i.zero, i.size, i.bytes)) = some (some (.agg #[i64 0, i64 0, i64 0, .string ByteArray.empty, .string ByteArray.empty, i64 0, .slice none 0 0, i64 0, i64 0, .string ByteArray.empty]), Enc.size Od, 120) := by kernel_rfl

set_option maxRecDepth 100000 in
set_option maxHeartbeats 400000 in
theorem clone_od (A : Option Addr) (c : Nat) (l : List Od) (w : World) (h : Sl w w.heap.size A c l) (hn : l.length ≤ 65536) :
    Calls Tryz.prog 106 #[.slice A l.length c] w fun e w' => ∃ v, e = .returned v ∧ Own w' w.heap.size 37 v l ∧ Below w.heap.size w w' := by
  have hnil := fun W : World => Lib.run_eql_slice_nil (P := Tryz.prog) W 22 37 A l.length c 0 0 Tryz.underlying22
  cases A with
  | none =>
    have hl : l = [] := by
      rcases l with _ | ⟨x, r⟩
      · rfl
      · obtain ⟨_, _, h1, _⟩ := h.2.2.1 (by simp); cases h1
    subst hl
    simp only [Option.isNone_none, List.length_nil] at hnil
    go_enter Tryz.func106, Tryz.ntmps106
    go_wp2
    go_ret
    exact ⟨_, rfl, Own.nil_ _ _ _, Below.refl _ _⟩
  | some ad =>
    simp only [Option.isNone_some] at hnil
    have hO0 := own_lit (w := w) (base := w.heap.size) 37 #[] ([] : List Od) (Nat.le_refl _) rfl (by simp) (by simp)
    have hbx := (Below.refl w.heap.size w).alloc (Nat.le_refl _) (.cells #[] 37)
    have hs := (h.below hbx).mono (hO0.oth (Nat.le_refl _) hbx.size)
    go_enter Tryz.func106, Tryz.ntmps106
    go_wp2_with (at_builtin; refine wpList_append_slice rfl (some 7) (.tmp 5) (.tmp 6) 22 rfl rfl (.agg #[i64 0, i64 0, i64 0, .string ByteArray.empty, .string ByteArray.empty, i64 0, .slice none 0 0, i64 0, i64 0, .string ByteArray.empty]) 120 Tryz.underlying22 inf_od rfl (by decide) (by decide) rfl hO0 (some ad) l.length c l rfl rfl hs (by simp; omega) hbx.size ?_; intro v3 w3 hO3 hg3 hat3)
    go_ret
    exact ⟨_, rfl, by simpa using hO3, hbx.trans (hO0.below hg3 (Nat.le_refl _) hbx.size)⟩

end Go.Proofs.YtgholbeehkfbiaaGreat

/- clash.Swap -/
namespace Go.Proofs.YtgholbeehkfbiaaGreat
open Go.RowKit
/-- may the orders at i and i + 1 change places? -/
def swapOk (l : List Od) (i : Int) : Bool := if h : 0 ≤ i ∧ i.toNat + 1 < l.length then !clashB l[i.toNat] (l[i.toNat + 1]'h.2) else false
def swapAt (l : List Od) (k : Nat) : List Od := if h : k + 1 < l.length then (l.set k l[k + 1]).set (k + 1) l[k] else l
def swapR (l : List Od) (i : Int) : List Od := if swapOk l i then swapAt l i.toNat else []

set_option maxRecDepth 100000 in
set_option maxHeartbeats 2000000 in
theorem swap_c (A : Option Addr) (c : Nat) (l : List Od) (i : Int) (w : World) (h : Sl w w.heap.size A c l) (hn : l.length ≤ 65536) (hl : ∀ x ∈ l, x.legs.length ≤ 10) :
    Calls Tryz.prog 59 #[.slice A l.length c, i64 i] w fun e w' => ∃ v, e = .returned (.tuple #[v, .bool (swapOk l i)]) ∧ Own w' w.heap.size 37 v (swapR l i) ∧ Below w.heap.size w w' := by
  by_cases h0 : 0 ≤ i
  · by_cases h1 : i.toNat + 1 < l.length
    · obtain ⟨k, rfl⟩ := Int.eq_ofNat_of_zero_le h0
      rw [Int.toNat_natCast] at h1
      have hg1 : decide ((k : Int) < 0) = false := by rw [decide_eq_false_iff_not]; omega
      have hg2 : decide ((l.length : Int) - 1 ≤ (k : Int)) = false := by rw [decide_eq_false_iff_not]; omega
      obtain ⟨b, o, rfl, hbb, hok, c0, c1, c2, c3, c4, c5, c6, c7, c8, c9⟩ := h.od (k := k) (by omega)
      obtain ⟨b', o', hA', _, hok', d0, d1, d2, d3, d4, d5, d6, d7, d8, d9⟩ := h.od h1
      injection hA' with hA'
      injection hA' with h2 h3
      subst h2 h3
      have Hok := Lib.hid hok
      have Hok' := Lib.hid hok'
      clear hok hok'
      have hw1 : IntKind.i64.wrap ((l.length : Int) - 1) = (l.length : Int) - 1 := by rw [IntKind.wrap_i64]; omega
      have hw2 : IntKind.i64.wrap ((k : Int) + 1) = (k : Int) + 1 := by rw [IntKind.wrap_i64]; omega
      have hw5 : (0 : Int) ≤ (k : Int) := by omega
      have hw6 : (k : Int) < (l.length : Int) := by omega
      have hw7 : (k : Int) + 1 < (l.length : Int) := by omega
      have hw3 : (0 : Int) ≤ (k : Int) + 1 := by omega
      have hw4 : ((k : Int) + 1).toNat = k + 1 := by omega
      go_enter Tryz.func59, Tryz.ntmps59
      go_wp2
      refine wp_region_still_tail 19 (by kernel_rfl) (by kernel_rfl) ?_
      simp only [List.take_succ_cons, List.take_zero, List.drop_succ_cons, List.drop_zero]
      change wpStill _ _ (World.drew _) (fun a' => wpList _ _ _ _ a' (World.drew _)) _ _
      repeat still_step
      refine wpStill_nil ?_
      go_wp2_with fail
      have hbd := (Below.refl w.heap.size w).drew
      refine (clash_c l[k] l[k + 1] _ (Okb.later Hok.out hbd) (Okb.later Hok'.out hbd) (hl _ (List.getElem_mem _)) (hl _ (List.getElem_mem _))).mono ?_
      rintro e w1 ⟨rfl, hb1⟩
      have hb2 := hbd.trans hb1
      have hso : swapOk l k = !clashB l[k] l[k + 1] := by
        unfold swapOk
        rw [dif_pos ⟨by omega, by simpa using h1⟩]
        simp
      have Hso := Lib.hid hso
      clear hso hbd hb1
      by_cases hc : clashB l[k] l[k + 1] = true
      · rw [hc]
        have Hr : Hid (swapOk l k = false) := Lib.hid (by rw [Hso.out, hc]; rfl)
        clear hc
        go_wp2
        go_ret2
        exact ⟨_, by rw [Hr.out]; rfl, by rw [swapR, Hr.out, if_neg (by simp)]; exact Own.nil_ _ _ _, hb2⟩
      · have hc' : clashB l[k] l[k + 1] = false := by simpa using hc
        rw [hc']
        have Hr : Hid (swapOk l k = true) := Lib.hid (by rw [Hso.out, hc']; rfl)
        clear hc hc' c0 c1 c2 c3 c4 c5 c6 c7 c8 c9 d0 d1 d2 d3 d4 d5 d6 d7 d8 d9
        go_wp2_with fail
        refine (clone_od _ c l _ (h.later hb2) hn).mono ?_
        rintro e w2 ⟨v2, rfl, hO2, hb3⟩
        have hb4 := hb2.trans (hb3.mono hb2.size)
        obtain ⟨gb, cp, cur0, rfl, hgb, _, hcap, hcapm, _, _⟩ := hO2.form (by omega)
        obtain ⟨A2, c2, hv2, hs2⟩ := hO2.sl
        injection hv2 with hA2 hB2 hC2
        subst hA2 hC2
        obtain ⟨b3, o3, hA3, _, hok3, c0, c1, c2, c3, c4, c5, c6, c7, c8, c9⟩ := hs2.od (k := k) (by omega)
        injection hA3 with hA3
        injection hA3 with hA4 hA5
        subst hA4 hA5
        obtain ⟨b4, o4, hA6, _, hok4, d0, d1, d2, d3, d4, d5, d6, d7, d8, d9⟩ := hs2.od h1
        injection hA6 with hA6
        injection hA6 with hA7 hA8
        subst hA7 hA8
        simp only [Nat.zero_add] at c0 c1 c2 c3 c4 c5 c6 c7 c8 c9 d0 d1 d2 d3 d4 d5 d6 d7 d8 d9
        have hfr := fun j => hO2.free j
        clear hB2 hok3 hok4 hs2 hcapm
        go_wp2_with fail
        go_region
        go_wp2
        go_ret2
        have hokA : Enc.ok w2 (Oth w2 (.slice (some ⟨gb, 0, none⟩) l.length cp)) l[k + 1] := hO2.2 _ (List.getElem_mem _)
        have hokB : Enc.ok w2 (Oth w2 (.slice (some ⟨gb, 0, none⟩) l.length cp)) l[k] := hO2.2 _ (List.getElem_mem _)
        obtain ⟨p1, p2⟩ := hO2.set_cells k (by omega) l[k + 1] hokA
        obtain ⟨p3, p4⟩ := p1.set_cells (k + 1) (by simpa using h1) l[k] (oth_grown p2 (.inl rfl) hokB)
        have hfin : swapR l k = (l.set k l[k + 1]).set (k + 1) l[k] := by
          rw [swapR, Hr.out, if_pos rfl, Int.toNat_natCast, swapAt, dif_pos h1]
        exact ⟨_, by rw [Hr.out]; rfl, by rw [hfin]; exact (p3.mono hb2.size).drew, ((hb4.grown p2 hb4.size (fun g hg => by injection hg with hg; have := hb2.size; omega)).grown p4 (by have := p2.size; have := hb4.size; omega) (fun g hg => by injection hg with hg; have := hb2.size; omega)).drew⟩
    · have hso : swapOk l i = false := by unfold swapOk; rw [dif_neg (fun h => h1 h.2)]
      have Hr := Lib.hid hso
      have hlm : l.length ≤ 65536 := hn
      have hg1 : decide (i < 0) = false := by rw [decide_eq_false_iff_not]; omega
      have hw1 : IntKind.i64.wrap ((l.length : Int) - 1) = (l.length : Int) - 1 := by rw [IntKind.wrap_i64]; omega
      have hg2 : decide ((l.length : Int) - 1 ≤ i) = true := by rw [decide_eq_true_eq]; omega
      clear hso h
      go_enter Tryz.func59, Tryz.ntmps59
      go_wp2
      go_quiet (fail)
      go_wp2
      go_ret2
      exact ⟨_, by rw [Hr.out]; rfl, by rw [swapR, Hr.out, if_neg (by simp)]; exact Own.nil_ _ _ _, below_drewN (Below.refl _ _) _⟩
  · have hso : swapOk l i = false := by unfold swapOk; rw [dif_neg (fun h => h0 h.1)]
    have Hr := Lib.hid hso
    have hg1 : decide (i < 0) = true := by rw [decide_eq_true_eq]; omega
    clear hso h
    go_enter Tryz.func59, Tryz.ntmps59
    go_wp2
    go_quiet (fail)
    go_wp2
    go_ret2
    exact ⟨_, by rw [Hr.out]; rfl, by rw [swapR, Hr.out, if_neg (by simp)]; exact Own.nil_ _ _ _, below_drewN (Below.refl _ _) _⟩
end Go.Proofs.YtgholbeehkfbiaaGreat
