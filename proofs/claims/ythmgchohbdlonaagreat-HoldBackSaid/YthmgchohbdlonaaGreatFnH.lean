/- IndexFunc, ContainsFunc, DeleteFunc at hold.Held -/
import Derived.Test.YthmgchohbdlonaaGreatRows
import Derived.Test.YthmgchohbdlonaaGreatHeld
import Derived.Test.YthmgchohbdlonaaGreatAppend
import Derived.WalkKit
import Derived.WalkSpells
import Derived.WalkLawsBesides
import Derived.Deep.QuietTactic
import Derived.BigQuiet
import Derived.Laws.StructEq
import Derived.Deep.DeepFit
import Derived.StillTailTactics
namespace Go.Proofs.YthmgchohbdlonaaGreat
open Go.RowKit
set_option maxRecDepth 100000 in
set_option maxHeartbeats 400000 in
theorem indexFunc_held (A : Option Addr) (c : Nat) (l : List Held) (g : FuncId) (cap : Array Value) (p : Held → Bool) (w : World) (h : Sl w w.heap.size A c l) (hn : l.length ≤ 65536)
    (eg : ∀ args w, (callFunc g args).run Tryz.prog w = .ok (.enter g args) w)
    (hf : ∀ x, x ∈ l → ∀ w1, Below w.heap.size w w1 → Calls Tryz.prog g (#[x.v] ++ cap) w1 fun e w2 => e = .returned (.bool (p x)) ∧ Below w1.heap.size w1 w2) :
    Calls Tryz.prog 64 #[.slice A l.length c, .func (.func g) #[] cap] w fun e w' => e = .returned (i64 (idxP p l)) ∧ Below w.heap.size w w' := by
  have Hf := Lib.hid hf
  clear hf
  go_enter Tryz.func64, Tryz.ntmps64
  go_wp2
  go_loopw [8] (fun i wr => ∃ k : Nat, k ≤ l.length ∧ i = i64 k ∧ (∀ j (hj : j < l.length), j < k → p l[j] = false) ∧ Below w.heap.size w wr) (fun i _ => l.length - (intOf i).toNat)
  case atStart => exact ⟨0, Nat.zero_le _, rfl, by omega, Below.refl _ _⟩
  case round =>
    obtain ⟨k, hk, rfl, hno, hb⟩ := hrel
    by_cases hlt : k < l.length
    · obtain ⟨b, o, rfl, hbb, -, d0, d1, d2⟩ := (h.later hb).held hlt
      have Hno := Lib.hid hno
      clear hno
      go_wp2_with fail
      refine (Hf.out _ (List.getElem_mem hlt) _ hb).mono ?_
      rintro e w2 ⟨rfl, hb2⟩
      have hb3 := hb.trans (hb2.mono hb.size)
      by_cases hp : p l[k] = true
      · rw [hp]
        have Hp := Lib.hid hp
        clear hp
        go_wp2
        go_ret
        exact ⟨by rw [show idxP p l = k from idxP_hit hlt Hp.out Hno.out]; rfl, hb3⟩
      · have hp' : p l[k] = false := by simpa using hp
        rw [hp']
        have Hp := Lib.hid hp'
        clear hp hp'
        go_wp2
        go_roundw
        case rel => exact ⟨k + 1, by omega, by go_num, fun j hj h => by
            rcases Nat.lt_succ_iff_lt_or_eq.1 h with h | rfl
            · exact Hno.out j hj h
            · exact Hp.out, hb3⟩
        case measure => simp [intOf]; omega
    · have hkl : k = l.length := by omega
      subst hkl
      go_wp2
      go_ret
      exact ⟨by rw [show idxP p l = -1 from idxP_miss (fun j hj => hno j hj hj)]; rfl, hb⟩

theorem one_held : ∀ u ∈ (Value.agg #[i64 0, .string ByteArray.empty, i64 0]).cells.toList, u.oneCell' = true := by
  intro u hu
  simp only [Value.cells, List.mem_cons, List.not_mem_nil, or_false] at hu
  rcases hu with rfl | rfl | rfl <;> rfl

set_option maxRecDepth 100000 in
set_option maxHeartbeats 1000000 in
theorem deleteFunc_held (base : Nat) (v : Value) (l : List Held) (g : FuncId) (cap : Array Value) (p : Held → Bool) (w : World) (h : Own w base 54 v l) (hn : l.length ≤ 65536)
    (eg : ∀ args w, (callFunc g args).run Tryz.prog w = .ok (.enter g args) w)
    (hf : ∀ x, x ∈ l → ∀ w1, w.grownBy w1 v.ownBlock → Calls Tryz.prog g (#[x.v] ++ cap) w1 fun e w2 => e = .returned (.bool (p x)) ∧ Below w1.heap.size w1 w2) :
    Calls Tryz.prog 38 #[v, .func (.func g) #[] cap] w fun e w' => ∃ v', e = .returned v' ∧ Own w' base 54 v' (l.filter fun x => !p x) ∧ w.grownBy w' v.ownBlock ∧ v'.ownBlock = v.ownBlock := by
  obtain ⟨A, c, hv, hs⟩ := h.sl
  have HI := Lib.hid (indexFunc_held A c l g cap p w hs hn eg (fun x hx w1 hb => hf x hx w1 (grown_of_below hb _)))
  by_cases hno : ∀ j (hj : j < l.length), p l[j] = false
  · have hfil : l.filter (fun x => !p x) = l := List.filter_eq_self.2 (fun x hx => by
      obtain ⟨j, hj, rfl⟩ := List.getElem_of_mem hx
      simp [hno j hj])
    rw [show idxP p l = -1 from idxP_miss hno] at HI
    rw [hfil, hv]
    rw [hv] at h hf
    have Hf := Lib.hid h
    clear hfil hno hf hv h hs eg
    go_enter Tryz.func38, Tryz.ntmps38
    go_wp2_with (go_at_call 64; refine (HI.out).mono ?_; rintro e w' ⟨rfl, hb⟩)
    go_ret
    exact ⟨_, rfl, Hf.out.later hb, grown_of_below hb _, rfl⟩
  · obtain ⟨i0, hi0, hpi0, hbef⟩ : ∃ i0, ∃ h : i0 < l.length, p l[i0] = true ∧ ∀ j (hj : j < l.length), j < i0 → p l[j] = false := by
      have hex : ∃ k, l.findIdx? p = some k := by
        cases hq : l.findIdx? p with
        | some k => exact ⟨k, rfl⟩
        | none => exact absurd (fun j hj => List.findIdx?_eq_none_iff.1 hq _ (List.getElem_mem hj)) hno
      obtain ⟨k, hk⟩ := hex
      obtain ⟨h1, h2, h3⟩ := List.findIdx?_eq_some_iff_getElem.1 hk
      exact ⟨k, h1, h2, fun j hj hjk => by simpa using h3 j hjk⟩
    rw [show idxP p l = i0 from idxP_hit hi0 hpi0 hbef] at HI
    have hfil0 : (l.take (i0 + 1)).filter (fun x => !p x) = l.take i0 := by
      rw [List.take_succ_eq_append_getElem hi0, List.filter_append, List.filter_eq_self.2 (fun x hx => by
        obtain ⟨j, hj, rfl⟩ := List.getElem_of_mem hx
        simp only [List.length_take] at hj
        rw [List.getElem_take, hbef j (by omega) (by omega)]; rfl)]
      simp [hpi0]
    clear hno hbef hpi0
    obtain ⟨gb, cp, cur0, rfl, hgb, _, hcap, hcapm, _, _⟩ := h.form (by omega)
    injection hv with hA hB hC
    subst hA hC
    have HF := Lib.hid hf
    have HF0 := Lib.hid hfil0
    have hcm : cp ≤ 9223372036854775807 := by unfold maxLen at hcapm; exact hcapm
    clear hf hfil0 hs hcapm hB
    have hne : ((i0 : Int) == -1) = false := by rw [beq_eq_false_iff_ne]; omega
    go_enter Tryz.func38, Tryz.ntmps38
    go_wp2_with (go_at_call 64; refine (HI.out).mono ?_; rintro e w' ⟨rfl, hb⟩)
    have hO' := h.later hb
    have hgr' := grown_of_below hb (some gb)
    go_loopw [5, 6] (fun i j wr => ∃ (ni nj : Nat) (cur : List Held), i = i64 ni ∧ j = i64 nj ∧ ni < nj ∧ nj ≤ l.length ∧ cur.length = l.length ∧ Own wr base 54 (.slice (some ⟨gb, 0, none⟩) l.length cp) cur ∧ w.grownBy wr (some gb) ∧
      cur.take ni = (l.take nj).filter (fun x => !p x) ∧ cur.drop nj = l.drop nj) (fun _ j _ => l.length - (intOf j).toNat)
    case atStart => exact ⟨i0, i0 + 1, l, rfl, by go_num, by omega, by omega, rfl, hO', hgr', HF0.out.symm, rfl⟩
    case round =>
      obtain ⟨ni, nj, cur, rfl, rfl, hij, hjn, hcl, hO, hgr, htk, hdr⟩ := hrel
      by_cases hlt : nj < l.length
      · have hjc : nj < cur.length := by omega
        have hcj : cur[nj] = l[nj] := by
          have h1 : (cur.drop nj)[0]? = (l.drop nj)[0]? := by rw [hdr]
          simpa [hjc, hlt] using h1
        obtain ⟨A', c', hv', hs'⟩ := hO.sl
        injection hv' with hA' hB' hC'
        clear hB'
        subst hA' hC'
        have hz := hO.base_le.2
        obtain ⟨b', o', hb', hlb, hok, d0, d1, d2⟩ := hs'.held hjc
        injection hb' with hb'
        injection hb' with hb1' ho'
        subst hb1' ho'
        have HC := Lib.hid hcl
        rw [hcj] at d0 d1 d2 hok
        simp only [Nat.zero_add] at d0 d1 d2
        have Hok := Lib.hid hok
        have HT := Lib.hid htk
        have HD := Lib.hid hdr
        have HJ := Lib.hid hcj
        have HO := Lib.hid hO
        have hlt2 : gb < wr.heap.size := hz
        have hBx := (Below.refl wr.heap.size wr).alloc (Nat.le_refl _) (.cells #[i64 l[nj].num, .string l[nj].acct, i64 l[nj].sum] 54)
        have HBx := Lib.hid hBx
        have hokO := hO.2 cur[nj] (List.getElem_mem hjc)
        rw [hcj] at hokO
        have HokO := Lib.hid hokO
        clear hcl htk hdr hcj hs' hok hz hBx hO hokO
        go_wp2_with fail
        refine (HF.out _ (List.getElem_mem hlt) _ (grown_trans hgr (grown_of_below HBx.out (some gb)))).mono ?_
        rintro e w2 ⟨rfl, hb2⟩
        have hO2 := (HO.out.later HBx.out).later hb2
        have hgr2 := grown_trans hgr (grown_of_below (HBx.out.trans (hb2.mono (by simp))) (some gb))
        by_cases hp : p l[nj] = true
        · rw [hp]
          have Hp := Lib.hid hp
          clear hp
          go_wp2
          go_roundw
          case rel => exact ⟨ni, nj + 1, cur, rfl, by go_num, by omega, by omega, HC.out, hO2, hgr2, by rw [HT.out, List.take_succ_eq_append_getElem hlt, List.filter_append]; simp [Hp.out], by
            rw [← List.drop_drop, HD.out, List.drop_drop]⟩
          case measure => simp [intOf]; omega
        · have hp' : p l[nj] = false := by simpa using hp
          rw [hp']
          have Hp := Lib.hid hp'
          clear hp hp'
          have hcx : ∀ o, w2.cell? ⟨wr.heap.size, o, none⟩ = _ := fun o => hb2.cell (p := ⟨wr.heap.size, o, none⟩) (by simp)
          have hok : Enc.ok w2 (Oth w2 (.slice (some ⟨gb, 0, none⟩) l.length cp)) l[nj] :=
            oth_grown (grown_of_below (HBx.out.trans (hb2.mono (by simp))) _) (.inl rfl) HokO.out
          have HokN := Lib.hid hok
          clear hok
          have hni : ni < cur.length := by rw [HC.out]; omega
          go_wp2_with (refine wpList_store_own rfl none (.tmp 33) (.tmp 32) 54 rfl rfl (by kernel_rfl) gb l.length cp ni (ni * 3) l[nj] hO2 hni rfl rfl rfl HokN.out ?_; intro w3 hO3 hg3)
          go_roundw
          case rel => exact ⟨ni + 1, nj + 1, cur.set ni l[nj], by go_num, by go_num, by omega, by omega, by rw [List.length_set]; exact HC.out, hO3, grown_trans hgr2 hg3, by
              rw [List.take_succ_eq_append_getElem (by rw [List.length_set]; exact hni), List.getElem_set_self, List.take_set_of_le (Nat.le_refl _), HT.out, List.take_succ_eq_append_getElem hlt, List.filter_append]; simp [Hp.out], by
              rw [List.drop_set_of_lt (by omega), ← List.drop_drop, HD.out, List.drop_drop]⟩
          case measure => simp [intOf]; omega
      · obtain rfl : nj = l.length := by omega
        have HC := Lib.hid hcl
        have HT := Lib.hid htk
        clear hcl htk hdr
        have hni : ni ≤ cur.length := by have := HC.out; omega
        go_wp2_with (refine wpList_clear_own rfl none (.tmp 38) 41 rfl rfl 54 Tryz.underlying41 (.agg #[i64 0, .string ByteArray.empty, i64 0]) (fun _ => by kernel_rfl) rfl one_held gb l.length cp ni (ni * 3) _ _ hO hni rfl rfl (fun _ => rfl) ?_; intro w3 hO3 hg3)
        go_ret
        exact ⟨_, rfl, by rw [HT.out, List.take_length] at hO3; exact hO3, grown_trans hgr hg3, rfl⟩
end Go.Proofs.YthmgchohbdlonaaGreat
