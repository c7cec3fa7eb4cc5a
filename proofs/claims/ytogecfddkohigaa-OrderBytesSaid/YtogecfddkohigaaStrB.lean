/- slices.DeleteFunc at strings -/
import Derived.Test.YtogecfddkohigaaRows
import Derived.Test.YtogecfddkohigaaRow
import Derived.Test.YtogecfddkohigaaStrA
import Derived.WalkKit
import Derived.WalkSpells
import Derived.WalkLawsBesides
import Derived.Deep.QuietTactic
import Derived.BigQuiet
import Derived.Laws.StructEq
import Derived.Deep.DeepFit
import Derived.StillTailTactics
namespace Go.Proofs.Ytogecfddkohigaa
open Go.RowKit
theorem oneStr : ∀ u ∈ (Value.string ByteArray.empty).cells.toList, u.oneCell' = true := by
  intro u hu
  simp only [Value.cells, List.mem_singleton] at hu
  subst hu
  rfl

set_option maxRecDepth 100000 in
set_option maxHeartbeats 400000 in
theorem deleteFunc_str (base : Nat) (v : Value) (l : List ByteArray) (g : FuncId) (cap : Array Value) (p : ByteArray → Bool) (w : World) (h : Own w base 9 v l) (hn : l.length ≤ 65536)
    (eg : ∀ args w, (callFunc g args).run Try.prog w = .ok (.enter g args) w)
    (hf : ∀ x, x ∈ l → ∀ w1, w.grownBy w1 v.ownBlock → Calls Try.prog g (#[.string x] ++ cap) w1 fun e w2 => e = .returned (.bool (p x)) ∧ Below w1.heap.size w1 w2) :
    Calls Try.prog 73 #[v, .func (.func g) #[] cap] w fun e w' => ∃ v', e = .returned v' ∧ Own w' base 9 v' (l.filter fun x => !p x) ∧ w.grownBy w' v.ownBlock ∧ (v'.ownBlock = v.ownBlock) := by
  obtain ⟨A, c, hv, hs⟩ := h.sl
  have HI := Lib.hid (indexFunc_str A c l g cap p w hs hn eg (fun x hx w1 hb => hf x hx w1 (grown_of_below hb _)))
  by_cases hno : ∀ j (hj : j < l.length), p l[j] = false
  · have hfil : l.filter (fun x => !p x) = l := List.filter_eq_self.2 (fun x hx => by
      obtain ⟨j, hj, rfl⟩ := List.getElem_of_mem hx
      simp [hno j hj])
    rw [show idxP p l = -1 from idxP_miss hno] at HI
    rw [hfil, hv]
    rw [hv] at h hf
    have Hf := Lib.hid h
    clear hfil hno hf hv h hs eg
    go_enter Try.func73, Try.ntmps73
    go_wp2_with (go_at_call 84; refine (HI.out).mono ?_; rintro e w' ⟨rfl, hb⟩)
    go_ret
    exact ⟨_, rfl, Hf.out.later hb, grown_of_below hb _, rfl⟩
  · obtain ⟨i0, hi0, hpi0, hbef⟩ : ∃ i0, ∃ h : i0 < l.length, p l[i0] = true ∧ ∀ j (hj : j < l.length), j < i0 → p l[j] = false := by
      have hex : ∃ k, l.findIdx? p = some k := by
        cases hq : l.findIdx? p with
        | some k => exact ⟨k, rfl⟩
        | none => exact absurd (fun j hj => List.findIdx?_eq_none_iff.1 hq _ (List.getElem_mem hj)) hno
      obtain ⟨k, hk⟩ := hex
      obtain ⟨h1, h2, h3⟩ := List.findIdx?_eq_some_iff_getElem.1 hk
      exact ⟨k, h1, h2, fun j hj hjk => by simpa using h3 j hjk⟩
    rw [show idxP p l = i0 from idxP_hit hi0 hpi0 hbef] at HI
    have hfil0 : (l.take (i0 + 1)).filter (fun x => !p x) = l.take i0 := by
      rw [List.take_succ_eq_append_getElem hi0, List.filter_append, List.filter_eq_self.2 (fun x hx => by
        obtain ⟨j, hj, rfl⟩ := List.getElem_of_mem hx
        simp only [List.length_take] at hj
        rw [List.getElem_take, hbef j (by omega) (by omega)]; rfl)]
      simp [hpi0]
    clear hno hbef hpi0
    obtain ⟨gb, cp, cur0, rfl, hgb, _, hcap, hcapm, _, _⟩ := h.form (by omega)
    injection hv with hA hB hC
    subst hA hC
    have HF := Lib.hid hf
    have HF0 := Lib.hid hfil0
    have hcm : cp ≤ 9223372036854775807 := by unfold maxLen at hcapm; exact hcapm
    clear hf hfil0 hs hcapm hB
    have hne : ((i0 : Int) == -1) = false := by rw [beq_eq_false_iff_ne]; omega
    go_enter Try.func73, Try.ntmps73
    go_wp2_with (go_at_call 84; refine (HI.out).mono ?_; rintro e w' ⟨rfl, hb⟩)
    have hO' := h.later hb
    have hgr' := grown_of_below hb (some gb)
    go_loopw [5, 6] (fun i j wr => ∃ (ni nj : Nat) (cur : List ByteArray), i = i64 ni ∧ j = i64 nj ∧ ni < nj ∧ nj ≤ l.length ∧ cur.length = l.length ∧ Own wr base 9 (.slice (some ⟨gb, 0, none⟩) l.length cp) cur ∧ w.grownBy wr (some gb) ∧
      cur.take ni = (l.take nj).filter (fun x => !p x) ∧ cur.drop nj = l.drop nj) (fun _ j _ => l.length - (intOf j).toNat)
    case atStart => exact ⟨i0, i0 + 1, l, rfl, by go_num, by omega, by omega, rfl, hO', hgr', HF0.out.symm, rfl⟩
    case round =>
      obtain ⟨ni, nj, cur, rfl, rfl, hij, hjn, hcl, hO, hgr, htk, hdr⟩ := hrel
      by_cases hlt : nj < l.length
      · have hjc : nj < cur.length := by omega
        have hcj : cur[nj] = l[nj] := by
          have h1 : (cur.drop nj)[0]? = (l.drop nj)[0]? := by rw [hdr]
          simpa [hjc, hlt] using h1
        have d0 := hO.str hjc
        rw [hcj] at d0
        have HC := Lib.hid hcl
        have HT := Lib.hid htk
        have HD := Lib.hid hdr
        have HJ := Lib.hid hcj
        clear hcl htk hdr hcj
        go_wp2_with fail
        refine (HF.out _ (List.getElem_mem hlt) _ hgr).mono ?_
        rintro e w2 ⟨rfl, hb2⟩
        have hO2 := hO.later hb2
        have hgr2 := grown_trans hgr (grown_of_below hb2 (some gb))
        by_cases hp : p l[nj] = true
        · rw [hp]
          have Hp := Lib.hid hp
          clear hp
          go_wp2
          go_roundw
          case rel => exact ⟨ni, nj + 1, cur, rfl, by go_num, by omega, by omega, HC.out, hO2, hgr2, by rw [HT.out, List.take_succ_eq_append_getElem hlt, List.filter_append]; simp [Hp.out], by
            rw [← List.drop_drop, HD.out, List.drop_drop]⟩
          case measure => simp [intOf]; omega
        · have hp' : p l[nj] = false := by simpa using hp
          rw [hp']
          have Hp := Lib.hid hp'
          clear hp hp'
          have hok : Enc.ok w2 (Oth w2 (.slice (some ⟨gb, 0, none⟩) l.length cp)) l[nj] := by
            have := hO2.2 cur[nj] (List.getElem_mem hjc)
            rwa [HJ.out] at this
          have hni : ni < cur.length := by omega
          go_wp2_with (refine wpList_store_own rfl none (.tmp 33) (.tmp 32) 9 rfl rfl (by kernel_rfl) gb l.length cp ni ni l[nj] hO2 hni rfl (Nat.mul_one _).symm rfl hok ?_; intro w3 hO3 hg3)
          go_roundw
          case rel => exact ⟨ni + 1, nj + 1, cur.set ni l[nj], by go_num, by go_num, by omega, by omega, by rw [List.length_set]; exact HC.out, hO3, grown_trans hgr2 hg3, by
              rw [List.take_succ_eq_append_getElem (by rw [List.length_set]; exact hni), List.getElem_set_self, List.take_set_of_le (Nat.le_refl _), HT.out, List.take_succ_eq_append_getElem hlt, List.filter_append]; simp [Hp.out], by
              rw [List.drop_set_of_lt (by omega), ← List.drop_drop, HD.out, List.drop_drop]⟩
          case measure => simp [intOf]; omega
      · obtain rfl : nj = l.length := by omega
        have HC := Lib.hid hcl
        have HT := Lib.hid htk
        clear hcl htk hdr
        have hni : ni ≤ cur.length := by have := HC.out; omega
        go_wp2_with (refine wpList_clear_own rfl none (.tmp 38) 55 rfl rfl 9 Try.underlying55 (.string ByteArray.empty) (fun _ => by kernel_rfl) rfl oneStr gb l.length cp ni ni _ _ hO hni rfl (Nat.mul_one _).symm (fun _ => rfl) ?_; intro w3 hO3 hg3)
        go_ret
        exact ⟨_, rfl, by rw [HT.out, List.take_length] at hO3; exact hO3, grown_trans hgr hg3, rfl⟩
end Go.Proofs.Ytogecfddkohigaa
