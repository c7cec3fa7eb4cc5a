/- Texts of this claim, laid together: Held, FnH, CopyM, Hcmp. -/
import Derived.Test.YtmljlkjomjflpaaGreatRows
import Derived.Test.YtmljlkjomjflpaaGreatBb9
import Derived.Test.YtmljlkjomjflpaaGreatBb4
import Derived.Test.YtmljlkjomjflpaaGreatBb6
import Derived.Deep.RegionHeld3
import Derived.WalkKit
import Derived.WalkSpells
import Derived.WalkLawsBesides
import Derived.Deep.QuietTactic
import Derived.BigQuiet
import Derived.Laws.StructEq
import Derived.Deep.DeepFit
import Derived.StillTailTactics
import Derived.Test.YtmljlkjomjflpaaGreatBb2
import Derived.Test.YtmljlkjomjflpaaGreatShelf
import Derived.Shelf.SlMaps.Clone

/- hold.Held: data; cmp.Compare, cmp.Or; the order of holds -/
namespace Go.Proofs.YtmljlkjomjflpaaGreat
open Go.RowKit
/-- hold.Held -/
structure Held where
  num : Int
  acct : ByteArray
  sum : Int
instance : Inhabited Held := ⟨⟨0, ⟨#[]⟩, 0⟩⟩
abbrev Held.v (x : Held) : Value := .agg #[i64 x.num, .string x.acct, i64 x.sum]
instance encHeld : Enc Held where
  size := 3
  cells x := [i64 x.num, .string x.acct, i64 x.sum]
  val := Held.v
  ok _ _ x := x.acct.size ≤ maxLen
  len _ := rfl
  one _ v hv := by simp only [List.mem_cons, List.not_mem_nil, or_false] at hv; rcases hv with rfl | rfl | rfl <;> rfl
  keep h _ _ := h
theorem Held.ext_ {a b : Held} (h1 : a.num = b.num) (h2 : a.acct = b.acct) (h3 : a.sum = b.sum) : a = b := by cases a; cases b; simp_all
instance : DecidableEq Held := fun a b => if h : a.num = b.num ∧ a.acct = b.acct ∧ a.sum = b.sum then isTrue (Held.ext_ h.1 h.2.1 h.2.2) else isFalse (fun e => h (by rw [e]; exact ⟨rfl, rfl, rfl⟩))
theorem SlS.held {w : World} {S : Nat → Prop} {c : Nat} {A : Option Addr} {l : List Held} (h : SlS w S A c l) {k : Nat} (hk : k < l.length) : ∃ b o, A = some ⟨b, o, none⟩ ∧ S b ∧ l[k].acct.size ≤ maxLen ∧
    w.cell? ⟨b, o + k * 3, none⟩ = some (i64 l[k].num) ∧ w.cell? ⟨b, o + k * 3 + 1, none⟩ = some (.string l[k].acct) ∧ w.cell? ⟨b, o + k * 3 + 2, none⟩ = some (i64 l[k].sum) := by
  obtain ⟨b, o, hA, hb, hok, hc⟩ := h.at_ hk
  exact ⟨b, o, hA, hb, hok, hc 0 _ rfl, hc 1 _ rfl, hc 2 _ rfl⟩
def Held.key (x : Held) : Hk := ⟨x.acct, x.num⟩
def ltH (a b : Held) : Bool := bless a.acct b.acct || (decide (a.acct = b.acct) && decide (a.num < b.num))
theorem keyH : KeyOrd ltH Held.key where
  strict := by
    refine ⟨fun a => by unfold ltH; rw [bless_strict.irr]; simp, fun a b c h1 h2 => ?_, fun a b c h1 h2 => ?_⟩
    · unfold ltH at *
      simp only [Bool.or_eq_true, Bool.and_eq_true, decide_eq_true_eq] at *
      rcases h1 with h1 | ⟨h1, h1'⟩
      · rcases h2 with h2 | ⟨h2, h2'⟩
        · exact .inl (bless_strict.trans _ _ _ h1 h2)
        · rw [← h2]; exact .inl h1
      · rcases h2 with h2 | ⟨h2, h2'⟩
        · rw [h1]; exact .inl h2
        · exact .inr ⟨h1.trans h2, by omega⟩
    · unfold ltH at *
      simp only [Bool.or_eq_false_iff, Bool.and_eq_false_iff, decide_eq_false_iff_not] at *
      refine ⟨bless_strict.co _ _ _ h1.1 h2.1, ?_⟩
      by_cases e : a.acct = c.acct
      · right
        have e1 : a.acct = b.acct := bless_tri h1.1 (by rw [e]; exact h2.1)
        have e2 : b.acct = c.acct := by rw [← e1]; exact e
        have := h1.2.resolve_left (fun h => h e1)
        have := h2.2.resolve_left (fun h => h e2)
        omega
      · exact .inl e
  ne a b h e := by
    unfold Held.key at e
    injection e with e1 e2
    unfold ltH at h
    rw [e1, bless_strict.irr, e2] at h
    simp at h
  co a b h := by
    unfold ltH
    by_cases e : a.acct = b.acct
    · have : a.num ≠ b.num := fun e2 => h (by unfold Held.key; rw [e, e2])
      rcases Int.lt_or_gt_of_ne this with h1 | h1
      · left; simp [e, h1]
      · right; simp [e, h1]
    · cases h1 : bless a.acct b.acct with
      | true => left; simp
      | false =>
        cases h2 : bless b.acct a.acct with
        | true => right; simp
        | false => exact absurd (bless_tri h1 h2) e
  eq a b h c := by
    unfold Held.key at h
    injection h with e1 e2
    unfold ltH
    rw [e1, e2]
    exact ⟨rfl, rfl⟩
/-- cmp.Compare -/
def cmpS (s t : ByteArray) : Int := if bless s t then -1 else if bless t s then 1 else 0
def cmpN (s t : Int) : Int := if s < t then -1 else if t < s then 1 else 0
set_option maxRecDepth 100000 in
set_option maxHeartbeats 400000 in
theorem isNaNs_c (s : ByteArray) (w : World) : Calls Tryz.prog 101 #[.string s] w fun e w' => e = .returned (.bool false) ∧ w = w' := by
  have e1 := beqS_of_eq (rfl : s = s)
  go_enter Tryz.func101, Tryz.ntmps101
  go_wp2
  go_ret
  exact ⟨rfl, rfl⟩
set_option maxRecDepth 100000 in
set_option maxHeartbeats 400000 in
theorem isNaNn_c (s : Int) (w : World) : Calls Tryz.prog 102 #[i64 s] w fun e w' => e = .returned (.bool false) ∧ w = w' := by
  go_enter Tryz.func102, Tryz.ntmps102
  go_wp2
  go_ret
  exact ⟨rfl, rfl⟩
set_option maxRecDepth 100000 in
set_option maxHeartbeats 2000000 in
theorem cmpS_c (s t : ByteArray) (w : World) : Calls Tryz.prog 64 #[.string s, .string t] w fun e w' => e = .returned (i64 (cmpS s t)) ∧ w = w' := by
  have HC := Lib.hid (show cmpS s t = if bless s t then -1 else if bless t s then 1 else 0 from rfl)
  generalize cmpS s t = r at *
  go_enter Tryz.func64, Tryz.ntmps64
  go_wp2_with fail
  refine (isNaNs_c _ _).mono ?_
  rintro e w1 ⟨rfl, rfl⟩
  go_wp2_with fail
  refine (isNaNs_c _ _).mono ?_
  rintro e w1 ⟨rfl, rfl⟩
  cases h1 : bless s t with
  | true =>
    have g1 : Op.bytesLess s.toList t.toList = true := h1
    have HR := Lib.hid (show r = -1 by rw [HC.out, h1]; rfl)
    clear h1
    go_wp2
    go_ret
    exact ⟨by rw [HR.out]; rfl, rfl⟩
  | false =>
    have g1 : Op.bytesLess s.toList t.toList = false := h1
    cases h2 : bless t s with
    | true =>
      have g2 : (s.toList == t.toList) = false := beqS_of_ne (fun e => by rw [e, bless_strict.irr] at h2; cases h2)
      have HR := Lib.hid (show r = 1 by rw [HC.out, h1, h2]; rfl)
      clear h1 h2
      go_wp2
      go_ret
      exact ⟨by rw [HR.out]; rfl, rfl⟩
    | false =>
      have g2 : (s.toList == t.toList) = true := beqS_of_eq (bless_tri h1 h2)
      have HR := Lib.hid (show r = 0 by rw [HC.out, h1, h2]; rfl)
      clear h1 h2
      go_wp2
      go_ret
      exact ⟨by rw [HR.out]; rfl, rfl⟩
set_option maxRecDepth 100000 in
set_option maxHeartbeats 2000000 in
theorem cmpN_c (s t : Int) (w : World) : Calls Tryz.prog 65 #[i64 s, i64 t] w fun e w' => e = .returned (i64 (cmpN s t)) ∧ w = w' := by
  have HC := Lib.hid (show cmpN s t = if s < t then -1 else if t < s then 1 else 0 from rfl)
  generalize cmpN s t = r at *
  go_enter Tryz.func65, Tryz.ntmps65
  go_wp2_with fail
  refine (isNaNn_c _ _).mono ?_
  rintro e w1 ⟨rfl, rfl⟩
  go_wp2_with fail
  refine (isNaNn_c _ _).mono ?_
  rintro e w1 ⟨rfl, rfl⟩
  by_cases h1 : s < t
  · have g1 : decide (s < t) = true := decide_eq_true h1
    have HR := Lib.hid (show r = -1 by rw [HC.out, if_pos h1])
    clear h1
    go_wp2
    go_ret
    exact ⟨by rw [HR.out]; rfl, rfl⟩
  · have g1 : decide (s < t) = false := decide_eq_false h1
    by_cases h2 : t < s
    · have g2 : decide (t < s) = true := decide_eq_true h2
      have HR := Lib.hid (show r = 1 by rw [HC.out, if_neg h1, if_pos h2])
      clear h1 h2
      go_wp2
      go_ret
      exact ⟨by rw [HR.out]; rfl, rfl⟩
    · have g2 : decide (t < s) = false := decide_eq_false h2
      have HR := Lib.hid (show r = 0 by rw [HC.out, if_neg h1, if_neg h2])
      clear h1 h2
      go_wp2
      go_ret
      exact ⟨by rw [HR.out]; rfl, rfl⟩
/-- cmp.Or at two ints -/
def orN (a b : Int) : Int := if a ≠ 0 then a else b
set_option maxRecDepth 100000 in
set_option maxHeartbeats 4000000 in
theorem or2_c (a b : Int) (g : Nat) (w : World) (h0 : w.cell? ⟨g, 0, none⟩ = some (i64 a)) (h1 : w.cell? ⟨g, 1, none⟩ = some (i64 b)) :
    Calls Tryz.prog 63 #[.slice (some ⟨g, 0, none⟩) 2 2] w fun e w' => e = .returned (i64 (orN a b)) ∧ w = w' := by
  have HC := Lib.hid (show orN a b = if a ≠ 0 then a else b from rfl)
  generalize orN a b = r at *
  go_enter Tryz.func63, Tryz.ntmps63
  go_wp2
  by_cases ha : a = 0
  · have HR := Lib.hid (show r = b by rw [HC.out, if_neg (by simpa using ha)])
    subst ha
    refine wp_loop_rounds 3 ?_
    rw [rounds_succ]
    by_cases hb : b = 0
    · have HR := Lib.hid (show r = 0 by rw [HR.out, hb])
      subst hb
      go_wp2
      rw [rounds_succ]
      go_wp2
      rw [rounds_succ]
      go_wp2
      go_ret
      exact ⟨by rw [HR.out]; rfl, rfl⟩
    · have g2 : (b != 0) = true := by simpa using hb
      clear hb
      go_wp2
      rw [rounds_succ]
      go_wp2
      go_ret
      exact ⟨by rw [HR.out]; rfl, rfl⟩
  · have g1 : (a != 0) = true := by simpa using ha
    have HR := Lib.hid (show r = a by rw [HC.out, if_pos ha])
    clear ha
    refine wp_loop_rounds 1 ?_
    rw [rounds_succ]
    go_wp2
    go_ret
    exact ⟨by rw [HR.out]; rfl, rfl⟩
end Go.Proofs.YtmljlkjomjflpaaGreat

/- IndexFunc, ContainsFunc, DeleteFunc at hold.Held -/
namespace Go.Proofs.YtmljlkjomjflpaaGreat
open Go.RowKit
set_option maxRecDepth 100000 in
set_option maxHeartbeats 400000 in
theorem indexFunc_held (A : Option Addr) (c : Nat) (l : List Held) (g : FuncId) (cap : Array Value) (p : Held → Bool) (w : World) (h : Sl w w.heap.size A c l) (hn : l.length ≤ 65536)
    (eg : ∀ args w, (callFunc g args).run Tryz.prog w = .ok (.enter g args) w)
    (hf : ∀ x, x ∈ l → ∀ w1, Below w.heap.size w w1 → Calls Tryz.prog g (#[x.v] ++ cap) w1 fun e w2 => e = .returned (.bool (p x)) ∧ Below w1.heap.size w1 w2) :
    Calls Tryz.prog 103 #[.slice A l.length c, .func (.func g) #[] cap] w fun e w' => e = .returned (i64 (idxP p l)) ∧ Below w.heap.size w w' := by
  have Hf := Lib.hid hf
  clear hf
  go_enter Tryz.func103, Tryz.ntmps103
  go_wp2
  go_loopw [8] (fun i wr => ∃ k : Nat, k ≤ l.length ∧ i = i64 k ∧ (∀ j (hj : j < l.length), j < k → p l[j] = false) ∧ Below w.heap.size w wr) (fun i _ => l.length - (intOf i).toNat)
  case atStart => exact ⟨0, Nat.zero_le _, rfl, by omega, Below.refl _ _⟩
  case round =>
    obtain ⟨k, hk, rfl, hno, hb⟩ := hrel
    by_cases hlt : k < l.length
    · obtain ⟨b, o, rfl, hbb, -, d0, d1, d2⟩ := (h.later hb).held hlt
      have Hno := Lib.hid hno
      clear hno
      go_wp2_with fail
      refine (Hf.out _ (List.getElem_mem hlt) _ hb).mono ?_
      rintro e w2 ⟨rfl, hb2⟩
      have hb3 := hb.trans (hb2.mono hb.size)
      by_cases hp : p l[k] = true
      · rw [hp]
        have Hp := Lib.hid hp
        clear hp
        go_wp2
        go_ret
        exact ⟨by rw [show idxP p l = k from idxP_hit hlt Hp.out Hno.out]; rfl, hb3⟩
      · have hp' : p l[k] = false := by simpa using hp
        rw [hp']
        have Hp := Lib.hid hp'
        clear hp hp'
        go_wp2
        go_roundw
        case rel => exact ⟨k + 1, by omega, by go_num, fun j hj h => by
            rcases Nat.lt_succ_iff_lt_or_eq.1 h with h | rfl
            · exact Hno.out j hj h
            · exact Hp.out, hb3⟩
        case measure => simp [intOf]; omega
    · have hkl : k = l.length := by omega
      subst hkl
      go_wp2
      go_ret
      exact ⟨by rw [show idxP p l = -1 from idxP_miss (fun j hj => hno j hj hj)]; rfl, hb⟩

theorem one_held : ∀ u ∈ (Value.agg #[i64 0, .string ByteArray.empty, i64 0]).cells.toList, u.oneCell' = true := by
  intro u hu
  simp only [Value.cells, List.mem_cons, List.not_mem_nil, or_false] at hu
  rcases hu with rfl | rfl | rfl <;> rfl

set_option maxRecDepth 100000 in
set_option maxHeartbeats 1000000 in
theorem deleteFunc_held (base : Nat) (v : Value) (l : List Held) (g : FuncId) (cap : Array Value) (p : Held → Bool) (w : World) (h : Own w base 81 v l) (hn : l.length ≤ 65536)
    (eg : ∀ args w, (callFunc g args).run Tryz.prog w = .ok (.enter g args) w)
    (hf : ∀ x, x ∈ l → ∀ w1, w.grownBy w1 v.ownBlock → Calls Tryz.prog g (#[x.v] ++ cap) w1 fun e w2 => e = .returned (.bool (p x)) ∧ Below w1.heap.size w1 w2) :
    Calls Tryz.prog 66 #[v, .func (.func g) #[] cap] w fun e w' => ∃ v', e = .returned v' ∧ Own w' base 81 v' (l.filter fun x => !p x) ∧ w.grownBy w' v.ownBlock ∧ v'.ownBlock = v.ownBlock := by
  obtain ⟨A, c, hv, hs⟩ := h.sl
  have HI := Lib.hid (indexFunc_held A c l g cap p w hs hn eg (fun x hx w1 hb => hf x hx w1 (grown_of_below hb _)))
  by_cases hno : ∀ j (hj : j < l.length), p l[j] = false
  · have hfil : l.filter (fun x => !p x) = l := List.filter_eq_self.2 (fun x hx => by
      obtain ⟨j, hj, rfl⟩ := List.getElem_of_mem hx
      simp [hno j hj])
    rw [show idxP p l = -1 from idxP_miss hno] at HI
    rw [hfil, hv]
    rw [hv] at h hf
    have Hf := Lib.hid h
    clear hfil hno hf hv h hs eg
    go_enter Tryz.func66, Tryz.ntmps66
    go_wp2_with (go_at_call 103; refine (HI.out).mono ?_; rintro e w' ⟨rfl, hb⟩)
    go_ret
    exact ⟨_, rfl, Hf.out.later hb, grown_of_below hb _, rfl⟩
  · obtain ⟨i0, hi0, hpi0, hbef⟩ : ∃ i0, ∃ h : i0 < l.length, p l[i0] = true ∧ ∀ j (hj : j < l.length), j < i0 → p l[j] = false := by
      have hex : ∃ k, l.findIdx? p = some k := by
        cases hq : l.findIdx? p with
        | some k => exact ⟨k, rfl⟩
        | none => exact absurd (fun j hj => List.findIdx?_eq_none_iff.1 hq _ (List.getElem_mem hj)) hno
      obtain ⟨k, hk⟩ := hex
      obtain ⟨h1, h2, h3⟩ := List.findIdx?_eq_some_iff_getElem.1 hk
      exact ⟨k, h1, h2, fun j hj hjk => by simpa using h3 j hjk⟩
    rw [show idxP p l = i0 from idxP_hit hi0 hpi0 hbef] at HI
    have hfil0 : (l.take (i0 + 1)).filter (fun x => !p x) = l.take i0 := by
      rw [List.take_succ_eq_append_getElem hi0, List.filter_append, List.filter_eq_self.2 (fun x hx => by
        obtain ⟨j, hj, rfl⟩ := List.getElem_of_mem hx
        simp only [List.length_take] at hj
        rw [List.getElem_take, hbef j (by omega) (by omega)]; rfl)]
      simp [hpi0]
    clear hno hbef hpi0
    obtain ⟨gb, cp, cur0, rfl, hgb, _, hcap, hcapm, _, _⟩ := h.form (by omega)
    injection hv with hA hB hC
    subst hA hC
    have HF := Lib.hid hf
    have HF0 := Lib.hid hfil0
    have hcm : cp ≤ 9223372036854775807 := by unfold maxLen at hcapm; exact hcapm
    clear hf hfil0 hs hcapm hB
    have hne : ((i0 : Int) == -1) = false := by rw [beq_eq_false_iff_ne]; omega
    go_enter Tryz.func66, Tryz.ntmps66
    go_wp2_with (go_at_call 103; refine (HI.out).mono ?_; rintro e w' ⟨rfl, hb⟩)
    have hO' := h.later hb
    have hgr' := grown_of_below hb (some gb)
    go_loopw [5, 6] (fun i j wr => ∃ (ni nj : Nat) (cur : List Held), i = i64 ni ∧ j = i64 nj ∧ ni < nj ∧ nj ≤ l.length ∧ cur.length = l.length ∧ Own wr base 81 (.slice (some ⟨gb, 0, none⟩) l.length cp) cur ∧ w.grownBy wr (some gb) ∧
      cur.take ni = (l.take nj).filter (fun x => !p x) ∧ cur.drop nj = l.drop nj) (fun _ j _ => l.length - (intOf j).toNat)
    case atStart => exact ⟨i0, i0 + 1, l, rfl, by go_num, by omega, by omega, rfl, hO', hgr', HF0.out.symm, rfl⟩
    case round =>
      obtain ⟨ni, nj, cur, rfl, rfl, hij, hjn, hcl, hO, hgr, htk, hdr⟩ := hrel
      by_cases hlt : nj < l.length
      · have hjc : nj < cur.length := by omega
        have hcj : cur[nj] = l[nj] := by
          have h1 : (cur.drop nj)[0]? = (l.drop nj)[0]? := by rw [hdr]
          simpa [hjc, hlt] using h1
        obtain ⟨A', c', hv', hs'⟩ := hO.sl
        injection hv' with hA' hB' hC'
        clear hB'
        subst hA' hC'
        have hz := hO.base_le.2
        obtain ⟨b', o', hb', hlb, hok, d0, d1, d2⟩ := hs'.held hjc
        injection hb' with hb'
        injection hb' with hb1' ho'
        subst hb1' ho'
        have HC := Lib.hid hcl
        rw [hcj] at d0 d1 d2 hok
        simp only [Nat.zero_add] at d0 d1 d2
        have Hok := Lib.hid hok
        have HT := Lib.hid htk
        have HD := Lib.hid hdr
        have HJ := Lib.hid hcj
        have HO := Lib.hid hO
        have hlt2 : gb < wr.heap.size := hz
        have hBx := (Below.refl wr.heap.size wr).alloc (Nat.le_refl _) (.cells #[i64 l[nj].num, .string l[nj].acct, i64 l[nj].sum] 81)
        have HBx := Lib.hid hBx
        have hokO := hO.2 cur[nj] (List.getElem_mem hjc)
        rw [hcj] at hokO
        have HokO := Lib.hid hokO
        clear hcl htk hdr hcj hs' hok hz hBx hO hokO
        go_wp2_with fail
        refine (HF.out _ (List.getElem_mem hlt) _ (grown_trans hgr (grown_of_below HBx.out (some gb)))).mono ?_
        rintro e w2 ⟨rfl, hb2⟩
        have hO2 := (HO.out.later HBx.out).later hb2
        have hgr2 := grown_trans hgr (grown_of_below (HBx.out.trans (hb2.mono (by simp))) (some gb))
        by_cases hp : p l[nj] = true
        · rw [hp]
          have Hp := Lib.hid hp
          clear hp
          go_wp2
          go_roundw
          case rel => exact ⟨ni, nj + 1, cur, rfl, by go_num, by omega, by omega, HC.out, hO2, hgr2, by rw [HT.out, List.take_succ_eq_append_getElem hlt, List.filter_append]; simp [Hp.out], by
            rw [← List.drop_drop, HD.out, List.drop_drop]⟩
          case measure => simp [intOf]; omega
        · have hp' : p l[nj] = false := by simpa using hp
          rw [hp']
          have Hp := Lib.hid hp'
          clear hp hp'
          have hcx : ∀ o, w2.cell? ⟨wr.heap.size, o, none⟩ = _ := fun o => hb2.cell (p := ⟨wr.heap.size, o, none⟩) (by simp)
          have hok : Enc.ok w2 (Oth w2 (.slice (some ⟨gb, 0, none⟩) l.length cp)) l[nj] :=
            oth_grown (grown_of_below (HBx.out.trans (hb2.mono (by simp))) _) (.inl rfl) HokO.out
          have HokN := Lib.hid hok
          clear hok
          have hni : ni < cur.length := by rw [HC.out]; omega
          go_wp2_with (refine wpList_store_own rfl none (.tmp 33) (.tmp 32) 81 rfl rfl (by kernel_rfl) gb l.length cp ni (ni * 3) l[nj] hO2 hni rfl rfl rfl HokN.out ?_; intro w3 hO3 hg3)
          go_roundw
          case rel => exact ⟨ni + 1, nj + 1, cur.set ni l[nj], by go_num, by go_num, by omega, by omega, by rw [List.length_set]; exact HC.out, hO3, grown_trans hgr2 hg3, by
              rw [List.take_succ_eq_append_getElem (by rw [List.length_set]; exact hni), List.getElem_set_self, List.take_set_of_le (Nat.le_refl _), HT.out, List.take_succ_eq_append_getElem hlt, List.filter_append]; simp [Hp.out], by
              rw [List.drop_set_of_lt (by omega), ← List.drop_drop, HD.out, List.drop_drop]⟩
          case measure => simp [intOf]; omega
      · obtain rfl : nj = l.length := by omega
        have HC := Lib.hid hcl
        have HT := Lib.hid htk
        clear hcl htk hdr
        have hni : ni ≤ cur.length := by have := HC.out; omega
        go_wp2_with (refine wpList_clear_own rfl none (.tmp 38) 41 rfl rfl 81 Tryz.underlying41 (.agg #[i64 0, .string ByteArray.empty, i64 0]) (fun _ => by kernel_rfl) rfl one_held gb l.length cp ni (ni * 3) _ _ hO hni rfl rfl (fun _ => rfl) ?_; intro w3 hO3 hg3)
        go_ret
        exact ⟨_, rfl, by rw [HT.out, List.take_length] at hO3; exact hO3, grown_trans hgr hg3, rfl⟩
end Go.Proofs.YtmljlkjomjflpaaGreat

/- chart.Copy, hold.Copy -/
namespace Go.Proofs.YtmljlkjomjflpaaGreat
open Go.RowKit
theorem MapIs.cloned {κ : Type} {enc : κ → Value} {w : World} {b : Nat} {M : List (κ × Value)} {es : Array MapEntry} {clock : Nat} (h : MapIs enc w b M) (hb : w.heap[b]? = some (.map es clock)) : MapIs enc (w.alloc (.map es clock)) w.heap.size M := by
  obtain ⟨es', clock', hb', r⟩ := h
  rw [hb] at hb'
  injection hb' with hb'
  injection hb' with e1 e2
  subst e1 e2
  exact ⟨es, clock, heap_alloc_new w _, r⟩
set_option maxRecDepth 100000 in
set_option maxHeartbeats 4000000 in
theorem chcopy_c (g b : Nat) (M : List (ByteArray × Ac)) (w : World) (h : ChIs w g b M) :
    Calls Tryz.prog 70 #[.pointer (some ⟨g, 0, none⟩)] w fun e w' => ∃ g' b', e = .returned (.pointer (some ⟨g', 0, none⟩)) ∧ ChIs w' g' b' M ∧ w.heap.size ≤ g' ∧ w.heap.size ≤ b' ∧ Below w.heap.size w w' := by
  obtain ⟨es, clock, hb, hr⟩ := h.map
  have hm := h.map.cloned hb
  have hC := AnyW.maps_Clone Tryz.lcloneA b es clock w hb
  change Calls Tryz.prog 107 _ _ _ at hC
  have HC := Lib.hid hC
  have c0 := cell_of_row _ g 0 _ _ (0, 0) h.cell
  simp only [List.getElem?_toArray, List.getElem?_cons_zero] at c0
  have hB := ((Below.refl w.heap.size w).alloc (Nat.le_refl _) (.map es clock)).alloc (by simp) (.cells #[.map (some w.heap.size)] 122)
  clear hb hr h hC
  go_enter Tryz.func70, Tryz.ntmps70
  go_wp2_with fail
  refine HC.out.mono ?_
  rintro e w1 ⟨rfl, rfl⟩
  go_wp2
  go_ret
  exact ⟨w.heap.size + 1, w.heap.size, rfl, ⟨by omega, heap_alloc2_new w _ _, hm.later ((Below.refl _ _).alloc (Nat.le_refl _) _)⟩, by omega, by omega, hB⟩
set_option maxRecDepth 100000 in
set_option maxHeartbeats 4000000 in
theorem hocopy_c (g b : Nat) (H : List (Hk × Int)) (w : World) (h : HoIs w g b H) :
    Calls Tryz.prog 71 #[.pointer (some ⟨g, 0, none⟩)] w fun e w' => ∃ g' b', e = .returned (.pointer (some ⟨g', 0, none⟩)) ∧ HoIs w' g' b' H ∧ w.heap.size ≤ g' ∧ w.heap.size ≤ b' ∧ Below w.heap.size w w' := by
  obtain ⟨es, clock, hb, hr⟩ := h.map
  have hm := h.map.cloned hb
  have hC := AnyW.maps_Clone Tryz.lcloneH b es clock w hb
  change Calls Tryz.prog 108 _ _ _ at hC
  have HC := Lib.hid hC
  have c0 := cell_of_row _ g 0 _ _ (0, 0) h.cell
  simp only [List.getElem?_toArray, List.getElem?_cons_zero] at c0
  have hB := ((Below.refl w.heap.size w).alloc (Nat.le_refl _) (.map es clock)).alloc (by simp) (.cells #[.map (some w.heap.size)] 101)
  clear hb hr h hC
  go_enter Tryz.func71, Tryz.ntmps71
  go_wp2_with fail
  refine HC.out.mono ?_
  rintro e w1 ⟨rfl, rfl⟩
  go_wp2
  go_ret
  exact ⟨w.heap.size + 1, w.heap.size, rfl, ⟨by omega, heap_alloc2_new w _ _, hm.later ((Below.refl _ _).alloc (Nat.le_refl _) _)⟩, by omega, by omega, hB⟩
end Go.Proofs.YtmljlkjomjflpaaGreat

/- hold.All: the order of the sort -/
namespace Go.Proofs.YtmljlkjomjflpaaGreat
open Go.RowKit
open Go.Sort in
set_option maxRecDepth 100000 in
set_option maxHeartbeats 800000 in
theorem hcmp_c (x y : Held) (w : World) :
    Calls Tryz.prog 62 #[x.v, y.v] w fun e w' => e = .returned (i64 (orN (cmpS x.acct y.acct) (cmpN x.num y.num))) ∧ ∃ q os, w' = grow (w.drewN q) os := by
  have k1 := fun W => cmpS_c x.acct y.acct W
  have k2 := fun W => cmpN_c x.num y.num W
  have k3 := fun g W h0 h1 => or2_c (cmpS x.acct y.acct) (cmpN x.num y.num) g W h0 h1
  have hg1 := heap_alloc2_old w (.cells #[i64 x.num, .string x.acct, i64 x.sum] 81) (.cells #[i64 y.num, .string y.acct, i64 y.sum] 81)
  have hg2 := heap_alloc2_new w (.cells #[i64 x.num, .string x.acct, i64 x.sum] 81) (.cells #[i64 y.num, .string y.acct, i64 y.sum] 81)
  have hend : ∀ o1 o2 o3 : Obj, ∃ q os, (((w.alloc o1).alloc o2).drew.alloc o3) = grow (w.drewN q) os := fun o1 o2 o3 => ⟨1, #[o1, o2, o3], by
    simp only [alloc_eq_grow, drew_grow, grow_grow]; rfl⟩
  have Hend := Lib.hid hend
  generalize cmpS x.acct y.acct = p at *
  generalize cmpN x.num y.num = q at *
  have K1 := Lib.hid k1
  have K2 := Lib.hid k2
  have K3 := Lib.hid k3
  have n1 := cell_of_row _ w.heap.size 0 _ _ (0, 0) hg1
  have n2 := cell_of_row _ w.heap.size 1 _ _ (0, 0) hg1
  have m1 := cell_of_row _ (w.heap.size + 1) 0 _ _ (0, 0) hg2
  have m2 := cell_of_row _ (w.heap.size + 1) 1 _ _ (0, 0) hg2
  simp only [List.getElem?_toArray, List.getElem?_cons_zero, List.getElem?_cons_succ] at n1 n2 m1 m2
  clear hg1 hg2 k1 k2 k3 hend
  go_enter Tryz.func62, Tryz.ntmps62
  go_wp2_with fail
  have hS : ∀ o, (fun V => V.cell? ⟨w.heap.size, 0, none⟩ = some (i64 x.num) ∧ V.cell? ⟨w.heap.size, 1, none⟩ = some (.string x.acct) ∧ V.cell? ⟨w.heap.size + 1, 0, none⟩ = some (i64 y.num) ∧ V.cell? ⟨w.heap.size + 1, 1, none⟩ = some (.string y.acct)) ((((w.alloc (.cells #[i64 x.num, .string x.acct, i64 x.sum] 81)).alloc (.cells #[i64 y.num, .string y.acct, i64 y.sum] 81)).drew).alloc o) := fun o => ⟨(World.cell?_alloc_lt _ _ _ (by simp; omega)).trans n1, (World.cell?_alloc_lt _ _ _ (by simp; omega)).trans n2, (World.cell?_alloc_lt _ _ _ (by simp)).trans m1, (World.cell?_alloc_lt _ _ _ (by simp)).trans m2⟩
  have HS := Lib.hid hS
  clear hS
  refine wp_region_noPanic ?_
  refine wp_region_l 12 (fun V => V.cell? ⟨w.heap.size, 0, none⟩ = some (i64 x.num) ∧ V.cell? ⟨w.heap.size, 1, none⟩ = some (.string x.acct) ∧ V.cell? ⟨w.heap.size + 1, 0, none⟩ = some (i64 y.num) ∧ V.cell? ⟨w.heap.size + 1, 1, none⟩ = some (.string y.acct)) (by kernel_rfl) (⟨n1, n2, m1, m2⟩) (fun hH => ?_)
  refine wpAnyL_take (i := 0) (v := ?v1) rfl (by kernel_rfl) (by kernel_rfl) (by kernel_rfl) (by kernel_rfl) (fun _ _ _ h => h) (Or.inl ⟨by kernel_rfl, ?hy1⟩) (by assumption) ?r1
  case hy1 => (intro W hSW; obtain ⟨s1, s2, s3, s4⟩ := hSW; go_simp; try with_reducible rfl)
  try simp only [Act.put, List.getElem_toArray, List.getElem_cons_zero, List.setIfInBounds_toArray, List.set_cons_zero, List.set_cons_succ]
  refine wpAnyL_take (i := 1) (v := ?v2) rfl (by kernel_rfl) (by kernel_rfl) (by kernel_rfl) (by kernel_rfl) (fun _ _ _ h => h) (Or.inl ⟨by kernel_rfl, ?hy2⟩) (by assumption) ?r2
  case hy2 => (intro W hSW; obtain ⟨s1, s2, s3, s4⟩ := hSW; go_simp; try with_reducible rfl)
  try simp only [Act.put, List.getElem_toArray, List.getElem_cons_zero, List.getElem_cons_succ, List.setIfInBounds_toArray, List.set_cons_zero, List.set_cons_succ]
  refine wpAnyL_take (i := 2) (v := ?v3) rfl (by kernel_rfl) (by kernel_rfl) (by kernel_rfl) (by kernel_rfl) (fun _ _ _ h => h) (Or.inl ⟨by kernel_rfl, ?hy3⟩) (by assumption) ?r3
  case hy3 => (intro W hSW; obtain ⟨s1, s2, s3, s4⟩ := hSW; go_simp; try with_reducible rfl)
  try simp only [Act.put, List.getElem_toArray, List.getElem_cons_zero, List.getElem_cons_succ, List.setIfInBounds_toArray, List.set_cons_zero, List.set_cons_succ]
  refine wpAnyL_take (i := 3) (v := ?v4) rfl (by kernel_rfl) (by kernel_rfl) (by kernel_rfl) (by kernel_rfl) (fun _ _ _ h => h) (Or.inl ⟨by kernel_rfl, ?hy4⟩) (by assumption) ?r4
  case hy4 => (intro W hSW; obtain ⟨s1, s2, s3, s4⟩ := hSW; go_simp; try with_reducible rfl)
  try simp only [Act.put, List.getElem_toArray, List.getElem_cons_zero, List.getElem_cons_succ, List.setIfInBounds_toArray, List.set_cons_zero, List.set_cons_succ]
  refine wpAnyL_take (i := 5) (v := ?v5) rfl (by kernel_rfl) (by kernel_rfl) (by kernel_rfl) (by kernel_rfl) (fun _ _ _ h => h) (Or.inl ⟨by kernel_rfl, ?hy5⟩) (by assumption) ?r5
  case hy5 => (intro W hSW; obtain ⟨s1, s2, s3, s4⟩ := hSW; go_simp; try with_reducible rfl)
  try simp only [Act.put, List.getElem_toArray, List.getElem_cons_zero, List.getElem_cons_succ, List.setIfInBounds_toArray, List.set_cons_zero, List.set_cons_succ]
  refine wpAnyL_take (i := 6) (v := ?v6) rfl (by kernel_rfl) (by kernel_rfl) (by kernel_rfl) (by kernel_rfl) (fun _ _ _ h => h) (Or.inl ⟨by kernel_rfl, ?hy6⟩) (by assumption) ?r6
  case hy6 => (intro W hSW; obtain ⟨s1, s2, s3, s4⟩ := hSW; go_simp; try with_reducible rfl)
  try simp only [Act.put, List.getElem_toArray, List.getElem_cons_zero, List.getElem_cons_succ, List.setIfInBounds_toArray, List.set_cons_zero, List.set_cons_succ]
  refine wpAnyL_take (i := 7) (v := ?v7) rfl (by kernel_rfl) (by kernel_rfl) (by kernel_rfl) (by kernel_rfl) (fun _ _ _ h => h) (Or.inl ⟨by kernel_rfl, ?hy7⟩) (by assumption) ?r7
  case hy7 => (intro W hSW; obtain ⟨s1, s2, s3, s4⟩ := hSW; go_simp; try with_reducible rfl)
  try simp only [Act.put, List.getElem_toArray, List.getElem_cons_zero, List.getElem_cons_succ, List.setIfInBounds_toArray, List.set_cons_zero, List.set_cons_succ]
  refine wpAnyL_take (i := 8) (v := ?v8) rfl (by kernel_rfl) (by kernel_rfl) (by kernel_rfl) (by kernel_rfl) (fun _ _ _ h => h) (Or.inl ⟨by kernel_rfl, ?hy8⟩) (by assumption) ?r8
  case hy8 => (intro W hSW; obtain ⟨s1, s2, s3, s4⟩ := hSW; go_simp; try with_reducible rfl)
  try simp only [Act.put, List.getElem_toArray, List.getElem_cons_zero, List.getElem_cons_succ, List.setIfInBounds_toArray, List.set_cons_zero, List.set_cons_succ]
  refine wpAnyL_one (i := 4) (by kernel_rfl) rfl (by decide) (fun K hK => ?_)
  go_simp
  with_reducible refine (K1.out _).mono ?_
  rintro e u1 ⟨rfl, rfl⟩
  refine hK.out _ _ (hH) (fun hH => ?_)
  clear hK K
  try simp only [Act.put, List.getElem_toArray, List.getElem_cons_zero, List.getElem_cons_succ, List.setIfInBounds_toArray, List.set_cons_zero, List.set_cons_succ]
  refine wpAnyL_one (i := 9) (by kernel_rfl) rfl (by decide) (fun K hK => ?_)
  go_simp
  with_reducible refine (K2.out _).mono ?_
  rintro e u1 ⟨rfl, rfl⟩
  refine hK.out _ _ (hH) (fun hH => ?_)
  clear hK K
  try simp only [Act.put, List.getElem_toArray, List.getElem_cons_zero, List.getElem_cons_succ, List.setIfInBounds_toArray, List.set_cons_zero, List.set_cons_succ]
  refine wpAnyL_one (i := 10) (by kernel_rfl) rfl (by decide) (fun K hK => ?_)
  go_simp
  refine hK.out _ _ (HS.out _) (fun hH => ?_)
  clear hK K
  try simp only [Act.put, List.getElem_toArray, List.getElem_cons_zero, List.getElem_cons_succ, List.setIfInBounds_toArray, List.set_cons_zero, List.set_cons_succ]
  refine wpAnyL_one (i := 11) (by kernel_rfl) rfl (by decide) (fun K hK => ?_)
  go_simp
  with_reducible refine (K3.out _ _ ?c0 ?c1).mono ?_
  case c0 => go_simp
  case c1 => go_simp
  rintro e u1 ⟨rfl, rfl⟩
  refine hK.out _ _ (hH) (fun hH => ?_)
  clear hK K
  try simp only [Act.put, List.getElem_toArray, List.getElem_cons_zero, List.getElem_cons_succ, List.setIfInBounds_toArray, List.set_cons_zero, List.set_cons_succ]
  refine wpAnyL_last (by kernel_rfl) rfl (fun K hK => ?_)
  go_simp
  refine hK.out _ _ ?_
  clear hK K
  try simp only [Act.put, List.getElem_toArray, List.getElem_cons_zero, List.getElem_cons_succ, List.setIfInBounds_toArray, List.set_cons_zero, List.set_cons_succ]
  refine wpAnyL_done (by kernel_rfl) ?_ _
  refine NoPanic.normal ?_
  go_wp2
  go_ret
  exact ⟨rfl, Hend.out _ _ _⟩
end Go.Proofs.YtmljlkjomjflpaaGreat
