/- Texts of this claim, laid together: ChAll, RegL, SortF. -/
import Derived.Test.YtmljlkjomjflpaaGreatRows
import Derived.Test.YtmljlkjomjflpaaGreatHp6
import Derived.Test.YtmljlkjomjflpaaGreatShelf
import Derived.Test.YtmljlkjomjflpaaGreatHp2
import Derived.WalkKit
import Derived.WalkSpells
import Derived.WalkLawsBesides
import Derived.Deep.QuietTactic
import Derived.BigQuiet
import Derived.Laws.StructEq
import Derived.Deep.DeepFit
import Derived.StillTailTactics
import Derived.Deep.RegionHeld3
import Derived.Test.YtmljlkjomjflpaaGreatHp5
import Derived.Test.YtmljlkjomjflpaaGreatHp1
import Derived.Shelf.SlSortCmp.WholeK
import Derived.Shelf.SlSortCmp.NoneTotal

/- chart.All -/
namespace Go.Proofs.YtmljlkjomjflpaaGreat
open Go.RowKit
theorem acInfo_ : (Tryz.prog.info? 70).map (fun i => (i.zero, i.size, i.bytes)) = some (some (.agg #[.string ByteArray.empty, i64 0, i64 0, i64 0]), Enc.size Ac, 40) := by kernel_rfl
theorem keysA_c (mb : Option Nat) (W : World) : Calls Tryz.prog 69 #[.map mb] W fun e w' => e = .returned (.func (.func 106) #[] #[.pointer (some ⟨W.heap.size, 0, none⟩)]) ∧ w' = W.alloc (.cells #[.map mb] 120) :=
  (callsIn_wide (n := 5)).1 (AnyZ.keys_in Tryz.keysA Fence.wide 5 trivial rfl mb W)
theorem sortsA (m : Nat) : AnyZ.SortsIn Tryz.prog Tryz.sortedA_ren Fence.wide m :=
  ⟨fun blk off cap ss W hH hblk hsz => callsIn_wide.2 (Tryz.slices_Sort_string blk off cap ss W hH hblk hsz),
   fun p cap W => callsIn_wide.2 (Tryz.slices_Sort_string_none p cap W)⟩
theorem RkA.names {M : List (ByteArray × Ac)} {L : List Ac} (h : RkA M L) : (M.map (·.1)).Perm (L.map Ac.name) := by
  have h1 := h.perm.map Ac.name
  rw [List.map_map] at h1
  refine (List.Perm.of_eq (List.map_congr_left fun p hp => ?_)).trans h1
  exact (h.key p hp).symm
theorem srt_names {L : List Ac} (h : SrtL ltA L) : (L.map Ac.name).Pairwise fun a b => bless a b = true := List.pairwise_map.2 h
theorem nameB_sz {s : ByteArray} (h : nameB s = true) : s.size ≤ 8 := by
  unfold nameB at h
  simp only [Bool.and_eq_true, decide_eq_true_eq] at h
  exact h.2.2
theorem flat1 (N : List ByteArray) : N.flatMap Enc.cells = N.map Value.string := by
  induction N with
  | nil => rfl
  | cons a r ih => rw [List.flatMap_cons, ih]; rfl
theorem OkA.sizes {L : List Ac} (h : OkA L) : ∀ a ∈ L, a.name.size ≤ 8 := fun a ha => nameB_sz (h a ha).2.2
theorem mergeSort_len_ (ss : List (List UInt8)) : (ss.mergeSort fun x y => decide (x ≤ y)).length = ss.length := (List.mergeSort_perm ss _).length_eq
set_option maxRecDepth 100000 in
set_option maxHeartbeats 2000000 in
theorem sortedA_c (b : Nat) (M : List (ByteArray × Ac)) (L : List Ac) (W : World) (h : MapIs Value.string W b (mv M)) (hr : RkA M L) (hok : OkA L) (hn : L.length ≤ 65536) :
    Calls Tryz.prog 68 #[.func (.func 106) #[] #[.pointer (some ⟨W.heap.size, 0, none⟩)]] (W.alloc (.cells #[.map (some b)] 120)) fun e w' =>
      ∃ v, e = .returned v ∧ Own w' (W.heap.size + 1) 9 v (L.map Ac.name) ∧ Below (W.heap.size + 1) (W.alloc (.cells #[.map (some b)] 120)) w' := by
  have hML : (mv M).length = L.length := by unfold mv; rw [List.length_map]; exact hr.len
  have hsz : ∀ p ∈ mv M, p.1.size ≤ 8 := fun p hp => by
    obtain ⟨q, hq, rfl⟩ := List.mem_map.1 hp
    have h1 : q.1 ∈ L.map Ac.name := hr.names.mem_iff.1 (List.mem_map.2 ⟨q, hq, rfl⟩)
    obtain ⟨a, ha, e⟩ := List.mem_map.1 h1
    have := hok.sizes a ha
    show q.1.size ≤ 8
    rw [← e]; exact this
  obtain ⟨D0, hown, hk, hz⟩ := ownsMap_of (P := Tryz.prog) (k := 9) Tryz.underlying9 h (by rw [hML]; unfold maxLen; omega) (fun p hp => by have := hsz p hp; unfold maxLen; omega)
  refine (callsIn_wide (n := 5)).1 ?_
  have hbl := hown.lt
  have hseq : SeqGives Fence.wide 2 Tryz.prog 106 #[.pointer (some ⟨W.heap.size, 0, none⟩)] _root_.Go.Proofs.encStr (fun ss => ss.Perm (strKeys D0)) (Maps.size D0) (W.alloc (.cells #[.map (some b)] 120)) :=
    AnyZ.keys_gives (ρ := Tryz.keysA_ren) { Tryz.keysA with } Fence.wide _ trivial rfl (by omega) W.heap.size b (mv M).length D0 _ (by simp) (by simp) (by
      obtain ⟨es, clock, hb, Ft, hs, hD⟩ := hown
      exact ⟨es, clock, (Below.heap_alloc _ _ b hbl).trans hb, Ft, hs, hD⟩)
  have cS := AnyZ.sorted_in Tryz.sortedA Fence.wide 5 trivial trivial trivial trivial rfl (by omega) (sortsA _) (enters_of Tryz.func105 (by kernel_rfl) rfl) 106 #[.pointer (some ⟨W.heap.size, 0, none⟩)] trivial (enters_of Tryz.func106 (by kernel_rfl) rfl) _ _ (by rw [hz, hML]; unfold maxLen; omega) (by rw [hz, hML]; omega) _ hseq
  change CallsIn _ _ Tryz.prog 68 _ _ _ at cS
  refine cS.mono ?_
  rintro e w' ⟨v, ss, rfl, hS, hrow, hnil, hb⟩
  have hp : ss.Perm ((L.map Ac.name).map fun a => a.data.toList) := by
    refine (hS.trans hk).trans ?_
    have := hr.names.map (fun a : ByteArray => a.data.toList)
    refine List.Perm.trans (List.Perm.of_eq ?_) this
    unfold mv
    rw [List.map_map, List.map_map]
    rfl
  have hlen : ss.length = (L.map Ac.name).length := by rw [hp.length_eq, List.length_map]
  rw [sorted_keys hp (srt_names hr.srt), hlen] at hrow
  refine ⟨v, rfl, ⟨?_, fun x hx => ?_⟩, by simpa using hb⟩
  · rw [flat1]
    have hs : (W.alloc (.cells #[.map (some b)] 120)).heap.size = W.heap.size + 1 := by simp
    rw [hs] at hrow
    exact hrow
  · obtain ⟨a, ha, rfl⟩ := List.mem_map.1 hx
    have := hok.sizes a ha
    show a.name.size ≤ maxLen
    unfold maxLen; omega
set_option maxRecDepth 100000 in
set_option maxHeartbeats 4000000 in
theorem challA_c (g b : Nat) (L : List Ac) (w : World) (h : ChA w g b L) (hok : OkA L) (hn : L.length ≤ 65536) :
    Calls Tryz.prog 23 #[.pointer (some ⟨g, 0, none⟩)] w fun e w' => ∃ v, e = .returned v ∧ Own w' w.heap.size 70 v L ∧ Below w.heap.size w w' := by
  have hsrt := h.srt
  obtain ⟨M, h, hr⟩ := h
  have hlg := h.lt.1
  have Hr := Lib.hid hr
  have Hok := Lib.hid hok
  have c0 := cell_of_row _ g 0 _ _ (0, 0) h.cell
  simp only [List.getElem?_toArray, List.getElem?_cons_zero] at c0
  have Hch := Lib.hid h
  have Hsr := Lib.hid hsrt
  have hK := Lib.hid fun W => keysA_c (some b) W
  have hS := Lib.hid (sortedA_c b M L w h.map hr hok hn)
  clear h hr hok hsrt
  go_enter Tryz.func23, Tryz.ntmps23
  go_wp2_with fail
  refine (hK.out _).mono ?_
  rintro e w1 ⟨rfl, rfl⟩
  go_wp2_with fail
  refine hS.out.mono ?_
  rintro e w2 ⟨kv, rfl, hkv, hF⟩
  have hB2 : Below w.heap.size w w2 := ((Below.refl _ w).alloc (Nat.le_refl _) _).trans (hF.mono (Nat.le_succ _))
  have Hkv := Lib.hid hkv
  clear hK hS hF hkv
  have hkl : (L.map Ac.name).length = L.length := List.length_map ..
  obtain ⟨A, c, rfl⟩ : ∃ A c, kv = .slice A L.length c := by
    obtain ⟨-, hrw⟩ := Hkv.out.1
    rw [hkl] at hrw
    rcases hrw with ⟨e, e0⟩ | ⟨gb, cap, _, e, _⟩
    · exact ⟨none, 0, by rw [e, e0]⟩
    · exact ⟨_, _, e⟩
  have hsz2 := hB2.size
  go_wp2_with fail
  go_loopw [3, 15] (fun v i wr => ∃ n : Nat, i = i64 n ∧ n ≤ L.length ∧ Own wr w2.heap.size 70 v (L.take n) ∧ Below w2.heap.size w2 wr) (fun _ i _ => L.length - (intOf i).toNat)
  case atStart => exact ⟨0, rfl, Nat.zero_le _, Own.nil_ _ _ _, Below.refl _ _⟩
  case round =>
    obtain ⟨n, rfl, hnl, hO, hB⟩ := hrel
    by_cases hlt : n < L.length
    · obtain ⟨gb, cap, cur, hkv1, hgb, hrow, -⟩ := Hkv.out.form (by rw [hkl]; omega)
      injection hkv1 with eA eL eC
      subst eA eC
      clear eL
      have hkn : n < (L.map Ac.name).length := by rw [hkl]; exact hlt
      have hK2 := Hkv.out.later hB
      have hat : wr.cell? ⟨gb, n, none⟩ = some (.string (L[n]).name) := by
        have := hK2.at_ hkn 0 (.string (L[n]).name) (by simp only [List.getElem_map]; rfl)
        rw [show Enc.size ByteArray = 1 from rfl, Nat.mul_one, Nat.add_zero] at this
        exact this
      have hBw := hB2.trans (hB.mono hB2.size)
      have hm := (Hch.out.later hBw).map
      have hlk := run_lookup (P := Tryz.prog) strKey Tryz.underlying120 hm (L[n]).name (ac0.v) (by kernel_rfl) false
      rw [getM_mv, Hr.out.get_ _, getK_of keyA Hsr.out (List.getElem_mem hlt)] at hlk
      have c1 := (hBw.cell (p := ⟨g, 0, none⟩) hlg).trans c0
      unfold ac0 at hlk
      obtain ⟨a, ha⟩ : ∃ a, L[n] = a := ⟨_, rfl⟩
      rw [ha] at hat hlk
      have hal : a.name.size ≤ maxLen := by have := Hok.out.sizes _ (List.getElem_mem hlt); rw [ha] at this; unfold maxLen; omega
      have HO2 := Lib.hid (hO.later ((Below.refl _ _).alloc (Nat.le_refl _) (.cells #[.string a.name, i64 a.hav, i64 a.set_, i64 a.lim] 70)))
      have Hne := Lib.hid (hO.new_ne (Nat.le_refl wr.heap.size))
      have HH := Lib.hid (heap_alloc_new wr (.cells #[.string a.name, i64 a.hav, i64 a.set_, i64 a.lim] 70))
      have HB2 := Lib.hid (hB.alloc hB.size (.cells #[.string a.name, i64 a.hav, i64 a.set_, i64 a.lim] 70))
      have Hal := Lib.hid hal
      have Htk := Lib.hid (show L.take n ++ [a] = L.take (n + 1) by rw [← ha]; exact (List.take_succ_eq_append_getElem hlt).symm)
      have Hln := Lib.hid (show (L.take n).length + 1 ≤ 65536 by rw [List.length_take]; omega)
      have g1 : decide ((n : Int) < (L.length : Int)) = true := decide_eq_true (by omega)
      have g2 : decide (n < L.length) = true := decide_eq_true hlt
      have hm1 : (n : Int) + 1 ≤ 65536 := by omega
      clear ha
      clear hK2 hm hBw hB hkl hkn hn hnl hO hal
      simp only [Bool.false_eq_true, if_false, Option.map_some, Option.getD_some] at hlk
      go_wp2_with (at_builtin; refine wpList_append_one rfl (some 27) (.tmp 19) (.tmp 26) 46 rfl rfl (.agg #[.string ByteArray.empty, i64 0, i64 0, i64 0]) 40 Tryz.underlying46 acInfo_ rfl (by decide) (by decide) rfl HO2.out wr.heap.size a rfl _ 70 HH.out rfl Hne.out Hal.out (by have := Hln.out; omega) HB2.out.size ?_; intro v3 w3 hO3 hg3 hat3)
      rw [Htk.out] at hO3
      have hB3 := HB2.out.trans (HO2.out.below hg3 (Nat.le_refl _) HB2.out.size)
      clear hg3 hat3 HO2 HB2
      go_roundw
      case rel => exact ⟨n + 1, by go_num, by omega, hO3, hB3⟩
      case measure => simp [intOf]; omega
    · have g1 : decide ((n : Int) < (L.length : Int)) = false := decide_eq_false (by omega)
      have g2 : decide (n < L.length) = false := decide_eq_false hlt
      go_wp2
      go_ret
      rw [List.take_of_length_le (by omega)] at hO
      exact ⟨_, rfl, hO.mono hsz2, hB2.trans (hB.mono hB2.size)⟩
end Go.Proofs.YtmljlkjomjflpaaGreat

/- A region that draws its order, its last operation one that waits for all others: S need not hold behind that one. No program. -/
namespace Go.Proofs.YtmljlkjomjflpaaGreat
open Go.RowKit

section
variable {P : Program} {ops : Array Oper} {Q : Exit → Act → World → Prop} {md : Region.Mode} {S : World → Prop} {d : Nat}
def wpAnyL (P : Program) (md : Region.Mode) (ops : Array Oper) (Q : Exit → Act → World → Prop) (S : World → Prop) (d : Nat) : Nat → Array Bool → Act → World → Prop
  | 0, listed, a, w => Region.ready md ops listed = [] ∧ Q .normal a w
  | fuel + 1, listed, a, w =>
    (Region.ready md ops listed = [] → Q .normal a w) ∧
    ∀ i ∈ Region.ready md ops listed, wpOp P ops Q i (fun a' w' => (i ≠ d → S w') ∧ wpAnyL P md ops Q S d fuel (listed.setIfInBounds i true) a' w') a w
theorem wpAny_of_l : ∀ (fuel : Nat) (listed : Array Bool) (a : Act) (w : World), wpAnyL P md ops Q S d fuel listed a w → wpAny P md ops Q fuel listed a w
  | 0, _, _, _, h => h
  | fuel + 1, _, _, _, h => ⟨h.1, fun i hi => wpOp_mono (fun a' w' h' => wpAny_of_l fuel _ a' w' h'.2) (h.2 i hi)⟩
/-- which operations wait for operation i, straight or through others -/
def depGo (md : Region.Mode) (i : Nat) : List Oper → Array Bool → Array Bool
  | [], acc => acc
  | o :: r, acc => depGo md i r (acc.push (o.after.any fun e => Region.binds md e && (e.on == i || acc.getD e.on false)))
def waits (md : Region.Mode) (ops : Array Oper) (d i : Nat) : Bool := (depGo md i ops.toList #[]).getD d false
/-- what is listed, all that it waits for is listed -/
def Closed (md : Region.Mode) (ops : Array Oper) (listed : Array Bool) : Prop := ∀ j oj, ops[j]? = some oj → listed.getD j true = true → ∀ e ∈ oj.after, Region.binds md e = true → listed.getD e.on true = true
theorem getD_up {listed : Array Bool} {k : Nat} (h : listed.getD k false = true) : listed.getD k true = true := by
  rw [Array.getD_eq_getD_getElem?] at h ⊢
  cases hk : listed[k]? with
  | none => rfl
  | some v => rw [hk] at h; exact h
def Good (md : Region.Mode) (ops : Array Oper) (listed : Array Bool) (i : Nat) (acc : Array Bool) : Prop := ∀ j, acc.getD j false = true → ∀ oj, ops[j]? = some oj → (∀ e ∈ oj.after, Region.binds md e = true → listed.getD e.on true = true) → listed.getD i true = true
theorem depGo_good {listed : Array Bool} (hc : Closed md ops listed) {i : Nat} : ∀ (r : List Oper) (pre : List Oper) (acc : Array Bool), ops.toList = pre ++ r → acc.size = pre.length → Good md ops listed i acc → Good md ops listed i (depGo md i r acc)
  | [], _, _, _, _, hg => hg
  | o :: r, pre, acc, he, hs, hg => by
    unfold depGo
    refine depGo_good hc r (pre ++ [o]) _ (by rw [he]; simp) (by simp [hs]) fun j hj oj hoj hall => ?_
    rw [Array.getD_eq_getD_getElem?, Array.getElem?_push] at hj
    by_cases hje : j = acc.size
    · rw [if_pos hje] at hj
      have ho : oj = o := by
        have h1 : ops.toList[j]? = some oj := by rw [Array.getElem?_toList]; exact hoj
        rw [he, hje, hs, List.getElem?_append_right (Nat.le_refl _), Nat.sub_self] at h1
        simpa using h1.symm
      subst ho
      obtain ⟨e, hem, hb⟩ := Array.any_eq_true'.1 (show (oj.after.any fun e => Region.binds md e && (e.on == i || acc.getD e.on false)) = true from hj)
      rw [Bool.and_eq_true, Bool.or_eq_true, beq_iff_eq] at hb
      have hl := hall e hem hb.1
      rcases hb.2 with h1 | h1
      · rw [← h1]; exact hl
      · cases ho : ops[e.on]? with
        | none =>
          have h2 : acc.getD e.on false = false := by
            have hsz : acc.size ≤ ops.size := by
              have := congrArg List.length he
              simp at this
              omega
            rw [Array.getElem?_eq_none_iff] at ho
            rw [Array.getD_eq_getD_getElem?, Array.getElem?_eq_none (by omega)]
            rfl
          rw [h2] at h1; cases h1
        | some oe => exact hg e.on h1 oe ho fun e' he' hb' => hc e.on oe ho hl e' he' hb'
    · rw [if_neg hje] at hj
      exact hg j (by rw [Array.getD_eq_getD_getElem?]; exact hj) oj hoj hall
theorem waits_listed {listed : Array Bool} (hc : Closed md ops listed) {i d : Nat} (od : Oper) (hd : ops[d]? = some od) (hall : ∀ e ∈ od.after, Region.binds md e = true → listed.getD e.on true = true) (h : waits md ops d i = true) : listed.getD i true = true :=
  depGo_good hc ops.toList [] #[] (by simp) rfl (fun j hj => by simp [Array.getD] at hj) d h od hd hall
theorem Closed.set {listed : Array Bool} (hc : Closed md ops listed) {j : Nat} {oj : Oper} (hoj : ops[j]? = some oj) (hall : ∀ e ∈ oj.after, Region.binds md e = true → listed.getD e.on true = true) : Closed md ops (listed.setIfInBounds j true) := fun k ok hk hl e he hb => by
  have up : ∀ m, listed.getD m true = true → (listed.setIfInBounds j true).getD m true = true := fun m hm => by
    by_cases hjm : j = m
    · subst hjm
      rw [Array.getD_eq_getD_getElem?, Array.getElem?_setIfInBounds]
      split <;> (try split) <;> simp_all
    · rw [getD_set_ne true hjm]; exact hm
  by_cases hjk : j = k
  · subst hjk
    rw [hoj] at hk
    injection hk with hk
    subst hk
    exact up _ (hall e he hb)
  · rw [getD_set_ne true hjk] at hl
    exact up _ (hc k ok hk hl e he hb)
theorem wpAnyL_first {i : Nat} {oi : Oper} {v : Value} (hi : ops[i]? = some oi) (hd : waits md ops d i = true) (hsel : ∀ (j : Nat) (o : Oper) cs b, ops[j]? = some o → o.op ≠ .select cs b)
    (hQ : ∀ c a w, Q (.panic c) (a.put oi.dst v) w → Q (.panic c) a w) :
    ∀ (fuel : Nat) (listed : Array Bool) (a : Act) (w : World),
      (∀ j oj, ops[j]? = some oj → j ≠ i → listed.getD j true = false → (∀ e ∈ oj.after, Region.binds md e = true → e.on ≠ i) → oi.apart ops oj = true) →
      Closed md ops listed → i ∈ Region.ready md ops listed → YieldsIf P ops S oi v a → S w →
      wpAnyL P md ops Q S d fuel (listed.setIfInBounds i true) (a.put oi.dst v) w → wpAnyL P md ops Q S d (fuel + 1) listed a w := by
  intro fuel
  induction fuel with
  | zero =>
    intro listed a w _ _ hr hy hS H
    refine ⟨fun h => (by rw [h] at hr; cases hr), fun j hj => ?_⟩
    by_cases hji : j = i
    · subst hji; exact hy.wpOp hi hS ⟨fun _ => hS, H⟩
    · have := ready_mono hj hji
      rw [H.1] at this
      cases this
  | succ fuel ih =>
    intro listed a w hfree hcl hr hy hS H
    refine ⟨fun h => (by rw [h] at hr; cases hr), fun j hj => ?_⟩
    by_cases hji : j = i
    · subst hji; exact hy.wpOp hi hS ⟨fun _ => hS, H⟩
    · have h1 := H.2 j (ready_mono hj hji)
      obtain ⟨hjun, oj, hoj, hall⟩ := mem_ready.1 hj
      have hnot : ∀ e ∈ oj.after, Region.binds md e = true → e.on ≠ i := fun e he hb heq => by
        have h1 := hall e he hb
        have h0 := (mem_ready.1 hr).1
        rw [heq] at h1
        rcases Nat.lt_or_ge i listed.size with h' | h'
        · simp [h'] at h0 h1; rw [h0] at h1; cases h1
        · simp [Array.getElem?_eq_none h'] at h1
      have hall' : ∀ e ∈ oj.after, Region.binds md e = true → listed.getD e.on true = true := fun e he hb => getD_up (hall e he hb)
      have hjd : j ≠ d := fun e => by
        subst e
        have h5 := waits_listed hcl _ hoj hall' hd
        have h6 := (mem_ready.1 hr).1
        rw [h5] at h6
        cases h6
      have h2 := wpOp_putIf hoj (hfree j oj hoj hji hjun hnot) (fun cs b => hsel i oi cs b hi) (fun cs b => hsel j oj cs b hoj) hQ hy h1
      have hfree' : ∀ k ok, ops[k]? = some ok → k ≠ i → (listed.setIfInBounds j true).getD k true = false →
          (∀ e ∈ ok.after, Region.binds md e = true → e.on ≠ i) → oi.apart ops ok = true := fun k ok hk hki hun hno => by
        refine hfree k ok hk hki ?_ hno
        by_cases hjk : j = k
        · subst hjk; exact hjun
        · rw [getD_set_ne true hjk] at hun; exact hun
      refine wpOp_mono (fun a' w' h3 => ⟨h3.2.1, ih (listed.setIfInBounds j true) a' w' hfree' (hcl.set hoj hall') (ready_mono hr (Ne.symm hji)) h3.1 (h3.2.1 hjd) ?_⟩) h2
      rw [Array.setIfInBounds_comm _ _ hji]
      exact h3.2.2
/-- .. where what is listed is closed -/
def wpAnyC (P : Program) (md : Region.Mode) (ops : Array Oper) (Q : Exit → Act → World → Prop) (S : World → Prop) (d fuel : Nat) (listed : Array Bool) (a : Act) (w : World) : Prop := Closed md ops listed → wpAnyL P md ops Q S d fuel listed a w
theorem ready_closed {listed : Array Bool} (hcl : Closed md ops listed) {j : Nat} (hj : j ∈ Region.ready md ops listed) : Closed md ops (listed.setIfInBounds j true) := by
  obtain ⟨_, oj, hoj, hall⟩ := mem_ready.1 hj
  exact hcl.set hoj fun e he hb => getD_up (hall e he hb)
theorem wpAnyL_take {i : Nat} {oi : Oper} {v : Value} {fuel : Nat} {listed : Array Bool} {a : Act} {w : World} (hi : ops[i]? = some oi) (hd : waits md ops d i = true)
    (hs : Region.noSelect ops = true) (hf : Region.free md ops listed i = true) (hr : (Region.ready md ops listed).contains i = true)
    (hQ : ∀ c a w, Q (.panic c) (a.put oi.dst v) w → Q (.panic c) a w) (hy : YieldsIf P ops S oi v a) (hS : S w)
    (h : wpAnyC P md ops Q S d fuel (listed.setIfInBounds i true) (a.put oi.dst v) w) : wpAnyC P md ops Q S d (fuel + 1) listed a w := fun hcl =>
  have hr' : i ∈ Region.ready md ops listed := by simpa using hr
  wpAnyL_first hi hd (Region.noSelect_spec hs) hQ fuel listed a w (Region.free_spec hi hf) hcl hr' hy hS (h (ready_closed hcl hr'))
theorem wpAnyL_done {listed : Array Bool} {a : Act} {w : World} (hr : Region.ready md ops listed = []) (h : Q .normal a w) :
    ∀ fuel, wpAnyC P md ops Q S d fuel listed a w
  | 0 => fun _ => ⟨hr, h⟩
  | _ + 1 => fun _ => ⟨fun _ => h, by rw [hr]; simp⟩
/-- one operation alone may come up -/
theorem wpAnyL_one {i : Nat} {o : Oper} {fuel : Nat} {listed : Array Bool} {a : Act} {w : World} (hr : Region.ready md ops listed = [i]) (ho : ops[i]? = some o) (_hid : i ≠ d)
    (h : ∀ K' : Act → World → Prop, Shut (∀ a w, S w → (S w → wpAnyC P md ops Q S d fuel (listed.setIfInBounds i true) a w) → K' a w) → if Region.wanted o (yielded ops a.tmps) = true then Oper.wp P o a w K' Q else K' (a.put o.dst undef) w) :
    wpAnyC P md ops Q S d (fuel + 1) listed a w := fun hcl =>
  ⟨fun h0 => absurd (hr ▸ h0) (by simp), hr ▸ fun j hj => by
    have hj' : j ∈ Region.ready md ops listed := by rw [hr]; exact hj
    simp only [List.mem_singleton] at hj
    subst hj
    exact wpOp_step ho fun K' hK => h K' fun a w hS hW => hK a w ⟨fun _ => hS, hW hS (ready_closed hcl hj')⟩⟩
/-- each of some may come up -/
def AllReadyL (P : Program) (md : Region.Mode) (ops : Array Oper) (Q : Exit → Act → World → Prop) (S : World → Prop) (d : Nat) (fuel : Nat) (listed : Array Bool) (a : Act) (w : World) (rs : List Nat) : Prop :=
  ∀ i ∈ rs, wpOp P ops Q i (fun a' w' => (i ≠ d → S w') ∧ (i ∈ Region.ready md ops listed → Closed md ops listed → wpAnyL P md ops Q S d fuel (listed.setIfInBounds i true) a' w')) a w
theorem AllReadyL.nil {fuel : Nat} {listed : Array Bool} {a : Act} {w : World} : AllReadyL P md ops Q S d fuel listed a w [] := fun _ h => by cases h
theorem AllReadyL.cons {fuel : Nat} {listed : Array Bool} {a : Act} {w : World} {i : Nat} {o : Oper} {rs : List Nat} (ho : ops[i]? = some o)
    (h : ∀ K' : Act → World → Prop, Shut (∀ a w, S w → (S w → wpAnyC P md ops Q S d fuel (listed.setIfInBounds i true) a w) → K' a w) → if Region.wanted o (yielded ops a.tmps) = true then Oper.wp P o a w K' Q else K' (a.put o.dst undef) w)
    (hs : AllReadyL P md ops Q S d fuel listed a w rs) : AllReadyL P md ops Q S d fuel listed a w (i :: rs) := fun j hj => by
  rcases List.mem_cons.1 hj with rfl | hj
  · exact wpOp_step ho (fun K' hK => h K' (fun a w hS hW => hK a w ⟨fun _ => hS, fun hr hcl => hW hS (ready_closed hcl hr)⟩))
  · exact hs j hj
theorem wpAnyL_ready {rs : List Nat} {fuel : Nat} {listed : Array Bool} {a : Act} {w : World} (hr : Region.ready md ops listed = rs) (hne : rs ≠ [])
    (h : AllReadyL P md ops Q S d fuel listed a w rs) : wpAnyC P md ops Q S d (fuel + 1) listed a w := fun hcl =>
  ⟨fun h0 => absurd (hr ▸ h0) hne, fun i hi => wpOp_mono (fun _ _ hh => ⟨hh.1, hh.2 hi hcl⟩) (h i (hr ▸ hi))⟩
/-- the last one -/
theorem wpAnyL_last {o : Oper} {fuel : Nat} {listed : Array Bool} {a : Act} {w : World} (hr : Region.ready md ops listed = [d]) (ho : ops[d]? = some o)
    (h : ∀ K' : Act → World → Prop, Shut (∀ a w, wpAnyC P md ops Q S d fuel (listed.setIfInBounds d true) a w → K' a w) → if Region.wanted o (yielded ops a.tmps) = true then Oper.wp P o a w K' Q else K' (a.put o.dst undef) w) :
    wpAnyC P md ops Q S d (fuel + 1) listed a w := fun hcl =>
  ⟨fun h0 => absurd (hr ▸ h0) (by simp), hr ▸ fun j hj => by
    have hj' : j ∈ Region.ready md ops listed := by rw [hr]; exact hj
    simp only [List.mem_singleton] at hj
    subst hj
    exact wpOp_step ho fun K' hK => h K' fun a w hW => hK a w ⟨fun e => absurd rfl e, hW (ready_closed hcl hj')⟩⟩
theorem wp_region_l {id : Nat} {a : Act} {w : World} (d : Nat) (S : World → Prop) (hm : P.follows .mixedOrders = true) (hS : S w.drew)
    (h : S w.drew → wpAnyC P .any ops Q S d ops.size (Array.replicate ops.size false) a w.drew) : (Code.region id ops true).wp P Q a w :=
  wp_region_any hm (wpAny_of_l _ _ _ _ (h hS fun j oj hj hl => by
    have hlt := (Array.getElem?_eq_some_iff.1 hj).1
    rw [Array.getD_eq_getD_getElem?, Array.getElem?_replicate, if_pos hlt] at hl
    cases hl))
end
end Go.Proofs.YtmljlkjomjflpaaGreat

/- slices.SortFunc of a row of the call's own, at structs. No program. -/
namespace Go.Proofs.YtmljlkjomjflpaaGreat
open Go.RowKit Go.Shelf Go.Sort

section
variable {α : Type} [Enc α] [Inhabited α]
theorem flatK_flat (l : List α) : (flatK Enc.cells (Enc.size α) l.toArray).toList = l.flatMap Enc.cells := by
  apply List.ext_getElem?
  intro t
  by_cases ht : t < l.length * Enc.size α
  · have hs : 0 < Enc.size α := by
      rcases Nat.eq_zero_or_pos (Enc.size α) with h | h
      · rw [h] at ht; simp at ht
      · exact h
    have h1 : t / Enc.size α < l.length := by rw [Nat.div_lt_iff_lt_mul hs]; exact ht
    have h2 : t % Enc.size α < Enc.size α := Nat.mod_lt _ hs
    have h3 : t < (flatK Enc.cells (Enc.size α) l.toArray).size := by simpa using ht
    have e1 : t / Enc.size α * Enc.size α + t % Enc.size α = t := by rw [Nat.mul_comm]; exact Nat.div_add_mod _ _
    have e2 := flat_get l _ _ h1 h2
    rw [e1] at e2
    rw [e2, Array.getElem?_toList, Array.getElem?_eq_getElem h3, ← getElem!_pos _ t h3, get_flatK _ _ _ _ (by simpa using ht)]
    rw [getElem!_pos l.toArray _ (by simpa using h1), getElem!_pos _ _ (by rw [Enc.len]; exact h2), List.getElem?_eq_getElem (by rw [Enc.len]; exact h2)]
    simp
  · rw [List.getElem?_eq_none (by rw [Array.length_toList]; simp; omega), List.getElem?_eq_none (by rw [flat_len]; omega)]
theorem putCells_take (F cur : Array Value) (h : F.size ≤ cur.size) : (putCells id 0 F cur).toList.take F.size = F.toList := by
  apply List.ext_getElem?
  intro t
  by_cases ht : t < F.size
  · rw [List.getElem?_take_of_lt ht, Array.getElem?_toList, Array.getElem?_toList, Array.getElem?_eq_getElem ht]
    unfold putCells
    rw [Array.getElem?_mapIdx, Array.getElem?_eq_getElem (by omega), Option.map_some, if_pos ⟨Nat.zero_le _, by omega⟩, Nat.sub_zero, getElem!_pos F t ht]
    rfl
  · rw [List.getElem?_eq_none (by simp; omega), List.getElem?_eq_none (by simp; omega)]
theorem heap_putRow {w : World} {g : Nat} {cur : Array Value} {e : TypeId} {fr : Nat × Nat} (F : Array Value) (n : Nat) (os : Array Obj) (h : w.heap[g]? = some (.cells cur e fr)) : (grow (putRow id (Sort.ahead w n) g 0 F) os).heap[g]? = some (.cells (putCells id 0 F cur) e fr) := by
  have hlt := (Array.getElem?_eq_some_iff.1 h).1
  unfold grow putRow mapBlock
  simp only
  rw [Array.getElem?_append_left (by simpa [Sort.ahead] using hlt), Array.getElem?_modify, if_pos rfl]
  show Option.map _ (w.heap[g]?) = _
  rw [h]
  rfl
theorem grown_putRow {w : World} {g : Nat} (F : Array Value) (n : Nat) (os : Array Obj) : w.grownBy (grow (putRow id (Sort.ahead w n) g 0 F) os) (some g) :=
  ⟨rfl, rfl, rfl, by simp [Sort.ahead], fun k hk hne => by
    unfold grow putRow mapBlock
    simp only
    rw [Array.getElem?_append_left (by simpa [Sort.ahead] using hk), Array.getElem?_modify, if_neg (fun e => hne (by rw [e]))]
    rfl⟩
/-- the row's own block turned into d' -/
theorem Own.sorted {w : World} {base : Nat} {e : TypeId} {g cap : Nat} {l : List α} {d' : Array α} (h : Own w base e (.slice (some ⟨g, 0, none⟩) l.length cap) l) (hp : d'.toList.Perm l) (n : Nat) (os : Array Obj) :
    Own (grow (putRow id (Sort.ahead w n) g 0 (flatK Enc.cells (Enc.size α) d')) os) base e (.slice (some ⟨g, 0, none⟩) l.length cap) d'.toList := by
  obtain ⟨cur, hg, hb, hn, hc, hm, hz, ht⟩ := h.cells
  have hlen : d'.toList.length = l.length := hp.length_eq
  have hF : (flatK Enc.cells (Enc.size α) d').size = l.length * Enc.size α := by rw [size_flatK, ← Array.length_toList, hlen]
  have hle : l.length * Enc.size α ≤ cap * Enc.size α := Nat.mul_le_mul_right _ hc
  have hgr := grown_putRow (w := w) (g := g) (flatK Enc.cells (Enc.size α) d') n os
  refine ⟨⟨by rw [flat_len], .inr ⟨g, cap, _, by rw [hlen], hb, heap_putRow _ n os hg, by omega, hm, by simp [putCells, hz], ?_⟩⟩, fun x hx => ?_⟩
  · rw [hlen, ← hF, putCells_take _ _ (by omega)]
    have := flatK_flat d'.toList
    simpa using this
  · refine Enc.keep (h.2 x (hp.mem_iff.1 hx)) (fun p hp => World.cell?_of_block (hgr.block _ hp.1 hp.2)) (fun b hb => ⟨Nat.lt_of_lt_of_le hb.1 hgr.size, hb.2⟩)
variable {P : Program} {ρ : Ren}
/-- slices.SortFunc(v, cmp) -/
theorem sortF_own (L : SlLaysF0.n6 P ρ) (aE : ∀ w, (isAgg (ρ.t 24)).run P w = .ok true w) (zE : ∀ w, (Go.sizeOf (ρ.t 24)).run P w = .ok (Enc.size α) w) (cf : α → α → Int) (lt : α → α → Bool) (hlt : ∀ x y, lt x y = decide (cf x y < 0)) (S : Strict lt) (g : Nat) (cb : Array Value)
    (eg : ∀ args w, (callFunc g args).run P w = .ok (.enter g args) w) (hcmp : ∀ (x y : α) (W : World), Calls P g (#[.agg (Enc.cells x).toArray, .agg (Enc.cells y).toArray] ++ cb) W fun e w' => e = .returned (.int .i64 (cf x y)) ∧ ∃ q os', w' = grow (W.drewN q) os')
    (base : Nat) (T : TypeId) (v : Value) (l : List α) (w : World) (h : Own w base T v l) (hn : l.length ≤ 1000000) :
    Calls P (ρ.f 6) #[v, .func (.func g) #[] cb] w fun e w' => e = .returned (.tuple #[]) ∧ ∃ l', l'.Perm l ∧ SortedB lt l' ∧ Own w' base T v l' ∧ w.grownBy w' v.ownBlock := by
  have hO : SWO (ltOf cf) := ⟨fun x => by unfold ltOf; rw [← hlt]; exact S.irr x, fun x y z => by unfold ltOf; rw [← hlt, ← hlt, ← hlt]; exact S.trans x y z, fun x y z => by unfold ltOf; rw [← hlt, ← hlt, ← hlt]; exact S.co x y z⟩
  rcases Nat.eq_zero_or_pos l.length with h0 | hpos
  · obtain rfl := List.length_eq_zero_iff.1 h0
    obtain ⟨A, c, hv, _⟩ := h.sl
    subst hv
    exact (AnyF.slices_SortFunc_none { L with } A c (.func (.func g) #[] cb) w).mono fun e w' ⟨he, hw⟩ => ⟨he, [], .refl _, List.Pairwise.nil, by subst hw; exact h, by subst hw; exact World.grownBy.refl _ _⟩
  · obtain ⟨gb, cap, cur, rfl, hb, hg, hc, hm, hz, ht⟩ := h.form hpos
    have hH : HoldsK Enc.cells (Enc.size α) w gb 0 l.toArray := by
      intro j hj
      rw [size_flatK, List.size_toArray] at hj
      have hle : l.length * Enc.size α ≤ cap * Enc.size α := Nat.mul_le_mul_right _ hc
      rw [Nat.zero_add]
      refine ⟨?_, frozen_of_row w gb j cur T hg⟩
      rw [cell_of_row w gb j cur T (0, 0) hg]
      have e1 : (flatK Enc.cells (Enc.size α) l.toArray)[j]? = cur[j]? := by
        rw [← Array.getElem?_toList, flatK_flat, ← ht, List.getElem?_take_of_lt hj, Array.getElem?_toList]
      have hj2 : j < (flatK Enc.cells (Enc.size α) l.toArray).size := by simpa using hj
      rw [← e1, Array.getElem?_eq_getElem hj2, getElem!_pos _ j hj2]
      rfl
    have hl1 : l.toArray.size = l.length := List.size_toArray ..
    have hcon := AnyQ.slices_SortFunc L (Enc.size α) aE zE Enc.cells Enc.len Enc.one cf hO g cb gb 0 cap l.toArray w eg (fun m os dk _ x y => hcmp x y _) hH (Array.getElem?_eq_some_iff.1 hg).1 (by rw [hl1]; omega)
    rw [hl1] at hcon
    refine hcon.mono fun e w' ⟨he, d', n, os, hp, hs, hw⟩ => ⟨he, ?_⟩
    obtain ⟨hsz, _, hperm⟩ := hp
    have hpe : d'.toList.Perm l := by
      have e1 : d'.extract 0 l.length = d' := by rw [← hl1, ← hsz]; exact Array.extract_size
      have e2 : l.toArray.extract 0 l.length = l.toArray := by rw [← hl1]; exact Array.extract_size
      rw [e1, e2] at hperm
      simpa using hperm
    refine ⟨d'.toList, hpe, ?_, ?_, ?_⟩
    · unfold SortedB
      rw [List.pairwise_iff_getElem]
      intro i j hi hj hij
      have hi' : i < d'.size := by simpa using hi
      have hj' : j < d'.size := by simpa using hj
      have := hs i j (Nat.zero_le _) hij (by rw [hsz, hl1] at hj'; exact hj')
      unfold ltOf at this
      rw [← hlt, getElem!_pos d' i hi', getElem!_pos d' j hj'] at this
      simpa using this
    · rw [hw]; exact h.sorted hpe n os
    · rw [hw]; exact grown_putRow _ n os
end
end Go.Proofs.YtmljlkjomjflpaaGreat
