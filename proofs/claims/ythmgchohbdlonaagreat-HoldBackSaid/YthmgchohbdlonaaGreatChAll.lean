/- chart.All -/
import Derived.Test.YthmgchohbdlonaaGreatRows
import Derived.Test.YthmgchohbdlonaaGreatChA
import Derived.Test.YthmgchohbdlonaaGreatMapKeys
import Derived.Test.YthmgchohbdlonaaGreatShelf
import Derived.Test.YthmgchohbdlonaaGreatAppend
import Derived.Test.YthmgchohbdlonaaGreatCopyM
import Derived.WalkKit
import Derived.WalkSpells
import Derived.WalkLawsBesides
import Derived.Deep.QuietTactic
import Derived.BigQuiet
import Derived.Laws.StructEq
import Derived.Deep.DeepFit
import Derived.StillTailTactics
namespace Go.Proofs.YthmgchohbdlonaaGreat
open Go.RowKit
theorem acInfo_ : (Tryz.prog.info? 52).map (fun i => (i.zero, i.size, i.bytes)) = some (some (.agg #[.string ByteArray.empty, i64 0, i64 0, i64 0]), Enc.size Ac, 40) := by kernel_rfl
theorem keysA_c (mb : Option Nat) (W : World) : Calls Tryz.prog 41 #[.map mb] W fun e w' => e = .returned (.func (.func 67) #[] #[.pointer (some ⟨W.heap.size, 0, none⟩)]) ∧ w' = W.alloc (.cells #[.map mb] 85) :=
  (callsIn_wide (n := 5)).1 (AnyZ.keys_in Tryz.keysA Fence.wide 5 trivial rfl mb W)
theorem sortsA (m : Nat) : AnyZ.SortsIn Tryz.prog Tryz.sortedA_ren Fence.wide m :=
  ⟨fun blk off cap ss W hH hblk hsz => callsIn_wide.2 (Tryz.slices_Sort_string blk off cap ss W hH hblk hsz),
   fun p cap W => callsIn_wide.2 (Tryz.slices_Sort_string_none p cap W)⟩
theorem RkA.names {M : List (ByteArray × Ac)} {L : List Ac} (h : RkA M L) : (M.map (·.1)).Perm (L.map Ac.name) := by
  have h1 := h.perm.map Ac.name
  rw [List.map_map] at h1
  refine (List.Perm.of_eq (List.map_congr_left fun p hp => ?_)).trans h1
  exact (h.key p hp).symm
theorem srt_names {L : List Ac} (h : SrtL ltA L) : (L.map Ac.name).Pairwise fun a b => bless a b = true := List.pairwise_map.2 h
theorem nameB_sz {s : ByteArray} (h : nameB s = true) : s.size ≤ 8 := by
  unfold nameB at h
  simp only [Bool.and_eq_true, decide_eq_true_eq] at h
  exact h.2.2
theorem flat1 (N : List ByteArray) : N.flatMap Enc.cells = N.map Value.string := by
  induction N with
  | nil => rfl
  | cons a r ih => rw [List.flatMap_cons, ih]; rfl
theorem OkA.sizes {L : List Ac} (h : OkA L) : ∀ a ∈ L, a.name.size ≤ 8 := fun a ha => nameB_sz (h a ha).2.2
theorem mergeSort_len_ (ss : List (List UInt8)) : (ss.mergeSort fun x y => decide (x ≤ y)).length = ss.length := (List.mergeSort_perm ss _).length_eq
set_option maxRecDepth 100000 in
set_option maxHeartbeats 2000000 in
theorem sortedA_c (b : Nat) (M : List (ByteArray × Ac)) (L : List Ac) (W : World) (h : MapIs Value.string W b (mv M)) (hr : RkA M L) (hok : OkA L) (hn : L.length ≤ 65536) :
    Calls Tryz.prog 40 #[.func (.func 67) #[] #[.pointer (some ⟨W.heap.size, 0, none⟩)]] (W.alloc (.cells #[.map (some b)] 85)) fun e w' =>
      ∃ v, e = .returned v ∧ Own w' (W.heap.size + 1) 9 v (L.map Ac.name) ∧ Below (W.heap.size + 1) (W.alloc (.cells #[.map (some b)] 85)) w' := by
  have hML : (mv M).length = L.length := by unfold mv; rw [List.length_map]; exact hr.len
  have hsz : ∀ p ∈ mv M, p.1.size ≤ 8 := fun p hp => by
    obtain ⟨q, hq, rfl⟩ := List.mem_map.1 hp
    have h1 : q.1 ∈ L.map Ac.name := hr.names.mem_iff.1 (List.mem_map.2 ⟨q, hq, rfl⟩)
    obtain ⟨a, ha, e⟩ := List.mem_map.1 h1
    have := hok.sizes a ha
    show q.1.size ≤ 8
    rw [← e]; exact this
  obtain ⟨D0, hown, hk, hz⟩ := ownsMap_of (P := Tryz.prog) (k := 9) Tryz.underlying9 h (by rw [hML]; unfold maxLen; omega) (fun p hp => by have := hsz p hp; unfold maxLen; omega)
  refine (callsIn_wide (n := 5)).1 ?_
  have hbl := hown.lt
  have hseq : SeqGives Fence.wide 2 Tryz.prog 67 #[.pointer (some ⟨W.heap.size, 0, none⟩)] _root_.Go.Proofs.encStr (fun ss => ss.Perm (strKeys D0)) (Maps.size D0) (W.alloc (.cells #[.map (some b)] 85)) :=
    AnyZ.keys_gives (ρ := Tryz.keysA_ren) { Tryz.keysA with } Fence.wide _ trivial rfl (by omega) W.heap.size b (mv M).length D0 _ (by simp) (by simp) (by
      obtain ⟨es, clock, hb, Ft, hs, hD⟩ := hown
      exact ⟨es, clock, (Below.heap_alloc _ _ b hbl).trans hb, Ft, hs, hD⟩)
  have cS := AnyZ.sorted_in Tryz.sortedA Fence.wide 5 trivial trivial trivial trivial rfl (by omega) (sortsA _) (enters_of Tryz.func66 (by kernel_rfl) rfl) 67 #[.pointer (some ⟨W.heap.size, 0, none⟩)] trivial (enters_of Tryz.func67 (by kernel_rfl) rfl) _ _ (by rw [hz, hML]; unfold maxLen; omega) (by rw [hz, hML]; omega) _ hseq
  change CallsIn _ _ Tryz.prog 40 _ _ _ at cS
  refine cS.mono ?_
  rintro e w' ⟨v, ss, rfl, hS, hrow, hnil, hb⟩
  have hp : ss.Perm ((L.map Ac.name).map fun a => a.data.toList) := by
    refine (hS.trans hk).trans ?_
    have := hr.names.map (fun a : ByteArray => a.data.toList)
    refine List.Perm.trans (List.Perm.of_eq ?_) this
    unfold mv
    rw [List.map_map, List.map_map]
    rfl
  have hlen : ss.length = (L.map Ac.name).length := by rw [hp.length_eq, List.length_map]
  rw [sorted_keys hp (srt_names hr.srt), hlen] at hrow
  refine ⟨v, rfl, ⟨?_, fun x hx => ?_⟩, by simpa using hb⟩
  · rw [flat1]
    have hs : (W.alloc (.cells #[.map (some b)] 85)).heap.size = W.heap.size + 1 := by simp
    rw [hs] at hrow
    exact hrow
  · obtain ⟨a, ha, rfl⟩ := List.mem_map.1 hx
    have := hok.sizes a ha
    show a.name.size ≤ maxLen
    unfold maxLen; omega
set_option maxRecDepth 100000 in
set_option maxHeartbeats 4000000 in
theorem challA_c (g b : Nat) (L : List Ac) (w : World) (h : ChA w g b L) (hok : OkA L) (hn : L.length ≤ 65536) :
    Calls Tryz.prog 17 #[.pointer (some ⟨g, 0, none⟩)] w fun e w' => ∃ v, e = .returned v ∧ Own w' w.heap.size 52 v L ∧ Below w.heap.size w w' := by
  have hsrt := h.srt
  obtain ⟨M, h, hr⟩ := h
  have hlg := h.lt.1
  have Hr := Lib.hid hr
  have Hok := Lib.hid hok
  have c0 := cell_of_row _ g 0 _ _ (0, 0) h.cell
  simp only [List.getElem?_toArray, List.getElem?_cons_zero] at c0
  have Hch := Lib.hid h
  have Hsr := Lib.hid hsrt
  have hK := Lib.hid fun W => keysA_c (some b) W
  have hS := Lib.hid (sortedA_c b M L w h.map hr hok hn)
  clear h hr hok hsrt
  go_enter Tryz.func17, Tryz.ntmps17
  go_wp2_with fail
  refine (hK.out _).mono ?_
  rintro e w1 ⟨rfl, rfl⟩
  go_wp2_with fail
  refine hS.out.mono ?_
  rintro e w2 ⟨kv, rfl, hkv, hF⟩
  have hB2 : Below w.heap.size w w2 := ((Below.refl _ w).alloc (Nat.le_refl _) _).trans (hF.mono (Nat.le_succ _))
  have Hkv := Lib.hid hkv
  clear hK hS hF hkv
  have hkl : (L.map Ac.name).length = L.length := List.length_map ..
  obtain ⟨A, c, rfl⟩ : ∃ A c, kv = .slice A L.length c := by
    obtain ⟨-, hrw⟩ := Hkv.out.1
    rw [hkl] at hrw
    rcases hrw with ⟨e, e0⟩ | ⟨gb, cap, _, e, _⟩
    · exact ⟨none, 0, by rw [e, e0]⟩
    · exact ⟨_, _, e⟩
  have hsz2 := hB2.size
  go_wp2_with fail
  go_loopw [3, 15] (fun v i wr => ∃ n : Nat, i = i64 n ∧ n ≤ L.length ∧ Own wr w2.heap.size 52 v (L.take n) ∧ Below w2.heap.size w2 wr) (fun _ i _ => L.length - (intOf i).toNat)
  case atStart => exact ⟨0, rfl, Nat.zero_le _, Own.nil_ _ _ _, Below.refl _ _⟩
  case round =>
    obtain ⟨n, rfl, hnl, hO, hB⟩ := hrel
    by_cases hlt : n < L.length
    · obtain ⟨gb, cap, cur, hkv1, hgb, hrow, -⟩ := Hkv.out.form (by rw [hkl]; omega)
      injection hkv1 with eA eL eC
      subst eA eC
      clear eL
      have hkn : n < (L.map Ac.name).length := by rw [hkl]; exact hlt
      have hK2 := Hkv.out.later hB
      have hat : wr.cell? ⟨gb, n, none⟩ = some (.string (L[n]).name) := by
        have := hK2.at_ hkn 0 (.string (L[n]).name) (by simp only [List.getElem_map]; rfl)
        rw [show Enc.size ByteArray = 1 from rfl, Nat.mul_one, Nat.add_zero] at this
        exact this
      have hBw := hB2.trans (hB.mono hB2.size)
      have hm := (Hch.out.later hBw).map
      have hlk := run_lookup (P := Tryz.prog) strKey Tryz.underlying85 hm (L[n]).name (ac0.v) (by kernel_rfl) false
      rw [getM_mv, Hr.out.get_ _, getK_of keyA Hsr.out (List.getElem_mem hlt)] at hlk
      have c1 := (hBw.cell (p := ⟨g, 0, none⟩) hlg).trans c0
      unfold ac0 at hlk
      obtain ⟨a, ha⟩ : ∃ a, L[n] = a := ⟨_, rfl⟩
      rw [ha] at hat hlk
      have hal : a.name.size ≤ maxLen := by have := Hok.out.sizes _ (List.getElem_mem hlt); rw [ha] at this; unfold maxLen; omega
      have HO2 := Lib.hid (hO.later ((Below.refl _ _).alloc (Nat.le_refl _) (.cells #[.string a.name, i64 a.hav, i64 a.set_, i64 a.lim] 52)))
      have Hne := Lib.hid (hO.new_ne (Nat.le_refl wr.heap.size))
      have HH := Lib.hid (heap_alloc_new wr (.cells #[.string a.name, i64 a.hav, i64 a.set_, i64 a.lim] 52))
      have HB2 := Lib.hid (hB.alloc hB.size (.cells #[.string a.name, i64 a.hav, i64 a.set_, i64 a.lim] 52))
      have Hal := Lib.hid hal
      have Htk := Lib.hid (show L.take n ++ [a] = L.take (n + 1) by rw [← ha]; exact (List.take_succ_eq_append_getElem hlt).symm)
      have Hln := Lib.hid (show (L.take n).length + 1 ≤ 65536 by rw [List.length_take]; omega)
      have g1 : decide ((n : Int) < (L.length : Int)) = true := decide_eq_true (by omega)
      have g2 : decide (n < L.length) = true := decide_eq_true hlt
      have hm1 : (n : Int) + 1 ≤ 65536 := by omega
      clear ha
      clear hK2 hm hBw hB hkl hkn hn hnl hO hal
      simp only [Bool.false_eq_true, if_false, Option.map_some, Option.getD_some] at hlk
      go_wp2_with (at_builtin; refine wpList_append_one rfl (some 27) (.tmp 19) (.tmp 26) 46 rfl rfl (.agg #[.string ByteArray.empty, i64 0, i64 0, i64 0]) 40 Tryz.underlying46 acInfo_ rfl (by decide) (by decide) rfl HO2.out wr.heap.size a rfl _ 52 HH.out rfl Hne.out Hal.out (by have := Hln.out; omega) HB2.out.size ?_; intro v3 w3 hO3 hg3 hat3)
      rw [Htk.out] at hO3
      have hB3 := HB2.out.trans (HO2.out.below hg3 (Nat.le_refl _) HB2.out.size)
      clear hg3 hat3 HO2 HB2
      go_roundw
      case rel => exact ⟨n + 1, by go_num, by omega, hO3, hB3⟩
      case measure => simp [intOf]; omega
    · have g1 : decide ((n : Int) < (L.length : Int)) = false := decide_eq_false (by omega)
      have g2 : decide (n < L.length) = false := decide_eq_false hlt
      go_wp2
      go_ret
      rw [List.take_of_length_le (by omega)] at hO
      exact ⟨_, rfl, hO.mono hsz2, hB2.trans (hB.mono hB2.size)⟩
end Go.Proofs.YthmgchohbdlonaaGreat
