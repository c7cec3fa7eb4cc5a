/- Texts of this claim, laid together: ChAll, RegM, Book. -/
import Derived.Test.YtmljlkjomjflpaaGreatRows
import Derived.Test.YtmljlkjomjflpaaGreatBb5
import Derived.Test.YtmljlkjomjflpaaGreatBb18
import Derived.Test.YtmljlkjomjflpaaGreatShelf
import Derived.Test.YtmljlkjomjflpaaGreatBb2
import Derived.Test.YtmljlkjomjflpaaGreatBb10
import Derived.WalkKit
import Derived.WalkSpells
import Derived.WalkLawsBesides
import Derived.Deep.QuietTactic
import Derived.BigQuiet
import Derived.Laws.StructEq
import Derived.Deep.DeepFit
import Derived.StillTailTactics
import Derived.Test.YtmljlkjomjflpaaGreatBb6
import Derived.Laws.Tables
import Derived.Laws.CopyOwn

/- chart.All -/
namespace Go.Proofs.YtmljlkjomjflpaaGreat
open Go.RowKit
theorem acInfo_ : (Tryz.prog.info? 70).map (fun i => (i.zero, i.size, i.bytes)) = some (some (.agg #[.string ByteArray.empty, i64 0, i64 0, i64 0]), Enc.size Ac, 40) := by kernel_rfl
theorem keysA_c (mb : Option Nat) (W : World) : Calls Tryz.prog 69 #[.map mb] W fun e w' => e = .returned (.func (.func 106) #[] #[.pointer (some ⟨W.heap.size, 0, none⟩)]) ∧ w' = W.alloc (.cells #[.map mb] 120) :=
  (callsIn_wide (n := 5)).1 (AnyZ.keys_in Tryz.keysA Fence.wide 5 trivial rfl mb W)
theorem sortsA (m : Nat) : AnyZ.SortsIn Tryz.prog Tryz.sortedA_ren Fence.wide m :=
  ⟨fun blk off cap ss W hH hblk hsz => callsIn_wide.2 (Tryz.slices_Sort_string blk off cap ss W hH hblk hsz),
   fun p cap W => callsIn_wide.2 (Tryz.slices_Sort_string_none p cap W)⟩
theorem RkA.names {M : List (ByteArray × Ac)} {L : List Ac} (h : RkA M L) : (M.map (·.1)).Perm (L.map Ac.name) := by
  have h1 := h.perm.map Ac.name
  rw [List.map_map] at h1
  refine (List.Perm.of_eq (List.map_congr_left fun p hp => ?_)).trans h1
  exact (h.key p hp).symm
theorem srt_names {L : List Ac} (h : SrtL ltA L) : (L.map Ac.name).Pairwise fun a b => bless a b = true := List.pairwise_map.2 h
theorem nameB_sz {s : ByteArray} (h : nameB s = true) : s.size ≤ 8 := by
  unfold nameB at h
  simp only [Bool.and_eq_true, decide_eq_true_eq] at h
  exact h.2.2
theorem flat1 (N : List ByteArray) : N.flatMap Enc.cells = N.map Value.string := by
  induction N with
  | nil => rfl
  | cons a r ih => rw [List.flatMap_cons, ih]; rfl
theorem OkA.sizes {L : List Ac} (h : OkA L) : ∀ a ∈ L, a.name.size ≤ 8 := fun a ha => nameB_sz (h a ha).2.2
theorem mergeSort_len_ (ss : List (List UInt8)) : (ss.mergeSort fun x y => decide (x ≤ y)).length = ss.length := (List.mergeSort_perm ss _).length_eq
set_option maxRecDepth 100000 in
set_option maxHeartbeats 2000000 in
theorem sortedA_c (b : Nat) (M : List (ByteArray × Ac)) (L : List Ac) (W : World) (h : MapIs Value.string W b (mv M)) (hr : RkA M L) (hok : OkA L) (hn : L.length ≤ 65536) :
    Calls Tryz.prog 68 #[.func (.func 106) #[] #[.pointer (some ⟨W.heap.size, 0, none⟩)]] (W.alloc (.cells #[.map (some b)] 120)) fun e w' =>
      ∃ v, e = .returned v ∧ Own w' (W.heap.size + 1) 9 v (L.map Ac.name) ∧ Below (W.heap.size + 1) (W.alloc (.cells #[.map (some b)] 120)) w' := by
  have hML : (mv M).length = L.length := by unfold mv; rw [List.length_map]; exact hr.len
  have hsz : ∀ p ∈ mv M, p.1.size ≤ 8 := fun p hp => by
    obtain ⟨q, hq, rfl⟩ := List.mem_map.1 hp
    have h1 : q.1 ∈ L.map Ac.name := hr.names.mem_iff.1 (List.mem_map.2 ⟨q, hq, rfl⟩)
    obtain ⟨a, ha, e⟩ := List.mem_map.1 h1
    have := hok.sizes a ha
    show q.1.size ≤ 8
    rw [← e]; exact this
  obtain ⟨D0, hown, hk, hz⟩ := ownsMap_of (P := Tryz.prog) (k := 9) Tryz.underlying9 h (by rw [hML]; unfold maxLen; omega) (fun p hp => by have := hsz p hp; unfold maxLen; omega)
  refine (callsIn_wide (n := 5)).1 ?_
  have hbl := hown.lt
  have hseq : SeqGives Fence.wide 2 Tryz.prog 106 #[.pointer (some ⟨W.heap.size, 0, none⟩)] _root_.Go.Proofs.encStr (fun ss => ss.Perm (strKeys D0)) (Maps.size D0) (W.alloc (.cells #[.map (some b)] 120)) :=
    AnyZ.keys_gives (ρ := Tryz.keysA_ren) { Tryz.keysA with } Fence.wide _ trivial rfl (by omega) W.heap.size b (mv M).length D0 _ (by simp) (by simp) (by
      obtain ⟨es, clock, hb, Ft, hs, hD⟩ := hown
      exact ⟨es, clock, (Below.heap_alloc _ _ b hbl).trans hb, Ft, hs, hD⟩)
  have cS := AnyZ.sorted_in Tryz.sortedA Fence.wide 5 trivial trivial trivial trivial rfl (by omega) (sortsA _) (enters_of Tryz.func105 (by kernel_rfl) rfl) 106 #[.pointer (some ⟨W.heap.size, 0, none⟩)] trivial (enters_of Tryz.func106 (by kernel_rfl) rfl) _ _ (by rw [hz, hML]; unfold maxLen; omega) (by rw [hz, hML]; omega) _ hseq
  change CallsIn _ _ Tryz.prog 68 _ _ _ at cS
  refine cS.mono ?_
  rintro e w' ⟨v, ss, rfl, hS, hrow, hnil, hb⟩
  have hp : ss.Perm ((L.map Ac.name).map fun a => a.data.toList) := by
    refine (hS.trans hk).trans ?_
    have := hr.names.map (fun a : ByteArray => a.data.toList)
    refine List.Perm.trans (List.Perm.of_eq ?_) this
    unfold mv
    rw [List.map_map, List.map_map]
    rfl
  have hlen : ss.length = (L.map Ac.name).length := by rw [hp.length_eq, List.length_map]
  rw [sorted_keys hp (srt_names hr.srt), hlen] at hrow
  refine ⟨v, rfl, ⟨?_, fun x hx => ?_⟩, by simpa using hb⟩
  · rw [flat1]
    have hs : (W.alloc (.cells #[.map (some b)] 120)).heap.size = W.heap.size + 1 := by simp
    rw [hs] at hrow
    exact hrow
  · obtain ⟨a, ha, rfl⟩ := List.mem_map.1 hx
    have := hok.sizes a ha
    show a.name.size ≤ maxLen
    unfold maxLen; omega
set_option maxRecDepth 100000 in
set_option maxHeartbeats 4000000 in
theorem challA_c (g b : Nat) (L : List Ac) (w : World) (h : ChA w g b L) (hok : OkA L) (hn : L.length ≤ 65536) :
    Calls Tryz.prog 23 #[.pointer (some ⟨g, 0, none⟩)] w fun e w' => ∃ v, e = .returned v ∧ Own w' w.heap.size 70 v L ∧ Below w.heap.size w w' := by
  have hsrt := h.srt
  obtain ⟨M, h, hr⟩ := h
  have hlg := h.lt.1
  have Hr := Lib.hid hr
  have Hok := Lib.hid hok
  have c0 := cell_of_row _ g 0 _ _ (0, 0) h.cell
  simp only [List.getElem?_toArray, List.getElem?_cons_zero] at c0
  have Hch := Lib.hid h
  have Hsr := Lib.hid hsrt
  have hK := Lib.hid fun W => keysA_c (some b) W
  have hS := Lib.hid (sortedA_c b M L w h.map hr hok hn)
  clear h hr hok hsrt
  go_enter Tryz.func23, Tryz.ntmps23
  go_wp2_with fail
  refine (hK.out _).mono ?_
  rintro e w1 ⟨rfl, rfl⟩
  go_wp2_with fail
  refine hS.out.mono ?_
  rintro e w2 ⟨kv, rfl, hkv, hF⟩
  have hB2 : Below w.heap.size w w2 := ((Below.refl _ w).alloc (Nat.le_refl _) _).trans (hF.mono (Nat.le_succ _))
  have Hkv := Lib.hid hkv
  clear hK hS hF hkv
  have hkl : (L.map Ac.name).length = L.length := List.length_map ..
  obtain ⟨A, c, rfl⟩ : ∃ A c, kv = .slice A L.length c := by
    obtain ⟨-, hrw⟩ := Hkv.out.1
    rw [hkl] at hrw
    rcases hrw with ⟨e, e0⟩ | ⟨gb, cap, _, e, _⟩
    · exact ⟨none, 0, by rw [e, e0]⟩
    · exact ⟨_, _, e⟩
  have hsz2 := hB2.size
  go_wp2_with fail
  go_loopw [3, 15] (fun v i wr => ∃ n : Nat, i = i64 n ∧ n ≤ L.length ∧ Own wr w2.heap.size 70 v (L.take n) ∧ Below w2.heap.size w2 wr) (fun _ i _ => L.length - (intOf i).toNat)
  case atStart => exact ⟨0, rfl, Nat.zero_le _, Own.nil_ _ _ _, Below.refl _ _⟩
  case round =>
    obtain ⟨n, rfl, hnl, hO, hB⟩ := hrel
    by_cases hlt : n < L.length
    · obtain ⟨gb, cap, cur, hkv1, hgb, hrow, -⟩ := Hkv.out.form (by rw [hkl]; omega)
      injection hkv1 with eA eL eC
      subst eA eC
      clear eL
      have hkn : n < (L.map Ac.name).length := by rw [hkl]; exact hlt
      have hK2 := Hkv.out.later hB
      have hat : wr.cell? ⟨gb, n, none⟩ = some (.string (L[n]).name) := by
        have := hK2.at_ hkn 0 (.string (L[n]).name) (by simp only [List.getElem_map]; rfl)
        rw [show Enc.size ByteArray = 1 from rfl, Nat.mul_one, Nat.add_zero] at this
        exact this
      have hBw := hB2.trans (hB.mono hB2.size)
      have hm := (Hch.out.later hBw).map
      have hlk := run_lookup (P := Tryz.prog) strKey Tryz.underlying120 hm (L[n]).name (ac0.v) (by kernel_rfl) false
      rw [getM_mv, Hr.out.get_ _, getK_of keyA Hsr.out (List.getElem_mem hlt)] at hlk
      have c1 := (hBw.cell (p := ⟨g, 0, none⟩) hlg).trans c0
      unfold ac0 at hlk
      obtain ⟨a, ha⟩ : ∃ a, L[n] = a := ⟨_, rfl⟩
      rw [ha] at hat hlk
      have hal : a.name.size ≤ maxLen := by have := Hok.out.sizes _ (List.getElem_mem hlt); rw [ha] at this; unfold maxLen; omega
      have HO2 := Lib.hid (hO.later ((Below.refl _ _).alloc (Nat.le_refl _) (.cells #[.string a.name, i64 a.hav, i64 a.set_, i64 a.lim] 70)))
      have Hne := Lib.hid (hO.new_ne (Nat.le_refl wr.heap.size))
      have HH := Lib.hid (heap_alloc_new wr (.cells #[.string a.name, i64 a.hav, i64 a.set_, i64 a.lim] 70))
      have HB2 := Lib.hid (hB.alloc hB.size (.cells #[.string a.name, i64 a.hav, i64 a.set_, i64 a.lim] 70))
      have Hal := Lib.hid hal
      have Htk := Lib.hid (show L.take n ++ [a] = L.take (n + 1) by rw [← ha]; exact (List.take_succ_eq_append_getElem hlt).symm)
      have Hln := Lib.hid (show (L.take n).length + 1 ≤ 65536 by rw [List.length_take]; omega)
      have g1 : decide ((n : Int) < (L.length : Int)) = true := decide_eq_true (by omega)
      have g2 : decide (n < L.length) = true := decide_eq_true hlt
      have hm1 : (n : Int) + 1 ≤ 65536 := by omega
      clear ha
      clear hK2 hm hBw hB hkl hkn hn hnl hO hal
      simp only [Bool.false_eq_true, if_false, Option.map_some, Option.getD_some] at hlk
      go_wp2_with (at_builtin; refine wpList_append_one rfl (some 27) (.tmp 19) (.tmp 26) 46 rfl rfl (.agg #[.string ByteArray.empty, i64 0, i64 0, i64 0]) 40 Tryz.underlying46 acInfo_ rfl (by decide) (by decide) rfl HO2.out wr.heap.size a rfl _ 70 HH.out rfl Hne.out Hal.out (by have := Hln.out; omega) HB2.out.size ?_; intro v3 w3 hO3 hg3 hat3)
      rw [Htk.out] at hO3
      have hB3 := HB2.out.trans (HO2.out.below hg3 (Nat.le_refl _) HB2.out.size)
      clear hg3 hat3 HO2 HB2
      go_roundw
      case rel => exact ⟨n + 1, by go_num, by omega, hO3, hB3⟩
      case measure => simp [intOf]; omega
    · have g1 : decide ((n : Int) < (L.length : Int)) = false := decide_eq_false (by omega)
      have g2 : decide (n < L.length) = false := decide_eq_false hlt
      go_wp2
      go_ret
      rw [List.take_of_length_le (by omega)] at hO
      exact ⟨_, rfl, hO.mono hsz2, hB2.trans (hB.mono hB2.size)⟩
end Go.Proofs.YtmljlkjomjflpaaGreat

/- A region that draws its order: what it keeps may grow on the way. No program. -/
namespace Go.Proofs.YtmljlkjomjflpaaGreat
open Go.RowKit

section
variable {P : Program} {ops : Array Oper} {Q : Exit → Act → World → Prop} {md : Region.Mode} {S S' : World → Prop} {d : Nat}
theorem wpAnyL_mono (h : ∀ w, S' w → S w) : ∀ (fuel : Nat) (listed : Array Bool) (a : Act) (w : World), wpAnyL P md ops Q S' d fuel listed a w → wpAnyL P md ops Q S d fuel listed a w
  | 0, _, _, _, k => k
  | fuel + 1, _, _, _, k => ⟨k.1, fun i hi => wpOp_mono (fun a' w' k' => ⟨fun e => h _ (k'.1 e), wpAnyL_mono h fuel _ a' w' k'.2⟩) (k.2 i hi)⟩
theorem wpAnyC_mono (S' : World → Prop) {fuel : Nat} {listed : Array Bool} {a : Act} {w : World} (h : ∀ w, S' w → S w) (hS : S' w) (k : S' w → wpAnyC P md ops Q S' d fuel listed a w) : wpAnyC P md ops Q S d fuel listed a w :=
  fun hcl => wpAnyL_mono h _ _ _ _ (k hS hcl)
end
end Go.Proofs.YtmljlkjomjflpaaGreat

/- book: the ledger in memory -/
namespace Go.Proofs.YtmljlkjomjflpaaGreat
open Go.RowKit
/-- where a book lies: itself, its chart and that's map, its holds and that's map -/
structure BA where
  p : Nat
  g : Nat
  b : Nat
  gh : Nat
  bh : Nat
abbrev BA.ptr (a : BA) : Value := .pointer (some ⟨a.p, 0, none⟩)
def BA.own (a : BA) (k : Nat) : Prop := k = a.p ∨ k = a.b ∨ k = a.bh
def BA.maps (a : BA) (k : Nat) : Prop := k = a.b ∨ k = a.bh
def BA.all (a : BA) (k : Nat) : Prop := k = a.p ∨ k = a.g ∨ k = a.b ∨ k = a.gh ∨ k = a.bh
structure BA.Apart (a : BA) : Prop where
  pg : a.p ≠ a.g
  pb : a.p ≠ a.b
  pgh : a.p ≠ a.gh
  pbh : a.p ≠ a.bh
  ghb : a.gh ≠ a.b
  bhb : a.bh ≠ a.b
  gbh : a.g ≠ a.bh
structure BkA (w : World) (a : BA) (B : Bk) : Prop where
  cell : w.heap[a.p]? = some (.cells #[.pointer (some ⟨a.g, 0, none⟩), .pointer (some ⟨a.gh, 0, none⟩), i64 B.cl] 124 (0, 0))
  ch : ChA w a.g a.b B.L
  ho : HoA w a.gh a.bh B.H
  ap : a.Apart
theorem BkA.lt {w : World} {a : BA} {B : Bk} (h : BkA w a B) : ∀ k, a.all k → k < w.heap.size := by
  intro k hk
  rcases hk with rfl | rfl | rfl | rfl | rfl
  · exact (Array.getElem?_eq_some_iff.1 h.cell).1
  · exact h.ch.lt.1
  · exact h.ch.lt.2.1
  · exact h.ho.lt.1
  · exact h.ho.lt.2.1
theorem BkA.kept {w w' : World} {a : BA} {B : Bk} {S : Nat → Prop} (h : BkA w a B) (hk : Gr w w' S) (hS : ∀ k, a.all k → ¬ S k) : BkA w' a B :=
  ⟨(hk.block a.p (h.lt _ (.inl rfl)) (hS _ (.inl rfl))).trans h.cell, h.ch.kept hk (hS _ (.inr (.inl rfl))) (hS _ (.inr (.inr (.inl rfl)))), h.ho.kept hk (hS _ (.inr (.inr (.inr (.inl rfl))))) (hS _ (.inr (.inr (.inr (.inr rfl))))), h.ap⟩
theorem BkA.later {w w' : World} {a : BA} {B : Bk} (h : BkA w a B) (hb : Below w.heap.size w w') : BkA w' a B := h.kept (Gr.of_below hb (fun _ => False)) (fun _ _ => id)
theorem BkA.chart {w w' : World} {a : BA} {B : Bk} {L : List Ac} (h : BkA w a B) (hc : ChA w' a.g a.b L) (hg : w.grownBy w' (some a.b)) : BkA w' a ⟨L, B.H, B.cl⟩ ∧ Gr w w' a.maps :=
  ⟨⟨(hg.block a.p (h.lt _ (.inl rfl)) (fun e => h.ap.pb (by injection e))).trans h.cell, hc, h.ho.kept (Gr.of_grown hg) (fun e => h.ap.ghb (by injection e with e; exact e.symm)) (fun e => h.ap.bhb (by injection e with e; exact e.symm)), h.ap⟩,
    (Gr.of_grown hg).mono fun k _ e => .inl (by injection e with e; exact e.symm)⟩
theorem BkA.both {w w' : World} {a : BA} {B : Bk} {L : List Ac} {H : List Held} (h : BkA w a B) (hc : ChA w' a.g a.b L) (hh : HoA w' a.gh a.bh H) (hg : G2 w w' a.b a.bh) : BkA w' a ⟨L, H, B.cl⟩ ∧ Gr w w' a.maps :=
  ⟨⟨((Gr.of_g2 hg).block a.p (h.lt _ (.inl rfl)) (fun e => e.elim h.ap.pb h.ap.pbh)).trans h.cell, hc, hh, h.ap⟩, Gr.of_g2 hg⟩
theorem BA.maps_own {a : BA} {k : Nat} (h : a.maps k) : a.own k := .inr h
theorem gr_setRow (w : World) (g : Nat) (cs : Array Value) : Gr w (w.setRow g cs) (fun k => k = g) := ⟨rfl, rfl, rfl, by simp, fun k _ hn => setRow_other w g k cs hn⟩
theorem Gr.own_row {w u : World} {S : Nat → Prop} (h : Gr w u S) {g : Nat} (hg : w.heap.size ≤ g) (cs : Array Value) : Gr w (u.setRow g cs) S := h.trans (gr_setRow u g cs) (fun k e => .inr (by rw [e]; exact hg))
theorem Gr.after {w u v : World} {S : Nat → Prop} (h : Gr w u S) (k : Gr u v S) : Gr w v S := h.trans k (fun _ e => .inl e)
theorem Gr.more {w u v : World} {S : Nat → Prop} (h : Gr w u S) (k : Below u.heap.size u v) : Gr w v S := h.after (Gr.of_below k S)
theorem BkA.row {w : World} {a : BA} {B : Bk} (h : BkA w a B) {g : Nat} (hg : ∀ k, a.all k → k ≠ g) (cs : Array Value) : BkA (w.setRow g cs) a B := h.kept (gr_setRow w g cs) hg
/-- an order, and room for a reply, laid behind a book -/
theorem not_maps {a : BA} {w : World} (hl : ∀ k, a.all k → k < w.heap.size) {k : Nat} (hk : w.heap.size ≤ k) : ¬ a.maps k := fun e => by
  rcases e with e | e
  · have := hl a.b (.inr (.inr (.inl rfl))); omega
  · have := hl a.bh (.inr (.inr (.inr (.inr rfl)))); omega
theorem not_all {a : BA} {w : World} (hl : ∀ k, a.all k → k < w.heap.size) {g : Nat} (hg : w.heap.size ≤ g) : ∀ k, a.all k → k ≠ g := fun k hk e => by have := hl k hk; omega
theorem BA.Apart.p_maps {a : BA} (h : a.Apart) : ¬ a.maps a.p := fun e => e.elim h.pb h.pbh
/-- an order as a book takes it: its legs lie apart from the book -/
def OdIn (w : World) (a : BA) (x : Od) : Prop := Od.Ok w (fun k => k < w.heap.size ∧ ¬ a.all k) x ∧ x.legs.length ≤ 65536
set_option maxRecDepth 100000 in
set_option maxHeartbeats 8000000 in
theorem btells_c (a : BA) (B : Bk) (x : Od) (er : Int) (w : World) (h : BkA w a B) :
    Calls Tryz.prog 170 #[a.ptr, x.v, i64 er] w fun e w' => e = .returned (tellsL B.L x.acct er).v ∧ Below w.heap.size w w' := by
  obtain ⟨R, hR⟩ : ∃ R, tellsL B.L x.acct er = R := ⟨_, rfl⟩
  rw [hR]
  unfold tellsL at hR
  have HR := Lib.hid hR.symm
  clear hR
  by_cases he : er = 0
  · have g1 : (er != 0) = false := by rw [he]; rfl
    have HR1 := Lib.hid (show R = _ from HR.out.trans (if_neg (fun e => e he)))
    have HG := Lib.hid (fun (W : World) (hW : BkA W a B) => getA_c a.g a.b B.L x.acct W hW.ch)
    generalize getLR B.L x.acct = gl at *
    obtain ⟨ac, ge⟩ := gl
    dsimp only at *
    clear HR he
    have hb0 : Below w.heap.size w ((w.alloc (.cells #[i64 x.client, i64 x.seq, i64 x.kind, .string x.acct, .string x.peer, i64 x.sum, .slice x.la x.legs.length x.lc, i64 x.period, i64 x.hold, .string x.note] 65)).alloc (.cells #[i64 0, i64 0, i64 0, i64 0] 59)) := ((Below.refl w.heap.size w).alloc (Nat.le_refl _) (.cells #[i64 x.client, i64 x.seq, i64 x.kind, .string x.acct, .string x.peer, i64 x.sum, .slice x.la x.legs.length x.lc, i64 x.period, i64 x.hold, .string x.note] 65)).alloc (by simp) (.cells #[i64 0, i64 0, i64 0, i64 0] 59)
    have ho0 := heap_alloc2_old w (.cells #[i64 x.client, i64 x.seq, i64 x.kind, .string x.acct, .string x.peer, i64 x.sum, .slice x.la x.legs.length x.lc, i64 x.period, i64 x.hold, .string x.note] 65) (.cells #[i64 0, i64 0, i64 0, i64 0] 59)
    have hr0 := heap_alloc2_new w (.cells #[i64 x.client, i64 x.seq, i64 x.kind, .string x.acct, .string x.peer, i64 x.sum, .slice x.la x.legs.length x.lc, i64 x.period, i64 x.hold, .string x.note] 65) (.cells #[i64 0, i64 0, i64 0, i64 0] 59)
    have hlt0 : w.heap.size < ((w.alloc (.cells #[i64 x.client, i64 x.seq, i64 x.kind, .string x.acct, .string x.peer, i64 x.sum, .slice x.la x.legs.length x.lc, i64 x.period, i64 x.hold, .string x.note] 65)).alloc (.cells #[i64 0, i64 0, i64 0, i64 0] 59)).heap.size ∧ w.heap.size + 1 < ((w.alloc (.cells #[i64 x.client, i64 x.seq, i64 x.kind, .string x.acct, .string x.peer, i64 x.sum, .slice x.la x.legs.length x.lc, i64 x.period, i64 x.hold, .string x.note] 65)).alloc (.cells #[i64 0, i64 0, i64 0, i64 0] 59)).heap.size := ⟨by simp; omega, by simp⟩
    have Hlt := Lib.hid h.lt
    have Hap := Lib.hid h.ap
    have H0 := h.later hb0
    unfold Od.v
    go_enter Tryz.func170, Tryz.ntmps170
    go_wp2_with fail
    generalize ((w.alloc (.cells #[i64 x.client, i64 x.seq, i64 x.kind, .string x.acct, .string x.peer, i64 x.sum, .slice x.la x.legs.length x.lc, i64 x.period, i64 x.hold, .string x.note] 65)).alloc (.cells #[i64 0, i64 0, i64 0, i64 0] 59)) = W0 at *
    generalize hrb : w.heap.size + 1 = rb at *
    have Hrb := Lib.hid (show w.heap.size ≤ rb by omega)
    clear hrb
    have Hna := Lib.hid (not_all Hlt.out Hrb.out)
    have Hnm := Lib.hid (not_maps Hlt.out Hrb.out)
    have hp0 := H0.cell
    have HSS := Lib.hid (show ∀ V, Gr W0 V a.maps → (fun V : World => V.cell? ⟨a.p, 0, none⟩ = some (.pointer (some ⟨a.g, 0, none⟩)) ∧ V.cell? ⟨a.p, 1, none⟩ = some (.pointer (some ⟨a.gh, 0, none⟩)) ∧ V.cell? ⟨a.p, 2, none⟩ = some (i64 B.cl) ∧ V.cell? ⟨w.heap.size, 0, none⟩ = some (i64 x.client) ∧ V.cell? ⟨w.heap.size, 1, none⟩ = some (i64 x.seq) ∧ V.cell? ⟨w.heap.size, 2, none⟩ = some (i64 x.kind) ∧ V.cell? ⟨w.heap.size, 3, none⟩ = some (.string x.acct) ∧ V.cell? ⟨w.heap.size, 4, none⟩ = some (.string x.peer) ∧ V.cell? ⟨w.heap.size, 5, none⟩ = some (i64 x.sum) ∧ V.cell? ⟨w.heap.size, 6, none⟩ = some (.slice x.la x.legs.length x.lc) ∧ V.cell? ⟨w.heap.size, 7, none⟩ = some (i64 x.period) ∧ V.cell? ⟨w.heap.size, 8, none⟩ = some (i64 x.hold) ∧ V.cell? ⟨w.heap.size, 9, none⟩ = some (.string x.note)) V from fun V hG => by
      have hp1 := (hG.block a.p (Array.getElem?_eq_some_iff.1 hp0).1 Hap.out.p_maps).trans hp0
      have ho1 := (hG.block w.heap.size hlt0.1 (not_maps Hlt.out (Nat.le_refl _))).trans ho0
      exact ⟨cell_of_row _ a.p 0 _ _ (0, 0) hp1, cell_of_row _ a.p 1 _ _ (0, 0) hp1, cell_of_row _ a.p 2 _ _ (0, 0) hp1, cell_of_row _ w.heap.size 0 _ _ (0, 0) ho1, cell_of_row _ w.heap.size 1 _ _ (0, 0) ho1, cell_of_row _ w.heap.size 2 _ _ (0, 0) ho1, cell_of_row _ w.heap.size 3 _ _ (0, 0) ho1, cell_of_row _ w.heap.size 4 _ _ (0, 0) ho1, cell_of_row _ w.heap.size 5 _ _ (0, 0) ho1, cell_of_row _ w.heap.size 6 _ _ (0, 0) ho1, cell_of_row _ w.heap.size 7 _ _ (0, 0) ho1, cell_of_row _ w.heap.size 8 _ _ (0, 0) ho1, cell_of_row _ w.heap.size 9 _ _ (0, 0) ho1⟩)
    have HR0 := Lib.hid hr0
    have HO0 := Lib.hid ho0
    have HB0 := Lib.hid H0
    have Hb0 := Lib.hid hb0
    have hG0 := Gr.of_below ((Below.refl W0.heap.size W0).drew) a.maps
    clear hp0 ho0 hr0 H0 hb0 h
    refine wp_region_noPanic ?_
    refine wp_region_l 12 (fun V : World => V.cell? ⟨a.p, 0, none⟩ = some (.pointer (some ⟨a.g, 0, none⟩)) ∧ V.cell? ⟨a.p, 1, none⟩ = some (.pointer (some ⟨a.gh, 0, none⟩)) ∧ V.cell? ⟨a.p, 2, none⟩ = some (i64 B.cl) ∧ V.cell? ⟨w.heap.size, 0, none⟩ = some (i64 x.client) ∧ V.cell? ⟨w.heap.size, 1, none⟩ = some (i64 x.seq) ∧ V.cell? ⟨w.heap.size, 2, none⟩ = some (i64 x.kind) ∧ V.cell? ⟨w.heap.size, 3, none⟩ = some (.string x.acct) ∧ V.cell? ⟨w.heap.size, 4, none⟩ = some (.string x.peer) ∧ V.cell? ⟨w.heap.size, 5, none⟩ = some (i64 x.sum) ∧ V.cell? ⟨w.heap.size, 6, none⟩ = some (.slice x.la x.legs.length x.lc) ∧ V.cell? ⟨w.heap.size, 7, none⟩ = some (i64 x.period) ∧ V.cell? ⟨w.heap.size, 8, none⟩ = some (i64 x.hold) ∧ V.cell? ⟨w.heap.size, 9, none⟩ = some (.string x.note)) (by kernel_rfl) (HSS.out _ hG0) (fun hH => ?_)
    refine wpAnyL_take (i := 0) (v := ?v20001) rfl (by kernel_rfl) (by kernel_rfl) (by kernel_rfl) (by kernel_rfl) (fun _ _ _ h => h) (Or.inl ⟨by kernel_rfl, ?hy20001⟩) (by assumption) ?r20001
    case hy20001 => (intro W hSW; obtain ⟨s0, s1, s2, s3, s4, s5, s6, s7, s8, s9, s10, s11, s12⟩ := hSW; go_simp; try with_reducible rfl)
    try simp only [Act.put, List.getElem_toArray, List.getElem_cons_zero, List.setIfInBounds_toArray, List.set_cons_zero, List.set_cons_succ]
    refine wpAnyL_take (i := 1) (v := ?v20002) rfl (by kernel_rfl) (by kernel_rfl) (by kernel_rfl) (by kernel_rfl) (fun _ _ _ h => h) (Or.inl ⟨by kernel_rfl, ?hy20002⟩) (by assumption) ?r20002
    case hy20002 => (intro W hSW; obtain ⟨s0, s1, s2, s3, s4, s5, s6, s7, s8, s9, s10, s11, s12⟩ := hSW; go_simp; try with_reducible rfl)
    try simp only [Act.put, List.getElem_toArray, List.getElem_cons_zero, List.getElem_cons_succ, List.setIfInBounds_toArray, List.set_cons_zero, List.set_cons_succ]
    refine wpAnyL_take (i := 2) (v := ?v20003) rfl (by kernel_rfl) (by kernel_rfl) (by kernel_rfl) (by kernel_rfl) (fun _ _ _ h => h) (Or.inl ⟨by kernel_rfl, ?hy20003⟩) (by assumption) ?r20003
    case hy20003 => (intro W hSW; obtain ⟨s0, s1, s2, s3, s4, s5, s6, s7, s8, s9, s10, s11, s12⟩ := hSW; go_simp; try with_reducible rfl)
    try simp only [Act.put, List.getElem_toArray, List.getElem_cons_zero, List.getElem_cons_succ, List.setIfInBounds_toArray, List.set_cons_zero, List.set_cons_succ]
    refine wpAnyL_take (i := 3) (v := ?v20004) rfl (by kernel_rfl) (by kernel_rfl) (by kernel_rfl) (by kernel_rfl) (fun _ _ _ h => h) (Or.inl ⟨by kernel_rfl, ?hy20004⟩) (by assumption) ?r20004
    case hy20004 => (intro W hSW; obtain ⟨s0, s1, s2, s3, s4, s5, s6, s7, s8, s9, s10, s11, s12⟩ := hSW; go_simp; try with_reducible rfl)
    try simp only [Act.put, List.getElem_toArray, List.getElem_cons_zero, List.getElem_cons_succ, List.setIfInBounds_toArray, List.set_cons_zero, List.set_cons_succ]
    refine wpAnyL_take (i := 4) (v := ?v20005) rfl (by kernel_rfl) (by kernel_rfl) (by kernel_rfl) (by kernel_rfl) (fun _ _ _ h => h) (Or.inl ⟨by kernel_rfl, ?hy20005⟩) (by assumption) ?r20005
    case hy20005 => (intro W hSW; obtain ⟨s0, s1, s2, s3, s4, s5, s6, s7, s8, s9, s10, s11, s12⟩ := hSW; go_simp; try with_reducible rfl)
    try simp only [Act.put, List.getElem_toArray, List.getElem_cons_zero, List.getElem_cons_succ, List.setIfInBounds_toArray, List.set_cons_zero, List.set_cons_succ]
    refine wpAnyL_take (i := 5) (v := ?v20006) rfl (by kernel_rfl) (by kernel_rfl) (by kernel_rfl) (by kernel_rfl) (fun _ _ _ h => h) (Or.inl ⟨by kernel_rfl, ?hy20006⟩) (by assumption) ?r20006
    case hy20006 => (intro W hSW; obtain ⟨s0, s1, s2, s3, s4, s5, s6, s7, s8, s9, s10, s11, s12⟩ := hSW; go_simp; try with_reducible rfl)
    try simp only [Act.put, List.getElem_toArray, List.getElem_cons_zero, List.getElem_cons_succ, List.setIfInBounds_toArray, List.set_cons_zero, List.set_cons_succ]
    refine wpAnyL_ready (rs := [6, 10]) (by kernel_rfl) (by simp) ?_
    refine AllReadyL.cons rfl (fun K hK => ?_) ?_
    · skip
      have hb := (Below.refl W0.heap.size W0).drew
      go_simp
      refine (HG.out _ (HB0.out.later hb)).mono ?_
      rintro e W1 ⟨rfl, hF⟩
      have hb := hb.trans (hF.mono hb.size)
      clear hF
      refine hK.out _ _ (HSS.out _ (Gr.of_below hb _)) (fun hH => ?_)
      clear hK K
      try simp only [Act.put, List.getElem_toArray, List.getElem_cons_zero, List.getElem_cons_succ, List.setIfInBounds_toArray, List.set_cons_zero, List.set_cons_succ]
      refine wpAnyL_take (i := 7) (v := ?v20007) rfl (by kernel_rfl) (by kernel_rfl) (by kernel_rfl) (by kernel_rfl) (fun _ _ _ h => h) (Or.inl ⟨by kernel_rfl, ?hy20007⟩) (by assumption) ?r20007
      case hy20007 => (intro W hSW; obtain ⟨s0, s1, s2, s3, s4, s5, s6, s7, s8, s9, s10, s11, s12⟩ := hSW; go_simp; try with_reducible rfl)
      try simp only [Act.put, List.getElem_toArray, List.getElem_cons_zero, List.getElem_cons_succ, List.setIfInBounds_toArray, List.set_cons_zero, List.set_cons_succ]
      refine wpAnyL_take (i := 8) (v := ?v20008) rfl (by kernel_rfl) (by kernel_rfl) (by kernel_rfl) (by kernel_rfl) (fun _ _ _ h => h) (Or.inl ⟨by kernel_rfl, ?hy20008⟩) (by assumption) ?r20008
      case hy20008 => (intro W hSW; obtain ⟨s0, s1, s2, s3, s4, s5, s6, s7, s8, s9, s10, s11, s12⟩ := hSW; go_simp; try with_reducible rfl)
      try simp only [Act.put, List.getElem_toArray, List.getElem_cons_zero, List.getElem_cons_succ, List.setIfInBounds_toArray, List.set_cons_zero, List.set_cons_succ]
      refine wpAnyL_take (i := 9) (v := ?v20009) rfl (by kernel_rfl) (by kernel_rfl) (by kernel_rfl) (by kernel_rfl) (fun _ _ _ h => h) (Or.inl ⟨by kernel_rfl, ?hy20009⟩) (by assumption) ?r20009
      case hy20009 => (intro W hSW; obtain ⟨s0, s1, s2, s3, s4, s5, s6, s7, s8, s9, s10, s11, s12⟩ := hSW; go_simp; try with_reducible rfl)
      try simp only [Act.put, List.getElem_toArray, List.getElem_cons_zero, List.getElem_cons_succ, List.setIfInBounds_toArray, List.set_cons_zero, List.set_cons_succ]
      refine wpAnyL_one (i := 10) (by kernel_rfl) rfl (by decide) (fun K hK => ?_)
      go_simp
      obtain ⟨ab, hab, hal⟩ : ∃ ab, ab = W1.heap.size ∧ (W1.alloc (.cells #[.string ⟨#[]⟩, i64 0, i64 0, i64 0] 70)).heap[ab]? = some (.cells #[.string ⟨#[]⟩, i64 0, i64 0, i64 0] 70) := ⟨_, rfl, heap_alloc_new W1 _⟩
      have Hab := Lib.hid hab
      have hgb := hb.size
      have Hge := Lib.hid (show W0.heap.size ≤ ab by omega)
      clear hab
      have hb := hb.alloc hb.size (.cells #[.string ⟨#[]⟩, i64 0, i64 0, i64 0] 70)
      refine hK.out _ _ (HSS.out _ (Gr.of_below hb _)) (fun hH => ?_)
      clear hK K
      try simp only [Act.put, List.getElem_toArray, List.getElem_cons_zero, List.getElem_cons_succ, List.setIfInBounds_toArray, List.set_cons_zero, List.set_cons_succ]
      refine wpAnyL_one (i := 11) (by kernel_rfl) rfl (by decide) (fun K hK => ?_)
      refine wp_store_row 70 (.tmp 7) (.tmp 20) rfl ab #[.string ac.name, i64 ac.hav, i64 ac.set_, i64 ac.lim] (by rw [Hab.out] <;> rfl) rfl 70 #[.string ⟨#[]⟩, i64 0, i64 0, i64 0] hal (by kernel_rfl) rfl (by simp [Value.oneCell']) ?_
      have hal2 := setRow_heap _ ab _ #[.string ac.name, i64 ac.hav, i64 ac.set_, i64 ac.lim] _ _ hal
      have hb := below_setRow hb Hge.out #[.string ac.name, i64 ac.hav, i64 ac.set_, i64 ac.lim]
      refine hK.out _ _ (HSS.out _ (Gr.of_below hb _)) (fun hH => ?_)
      clear hK K
      try simp only [Act.put, List.getElem_toArray, List.getElem_cons_zero, List.getElem_cons_succ]
      refine wpAnyL_last (by kernel_rfl) rfl (fun K hK => ?_)
      go_simp
      refine hK.out _ _ ?_
      clear hK K
      try simp only [Act.put, List.getElem_toArray, List.getElem_cons_zero, List.getElem_cons_succ, List.setIfInBounds_toArray, List.set_cons_zero, List.set_cons_succ]
      refine wpAnyL_done (by kernel_rfl) ?_ _
      refine NoPanic.normal ?_
      generalize ((W1.alloc (.cells #[.string ⟨#[]⟩, i64 0, i64 0, i64 0] 70))).setRow ab #[.string ac.name, i64 ac.hav, i64 ac.set_, i64 ac.lim] = W3 at *
      have hb3 := Hb0.out.trans (hb.mono Hb0.out.size)
      have hr3 := (hb.block rb hlt0.2).trans HR0.out
      have n1 := cell_of_row _ ab 1 _ _ (0, 0) hal2
      have n2 := cell_of_row _ ab 2 _ _ (0, 0) hal2
      simp only [List.getElem?_toArray, List.getElem?_cons_zero, List.getElem?_cons_succ] at n1 n2
      have Hr3 := Lib.hid hr3
      clear hb hal hal2 hr3
      by_cases hg : ge = 0
      · have g2 : (ge != 0) = false := by rw [hg]; rfl
        have HR2 := Lib.hid (show R = ⟨0, ac.hav, ac.set_, 0⟩ from HR1.out.trans (if_neg (fun e => e hg)))
        have HRow := Lib.hid (setRow_heap W3 rb _ #[i64 0, i64 ac.hav, i64 ac.set_, i64 0] _ _ Hr3.out)
        have HBel := Lib.hid (below_setRow hb3 Hrb.out #[i64 0, i64 ac.hav, i64 ac.set_, i64 0])
        have hab2 := Hab.out
        subst hab2
        clear HR1 hg
        go_wp2_with (refine wpList_store_row rfl 59 (.tmp 6) (.tmp 30) rfl rb #[i64 0, i64 ac.hav, i64 ac.set_, i64 0] rfl rfl 59 #[i64 0, i64 0, i64 0, i64 0] Hr3.out (by kernel_rfl) rfl (by simp [Value.oneCell']) ?_)
        exact bodyPost_ret (results_cell_row rfl _ _ rb 59 _ (0, 0) _ rfl HRow.out Tryz.underlying59 rfl (by kernel_rfl)) rfl ⟨by rw [HR2.out] <;> rfl, HBel.out⟩
      · have g2 : (ge != 0) = true := by simpa using hg
        have HR2 := Lib.hid (show R = rpE ge from HR1.out.trans (if_pos hg))
        have HRow := Lib.hid (setRow_heap W3 rb _ #[i64 ge, i64 0, i64 0, i64 0] _ _ Hr3.out)
        have HBel := Lib.hid (below_setRow hb3 Hrb.out #[i64 ge, i64 0, i64 0, i64 0])
        clear HR1 hg
        go_wp2_with (refine wpList_store_row rfl 59 (.tmp 6) (.tmp 25) rfl rb #[i64 ge, i64 0, i64 0, i64 0] rfl rfl 59 #[i64 0, i64 0, i64 0, i64 0] Hr3.out (by kernel_rfl) rfl (by simp [Value.oneCell']) ?_)
        exact bodyPost_ret (results_cell_row rfl _ _ rb 59 _ (0, 0) _ rfl HRow.out Tryz.underlying59 rfl (by kernel_rfl)) rfl ⟨by rw [HR2.out] <;> rfl, HBel.out⟩
    refine AllReadyL.cons rfl (fun K hK => ?_) ?_
    · skip
      have hb := (Below.refl W0.heap.size W0).drew
      go_simp
      obtain ⟨ab, hab, hal⟩ : ∃ ab, ab = W0.heap.size ∧ (W0.drew.alloc (.cells #[.string ⟨#[]⟩, i64 0, i64 0, i64 0] 70)).heap[ab]? = some (.cells #[.string ⟨#[]⟩, i64 0, i64 0, i64 0] 70) := ⟨_, rfl, heap_alloc_new W0.drew _⟩
      have Hab := Lib.hid hab
      have Hge := Lib.hid (show W0.heap.size ≤ ab by omega)
      clear hab
      have hb := hb.alloc hb.size (.cells #[.string ⟨#[]⟩, i64 0, i64 0, i64 0] 70)
      refine hK.out _ _ (HSS.out _ (Gr.of_below hb _)) (fun hH => ?_)
      clear hK K
      try simp only [Act.put, List.getElem_toArray, List.getElem_cons_zero, List.getElem_cons_succ, List.setIfInBounds_toArray, List.set_cons_zero, List.set_cons_succ]
      refine wpAnyL_one (i := 6) (by kernel_rfl) rfl (by decide) (fun K hK => ?_)
      go_simp
      refine (HG.out _ (HB0.out.later hb)).mono ?_
      rintro e W1 ⟨rfl, hF⟩
      have hal := (hF.block ab (Array.getElem?_eq_some_iff.1 hal).1).trans hal
      have hb := hb.trans (hF.mono hb.size)
      clear hF
      refine hK.out _ _ (HSS.out _ (Gr.of_below hb _)) (fun hH => ?_)
      clear hK K
      try simp only [Act.put, List.getElem_toArray, List.getElem_cons_zero, List.getElem_cons_succ, List.setIfInBounds_toArray, List.set_cons_zero, List.set_cons_succ]
      refine wpAnyL_take (i := 7) (v := ?v20010) rfl (by kernel_rfl) (by kernel_rfl) (by kernel_rfl) (by kernel_rfl) (fun _ _ _ h => h) (Or.inl ⟨by kernel_rfl, ?hy20010⟩) (by assumption) ?r20010
      case hy20010 => (intro W hSW; obtain ⟨s0, s1, s2, s3, s4, s5, s6, s7, s8, s9, s10, s11, s12⟩ := hSW; go_simp; try with_reducible rfl)
      try simp only [Act.put, List.getElem_toArray, List.getElem_cons_zero, List.getElem_cons_succ, List.setIfInBounds_toArray, List.set_cons_zero, List.set_cons_succ]
      refine wpAnyL_take (i := 8) (v := ?v20011) rfl (by kernel_rfl) (by kernel_rfl) (by kernel_rfl) (by kernel_rfl) (fun _ _ _ h => h) (Or.inl ⟨by kernel_rfl, ?hy20011⟩) (by assumption) ?r20011
      case hy20011 => (intro W hSW; obtain ⟨s0, s1, s2, s3, s4, s5, s6, s7, s8, s9, s10, s11, s12⟩ := hSW; go_simp; try with_reducible rfl)
      try simp only [Act.put, List.getElem_toArray, List.getElem_cons_zero, List.getElem_cons_succ, List.setIfInBounds_toArray, List.set_cons_zero, List.set_cons_succ]
      refine wpAnyL_take (i := 9) (v := ?v20012) rfl (by kernel_rfl) (by kernel_rfl) (by kernel_rfl) (by kernel_rfl) (fun _ _ _ h => h) (Or.inl ⟨by kernel_rfl, ?hy20012⟩) (by assumption) ?r20012
      case hy20012 => (intro W hSW; obtain ⟨s0, s1, s2, s3, s4, s5, s6, s7, s8, s9, s10, s11, s12⟩ := hSW; go_simp; try with_reducible rfl)
      try simp only [Act.put, List.getElem_toArray, List.getElem_cons_zero, List.getElem_cons_succ, List.setIfInBounds_toArray, List.set_cons_zero, List.set_cons_succ]
      refine wpAnyL_one (i := 11) (by kernel_rfl) rfl (by decide) (fun K hK => ?_)
      refine wp_store_row 70 (.tmp 7) (.tmp 20) rfl ab #[.string ac.name, i64 ac.hav, i64 ac.set_, i64 ac.lim] (by rw [Hab.out] <;> rfl) rfl 70 #[.string ⟨#[]⟩, i64 0, i64 0, i64 0] hal (by kernel_rfl) rfl (by simp [Value.oneCell']) ?_
      have hal2 := setRow_heap _ ab _ #[.string ac.name, i64 ac.hav, i64 ac.set_, i64 ac.lim] _ _ hal
      have hb := below_setRow hb Hge.out #[.string ac.name, i64 ac.hav, i64 ac.set_, i64 ac.lim]
      refine hK.out _ _ (HSS.out _ (Gr.of_below hb _)) (fun hH => ?_)
      clear hK K
      try simp only [Act.put, List.getElem_toArray, List.getElem_cons_zero, List.getElem_cons_succ]
      refine wpAnyL_last (by kernel_rfl) rfl (fun K hK => ?_)
      go_simp
      refine hK.out _ _ ?_
      clear hK K
      try simp only [Act.put, List.getElem_toArray, List.getElem_cons_zero, List.getElem_cons_succ, List.setIfInBounds_toArray, List.set_cons_zero, List.set_cons_succ]
      refine wpAnyL_done (by kernel_rfl) ?_ _
      refine NoPanic.normal ?_
      generalize (W1).setRow ab #[.string ac.name, i64 ac.hav, i64 ac.set_, i64 ac.lim] = W3 at *
      have hb3 := Hb0.out.trans (hb.mono Hb0.out.size)
      have hr3 := (hb.block rb hlt0.2).trans HR0.out
      have n1 := cell_of_row _ ab 1 _ _ (0, 0) hal2
      have n2 := cell_of_row _ ab 2 _ _ (0, 0) hal2
      simp only [List.getElem?_toArray, List.getElem?_cons_zero, List.getElem?_cons_succ] at n1 n2
      have Hr3 := Lib.hid hr3
      clear hb hal hal2 hr3
      by_cases hg : ge = 0
      · have g2 : (ge != 0) = false := by rw [hg]; rfl
        have HR2 := Lib.hid (show R = ⟨0, ac.hav, ac.set_, 0⟩ from HR1.out.trans (if_neg (fun e => e hg)))
        have HRow := Lib.hid (setRow_heap W3 rb _ #[i64 0, i64 ac.hav, i64 ac.set_, i64 0] _ _ Hr3.out)
        have HBel := Lib.hid (below_setRow hb3 Hrb.out #[i64 0, i64 ac.hav, i64 ac.set_, i64 0])
        have hab2 := Hab.out
        subst hab2
        clear HR1 hg
        go_wp2_with (refine wpList_store_row rfl 59 (.tmp 6) (.tmp 30) rfl rb #[i64 0, i64 ac.hav, i64 ac.set_, i64 0] rfl rfl 59 #[i64 0, i64 0, i64 0, i64 0] Hr3.out (by kernel_rfl) rfl (by simp [Value.oneCell']) ?_)
        exact bodyPost_ret (results_cell_row rfl _ _ rb 59 _ (0, 0) _ rfl HRow.out Tryz.underlying59 rfl (by kernel_rfl)) rfl ⟨by rw [HR2.out] <;> rfl, HBel.out⟩
      · have g2 : (ge != 0) = true := by simpa using hg
        have HR2 := Lib.hid (show R = rpE ge from HR1.out.trans (if_pos hg))
        have HRow := Lib.hid (setRow_heap W3 rb _ #[i64 ge, i64 0, i64 0, i64 0] _ _ Hr3.out)
        have HBel := Lib.hid (below_setRow hb3 Hrb.out #[i64 ge, i64 0, i64 0, i64 0])
        clear HR1 hg
        go_wp2_with (refine wpList_store_row rfl 59 (.tmp 6) (.tmp 25) rfl rb #[i64 ge, i64 0, i64 0, i64 0] rfl rfl 59 #[i64 0, i64 0, i64 0, i64 0] Hr3.out (by kernel_rfl) rfl (by simp [Value.oneCell']) ?_)
        exact bodyPost_ret (results_cell_row rfl _ _ rb 59 _ (0, 0) _ rfl HRow.out Tryz.underlying59 rfl (by kernel_rfl)) rfl ⟨by rw [HR2.out] <;> rfl, HBel.out⟩
    exact AllReadyL.nil
  · have g1 : (er != 0) = true := by simpa using he
    have HR1 := Lib.hid (show R = rpE er from HR.out.trans (if_pos he))
    clear HR he h
    have hb := ((Below.refl w.heap.size w).alloc (Nat.le_refl _) (.cells #[i64 x.client, i64 x.seq, i64 x.kind, .string x.acct, .string x.peer, i64 x.sum, .slice x.la x.legs.length x.lc, i64 x.period, i64 x.hold, .string x.note] 65)).alloc (by simp) (.cells #[i64 er, i64 0, i64 0, i64 0] 59)
    unfold Od.v
    go_enter Tryz.func170, Tryz.ntmps170
    go_wp2
    exact bodyPost_ret (results_cell_row rfl _ _ (w.heap.size + 1) 59 _ (0, 0) _ rfl (heap_alloc2_new w _ _) Tryz.underlying59 rfl (by kernel_rfl)) rfl ⟨by rw [HR1.out]; rfl, hb⟩
end Go.Proofs.YtmljlkjomjflpaaGreat
