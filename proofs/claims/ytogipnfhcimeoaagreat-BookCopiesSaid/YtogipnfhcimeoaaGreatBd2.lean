/- Texts of this claim, laid together: HoAll, HoOf, HoPut, SumL, Total, Vou, VouB. -/
import Derived.Test.YtogipnfhcimeoaaGreatRows
import Derived.Test.YtogipnfhcimeoaaGreatBd1
import Derived.Test.YtogipnfhcimeoaaGreatBc20
import Derived.Test.YtogipnfhcimeoaaGreatShelf
import Derived.Test.YtogipnfhcimeoaaGreatBc1
import Derived.Test.YtogipnfhcimeoaaGreatShelfS
import Derived.WalkKit
import Derived.WalkSpells
import Derived.WalkLawsBesides
import Derived.Deep.QuietTactic
import Derived.BigQuiet
import Derived.Laws.StructEq
import Derived.Deep.DeepFit
import Derived.StillTailTactics
import Derived.Test.YtogipnfhcimeoaaGreatBc4
import Derived.Shelf.Spec.BitsCarry
import Derived.Test.YtogipnfhcimeoaaGreatBc7

/- hold.All -/
namespace Go.Proofs.YtogipnfhcimeoaaGreat
open Go.RowKit
def gH (p : Hk × Int) : Held := ⟨p.1.num, p.1.acct, p.2⟩
abbrev RkH (M : List (Hk × Int)) (L : List Held) : Prop := RK ltH Held.key gH M L
/-- block g holds holds, whose map lies in block b: the holds L, in order -/
def HoA (w : World) (g b : Nat) (L : List Held) : Prop := ∃ M, HoIs w g b M ∧ RkH M L
theorem HoA.kept {w w' : World} {g b : Nat} {L : List Held} {S : Nat → Prop} (h : HoA w g b L) (hk : Gr w w' S) (h1 : ¬ S g) (h2 : ¬ S b) : HoA w' g b L := by
  obtain ⟨M, h, hr⟩ := h
  exact ⟨M, ⟨h.ne, (hk.block g h.lt.1 h1).trans h.cell, by
    have hlt := h.map.lt
    obtain ⟨es, clock, hb, r⟩ := h.map
    exact ⟨es, clock, (hk.block b hlt h2).trans hb, r⟩⟩, hr⟩
theorem HoA.later {w w' : World} {g b : Nat} {L : List Held} (h : HoA w g b L) (hb : Below w.heap.size w w') : HoA w' g b L := h.kept (Gr.of_below hb (fun _ => False)) id id
theorem HoA.lt {w : World} {g b : Nat} {L : List Held} (h : HoA w g b L) : g < w.heap.size ∧ b < w.heap.size ∧ b ≠ g := by
  obtain ⟨M, h, _⟩ := h
  exact ⟨h.lt.1, h.lt.2, h.ne⟩
theorem HoA.srt {w : World} {g b : Nat} {L : List Held} (h : HoA w g b L) : SrtL ltH L := by
  obtain ⟨M, _, h⟩ := h
  exact h.srt
/-- holds as they are kept -/
def OkH (L : List Held) : Prop := ∀ x ∈ L, 1 ≤ x.num ∧ x.num ≤ 9999 ∧ 1 ≤ x.sum ∧ x.sum ≤ 9223372036854775807 ∧ x.acct.size ≤ maxLen
theorem heldInfo : (Tryz.prog.info? 74).map (fun i => (i.zero, i.size, i.bytes)) = some (some (.agg #[i64 0, .string ByteArray.empty, i64 0]), Enc.size Held, 32) := by kernel_rfl
def entH (x : Held) : Hk × Value := (x.key, i64 x.sum)
theorem entH_gH (p : Hk × Int) : entH (gH p) = (p.1, i64 p.2) := rfl
theorem hv_eq (H : List (Hk × Int)) : hv H = (H.map gH).map entH := by
  unfold hv
  rw [List.map_map]
  rfl
theorem entH_inj {l m : List Held} (h : (l.map entH).Perm (m.map entH)) : l.Perm m := by
  have hb : ∀ x : Held, (fun p : Hk × Value => (⟨p.1.num, p.1.acct, intOf p.2⟩ : Held)) (entH x) = x := fun x => rfl
  have := h.map (fun p : Hk × Value => (⟨p.1.num, p.1.acct, intOf p.2⟩ : Held))
  rw [List.map_map, List.map_map] at this
  have e : ∀ l : List Held, l.map ((fun p : Hk × Value => (⟨p.1.num, p.1.acct, intOf p.2⟩ : Held)) ∘ entH) = l := fun l => by
    conv => rhs; rw [← List.map_id l]
    exact List.map_congr_left fun x _ => rfl
  rwa [e, e] at this
theorem perm_ent {M : List Held} {L : List (Hk × Value)} (h : L.Perm (M.map entH)) {p : Hk × Value} (hp : p ∈ L) : ∃ x ∈ M, p = entH x := by
  obtain ⟨x, hx, e⟩ := List.mem_map.1 (h.mem_iff.1 hp)
  exact ⟨x, hx, e.symm⟩
theorem hcmp_lt (x y : Held) : ltH x y = decide (orN (cmpS x.acct y.acct) (cmpN x.num y.num) < 0) := by
  unfold ltH orN cmpS cmpN
  cases h1 : bless x.acct y.acct with
  | true => simp
  | false =>
    cases h2 : bless y.acct x.acct with
    | true =>
      have hne : x.acct ≠ y.acct := fun e => by rw [e, bless_strict.irr] at h2; cases h2
      simp [hne]
    | false =>
      have he := bless_tri h1 h2
      by_cases h3 : x.num < y.num
      · simp [he, h3]
      · by_cases h4 : y.num < x.num
        · simp [he, h3, h4]
        · simp [he, h3, h4]
theorem keyH_tri {a b : Held} (h1 : ltH a b = false) (h2 : ltH b a = false) : a.key = b.key := by
  by_cases e : a.key = b.key
  · exact e
  · rcases keyH.co a b e with h | h
    · rw [h] at h1; cases h1
    · rw [h] at h2; cases h2
set_option maxRecDepth 100000 in
set_option maxHeartbeats 8000000 in
theorem hoall_c (g b : Nat) (L : List Held) (w : World) (h : HoA w g b L) (hok : OkH L) (hn : L.length ≤ 65536) :
    Calls Tryz.prog 100 #[.pointer (some ⟨g, 0, none⟩)] w fun e w' => ∃ v, e = .returned v ∧ Own w' w.heap.size 74 v L ∧ Below w.heap.size w w' := by
  obtain ⟨M, h, hr⟩ := h
  have hlg := h.lt.1
  have Hr := Lib.hid hr
  have Hok := Lib.hid hok
  have c0 := cell_of_row _ g 0 _ _ (0, 0) h.cell
  simp only [List.getElem?_toArray, List.getElem?_cons_zero] at c0
  have hm := h.map
  rw [hv_eq] at hm
  have Hmap := Lib.hid hm
  have hlb := h.lt.2
  have hpm := Lib.hid (show ((M.map gH).map entH).Perm (L.map entH) from hr.perm.map _)
  generalize M.map gH = M1 at *
  clear h hm hr hok
  go_enter Tryz.func100, Tryz.ntmps100
  go_wp2_with (at_range; refine wpList_rng rfl (.tmp 11) 166 rfl Tryz.underlying166 rfl Hmap.out ?_; intro w0 hrg hb0 hs0)
  go_frame
  go_loopw [3] (fun v wr => ∃ (acc : List Held) (Lf : List (Hk × Value)), RngIs Hk.v wr b w.heap.size (M1.map entH) Lf ∧ Own wr (w.heap.size + 1) 74 v acc ∧ (acc.map entH ++ Lf).Perm (L.map entH) ∧ Below w.heap.size w wr) (fun _ wr => wr.rangeLeft b w.heap.size)
  case atStart => exact ⟨[], M1.map entH, hrg, Own.nil_ _ _ _, by simpa using hpm.out, hb0⟩
  case round =>
    obtain ⟨acc, Lf, hrg, hO, hp, hB⟩ := hrel
    have hlen := hrg.len
    have HlL := Lib.hid hpm.out.length_eq
    go_wp2_with (at_next; refine wpList_rng_next rfl (.tmp 12) rfl rfl hrg ?_ ?_)
    · intro hL0
      subst hL0
      rw [List.append_nil] at hp
      have hpL := entH_inj hp
      have HpL := Lib.hid hpL
      have hsz : acc.length ≤ 1000000 := by rw [hpL.length_eq]; omega
      have hcmp := fun (x y : Held) (W : World) => hcmp_c x y W
      have hC := sortF_own (α := Held) Tryz.sortHd Tryz.isAgg74 (show ∀ w : World, (sizeOf 74).run Tryz.prog w = .ok (Enc.size Held) w from Tryz.sizeOf74) (fun x y => orN (cmpS x.acct y.acct) (cmpN x.num y.num)) ltH hcmp_lt keyH.strict 149 #[] (enters_of Tryz.func149 (by kernel_rfl) rfl) hcmp _ 74 _ acc wr hO hsz
      change Calls Tryz.prog 148 _ _ _ at hC
      have HC := Lib.hid hC
      have HO := Lib.hid hO
      clear hC hcmp hO hrg hp hlen hpL hsz
      go_wp2_with fail
      refine HC.out.mono ?_
      rintro e w2 ⟨rfl, l', hp', hs', hO', hg'⟩
      have hfin := Lib.hid (show l' = L from sorted_unique (hp'.trans HpL.out) hs' (Hr.out.srt.sorted keyH.strict) fun a ha b hb e1 e2 => by
        rcases keyH_tri e1 e2 with e
        exact Hr.out.srt.one keyH ((hp'.trans HpL.out).mem_iff.1 ha) ((hp'.trans HpL.out).mem_iff.1 hb) e)
      have hB2 := hB.trans (HO.out.below hg' (Nat.le_succ _) hB.size)
      clear hp' hs' HC HO hg'
      go_wp2
      go_ret
      exact ⟨_, rfl, by rw [← hfin.out]; exact hO'.mono (Nat.le_succ _), hB2⟩
    · intro key val L' w1 hpp hrg1 hg1 hsz1 hen
      obtain ⟨x, hx, hxe⟩ := perm_ent (L := acc.map entH ++ Lf) hp (List.mem_append_right _ (hpp.mem_iff.2 (List.mem_cons_self ..)))
      unfold entH at hxe
      injection hxe with e1 e2
      subst e1 e2
      have Hx := Lib.hid (show (acc.map entH ++ [entH x] ++ L').Perm (L.map entH) from (List.Perm.trans (by rw [List.append_assoc]; exact List.Perm.append_left _ hpp.symm) hp))
      have hsx := Lib.hid (Hok.out x hx).2.2.2.2
      have hO1 := hO.grown hg1 (by
        cases hv : Value.ownBlock _ with
        | none => exact .inl rfl
        | some j =>
          right
          intro e
          injection e with e
          have := (hO.1.lt j hv).1
          omega) (fun y hy => hO.2 y hy)
      have hB1 := hB.trans (below_of_grown hg1 hB.size (fun j e => by injection e with e; omega))
      simp only [Held.key, Hk.v] at hen
      have hlen1 := hrg1.len
      have HP := Lib.hid hpp.length_eq
      have Hlen := Lib.hid hlen
      clear hp hpp hx hO hg1 hB hrg hlen
      have HO2 := Lib.hid ((hO1.later ((Below.refl _ _).alloc (Nat.le_refl _) (.cells #[.string x.acct, i64 x.num] 169))).later ((Below.refl _ _).alloc (Nat.le_refl _) (.cells #[i64 x.num, .string x.acct, i64 x.sum] 74)))
      have Hne := Lib.hid (hO1.new_ne (Nat.le_succ w1.heap.size))
      have HH := Lib.hid (heap_alloc2_new w1 (.cells #[.string x.acct, i64 x.num] 169) (.cells #[i64 x.num, .string x.acct, i64 x.sum] 74))
      have hB2 := (hB1.alloc hB1.size (.cells #[.string x.acct, i64 x.num] 169)).alloc (by have := hB1.size; simp; omega) (.cells #[i64 x.num, .string x.acct, i64 x.sum] 74)
      have hrg2 := (hrg1.later ((Below.refl _ _).alloc (Nat.le_refl _) (.cells #[.string x.acct, i64 x.num] 169))).later ((Below.refl _ _).alloc (Nat.le_refl _) (.cells #[i64 x.num, .string x.acct, i64 x.sum] 74))
      have HRG := Lib.hid hrg2
      have Hal := Lib.hid (show acc.length + 1 ≤ 65536 from by
        have h1 := Hx.out.length_eq
        simp only [List.length_append, List.length_map, List.length_singleton] at h1
        omega)
      have hsB := hB1.size
      have hg1 : w.heap.size + 1 ≤ w1.heap.size := by have := hrg1.lt.2; omega
      have Hg1 := Lib.hid hg1
      unfold Held.key
      clear hO1 hB1 hrg1 hlen1 hrg2 hg1 hsz1
      go_wp2_with (at_builtin; refine wpList_append_one rfl (some 26) (.tmp 18) (.tmp 25) 69 rfl rfl (.agg #[i64 0, .string ByteArray.empty, i64 0]) 32 Tryz.underlying69 heldInfo rfl (by decide) (by decide) rfl HO2.out (w1.heap.size + 1) x rfl _ 74 HH.out rfl Hne.out hsx.out (by have := Hal.out; omega) (by have := Hg1.out; simp; omega) ?_; intro v3 w3 hO3 hg3 hat3)
      have hrg3 := HRG.out.kept hg3 (by
        intro e
        have := (HO2.out.1.lt b e.symm).1
        omega) (by
        intro e
        have := (HO2.out.1.lt _ e.symm).1
        omega)
      have hB3 := hB2.trans (HO2.out.below hg3 (Nat.le_succ _) hB2.size)
      clear hg3 hat3 HO2 hB2
      go_roundw
      case rel => exact ⟨acc ++ [x], L', hrg3, hO3, by rw [List.map_append]; exact Hx.out, hB3⟩
      case measure =>
        rw [hrg3.len, Hlen.out, HP.out]
        simp
end Go.Proofs.YtogipnfhcimeoaaGreat

/- hold.Of -/
namespace Go.Proofs.YtogipnfhcimeoaaGreat
open Go.RowKit
set_option maxRecDepth 100000 in
set_option maxHeartbeats 2000000 in
theorem of1_c (x : Held) (s : ByteArray) (q : Nat) (w : World) (hq : w.cell? ⟨q, 0, none⟩ = some (.string s)) :
    Calls Tryz.prog 252 #[x.v, .pointer (some ⟨q, 0, none⟩)] w fun e w' => e = .returned (.bool (!decide (x.acct = s))) ∧ Below w.heap.size w w' := by
  have hb0 := (Below.refl w.heap.size w).alloc (Nat.le_refl _) (.cells #[i64 x.num, .string x.acct, i64 x.sum] 74)
  have hlq := World.block_lt_of_cell? _ _ hq
  have hne : q ≠ w.heap.size := Nat.ne_of_lt hlq
  by_cases he : x.acct = s
  · have e1 := beqS_of_eq he
    rw [decide_eq_true he]
    clear he
    go_enter Tryz.func252, Tryz.ntmps252
    go_wp2
    go_ret
    exact ⟨rfl, hb0⟩
  · have e1 := beqS_of_ne he
    rw [decide_eq_false he]
    clear he
    go_enter Tryz.func252, Tryz.ntmps252
    go_wp2
    go_ret
    exact ⟨rfl, hb0⟩
def ofL (L : List Held) (s : ByteArray) : List Held := L.filter fun x => decide (x.acct = s)
set_option maxRecDepth 100000 in
set_option maxHeartbeats 4000000 in
theorem hoof_c (g b : Nat) (L : List Held) (s : ByteArray) (w : World) (h : HoA w g b L) (hok : OkH L) (hn : L.length ≤ 65536) :
    Calls Tryz.prog 225 #[.pointer (some ⟨g, 0, none⟩), .string s] w fun e w' => ∃ v, e = .returned v ∧ Own w' w.heap.size 74 v (ofL L s) ∧ Below w.heap.size w w' := by
  have hb0 := (Below.refl w.heap.size w).alloc (Nat.le_refl _) (.cells #[.string s] 9)
  have hA := Lib.hid (hoall_c g b L _ (h.later hb0) hok hn)
  have hc := heap_alloc_new w (.cells #[.string s] 9)
  have HL := Lib.hid (show (L.filter fun x => !!decide (x.acct = s)) = ofL L s by unfold ofL; congr 1; funext x; simp)
  have Hn := Lib.hid hn
  clear h hok hn
  go_enter Tryz.func225, Tryz.ntmps225
  go_wp2_with fail
  generalize w.alloc (.cells #[.string s] 9) = w0 at *
  refine hA.out.mono ?_
  rintro e w1 ⟨v, rfl, hO, hF⟩
  have hc1 := (hF.block _ (Array.getElem?_eq_some_iff.1 hc).1).trans hc
  have hb1 := below_on hb0 (Nat.le_refl _) hF
  have hlt := (Array.getElem?_eq_some_iff.1 hc).1
  have HD := Lib.hid (deleteFunc_held w0.heap.size v L 252 #[.pointer (some ⟨w.heap.size, 0, none⟩)] (fun x => !decide (x.acct = s)) w1 hO Hn.out (enters_of Tryz.func252 (by kernel_rfl) rfl) (fun x _ w2 hg => by
    have hcell := hg.block w.heap.size (Nat.lt_of_lt_of_le hlt hF.size) (fun e => by
      have := (hO.1.lt _ e.symm).1
      omega)
    have hc2 := cell_of_row _ w.heap.size 0 _ _ (0, 0) (hcell.trans hc1)
    exact of1_c x s w.heap.size w2 hc2))
  have HO := Lib.hid hO
  clear hA hc hc1 hF
  go_wp2_with fail
  refine HD.out.mono ?_
  rintro e w2 ⟨v2, rfl, hO2, hg2, hv2⟩
  have hb2 := hb1.trans (HO.out.below hg2 (by have := hb0.size; omega) hb1.size)
  rw [HL.out] at hO2
  go_wp2
  go_ret
  exact ⟨_, rfl, hO2.mono hb0.size, hb2⟩
end Go.Proofs.YtogipnfhcimeoaaGreat

/- hold: New, Free, Put, as holds in order -/
namespace Go.Proofs.YtogipnfhcimeoaaGreat
open Go.RowKit
theorem R64_neg {s : Int} (h : 1 ≤ s ∧ s ≤ 9223372036854775807) : R64 (-s) := ⟨by omega, by omega⟩
def freeHL (L : List Ac) (H : List Held) (k : ByteArray) (n : Int) : Int × List Ac × List Held := match getK Held.key H ⟨k, n⟩ with
  | none => (6, L, H)
  | some y => ((turnL (asiD (-y.sum)) L k (-y.sum)).1, (turnL (asiD (-y.sum)) L k (-y.sum)).2, if (turnL (asiD (-y.sum)) L k (-y.sum)).1 = 0 then delK Held.key H ⟨k, n⟩ else H)
def putH (L : List Ac) (H : List Held) (x : Held) : Int × List Ac × List Held :=
  if x.num < 1 ∨ 9999 < x.num ∨ x.sum < 1 then (1, L, H) else if (getK Held.key H x.key).isSome = true then (7, L, H) else if (ofL H x.acct).length = 8 then (5, L, H)
  else ((turnL (asiD x.sum) L x.acct x.sum).1, (turnL (asiD x.sum) L x.acct x.sum).2, if (turnL (asiD x.sum) L x.acct x.sum).1 = 0 then insB ltH x H else H)
theorem RkH.get_ {M : List (Hk × Int)} {L : List Held} (h : RkH M L) (k : Hk) : getM M k = (getK Held.key L k).map Held.sum := by
  have := RK.get keyH h k
  rw [← this, Option.map_map]
  cases getM M k <;> rfl
theorem RkH.sums {M : List (Hk × Int)} {L : List Held} (hr : RkH M L) (hok : OkH L) : ∀ y ∈ M, 1 ≤ y.2 ∧ y.2 ≤ 9223372036854775807 := fun y hy => by
  have := hok (gH y) (hr.perm.mem_iff.1 (List.mem_map.2 ⟨y, hy, rfl⟩))
  exact ⟨this.2.2.1, this.2.2.2.1⟩
theorem honewA_c (w : World) : Calls Tryz.prog 91 #[] w fun e w' => e = .returned (.pointer (some ⟨w.heap.size + 1, 0, none⟩)) ∧ HoA w' (w.heap.size + 1) w.heap.size [] ∧ Below w.heap.size w w' :=
  (honew_c w).mono fun _ _ ⟨h1, h2, h3⟩ => ⟨h1, ⟨[], h2, RK.nil⟩, h3⟩
theorem freeH_eq {MC : List (ByteArray × Ac)} {MH : List (Hk × Int)} {L : List Ac} {H : List Held} (hc : RkA MC L) (hh : RkH MH H) (k : ByteArray) (n : Int) :
    (freeH MC MH k n).1 = (freeHL L H k n).1 ∧ RkA (freeH MC MH k n).2.1 (freeHL L H k n).2.1 ∧ RkH (freeH MC MH k n).2.2 (freeHL L H k n).2.2 := by
  unfold freeH freeHL
  rw [hh.get_ ⟨k, n⟩]
  cases hg : getK Held.key H ⟨k, n⟩ with
  | none => exact ⟨rfl, hc, hh⟩
  | some y =>
    simp only [Option.map_some]
    obtain ⟨e1, e2⟩ := hc.turn (asiD (-y.sum)) (fun _ => rfl) k (-y.sum)
    refine ⟨e1, e2, ?_⟩
    rw [e1]
    split
    · exact RK.del hh ⟨k, n⟩
    · exact hh
theorem hofreeA_c (g b gh bh : Nat) (L : List Ac) (H : List Held) (k : ByteArray) (n : Int) (w : World) (h : ChA w g b L) (hh : HoA w gh bh H) (hd : gh ≠ b ∧ bh ≠ b ∧ g ≠ bh) (hL : OkA L) (hH : OkH H) :
    Calls Tryz.prog 194 #[.pointer (some ⟨gh, 0, none⟩), .pointer (some ⟨g, 0, none⟩), .string k, i64 n] w fun e w' => e = .returned (i64 (freeHL L H k n).1) ∧ ChA w' g b (freeHL L H k n).2.1 ∧ HoA w' gh bh (freeHL L H k n).2.2 ∧ G2 w w' b bh := by
  obtain ⟨MC, h, hr⟩ := h
  obtain ⟨MH, hh, hrh⟩ := hh
  obtain ⟨e1, e2, e3⟩ := freeH_eq hr hrh k n
  exact (hofree_c g b gh bh MC MH k n w h hh hd (hL.inM hr) (hrh.sums hH)).mono fun _ _ ⟨h1, h2, h3, h4⟩ => ⟨by rw [← e1]; exact h1, ⟨_, h2, e2⟩, ⟨_, h3, e3⟩, h4⟩
theorem Gr.of_g2 {w w' : World} {b c : Nat} (h : G2 w w' b c) : Gr w w' (fun k => k = b ∨ k = c) := ⟨h.os, h.tape, h.output, h.size, fun k hk hn => h.block k hk (fun e => hn (.inl e)) (fun e => hn (.inr e))⟩
set_option maxRecDepth 100000 in
set_option maxHeartbeats 8000000 in
theorem hoput_c (g b gh bh : Nat) (L : List Ac) (H : List Held) (x : Held) (w : World) (h : ChA w g b L) (hh : HoA w gh bh H) (hd : gh ≠ b ∧ bh ≠ b ∧ g ≠ bh) (hL : OkA L) (hH : OkH H) (hx : R64 x.sum) (hn : H.length ≤ 65536) :
    Calls Tryz.prog 192 #[.pointer (some ⟨gh, 0, none⟩), .pointer (some ⟨g, 0, none⟩), x.v] w fun e w' => e = .returned (i64 (putH L H x).1) ∧ ChA w' g b (putH L H x).2.1 ∧ HoA w' gh bh (putH L H x).2.2 ∧ G2 w w' b bh := by
  obtain ⟨R, hR⟩ : ∃ R, putH L H x = R := ⟨_, rfl⟩
  rw [hR]
  unfold putH at hR
  have HR := Lib.hid hR.symm
  have Hx := Lib.hid hx
  have HL := Lib.hid hL
  have HH := Lib.hid hH
  have Hd := Lib.hid hd
  have Hn := Lib.hid hn
  have hb0 := (Below.refl w.heap.size w).alloc (Nat.le_refl _) (.cells #[i64 x.num, .string x.acct, i64 x.sum] 74)
  have H0 := Lib.hid (h.later hb0)
  have HH0 := Lib.hid (hh.later hb0)
  have hlg := Lib.hid h.lt
  have hlh := Lib.hid hh.lt
  clear hR hL hH hd hx hn h hh
  by_cases hbad : x.num < 1 ∨ 9999 < x.num ∨ x.sum < 1
  · have HR1 := Lib.hid (show R = (1, L, H) by rw [HR.out, if_pos hbad])
    clear HR
    by_cases h1 : x.num < 1
    · have g1 : decide (x.num < 1) = true := decide_eq_true h1
      clear h1 hbad
      go_enter Tryz.func192, Tryz.ntmps192
      go_wp2
      go_ret
      exact ⟨by rw [HR1.out]; rfl, by rw [HR1.out]; exact H0.out, by rw [HR1.out]; exact HH0.out, G2.of_below hb0 _ _⟩
    · have g1 : decide (x.num < 1) = false := decide_eq_false h1
      by_cases h2 : 9999 < x.num
      · have g2 : decide (9999 < x.num) = true := decide_eq_true h2
        clear h1 h2 hbad
        go_enter Tryz.func192, Tryz.ntmps192
        go_wp2
        go_ret
        exact ⟨by rw [HR1.out]; rfl, by rw [HR1.out]; exact H0.out, by rw [HR1.out]; exact HH0.out, G2.of_below hb0 _ _⟩
      · have g2 : decide (9999 < x.num) = false := decide_eq_false h2
        have g3 : decide (x.sum < 1) = true := decide_eq_true ((hbad.resolve_left h1).resolve_left h2)
        clear h1 h2 hbad
        go_enter Tryz.func192, Tryz.ntmps192
        go_wp2
        go_ret
        exact ⟨by rw [HR1.out]; rfl, by rw [HR1.out]; exact H0.out, by rw [HR1.out]; exact HH0.out, G2.of_below hb0 _ _⟩
  · have g1 : decide (x.num < 1) = false := decide_eq_false (fun e => hbad (.inl e))
    have g2 : decide (9999 < x.num) = false := decide_eq_false (fun e => hbad (.inr (.inl e)))
    have g3 : decide (x.sum < 1) = false := decide_eq_false (fun e => hbad (.inr (.inr e)))
    have HR1 := Lib.hid (show R = _ by rw [HR.out, if_neg hbad])
    clear HR hbad
    have hb1 := hb0.alloc (by simp) (.cells #[.string x.acct, i64 x.num] 169)
    have h1 := H0.out.later ((Below.refl _ _).alloc (Nat.le_refl _) (.cells #[.string x.acct, i64 x.num] 169))
    have hh1 := HH0.out.later ((Below.refl _ _).alloc (Nat.le_refl _) (.cells #[.string x.acct, i64 x.num] 169))
    have hx1 := heap_alloc2_old w (.cells #[i64 x.num, .string x.acct, i64 x.sum] 74) (.cells #[.string x.acct, i64 x.num] 169)
    have hk1 := heap_alloc2_new w (.cells #[i64 x.num, .string x.acct, i64 x.sum] 74) (.cells #[.string x.acct, i64 x.num] 169)
    obtain ⟨MH, hhi, hrh⟩ := hh1
    have c0 := cell_of_row _ gh 0 _ _ (0, 0) hhi.cell
    have c1 := cell_of_row _ (w.heap.size + 1) 0 _ _ (0, 0) hk1
    have c2 := cell_of_row _ (w.heap.size + 1) 1 _ _ (0, 0) hk1
    simp only [List.getElem?_toArray, List.getElem?_cons_zero, List.getElem?_cons_succ] at c0 c1 c2
    have hlk := run_lookup (P := Tryz.prog) hkKey Tryz.underlying166 (hhi.later (Below.refl _ _).drew).map x.key (i64 0) (by kernel_rfl) true
    rw [getM_hv, hrh.get_] at hlk
    obtain ⟨o, ho⟩ : ∃ o, getK Held.key H x.key = o := ⟨_, rfl⟩
    rw [ho] at hlk
    have HM := Lib.hid (show HoA _ gh bh H from ⟨MH, hhi, hrh⟩)
    have HC := Lib.hid h1
    have Ho := Lib.hid ho
    unfold Held.key Hk.v at hlk
    clear h1 hhi hrh H0 HH0 hb0 ho
    go_enter Tryz.func192, Tryz.ntmps192
    go_upto_region 4 with fail
    generalize (w.alloc (.cells #[i64 x.num, .string x.acct, i64 x.sum] 74)).alloc (.cells #[.string x.acct, i64 x.num] 169) = w0 at *
    go_cut [8, 9] from 11 (fun s8 s9 wx => s8 = i64 ((o.map Held.sum).getD 0) ∧ s9 = .bool o.isSome ∧ w0.drew = wx)
    case first =>
      go_region_with fail
      all_goals (go_wp2_with fail; go_meet; exact ⟨by cases o <;> rfl, by simp, rfl⟩)
    case rest =>
    obtain ⟨rfl, rfl, rfl⟩ := hcut
    have HC2 := Lib.hid (HC.out.later (Below.refl _ _).drew)
    have HM2 := Lib.hid (HM.out.later (Below.refl _ _).drew)
    have hb2 := hb1.drew
    have hx2 : w0.drew.heap[w.heap.size]? = some (.cells #[i64 x.num, .string x.acct, i64 x.sum] 74 (0, 0)) := hx1
    have hk2 : w0.drew.heap[w.heap.size + 1]? = some (.cells #[.string x.acct, i64 x.num] 169 (0, 0)) := hk1
    generalize w0.drew = w1 at *
    have n0 := cell_of_row _ w.heap.size 0 _ _ (0, 0) hx2
    have n1 := cell_of_row _ w.heap.size 1 _ _ (0, 0) hx2
    have n2 := cell_of_row _ w.heap.size 2 _ _ (0, 0) hx2
    simp only [List.getElem?_toArray, List.getElem?_cons_zero, List.getElem?_cons_succ] at n0 n1 n2
    clear hlk c0 c1 c2 hb1 hx1 hk1 HC HM
    cases o with
    | some y =>
      have HR2 := Lib.hid (show R = (7, L, H) by rw [HR1.out, Ho.out]; rfl)
      clear HR1
      go_wp2
      go_ret
      exact ⟨by rw [HR2.out]; rfl, by rw [HR2.out]; exact HC2.out, by rw [HR2.out]; exact HM2.out, G2.of_below hb2 _ _⟩
    | none =>
      have hOf := Lib.hid (hoof_c gh bh H x.acct w1 HM2.out HH.out Hn.out)
      have HR2 := Lib.hid (show R = (if (ofL H x.acct).length = 8 then (5, L, H) else ((turnL (asiD x.sum) L x.acct x.sum).1, (turnL (asiD x.sum) L x.acct x.sum).2, if (turnL (asiD x.sum) L x.acct x.sum).1 = 0 then insB ltH x H else H)) by rw [HR1.out, Ho.out]; rfl)
      clear HR1
      go_wp2_with fail
      refine hOf.out.mono ?_
      rintro e w2 ⟨v, rfl, hO, hF⟩
      obtain ⟨A, c, rfl, -⟩ := hO.sl
      have hb3 := below_on hb2 (Nat.le_refl _) hF
      have HC3 := Lib.hid (HC2.out.later hF)
      have HM3 := Lib.hid (HM2.out.later hF)
      have hx3 := (hF.block _ (Array.getElem?_eq_some_iff.1 hx2).1).trans hx2
      have hk3 := (hF.block _ (Array.getElem?_eq_some_iff.1 hk2).1).trans hk2
      have n1 := (hF.cell (p := ⟨w.heap.size, 1, none⟩) (Array.getElem?_eq_some_iff.1 hx2).1).trans n1
      have n2 := (hF.cell (p := ⟨w.heap.size, 2, none⟩) (Array.getElem?_eq_some_iff.1 hx2).1).trans n2
      clear hF hO hOf hb2 HC2 HM2 hx2 hk2 n0
      generalize (ofL H x.acct).length = m at *
      by_cases h8 : m = 8
      · have g4 : ((m : Int) == 8) = true := by rw [h8]; rfl
        have HR3 := Lib.hid (show R = (5, L, H) by rw [HR2.out, if_pos h8])
        clear HR2 h8
        go_wp2
        go_ret
        exact ⟨by rw [HR3.out]; rfl, by rw [HR3.out]; exact HC3.out, by rw [HR3.out]; exact HM3.out, G2.of_below hb3 _ _⟩
      · have g4 : ((m : Int) == 8) = false := by rw [beq_eq_false_iff_ne]; omega
        have HR3 := Lib.hid (show R = _ by rw [HR2.out, if_neg h8])
        have hT := Lib.hid (asideA_c g b L x.acct x.sum w2 HC3.out HL.out Hx.out)
        generalize turnL (asiD x.sum) L x.acct x.sum = q at *
        clear HR2 h8
        go_wp2_with fail
        refine hT.out.mono ?_
        rintro e w3 ⟨rfl, hc4, hg4⟩
        have hh4 := HM3.out.kept (Gr.of_grown hg4) (fun e => by injection e with e; exact Hd.out.1 e.symm) (fun e => by injection e with e; exact Hd.out.2.1 e.symm)
        have hx4 := (hg4.block _ (Array.getElem?_eq_some_iff.1 hx3).1 (fun e => by injection e with e; have := hlg.out.2.1; omega)).trans hx3
        have hk4 := (hg4.block _ (Array.getElem?_eq_some_iff.1 hk3).1 (fun e => by injection e with e; have := hlg.out.2.1; omega)).trans hk3
        have hg5 := (G2.of_below hb3 b bh).trans (G2.fst hg4 bh)
        clear hT HC3 HM3 hx3 hk3 hg4 hb3 n1 n2
        by_cases hq : q.1 = 0
        · have g5 : (q.1 == 0) = true := by rw [hq]; rfl
          have HR4 := Lib.hid (show R = (q.1, q.2, insB ltH x H) by rw [HR3.out, if_pos hq])
          clear hq HR3
          obtain ⟨MH4, hhi, hrh⟩ := hh4
          have c0 := cell_of_row _ gh 0 _ _ (0, 0) hhi.cell
          have c1 := cell_of_row _ (w.heap.size + 1) 0 _ _ (0, 0) hk4
          have c2 := cell_of_row _ (w.heap.size + 1) 1 _ _ (0, 0) hk4
          have n2 := cell_of_row _ w.heap.size 2 _ _ (0, 0) hx4
          simp only [List.getElem?_toArray, List.getElem?_cons_zero, List.getElem?_cons_succ] at c0 c1 c2 n2
          have hh5 := hhi.later (Below.refl _ _).drew
          have hc5 := hc4.later (Below.refl _ _).drew
          obtain ⟨w5, hrun, hm5, hg6⟩ := run_put (P := Tryz.prog) hkKey Tryz.underlying166 hh5.map x.key (i64 x.sum)
          rw [putM_hv] at hm5
          unfold Held.key Hk.v at hrun
          have HM5 := Lib.hid hm5
          have HG := Lib.hid hg6
          have HRH := Lib.hid (RK.add keyH hrh (k := x.key) (v := x.sum) rfl Ho.out)
          clear hm5 hg6 hrh
          go_wp2_with fail
          go_region_with fail
          all_goals (
            go_wp2
            go_ret
            exact ⟨by rw [HR4.out]; rfl, by rw [HR4.out]; exact hc5.kept (Gr.of_grown HG.out) (fun e => by injection e with e; exact Hd.out.2.2 e.symm) (fun e => by injection e with e; exact Hd.out.2.1 e), by
              rw [HR4.out]
              exact ⟨_, ⟨hh5.ne, (HG.out.block gh hh5.lt.1 (fun e => hh5.ne (by injection e with e; exact e.symm))).trans hh5.cell, HM5.out⟩, HRH.out⟩, (hg5.trans (G2.of_below (Below.refl _ _).drew _ _)).trans (G2.snd HG.out b)⟩)
        · have g5 : (q.1 == 0) = false := beq_eq_false_iff_ne.2 hq
          have HR4 := Lib.hid (show R = (q.1, q.2, H) by rw [HR3.out, if_neg hq])
          clear hq HR3
          go_wp2
          go_ret
          exact ⟨by rw [HR4.out]; rfl, by rw [HR4.out]; exact hc4, by rw [HR4.out]; exact hh4, hg5⟩
end Go.Proofs.YtogipnfhcimeoaaGreat

/- Sums of lists -/
namespace Go.Proofs.YtogipnfhcimeoaaGreat
open Go.RowKit
def sumL : List Int → Int
  | [] => 0
  | a :: r => a + sumL r
theorem sumL_app (l m : List Int) : sumL (l ++ m) = sumL l + sumL m := by
  induction l with
  | nil => simp [sumL]
  | cons b r ih => rw [List.cons_append, sumL, sumL, ih]; omega
theorem sumL_one (a : Int) : sumL [a] = a := by simp [sumL]
theorem sumL_perm {l m : List Int} (h : l.Perm m) : sumL l = sumL m := by
  induction h with
  | nil => rfl
  | cons x _ ih => rw [sumL, sumL, ih]
  | swap x y l => simp only [sumL]; omega
  | trans _ _ h1 h2 => rw [h1, h2]
theorem sumL_in : ∀ (l : List Int), (∀ a ∈ l, R64 a) → -(l.length * 9223372036854775808 : Int) ≤ sumL l ∧ sumL l ≤ l.length * 9223372036854775808
  | [], _ => by simp [sumL]
  | a :: r, h => by
    have h1 := sumL_in r fun b hb => h b (by simp [hb])
    have h2 := h a (by simp)
    unfold R64 at h2
    rw [sumL, List.length_cons]
    push_cast
    omega
theorem sumL_take {l : List Int} {k : Nat} (h : k < l.length) : sumL (l.take (k + 1)) = sumL (l.take k) + l[k] := by rw [List.take_succ_eq_append_getElem h, sumL_app, sumL_one]
end Go.Proofs.YtogipnfhcimeoaaGreat

/- coins.Total -/
namespace Go.Proofs.YtogipnfhcimeoaaGreat
open Go.RowKit
theorem shr63 {a : Int} (h : R64 a) : a / 9223372036854775808 = if a < 0 then -1 else 0 := by unfold R64 at h; split <;> omega
set_option maxRecDepth 100000 in
set_option maxHeartbeats 4000000 in
theorem total_c (A : Option Addr) (c : Nat) (l : List Int) (w : World) (h : Sl w w.heap.size A c l) (hl : l.length ≤ 1000000) (hr : ∀ a ∈ l, R64 a) :
    Calls Tryz.prog 261 #[.slice A l.length c] w fun e w' => e = .returned (.tuple #[i64 (sumR (sumL l)).1, i64 (sumR (sumL l)).2]) ∧ Below w.heap.size w w' := by
  have hadd : ∀ (x y : Nat) (W : World), (callFunc 268 #[.int .u64 x, .int .u64 y, .int .u64 0]).run Tryz.prog W = .ok (.value (.tuple #[.int .u64 (((x + y) % 18446744073709551616 : Nat) : Int), .int .u64 (((x + y) / 18446744073709551616 : Nat) : Int)])) W := fun x y W => Any7.bits_Add64 Tryz.ladd64 x y 0 (by decide) W
  have Hadd := Lib.hid hadd
  obtain ⟨R, hR⟩ : ∃ R, sumR (sumL l) = R := ⟨_, rfl⟩
  rw [hR]
  have HR := Lib.hid hR
  clear hR
  clear hadd
  go_enter Tryz.func261, Tryz.ntmps261
  go_wp2_with fail
  go_loopw [4, 5, 11] (fun hi lo i wr => ∃ (k : Nat) (x : Int) (y : Nat), i = i64 k ∧ hi = i64 x ∧ lo = .int .u64 (y : Int) ∧ k ≤ l.length ∧ y < 18446744073709551616 ∧ x * 18446744073709551616 + y = sumL (l.take k) ∧ Below w.heap.size w wr) (fun _ _ i _ => l.length - (intOf i).toNat)
  case atStart => exact ⟨0, 0, 0, rfl, rfl, rfl, by omega, by decide, by simp [sumL], Below.refl _ _⟩
  case round =>
    obtain ⟨k, x, y, rfl, rfl, rfl, hk, hy, hs, hB⟩ := hrel
    by_cases hlt : k < l.length
    · have ha := hr l[k] (List.getElem_mem hlt)
      obtain ⟨b, o, rfl, -, -, hc⟩ := (h.later hB).at_ hlt
      have d0 := hc 0 _ rfl
      rw [show k * Enc.size Int + 0 = k from Nat.mul_one k] at d0
      have i0 : (0 : Int) ≤ (k : Int) := by omega
      have i1 : (k : Int) < (l.length : Int) := by omega
      have hlc : l.length ≤ c := h.1
      have hst := sumL_take hlt
      have hin := sumL_in (l.take k) fun a h => hr a (List.mem_of_mem_take h)
      have htk : (l.take k).length = k := by rw [List.length_take]; omega
      rw [htk] at hin
      have hx : -1000001 ≤ x ∧ x ≤ 1000001 := by omega
      have h63 := shr63 ha
      obtain ⟨u, hu⟩ : ∃ u : Nat, (u : Int) = l[k] % 18446744073709551616 := ⟨(l[k] % 18446744073709551616).toNat, by omega⟩
      have hu2 : IntKind.u64.wrap l[k] = (u : Int) := by rw [IntKind.wrap_u64, hu]
      have had := fun W => Hadd.out y u W
      obtain ⟨s, es⟩ : ∃ s, (y + u) % 18446744073709551616 = s := ⟨_, rfl⟩
      obtain ⟨t, et⟩ : ∃ t, (y + u) / 18446744073709551616 = t := ⟨_, rfl⟩
      simp only [es, et] at had
      have ht2 : IntKind.i64.wrap (t : Int) = t := by rw [IntKind.wrap_i64]; omega
      have Hst : Hid ((x + (l[k] / 9223372036854775808 + t)) * 18446744073709551616 + (s : Int) = sumL (l.take (k + 1)) ∧ s < 18446744073709551616) := Lib.hid (by
        unfold R64 at ha
        rw [hst, ← hs, h63]
        split <;> omega)
      obtain ⟨p, ep⟩ : ∃ p, l[k] / 9223372036854775808 = p := ⟨_, rfl⟩
      rw [ep] at Hst
      have hp : -1 ≤ p ∧ p ≤ 0 := by rw [← ep, h63]; split <;> omega
      have hp0 := hp.1
      have hp1 := hp.2
      have htn : t ≤ 1 := by omega
      have e1 : IntKind.i64.wrap (p + t) = p + t := by rw [IntKind.wrap_i64]; omega
      have e2 : IntKind.i64.wrap (x + (p + t)) = x + (p + t) := by rw [IntKind.wrap_i64]; omega
      have EP := Lib.hid ep
      have E1 := Lib.hid e1
      have E2 := Lib.hid e2
      clear hs hc hin htk h63 hst es et hu ep e1 e2
      generalize l[k] = a at *
      go_wp2
      go_roundw
      case rel => exact ⟨k + 1, x + (p + t), s, by go_num, by rw [EP.out, ← IntWalk.i64_left, ← IntWalk.i64_left, E1.out, E2.out], rfl, by omega, Hst.out.2, Hst.out.1, hB⟩
      case measure => simp [intOf]; omega
    · obtain rfl : k = l.length := by omega
      rw [List.take_length] at hs
      obtain ⟨v, hv⟩ : ∃ v, IntKind.i64.wrap (y : Int) = v := ⟨_, rfl⟩
      have hv2 : v = if (y : Int) < 9223372036854775808 then (y : Int) else (y : Int) - 18446744073709551616 := by
        rw [← hv, IntKind.wrap_i64]
        split <;> omega
      have hv64 : R64 v := by rw [← hv]; exact wrap_R64 _
      have hd := shr63 hv64
      obtain ⟨q, hq⟩ : ∃ q, v / 9223372036854775808 = q := ⟨_, rfl⟩
      have hR := HR.out
      have hv3 : wrap64 (y : Int) = v := by rw [← IntWalk.i64_left]; exact hv
      by_cases hx : x = q
      · have g1 : (x != q) = false := by rw [hx]; simp
        have hT := Lib.hid (show R = (v, 0) by
          rw [← hR]
          unfold sumR overB
          unfold R64 at hv64
          have e : sumL l = v := by
            rw [← hs, hx, ← hq, hd, hv2]
            split <;> split <;> omega
          rw [e, decide_eq_true hv64.1, decide_eq_true hv64.2]
          rfl)
        clear hs hv2 hd hR hx hv64
        go_wp2
        all_goals (
          go_ret2
          exact ⟨by rw [hT.out]; rfl, hB⟩)
      · have g1 : (x != q) = true := by simpa using hx
        have hT := Lib.hid (show R = (0, 2) by
          rw [← hR]
          unfold sumR
          rw [if_pos]
          unfold overB
          rw [Bool.not_eq_true', Bool.and_eq_false_iff, decide_eq_false_iff_not, decide_eq_false_iff_not]
          rw [← hq, hd] at hx
          split at hv2 <;> split at hx <;> omega)
        clear hs hv2 hd hR hx hv64
        go_wp2
        all_goals (
          go_ret2
          exact ⟨by rw [hT.out]; rfl, hB⟩)
end Go.Proofs.YtogipnfhcimeoaaGreat

/- voucher: right, weigh -/
namespace Go.Proofs.YtogipnfhcimeoaaGreat
open Go.RowKit
theorem legsTo_len {l : List Leg} (h : ∀ x ∈ l, legB x = true) : legsB l = (decide ((seenM l).length = l.length) && (decide (2 ≤ l.length) && decide (l.length ≤ 6))) := by
  unfold legsB
  rw [List.all_eq_true.2 h, Bool.and_true]
  congr 1
  rw [decide_eq_decide]
  exact (seenM_len l).2.symm
set_option maxRecDepth 100000 in
set_option maxHeartbeats 4000000 in
theorem vright_c (A : Option Addr) (c : Nat) (l : List Leg) (w : World) (h : Sl w w.heap.size A c l) (hn : l.length ≤ 65536) :
    Calls Tryz.prog 248 #[.slice A l.length c] w fun e w' => e = .returned (.bool (legsB l)) ∧ Below w.heap.size w w' := by
  have hmm := @run_makeMap Tryz.prog
  go_enter Tryz.func248, Tryz.ntmps248
  go_wp2
  have hm0 := MapIs.made (enc := Value.string) w
  have hb0 := (Below.refl w.heap.size w).alloc (Nat.le_refl _) (.map #[] 0)
  go_loopw [9] (fun i wr => ∃ k : Nat, i = i64 k ∧ k ≤ l.length ∧ MapIs Value.string wr w.heap.size (seenM (l.take k)) ∧ (∀ x ∈ l.take k, legB x = true) ∧ Below w.heap.size w wr) (fun i _ => l.length - (intOf i).toNat)
  case atStart => exact ⟨0, rfl, by omega, hm0, by simp, hb0⟩
  case round =>
    obtain ⟨k, rfl, hk, hm, ht, hb⟩ := hrel
    have HT := Lib.hid ht
    clear hm0 hb0 hmm ht
    by_cases hlt : k < l.length
    · obtain ⟨b, o, rfl, hbb, hsz, c0, c1⟩ := (h.later hb).leg hlt
      have hB1 := (Below.refl wr.heap.size wr).alloc (Nat.le_refl _) (.cells #[.string l[k].acct, i64 l[k].sum] 146)
      have Hm1 := Lib.hid (hm.later hB1)
      have Hb1 := Lib.hid (hb.alloc hb.size (.cells #[.string l[k].acct, i64 l[k].sum] 146))
      clear hm
      go_wp2_with fail
      refine (name_b l[k].acct _).mono ?_
      rintro e w2 ⟨rfl, hF⟩
      have e0 : (wr.alloc (.cells #[.string l[k].acct, i64 l[k].sum] 146)).cell? ⟨wr.heap.size, 0, none⟩ = some (.string l[k].acct) := by simp
      have e1 : (wr.alloc (.cells #[.string l[k].acct, i64 l[k].sum] 146)).cell? ⟨wr.heap.size, 1, none⟩ = some (i64 l[k].sum) := by simp
      have e0 := (hF.cell (p := ⟨wr.heap.size, 0, none⟩) (by simp)).trans e0
      have e1 := (hF.cell (p := ⟨wr.heap.size, 1, none⟩) (by simp)).trans e1
      have hm2 := Lib.hid (Hm1.out.later hF)
      have hb2 := Lib.hid (below_on Hb1.out (Nat.le_refl _) hF)
      clear hF c0 c1 Hm1 Hb1 hb hB1
      by_cases hnm : nameB l[k].acct = true
      · rw [hnm]
        by_cases hz : l[k].sum = 0
        · have g1 : (l[k].sum == 0) = true := beq_iff_eq.2 hz
          have Hs2 := Lib.hid (legsB_bad hlt (by unfold legB; rw [hz]; simp))
          clear hz hnm
          go_wp2
          go_ret
          exact ⟨by rw [Hs2.out]; rfl, hb2.out⟩
        · have g1 : (l[k].sum == 0) = false := beq_eq_false_iff_ne.2 hz
          have Hl := Lib.hid (show legB l[k] = true by unfold legB; rw [hnm, decide_eq_true hz]; rfl)
          clear hz hnm
          go_wp2_with (refine wpList_put rfl none (.tmp 22) (.tmp 24) (.const (.bool true)) 235 rfl rfl strKey Tryz.underlying235 rfl hm2.out l[k].acct (.bool true) rfl rfl ?_; intro w3 hm3 hg3)
          go_roundw
          case rel => exact ⟨k + 1, by go_num, by omega, by rw [List.take_succ_eq_append_getElem hlt, seenM_snoc]; exact hm3, fun x hx => by
              rw [List.take_succ_eq_append_getElem hlt] at hx
              rcases List.mem_append.1 hx with hx | hx
              · exact HT.out x hx
              · simp only [List.mem_singleton] at hx; subst hx; exact Hl.out, hb2.out.trans (below_of_grown hg3 hb2.out.size (fun g e => by injection e with e; omega))⟩
          case measure => simp [intOf]; omega
      · have hnm' : nameB l[k].acct = false := by simpa using hnm
        rw [hnm']
        have Hs2 := Lib.hid (legsB_bad hlt (by unfold legB; rw [hnm']; rfl))
        clear hnm hnm'
        go_wp2
        go_ret
        exact ⟨by rw [Hs2.out]; rfl, hb2.out⟩
    · obtain rfl : k = l.length := by omega
      have ht := HT.out
      rw [List.take_length] at ht hm
      have hal := legsTo_len ht
      have hlen := fun ty => run_lenM (P := Tryz.prog) Tryz.underlying235 hm ty
      clear ht
      have hsl : (seenM l).length ≤ l.length := (seenM_len l).1
      generalize (seenM l).length = sl at *
      clear hm
      by_cases h0 : sl = l.length
      · rw [decide_eq_true h0] at hal
        have g0 : ((sl : Int) == (l.length : Int)) = true := by rw [h0]; simp
        subst h0
        by_cases h2 : 2 ≤ l.length
        · have g1 : decide ((2 : Int) ≤ (l.length : Int)) = true := decide_eq_true (by omega)
          rw [decide_eq_true h2] at hal
          by_cases h6 : l.length ≤ 6
          · have g2 : decide ((l.length : Int) ≤ 6) = true := decide_eq_true (by omega)
            rw [decide_eq_true h6] at hal
            have Hs := Lib.hid hal
            clear hal h2 h6
            go_wp2
            go_ret
            exact ⟨by rw [Hs.out]; rfl, hb⟩
          · have g2 : decide ((l.length : Int) ≤ 6) = false := decide_eq_false (by omega)
            rw [decide_eq_false h6] at hal
            have Hs := Lib.hid hal
            clear hal h2 h6
            go_wp2
            go_ret
            exact ⟨by rw [Hs.out]; rfl, hb⟩
        · have g1 : decide ((2 : Int) ≤ (l.length : Int)) = false := decide_eq_false (by omega)
          rw [decide_eq_false h2] at hal
          have Hs := Lib.hid hal
          clear hal h2
          go_wp2
          go_ret
          exact ⟨by rw [Hs.out]; rfl, hb⟩
      · rw [decide_eq_false h0] at hal
        have g0 : ((sl : Int) == (l.length : Int)) = false := by rw [beq_eq_false_iff_ne]; omega
        have Hs := Lib.hid hal
        clear hal h0
        go_wp2
        go_ret
        exact ⟨by rw [Hs.out]; rfl, hb⟩
theorem intInfo64 : (Tryz.prog.info? 2).map (fun i => (i.zero, i.size, i.bytes)) = some (some (i64 0), Enc.size Int, 8) := by kernel_rfl
/-- voucher.weigh -/
def weighB (l : List Leg) : Bool := decide ((sumR (sumL (l.map Leg.sum))).2 = 0) && decide ((sumR (sumL (l.map Leg.sum))).1 = 0)
set_option maxRecDepth 100000 in
set_option maxHeartbeats 4000000 in
theorem weigh_c (A : Option Addr) (c : Nat) (l : List Leg) (w : World) (h : Sl w w.heap.size A c l) (hn : l.length ≤ 65536) (hr : ∀ x ∈ l, R64 x.sum) :
    Calls Tryz.prog 249 #[.slice A l.length c] w fun e w' => e = .returned (.bool (weighB l)) ∧ Below w.heap.size w w' := by
  have HR := Lib.hid hr
  have HW := Lib.hid (show weighB l = (decide ((sumR (sumL (l.map Leg.sum))).2 = 0) && decide ((sumR (sumL (l.map Leg.sum))).1 = 0)) from rfl)
  generalize weighB l = F at *
  clear hr
  go_enter Tryz.func249, Tryz.ntmps249
  go_wp2
  go_loopw [3, 10] (fun v i wr => ∃ k : Nat, i = i64 k ∧ k ≤ l.length ∧ Own wr w.heap.size 2 v ((l.take k).map Leg.sum) ∧ Below w.heap.size w wr) (fun _ i _ => l.length - (intOf i).toNat)
  case atStart => exact ⟨0, rfl, by omega, Own.nil_ _ _ _, Below.refl _ _⟩
  case round =>
    obtain ⟨k, rfl, hk, hO, hb⟩ := hrel
    by_cases hlt : k < l.length
    · obtain ⟨b, o, rfl, hbb, hsz, c0, c1⟩ := (h.later hb).leg hlt
      have HO2 := Lib.hid ((hO.later ((Below.refl _ _).alloc (Nat.le_refl _) (.cells #[.string l[k].acct, i64 l[k].sum] 146))).later ((Below.refl _ _).alloc (Nat.le_refl _) (.cells #[i64 l[k].sum] 2)))
      have Hne := Lib.hid (hO.new_ne (Nat.le_succ wr.heap.size))
      have HH := Lib.hid (heap_alloc2_new wr (.cells #[.string l[k].acct, i64 l[k].sum] 146) (.cells #[i64 l[k].sum] 2))
      have hbb' := (hb.alloc hb.size (.cells #[.string l[k].acct, i64 l[k].sum] 146)).alloc (by have := hb.size; simp; omega) (.cells #[i64 l[k].sum] 2)
      have HL := Lib.hid (show ((l.take k).map Leg.sum).length = k by simp; omega)
      clear hO
      go_wp2_with (at_builtin; refine wpList_append_one rfl (some 18) (.tmp 14) (.tmp 17) 215 rfl rfl (i64 0) 8 Tryz.underlying215 intInfo64 rfl Nat.one_pos (by decide) rfl HO2.out (wr.heap.size + 1) l[k].sum rfl _ 2 HH.out rfl Hne.out trivial (by rw [HL.out]; omega) hbb'.size ?_; intro v3 w3 hO3 hg3 hat3)
      go_roundw
      case rel => exact ⟨k + 1, by go_num, by omega, by rw [List.take_succ_eq_append_getElem hlt, List.map_append]; exact hO3, hbb'.trans (HO2.out.below hg3 (Nat.le_refl _) hbb'.size)⟩
      case measure => simp [intOf]; omega
    · obtain rfl : k = l.length := by omega
      rw [List.take_length] at hO
      obtain ⟨A2, c2, hv2, hs2⟩ := hO.sl
      rw [List.length_map] at hv2
      subst hv2
      have hT := (total_c A2 c2 _ _ hs2 (by simp; omega) (fun a ha => by
        obtain ⟨x, hx, rfl⟩ := List.mem_map.1 ha
        exact HR.out x hx))
      rw [List.length_map] at hT
      have hT := Lib.hid hT
      generalize sumR (sumL (l.map Leg.sum)) = r at *
      clear hs2 hO
      go_wp2_with fail
      refine hT.out.mono ?_
      rintro e w2 ⟨rfl, hF⟩
      have hb2 := below_on hb (Nat.le_refl _) hF
      clear hF hT
      by_cases h1 : r.2 = 0
      · have g1 : (r.2 == 0) = true := by rw [h1]; rfl
        have H1 := Lib.hid (decide_eq_true h1)
        clear h1
        by_cases h2 : r.1 = 0
        · have g2 : (r.1 == 0) = true := by rw [h2]; rfl
          have H2 := Lib.hid (decide_eq_true h2)
          clear h2
          go_wp2
          go_ret
          exact ⟨by rw [HW.out, H1.out, H2.out]; rfl, hb2⟩
        · have g2 : (r.1 == 0) = false := beq_eq_false_iff_ne.2 h2
          have H2 := Lib.hid (decide_eq_false h2)
          clear h2
          go_wp2
          go_ret
          exact ⟨by rw [HW.out, H1.out, H2.out]; rfl, hb2⟩
      · have g1 : (r.2 == 0) = false := beq_eq_false_iff_ne.2 h1
        have H1 := Lib.hid (decide_eq_false h1)
        clear h1
        go_wp2
        go_ret
        exact ⟨by rw [HW.out, H1.out]; rfl, hb2⟩
end Go.Proofs.YtogipnfhcimeoaaGreat

/- voucher: post, all, Check, Make -/
namespace Go.Proofs.YtogipnfhcimeoaaGreat
open Go.RowKit
def postL (L : List Ac) (x : Leg) : Int × List Ac := if (getLR L x.acct).2 ≠ 0 then ((getLR L x.acct).2, L) else if (sumR (0 - x.sum)).2 ≠ 0 then ((sumR (0 - x.sum)).2, L) else turnL (givD (sumR (0 - x.sum)).1) L x.acct (sumR (0 - x.sum)).1
def allL : List Ac → List Leg → Int × List Ac
  | L, [] => (0, L)
  | L, x :: r => if (postL L x).1 ≠ 0 then postL L x else allL (postL L x).2 r
/-- voucher.Check, Make -/
def checkL (L : List Ac) (l : List Leg) : Int := if legsB l = false then 1 else if weighB l = false then 8 else (allL L l).1
def makeL (L : List Ac) (l : List Leg) : Int × List Ac := if checkL L l ≠ 0 then (checkL L l, L) else allL L l
theorem postL_ok {L : List Ac} (h : OkA L) (x : Leg) : OkA (postL L x).2 := by
  unfold postL
  split
  · exact h
  · split
    · exact h
    · exact turnL_ok (givD_ok _) h _ _
theorem allL_ok : ∀ (l : List Leg) {L : List Ac}, OkA L → OkA (allL L l).2
  | [], _, h => h
  | x :: r, L, h => by
    unfold allL
    split
    · exact postL_ok h x
    · exact allL_ok r (postL_ok h x)
theorem makeL_ok {L : List Ac} (h : OkA L) (l : List Leg) : OkA (makeL L l).2 := by
  unfold makeL
  split
  · exact h
  · exact allL_ok l h
set_option maxRecDepth 100000 in
set_option maxHeartbeats 4000000 in
theorem post_c (g b : Nat) (L : List Ac) (x : Leg) (w : World) (h : ChA w g b L) (hL : OkA L) (hx : R64 x.sum) :
    Calls Tryz.prog 250 #[.pointer (some ⟨g, 0, none⟩), .agg #[.string x.acct, i64 x.sum]] w fun e w' => e = .returned (i64 (postL L x).1) ∧ ChA w' g b (postL L x).2 ∧ w.grownBy w' (some b) := by
  have HL := Lib.hid hL
  obtain ⟨R, hR⟩ : ∃ R, postL L x = R := ⟨_, rfl⟩
  rw [hR]
  unfold postL at hR
  have hb0 := (Below.refl w.heap.size w).alloc (Nat.le_refl _) (.cells #[.string x.acct, i64 x.sum] 146)
  have h0 := h.later hb0
  have hG := Lib.hid (getA_c g b L x.acct _ h0)
  have hk := heap_alloc_new w (.cells #[.string x.acct, i64 x.sum] 146)
  have hlt := h.lt
  have H0 := Lib.hid h0
  obtain ⟨q, hq⟩ : ∃ q, getLR L x.acct = q := ⟨_, rfl⟩
  rw [hq] at hR hG
  have HR := Lib.hid hR.symm
  have L1 := Lib.hid fun W => less_c 0 x.sum W R64_0 hx
  have Hs64 := Lib.hid (sumR_R64 (0 - x.sum))
  obtain ⟨r, hr⟩ : ∃ r, sumR (0 - x.sum) = r := ⟨_, rfl⟩
  rw [hr] at L1 HR Hs64
  clear hR hL h h0 hx hq hr
  go_enter Tryz.func250, Tryz.ntmps250
  go_wp2_with fail
  generalize w.alloc (.cells #[.string x.acct, i64 x.sum] 146) = w0 at *
  refine hG.out.mono ?_
  rintro e w1 ⟨rfl, hF⟩
  have hb1 := below_on hb0 (Nat.le_refl _) hF
  have h1 := H0.out.later hF
  have hk1 := (hF.block _ (Array.getElem?_eq_some_iff.1 hk).1).trans hk
  clear hF hG H0 hb0 hk
  have hb2 := hb1.alloc hb1.size (.cells #[.string q.1.name, i64 q.1.hav, i64 q.1.set_, i64 q.1.lim] 72)
  have h2 := h1.later ((Below.refl _ _).alloc (Nat.le_refl _) (.cells #[.string q.1.name, i64 q.1.hav, i64 q.1.set_, i64 q.1.lim] 72))
  have hk2 := (((Below.refl _ _).alloc (Nat.le_refl _) (.cells #[.string q.1.name, i64 q.1.hav, i64 q.1.set_, i64 q.1.lim] 72)).block _ (Array.getElem?_eq_some_iff.1 hk1).1).trans hk1
  have m0 := cell_of_row _ w.heap.size 0 _ _ (0, 0) hk2
  have m1 := cell_of_row _ w.heap.size 1 _ _ (0, 0) hk2
  simp only [List.getElem?_toArray, List.getElem?_cons_zero, List.getElem?_cons_succ] at m0 m1
  have H2 := Lib.hid h2
  have Hk2 := Lib.hid hk2
  clear h1 hk1 hb1 h2 hk2
  by_cases hq0 : q.2 = 0
  · have g1 : (q.2 != 0) = false := by rw [hq0]; rfl
    have HR1 := Lib.hid (show R = (if r.2 ≠ 0 then (r.2, L) else turnL (givD r.1) L x.acct r.1) by rw [HR.out, if_neg (by simpa using hq0)])
    clear hq0 HR
    go_wp2_with fail
    generalize w1.alloc (.cells #[.string q.1.name, i64 q.1.hav, i64 q.1.set_, i64 q.1.lim] 72) = w2 at *
    refine (L1.out _).mono ?_
    rintro e w3 ⟨rfl, hF⟩
    have hlw := (Array.getElem?_eq_some_iff.1 Hk2.out).1
    have hb3 := below_on hb2 (Nat.le_refl _) hF
    have h3 := H2.out.later hF
    have m0 := (hF.cell (p := ⟨w.heap.size, 0, none⟩) hlw).trans m0
    clear hF L1 hb2 H2 m1
    by_cases hr0 : r.2 = 0
    · have g2 : (r.2 != 0) = false := by rw [hr0]; rfl
      have HR2 := Lib.hid (show R = turnL (givD r.1) L x.acct r.1 by rw [HR1.out, if_neg (by simpa using hr0)])
      have hT := Lib.hid (giveA_c g b L x.acct r.1 w3 h3 HL.out Hs64.out)
      clear hr0 HR1 h3
      go_wp2_with fail
      refine hT.out.mono ?_
      rintro e w4 ⟨rfl, h4, hG4⟩
      go_wp2
      go_ret
      exact ⟨by rw [HR2.out]; rfl, by rw [HR2.out]; exact h4, grown_trans (grown_of_below hb3 _) hG4⟩
    · have g2 : (r.2 != 0) = true := by simpa using hr0
      have HR2 := Lib.hid (show R = (r.2, L) by rw [HR1.out, if_pos hr0])
      clear hr0 HR1
      go_wp2
      go_ret
      exact ⟨by rw [HR2.out]; rfl, by rw [HR2.out]; exact h3, grown_of_below hb3 _⟩
  · have g1 : (q.2 != 0) = true := by simpa using hq0
    have HR1 := Lib.hid (show R = (q.2, L) by rw [HR.out, if_pos hq0])
    clear hq0 HR
    go_wp2
    go_ret
    exact ⟨by rw [HR1.out]; rfl, by rw [HR1.out]; exact H2.out, grown_of_below hb2 _⟩
theorem allL_step {L : List Ac} {l : List Leg} {k : Nat} (h : k < l.length) : allL L (l.drop k) = if (postL L l[k]).1 ≠ 0 then postL L l[k] else allL (postL L l[k]).2 (l.drop (k + 1)) := by
  rw [List.drop_eq_getElem_cons h]
  rfl
set_option maxRecDepth 100000 in
set_option maxHeartbeats 4000000 in
theorem all_c (g b : Nat) (L : List Ac) (A : Option Addr) (c : Nat) (l : List Leg) (w : World) (h : ChA w g b L) (hL : OkA L) (hl : SlS w (fun k => k < w.heap.size ∧ k ≠ b) A c l) (hn : l.length ≤ 65536) (hr : ∀ x ∈ l, R64 x.sum) :
    Calls Tryz.prog 224 #[.pointer (some ⟨g, 0, none⟩), .slice A l.length c] w fun e w' => e = .returned (i64 (allL L l).1) ∧ ChA w' g b (allL L l).2 ∧ w.grownBy w' (some b) := by
  obtain ⟨R, hR⟩ : ∃ R, allL L l = R := ⟨_, rfl⟩
  rw [hR]
  have HR := Lib.hid hR
  have HL := Lib.hid hL
  have Hr := Lib.hid hr
  have Hl := Lib.hid hl
  have H := Lib.hid h
  clear hR hL hr hl h
  go_enter Tryz.func224, Tryz.ntmps224
  go_wp2_with fail
  go_loopw [10] (fun i wr => ∃ (k : Nat) (Lk : List Ac), i = i64 k ∧ k ≤ l.length ∧ ChA wr g b Lk ∧ OkA Lk ∧ R = allL Lk (l.drop k) ∧ w.grownBy wr (some b)) (fun i _ => l.length - (intOf i).toNat)
  case atStart => exact ⟨0, L, rfl, by omega, H.out, HL.out, HR.out.symm, World.grownBy.refl _ _⟩
  case round =>
    obtain ⟨k, Lk, rfl, hk, hc, hok, hR, hg⟩ := hrel
    have hs := Lib.hid (Hl.out.grs (Gr.of_grown hg) (fun b' hb => ⟨hb.1, fun e => hb.2 (by injection e with e; exact e.symm)⟩))
    by_cases hlt : k < l.length
    · obtain ⟨bb, o, rfl, hbb, hsz, c0, c1⟩ := hs.out.leg hlt
      rw [allL_step hlt] at hR
      have HRk := Lib.hid hR
      have hB1 := (Below.refl wr.heap.size wr).alloc (Nat.le_refl _) (.cells #[.string l[k].acct, i64 l[k].sum] 146)
      have hP := Lib.hid (post_c g b Lk l[k] _ (hc.later hB1) hok (Hr.out _ (List.getElem_mem hlt)))
      have HP := Lib.hid (postL_ok hok l[k])
      have hg1 := grown_trans hg (grown_of_below hB1 (some b))
      generalize postL Lk l[k] = p at *
      clear hc hok hR hg hB1 hsz
      go_wp2_with fail
      refine hP.out.mono ?_
      rintro e w2 ⟨rfl, hc2, hg2⟩
      have hg3 := grown_trans hg1 hg2
      clear hP hg1 hg2 c0 c1
      by_cases hp : p.1 = 0
      · have g1 : (p.1 != 0) = false := by rw [hp]; rfl
        have HRn := Lib.hid (show R = allL p.2 (l.drop (k + 1)) by rw [HRk.out, if_neg (by simpa using hp)])
        clear hp HRk
        go_wp2
        go_roundw
        case rel => exact ⟨k + 1, p.2, by go_num, by omega, hc2, HP.out, HRn.out, hg3⟩
        case measure => simp [intOf]; omega
      · have g1 : (p.1 != 0) = true := by simpa using hp
        have HRn := Lib.hid (show R = p by rw [HRk.out, if_pos hp])
        clear hp HRk
        go_wp2
        go_ret
        exact ⟨by rw [HRn.out]; rfl, by rw [HRn.out]; exact hc2, hg3⟩
    · obtain rfl : k = l.length := by omega
      rw [List.drop_length] at hR
      have HRn := Lib.hid (show R = (0, Lk) from hR)
      clear hR
      go_wp2
      go_ret
      exact ⟨by rw [HRn.out]; rfl, by rw [HRn.out]; exact hc, hg⟩
theorem chcopyA_c (g b : Nat) (L : List Ac) (w : World) (h : ChA w g b L) :
    Calls Tryz.prog 83 #[.pointer (some ⟨g, 0, none⟩)] w fun e w' => ∃ g' b', e = .returned (.pointer (some ⟨g', 0, none⟩)) ∧ ChA w' g' b' L ∧ w.heap.size ≤ g' ∧ w.heap.size ≤ b' ∧ Below w.heap.size w w' := by
  obtain ⟨M, h, hr⟩ := h
  exact (chcopy_c g b M w h).mono fun _ _ ⟨g', b', h1, h2, h3⟩ => ⟨g', b', h1, ⟨M, h2, hr⟩, h3⟩
set_option maxRecDepth 100000 in
set_option maxHeartbeats 4000000 in
theorem check_c (g b : Nat) (L : List Ac) (A : Option Addr) (c : Nat) (l : List Leg) (w : World) (h : ChA w g b L) (hL : OkA L) (hl : Sl w w.heap.size A c l) (hn : l.length ≤ 65536) (hr : ∀ x ∈ l, R64 x.sum) :
    Calls Tryz.prog 223 #[.pointer (some ⟨g, 0, none⟩), .slice A l.length c] w fun e w' => e = .returned (i64 (checkL L l)) ∧ Below w.heap.size w w' := by
  obtain ⟨R, hR⟩ : ∃ R, checkL L l = R := ⟨_, rfl⟩
  rw [hR]
  unfold checkL at hR
  have HR := Lib.hid hR.symm
  have hk1 := Lib.hid (vright_c A c l w hl hn)
  have hk2 := Lib.hid fun W (hb : Below w.heap.size w W) => weigh_c A c l W (hl.later hb) hn hr
  have H := Lib.hid h
  have Hl := Lib.hid hl
  have HL := Lib.hid hL
  have Hr := Lib.hid hr
  clear hR hL hr hl h
  go_enter Tryz.func223, Tryz.ntmps223
  go_wp2_with fail
  refine hk1.out.mono ?_
  rintro e w1 ⟨rfl, hb1⟩
  clear hk1
  cases hlb : legsB l with
  | false =>
    have HR1 := Lib.hid (show R = 1 by rw [HR.out, if_pos hlb])
    clear hlb
    go_wp2
    go_ret
    exact ⟨by rw [HR1.out]; rfl, hb1⟩
  | true =>
    have HR1 := Lib.hid (show R = (if weighB l = false then 8 else (allL L l).1) by rw [HR.out, if_neg (by rw [hlb]; decide)])
    clear hlb HR
    go_wp2_with fail
    refine (hk2.out _ hb1).mono ?_
    rintro e w2 ⟨rfl, hF⟩
    have hb2 := below_on hb1 (Nat.le_refl _) hF
    clear hF hk2 hb1
    cases hwb : weighB l with
    | false =>
      have HR2 := Lib.hid (show R = 8 by rw [HR1.out, if_pos hwb])
      clear hwb
      go_wp2
      go_ret
      exact ⟨by rw [HR2.out]; rfl, hb2⟩
    | true =>
      have HR2 := Lib.hid (show R = (allL L l).1 by rw [HR1.out, if_neg (by rw [hwb]; decide)])
      have hC := Lib.hid (chcopyA_c g b L w2 (H.out.later hb2))
      clear hwb HR1
      go_wp2_with fail
      refine hC.out.mono ?_
      rintro e w3 ⟨g', b', rfl, hc3, hg', hb', hF⟩
      have hb3 := below_on hb2 (Nat.le_refl _) hF
      have hA := Lib.hid (all_c g' b' L A c l w3 hc3 HL.out ((Hl.out.later hb2).keep (fun p hp => hF.cell hp) (fun k hk => ⟨Nat.lt_of_lt_of_le hk hF.size, by omega⟩)) hn Hr.out)
      have hlb' := hc3.lt
      have hsz := hb2.size
      generalize allL L l = p at *
      clear hF hC
      go_wp2_with fail
      refine hA.out.mono ?_
      rintro e w4 ⟨rfl, hc4, hg4⟩
      go_wp2
      go_ret
      exact ⟨by rw [HR2.out]; rfl, hb3.trans (below_of_grown hg4 hb3.size (fun k e => by injection e with e; omega))⟩
set_option maxRecDepth 100000 in
set_option maxHeartbeats 4000000 in
theorem make_c (g b : Nat) (L : List Ac) (A : Option Addr) (c : Nat) (l : List Leg) (w : World) (h : ChA w g b L) (hL : OkA L) (hl : SlS w (fun k => k < w.heap.size ∧ k ≠ b) A c l) (hn : l.length ≤ 65536) (hr : ∀ x ∈ l, R64 x.sum) :
    Calls Tryz.prog 190 #[.pointer (some ⟨g, 0, none⟩), .slice A l.length c] w fun e w' => e = .returned (i64 (makeL L l).1) ∧ ChA w' g b (makeL L l).2 ∧ w.grownBy w' (some b) := by
  obtain ⟨R, hR⟩ : ∃ R, makeL L l = R := ⟨_, rfl⟩
  rw [hR]
  unfold makeL at hR
  have HR := Lib.hid hR.symm
  have hk1 := Lib.hid (check_c g b L A c l w h hL (hl.mono fun _ h => h.1) hn hr)
  have H := Lib.hid h
  have Hl := Lib.hid hl
  have HL := Lib.hid hL
  have Hr := Lib.hid hr
  clear hR hL hr hl h
  generalize checkL L l = q at *
  go_enter Tryz.func190, Tryz.ntmps190
  go_wp2_with fail
  refine hk1.out.mono ?_
  rintro e w1 ⟨rfl, hb1⟩
  clear hk1
  by_cases hq : q = 0
  · have g1 : (q != 0) = false := by rw [hq]; rfl
    have HR1 := Lib.hid (show R = allL L l by rw [HR.out, if_neg (by simpa using hq)])
    have hA := Lib.hid (all_c g b L A c l w1 (H.out.later hb1) HL.out (Hl.out.keep (fun p hp => hb1.cell hp.1) (fun k hk => ⟨Nat.lt_of_lt_of_le hk.1 hb1.size, hk.2⟩)) hn Hr.out)
    generalize allL L l = p at *
    clear hq HR
    go_wp2_with fail
    refine hA.out.mono ?_
    rintro e w4 ⟨rfl, hc4, hg4⟩
    go_wp2
    go_ret
    exact ⟨by rw [HR1.out]; rfl, by rw [HR1.out]; exact hc4, grown_trans (grown_of_below hb1 _) hg4⟩
  · have g1 : (q != 0) = true := by simpa using hq
    have HR1 := Lib.hid (show R = (q, L) by rw [HR.out, if_pos hq])
    clear hq HR
    go_wp2
    go_ret
    exact ⟨by rw [HR1.out]; rfl, by rw [HR1.out]; exact H.out.later hb1, grown_of_below hb1 _⟩
end Go.Proofs.YtogipnfhcimeoaaGreat
