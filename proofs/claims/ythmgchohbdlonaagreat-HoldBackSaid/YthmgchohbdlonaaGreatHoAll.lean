/- hold.All -/
import Derived.Test.YthmgchohbdlonaaGreatRows
import Derived.Test.YthmgchohbdlonaaGreatHcmp
import Derived.Test.YthmgchohbdlonaaGreatCopyM
import Derived.Test.YthmgchohbdlonaaGreatRng
import Derived.Test.YthmgchohbdlonaaGreatShelf
import Derived.Test.YthmgchohbdlonaaGreatAppend
import Derived.WalkKit
import Derived.WalkSpells
import Derived.WalkLawsBesides
import Derived.Deep.QuietTactic
import Derived.BigQuiet
import Derived.Laws.StructEq
import Derived.Deep.DeepFit
import Derived.StillTailTactics
namespace Go.Proofs.YthmgchohbdlonaaGreat
open Go.RowKit
def gH (p : Hk × Int) : Held := ⟨p.1.num, p.1.acct, p.2⟩
abbrev RkH (M : List (Hk × Int)) (L : List Held) : Prop := RK ltH Held.key gH M L
/-- block g holds holds, whose map lies in block b: the holds L, in order -/
def HoA (w : World) (g b : Nat) (L : List Held) : Prop := ∃ M, HoIs w g b M ∧ RkH M L
theorem HoA.kept {w w' : World} {g b : Nat} {L : List Held} {S : Nat → Prop} (h : HoA w g b L) (hk : Gr w w' S) (h1 : ¬ S g) (h2 : ¬ S b) : HoA w' g b L := by
  obtain ⟨M, h, hr⟩ := h
  exact ⟨M, ⟨h.ne, (hk.block g h.lt.1 h1).trans h.cell, by
    have hlt := h.map.lt
    obtain ⟨es, clock, hb, r⟩ := h.map
    exact ⟨es, clock, (hk.block b hlt h2).trans hb, r⟩⟩, hr⟩
theorem HoA.later {w w' : World} {g b : Nat} {L : List Held} (h : HoA w g b L) (hb : Below w.heap.size w w') : HoA w' g b L := h.kept (Gr.of_below hb (fun _ => False)) id id
theorem HoA.lt {w : World} {g b : Nat} {L : List Held} (h : HoA w g b L) : g < w.heap.size ∧ b < w.heap.size ∧ b ≠ g := by
  obtain ⟨M, h, _⟩ := h
  exact ⟨h.lt.1, h.lt.2, h.ne⟩
theorem HoA.srt {w : World} {g b : Nat} {L : List Held} (h : HoA w g b L) : SrtL ltH L := by
  obtain ⟨M, _, h⟩ := h
  exact h.srt
/-- holds as they are kept -/
def OkH (L : List Held) : Prop := ∀ x ∈ L, 1 ≤ x.num ∧ x.num ≤ 9999 ∧ 1 ≤ x.sum ∧ x.sum ≤ 9223372036854775807 ∧ x.acct.size ≤ maxLen
theorem heldInfo : (Tryz.prog.info? 54).map (fun i => (i.zero, i.size, i.bytes)) = some (some (.agg #[i64 0, .string ByteArray.empty, i64 0]), Enc.size Held, 32) := by kernel_rfl
def entH (x : Held) : Hk × Value := (x.key, i64 x.sum)
theorem entH_gH (p : Hk × Int) : entH (gH p) = (p.1, i64 p.2) := rfl
theorem hv_eq (H : List (Hk × Int)) : hv H = (H.map gH).map entH := by
  unfold hv
  rw [List.map_map]
  rfl
theorem entH_inj {l m : List Held} (h : (l.map entH).Perm (m.map entH)) : l.Perm m := by
  have hb : ∀ x : Held, (fun p : Hk × Value => (⟨p.1.num, p.1.acct, intOf p.2⟩ : Held)) (entH x) = x := fun x => rfl
  have := h.map (fun p : Hk × Value => (⟨p.1.num, p.1.acct, intOf p.2⟩ : Held))
  rw [List.map_map, List.map_map] at this
  have e : ∀ l : List Held, l.map ((fun p : Hk × Value => (⟨p.1.num, p.1.acct, intOf p.2⟩ : Held)) ∘ entH) = l := fun l => by
    conv => rhs; rw [← List.map_id l]
    exact List.map_congr_left fun x _ => rfl
  rwa [e, e] at this
theorem perm_ent {M : List Held} {L : List (Hk × Value)} (h : L.Perm (M.map entH)) {p : Hk × Value} (hp : p ∈ L) : ∃ x ∈ M, p = entH x := by
  obtain ⟨x, hx, e⟩ := List.mem_map.1 (h.mem_iff.1 hp)
  exact ⟨x, hx, e.symm⟩
theorem hcmp_lt (x y : Held) : ltH x y = decide (orN (cmpS x.acct y.acct) (cmpN x.num y.num) < 0) := by
  unfold ltH orN cmpS cmpN
  cases h1 : bless x.acct y.acct with
  | true => simp
  | false =>
    cases h2 : bless y.acct x.acct with
    | true =>
      have hne : x.acct ≠ y.acct := fun e => by rw [e, bless_strict.irr] at h2; cases h2
      simp [hne]
    | false =>
      have he := bless_tri h1 h2
      by_cases h3 : x.num < y.num
      · simp [he, h3]
      · by_cases h4 : y.num < x.num
        · simp [he, h3, h4]
        · simp [he, h3, h4]
theorem keyH_tri {a b : Held} (h1 : ltH a b = false) (h2 : ltH b a = false) : a.key = b.key := by
  by_cases e : a.key = b.key
  · exact e
  · rcases keyH.co a b e with h | h
    · rw [h] at h1; cases h1
    · rw [h] at h2; cases h2
set_option maxRecDepth 100000 in
set_option maxHeartbeats 8000000 in
theorem hoall_c (g b : Nat) (L : List Held) (w : World) (h : HoA w g b L) (hok : OkH L) (hn : L.length ≤ 65536) :
    Calls Tryz.prog 13 #[.pointer (some ⟨g, 0, none⟩)] w fun e w' => ∃ v, e = .returned v ∧ Own w' w.heap.size 54 v L ∧ Below w.heap.size w w' := by
  obtain ⟨M, h, hr⟩ := h
  have hlg := h.lt.1
  have Hr := Lib.hid hr
  have Hok := Lib.hid hok
  have c0 := cell_of_row _ g 0 _ _ (0, 0) h.cell
  simp only [List.getElem?_toArray, List.getElem?_cons_zero] at c0
  have hm := h.map
  rw [hv_eq] at hm
  have Hmap := Lib.hid hm
  have hlb := h.lt.2
  have hpm := Lib.hid (show ((M.map gH).map entH).Perm (L.map entH) from hr.perm.map _)
  generalize M.map gH = M1 at *
  clear h hm hr hok
  go_enter Tryz.func13, Tryz.ntmps13
  go_wp2_with (at_range; refine wpList_rng rfl (.tmp 11) 64 rfl Tryz.underlying64 rfl Hmap.out ?_; intro w0 hrg hb0 hs0)
  go_frame
  go_loopw [3] (fun v wr => ∃ (acc : List Held) (Lf : List (Hk × Value)), RngIs Hk.v wr b w.heap.size (M1.map entH) Lf ∧ Own wr (w.heap.size + 1) 54 v acc ∧ (acc.map entH ++ Lf).Perm (L.map entH) ∧ Below w.heap.size w wr) (fun _ wr => wr.rangeLeft b w.heap.size)
  case atStart => exact ⟨[], M1.map entH, hrg, Own.nil_ _ _ _, by simpa using hpm.out, hb0⟩
  case round =>
    obtain ⟨acc, Lf, hrg, hO, hp, hB⟩ := hrel
    have hlen := hrg.len
    have HlL := Lib.hid hpm.out.length_eq
    go_wp2_with (at_next; refine wpList_rng_next rfl (.tmp 12) rfl rfl hrg ?_ ?_)
    · intro hL0
      subst hL0
      rw [List.append_nil] at hp
      have hpL := entH_inj hp
      have HpL := Lib.hid hpL
      have hsz : acc.length ≤ 1000000 := by rw [hpL.length_eq]; omega
      have hcmp := fun (x y : Held) (W : World) => hcmp_c x y W
      have hC := sortF_own (α := Held) Tryz.sortHd Tryz.isAgg54 (show ∀ w : World, (sizeOf 54).run Tryz.prog w = .ok (Enc.size Held) w from Tryz.sizeOf54) (fun x y => orN (cmpS x.acct y.acct) (cmpN x.num y.num)) ltH hcmp_lt keyH.strict 34 #[] (enters_of Tryz.func34 (by kernel_rfl) rfl) hcmp _ 54 _ acc wr hO hsz
      change Calls Tryz.prog 33 _ _ _ at hC
      have HC := Lib.hid hC
      have HO := Lib.hid hO
      clear hC hcmp hO hrg hp hlen hpL hsz
      go_wp2_with fail
      refine HC.out.mono ?_
      rintro e w2 ⟨rfl, l', hp', hs', hO', hg'⟩
      have hfin := Lib.hid (show l' = L from sorted_unique (hp'.trans HpL.out) hs' (Hr.out.srt.sorted keyH.strict) fun a ha b hb e1 e2 => by
        rcases keyH_tri e1 e2 with e
        exact Hr.out.srt.one keyH ((hp'.trans HpL.out).mem_iff.1 ha) ((hp'.trans HpL.out).mem_iff.1 hb) e)
      have hB2 := hB.trans (HO.out.below hg' (Nat.le_succ _) hB.size)
      clear hp' hs' HC HO hg'
      go_wp2
      go_ret
      exact ⟨_, rfl, by rw [← hfin.out]; exact hO'.mono (Nat.le_succ _), hB2⟩
    · intro key val L' w1 hpp hrg1 hg1 hsz1 hen
      obtain ⟨x, hx, hxe⟩ := perm_ent (L := acc.map entH ++ Lf) hp (List.mem_append_right _ (hpp.mem_iff.2 (List.mem_cons_self ..)))
      unfold entH at hxe
      injection hxe with e1 e2
      subst e1 e2
      have Hx := Lib.hid (show (acc.map entH ++ [entH x] ++ L').Perm (L.map entH) from (List.Perm.trans (by rw [List.append_assoc]; exact List.Perm.append_left _ hpp.symm) hp))
      have hsx := Lib.hid (Hok.out x hx).2.2.2.2
      have hO1 := hO.grown hg1 (by
        cases hv : Value.ownBlock _ with
        | none => exact .inl rfl
        | some j =>
          right
          intro e
          injection e with e
          have := (hO.1.lt j hv).1
          omega) (fun y hy => hO.2 y hy)
      have hB1 := hB.trans (below_of_grown hg1 hB.size (fun j e => by injection e with e; omega))
      simp only [Held.key, Hk.v] at hen
      have hlen1 := hrg1.len
      have HP := Lib.hid hpp.length_eq
      have Hlen := Lib.hid hlen
      clear hp hpp hx hO hg1 hB hrg hlen
      have HO2 := Lib.hid ((hO1.later ((Below.refl _ _).alloc (Nat.le_refl _) (.cells #[.string x.acct, i64 x.num] 73))).later ((Below.refl _ _).alloc (Nat.le_refl _) (.cells #[i64 x.num, .string x.acct, i64 x.sum] 54)))
      have Hne := Lib.hid (hO1.new_ne (Nat.le_succ w1.heap.size))
      have HH := Lib.hid (heap_alloc2_new w1 (.cells #[.string x.acct, i64 x.num] 73) (.cells #[i64 x.num, .string x.acct, i64 x.sum] 54))
      have hB2 := (hB1.alloc hB1.size (.cells #[.string x.acct, i64 x.num] 73)).alloc (by have := hB1.size; simp; omega) (.cells #[i64 x.num, .string x.acct, i64 x.sum] 54)
      have hrg2 := (hrg1.later ((Below.refl _ _).alloc (Nat.le_refl _) (.cells #[.string x.acct, i64 x.num] 73))).later ((Below.refl _ _).alloc (Nat.le_refl _) (.cells #[i64 x.num, .string x.acct, i64 x.sum] 54))
      have HRG := Lib.hid hrg2
      have Hal := Lib.hid (show acc.length + 1 ≤ 65536 from by
        have h1 := Hx.out.length_eq
        simp only [List.length_append, List.length_map, List.length_singleton] at h1
        omega)
      have hsB := hB1.size
      have hg1 : w.heap.size + 1 ≤ w1.heap.size := by have := hrg1.lt.2; omega
      have Hg1 := Lib.hid hg1
      unfold Held.key
      clear hO1 hB1 hrg1 hlen1 hrg2 hg1 hsz1
      go_wp2_with (at_builtin; refine wpList_append_one rfl (some 26) (.tmp 18) (.tmp 25) 41 rfl rfl (.agg #[i64 0, .string ByteArray.empty, i64 0]) 32 Tryz.underlying41 heldInfo rfl (by decide) (by decide) rfl HO2.out (w1.heap.size + 1) x rfl _ 54 HH.out rfl Hne.out hsx.out (by have := Hal.out; omega) (by have := Hg1.out; simp; omega) ?_; intro v3 w3 hO3 hg3 hat3)
      have hrg3 := HRG.out.kept hg3 (by
        intro e
        have := (HO2.out.1.lt b e.symm).1
        omega) (by
        intro e
        have := (HO2.out.1.lt _ e.symm).1
        omega)
      have hB3 := hB2.trans (HO2.out.below hg3 (Nat.le_succ _) hB2.size)
      clear hg3 hat3 HO2 hB2
      go_roundw
      case rel => exact ⟨acc ++ [x], L', hrg3, hO3, by rw [List.map_append]; exact Hx.out, hB3⟩
      case measure =>
        rw [hrg3.len, Hlen.out, HP.out]
        simp
end Go.Proofs.YthmgchohbdlonaaGreat
