/- Texts of this claim, laid together. -/
import Derived.Test.YtampniiehgimhaaGreatBs4
import Derived.Test.YtampniiehgimhaaGreatRows
import Derived.WalkKit
import Derived.WalkSpells
import Derived.WalkLawsBesides
import Derived.Deep.QuietTactic
import Derived.BigQuiet
import Derived.Laws.StructEq
import Derived.Deep.DeepFit
import Derived.StillTailTactics
import Derived.Test.YtampniiehgimhaaGreatBs3
import Derived.Test.YtampniiehgimhaaGreatShelf
import Derived.Test.YtampniiehgimhaaGreatBs1
import Derived.Test.YtampniiehgimhaaGreatShelfS
import Derived.Test.YtampniiehgimhaaGreatBs2
import Derived.Shelf.Spec.BitsCarry

/- Steps of a drawn region in one word. No program. -/
namespace Go.Proofs.YtampniiehgimhaaGreat
open Go.RowKit
section
variable {P : Program} {ops : Array Oper} {Q : Exit → Act → World → Prop} {md : Region.Mode} {S : World → Prop} {d : Nat}
/-- an operation that is wanted, its value found by the walk itself -/
theorem tkZ (i : Nat) {k : Nat} {oi : Oper} {v : Value} {fuel : Nat} {listed : Array Bool} {l l' : List Value} {df : List Deferred} {w : World}
  (h : wpAnyC P md ops Q S d fuel (listed.setIfInBounds i true) ⟨l'.toArray, df⟩ w) (hi : ops[i]? = some oi := by rfl) (hk : oi.dst = some k := by rfl)
  (hv : ∀ W, S W → (execOp (Act.mk l.toArray df).eval oi).run P W = .ok (.value v) W := by intro W hW; go_simp; try with_reducible rfl) (hl : l.set k v = l' := by simp only [List.set]; exact rfl) (hd : waits md ops d i = true := by kernel_rfl)
  (hs : Region.noSelect ops = true := by kernel_rfl) (hf : Region.free md ops listed i = true := by kernel_rfl) (hr : (Region.ready md ops listed).contains i = true := by kernel_rfl)
  (hQ : ∀ c a w, Q (.panic c) (a.put oi.dst v) w → Q (.panic c) a w := by exact fun _ _ _ h => h) (hw : Region.wanted oi (yielded ops l.toArray) = true := by kernel_rfl) (hS : S w := by assumption) :
  wpAnyC P md ops Q S d (fuel + 1) listed ⟨l.toArray, df⟩ w := tkY i hv (hl ▸ h) hi hk hd hs hf hr hQ hw hS
/-- an operation that is not wanted -/
theorem tkM (i : Nat) {k : Nat} {oi : Oper} {fuel : Nat} {listed : Array Bool} {l l' : List Value} {df : List Deferred} {w : World}
  (h : wpAnyC P md ops Q S d fuel (listed.setIfInBounds i true) ⟨l'.toArray, df⟩ w) (hi : ops[i]? = some oi := by rfl) (hk : oi.dst = some k := by rfl) (hl : l.set k undef = l' := by simp only [List.set]; exact rfl) (hd : waits md ops d i = true := by kernel_rfl)
  (hs : Region.noSelect ops = true := by kernel_rfl) (hf : Region.free md ops listed i = true := by kernel_rfl) (hr : (Region.ready md ops listed).contains i = true := by kernel_rfl)
  (hQ : ∀ c a w, Q (.panic c) (a.put oi.dst undef) w → Q (.panic c) a w := by exact fun _ _ _ h => h) (hw : Region.wanted oi (yielded ops l.toArray) = false := by kernel_rfl) (hS : S w := by assumption) :
  wpAnyC P md ops Q S d (fuel + 1) listed ⟨l.toArray, df⟩ w := tkN i (hl ▸ h) hi hk hd hs hf hr hQ hw hS
/-- one operation alone may come up; the last one; none is left -/
theorem tkO (i : Nat) {o : Oper} {fuel : Nat} {listed : Array Bool} {a : Act} {w : World}
  (h : ∀ K' : Act → World → Prop, Shut (∀ a w, S w → (S w → wpAnyC P md ops Q S d fuel (listed.setIfInBounds i true) a w) → K' a w) → if Region.wanted o (yielded ops a.tmps) = true then Oper.wp P o a w K' Q else K' (a.put o.dst undef) w)
  (hr : Region.ready md ops listed = [i] := by kernel_rfl) (ho : ops[i]? = some o := by rfl) (hid : i ≠ d := by decide) : wpAnyC P md ops Q S d (fuel + 1) listed a w := wpAnyL_one hr ho hid h
theorem tkL {o : Oper} {fuel : Nat} {listed : Array Bool} {a : Act} {w : World}
  (h : ∀ K' : Act → World → Prop, Shut (∀ a w, wpAnyC P md ops Q S d fuel (listed.setIfInBounds d true) a w → K' a w) → if Region.wanted o (yielded ops a.tmps) = true then Oper.wp P o a w K' Q else K' (a.put o.dst undef) w)
  (hr : Region.ready md ops listed = [d] := by kernel_rfl) (ho : ops[d]? = some o := by rfl) : wpAnyC P md ops Q S d (fuel + 1) listed a w := wpAnyL_last hr ho h
theorem tkD {Q' : Exit → Act → World → Prop} {fuel : Nat} {listed : Array Bool} {a : Act} {w : World} (h : Q' .normal a w) (hr : Region.ready md ops listed = [] := by kernel_rfl) : wpAnyC P md ops (NoPanic Q') S d fuel listed a w := wpAnyL_done hr (NoPanic.normal h) _
end
theorem uA {α : Type} {l : List α} {i : Nat} (h : i < l.toArray.size) : l.toArray[i] = l[i]'(by simpa using h) := List.getElem_toArray h
theorem uZ {α : Type} (a : α) (l : List α) (h : 0 < (a :: l).length) : (a :: l)[0] = a := rfl
theorem uS {α : Type} (a : α) (l : List α) (i : Nat) (h : i + 1 < (a :: l).length) : (a :: l)[i + 1] = l[i]'(Nat.lt_of_succ_lt_succ h) := rfl
theorem vA {α : Type} (l : List α) (i : Nat) (a : α) : l.toArray.setIfInBounds i a = (l.set i a).toArray := List.setIfInBounds_toArray ..
theorem vZ {α : Type} (a b : α) (l : List α) : (a :: l).set 0 b = b :: l := rfl
theorem vS {α : Type} (a b : α) (l : List α) (i : Nat) : (a :: l).set (i + 1) b = a :: l.set i b := rfl
end Go.Proofs.YtampniiehgimhaaGreat
/- hold.All: the order of the sort -/
namespace Go.Proofs.YtampniiehgimhaaGreat
open Go.RowKit
open Go.Sort in
set_option maxRecDepth 100000 in
set_option maxHeartbeats 800000 in
theorem hcmp_c (x y : Held) (w : World) :
  Calls Tryz.prog 138 #[x.v, y.v] w fun e w' => e = .returned (i64 (orN (cmpS x.acct y.acct) (cmpN x.num y.num))) ∧ ∃ q os, w' = grow (w.drewN q) os := by
 have k1 := fun W => cmpS_c x.acct y.acct W
 have k2 := fun W => cmpN_c x.num y.num W
 have k3 := fun g W h0 h1 => or2_c (cmpS x.acct y.acct) (cmpN x.num y.num) g W h0 h1
 have hg1 := heap_alloc2_old w (.cells #[i64 x.num, .string x.acct, i64 x.sum] 145) (.cells #[i64 y.num, .string y.acct, i64 y.sum] 145)
 have hg2 := heap_alloc2_new w (.cells #[i64 x.num, .string x.acct, i64 x.sum] 145) (.cells #[i64 y.num, .string y.acct, i64 y.sum] 145)
 have hend : ∀ o1 o2 o3 : Obj, ∃ q os, (((w.alloc o1).alloc o2).drew.alloc o3) = grow (w.drewN q) os := fun o1 o2 o3 => ⟨1, #[o1, o2, o3], by
  simp only [alloc_eq_grow, drew_grow, grow_grow]; rfl⟩
 have Hend := Lib.hid hend
 generalize cmpS x.acct y.acct = p at *
 generalize cmpN x.num y.num = q at *
 have K1 := Lib.hid k1
 have K2 := Lib.hid k2
 have K3 := Lib.hid k3
 have n1 := cell_of_row _ w.heap.size 0 _ _ (0, 0) hg1
 have n2 := cell_of_row _ w.heap.size 1 _ _ (0, 0) hg1
 have m1 := cell_of_row _ (w.heap.size + 1) 0 _ _ (0, 0) hg2
 have m2 := cell_of_row _ (w.heap.size + 1) 1 _ _ (0, 0) hg2
 simp only [List.getElem?_toArray, List.getElem?_cons_zero, List.getElem?_cons_succ] at n1 n2 m1 m2
 clear hg1 hg2 k1 k2 k3 hend
 go_enter Tryz.func138, Tryz.ntmps138
 go_wp2_with fail
 have hS : ∀ o, (fun V => V.cell? ⟨w.heap.size, 0, none⟩ = some (i64 x.num) ∧ V.cell? ⟨w.heap.size, 1, none⟩ = some (.string x.acct) ∧ V.cell? ⟨w.heap.size + 1, 0, none⟩ = some (i64 y.num) ∧ V.cell? ⟨w.heap.size + 1, 1, none⟩ = some (.string y.acct)) ((((w.alloc (.cells #[i64 x.num, .string x.acct, i64 x.sum] 145)).alloc (.cells #[i64 y.num, .string y.acct, i64 y.sum] 145)).drew).alloc o) := fun o => ⟨(World.cell?_alloc_lt _ _ _ (by simp; omega)).trans n1, (World.cell?_alloc_lt _ _ _ (by simp; omega)).trans n2, (World.cell?_alloc_lt _ _ _ (by simp)).trans m1, (World.cell?_alloc_lt _ _ _ (by simp)).trans m2⟩
 have HS := Lib.hid hS
 clear hS
 refine wp_region_noPanic ?_
 refine wp_region_l 12 (fun V => V.cell? ⟨w.heap.size, 0, none⟩ = some (i64 x.num) ∧ V.cell? ⟨w.heap.size, 1, none⟩ = some (.string x.acct) ∧ V.cell? ⟨w.heap.size + 1, 0, none⟩ = some (i64 y.num) ∧ V.cell? ⟨w.heap.size + 1, 1, none⟩ = some (.string y.acct)) (by kernel_rfl) (⟨n1, n2, m1, m2⟩) (fun hH => ?_)
 refine tkZ 0 ?_; refine tkZ 1 ?_; refine tkZ 2 ?_; refine tkZ 3 ?_; refine tkZ 5 ?_; refine tkZ 6 ?_; refine tkZ 7 ?_; refine tkZ 8 ?_
 refine tkO 4 (fun K hK => ?_)
 go_simp
 with_reducible refine (K1.out _).mono ?_
 rintro e u1 ⟨rfl, rfl⟩
 refine hK.out _ _ (hH) (fun hH => ?_)
 clear hK K
 try simp only [Act.put, uA, uZ, uS, vA, vZ, vS]
 refine tkO 9 (fun K hK => ?_)
 go_simp
 with_reducible refine (K2.out _).mono ?_
 rintro e u1 ⟨rfl, rfl⟩
 refine hK.out _ _ (hH) (fun hH => ?_)
 clear hK K
 try simp only [Act.put, uA, uZ, uS, vA, vZ, vS]
 refine tkO 10 (fun K hK => ?_)
 go_simp
 refine hK.out _ _ (HS.out _) (fun hH => ?_)
 clear hK K
 try simp only [Act.put, uA, uZ, uS, vA, vZ, vS]
 refine tkO 11 (fun K hK => ?_)
 go_simp
 with_reducible refine (K3.out _ _ ?c0 ?c1).mono ?_
 case c0 => go_simp
 case c1 => go_simp
 rintro e u1 ⟨rfl, rfl⟩
 refine hK.out _ _ (hH) (fun hH => ?_)
 clear hK K
 try simp only [Act.put, uA, uZ, uS, vA, vZ, vS]
 refine tkL (fun K hK => ?_)
 go_simp
 refine hK.out _ _ ?_
 clear hK K
 try simp only [Act.put, uA, uZ, uS, vA, vZ, vS]
 refine tkD ?_
 go_wp2
 go_ret
 exact ⟨rfl, Hend.out _ _ _⟩
end Go.Proofs.YtampniiehgimhaaGreat
/- hold.All -/
namespace Go.Proofs.YtampniiehgimhaaGreat
open Go.RowKit
def gH (p : Hk × Int) : Held := ⟨p.1.num, p.1.acct, p.2⟩
abbrev RkH (M : List (Hk × Int)) (L : List Held) : Prop := RK ltH Held.key gH M L
/-- block g holds holds, whose map lies in block b: the holds L, in order -/
def HoA (w : World) (g b : Nat) (L : List Held) : Prop := ∃ M, HoIs w g b M ∧ RkH M L
theorem HoA.kept {w w' : World} {g b : Nat} {L : List Held} {S : Nat → Prop} (h : HoA w g b L) (hk : Gr w w' S) (h1 : ¬ S g) (h2 : ¬ S b) : HoA w' g b L := by
 obtain ⟨M, h, hr⟩ := h
 exact ⟨M, ⟨h.ne, (hk.block g h.lt.1 h1).trans h.cell, by
  have hlt := h.map.lt
  obtain ⟨es, clock, hb, r⟩ := h.map
  exact ⟨es, clock, (hk.block b hlt h2).trans hb, r⟩⟩, hr⟩
theorem HoA.later {w w' : World} {g b : Nat} {L : List Held} (h : HoA w g b L) (hb : Below w.heap.size w w') : HoA w' g b L := h.kept (Gr.of_below hb (fun _ => False)) id id
theorem HoA.lt {w : World} {g b : Nat} {L : List Held} (h : HoA w g b L) : g < w.heap.size ∧ b < w.heap.size ∧ b ≠ g := by
 obtain ⟨M, h, _⟩ := h
 exact ⟨h.lt.1, h.lt.2, h.ne⟩
theorem HoA.srt {w : World} {g b : Nat} {L : List Held} (h : HoA w g b L) : SrtL ltH L := by
 obtain ⟨M, _, h⟩ := h
 exact h.srt
/-- holds as they are kept -/
def OkH (L : List Held) : Prop := ∀ x ∈ L, 1 ≤ x.num ∧ x.num ≤ 9999 ∧ 1 ≤ x.sum ∧ x.sum ≤ 9223372036854775807 ∧ x.acct.size ≤ maxLen
theorem heldInfo : (Tryz.prog.info? 145).map (fun i => (i.zero, i.size, i.bytes)) = some (some (.agg #[i64 0, .string ByteArray.empty, i64 0]), Enc.size Held, 32) := by kernel_rfl
def entH (x : Held) : Hk × Value := (x.key, i64 x.sum)
theorem hv_eq (H : List (Hk × Int)) : hv H = (H.map gH).map entH := by
 unfold hv
 rw [List.map_map]
 rfl
theorem entH_inj {l m : List Held} (h : (l.map entH).Perm (m.map entH)) : l.Perm m := by
 have hb : ∀ x : Held, (fun p : Hk × Value => (⟨p.1.num, p.1.acct, intOf p.2⟩ : Held)) (entH x) = x := fun x => rfl
 have := h.map (fun p : Hk × Value => (⟨p.1.num, p.1.acct, intOf p.2⟩ : Held))
 rw [List.map_map, List.map_map] at this
 have e : ∀ l : List Held, l.map ((fun p : Hk × Value => (⟨p.1.num, p.1.acct, intOf p.2⟩ : Held)) ∘ entH) = l := fun l => by
  conv => rhs; rw [← List.map_id l]
  exact List.map_congr_left fun x _ => rfl
 rwa [e, e] at this
theorem perm_ent {M : List Held} {L : List (Hk × Value)} (h : L.Perm (M.map entH)) {p : Hk × Value} (hp : p ∈ L) : ∃ x ∈ M, p = entH x := by
 obtain ⟨x, hx, e⟩ := List.mem_map.1 (h.mem_iff.1 hp)
 exact ⟨x, hx, e.symm⟩
theorem hcmp_lt (x y : Held) : ltH x y = decide (orN (cmpS x.acct y.acct) (cmpN x.num y.num) < 0) := by
 unfold ltH orN cmpS cmpN
 cases h1 : bless x.acct y.acct with
 | true => simp
 | false =>
  cases h2 : bless y.acct x.acct with
  | true =>
   have hne : x.acct ≠ y.acct := fun e => by rw [e, bless_strict.irr] at h2; cases h2
   simp [hne]
  | false =>
   have he := bless_tri h1 h2
   by_cases h3 : x.num < y.num
   ·simp [he, h3]
   ·by_cases h4 : y.num < x.num
    ·simp [he, h3, h4]
    ·simp [he, h3, h4]
theorem keyH_tri {a b : Held} (h1 : ltH a b = false) (h2 : ltH b a = false) : a.key = b.key := by
 by_cases e : a.key = b.key
 ·exact e
 ·rcases keyH.co a b e with h | h
  ·rw [h] at h1; cases h1
  ·rw [h] at h2; cases h2
set_option maxRecDepth 100000 in
set_option maxHeartbeats 8000000 in
theorem hoall_c (g b : Nat) (L : List Held) (w : World) (h : HoA w g b L) (hok : OkH L) (hn : L.length ≤ 65536) :
  Calls Tryz.prog 99 #[.pointer (some ⟨g, 0, none⟩)] w fun e w' => ∃ v, e = .returned v ∧ Own w' w.heap.size 145 v L ∧ Below w.heap.size w w' := by
 obtain ⟨M, h, hr⟩ := h
 have hlg := h.lt.1
 have Hr := Lib.hid hr
 have Hok := Lib.hid hok
 have c0 := cell_of_row _ g 0 _ _ (0, 0) h.cell
 simp only [List.getElem?_toArray, List.getElem?_cons_zero] at c0
 have hm := h.map
 rw [hv_eq] at hm
 have Hmap := Lib.hid hm
 have hlb := h.lt.2
 have hpm := Lib.hid (show ((M.map gH).map entH).Perm (L.map entH) from hr.perm.map _)
 generalize M.map gH = M1 at *
 clear h hm hr hok
 go_enter Tryz.func99, Tryz.ntmps99
 go_wp2_with (at_range; refine wpList_rng rfl (.tmp 11) 192 rfl Tryz.underlying192 rfl Hmap.out ?_; intro w0 hrg hb0 hs0)
 go_frame
 go_loopw [3] (fun v wr => ∃ (acc : List Held) (Lf : List (Hk × Value)), RngIs Hk.v wr b w.heap.size (M1.map entH) Lf ∧ Own wr (w.heap.size + 1) 145 v acc ∧ (acc.map entH ++ Lf).Perm (L.map entH) ∧ Below w.heap.size w wr) (fun _ wr => wr.rangeLeft b w.heap.size)
 case atStart => exact ⟨[], M1.map entH, hrg, Own.nil_ _ _ _, by simpa using hpm.out, hb0⟩
 case round =>
  obtain ⟨acc, Lf, hrg, hO, hp, hB⟩ := hrel
  have hlen := hrg.len
  have HlL := Lib.hid hpm.out.length_eq
  go_wp2_with (at_next; refine wpList_rng_next rfl (.tmp 12) rfl rfl hrg ?_ ?_)
  ·intro hL0
   subst hL0
   rw [List.append_nil] at hp
   have hpL := entH_inj hp
   have HpL := Lib.hid hpL
   have hsz : acc.length ≤ 1000000 := by rw [hpL.length_eq]; omega
   have hcmp := fun (x y : Held) (W : World) => hcmp_c x y W
   have hC := sortF_own (α := Held) Tryz.sortHd Tryz.isAgg145 (show ∀ w : World, (sizeOf 145).run Tryz.prog w = .ok (Enc.size Held) w from Tryz.sizeOf145) (fun x y => orN (cmpS x.acct y.acct) (cmpN x.num y.num)) ltH hcmp_lt keyH.strict 138 #[] (enters_of Tryz.func138 (by kernel_rfl) rfl) hcmp _ 145 _ acc wr hO hsz
   change Calls Tryz.prog 137 _ _ _ at hC
   have HC := Lib.hid hC
   have HO := Lib.hid hO
   clear hC hcmp hO hrg hp hlen hpL hsz
   go_wp2_with fail
   refine HC.out.mono ?_
   rintro e w2 ⟨rfl, l', hp', hs', hO', hg'⟩
   have hfin := Lib.hid (show l' = L from sorted_unique (hp'.trans HpL.out) hs' (Hr.out.srt.sorted keyH.strict) fun a ha b hb e1 e2 => by
    rcases keyH_tri e1 e2 with e
    exact Hr.out.srt.one keyH ((hp'.trans HpL.out).mem_iff.1 ha) ((hp'.trans HpL.out).mem_iff.1 hb) e)
   have hB2 := hB.trans (HO.out.below hg' (Nat.le_succ _) hB.size)
   clear hp' hs' HC HO hg'
   go_wp2
   go_ret
   exact ⟨_, rfl, by rw [← hfin.out]; exact hO'.mono (Nat.le_succ _), hB2⟩
  ·intro key val L' w1 hpp hrg1 hg1 hsz1 hen
   obtain ⟨x, hx, hxe⟩ := perm_ent (L := acc.map entH ++ Lf) hp (List.mem_append_right _ (hpp.mem_iff.2 (List.mem_cons_self ..)))
   unfold entH at hxe
   injection hxe with e1 e2
   subst e1 e2
   have Hx := Lib.hid (show (acc.map entH ++ [entH x] ++ L').Perm (L.map entH) from (List.Perm.trans (by rw [List.append_assoc]; exact List.Perm.append_left _ hpp.symm) hp))
   have hsx := Lib.hid (Hok.out x hx).2.2.2.2
   have hO1 := hO.grown hg1 (by
    cases hv : Value.ownBlock _ with
    | none => exact .inl rfl
    | some j =>
     right
     intro e
     injection e with e
     have := (hO.1.lt j hv).1
     omega) (fun y hy => hO.2 y hy)
   have hB1 := hB.trans (below_of_grown hg1 hB.size (fun j e => by injection e with e; omega))
   simp only [Held.key, Hk.v] at hen
   have hlen1 := hrg1.len
   have HP := Lib.hid hpp.length_eq
   have Hlen := Lib.hid hlen
   clear hp hpp hx hO hg1 hB hrg hlen
   have HO2 := Lib.hid ((hO1.later ((Below.refl _ _).alloc (Nat.le_refl _) (.cells #[.string x.acct, i64 x.num] 227))).later ((Below.refl _ _).alloc (Nat.le_refl _) (.cells #[i64 x.num, .string x.acct, i64 x.sum] 145)))
   have Hne := Lib.hid (hO1.new_ne (Nat.le_succ w1.heap.size))
   have HH := Lib.hid (heap_alloc2_new w1 (.cells #[.string x.acct, i64 x.num] 227) (.cells #[i64 x.num, .string x.acct, i64 x.sum] 145))
   have hB2 := (hB1.alloc hB1.size (.cells #[.string x.acct, i64 x.num] 227)).alloc (by have := hB1.size; simp; omega) (.cells #[i64 x.num, .string x.acct, i64 x.sum] 145)
   have hrg2 := (hrg1.later ((Below.refl _ _).alloc (Nat.le_refl _) (.cells #[.string x.acct, i64 x.num] 227))).later ((Below.refl _ _).alloc (Nat.le_refl _) (.cells #[i64 x.num, .string x.acct, i64 x.sum] 145))
   have HRG := Lib.hid hrg2
   have Hal := Lib.hid (show acc.length + 1 ≤ 65536 from by
    have h1 := Hx.out.length_eq
    simp only [List.length_append, List.length_map, List.length_singleton] at h1
    omega)
   have hsB := hB1.size
   have hg1 : w.heap.size + 1 ≤ w1.heap.size := by have := hrg1.lt.2; omega
   have Hg1 := Lib.hid hg1
   unfold Held.key
   clear hO1 hB1 hrg1 hlen1 hrg2 hg1 hsz1
   go_wp2_with (at_builtin; refine wpList_append_one rfl (some 26) (.tmp 18) (.tmp 25) 111 rfl rfl (.agg #[i64 0, .string ByteArray.empty, i64 0]) 32 Tryz.underlying111 heldInfo rfl (by decide) (by decide) rfl HO2.out (w1.heap.size + 1) x rfl _ 145 HH.out rfl Hne.out hsx.out (by have := Hal.out; omega) (by have := Hg1.out; simp; omega) ?_; intro v3 w3 hO3 hg3 hat3)
   have hrg3 := HRG.out.kept hg3 (by
    intro e
    have := (HO2.out.1.lt b e.symm).1
    omega) (by
    intro e
    have := (HO2.out.1.lt _ e.symm).1
    omega)
   have hB3 := hB2.trans (HO2.out.below hg3 (Nat.le_succ _) hB2.size)
   clear hg3 hat3 HO2 hB2
   go_roundw
   case rel => exact ⟨acc ++ [x], L', hrg3, hO3, by rw [List.map_append]; exact Hx.out, hB3⟩
   case measure =>
    rw [hrg3.len, Hlen.out, HP.out]
    simp
end Go.Proofs.YtampniiehgimhaaGreat
/- hold.Of -/
namespace Go.Proofs.YtampniiehgimhaaGreat
open Go.RowKit
set_option maxRecDepth 100000 in
set_option maxHeartbeats 2000000 in
theorem of1_c (x : Held) (s : ByteArray) (q : Nat) (w : World) (hq : w.cell? ⟨q, 0, none⟩ = some (.string s)) :
  Calls Tryz.prog 217 #[x.v, .pointer (some ⟨q, 0, none⟩)] w fun e w' => e = .returned (.bool (!decide (x.acct = s))) ∧ Below w.heap.size w w' := by
 have hb0 := (Below.refl w.heap.size w).alloc (Nat.le_refl _) (.cells #[i64 x.num, .string x.acct, i64 x.sum] 145)
 have hlq := World.block_lt_of_cell? _ _ hq
 have hne : q ≠ w.heap.size := Nat.ne_of_lt hlq
 by_cases he : x.acct = s
 ·have e1 := beqS_of_eq he
  rw [decide_eq_true he]
  clear he
  go_enter Tryz.func217, Tryz.ntmps217
  go_wp2
  go_ret
  exact ⟨rfl, hb0⟩
 ·have e1 := beqS_of_ne he
  rw [decide_eq_false he]
  clear he
  go_enter Tryz.func217, Tryz.ntmps217
  go_wp2
  go_ret
  exact ⟨rfl, hb0⟩
def ofL (L : List Held) (s : ByteArray) : List Held := L.filter fun x => decide (x.acct = s)
set_option maxRecDepth 100000 in
set_option maxHeartbeats 4000000 in
theorem hoof_c (g b : Nat) (L : List Held) (s : ByteArray) (w : World) (h : HoA w g b L) (hok : OkH L) (hn : L.length ≤ 65536) :
  Calls Tryz.prog 190 #[.pointer (some ⟨g, 0, none⟩), .string s] w fun e w' => ∃ v, e = .returned v ∧ Own w' w.heap.size 145 v (ofL L s) ∧ Below w.heap.size w w' := by
 have hb0 := (Below.refl w.heap.size w).alloc (Nat.le_refl _) (.cells #[.string s] 9)
 have hA := Lib.hid (hoall_c g b L _ (h.later hb0) hok hn)
 have hc := heap_alloc_new w (.cells #[.string s] 9)
 have HL := Lib.hid (show (L.filter fun x => !!decide (x.acct = s)) = ofL L s by unfold ofL; congr 1; funext x; simp)
 have Hn := Lib.hid hn
 clear h hok hn
 go_enter Tryz.func190, Tryz.ntmps190
 go_wp2_with fail
 generalize w.alloc (.cells #[.string s] 9) = w0 at *
 refine hA.out.mono ?_
 rintro e w1 ⟨v, rfl, hO, hF⟩
 have hc1 := (hF.block _ (Array.getElem?_eq_some_iff.1 hc).1).trans hc
 have hb1 := below_on hb0 (Nat.le_refl _) hF
 have hlt := (Array.getElem?_eq_some_iff.1 hc).1
 have HD := Lib.hid (deleteFunc_held w0.heap.size v L 217 #[.pointer (some ⟨w.heap.size, 0, none⟩)] (fun x => !decide (x.acct = s)) w1 hO Hn.out (enters_of Tryz.func217 (by kernel_rfl) rfl) (fun x _ w2 hg => by
  have hcell := hg.block w.heap.size (Nat.lt_of_lt_of_le hlt hF.size) (fun e => by
   have := (hO.1.lt _ e.symm).1
   omega)
  have hc2 := cell_of_row _ w.heap.size 0 _ _ (0, 0) (hcell.trans hc1)
  exact of1_c x s w.heap.size w2 hc2))
 have HO := Lib.hid hO
 clear hA hc hc1 hF
 go_wp2_with fail
 refine HD.out.mono ?_
 rintro e w2 ⟨v2, rfl, hO2, hg2, hv2⟩
 have hb2 := hb1.trans (HO.out.below hg2 (by have := hb0.size; omega) hb1.size)
 rw [HL.out] at hO2
 go_wp2
 go_ret
 exact ⟨_, rfl, hO2.mono hb0.size, hb2⟩
end Go.Proofs.YtampniiehgimhaaGreat
/- hold: New, Free, Put, as holds in order -/
namespace Go.Proofs.YtampniiehgimhaaGreat
open Go.RowKit
theorem R64_neg {s : Int} (h : 1 ≤ s ∧ s ≤ 9223372036854775807) : R64 (-s) := ⟨by omega, by omega⟩
def freeHL (L : List Ac) (H : List Held) (k : ByteArray) (n : Int) : Int × List Ac × List Held := match getK Held.key H ⟨k, n⟩ with
 | none => (6, L, H)
 | some y => ((turnL (asiD (-y.sum)) L k (-y.sum)).1, (turnL (asiD (-y.sum)) L k (-y.sum)).2, if (turnL (asiD (-y.sum)) L k (-y.sum)).1 = 0 then delK Held.key H ⟨k, n⟩ else H)
def putH (L : List Ac) (H : List Held) (x : Held) : Int × List Ac × List Held :=
 if x.num < 1 ∨ 9999 < x.num ∨ x.sum < 1 then (1, L, H) else if (getK Held.key H x.key).isSome = true then (7, L, H) else if (ofL H x.acct).length = 8 then (5, L, H)
 else ((turnL (asiD x.sum) L x.acct x.sum).1, (turnL (asiD x.sum) L x.acct x.sum).2, if (turnL (asiD x.sum) L x.acct x.sum).1 = 0 then insB ltH x H else H)
theorem RkH.get_ {M : List (Hk × Int)} {L : List Held} (h : RkH M L) (k : Hk) : getM M k = (getK Held.key L k).map Held.sum := by
 have := RK.get keyH h k
 rw [← this, Option.map_map]
 cases getM M k <;> rfl
theorem RkH.sums {M : List (Hk × Int)} {L : List Held} (hr : RkH M L) (hok : OkH L) : ∀ y ∈ M, 1 ≤ y.2 ∧ y.2 ≤ 9223372036854775807 := fun y hy => by
 have := hok (gH y) (hr.perm.mem_iff.1 (List.mem_map.2 ⟨y, hy, rfl⟩))
 exact ⟨this.2.2.1, this.2.2.2.1⟩
theorem honewA_c (w : World) : Calls Tryz.prog 58 #[] w fun e w' => e = .returned (.pointer (some ⟨w.heap.size + 1, 0, none⟩)) ∧ HoA w' (w.heap.size + 1) w.heap.size [] ∧ Below w.heap.size w w' :=
 (honew_c w).mono fun _ _ ⟨h1, h2, h3⟩ => ⟨h1, ⟨[], h2, RK.nil⟩, h3⟩
theorem freeH_eq {MC : List (ByteArray × Ac)} {MH : List (Hk × Int)} {L : List Ac} {H : List Held} (hc : RkA MC L) (hh : RkH MH H) (k : ByteArray) (n : Int) :
  (freeH MC MH k n).1 = (freeHL L H k n).1 ∧ RkA (freeH MC MH k n).2.1 (freeHL L H k n).2.1 ∧ RkH (freeH MC MH k n).2.2 (freeHL L H k n).2.2 := by
 unfold freeH freeHL
 rw [hh.get_ ⟨k, n⟩]
 cases hg : getK Held.key H ⟨k, n⟩ with
 | none => exact ⟨rfl, hc, hh⟩
 | some y =>
  simp only [Option.map_some]
  obtain ⟨e1, e2⟩ := hc.turn (asiD (-y.sum)) (fun _ => rfl) k (-y.sum)
  refine ⟨e1, e2, ?_⟩
  rw [e1]
  split
  ·exact RK.del hh ⟨k, n⟩
  ·exact hh
theorem hofreeA_c (g b gh bh : Nat) (L : List Ac) (H : List Held) (k : ByteArray) (n : Int) (w : World) (h : ChA w g b L) (hh : HoA w gh bh H) (hd : gh ≠ b ∧ bh ≠ b ∧ g ≠ bh) (hL : OkA L) (hH : OkH H) :
  Calls Tryz.prog 168 #[.pointer (some ⟨gh, 0, none⟩), .pointer (some ⟨g, 0, none⟩), .string k, i64 n] w fun e w' => e = .returned (i64 (freeHL L H k n).1) ∧ ChA w' g b (freeHL L H k n).2.1 ∧ HoA w' gh bh (freeHL L H k n).2.2 ∧ G2 w w' b bh := by
 obtain ⟨MC, h, hr⟩ := h
 obtain ⟨MH, hh, hrh⟩ := hh
 obtain ⟨e1, e2, e3⟩ := freeH_eq hr hrh k n
 exact (hofree_c g b gh bh MC MH k n w h hh hd (hL.inM hr) (hrh.sums hH)).mono fun _ _ ⟨h1, h2, h3, h4⟩ => ⟨by rw [← e1]; exact h1, ⟨_, h2, e2⟩, ⟨_, h3, e3⟩, h4⟩
theorem Gr.of_g2 {w w' : World} {b c : Nat} (h : G2 w w' b c) : Gr w w' (fun k => k = b ∨ k = c) := ⟨h.os, h.tape, h.output, h.size, fun k hk hn => h.block k hk (fun e => hn (.inl e)) (fun e => hn (.inr e))⟩
set_option maxRecDepth 100000 in
set_option maxHeartbeats 8000000 in
theorem hoput_c (g b gh bh : Nat) (L : List Ac) (H : List Held) (x : Held) (w : World) (h : ChA w g b L) (hh : HoA w gh bh H) (hd : gh ≠ b ∧ bh ≠ b ∧ g ≠ bh) (hL : OkA L) (hH : OkH H) (hx : R64 x.sum) (hn : H.length ≤ 65536) :
  Calls Tryz.prog 166 #[.pointer (some ⟨gh, 0, none⟩), .pointer (some ⟨g, 0, none⟩), x.v] w fun e w' => e = .returned (i64 (putH L H x).1) ∧ ChA w' g b (putH L H x).2.1 ∧ HoA w' gh bh (putH L H x).2.2 ∧ G2 w w' b bh := by
 obtain ⟨R, hR⟩ : ∃ R, putH L H x = R := ⟨_, rfl⟩
 rw [hR]
 unfold putH at hR
 have HR := Lib.hid hR.symm
 have Hx := Lib.hid hx
 have HL := Lib.hid hL
 have HH := Lib.hid hH
 have Hd := Lib.hid hd
 have Hn := Lib.hid hn
 have hb0 := (Below.refl w.heap.size w).alloc (Nat.le_refl _) (.cells #[i64 x.num, .string x.acct, i64 x.sum] 145)
 have H0 := Lib.hid (h.later hb0)
 have HH0 := Lib.hid (hh.later hb0)
 have hlg := Lib.hid h.lt
 have hlh := Lib.hid hh.lt
 clear hR hL hH hd hx hn h hh
 by_cases hbad : x.num < 1 ∨ 9999 < x.num ∨ x.sum < 1
 ·have HR1 := Lib.hid (show R = (1, L, H) by rw [HR.out, if_pos hbad])
  clear HR
  by_cases h1 : x.num < 1
  ·have g1 : decide (x.num < 1) = true := decide_eq_true h1
   clear h1 hbad
   go_enter Tryz.func166, Tryz.ntmps166
   go_wp2
   go_ret
   exact ⟨by rw [HR1.out]; rfl, by rw [HR1.out]; exact H0.out, by rw [HR1.out]; exact HH0.out, G2.of_below hb0 _ _⟩
  ·have g1 : decide (x.num < 1) = false := decide_eq_false h1
   by_cases h2 : 9999 < x.num
   ·have g2 : decide (9999 < x.num) = true := decide_eq_true h2
    clear h1 h2 hbad
    go_enter Tryz.func166, Tryz.ntmps166
    go_wp2
    go_ret
    exact ⟨by rw [HR1.out]; rfl, by rw [HR1.out]; exact H0.out, by rw [HR1.out]; exact HH0.out, G2.of_below hb0 _ _⟩
   ·have g2 : decide (9999 < x.num) = false := decide_eq_false h2
    have g3 : decide (x.sum < 1) = true := decide_eq_true ((hbad.resolve_left h1).resolve_left h2)
    clear h1 h2 hbad
    go_enter Tryz.func166, Tryz.ntmps166
    go_wp2
    go_ret
    exact ⟨by rw [HR1.out]; rfl, by rw [HR1.out]; exact H0.out, by rw [HR1.out]; exact HH0.out, G2.of_below hb0 _ _⟩
 ·have g1 : decide (x.num < 1) = false := decide_eq_false (fun e => hbad (.inl e))
  have g2 : decide (9999 < x.num) = false := decide_eq_false (fun e => hbad (.inr (.inl e)))
  have g3 : decide (x.sum < 1) = false := decide_eq_false (fun e => hbad (.inr (.inr e)))
  have HR1 := Lib.hid (show R = _ by rw [HR.out, if_neg hbad])
  clear HR hbad
  have hb1 := hb0.alloc (by simp) (.cells #[.string x.acct, i64 x.num] 227)
  have h1 := H0.out.later ((Below.refl _ _).alloc (Nat.le_refl _) (.cells #[.string x.acct, i64 x.num] 227))
  have hh1 := HH0.out.later ((Below.refl _ _).alloc (Nat.le_refl _) (.cells #[.string x.acct, i64 x.num] 227))
  have hx1 := heap_alloc2_old w (.cells #[i64 x.num, .string x.acct, i64 x.sum] 145) (.cells #[.string x.acct, i64 x.num] 227)
  have hk1 := heap_alloc2_new w (.cells #[i64 x.num, .string x.acct, i64 x.sum] 145) (.cells #[.string x.acct, i64 x.num] 227)
  obtain ⟨MH, hhi, hrh⟩ := hh1
  have c0 := cell_of_row _ gh 0 _ _ (0, 0) hhi.cell
  have c1 := cell_of_row _ (w.heap.size + 1) 0 _ _ (0, 0) hk1
  have c2 := cell_of_row _ (w.heap.size + 1) 1 _ _ (0, 0) hk1
  simp only [List.getElem?_toArray, List.getElem?_cons_zero, List.getElem?_cons_succ] at c0 c1 c2
  have hlk := run_lookup (P := Tryz.prog) hkKey Tryz.underlying192 (hhi.later (Below.refl _ _).drew).map x.key (i64 0) (by kernel_rfl) true
  rw [getM_hv, hrh.get_] at hlk
  obtain ⟨o, ho⟩ : ∃ o, getK Held.key H x.key = o := ⟨_, rfl⟩
  rw [ho] at hlk
  have HM := Lib.hid (show HoA _ gh bh H from ⟨MH, hhi, hrh⟩)
  have HC := Lib.hid h1
  have Ho := Lib.hid ho
  unfold Held.key Hk.v at hlk
  clear h1 hhi hrh H0 HH0 hb0 ho
  go_enter Tryz.func166, Tryz.ntmps166
  go_upto_region 4 with fail
  generalize (w.alloc (.cells #[i64 x.num, .string x.acct, i64 x.sum] 145)).alloc (.cells #[.string x.acct, i64 x.num] 227) = w0 at *
  go_cut [8, 9] from 11 (fun s8 s9 wx => s8 = i64 ((o.map Held.sum).getD 0) ∧ s9 = .bool o.isSome ∧ w0.drew = wx)
  case first =>
   go_region_with fail
   all_goals (go_wp2_with fail; go_meet; exact ⟨by cases o <;> rfl, by simp, rfl⟩)
  case rest =>
  obtain ⟨rfl, rfl, rfl⟩ := hcut
  have HC2 := Lib.hid (HC.out.later (Below.refl _ _).drew)
  have HM2 := Lib.hid (HM.out.later (Below.refl _ _).drew)
  have hb2 := hb1.drew
  have hx2 : w0.drew.heap[w.heap.size]? = some (.cells #[i64 x.num, .string x.acct, i64 x.sum] 145 (0, 0)) := hx1
  have hk2 : w0.drew.heap[w.heap.size + 1]? = some (.cells #[.string x.acct, i64 x.num] 227 (0, 0)) := hk1
  generalize w0.drew = w1 at *
  have n0 := cell_of_row _ w.heap.size 0 _ _ (0, 0) hx2
  have n1 := cell_of_row _ w.heap.size 1 _ _ (0, 0) hx2
  have n2 := cell_of_row _ w.heap.size 2 _ _ (0, 0) hx2
  simp only [List.getElem?_toArray, List.getElem?_cons_zero, List.getElem?_cons_succ] at n0 n1 n2
  clear hlk c0 c1 c2 hb1 hx1 hk1 HC HM
  cases o with
  | some y =>
   have HR2 := Lib.hid (show R = (7, L, H) by rw [HR1.out, Ho.out]; rfl)
   clear HR1
   go_wp2
   go_ret
   exact ⟨by rw [HR2.out]; rfl, by rw [HR2.out]; exact HC2.out, by rw [HR2.out]; exact HM2.out, G2.of_below hb2 _ _⟩
  | none =>
   have hOf := Lib.hid (hoof_c gh bh H x.acct w1 HM2.out HH.out Hn.out)
   have HR2 := Lib.hid (show R = (if (ofL H x.acct).length = 8 then (5, L, H) else ((turnL (asiD x.sum) L x.acct x.sum).1, (turnL (asiD x.sum) L x.acct x.sum).2, if (turnL (asiD x.sum) L x.acct x.sum).1 = 0 then insB ltH x H else H)) by rw [HR1.out, Ho.out]; rfl)
   clear HR1
   go_wp2_with fail
   refine hOf.out.mono ?_
   rintro e w2 ⟨v, rfl, hO, hF⟩
   obtain ⟨A, c, rfl, -⟩ := hO.sl
   have hb3 := below_on hb2 (Nat.le_refl _) hF
   have HC3 := Lib.hid (HC2.out.later hF)
   have HM3 := Lib.hid (HM2.out.later hF)
   have hx3 := (hF.block _ (Array.getElem?_eq_some_iff.1 hx2).1).trans hx2
   have hk3 := (hF.block _ (Array.getElem?_eq_some_iff.1 hk2).1).trans hk2
   have n1 := (hF.cell (p := ⟨w.heap.size, 1, none⟩) (Array.getElem?_eq_some_iff.1 hx2).1).trans n1
   have n2 := (hF.cell (p := ⟨w.heap.size, 2, none⟩) (Array.getElem?_eq_some_iff.1 hx2).1).trans n2
   clear hF hO hOf hb2 HC2 HM2 hx2 hk2 n0
   generalize (ofL H x.acct).length = m at *
   by_cases h8 : m = 8
   ·have g4 : ((m : Int) == 8) = true := by rw [h8]; rfl
    have HR3 := Lib.hid (show R = (5, L, H) by rw [HR2.out, if_pos h8])
    clear HR2 h8
    go_wp2
    go_ret
    exact ⟨by rw [HR3.out]; rfl, by rw [HR3.out]; exact HC3.out, by rw [HR3.out]; exact HM3.out, G2.of_below hb3 _ _⟩
   ·have g4 : ((m : Int) == 8) = false := by rw [beq_eq_false_iff_ne]; omega
    have HR3 := Lib.hid (show R = _ by rw [HR2.out, if_neg h8])
    have hT := Lib.hid (asideA_c g b L x.acct x.sum w2 HC3.out HL.out Hx.out)
    generalize turnL (asiD x.sum) L x.acct x.sum = q at *
    clear HR2 h8
    go_wp2_with fail
    refine hT.out.mono ?_
    rintro e w3 ⟨rfl, hc4, hg4⟩
    have hh4 := HM3.out.kept (Gr.of_grown hg4) (fun e => by injection e with e; exact Hd.out.1 e.symm) (fun e => by injection e with e; exact Hd.out.2.1 e.symm)
    have hx4 := (hg4.block _ (Array.getElem?_eq_some_iff.1 hx3).1 (fun e => by injection e with e; have := hlg.out.2.1; omega)).trans hx3
    have hk4 := (hg4.block _ (Array.getElem?_eq_some_iff.1 hk3).1 (fun e => by injection e with e; have := hlg.out.2.1; omega)).trans hk3
    have hg5 := (G2.of_below hb3 b bh).trans (G2.fst hg4 bh)
    clear hT HC3 HM3 hx3 hk3 hg4 hb3 n1 n2
    by_cases hq : q.1 = 0
    ·have g5 : (q.1 == 0) = true := by rw [hq]; rfl
     have HR4 := Lib.hid (show R = (q.1, q.2, insB ltH x H) by rw [HR3.out, if_pos hq])
     clear hq HR3
     obtain ⟨MH4, hhi, hrh⟩ := hh4
     have c0 := cell_of_row _ gh 0 _ _ (0, 0) hhi.cell
     have c1 := cell_of_row _ (w.heap.size + 1) 0 _ _ (0, 0) hk4
     have c2 := cell_of_row _ (w.heap.size + 1) 1 _ _ (0, 0) hk4
     have n2 := cell_of_row _ w.heap.size 2 _ _ (0, 0) hx4
     simp only [List.getElem?_toArray, List.getElem?_cons_zero, List.getElem?_cons_succ] at c0 c1 c2 n2
     have hh5 := hhi.later (Below.refl _ _).drew
     have hc5 := hc4.later (Below.refl _ _).drew
     obtain ⟨w5, hrun, hm5, hg6⟩ := run_put (P := Tryz.prog) hkKey Tryz.underlying192 hh5.map x.key (i64 x.sum)
     rw [putM_hv] at hm5
     unfold Held.key Hk.v at hrun
     have HM5 := Lib.hid hm5
     have HG := Lib.hid hg6
     have HRH := Lib.hid (RK.add keyH hrh (k := x.key) (v := x.sum) rfl Ho.out)
     clear hm5 hg6 hrh
     go_wp2_with fail
     go_region_with fail
     all_goals (
      go_wp2
      go_ret
      exact ⟨by rw [HR4.out]; rfl, by rw [HR4.out]; exact hc5.kept (Gr.of_grown HG.out) (fun e => by injection e with e; exact Hd.out.2.2 e.symm) (fun e => by injection e with e; exact Hd.out.2.1 e), by
       rw [HR4.out]
       exact ⟨_, ⟨hh5.ne, (HG.out.block gh hh5.lt.1 (fun e => hh5.ne (by injection e with e; exact e.symm))).trans hh5.cell, HM5.out⟩, HRH.out⟩, (hg5.trans (G2.of_below (Below.refl _ _).drew _ _)).trans (G2.snd HG.out b)⟩)
    ·have g5 : (q.1 == 0) = false := beq_eq_false_iff_ne.2 hq
     have HR4 := Lib.hid (show R = (q.1, q.2, H) by rw [HR3.out, if_neg hq])
     clear hq HR3
     go_wp2
     go_ret
     exact ⟨by rw [HR4.out]; rfl, by rw [HR4.out]; exact hc4, by rw [HR4.out]; exact hh4, hg5⟩
end Go.Proofs.YtampniiehgimhaaGreat
/- legs that may be: the plain law -/
namespace Go.Proofs.YtampniiehgimhaaGreat
open Go.RowKit
/-- accounts that were seen -/
def seenM (l : List Leg) : List (ByteArray × Value) := l.foldl (fun M x => putM M x.acct (.bool true)) []
theorem seenM_snoc (l : List Leg) (x : Leg) : seenM (l ++ [x]) = putM (seenM l) x.acct (.bool true) := by unfold seenM; rw [List.foldl_append]; rfl
theorem getM_fold : ∀ (l : List Leg) (M : List (ByteArray × Value)) (s : ByteArray), (s ∈ l.map Leg.acct → getM (l.foldl (fun M x => putM M x.acct (.bool true)) M) s = some (.bool true)) ∧ (s ∉ l.map Leg.acct → getM (l.foldl (fun M x => putM M x.acct (.bool true)) M) s = getM M s)
 | [], M, s => ⟨fun h => by simp at h, fun _ => rfl⟩
 | x :: r, M, s => by
  have ih := getM_fold r (putM M x.acct (.bool true)) s
  rw [List.foldl_cons]
  constructor
  ·intro h
   by_cases hr : s ∈ r.map Leg.acct
   ·exact ih.1 hr
   ·have hx : x.acct = s := by
     rw [List.map_cons] at h
     rcases List.mem_cons.1 h with h | h
     ·exact h.symm
     ·exact absurd h hr
    rw [ih.2 hr, getM_put, if_pos hx]
  ·intro h
   rw [List.map_cons] at h
   have h1 : s ≠ x.acct := fun e => h (by rw [e]; exact List.mem_cons_self ..)
   have h2 : s ∉ r.map Leg.acct := fun e => h (List.mem_cons_of_mem _ e)
   rw [ih.2 h2, getM_put, if_neg (fun e => h1 e.symm)]
theorem getM_seen {l : List Leg} {s : ByteArray} (h : s ∈ l.map Leg.acct) : getM (seenM l) s = some (.bool true) := (getM_fold l [] s).1 h
theorem getM_unseen {l : List Leg} {s : ByteArray} (h : s ∉ l.map Leg.acct) : getM (seenM l) s = none := (getM_fold l [] s).2 h
def legB (x : Leg) : Bool := nameB x.acct && decide (x.sum ≠ 0)
/-- order.legs -/
def legsB (l : List Leg) : Bool := decide ((l.map Leg.acct).Nodup) && l.all legB && (decide (2 ≤ l.length) && decide (l.length ≤ 6))
def legsTo (l : List Leg) (k : Nat) : Prop := ((l.take k).map Leg.acct).Nodup ∧ ∀ x ∈ l.take k, legB x = true
theorem legsTo.next {l : List Leg} {k : Nat} (h : legsTo l k) (hk : k < l.length) (h1 : l[k].acct ∉ (l.take k).map Leg.acct) (h2 : legB l[k] = true) : legsTo l (k + 1) := by
 obtain ⟨a, b⟩ := h
 unfold legsTo
 rw [List.take_succ_eq_append_getElem hk]
 refine ⟨?_, fun x hx => ?_⟩
 ·rw [List.map_append, List.nodup_append]
  refine ⟨a, by simp, fun s hs t ht e => ?_⟩
  simp only [List.map_cons, List.map_nil, List.mem_singleton] at ht
  subst ht e
  exact h1 hs
 ·rcases List.mem_append.1 hx with hx | hx
  ·exact b x hx
  ·simp only [List.mem_singleton] at hx
   subst hx; exact h2
theorem legsB_seen {l : List Leg} {k : Nat} (hk : k < l.length) (h1 : l[k].acct ∈ (l.take k).map Leg.acct) : legsB l = false := by
 unfold legsB
 have : ¬ (l.map Leg.acct).Nodup := fun hn => by
  rw [← List.take_append_drop k l, List.map_append, List.nodup_append] at hn
  exact hn.2.2 _ h1 _ (List.mem_map_of_mem (by rw [List.drop_eq_getElem_cons hk]; exact List.mem_cons_self ..)) rfl
 rw [decide_eq_false this]; rfl
theorem legsB_bad {l : List Leg} {k : Nat} (hk : k < l.length) (h1 : legB l[k] = false) : legsB l = false := by
 unfold legsB
 have : l.all legB = false := by rw [List.all_eq_false]; exact ⟨l[k], List.getElem_mem hk, by rw [h1]; simp⟩
 rw [this, Bool.and_false]; rfl
theorem legsB_all {l : List Leg} (h : legsTo l l.length) : legsB l = (decide (2 ≤ l.length) && decide (l.length ≤ 6)) := by
 obtain ⟨a, b⟩ := h
 rw [List.take_length] at a b
 unfold legsB
 rw [decide_eq_true a, List.all_eq_true.2 b]; rfl
theorem snocInd {α : Type} {motive : List α → Prop} (l : List α) (nil : motive []) (snoc : ∀ l x, motive l → motive (l ++ [x])) : motive l := by
 have h : ∀ m : List α, motive m.reverse := fun m => by
  induction m with
  | nil => exact nil
  | cons x r ih => rw [List.reverse_cons]; exact snoc _ _ ih
 have := h l.reverse
 rwa [List.reverse_reverse] at this
open Classical in
theorem seenM_len (l : List Leg) : (seenM l).length ≤ l.length ∧ ((seenM l).length = l.length ↔ (l.map Leg.acct).Nodup) := by
 induction l using snocInd with
 | nil => simp [seenM]
 | snoc l x ih =>
  rw [seenM_snoc]
  have hl : (putM (seenM l) x.acct (.bool true)).length = if x.acct ∈ l.map Leg.acct then (seenM l).length else (seenM l).length + 1 := by
   unfold putM
   by_cases hm : x.acct ∈ l.map Leg.acct
   ·have h1 := getM_seen hm
    unfold getM at h1
    rw [Option.map_eq_some_iff] at h1
    obtain ⟨p, hp, _⟩ := h1
    rw [if_pos hm, if_pos (List.any_eq_true.2 ⟨p, List.mem_of_find?_eq_some hp, by simpa using List.find?_some hp⟩), List.length_map]
   ·have h1 := getM_unseen hm
    unfold getM at h1
    rw [Option.map_eq_none_iff, List.find?_eq_none] at h1
    rw [if_neg hm, if_neg (fun e => by obtain ⟨p, hp, he⟩ := List.any_eq_true.1 e; exact h1 p hp he), List.length_append, List.length_singleton]
  rw [hl, List.map_append, List.nodup_append, List.length_append, List.length_singleton]
  by_cases hm : x.acct ∈ l.map Leg.acct
  ·rw [if_pos hm]
   refine ⟨by omega, fun e => by omega, fun h => absurd rfl (h.2.2 _ hm _ (by simp))⟩
  ·rw [if_neg hm]
   refine ⟨by omega, fun e => ⟨ih.2.1 (by omega), by simp, fun s hs t ht e => ?_⟩, fun h => by rw [ih.2.2 h.1]⟩
   simp only [List.map_cons, List.map_nil, List.mem_singleton] at ht
   subst ht e
   exact hm hs
end Go.Proofs.YtampniiehgimhaaGreat
/- Sums of lists -/
namespace Go.Proofs.YtampniiehgimhaaGreat
open Go.RowKit
def sumL : List Int → Int
 | [] => 0
 | a :: r => a + sumL r
theorem sumL_app (l m : List Int) : sumL (l ++ m) = sumL l + sumL m := by
 induction l with
 | nil => simp [sumL]
 | cons b r ih => rw [List.cons_append, sumL, sumL, ih]; omega
theorem sumL_one (a : Int) : sumL [a] = a := by simp [sumL]
theorem sumL_in : ∀ (l : List Int), (∀ a ∈ l, R64 a) → -(l.length * 9223372036854775808 : Int) ≤ sumL l ∧ sumL l ≤ l.length * 9223372036854775808
 | [], _ => by simp [sumL]
 | a :: r, h => by
  have h1 := sumL_in r fun b hb => h b (by simp [hb])
  have h2 := h a (by simp)
  unfold R64 at h2
  rw [sumL, List.length_cons]
  push_cast
  omega
theorem sumL_take {l : List Int} {k : Nat} (h : k < l.length) : sumL (l.take (k + 1)) = sumL (l.take k) + l[k] := by rw [List.take_succ_eq_append_getElem h, sumL_app, sumL_one]
end Go.Proofs.YtampniiehgimhaaGreat
/- coins.Total -/
namespace Go.Proofs.YtampniiehgimhaaGreat
open Go.RowKit
theorem shr63 {a : Int} (h : R64 a) : a / 9223372036854775808 = if a < 0 then -1 else 0 := by unfold R64 at h; split <;> omega
set_option maxRecDepth 100000 in
set_option maxHeartbeats 4000000 in
theorem total_c (A : Option Addr) (c : Nat) (l : List Int) (w : World) (h : Sl w w.heap.size A c l) (hl : l.length ≤ 1000000) (hr : ∀ a ∈ l, R64 a) :
  Calls Tryz.prog 90 #[.slice A l.length c] w fun e w' => e = .returned (.tuple #[i64 (sumR (sumL l)).1, i64 (sumR (sumL l)).2]) ∧ Below w.heap.size w w' := by
 have hadd : ∀ (x y : Nat) (W : World), (callFunc 130 #[.int .u64 x, .int .u64 y, .int .u64 0]).run Tryz.prog W = .ok (.value (.tuple #[.int .u64 (((x + y) % 18446744073709551616 : Nat) : Int), .int .u64 (((x + y) / 18446744073709551616 : Nat) : Int)])) W := fun x y W => Any7.bits_Add64 Tryz.ladd64 x y 0 (by decide) W
 have Hadd := Lib.hid hadd
 obtain ⟨R, hR⟩ : ∃ R, sumR (sumL l) = R := ⟨_, rfl⟩
 rw [hR]
 have HR := Lib.hid hR
 clear hR
 clear hadd
 go_enter Tryz.func90, Tryz.ntmps90
 go_wp2_with fail
 go_loopw [4, 5, 11] (fun hi lo i wr => ∃ (k : Nat) (x : Int) (y : Nat), i = i64 k ∧ hi = i64 x ∧ lo = .int .u64 (y : Int) ∧ k ≤ l.length ∧ y < 18446744073709551616 ∧ x * 18446744073709551616 + y = sumL (l.take k) ∧ Below w.heap.size w wr) (fun _ _ i _ => l.length - (intOf i).toNat)
 case atStart => exact ⟨0, 0, 0, rfl, rfl, rfl, by omega, by decide, by simp [sumL], Below.refl _ _⟩
 case round =>
  obtain ⟨k, x, y, rfl, rfl, rfl, hk, hy, hs, hB⟩ := hrel
  by_cases hlt : k < l.length
  ·have ha := hr l[k] (List.getElem_mem hlt)
   obtain ⟨b, o, rfl, -, -, hc⟩ := (h.later hB).at_ hlt
   have d0 := hc 0 _ rfl
   rw [show k * Enc.size Int + 0 = k from Nat.mul_one k] at d0
   have i0 : (0 : Int) ≤ (k : Int) := by omega
   have i1 : (k : Int) < (l.length : Int) := by omega
   have hlc : l.length ≤ c := h.1
   have hst := sumL_take hlt
   have hin := sumL_in (l.take k) fun a h => hr a (List.mem_of_mem_take h)
   have htk : (l.take k).length = k := by rw [List.length_take]; omega
   rw [htk] at hin
   have hx : -1000001 ≤ x ∧ x ≤ 1000001 := by omega
   have h63 := shr63 ha
   obtain ⟨u, hu⟩ : ∃ u : Nat, (u : Int) = l[k] % 18446744073709551616 := ⟨(l[k] % 18446744073709551616).toNat, by omega⟩
   have hu2 : IntKind.u64.wrap l[k] = (u : Int) := by rw [IntKind.wrap_u64, hu]
   have had := fun W => Hadd.out y u W
   obtain ⟨s, es⟩ : ∃ s, (y + u) % 18446744073709551616 = s := ⟨_, rfl⟩
   obtain ⟨t, et⟩ : ∃ t, (y + u) / 18446744073709551616 = t := ⟨_, rfl⟩
   simp only [es, et] at had
   have ht2 : IntKind.i64.wrap (t : Int) = t := by rw [IntKind.wrap_i64]; omega
   have Hst : Hid ((x + (l[k] / 9223372036854775808 + t)) * 18446744073709551616 + (s : Int) = sumL (l.take (k + 1)) ∧ s < 18446744073709551616) := Lib.hid (by
    unfold R64 at ha
    rw [hst, ← hs, h63]
    split <;> omega)
   obtain ⟨p, ep⟩ : ∃ p, l[k] / 9223372036854775808 = p := ⟨_, rfl⟩
   rw [ep] at Hst
   have hp : -1 ≤ p ∧ p ≤ 0 := by rw [← ep, h63]; split <;> omega
   have hp0 := hp.1
   have hp1 := hp.2
   have htn : t ≤ 1 := by omega
   have e1 : IntKind.i64.wrap (p + t) = p + t := by rw [IntKind.wrap_i64]; omega
   have e2 : IntKind.i64.wrap (x + (p + t)) = x + (p + t) := by rw [IntKind.wrap_i64]; omega
   have EP := Lib.hid ep
   have E1 := Lib.hid e1
   have E2 := Lib.hid e2
   clear hs hc hin htk h63 hst es et hu ep e1 e2
   generalize l[k] = a at *
   go_wp2
   go_roundw
   case rel => exact ⟨k + 1, x + (p + t), s, by go_num, by rw [EP.out, ← IntWalk.i64_left, ← IntWalk.i64_left, E1.out, E2.out], rfl, by omega, Hst.out.2, Hst.out.1, hB⟩
   case measure => simp [intOf]; omega
  ·obtain rfl : k = l.length := by omega
   rw [List.take_length] at hs
   obtain ⟨v, hv⟩ : ∃ v, IntKind.i64.wrap (y : Int) = v := ⟨_, rfl⟩
   have hv2 : v = if (y : Int) < 9223372036854775808 then (y : Int) else (y : Int) - 18446744073709551616 := by
    rw [← hv, IntKind.wrap_i64]
    split <;> omega
   have hv64 : R64 v := by rw [← hv]; exact wrap_R64 _
   have hd := shr63 hv64
   obtain ⟨q, hq⟩ : ∃ q, v / 9223372036854775808 = q := ⟨_, rfl⟩
   have hR := HR.out
   have hv3 : wrap64 (y : Int) = v := by rw [← IntWalk.i64_left]; exact hv
   by_cases hx : x = q
   ·have g1 : (x != q) = false := by rw [hx]; simp
    have hT := Lib.hid (show R = (v, 0) by
     rw [← hR]
     unfold sumR overB
     unfold R64 at hv64
     have e : sumL l = v := by
      rw [← hs, hx, ← hq, hd, hv2]
      split <;> split <;> omega
     rw [e, decide_eq_true hv64.1, decide_eq_true hv64.2]
     rfl)
    clear hs hv2 hd hR hx hv64
    go_wp2
    all_goals (
     go_ret2
     exact ⟨by rw [hT.out]; rfl, hB⟩)
   ·have g1 : (x != q) = true := by simpa using hx
    have hT := Lib.hid (show R = (0, 2) by
     rw [← hR]
     unfold sumR
     rw [if_pos]
     unfold overB
     rw [Bool.not_eq_true', Bool.and_eq_false_iff, decide_eq_false_iff_not, decide_eq_false_iff_not]
     rw [← hq, hd] at hx
     split at hv2 <;> split at hx <;> omega)
    clear hs hv2 hd hR hx hv64
    go_wp2
    all_goals (
     go_ret2
     exact ⟨by rw [hT.out]; rfl, hB⟩)
end Go.Proofs.YtampniiehgimhaaGreat
/- voucher: right, weigh -/
namespace Go.Proofs.YtampniiehgimhaaGreat
open Go.RowKit
theorem legsTo_len {l : List Leg} (h : ∀ x ∈ l, legB x = true) : legsB l = (decide ((seenM l).length = l.length) && (decide (2 ≤ l.length) && decide (l.length ≤ 6))) := by
 unfold legsB
 rw [List.all_eq_true.2 h, Bool.and_true]
 congr 1
 rw [decide_eq_decide]
 exact (seenM_len l).2.symm
set_option maxRecDepth 100000 in
set_option maxHeartbeats 4000000 in
theorem vright_c (A : Option Addr) (c : Nat) (l : List Leg) (w : World) (h : Sl w w.heap.size A c l) (hn : l.length ≤ 65536) :
  Calls Tryz.prog 213 #[.slice A l.length c] w fun e w' => e = .returned (.bool (legsB l)) ∧ Below w.heap.size w w' := by
 have hmm := @run_makeMap Tryz.prog
 go_enter Tryz.func213, Tryz.ntmps213
 go_wp2
 have hm0 := MapIs.made (enc := Value.string) w
 have hb0 := (Below.refl w.heap.size w).alloc (Nat.le_refl _) (.map #[] 0)
 go_loopw [9] (fun i wr => ∃ k : Nat, i = i64 k ∧ k ≤ l.length ∧ MapIs Value.string wr w.heap.size (seenM (l.take k)) ∧ (∀ x ∈ l.take k, legB x = true) ∧ Below w.heap.size w wr) (fun i _ => l.length - (intOf i).toNat)
 case atStart => exact ⟨0, rfl, by omega, hm0, by simp, hb0⟩
 case round =>
  obtain ⟨k, rfl, hk, hm, ht, hb⟩ := hrel
  have HT := Lib.hid ht
  clear hm0 hb0 hmm ht
  by_cases hlt : k < l.length
  ·obtain ⟨b, o, rfl, hbb, hsz, c0, c1⟩ := (h.later hb).leg hlt
   have hB1 := (Below.refl wr.heap.size wr).alloc (Nat.le_refl _) (.cells #[.string l[k].acct, i64 l[k].sum] 167)
   have Hm1 := Lib.hid (hm.later hB1)
   have Hb1 := Lib.hid (hb.alloc hb.size (.cells #[.string l[k].acct, i64 l[k].sum] 167))
   clear hm
   go_wp2_with fail
   refine (name_b l[k].acct _).mono ?_
   rintro e w2 ⟨rfl, hF⟩
   have e0 : (wr.alloc (.cells #[.string l[k].acct, i64 l[k].sum] 167)).cell? ⟨wr.heap.size, 0, none⟩ = some (.string l[k].acct) := by simp
   have e1 : (wr.alloc (.cells #[.string l[k].acct, i64 l[k].sum] 167)).cell? ⟨wr.heap.size, 1, none⟩ = some (i64 l[k].sum) := by simp
   have e0 := (hF.cell (p := ⟨wr.heap.size, 0, none⟩) (by simp)).trans e0
   have e1 := (hF.cell (p := ⟨wr.heap.size, 1, none⟩) (by simp)).trans e1
   have hm2 := Lib.hid (Hm1.out.later hF)
   have hb2 := Lib.hid (below_on Hb1.out (Nat.le_refl _) hF)
   clear hF c0 c1 Hm1 Hb1 hb hB1
   by_cases hnm : nameB l[k].acct = true
   ·rw [hnm]
    by_cases hz : l[k].sum = 0
    ·have g1 : (l[k].sum == 0) = true := beq_iff_eq.2 hz
     have Hs2 := Lib.hid (legsB_bad hlt (by unfold legB; rw [hz]; simp))
     clear hz hnm
     go_wp2
     go_ret
     exact ⟨by rw [Hs2.out]; rfl, hb2.out⟩
    ·have g1 : (l[k].sum == 0) = false := beq_eq_false_iff_ne.2 hz
     have Hl := Lib.hid (show legB l[k] = true by unfold legB; rw [hnm, decide_eq_true hz]; rfl)
     clear hz hnm
     go_wp2_with (refine wpList_put rfl none (.tmp 22) (.tmp 24) (.const (.bool true)) 256 rfl rfl strKey Tryz.underlying256 rfl hm2.out l[k].acct (.bool true) rfl rfl ?_; intro w3 hm3 hg3)
     go_roundw
     case rel => exact ⟨k + 1, by go_num, by omega, by rw [List.take_succ_eq_append_getElem hlt, seenM_snoc]; exact hm3, fun x hx => by
       rw [List.take_succ_eq_append_getElem hlt] at hx
       rcases List.mem_append.1 hx with hx | hx
       ·exact HT.out x hx
       ·simp only [List.mem_singleton] at hx; subst hx; exact Hl.out, hb2.out.trans (below_of_grown hg3 hb2.out.size (fun g e => by injection e with e; omega))⟩
     case measure => simp [intOf]; omega
   ·have hnm' : nameB l[k].acct = false := by simpa using hnm
    rw [hnm']
    have Hs2 := Lib.hid (legsB_bad hlt (by unfold legB; rw [hnm']; rfl))
    clear hnm hnm'
    go_wp2
    go_ret
    exact ⟨by rw [Hs2.out]; rfl, hb2.out⟩
  ·obtain rfl : k = l.length := by omega
   have ht := HT.out
   rw [List.take_length] at ht hm
   have hal := legsTo_len ht
   have hlen := fun ty => run_lenM (P := Tryz.prog) Tryz.underlying256 hm ty
   clear ht
   have hsl : (seenM l).length ≤ l.length := (seenM_len l).1
   generalize (seenM l).length = sl at *
   clear hm
   by_cases h0 : sl = l.length
   ·rw [decide_eq_true h0] at hal
    have g0 : ((sl : Int) == (l.length : Int)) = true := by rw [h0]; simp
    subst h0
    by_cases h2 : 2 ≤ l.length
    ·have g1 : decide ((2 : Int) ≤ (l.length : Int)) = true := decide_eq_true (by omega)
     rw [decide_eq_true h2] at hal
     by_cases h6 : l.length ≤ 6
     ·have g2 : decide ((l.length : Int) ≤ 6) = true := decide_eq_true (by omega)
      rw [decide_eq_true h6] at hal
      have Hs := Lib.hid hal
      clear hal h2 h6
      go_wp2
      go_ret
      exact ⟨by rw [Hs.out]; rfl, hb⟩
     ·have g2 : decide ((l.length : Int) ≤ 6) = false := decide_eq_false (by omega)
      rw [decide_eq_false h6] at hal
      have Hs := Lib.hid hal
      clear hal h2 h6
      go_wp2
      go_ret
      exact ⟨by rw [Hs.out]; rfl, hb⟩
    ·have g1 : decide ((2 : Int) ≤ (l.length : Int)) = false := decide_eq_false (by omega)
     rw [decide_eq_false h2] at hal
     have Hs := Lib.hid hal
     clear hal h2
     go_wp2
     go_ret
     exact ⟨by rw [Hs.out]; rfl, hb⟩
   ·rw [decide_eq_false h0] at hal
    have g0 : ((sl : Int) == (l.length : Int)) = false := by rw [beq_eq_false_iff_ne]; omega
    have Hs := Lib.hid hal
    clear hal h0
    go_wp2
    go_ret
    exact ⟨by rw [Hs.out]; rfl, hb⟩
theorem intInfo64 : (Tryz.prog.info? 2).map (fun i => (i.zero, i.size, i.bytes)) = some (some (i64 0), Enc.size Int, 8) := by kernel_rfl
/-- voucher.weigh -/
def weighB (l : List Leg) : Bool := decide ((sumR (sumL (l.map Leg.sum))).2 = 0) && decide ((sumR (sumL (l.map Leg.sum))).1 = 0)
set_option maxRecDepth 100000 in
set_option maxHeartbeats 4000000 in
theorem weigh_c (A : Option Addr) (c : Nat) (l : List Leg) (w : World) (h : Sl w w.heap.size A c l) (hn : l.length ≤ 65536) (hr : ∀ x ∈ l, R64 x.sum) :
  Calls Tryz.prog 214 #[.slice A l.length c] w fun e w' => e = .returned (.bool (weighB l)) ∧ Below w.heap.size w w' := by
 have HR := Lib.hid hr
 have HW := Lib.hid (show weighB l = (decide ((sumR (sumL (l.map Leg.sum))).2 = 0) && decide ((sumR (sumL (l.map Leg.sum))).1 = 0)) from rfl)
 generalize weighB l = F at *
 clear hr
 go_enter Tryz.func214, Tryz.ntmps214
 go_wp2
 go_loopw [3, 10] (fun v i wr => ∃ k : Nat, i = i64 k ∧ k ≤ l.length ∧ Own wr w.heap.size 2 v ((l.take k).map Leg.sum) ∧ Below w.heap.size w wr) (fun _ i _ => l.length - (intOf i).toNat)
 case atStart => exact ⟨0, rfl, by omega, Own.nil_ _ _ _, Below.refl _ _⟩
 case round =>
  obtain ⟨k, rfl, hk, hO, hb⟩ := hrel
  by_cases hlt : k < l.length
  ·obtain ⟨b, o, rfl, hbb, hsz, c0, c1⟩ := (h.later hb).leg hlt
   have HO2 := Lib.hid ((hO.later ((Below.refl _ _).alloc (Nat.le_refl _) (.cells #[.string l[k].acct, i64 l[k].sum] 167))).later ((Below.refl _ _).alloc (Nat.le_refl _) (.cells #[i64 l[k].sum] 2)))
   have Hne := Lib.hid (hO.new_ne (Nat.le_succ wr.heap.size))
   have HH := Lib.hid (heap_alloc2_new wr (.cells #[.string l[k].acct, i64 l[k].sum] 167) (.cells #[i64 l[k].sum] 2))
   have hbb' := (hb.alloc hb.size (.cells #[.string l[k].acct, i64 l[k].sum] 167)).alloc (by have := hb.size; simp; omega) (.cells #[i64 l[k].sum] 2)
   have HL := Lib.hid (show ((l.take k).map Leg.sum).length = k by simp; omega)
   clear hO
   go_wp2_with (at_builtin; refine wpList_append_one rfl (some 18) (.tmp 14) (.tmp 17) 181 rfl rfl (i64 0) 8 Tryz.underlying181 intInfo64 rfl Nat.one_pos (by decide) rfl HO2.out (wr.heap.size + 1) l[k].sum rfl _ 2 HH.out rfl Hne.out trivial (by rw [HL.out]; omega) hbb'.size ?_; intro v3 w3 hO3 hg3 hat3)
   go_roundw
   case rel => exact ⟨k + 1, by go_num, by omega, by rw [List.take_succ_eq_append_getElem hlt, List.map_append]; exact hO3, hbb'.trans (HO2.out.below hg3 (Nat.le_refl _) hbb'.size)⟩
   case measure => simp [intOf]; omega
  ·obtain rfl : k = l.length := by omega
   rw [List.take_length] at hO
   obtain ⟨A2, c2, hv2, hs2⟩ := hO.sl
   rw [List.length_map] at hv2
   subst hv2
   have hT := (total_c A2 c2 _ _ hs2 (by simp; omega) (fun a ha => by
    obtain ⟨x, hx, rfl⟩ := List.mem_map.1 ha
    exact HR.out x hx))
   rw [List.length_map] at hT
   have hT := Lib.hid hT
   generalize sumR (sumL (l.map Leg.sum)) = r at *
   clear hs2 hO
   go_wp2_with fail
   refine hT.out.mono ?_
   rintro e w2 ⟨rfl, hF⟩
   have hb2 := below_on hb (Nat.le_refl _) hF
   clear hF hT
   by_cases h1 : r.2 = 0
   ·have g1 : (r.2 == 0) = true := by rw [h1]; rfl
    have H1 := Lib.hid (decide_eq_true h1)
    clear h1
    by_cases h2 : r.1 = 0
    ·have g2 : (r.1 == 0) = true := by rw [h2]; rfl
     have H2 := Lib.hid (decide_eq_true h2)
     clear h2
     go_wp2
     go_ret
     exact ⟨by rw [HW.out, H1.out, H2.out]; rfl, hb2⟩
    ·have g2 : (r.1 == 0) = false := beq_eq_false_iff_ne.2 h2
     have H2 := Lib.hid (decide_eq_false h2)
     clear h2
     go_wp2
     go_ret
     exact ⟨by rw [HW.out, H1.out, H2.out]; rfl, hb2⟩
   ·have g1 : (r.2 == 0) = false := beq_eq_false_iff_ne.2 h1
    have H1 := Lib.hid (decide_eq_false h1)
    clear h1
    go_wp2
    go_ret
    exact ⟨by rw [HW.out, H1.out]; rfl, hb2⟩
end Go.Proofs.YtampniiehgimhaaGreat
