/- Texts of this claim, laid together: FoLev. -/
import Derived.Test.YtdkkblhfjblpkaaGreatRows
import Derived.Test.YtdkkblhfjblpkaaGreatBi15
import Derived.Test.YtdkkblhfjblpkaaGreatBi2
import Derived.Test.YtdkkblhfjblpkaaGreatBi8
import Derived.WalkKit
import Derived.WalkSpells
import Derived.WalkLawsBesides
import Derived.Deep.QuietTactic
import Derived.BigQuiet
import Derived.Laws.StructEq
import Derived.Deep.DeepFit
import Derived.StillTailTactics

/- foata.levels -/
namespace Go.Proofs.YtdkkblhfjblpkaaGreat
open Go.RowKit
/-- the levels alone -/
def lvInts (l : List Od) : List Int := (levP l).map (·.2)
theorem lvInts_len (l : List Od) : (lvInts l).length = l.length := by unfold lvInts; rw [List.length_map, levP_len]
theorem lvInts_snoc (l : List Od) (o : Od) : lvInts (l ++ [o]) = lvInts l ++ [lvAt (levP l) o] := by unfold lvInts; rw [levP_snoc, List.map_append]; rfl
/-- the levels while one is looked for -/
def lvRow (l : List Od) (v : Int) (n : Nat) : List Int := lvInts l ++ v :: List.replicate n 0
theorem lvRow_len (l : List Od) (v : Int) (n : Nat) : (lvRow l v n).length = l.length + n + 1 := by unfold lvRow; rw [List.length_append, lvInts_len, List.length_cons, List.length_replicate]; omega
theorem lvRow_set (l : List Od) (v u : Int) (n : Nat) : (lvRow l v n).set l.length u = lvRow l u n := by
  unfold lvRow
  rw [List.set_append_right _ _ (by rw [lvInts_len]; exact Nat.le_refl _), lvInts_len, Nat.sub_self]
  rfl
theorem lvRow_start (l : List Od) (n : Nat) : (lvInts l ++ List.replicate (n + 1) 0).set l.length 1 = lvRow l 1 n := by
  rw [List.replicate_succ]
  exact lvRow_set l 0 1 n
theorem lvRow_at (l : List Od) (v : Int) (n : Nat) : (lvRow l v n)[l.length]'(by rw [lvRow_len]; omega) = v := by
  unfold lvRow
  rw [List.getElem_append_right (by rw [lvInts_len]; exact Nat.le_refl _)]
  simp [lvInts_len]
theorem lvRow_lo (l : List Od) (v : Int) (n : Nat) {j : Nat} (hj : j < l.length) : (lvRow l v n)[j]'(by rw [lvRow_len]; omega) = ((levP l)[j]'(by rw [levP_len]; exact hj)).2 := by
  unfold lvRow lvInts
  rw [List.getElem_append_left (by rw [List.length_map, levP_len]; exact hj), List.getElem_map]
theorem lv_snoc (o : Od) (P : List (Od × Int)) {j : Nat} (hj : j < P.length) : (P.take (j + 1)).foldl (lvF o) 1 = lvF o ((P.take j).foldl (lvF o) 1) P[j] := by
  rw [List.take_succ_eq_append_getElem hj, List.foldl_append]
  rfl
theorem lv_bound (o : Od) : ∀ (P : List (Od × Int)) (v M : Int), v ≤ M → (∀ p ∈ P, p.2 + 1 ≤ M) → P.foldl (lvF o) v ≤ M
  | [], v, M, h, _ => h
  | p :: r, v, M, h, hp => by
    have h1 := hp p (List.mem_cons_self ..)
    refine lv_bound o r _ M ?_ fun q hq => hp q (List.mem_cons_of_mem _ hq)
    unfold lvF
    split <;> omega
theorem levP_fstAt {l : List Od} {j : Nat} (hj : j < l.length) : ((levP l)[j]'(by rw [levP_len]; exact hj)).1 = l[j] := by rw [levP_get hj]
theorem Own.int_at {w : World} {base : Nat} {e : TypeId} {l : List Int} {g n cap : Nat} (h : Own w base e (.slice (some ⟨g, 0, none⟩) n cap) l) {k : Nat} (hk : k < l.length) : w.cell? ⟨g, k, none⟩ = some (i64 l[k]) := by
  have := h.at_ hk 0 _ rfl
  rwa [show k * Enc.size Int + 0 = k from Nat.mul_one k] at this
theorem inf_int : (Tryz.prog.info? 3).map (fun i => (i.zero, i.size, i.bytes)) = some (some (i64 0), Enc.size Int, 8) := by kernel_rfl
set_option maxRecDepth 100000 in
set_option maxHeartbeats 8000000 in
theorem levels_c (A : Option Addr) (c : Nat) (l : List Od) (w : World) (h : Sl w w.heap.size A c l) (hn : l.length ≤ 60000) (hl : ∀ x ∈ l, x.legs.length ≤ 10) :
    Calls Tryz.prog 66 #[.slice A l.length c] w fun e w' => ∃ v, e = .returned (.tuple #[v, i64 (mostP (levP l))]) ∧ Own w' w.heap.size 3 v (lvInts l) ∧ Below w.heap.size w w' := by
  have H := Lib.hid h
  have Hl := Lib.hid hl
  have hlc : l.length ≤ c := h.1
  obtain ⟨hmk, hO0⟩ := make_own (P := Tryz.prog) w w.heap.size 67 3 (i64 0) 8 Tryz.underlying67 inf_int (by decide) (0 : Int) (i64 0) rfl rfl rfl (fun _ _ => trivial) l.length (by omega) (Nat.le_refl _)
  have hb0 := (Below.refl w.heap.size w).alloc (Nat.le_refl _) (.cells (Array.replicate l.length (i64 0)) 3)
  have hz0 : w.heap.size < (w.alloc (.cells (Array.replicate l.length (i64 0)) 3)).heap.size := by simp
  clear h hl
  go_enter Tryz.func66, Tryz.ntmps66
  go_wp2_with fail
  generalize w.alloc (.cells (Array.replicate l.length (i64 0)) 3) = w0 at *
  clear hmk
  go_loopw [5, 14] (fun m i wr => ∃ k : Nat, m = i64 (mostP (levP (l.take k))) ∧ i = i64 k ∧ k ≤ l.length ∧ Own wr w.heap.size 3 (.slice (some ⟨w.heap.size, 0, none⟩) l.length l.length) (lvInts (l.take k) ++ List.replicate (l.length - k) 0) ∧ Below w.heap.size w wr ∧ w.heap.size < wr.heap.size) (fun _ i _ => l.length - (intOf i).toNat)
  case atStart => exact ⟨0, rfl, rfl, Nat.zero_le _, hO0, hb0, hz0⟩
  case round =>
    obtain ⟨k, rfl, rfl, hk, hO, hb, hz⟩ := hrel
    clear hO0 hb0 hz0
    by_cases hlt : k < l.length
    · have g1 : decide ((k : Int) < (l.length : Int)) = true := decide_eq_true (by omega)
      have g2 : decide (k < l.length) = true := decide_eq_true hlt
      have i0 : (0 : Int) ≤ (k : Int) := by omega
      have i1 : (k : Int) < (l.length : Int) := by omega
      have hpl : (l.take k).length = k := by rw [List.length_take]; omega
      have hrow := lvRow_start (l.take k) (l.length - k - 1)
      rw [hpl, show l.length - k - 1 + 1 = l.length - k from by omega] at hrow
      have HR1 := Lib.hid hrow
      have HM := Lib.hid (show mostP (levP (l.take (k + 1))) = if mostP (levP (l.take k)) < lvAt (levP (l.take k)) l[k] then lvAt (levP (l.take k)) l[k] else mostP (levP (l.take k)) by rw [List.take_succ_eq_append_getElem hlt, levP_snoc, mostP_snoc])
      have HI := Lib.hid (show lvInts (l.take (k + 1)) = lvInts (l.take k) ++ [lvAt (levP (l.take k)) l[k]] by rw [List.take_succ_eq_append_getElem hlt, lvInts_snoc])
      have hms := most_small (l.take k)
      obtain ⟨b, o, rfl, _, _, c0, c1, c2, c3, c4, c5, c6, c7, c8, c9⟩ := (H.out.below hb).od hlt
      have Hx : Hid (∀ W, Below w.heap.size w W → Okb W W.heap.size l[k]) := Lib.hid fun W hW => Enc.keep (α := Od) ((H.out.below hW).2.2.2 l[k] (List.getElem_mem hlt)) (fun _ _ => rfl) (fun _ hk => Nat.lt_of_lt_of_le hk hW.size)
      have hlx := Hl.out l[k] (List.getElem_mem hlt)
      have HT := Lib.hid (show ∀ j, j < k → (l.take k)[j]? = l[j]? from fun j hj => List.getElem?_take_of_lt hj)
      have hlow := Lib.hid (show ∀ p ∈ levP (l.take k), 1 ≤ p.2 ∧ p.2 ≤ k from fun p hp => by have := levP_small hp; rw [hpl] at this; exact this)
      generalize l[k] = x at *
      generalize hpre : l.take k = pre at *
      have hba := (Below.refl wr.heap.size wr).alloc (Nat.le_refl _) (.cells #[i64 x.client, i64 x.seq, i64 x.kind, .string x.acct, .string x.peer, i64 x.sum, .slice x.la x.legs.length x.lc, i64 x.period, i64 x.hold, .string x.note] 50)
      have hob := heap_alloc_new wr (.cells #[i64 x.client, i64 x.seq, i64 x.kind, .string x.acct, .string x.peer, i64 x.sum, .slice x.la x.legs.length x.lc, i64 x.period, i64 x.hold, .string x.note] 50)
      have hb1 := hb.alloc hb.size (.cells #[i64 x.client, i64 x.seq, i64 x.kind, .string x.acct, .string x.peer, i64 x.sum, .slice x.la x.legs.length x.lc, i64 x.period, i64 x.hold, .string x.note] 50)
      have HO1 := Lib.hid (hO.later hba)
      have hz1 : wr.heap.size < (wr.alloc (.cells #[i64 x.client, i64 x.seq, i64 x.kind, .string x.acct, .string x.peer, i64 x.sum, .slice x.la x.legs.length x.lc, i64 x.period, i64 x.hold, .string x.note] 50)).heap.size := by simp
      have hgz : w.heap.size ≠ wr.heap.size := by omega
      have hll : (lvInts pre ++ List.replicate (l.length - k) 0).length = l.length := by rw [List.length_append, lvInts_len, List.length_replicate, hpl]; omega
      have HLL := Lib.hid hll
      clear hO hba hb hrow hll
      go_wp2_with (refine wpList_store_own rfl none (.tmp 21) (.const (i64 1)) 3 rfl rfl (by kernel_rfl) w.heap.size l.length l.length k k (1 : Int) HO1.out (by rw [HLL.out]; exact hlt) rfl (Nat.mul_one k).symm rfl trivial ?_; intro w2 hO2 hg2)
      have hq2 := (hg2.block wr.heap.size hz1 (fun e => hgz (by injection e with e; exact e.symm))).trans hob
      have hb2 := hb1.trans (HO1.out.below hg2 (Nat.le_refl _) hb1.size)
      rw [HR1.out] at hO2
      have hz2 : wr.heap.size < w2.heap.size := Nat.lt_of_lt_of_le hz1 hg2.size
      clear HO1 hob hb1 hg2 HR1 HLL c0 c1 c2 c3 c4 c5 c6 c7 c8 c9 hz1
      generalize wr.heap.size = gq at *
      go_wp2_with fail
      go_loopw [23] (fun i wi => ∃ j : Nat, i = i64 j ∧ j ≤ k ∧ Own wi w.heap.size 3 (.slice (some ⟨w.heap.size, 0, none⟩) l.length l.length) (lvRow pre (((levP pre).take j).foldl (lvF x) 1) (l.length - k - 1)) ∧ w2.grownBy wi (some w.heap.size)) (fun i _ => k - (intOf i).toNat)
      case atStart => exact ⟨0, rfl, Nat.zero_le _, hO2, World.grownBy.refl _ _⟩
      case round =>
        obtain ⟨j, rfl, hj, hO, hg⟩ := hrel
        clear hO2
        have hbi := hb2.trans (below_of_grown hg hb2.size (fun g e => by injection e with e; omega))
        have hqi := (hg.block gq hz2 (fun e => hgz (by injection e with e; exact e.symm))).trans hq2
        have hlR : (lvRow pre (((levP pre).take j).foldl (lvF x) 1) (l.length - k - 1)).length = l.length := by rw [lvRow_len, hpl]; omega
        have ek := hO.int_at (k := k) (by rw [hlR]; exact hlt)
        have hvk : (lvRow pre (((levP pre).take j).foldl (lvF x) 1) (l.length - k - 1))[k]'(by rw [hlR]; exact hlt) = ((levP pre).take j).foldl (lvF x) 1 := by
          have := lvRow_at pre (((levP pre).take j).foldl (lvF x) 1) (l.length - k - 1)
          simp only [hpl] at this
          exact this
        rw [hvk] at ek
        have hv1 := (lvF_spec x ((levP pre).take j) 1).1
        have hv2 := lv_bound x ((levP pre).take j) 1 (k + 1) (by omega) (fun p hp => by have := hlow.out p (List.mem_of_mem_take hp); omega)
        by_cases hjl : j < k
        · have g3 : decide ((j : Int) < (k : Int)) = true := decide_eq_true (by omega)
          have g4 : decide (j < k) = true := decide_eq_true hjl
          have i2 : (0 : Int) ≤ (j : Int) := by omega
          have i3 : (j : Int) < (l.length : Int) := by omega
          have hjP : j < (levP pre).length := by rw [levP_len, hpl]; exact hjl
          have ej := hO.int_at (k := j) (by rw [hlR]; omega)
          rw [lvRow_lo pre _ _ (by rw [hpl]; exact hjl)] at ej
          have ha := hlow.out _ (List.getElem_mem hjP)
          have hjx : (levP pre)[j].1 = l[j] := by
            rw [levP_fstAt (by rw [hpl]; exact hjl)]
            have := HT.out j hjl
            rw [List.getElem?_eq_getElem (by rw [hpl]; exact hjl), List.getElem?_eq_getElem (by omega)] at this
            exact Option.some.inj this
          have hst := lv_snoc x (levP pre) hjP
          have hset := fun u => lvRow_set pre (((levP pre).take j).foldl (lvF x) 1) u (l.length - k - 1)
          simp only [hpl] at hset
          obtain ⟨b', o', hbA, _, _, d0, d1, d2, d3, d4, d5, d6, d7, d8, d9⟩ := (H.out.below hbi).od (k := j) (by omega)
          injection hbA with hbA
          injection hbA with hb1 hb2
          subst hb1 hb2
          have hly := Hl.out l[j] (List.getElem_mem (by omega))
          have hyk : ∀ W, Below w.heap.size w W → Okb W W.heap.size l[j] := fun W hW => Enc.keep (α := Od) ((H.out.below hW).2.2.2 l[j] (List.getElem_mem (by omega))) (fun _ _ => rfl) (fun _ hk => Nat.lt_of_lt_of_le hk hW.size)
          have HC := Lib.hid (fun W (hW : Below wr.heap.size wr W) => clash_c l[j] x W (hyk W (hbi.trans (hW.mono hbi.size))) (Hx.out W (hbi.trans (hW.mono hbi.size))) hly hlx)
          have hPj : (levP pre)[j] = (l[j], (levP pre)[j].2) := by rw [← hjx]
          rw [hPj] at hst
          generalize (levP pre)[j].2 = a at *
          generalize l[j] = y at *
          generalize ((levP pre).take j).foldl (lvF x) 1 = v at *
          have Hset := Lib.hid hset
          have e0 := cell_of_row _ gq 0 _ _ (0, 0) hqi
          have e1 := cell_of_row _ gq 1 _ _ (0, 0) hqi
          have e2 := cell_of_row _ gq 2 _ _ (0, 0) hqi
          have e3 := cell_of_row _ gq 3 _ _ (0, 0) hqi
          have e4 := cell_of_row _ gq 4 _ _ (0, 0) hqi
          have e5 := cell_of_row _ gq 5 _ _ (0, 0) hqi
          have e6 := cell_of_row _ gq 6 _ _ (0, 0) hqi
          have e7 := cell_of_row _ gq 7 _ _ (0, 0) hqi
          have e8 := cell_of_row _ gq 8 _ _ (0, 0) hqi
          have e9 := cell_of_row _ gq 9 _ _ (0, 0) hqi
          simp only [List.getElem?_toArray, List.getElem?_cons_zero, List.getElem?_cons_succ] at e0 e1 e2 e3 e4 e5 e6 e7 e8 e9
          have hS : ∀ V, Below wr.heap.size wr V → (fun V : World => Below wr.heap.size wr V ∧ V.cell? ⟨w.heap.size, j, none⟩ = some (i64 a) ∧ V.cell? ⟨w.heap.size, k, none⟩ = some (i64 v) ∧ V.cell? ⟨b, o + j * 10, none⟩ = some (i64 y.client) ∧ V.cell? ⟨b, o + j * 10 + 1, none⟩ = some (i64 y.seq) ∧ V.cell? ⟨b, o + j * 10 + 2, none⟩ = some (i64 y.kind) ∧ V.cell? ⟨b, o + j * 10 + 3, none⟩ = some (.string y.acct) ∧ V.cell? ⟨b, o + j * 10 + 4, none⟩ = some (.string y.peer) ∧ V.cell? ⟨b, o + j * 10 + 5, none⟩ = some (i64 y.sum) ∧ V.cell? ⟨b, o + j * 10 + 6, none⟩ = some (.slice y.la y.legs.length y.lc) ∧ V.cell? ⟨b, o + j * 10 + 7, none⟩ = some (i64 y.period) ∧ V.cell? ⟨b, o + j * 10 + 8, none⟩ = some (i64 y.hold) ∧ V.cell? ⟨b, o + j * 10 + 9, none⟩ = some (.string y.note) ∧ V.cell? ⟨gq, 0, none⟩ = some (i64 x.client) ∧ V.cell? ⟨gq, 1, none⟩ = some (i64 x.seq) ∧ V.cell? ⟨gq, 2, none⟩ = some (i64 x.kind) ∧ V.cell? ⟨gq, 3, none⟩ = some (.string x.acct) ∧ V.cell? ⟨gq, 4, none⟩ = some (.string x.peer) ∧ V.cell? ⟨gq, 5, none⟩ = some (i64 x.sum) ∧ V.cell? ⟨gq, 6, none⟩ = some (.slice x.la x.legs.length x.lc) ∧ V.cell? ⟨gq, 7, none⟩ = some (i64 x.period) ∧ V.cell? ⟨gq, 8, none⟩ = some (i64 x.hold) ∧ V.cell? ⟨gq, 9, none⟩ = some (.string x.note)) V := fun V hV => ⟨hV, (hV.cell (World.block_lt_of_cell? _ _ ej)).trans ej, (hV.cell (World.block_lt_of_cell? _ _ ek)).trans ek, (hV.cell (World.block_lt_of_cell? _ _ d0)).trans d0, (hV.cell (World.block_lt_of_cell? _ _ d1)).trans d1, (hV.cell (World.block_lt_of_cell? _ _ d2)).trans d2, (hV.cell (World.block_lt_of_cell? _ _ d3)).trans d3, (hV.cell (World.block_lt_of_cell? _ _ d4)).trans d4, (hV.cell (World.block_lt_of_cell? _ _ d5)).trans d5, (hV.cell (World.block_lt_of_cell? _ _ d6)).trans d6, (hV.cell (World.block_lt_of_cell? _ _ d7)).trans d7, (hV.cell (World.block_lt_of_cell? _ _ d8)).trans d8, (hV.cell (World.block_lt_of_cell? _ _ d9)).trans d9, (hV.cell (World.block_lt_of_cell? _ _ e0)).trans e0, (hV.cell (World.block_lt_of_cell? _ _ e1)).trans e1, (hV.cell (World.block_lt_of_cell? _ _ e2)).trans e2, (hV.cell (World.block_lt_of_cell? _ _ e3)).trans e3, (hV.cell (World.block_lt_of_cell? _ _ e4)).trans e4, (hV.cell (World.block_lt_of_cell? _ _ e5)).trans e5, (hV.cell (World.block_lt_of_cell? _ _ e6)).trans e6, (hV.cell (World.block_lt_of_cell? _ _ e7)).trans e7, (hV.cell (World.block_lt_of_cell? _ _ e8)).trans e8, (hV.cell (World.block_lt_of_cell? _ _ e9)).trans e9⟩
          have HS := Lib.hid hS
          unfold Od.v at HC
          have HO := Lib.hid hO
          have Hst := Lib.hid hst
          have HlR := Lib.hid hlR
          clear hS hqi hO hst hlR hvk hv1 hyk hly hset hPj hjx
          by_cases hge : v ≤ a
          · have c1 : decide (a ≥ v) = true := decide_eq_true hge
            have c2 : decide (v ≤ a) = true := decide_eq_true hge
            cases hcl : clashB y x
            · rw [hcl] at HC
              have Hst2 := Lib.hid (show lvF x v (y, a) = v by unfold lvF; rw [if_neg]; rintro ⟨_, h⟩; rw [show clashB (y, a).1 x = clashB y x from rfl, hcl] at h; cases h)
              clear hcl
              go_upto_region 10 with fail
              refine wp_region_noPanic ?_
              refine wp_region_l 16 (fun V : World => Below wr.heap.size wr V ∧ V.cell? ⟨w.heap.size, j, none⟩ = some (i64 a) ∧ V.cell? ⟨w.heap.size, k, none⟩ = some (i64 v) ∧ V.cell? ⟨b, o + j * 10, none⟩ = some (i64 y.client) ∧ V.cell? ⟨b, o + j * 10 + 1, none⟩ = some (i64 y.seq) ∧ V.cell? ⟨b, o + j * 10 + 2, none⟩ = some (i64 y.kind) ∧ V.cell? ⟨b, o + j * 10 + 3, none⟩ = some (.string y.acct) ∧ V.cell? ⟨b, o + j * 10 + 4, none⟩ = some (.string y.peer) ∧ V.cell? ⟨b, o + j * 10 + 5, none⟩ = some (i64 y.sum) ∧ V.cell? ⟨b, o + j * 10 + 6, none⟩ = some (.slice y.la y.legs.length y.lc) ∧ V.cell? ⟨b, o + j * 10 + 7, none⟩ = some (i64 y.period) ∧ V.cell? ⟨b, o + j * 10 + 8, none⟩ = some (i64 y.hold) ∧ V.cell? ⟨b, o + j * 10 + 9, none⟩ = some (.string y.note) ∧ V.cell? ⟨gq, 0, none⟩ = some (i64 x.client) ∧ V.cell? ⟨gq, 1, none⟩ = some (i64 x.seq) ∧ V.cell? ⟨gq, 2, none⟩ = some (i64 x.kind) ∧ V.cell? ⟨gq, 3, none⟩ = some (.string x.acct) ∧ V.cell? ⟨gq, 4, none⟩ = some (.string x.peer) ∧ V.cell? ⟨gq, 5, none⟩ = some (i64 x.sum) ∧ V.cell? ⟨gq, 6, none⟩ = some (.slice x.la x.legs.length x.lc) ∧ V.cell? ⟨gq, 7, none⟩ = some (i64 x.period) ∧ V.cell? ⟨gq, 8, none⟩ = some (i64 x.hold) ∧ V.cell? ⟨gq, 9, none⟩ = some (.string x.note)) (by kernel_rfl) (HS.out _ (Below.refl _ _).drew) (fun hH => ?_)
              refine wpAnyL_take (i := 0) (v := ?v20001) rfl (by kernel_rfl) (by kernel_rfl) (by kernel_rfl) (by kernel_rfl) (fun _ _ _ h => h) (Or.inl ⟨by kernel_rfl, ?hy20001⟩) (by assumption) ?r20001
              case hy20001 => (intro W hSW; obtain ⟨hV0, s0, s1, s2, s3, s4, s5, s6, s7, s8, s9, s10, s11, s12, s13, s14, s15, s16, s17, s18, s19, s20, s21⟩ := hSW; go_simp; try with_reducible rfl)
              try simp only [Act.put, List.getElem_toArray, List.getElem_cons_zero, List.setIfInBounds_toArray, List.set_cons_zero, List.set_cons_succ]
              refine wpAnyL_take (i := 1) (v := ?v20002) rfl (by kernel_rfl) (by kernel_rfl) (by kernel_rfl) (by kernel_rfl) (fun _ _ _ h => h) (Or.inl ⟨by kernel_rfl, ?hy20002⟩) (by assumption) ?r20002
              case hy20002 => (intro W hSW; obtain ⟨hV0, s0, s1, s2, s3, s4, s5, s6, s7, s8, s9, s10, s11, s12, s13, s14, s15, s16, s17, s18, s19, s20, s21⟩ := hSW; go_simp; try with_reducible rfl)
              try simp only [Act.put, List.getElem_toArray, List.getElem_cons_zero, List.getElem_cons_succ, List.setIfInBounds_toArray, List.set_cons_zero, List.set_cons_succ]
              refine wpAnyL_take (i := 2) (v := ?v20003) rfl (by kernel_rfl) (by kernel_rfl) (by kernel_rfl) (by kernel_rfl) (fun _ _ _ h => h) (Or.inl ⟨by kernel_rfl, ?hy20003⟩) (by assumption) ?r20003
              case hy20003 => (intro W hSW; obtain ⟨hV0, s0, s1, s2, s3, s4, s5, s6, s7, s8, s9, s10, s11, s12, s13, s14, s15, s16, s17, s18, s19, s20, s21⟩ := hSW; go_simp; try with_reducible rfl)
              try simp only [Act.put, List.getElem_toArray, List.getElem_cons_zero, List.getElem_cons_succ, List.setIfInBounds_toArray, List.set_cons_zero, List.set_cons_succ]
              refine wpAnyL_take (i := 3) (v := ?v20004) rfl (by kernel_rfl) (by kernel_rfl) (by kernel_rfl) (by kernel_rfl) (fun _ _ _ h => h) (Or.inl ⟨by kernel_rfl, ?hy20004⟩) (by assumption) ?r20004
              case hy20004 => (intro W hSW; obtain ⟨hV0, s0, s1, s2, s3, s4, s5, s6, s7, s8, s9, s10, s11, s12, s13, s14, s15, s16, s17, s18, s19, s20, s21⟩ := hSW; go_simp; try with_reducible rfl)
              try simp only [Act.put, List.getElem_toArray, List.getElem_cons_zero, List.getElem_cons_succ, List.setIfInBounds_toArray, List.set_cons_zero, List.set_cons_succ]
              refine wpAnyL_take (i := 4) (v := ?v20005) rfl (by kernel_rfl) (by kernel_rfl) (by kernel_rfl) (by kernel_rfl) (fun _ _ _ h => h) (Or.inl ⟨by kernel_rfl, ?hy20005⟩) (by assumption) ?r20005
              case hy20005 => (intro W hSW; obtain ⟨hV0, s0, s1, s2, s3, s4, s5, s6, s7, s8, s9, s10, s11, s12, s13, s14, s15, s16, s17, s18, s19, s20, s21⟩ := hSW; go_simp; try with_reducible rfl)
              try simp only [Act.put, List.getElem_toArray, List.getElem_cons_zero, List.getElem_cons_succ, List.setIfInBounds_toArray, List.set_cons_zero, List.set_cons_succ]
              refine wpAnyL_take (i := 5) (v := ?v20006) rfl (by kernel_rfl) (by kernel_rfl) (by kernel_rfl) (by kernel_rfl) (fun _ _ _ h => h) (Or.inl ⟨by kernel_rfl, ?hy20006⟩) (by assumption) ?r20006
              case hy20006 => (intro W hSW; obtain ⟨hV0, s0, s1, s2, s3, s4, s5, s6, s7, s8, s9, s10, s11, s12, s13, s14, s15, s16, s17, s18, s19, s20, s21⟩ := hSW; go_simp; try with_reducible rfl)
              try simp only [Act.put, List.getElem_toArray, List.getElem_cons_zero, List.getElem_cons_succ, List.setIfInBounds_toArray, List.set_cons_zero, List.set_cons_succ]
              refine wpAnyL_take (i := 6) (v := ?v20007) rfl (by kernel_rfl) (by kernel_rfl) (by kernel_rfl) (by kernel_rfl) (fun _ _ _ h => h) (Or.inl ⟨by kernel_rfl, ?hy20007⟩) (by assumption) ?r20007
              case hy20007 => (intro W hSW; obtain ⟨hV0, s0, s1, s2, s3, s4, s5, s6, s7, s8, s9, s10, s11, s12, s13, s14, s15, s16, s17, s18, s19, s20, s21⟩ := hSW; go_simp; try with_reducible rfl)
              try simp only [Act.put, List.getElem_toArray, List.getElem_cons_zero, List.getElem_cons_succ, List.setIfInBounds_toArray, List.set_cons_zero, List.set_cons_succ]
              refine wpAnyL_take (i := 7) (v := ?v20008) rfl (by kernel_rfl) (by kernel_rfl) (by kernel_rfl) (by kernel_rfl) (fun _ _ _ h => h) (Or.inl ⟨by kernel_rfl, ?hy20008⟩) (by assumption) ?r20008
              case hy20008 => (intro W hSW; obtain ⟨hV0, s0, s1, s2, s3, s4, s5, s6, s7, s8, s9, s10, s11, s12, s13, s14, s15, s16, s17, s18, s19, s20, s21⟩ := hSW; go_simp; try with_reducible rfl)
              try simp only [Act.put, List.getElem_toArray, List.getElem_cons_zero, List.getElem_cons_succ, List.setIfInBounds_toArray, List.set_cons_zero, List.set_cons_succ]
              refine wpAnyL_take (i := 8) (v := ?v20009) rfl (by kernel_rfl) (by kernel_rfl) (by kernel_rfl) (by kernel_rfl) (fun _ _ _ h => h) (Or.inl ⟨by kernel_rfl, ?hy20009⟩) (by assumption) ?r20009
              case hy20009 => (intro W hSW; obtain ⟨hV0, s0, s1, s2, s3, s4, s5, s6, s7, s8, s9, s10, s11, s12, s13, s14, s15, s16, s17, s18, s19, s20, s21⟩ := hSW; go_simp; try with_reducible rfl)
              try simp only [Act.put, List.getElem_toArray, List.getElem_cons_zero, List.getElem_cons_succ, List.setIfInBounds_toArray, List.set_cons_zero, List.set_cons_succ]
              refine wpAnyL_take (i := 9) (v := ?v20010) rfl (by kernel_rfl) (by kernel_rfl) (by kernel_rfl) (by kernel_rfl) (fun _ _ _ h => h) (Or.inl ⟨by kernel_rfl, ?hy20010⟩) (by assumption) ?r20010
              case hy20010 => (intro W hSW; obtain ⟨hV0, s0, s1, s2, s3, s4, s5, s6, s7, s8, s9, s10, s11, s12, s13, s14, s15, s16, s17, s18, s19, s20, s21⟩ := hSW; go_simp; try with_reducible rfl)
              try simp only [Act.put, List.getElem_toArray, List.getElem_cons_zero, List.getElem_cons_succ, List.setIfInBounds_toArray, List.set_cons_zero, List.set_cons_succ]
              refine wpAnyL_take (i := 10) (v := ?v20011) rfl (by kernel_rfl) (by kernel_rfl) (by kernel_rfl) (by kernel_rfl) (fun _ _ _ h => h) (Or.inl ⟨by kernel_rfl, ?hy20011⟩) (by assumption) ?r20011
              case hy20011 => (intro W hSW; obtain ⟨hV0, s0, s1, s2, s3, s4, s5, s6, s7, s8, s9, s10, s11, s12, s13, s14, s15, s16, s17, s18, s19, s20, s21⟩ := hSW; go_simp; try with_reducible rfl)
              try simp only [Act.put, List.getElem_toArray, List.getElem_cons_zero, List.getElem_cons_succ, List.setIfInBounds_toArray, List.set_cons_zero, List.set_cons_succ]
              refine wpAnyL_take (i := 11) (v := ?v20012) rfl (by kernel_rfl) (by kernel_rfl) (by kernel_rfl) (by kernel_rfl) (fun _ _ _ h => h) (Or.inl ⟨by kernel_rfl, ?hy20012⟩) (by assumption) ?r20012
              case hy20012 => (intro W hSW; obtain ⟨hV0, s0, s1, s2, s3, s4, s5, s6, s7, s8, s9, s10, s11, s12, s13, s14, s15, s16, s17, s18, s19, s20, s21⟩ := hSW; go_simp; try with_reducible rfl)
              try simp only [Act.put, List.getElem_toArray, List.getElem_cons_zero, List.getElem_cons_succ, List.setIfInBounds_toArray, List.set_cons_zero, List.set_cons_succ]
              refine wpAnyL_take (i := 12) (v := ?v20013) rfl (by kernel_rfl) (by kernel_rfl) (by kernel_rfl) (by kernel_rfl) (fun _ _ _ h => h) (Or.inl ⟨by kernel_rfl, ?hy20013⟩) (by assumption) ?r20013
              case hy20013 => (intro W hSW; obtain ⟨hV0, s0, s1, s2, s3, s4, s5, s6, s7, s8, s9, s10, s11, s12, s13, s14, s15, s16, s17, s18, s19, s20, s21⟩ := hSW; go_simp; try with_reducible rfl)
              try simp only [Act.put, List.getElem_toArray, List.getElem_cons_zero, List.getElem_cons_succ, List.setIfInBounds_toArray, List.set_cons_zero, List.set_cons_succ]
              refine wpAnyL_take (i := 13) (v := ?v20014) rfl (by kernel_rfl) (by kernel_rfl) (by kernel_rfl) (by kernel_rfl) (fun _ _ _ h => h) (Or.inl ⟨by kernel_rfl, ?hy20014⟩) (by assumption) ?r20014
              case hy20014 => (intro W hSW; obtain ⟨hV0, s0, s1, s2, s3, s4, s5, s6, s7, s8, s9, s10, s11, s12, s13, s14, s15, s16, s17, s18, s19, s20, s21⟩ := hSW; go_simp; try with_reducible rfl)
              try simp only [Act.put, List.getElem_toArray, List.getElem_cons_zero, List.getElem_cons_succ, List.setIfInBounds_toArray, List.set_cons_zero, List.set_cons_succ]
              refine wpAnyL_take (i := 14) (v := ?v20015) rfl (by kernel_rfl) (by kernel_rfl) (by kernel_rfl) (by kernel_rfl) (fun _ _ _ h => h) (Or.inl ⟨by kernel_rfl, ?hy20015⟩) (by assumption) ?r20015
              case hy20015 => (intro W hSW; obtain ⟨hV0, s0, s1, s2, s3, s4, s5, s6, s7, s8, s9, s10, s11, s12, s13, s14, s15, s16, s17, s18, s19, s20, s21⟩ := hSW; go_simp; try with_reducible rfl)
              try simp only [Act.put, List.getElem_toArray, List.getElem_cons_zero, List.getElem_cons_succ, List.setIfInBounds_toArray, List.set_cons_zero, List.set_cons_succ]
              refine wpAnyL_one (i := 15) (by kernel_rfl) rfl (by decide) (fun K hK => ?_)
              go_simp
              go_at_call 105
              with_reducible refine (HC.out _ hH.1).mono ?_
              rintro e u1 ⟨rfl, hF⟩
              have hbu := below_on hH.1 (Nat.le_refl _) hF
              clear hF
              refine hK.out _ _ (HS.out _ hbu) (fun hH => ?_)
              clear hK K
              try simp only [Act.put, List.getElem_toArray, List.getElem_cons_zero, List.getElem_cons_succ, List.setIfInBounds_toArray, List.set_cons_zero, List.set_cons_succ]
              refine wpAnyL_last (by kernel_rfl) rfl (fun K hK => ?_)
              go_simp
              refine hK.out _ _ ?_
              clear hK K
              try simp only [Act.put, List.getElem_toArray, List.getElem_cons_zero, List.getElem_cons_succ, List.setIfInBounds_toArray, List.set_cons_zero, List.set_cons_succ]
              refine wpAnyL_done (by kernel_rfl) ?_ _
              refine NoPanic.normal ?_
              have hV := hH.1
              have hgv := grown_trans hg (grown_of_below hV (some w.heap.size))
              have HO2 := Lib.hid (HO.out.later hV)
              clear hH HS
              go_wp2
              go_roundw
              case rel => exact ⟨j + 1, by go_num, by omega, by rw [Hst.out, Hst2.out]; exact HO2.out, hgv⟩
              case measure => simp [intOf]; omega
            · rw [hcl] at HC
              have Hst2 := Lib.hid (show lvF x v (y, a) = a + 1 by unfold lvF; rw [if_pos ⟨hge, hcl⟩])
              have ew : IntKind.i64.wrap (a + 1) = a + 1 := by rw [IntKind.wrap_i64]; omega
              have ew2 : wrap64 (a + 1) = a + 1 := by rw [← IntWalk.i64_left]; exact ew
              clear hcl
              go_upto_region 10 with fail
              refine wp_region_noPanic ?_
              refine wp_region_l 16 (fun V : World => Below wr.heap.size wr V ∧ V.cell? ⟨w.heap.size, j, none⟩ = some (i64 a) ∧ V.cell? ⟨w.heap.size, k, none⟩ = some (i64 v) ∧ V.cell? ⟨b, o + j * 10, none⟩ = some (i64 y.client) ∧ V.cell? ⟨b, o + j * 10 + 1, none⟩ = some (i64 y.seq) ∧ V.cell? ⟨b, o + j * 10 + 2, none⟩ = some (i64 y.kind) ∧ V.cell? ⟨b, o + j * 10 + 3, none⟩ = some (.string y.acct) ∧ V.cell? ⟨b, o + j * 10 + 4, none⟩ = some (.string y.peer) ∧ V.cell? ⟨b, o + j * 10 + 5, none⟩ = some (i64 y.sum) ∧ V.cell? ⟨b, o + j * 10 + 6, none⟩ = some (.slice y.la y.legs.length y.lc) ∧ V.cell? ⟨b, o + j * 10 + 7, none⟩ = some (i64 y.period) ∧ V.cell? ⟨b, o + j * 10 + 8, none⟩ = some (i64 y.hold) ∧ V.cell? ⟨b, o + j * 10 + 9, none⟩ = some (.string y.note) ∧ V.cell? ⟨gq, 0, none⟩ = some (i64 x.client) ∧ V.cell? ⟨gq, 1, none⟩ = some (i64 x.seq) ∧ V.cell? ⟨gq, 2, none⟩ = some (i64 x.kind) ∧ V.cell? ⟨gq, 3, none⟩ = some (.string x.acct) ∧ V.cell? ⟨gq, 4, none⟩ = some (.string x.peer) ∧ V.cell? ⟨gq, 5, none⟩ = some (i64 x.sum) ∧ V.cell? ⟨gq, 6, none⟩ = some (.slice x.la x.legs.length x.lc) ∧ V.cell? ⟨gq, 7, none⟩ = some (i64 x.period) ∧ V.cell? ⟨gq, 8, none⟩ = some (i64 x.hold) ∧ V.cell? ⟨gq, 9, none⟩ = some (.string x.note)) (by kernel_rfl) (HS.out _ (Below.refl _ _).drew) (fun hH => ?_)
              refine wpAnyL_take (i := 0) (v := ?v20016) rfl (by kernel_rfl) (by kernel_rfl) (by kernel_rfl) (by kernel_rfl) (fun _ _ _ h => h) (Or.inl ⟨by kernel_rfl, ?hy20016⟩) (by assumption) ?r20016
              case hy20016 => (intro W hSW; obtain ⟨hV0, s0, s1, s2, s3, s4, s5, s6, s7, s8, s9, s10, s11, s12, s13, s14, s15, s16, s17, s18, s19, s20, s21⟩ := hSW; go_simp; try with_reducible rfl)
              try simp only [Act.put, List.getElem_toArray, List.getElem_cons_zero, List.setIfInBounds_toArray, List.set_cons_zero, List.set_cons_succ]
              refine wpAnyL_take (i := 1) (v := ?v20017) rfl (by kernel_rfl) (by kernel_rfl) (by kernel_rfl) (by kernel_rfl) (fun _ _ _ h => h) (Or.inl ⟨by kernel_rfl, ?hy20017⟩) (by assumption) ?r20017
              case hy20017 => (intro W hSW; obtain ⟨hV0, s0, s1, s2, s3, s4, s5, s6, s7, s8, s9, s10, s11, s12, s13, s14, s15, s16, s17, s18, s19, s20, s21⟩ := hSW; go_simp; try with_reducible rfl)
              try simp only [Act.put, List.getElem_toArray, List.getElem_cons_zero, List.getElem_cons_succ, List.setIfInBounds_toArray, List.set_cons_zero, List.set_cons_succ]
              refine wpAnyL_take (i := 2) (v := ?v20018) rfl (by kernel_rfl) (by kernel_rfl) (by kernel_rfl) (by kernel_rfl) (fun _ _ _ h => h) (Or.inl ⟨by kernel_rfl, ?hy20018⟩) (by assumption) ?r20018
              case hy20018 => (intro W hSW; obtain ⟨hV0, s0, s1, s2, s3, s4, s5, s6, s7, s8, s9, s10, s11, s12, s13, s14, s15, s16, s17, s18, s19, s20, s21⟩ := hSW; go_simp; try with_reducible rfl)
              try simp only [Act.put, List.getElem_toArray, List.getElem_cons_zero, List.getElem_cons_succ, List.setIfInBounds_toArray, List.set_cons_zero, List.set_cons_succ]
              refine wpAnyL_take (i := 3) (v := ?v20019) rfl (by kernel_rfl) (by kernel_rfl) (by kernel_rfl) (by kernel_rfl) (fun _ _ _ h => h) (Or.inl ⟨by kernel_rfl, ?hy20019⟩) (by assumption) ?r20019
              case hy20019 => (intro W hSW; obtain ⟨hV0, s0, s1, s2, s3, s4, s5, s6, s7, s8, s9, s10, s11, s12, s13, s14, s15, s16, s17, s18, s19, s20, s21⟩ := hSW; go_simp; try with_reducible rfl)
              try simp only [Act.put, List.getElem_toArray, List.getElem_cons_zero, List.getElem_cons_succ, List.setIfInBounds_toArray, List.set_cons_zero, List.set_cons_succ]
              refine wpAnyL_take (i := 4) (v := ?v20020) rfl (by kernel_rfl) (by kernel_rfl) (by kernel_rfl) (by kernel_rfl) (fun _ _ _ h => h) (Or.inl ⟨by kernel_rfl, ?hy20020⟩) (by assumption) ?r20020
              case hy20020 => (intro W hSW; obtain ⟨hV0, s0, s1, s2, s3, s4, s5, s6, s7, s8, s9, s10, s11, s12, s13, s14, s15, s16, s17, s18, s19, s20, s21⟩ := hSW; go_simp; try with_reducible rfl)
              try simp only [Act.put, List.getElem_toArray, List.getElem_cons_zero, List.getElem_cons_succ, List.setIfInBounds_toArray, List.set_cons_zero, List.set_cons_succ]
              refine wpAnyL_take (i := 5) (v := ?v20021) rfl (by kernel_rfl) (by kernel_rfl) (by kernel_rfl) (by kernel_rfl) (fun _ _ _ h => h) (Or.inl ⟨by kernel_rfl, ?hy20021⟩) (by assumption) ?r20021
              case hy20021 => (intro W hSW; obtain ⟨hV0, s0, s1, s2, s3, s4, s5, s6, s7, s8, s9, s10, s11, s12, s13, s14, s15, s16, s17, s18, s19, s20, s21⟩ := hSW; go_simp; try with_reducible rfl)
              try simp only [Act.put, List.getElem_toArray, List.getElem_cons_zero, List.getElem_cons_succ, List.setIfInBounds_toArray, List.set_cons_zero, List.set_cons_succ]
              refine wpAnyL_take (i := 6) (v := ?v20022) rfl (by kernel_rfl) (by kernel_rfl) (by kernel_rfl) (by kernel_rfl) (fun _ _ _ h => h) (Or.inl ⟨by kernel_rfl, ?hy20022⟩) (by assumption) ?r20022
              case hy20022 => (intro W hSW; obtain ⟨hV0, s0, s1, s2, s3, s4, s5, s6, s7, s8, s9, s10, s11, s12, s13, s14, s15, s16, s17, s18, s19, s20, s21⟩ := hSW; go_simp; try with_reducible rfl)
              try simp only [Act.put, List.getElem_toArray, List.getElem_cons_zero, List.getElem_cons_succ, List.setIfInBounds_toArray, List.set_cons_zero, List.set_cons_succ]
              refine wpAnyL_take (i := 7) (v := ?v20023) rfl (by kernel_rfl) (by kernel_rfl) (by kernel_rfl) (by kernel_rfl) (fun _ _ _ h => h) (Or.inl ⟨by kernel_rfl, ?hy20023⟩) (by assumption) ?r20023
              case hy20023 => (intro W hSW; obtain ⟨hV0, s0, s1, s2, s3, s4, s5, s6, s7, s8, s9, s10, s11, s12, s13, s14, s15, s16, s17, s18, s19, s20, s21⟩ := hSW; go_simp; try with_reducible rfl)
              try simp only [Act.put, List.getElem_toArray, List.getElem_cons_zero, List.getElem_cons_succ, List.setIfInBounds_toArray, List.set_cons_zero, List.set_cons_succ]
              refine wpAnyL_take (i := 8) (v := ?v20024) rfl (by kernel_rfl) (by kernel_rfl) (by kernel_rfl) (by kernel_rfl) (fun _ _ _ h => h) (Or.inl ⟨by kernel_rfl, ?hy20024⟩) (by assumption) ?r20024
              case hy20024 => (intro W hSW; obtain ⟨hV0, s0, s1, s2, s3, s4, s5, s6, s7, s8, s9, s10, s11, s12, s13, s14, s15, s16, s17, s18, s19, s20, s21⟩ := hSW; go_simp; try with_reducible rfl)
              try simp only [Act.put, List.getElem_toArray, List.getElem_cons_zero, List.getElem_cons_succ, List.setIfInBounds_toArray, List.set_cons_zero, List.set_cons_succ]
              refine wpAnyL_take (i := 9) (v := ?v20025) rfl (by kernel_rfl) (by kernel_rfl) (by kernel_rfl) (by kernel_rfl) (fun _ _ _ h => h) (Or.inl ⟨by kernel_rfl, ?hy20025⟩) (by assumption) ?r20025
              case hy20025 => (intro W hSW; obtain ⟨hV0, s0, s1, s2, s3, s4, s5, s6, s7, s8, s9, s10, s11, s12, s13, s14, s15, s16, s17, s18, s19, s20, s21⟩ := hSW; go_simp; try with_reducible rfl)
              try simp only [Act.put, List.getElem_toArray, List.getElem_cons_zero, List.getElem_cons_succ, List.setIfInBounds_toArray, List.set_cons_zero, List.set_cons_succ]
              refine wpAnyL_take (i := 10) (v := ?v20026) rfl (by kernel_rfl) (by kernel_rfl) (by kernel_rfl) (by kernel_rfl) (fun _ _ _ h => h) (Or.inl ⟨by kernel_rfl, ?hy20026⟩) (by assumption) ?r20026
              case hy20026 => (intro W hSW; obtain ⟨hV0, s0, s1, s2, s3, s4, s5, s6, s7, s8, s9, s10, s11, s12, s13, s14, s15, s16, s17, s18, s19, s20, s21⟩ := hSW; go_simp; try with_reducible rfl)
              try simp only [Act.put, List.getElem_toArray, List.getElem_cons_zero, List.getElem_cons_succ, List.setIfInBounds_toArray, List.set_cons_zero, List.set_cons_succ]
              refine wpAnyL_take (i := 11) (v := ?v20027) rfl (by kernel_rfl) (by kernel_rfl) (by kernel_rfl) (by kernel_rfl) (fun _ _ _ h => h) (Or.inl ⟨by kernel_rfl, ?hy20027⟩) (by assumption) ?r20027
              case hy20027 => (intro W hSW; obtain ⟨hV0, s0, s1, s2, s3, s4, s5, s6, s7, s8, s9, s10, s11, s12, s13, s14, s15, s16, s17, s18, s19, s20, s21⟩ := hSW; go_simp; try with_reducible rfl)
              try simp only [Act.put, List.getElem_toArray, List.getElem_cons_zero, List.getElem_cons_succ, List.setIfInBounds_toArray, List.set_cons_zero, List.set_cons_succ]
              refine wpAnyL_take (i := 12) (v := ?v20028) rfl (by kernel_rfl) (by kernel_rfl) (by kernel_rfl) (by kernel_rfl) (fun _ _ _ h => h) (Or.inl ⟨by kernel_rfl, ?hy20028⟩) (by assumption) ?r20028
              case hy20028 => (intro W hSW; obtain ⟨hV0, s0, s1, s2, s3, s4, s5, s6, s7, s8, s9, s10, s11, s12, s13, s14, s15, s16, s17, s18, s19, s20, s21⟩ := hSW; go_simp; try with_reducible rfl)
              try simp only [Act.put, List.getElem_toArray, List.getElem_cons_zero, List.getElem_cons_succ, List.setIfInBounds_toArray, List.set_cons_zero, List.set_cons_succ]
              refine wpAnyL_take (i := 13) (v := ?v20029) rfl (by kernel_rfl) (by kernel_rfl) (by kernel_rfl) (by kernel_rfl) (fun _ _ _ h => h) (Or.inl ⟨by kernel_rfl, ?hy20029⟩) (by assumption) ?r20029
              case hy20029 => (intro W hSW; obtain ⟨hV0, s0, s1, s2, s3, s4, s5, s6, s7, s8, s9, s10, s11, s12, s13, s14, s15, s16, s17, s18, s19, s20, s21⟩ := hSW; go_simp; try with_reducible rfl)
              try simp only [Act.put, List.getElem_toArray, List.getElem_cons_zero, List.getElem_cons_succ, List.setIfInBounds_toArray, List.set_cons_zero, List.set_cons_succ]
              refine wpAnyL_take (i := 14) (v := ?v20030) rfl (by kernel_rfl) (by kernel_rfl) (by kernel_rfl) (by kernel_rfl) (fun _ _ _ h => h) (Or.inl ⟨by kernel_rfl, ?hy20030⟩) (by assumption) ?r20030
              case hy20030 => (intro W hSW; obtain ⟨hV0, s0, s1, s2, s3, s4, s5, s6, s7, s8, s9, s10, s11, s12, s13, s14, s15, s16, s17, s18, s19, s20, s21⟩ := hSW; go_simp; try with_reducible rfl)
              try simp only [Act.put, List.getElem_toArray, List.getElem_cons_zero, List.getElem_cons_succ, List.setIfInBounds_toArray, List.set_cons_zero, List.set_cons_succ]
              refine wpAnyL_one (i := 15) (by kernel_rfl) rfl (by decide) (fun K hK => ?_)
              go_simp
              go_at_call 105
              with_reducible refine (HC.out _ hH.1).mono ?_
              rintro e u1 ⟨rfl, hF⟩
              have hbu := below_on hH.1 (Nat.le_refl _) hF
              clear hF
              refine hK.out _ _ (HS.out _ hbu) (fun hH => ?_)
              clear hK K
              try simp only [Act.put, List.getElem_toArray, List.getElem_cons_zero, List.getElem_cons_succ, List.setIfInBounds_toArray, List.set_cons_zero, List.set_cons_succ]
              refine wpAnyL_last (by kernel_rfl) rfl (fun K hK => ?_)
              go_simp
              refine hK.out _ _ ?_
              clear hK K
              try simp only [Act.put, List.getElem_toArray, List.getElem_cons_zero, List.getElem_cons_succ, List.setIfInBounds_toArray, List.set_cons_zero, List.set_cons_succ]
              refine wpAnyL_done (by kernel_rfl) ?_ _
              refine NoPanic.normal ?_
              have hV := hH.1
              have hgv := grown_trans hg (grown_of_below hV (some w.heap.size))
              have HO2 := Lib.hid (HO.out.later hV)
              have ej := hH.2.1
              clear hH HS
              go_wp2_with (refine wpList_store_own rfl none (.tmp 50) (.tmp 49) 3 rfl rfl (by kernel_rfl) w.heap.size l.length l.length k k (a + 1) HO2.out (by rw [HlR.out]; exact hlt) rfl (Nat.mul_one k).symm rfl trivial ?_; intro w3 hO3 hg3)
              rw [Hset.out] at hO3
              go_roundw
              case rel => exact ⟨j + 1, by go_num, by omega, by rw [Hst.out, Hst2.out]; exact hO3, grown_trans hgv hg3⟩
              case measure => simp [intOf]; omega
          · have c1 : decide (a ≥ v) = false := decide_eq_false hge
            have c2 : decide (v ≤ a) = false := decide_eq_false hge
            have Hst2 := Lib.hid (show lvF x v (y, a) = v by unfold lvF; rw [if_neg]; rintro ⟨h, _⟩; exact hge h)
            clear HC
            go_upto_region 10 with fail
            refine wp_region_noPanic ?_
            refine wp_region_l 16 (fun V : World => Below wr.heap.size wr V ∧ V.cell? ⟨w.heap.size, j, none⟩ = some (i64 a) ∧ V.cell? ⟨w.heap.size, k, none⟩ = some (i64 v) ∧ V.cell? ⟨b, o + j * 10, none⟩ = some (i64 y.client) ∧ V.cell? ⟨b, o + j * 10 + 1, none⟩ = some (i64 y.seq) ∧ V.cell? ⟨b, o + j * 10 + 2, none⟩ = some (i64 y.kind) ∧ V.cell? ⟨b, o + j * 10 + 3, none⟩ = some (.string y.acct) ∧ V.cell? ⟨b, o + j * 10 + 4, none⟩ = some (.string y.peer) ∧ V.cell? ⟨b, o + j * 10 + 5, none⟩ = some (i64 y.sum) ∧ V.cell? ⟨b, o + j * 10 + 6, none⟩ = some (.slice y.la y.legs.length y.lc) ∧ V.cell? ⟨b, o + j * 10 + 7, none⟩ = some (i64 y.period) ∧ V.cell? ⟨b, o + j * 10 + 8, none⟩ = some (i64 y.hold) ∧ V.cell? ⟨b, o + j * 10 + 9, none⟩ = some (.string y.note) ∧ V.cell? ⟨gq, 0, none⟩ = some (i64 x.client) ∧ V.cell? ⟨gq, 1, none⟩ = some (i64 x.seq) ∧ V.cell? ⟨gq, 2, none⟩ = some (i64 x.kind) ∧ V.cell? ⟨gq, 3, none⟩ = some (.string x.acct) ∧ V.cell? ⟨gq, 4, none⟩ = some (.string x.peer) ∧ V.cell? ⟨gq, 5, none⟩ = some (i64 x.sum) ∧ V.cell? ⟨gq, 6, none⟩ = some (.slice x.la x.legs.length x.lc) ∧ V.cell? ⟨gq, 7, none⟩ = some (i64 x.period) ∧ V.cell? ⟨gq, 8, none⟩ = some (i64 x.hold) ∧ V.cell? ⟨gq, 9, none⟩ = some (.string x.note)) (by kernel_rfl) (HS.out _ (Below.refl _ _).drew) (fun hH => ?_)
            refine wpAnyL_take (i := 0) (v := ?v20031) rfl (by kernel_rfl) (by kernel_rfl) (by kernel_rfl) (by kernel_rfl) (fun _ _ _ h => h) (Or.inl ⟨by kernel_rfl, ?hy20031⟩) (by assumption) ?r20031
            case hy20031 => (intro W hSW; obtain ⟨hV0, s0, s1, s2, s3, s4, s5, s6, s7, s8, s9, s10, s11, s12, s13, s14, s15, s16, s17, s18, s19, s20, s21⟩ := hSW; go_simp; try with_reducible rfl)
            try simp only [Act.put, List.getElem_toArray, List.getElem_cons_zero, List.setIfInBounds_toArray, List.set_cons_zero, List.set_cons_succ]
            refine wpAnyL_take (i := 1) (v := ?v20032) rfl (by kernel_rfl) (by kernel_rfl) (by kernel_rfl) (by kernel_rfl) (fun _ _ _ h => h) (Or.inl ⟨by kernel_rfl, ?hy20032⟩) (by assumption) ?r20032
            case hy20032 => (intro W hSW; obtain ⟨hV0, s0, s1, s2, s3, s4, s5, s6, s7, s8, s9, s10, s11, s12, s13, s14, s15, s16, s17, s18, s19, s20, s21⟩ := hSW; go_simp; try with_reducible rfl)
            try simp only [Act.put, List.getElem_toArray, List.getElem_cons_zero, List.getElem_cons_succ, List.setIfInBounds_toArray, List.set_cons_zero, List.set_cons_succ]
            refine wpAnyL_take (i := 2) (v := ?v20033) rfl (by kernel_rfl) (by kernel_rfl) (by kernel_rfl) (by kernel_rfl) (fun _ _ _ h => h) (Or.inl ⟨by kernel_rfl, ?hy20033⟩) (by assumption) ?r20033
            case hy20033 => (intro W hSW; obtain ⟨hV0, s0, s1, s2, s3, s4, s5, s6, s7, s8, s9, s10, s11, s12, s13, s14, s15, s16, s17, s18, s19, s20, s21⟩ := hSW; go_simp; try with_reducible rfl)
            try simp only [Act.put, List.getElem_toArray, List.getElem_cons_zero, List.getElem_cons_succ, List.setIfInBounds_toArray, List.set_cons_zero, List.set_cons_succ]
            refine wpAnyL_take (i := 3) (v := ?v20034) rfl (by kernel_rfl) (by kernel_rfl) (by kernel_rfl) (by kernel_rfl) (fun _ _ _ h => h) (Or.inl ⟨by kernel_rfl, ?hy20034⟩) (by assumption) ?r20034
            case hy20034 => (intro W hSW; obtain ⟨hV0, s0, s1, s2, s3, s4, s5, s6, s7, s8, s9, s10, s11, s12, s13, s14, s15, s16, s17, s18, s19, s20, s21⟩ := hSW; go_simp; try with_reducible rfl)
            try simp only [Act.put, List.getElem_toArray, List.getElem_cons_zero, List.getElem_cons_succ, List.setIfInBounds_toArray, List.set_cons_zero, List.set_cons_succ]
            refine wpAnyL_take (i := 4) (v := ?v20035) rfl (by kernel_rfl) (by kernel_rfl) (by kernel_rfl) (by kernel_rfl) (fun _ _ _ h => h) (Or.inl ⟨by kernel_rfl, ?hy20035⟩) (by assumption) ?r20035
            case hy20035 => (intro W hSW; obtain ⟨hV0, s0, s1, s2, s3, s4, s5, s6, s7, s8, s9, s10, s11, s12, s13, s14, s15, s16, s17, s18, s19, s20, s21⟩ := hSW; go_simp; try with_reducible rfl)
            try simp only [Act.put, List.getElem_toArray, List.getElem_cons_zero, List.getElem_cons_succ, List.setIfInBounds_toArray, List.set_cons_zero, List.set_cons_succ]
            refine wpAnyL_take (i := 5) (v := ?v20036) rfl (by kernel_rfl) (by kernel_rfl) (by kernel_rfl) (by kernel_rfl) (fun _ _ _ h => h) (Or.inl ⟨by kernel_rfl, ?hy20036⟩) (by assumption) ?r20036
            case hy20036 => (intro W hSW; obtain ⟨hV0, s0, s1, s2, s3, s4, s5, s6, s7, s8, s9, s10, s11, s12, s13, s14, s15, s16, s17, s18, s19, s20, s21⟩ := hSW; go_simp; try with_reducible rfl)
            try simp only [Act.put, List.getElem_toArray, List.getElem_cons_zero, List.getElem_cons_succ, List.setIfInBounds_toArray, List.set_cons_zero, List.set_cons_succ]
            refine wpAnyL_take (i := 6) (v := ?v20037) rfl (by kernel_rfl) (by kernel_rfl) (by kernel_rfl) (by kernel_rfl) (fun _ _ _ h => h) (Or.inl ⟨by kernel_rfl, ?hy20037⟩) (by assumption) ?r20037
            case hy20037 => (intro W hSW; obtain ⟨hV0, s0, s1, s2, s3, s4, s5, s6, s7, s8, s9, s10, s11, s12, s13, s14, s15, s16, s17, s18, s19, s20, s21⟩ := hSW; go_simp; try with_reducible rfl)
            try simp only [Act.put, List.getElem_toArray, List.getElem_cons_zero, List.getElem_cons_succ, List.setIfInBounds_toArray, List.set_cons_zero, List.set_cons_succ]
            refine wpAnyL_take (i := 7) (v := ?v20038) rfl (by kernel_rfl) (by kernel_rfl) (by kernel_rfl) (by kernel_rfl) (fun _ _ _ h => h) (Or.inl ⟨by kernel_rfl, ?hy20038⟩) (by assumption) ?r20038
            case hy20038 => (intro W hSW; obtain ⟨hV0, s0, s1, s2, s3, s4, s5, s6, s7, s8, s9, s10, s11, s12, s13, s14, s15, s16, s17, s18, s19, s20, s21⟩ := hSW; go_simp; try with_reducible rfl)
            try simp only [Act.put, List.getElem_toArray, List.getElem_cons_zero, List.getElem_cons_succ, List.setIfInBounds_toArray, List.set_cons_zero, List.set_cons_succ]
            refine wpAnyL_take (i := 8) (v := ?v20039) rfl (by kernel_rfl) (by kernel_rfl) (by kernel_rfl) (by kernel_rfl) (fun _ _ _ h => h) (Or.inl ⟨by kernel_rfl, ?hy20039⟩) (by assumption) ?r20039
            case hy20039 => (intro W hSW; obtain ⟨hV0, s0, s1, s2, s3, s4, s5, s6, s7, s8, s9, s10, s11, s12, s13, s14, s15, s16, s17, s18, s19, s20, s21⟩ := hSW; go_simp; try with_reducible rfl)
            try simp only [Act.put, List.getElem_toArray, List.getElem_cons_zero, List.getElem_cons_succ, List.setIfInBounds_toArray, List.set_cons_zero, List.set_cons_succ]
            refine wpAnyL_take (i := 9) (v := ?v20040) rfl (by kernel_rfl) (by kernel_rfl) (by kernel_rfl) (by kernel_rfl) (fun _ _ _ h => h) (Or.inl ⟨by kernel_rfl, ?hy20040⟩) (by assumption) ?r20040
            case hy20040 => (intro W hSW; obtain ⟨hV0, s0, s1, s2, s3, s4, s5, s6, s7, s8, s9, s10, s11, s12, s13, s14, s15, s16, s17, s18, s19, s20, s21⟩ := hSW; go_simp; try with_reducible rfl)
            try simp only [Act.put, List.getElem_toArray, List.getElem_cons_zero, List.getElem_cons_succ, List.setIfInBounds_toArray, List.set_cons_zero, List.set_cons_succ]
            refine wpAnyL_take (i := 10) (v := undef) rfl (by kernel_rfl) (by kernel_rfl) (by kernel_rfl) (by kernel_rfl) (fun _ _ _ h => h) (Or.inr ⟨by kernel_rfl, rfl⟩) (by assumption) ?r20041
            try simp only [Act.put, List.getElem_toArray, List.getElem_cons_zero, List.getElem_cons_succ, List.setIfInBounds_toArray, List.set_cons_zero, List.set_cons_succ]
            refine wpAnyL_take (i := 11) (v := undef) rfl (by kernel_rfl) (by kernel_rfl) (by kernel_rfl) (by kernel_rfl) (fun _ _ _ h => h) (Or.inr ⟨by kernel_rfl, rfl⟩) (by assumption) ?r20042
            try simp only [Act.put, List.getElem_toArray, List.getElem_cons_zero, List.getElem_cons_succ, List.setIfInBounds_toArray, List.set_cons_zero, List.set_cons_succ]
            refine wpAnyL_take (i := 12) (v := undef) rfl (by kernel_rfl) (by kernel_rfl) (by kernel_rfl) (by kernel_rfl) (fun _ _ _ h => h) (Or.inr ⟨by kernel_rfl, rfl⟩) (by assumption) ?r20043
            try simp only [Act.put, List.getElem_toArray, List.getElem_cons_zero, List.getElem_cons_succ, List.setIfInBounds_toArray, List.set_cons_zero, List.set_cons_succ]
            refine wpAnyL_take (i := 13) (v := undef) rfl (by kernel_rfl) (by kernel_rfl) (by kernel_rfl) (by kernel_rfl) (fun _ _ _ h => h) (Or.inr ⟨by kernel_rfl, rfl⟩) (by assumption) ?r20044
            try simp only [Act.put, List.getElem_toArray, List.getElem_cons_zero, List.getElem_cons_succ, List.setIfInBounds_toArray, List.set_cons_zero, List.set_cons_succ]
            refine wpAnyL_take (i := 14) (v := undef) rfl (by kernel_rfl) (by kernel_rfl) (by kernel_rfl) (by kernel_rfl) (fun _ _ _ h => h) (Or.inr ⟨by kernel_rfl, rfl⟩) (by assumption) ?r20045
            try simp only [Act.put, List.getElem_toArray, List.getElem_cons_zero, List.getElem_cons_succ, List.setIfInBounds_toArray, List.set_cons_zero, List.set_cons_succ]
            refine wpAnyL_take (i := 15) (v := undef) rfl (by kernel_rfl) (by kernel_rfl) (by kernel_rfl) (by kernel_rfl) (fun _ _ _ h => h) (Or.inr ⟨by kernel_rfl, rfl⟩) (by assumption) ?r20046
            try simp only [Act.put, List.getElem_toArray, List.getElem_cons_zero, List.getElem_cons_succ, List.setIfInBounds_toArray, List.set_cons_zero, List.set_cons_succ]
            refine wpAnyL_last (by kernel_rfl) rfl (fun K hK => ?_)
            go_simp
            refine hK.out _ _ ?_
            clear hK K
            try simp only [Act.put, List.getElem_toArray, List.getElem_cons_zero, List.getElem_cons_succ, List.setIfInBounds_toArray, List.set_cons_zero, List.set_cons_succ]
            refine wpAnyL_done (by kernel_rfl) ?_ _
            refine NoPanic.normal ?_
            have hV := hH.1
            have hgv := grown_trans hg (grown_of_below hV (some w.heap.size))
            have HO2 := Lib.hid (HO.out.later hV)
            clear hH HS
            go_wp2
            go_roundw
            case rel => exact ⟨j + 1, by go_num, by omega, by rw [Hst.out, Hst2.out]; exact HO2.out, hgv⟩
            case measure => simp [intOf]; omega
        · obtain rfl : j = k := by omega
          have g3 : decide ((j : Int) < (j : Int)) = false := decide_eq_false (by omega)
          have hlv : ((levP pre).take j).foldl (lvF x) 1 = lvAt (levP pre) x := by
            rw [List.take_of_length_le (by rw [levP_len, hpl]; exact Nat.le_refl _)]; rfl
          rw [hlv] at hO ek hv2
          have hv1 := lvAt_pos (levP pre) x
          have hrow : lvRow pre (lvAt (levP pre) x) (l.length - j - 1) = lvInts (l.take (j + 1)) ++ List.replicate (l.length - (j + 1)) 0 := by
            rw [HI.out]; unfold lvRow; rw [List.append_assoc, show l.length - j - 1 = l.length - (j + 1) from by omega]; rfl
          rw [hrow] at hO
          have hmx : max (mostP (levP pre)) (lvAt (levP pre) x) = if mostP (levP pre) < lvAt (levP pre) x then lvAt (levP pre) x else mostP (levP pre) := by
            rw [Int.max_def]; split <;> split <;> omega
          rw [← HM.out] at hmx
          have Hmx := Lib.hid hmx
          have HO := Lib.hid hO
          clear hO hrow hlv hvk hmx hlow HT HM HI hqi hlR
          generalize lvAt (levP pre) x = v at *
          generalize mostP (levP pre) = m at *
          go_wp2
          go_roundw
          case rel => exact ⟨j + 1, by rw [← Hmx.out], by go_num, by omega, HO.out, hbi, by have := hg.size; omega⟩
          case measure => simp [intOf]; omega
    · obtain rfl : k = l.length := by omega
      have g1 : decide ((l.length : Int) < (l.length : Int)) = false := decide_eq_false (by omega)
      rw [List.take_length, Nat.sub_self, List.replicate_zero, List.append_nil] at hO
      rw [List.take_length]
      go_wp2
      go_ret2
      exact ⟨_, rfl, hO, hb⟩
end Go.Proofs.YtdkkblhfjblpkaaGreat
