/- audit: sorting moves: the row, one comparison -/
import Derived.Test.YtgholbeehkfbiaaGreatRows
import Derived.Test.YtgholbeehkfbiaaGreatBpAuL
import Derived.Test.YtgholbeehkfbiaaGreatBm20
import Derived.Test.YtgholbeehkfbiaaGreatBm15
import Derived.Test.YtgholbeehkfbiaaGreatBm10
import Derived.WalkKit
import Derived.WalkSpells
import Derived.WalkLawsBesides
import Derived.Deep.QuietTactic
import Derived.BigQuiet
import Derived.Laws.StructEq
import Derived.Deep.DeepFit
import Derived.StillTailTactics
namespace Go.Proofs.YtgholbeehkfbiaaGreat
open Go.RowKit
/-- the row that is sorted -/
structure RowM (V : World) (B g n cap : Nat) (l : List Mv) : Prop where
  own : Own V B 85 (.slice (some ⟨g, 0, none⟩) n cap) l
  len : l.length = n
theorem RowM.later {V V' : World} {B g n cap : Nat} {l : List Mv} (h : RowM V B g n cap l) (hb : Below V.heap.size V V') : RowM V' B g n cap l := ⟨h.own.later hb, h.len⟩
theorem RowM.capn {V : World} {B g n cap : Nat} {l : List Mv} (h : RowM V B g n cap l) : n ≤ cap := by
  obtain ⟨cur, _, _, hn, hc, _⟩ := h.own.cells
  exact hc
theorem RowM.lo {V : World} {B g n cap : Nat} {l : List Mv} (h : RowM V B g n cap l) : B ≤ g ∧ g < V.heap.size := by
  obtain ⟨cur, hg, hb, _⟩ := h.own.cells
  exact ⟨hb, (Array.getElem?_eq_some_iff.1 hg).1⟩
theorem RowM.at_ {V : World} {B g n cap : Nat} {l : List Mv} (h : RowM V B g n cap l) {i : Nat} (hi : i < l.length) : Mv.Ok V (Oth V (.slice (some ⟨g, 0, none⟩) n cap)) l[i] ∧ V.cell? ⟨g, i * 4, none⟩ = some (i64 l[i].client) ∧ V.cell? ⟨g, i * 4 + 1, none⟩ = some (i64 l[i].seq) ∧ V.cell? ⟨g, i * 4 + 2, none⟩ = some (i64 l[i].period) ∧ V.cell? ⟨g, i * 4 + 3, none⟩ = some (.slice l[i].la l[i].legs.length l[i].lc) := by
  obtain ⟨A, c, hv, hs⟩ := h.own.sl
  injection hv with e1 e2 e3
  obtain ⟨b, o, hA, -, -, c0, c1, c2, c3⟩ := hs.mv hi
  rw [hA] at e1
  injection e1 with e1
  injection e1 with e1 e4
  subst e1 e4
  rw [Nat.zero_add] at c0 c1 c2 c3
  exact ⟨h.own.2 l[i] (List.getElem_mem hi), c0, c1, c2, c3⟩
abbrev Mv.v (x : Mv) : Value := .agg #[i64 x.client, i64 x.seq, i64 x.period, .slice x.la x.legs.length x.lc]
theorem oper_load_mv {o : Oper} {a : Act} {w : World} {K : Act → World → Prop} {Q : Exit → Act → World → Prop} (n : Nat) (ho : o.op = .load 85 (.tmp n)) (g off : Nat) (x : Mv) (hx : a.tmps[n]?.getD undef = .pointer (some ⟨g, off, none⟩))
    (c0 : w.cell? ⟨g, off, none⟩ = some (i64 x.client)) (c1 : w.cell? ⟨g, off + 1, none⟩ = some (i64 x.seq)) (c2 : w.cell? ⟨g, off + 2, none⟩ = some (i64 x.period)) (c3 : w.cell? ⟨g, off + 3, none⟩ = some (.slice x.la x.legs.length x.lc))
    (hK : K (a.put o.dst x.v) w) : Oper.wp Tryz.prog o a w K Q := by
  obtain ⟨d, op, t, ps, af, gd⟩ := o
  dsimp only at ho hK
  subst ho
  go_simp
  exact hK
theorem oper_callv2 {P : Program} {o : Oper} {a : Act} {w : World} {K : Act → World → Prop} {Q : Exit → Act → World → Prop} (f c n m : Nat) (ts : Array TypeId) (ho : o.op = .call { callee := .value (.tmp c), args := #[.tmp n, .tmp m], argTypes := ts }) (hc : a.tmps[c]?.getD undef = .func (.func f) #[] #[]) (v u : Value) (hx : a.tmps[n]?.getD undef = v) (hy : a.tmps[m]?.getD undef = u)
    (ek : ∀ args w, (callFunc f args).run P w = .ok (.enter f args) w) (h : Calls P f #[v, u] w fun e w' => ∃ r, e = .returned r ∧ K (a.put o.dst r) w') : Oper.wp P o a w K Q := by
  obtain ⟨d, op, t, ps, af, gd⟩ := o
  dsimp only at ho h
  subst ho
  go_simp
  exact h.mono (by rintro e w' ⟨r, rfl, h2⟩; exact h2)
/-- which move is the greater one -/
def ltM (x y : Mv) : Bool := decide (amtL y.legs < amtL x.legs)
theorem ltM_strict : Strict ltM where
  irr a := by unfold ltM; simp
  trans a b c h1 h2 := by unfold ltM at *; simp only [decide_eq_true_eq] at *; omega
  co a b c h1 h2 := by unfold ltM at *; simp only [decide_eq_false_iff_not] at *; omega
def okMv (x : Mv) : Prop := x.legs.length ≤ 1000 ∧ ∀ y ∈ x.legs, R64 y.sum
def cmpM (x y : Mv) : Int := cmpI (amtL y.legs) (amtL x.legs)
theorem cmpM_lt (x y : Mv) : decide (cmpM x y < 0) = ltM x y := by
  unfold cmpM cmpI ltM
  by_cases h1 : amtL y.legs < amtL x.legs
  · rw [if_pos h1, decide_eq_true h1]; rfl
  · rw [if_neg h1, decide_eq_false h1]
    split <;> rfl
set_option maxRecDepth 100000 in
set_option maxHeartbeats 2000000 in
theorem isNaNj_c (s : Int) (w : World) : Calls Tryz.prog 135 #[i64 s] w fun e w' => e = .returned (.bool false) ∧ w = w' := by
  go_enter Tryz.func135, Tryz.ntmps135
  go_wp2
  go_ret
  exact ⟨rfl, rfl⟩
set_option maxRecDepth 100000 in
set_option maxHeartbeats 2000000 in
theorem cmpJ_c (s t : Int) (w : World) : Calls Tryz.prog 90 #[i64 s, i64 t] w fun e w' => e = .returned (i64 (cmpI s t)) ∧ w = w' := by
  have HC := Lib.hid (show cmpI s t = if s < t then -1 else if t < s then 1 else 0 from rfl)
  generalize cmpI s t = r at *
  go_enter Tryz.func90, Tryz.ntmps90
  go_wp2_with fail
  refine (isNaNj_c _ _).mono ?_
  rintro e w1 ⟨rfl, rfl⟩
  go_wp2_with fail
  refine (isNaNj_c _ _).mono ?_
  rintro e w1 ⟨rfl, rfl⟩
  by_cases h1 : s < t
  · have g1 : decide (s < t) = true := decide_eq_true h1
    have HR := Lib.hid (show r = -1 by rw [HC.out, if_pos h1])
    clear h1
    go_wp2
    go_ret
    exact ⟨by rw [HR.out]; rfl, rfl⟩
  · have g1 : decide (s < t) = false := decide_eq_false h1
    by_cases h2 : t < s
    · have g2 : decide (t < s) = true := decide_eq_true h2
      have HR := Lib.hid (show r = 1 by rw [HC.out, if_neg h1, if_pos h2])
      clear h1 h2
      go_wp2
      go_ret
      exact ⟨by rw [HR.out]; rfl, rfl⟩
    · have g2 : decide (t < s) = false := decide_eq_false h2
      have HR := Lib.hid (show r = 0 by rw [HC.out, if_neg h1, if_neg h2])
      clear h1 h2
      go_wp2
      go_ret
      exact ⟨by rw [HR.out]; rfl, rfl⟩
set_option maxRecDepth 100000 in
set_option maxHeartbeats 4000000 in
theorem acmp_c (x y : Mv) (w : World) (hx : Mv.Ok w (fun b => b < w.heap.size) x) (hy : Mv.Ok w (fun b => b < w.heap.size) y) (qx : okMv x) (qy : okMv y) :
    Calls Tryz.prog 89 #[x.v, y.v] w fun e w' => e = .returned (i64 (cmpM x y)) ∧ Below w.heap.size w w' := by
  have hb := ((Below.refl w.heap.size w).alloc (Nat.le_refl _) (.cells #[i64 x.client, i64 x.seq, i64 x.period, .slice x.la x.legs.length x.lc] 85)).alloc (by simp) (.cells #[i64 y.client, i64 y.seq, i64 y.period, .slice y.la y.legs.length y.lc] 85)
  have ho := heap_alloc2_old w (.cells #[i64 x.client, i64 x.seq, i64 x.period, .slice x.la x.legs.length x.lc] 85) (.cells #[i64 y.client, i64 y.seq, i64 y.period, .slice y.la y.legs.length y.lc] 85)
  have hn := heap_alloc2_new w (.cells #[i64 x.client, i64 x.seq, i64 x.period, .slice x.la x.legs.length x.lc] 85) (.cells #[i64 y.client, i64 y.seq, i64 y.period, .slice y.la y.legs.length y.lc] 85)
  have hz : ((w.alloc (.cells #[i64 x.client, i64 x.seq, i64 x.period, .slice x.la x.legs.length x.lc] 85)).alloc (.cells #[i64 y.client, i64 y.seq, i64 y.period, .slice y.la y.legs.length y.lc] 85)).heap.size = w.heap.size + 2 := by simp
  have Hx := Lib.hid (fun V (hV : Below w.heap.size w V) => amount_c x V (Enc.keep (α := Mv) hx (fun p hp => hV.cell hp) (fun b hb => Nat.lt_of_lt_of_le hb hV.size)) qx.1 qx.2)
  have Hy := Lib.hid (fun V (hV : Below w.heap.size w V) => amount_c y V (Enc.keep (α := Mv) hy (fun p hp => hV.cell hp) (fun b hb => Nat.lt_of_lt_of_le hb hV.size)) qy.1 qy.2)
  have HC := Lib.hid (fun V => cmpJ_c (amtL y.legs) (amtL x.legs) V)
  have HR := Lib.hid (show cmpM x y = cmpI (amtL y.legs) (amtL x.legs) from rfl)
  rw [← HR.out] at HC
  clear hx hy qx qy HR
  generalize cmpM x y = cr at *
  generalize amtL x.legs = ax at *
  generalize amtL y.legs = ay at *
  unfold Mv.v
  go_enter Tryz.func89, Tryz.ntmps89
  go_upto_region 1 with fail
  generalize (w.alloc (.cells #[i64 x.client, i64 x.seq, i64 x.period, .slice x.la x.legs.length x.lc] 85)).alloc (.cells #[i64 y.client, i64 y.seq, i64 y.period, .slice y.la y.legs.length y.lc] 85) = W0 at *
  have HS : Hid (∀ V, Below W0.heap.size W0 V → (fun V : World => Below W0.heap.size W0 V ∧ V.cell? ⟨w.heap.size, 0, none⟩ = some (i64 x.client) ∧ V.cell? ⟨w.heap.size, 1, none⟩ = some (i64 x.seq) ∧ V.cell? ⟨w.heap.size, 2, none⟩ = some (i64 x.period) ∧ V.cell? ⟨w.heap.size, 3, none⟩ = some (.slice x.la x.legs.length x.lc) ∧ V.cell? ⟨w.heap.size + 1, 0, none⟩ = some (i64 y.client) ∧ V.cell? ⟨w.heap.size + 1, 1, none⟩ = some (i64 y.seq) ∧ V.cell? ⟨w.heap.size + 1, 2, none⟩ = some (i64 y.period) ∧ V.cell? ⟨w.heap.size + 1, 3, none⟩ = some (.slice y.la y.legs.length y.lc)) V) := Lib.hid fun V hV => by
    have h1 := (hV.block w.heap.size (by omega)).trans ho
    have h2 := (hV.block (w.heap.size + 1) (by omega)).trans hn
    exact ⟨hV, cell_of_row _ _ 0 _ _ (0, 0) h1, cell_of_row _ _ 1 _ _ (0, 0) h1, cell_of_row _ _ 2 _ _ (0, 0) h1, cell_of_row _ _ 3 _ _ (0, 0) h1, cell_of_row _ _ 0 _ _ (0, 0) h2, cell_of_row _ _ 1 _ _ (0, 0) h2, cell_of_row _ _ 2 _ _ (0, 0) h2, cell_of_row _ _ 3 _ _ (0, 0) h2⟩
  have Hb := Lib.hid hb
  clear ho hn hb
  refine wp_region_noPanic ?_
  refine wp_region_l 5 (fun V : World => Below W0.heap.size W0 V ∧ V.cell? ⟨w.heap.size, 0, none⟩ = some (i64 x.client) ∧ V.cell? ⟨w.heap.size, 1, none⟩ = some (i64 x.seq) ∧ V.cell? ⟨w.heap.size, 2, none⟩ = some (i64 x.period) ∧ V.cell? ⟨w.heap.size, 3, none⟩ = some (.slice x.la x.legs.length x.lc) ∧ V.cell? ⟨w.heap.size + 1, 0, none⟩ = some (i64 y.client) ∧ V.cell? ⟨w.heap.size + 1, 1, none⟩ = some (i64 y.seq) ∧ V.cell? ⟨w.heap.size + 1, 2, none⟩ = some (i64 y.period) ∧ V.cell? ⟨w.heap.size + 1, 3, none⟩ = some (.slice y.la y.legs.length y.lc)) (by kernel_rfl) (HS.out _ (Below.refl _ _).drew) (fun hH => ?_)
  refine tkY 0 (v := ?v20001) ?y20001 ?r20001
  case y20001 => (intro W hW; go_simp; try with_reducible rfl)
  try simp only [List.set]
  refine tkY 2 (v := ?v20002) ?y20002 ?r20002
  case y20002 => (intro W hW; go_simp; try with_reducible rfl)
  try simp only [List.set]
  refine wpAnyL_one (i := 1) (by kernel_rfl) rfl (by decide) (fun K hK => ?_)
  refine oper_call1 91 5 _ rfl _ rfl (enters_of Tryz.func91 (by kernel_rfl) rfl) ?_
  refine (Hy.out _ ((Hb.out.trans (hH.1.mono Hb.out.size)))).mono ?_
  rintro e u1 ⟨rfl, hF⟩
  refine ⟨_, rfl, ?_⟩
  have hbu := below_on hH.1 (Nat.le_refl _) hF
  clear hF
  refine hK.out _ _ (HS.out _ hbu) (fun hH => ?_)
  clear hK K
  try simp only [Act.put, List.getElem_toArray, List.getElem_cons_zero, List.getElem_cons_succ, List.setIfInBounds_toArray, List.set_cons_zero, List.set_cons_succ]
  refine wpAnyL_one (i := 3) (by kernel_rfl) rfl (by decide) (fun K hK => ?_)
  refine oper_call1 91 7 _ rfl _ rfl (enters_of Tryz.func91 (by kernel_rfl) rfl) ?_
  refine (Hx.out _ ((Hb.out.trans (hH.1.mono Hb.out.size)))).mono ?_
  rintro e u2 ⟨rfl, hF⟩
  refine ⟨_, rfl, ?_⟩
  have hbu := below_on hH.1 (Nat.le_refl _) hF
  clear hF
  refine hK.out _ _ (HS.out _ hbu) (fun hH => ?_)
  clear hK K
  try simp only [Act.put, List.getElem_toArray, List.getElem_cons_zero, List.getElem_cons_succ, List.setIfInBounds_toArray, List.set_cons_zero, List.set_cons_succ]
  refine wpAnyL_one (i := 4) (by kernel_rfl) rfl (by decide) (fun K hK => ?_)
  refine oper_call2 90 6 8 _ rfl _ _ rfl rfl (enters_of Tryz.func90 (by kernel_rfl) rfl) ?_
  refine (HC.out _).mono ?_
  rintro e u3 ⟨rfl, rfl⟩
  refine ⟨_, rfl, ?_⟩
  refine hK.out _ _ (hH) (fun hH => ?_)
  clear hK K
  try simp only [Act.put, List.getElem_toArray, List.getElem_cons_zero, List.getElem_cons_succ, List.setIfInBounds_toArray, List.set_cons_zero, List.set_cons_succ]
  refine wpAnyL_last (by kernel_rfl) rfl (fun K hK => ?_)
  go_simp
  refine hK.out _ _ ?_
  clear hK K
  try simp only [Act.put, List.getElem_toArray, List.getElem_cons_zero, List.getElem_cons_succ, List.setIfInBounds_toArray, List.set_cons_zero, List.set_cons_succ]
  refine wpAnyL_done (by kernel_rfl) ?_ _
  refine NoPanic.normal ?_
  have hbf := hH.1
  clear hH HS
  go_wp2
  go_ret
  exact ⟨rfl, Hb.out.trans (hbf.mono Hb.out.size)⟩
end Go.Proofs.YtgholbeehkfbiaaGreat
