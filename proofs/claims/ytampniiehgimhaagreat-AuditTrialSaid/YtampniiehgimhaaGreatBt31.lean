/- Texts of this claim, laid together. -/
import Derived.Test.YtampniiehgimhaaGreatRows
import Derived.Test.YtampniiehgimhaaGreatBt30
import Derived.Deep.CutBlock
import Derived.WalkKit
import Derived.WalkSpells
import Derived.WalkLawsBesides
import Derived.Deep.QuietTactic
import Derived.BigQuiet
import Derived.Laws.StructEq
import Derived.Deep.DeepFit
import Derived.StillTailTactics
import Derived.Test.YtampniiehgimhaaGreatBs29
import Derived.Test.YtampniiehgimhaaGreatBs1
import Derived.Test.YtampniiehgimhaaGreatBs9
import Derived.Deep.RegionHeld3
import Derived.Test.YtampniiehgimhaaGreatBtX

/- audit: flows -/
namespace Go.Proofs.YtampniiehgimhaaGreat
open Go.RowKit
theorem FlM.cell_growI {w w1 : World} {B b : Nat} {T : List Fl} (h : FlM w B b T) {x : Fl} (hx : x ∈ T) (hg : w.grownBy w1 x.vi.ownBlock) : w1.heap[x.p]? = some (.cells #[x.vi, x.vo] 183 (0, 0)) := by
 obtain ⟨f, _, f2⟩ := h.lab
 obtain ⟨f0, f1, _⟩ := f2 x hx
 refine (hg.block _ (Array.getElem?_eq_some_iff.1 (h.cell x hx)).1 (fun e => ?_)).trans (h.cell x hx)
 have := f1 x.p e.symm
 rw [f0] at this
 injection this with this; injection this with _ this; cases this
theorem FlM.cell_growO {w w1 : World} {B b : Nat} {T : List Fl} (h : FlM w B b T) {x : Fl} (hx : x ∈ T) (hg : w.grownBy w1 x.vo.ownBlock) : w1.heap[x.p]? = some (.cells #[x.vi, x.vo] 183 (0, 0)) := by
 obtain ⟨f, _, f2⟩ := h.lab
 obtain ⟨f0, _, f1⟩ := f2 x hx
 refine (hg.block _ (Array.getElem?_eq_some_iff.1 (h.cell x hx)).1 (fun e => ?_)).trans (h.cell x hx)
 have := f1 x.p e.symm
 rw [f0] at this
 injection this with this; injection this with _ this; cases this
theorem Own.cells1 {α : Type} [Enc α] {w : World} {B : Nat} {e : TypeId} {v : Value} {l : List α} (h : Own w B e v l) : v.cells.toList = [v] ∧ v.oneCell' = true := by
 obtain ⟨A, c, rfl, _⟩ := h.sl
 exact ⟨rfl, rfl⟩
theorem legs_len6 {M : List Mv} {L : List Od} (h : M.map Mv.core = L.map coreM) (hL : ∀ x ∈ L, Mvd x) : ∀ m ∈ M, m.legs.length ≤ 6 := fun m hm => by
 have h1 : m.core ∈ L.map coreM := by rw [← h]; exact List.mem_map.2 ⟨m, hm, rfl⟩
 obtain ⟨x, hx, e⟩ := List.mem_map.1 h1
 have e2 : mvL x = m.legs := congrArg (fun p => p.2.2) e
 rw [← e2]
 exact (hL x hx).fits.2.1
theorem legsM_snoc {M : List Mv} {k : Nat} (hk : k < M.length) (a b : Int) : legsM (M.take (k + 1)) a b = if a ≤ M[k].period ∧ M[k].period ≤ b then legsM (M.take k) a b ++ M[k].legs else legsM (M.take k) a b := by
 unfold legsM
 rw [List.take_succ_eq_append_getElem hk, List.flatMap_append]
 split
 ·rename_i h; simp [h]
 ·rename_i h; simp [h]
theorem legsM_len {M : List Mv} (h : ∀ m ∈ M, m.legs.length ≤ 6) (k : Nat) (a b : Int) : (legsM (M.take k) a b).length ≤ 6 * M.length := by
 have := flat_le (fun x : Mv => if a ≤ x.period ∧ x.period ≤ b then x.legs else []) 6 (M.take k) fun x hx => by
  split
  ·exact h x (List.mem_of_mem_take hx)
  ·exact Nat.zero_le _
 rw [List.length_take] at this
 unfold legsM
 omega
set_option maxRecDepth 100000 in
set_option maxHeartbeats 1000000 in
theorem eql_fl (o : Option Fl) (W : World) : (binOp .eql 179 ((o.map Fl.ptr).getD (.pointer none)) (.pointer none)).run Tryz.prog W = .ok (.bool o.isNone) W := by
 have u := Tryz.underlying179
 cases o with
 | none => simp only [Option.map_none, Option.getD_none, Option.isNone_none]; go_simp
 | some X => simp only [Option.map_some, Option.getD_some, Option.isNone_some]; go_simp
set_option maxRecDepth 100000 in
set_option maxHeartbeats 1000000 in
theorem eqg_fl (o : Option Fl) (W : World) : (eqGuard .eql 179 (.tmp 42) (.const (.pointer none)) ((o.map Fl.ptr).getD (.pointer none)) (.pointer none)).run Tryz.prog W = .ok () W := by
 have u := Tryz.underlying179
 cases o with
 | none => simp only [Option.map_none, Option.getD_none]; go_simp
 | some X => simp only [Option.map_some, Option.getD_some]; go_simp
set_option maxRecDepth 100000 in
set_option maxHeartbeats 16000000 in
theorem aflows_c (A : Option Addr) (c : Nat) (l : List Od) (fa fb : Int) (w : World) (h : Sl w w.heap.size A c l) (hx : ∀ x ∈ l, OdB x) (hl : ∀ x ∈ l, x.legs.length ≤ 65536) (hn : l.length ≤ 10000) :
  Calls Tryz.prog 87 #[.slice A l.length c, i64 fa, i64 fb] w fun e w' => ∃ (b : Nat) (T : List Fl), e = .returned (.map (some b)) ∧ FlM w' w.heap.size b T ∧ FlR T (namesL (legsR (movedL l) fa fb)) (legsR (movedL l) fa fb) ∧ w.heap.size ≤ b ∧ Below w.heap.size w w' := by
 have hmm := @run_makeMap Tryz.prog
 have hba := (Below.refl w.heap.size w).alloc (Nat.le_refl _) (.map #[] 0)
 have hN := Lib.hid (amoves_c A c l (w.alloc (.map #[] 0)) (h.later hba) hx hl (by omega))
 have HM0 := Lib.hid (MapIs.made (enc := Value.string) w)
 have HKz := Lib.hid (fun B => FlM.made w B)
 have HMd := Lib.hid (show ∀ x ∈ movedL l, Mvd x from fun x hm => (movedL_mem hx hm).2)
 have hLn : (movedL l).length ≤ 10000 := Nat.le_trans (movedL_len l) hn
 have hz0 : (w.alloc (.map #[] 0)).heap.size = w.heap.size + 1 := by simp
 have Hba := Lib.hid hba
 have hlc : l.length ≤ c := h.1
 clear h hx hl hba
 generalize movedL l = L at *
 go_enter Tryz.func87, Tryz.ntmps87
 go_wp2_with fail
 generalize w.alloc (.map #[] 0) = w0 at *
 refine hN.out.mono ?_
 rintro e w1 ⟨vm, M, rfl, hcore, hOm, hF⟩
 have hm1 := HM0.out.later hF
 obtain ⟨Am, cm, rfl, hsm0⟩ := hOm.sl
 have hsm := hsm0.off_map hm1 (by decide) (fun m hm => (⟨(show Mv.Ok _ _ m from hsm0.2.2.2 m hm).legs.off_map hm1 (by decide) (fun y hy => (show Mv.Ok _ _ m from hsm0.2.2.2 m hm).legs.2.2.2 y hy)⟩ : Mv.Ok _ _ m))
 have hcm : M.length ≤ cm := hsm.1
 have hMl : M.length ≤ 10000 := by have := congrArg List.length hcore; rw [List.length_map, List.length_map] at this; omega
 have H6 := Lib.hid (legs_len6 hcore HMd.out)
 have Hcore := Lib.hid hcore
 have Hsm := Lib.hid hsm
 have HK0 := Lib.hid ((HKz.out w1.heap.size).later hF)
 have hw1 := hF.size
 have Hb1 := Lib.hid (below_on Hba.out (by omega) hF)
 clear hN hOm hsm hsm0 hF hcore hm1 HM0 HMd Hba
 go_wp2_with fail
 go_loopw [17] (fun i wr => ∃ (k : Nat) (T : List Fl), i = i64 k ∧ k ≤ M.length ∧ FlM wr w1.heap.size w.heap.size T ∧ FlR T (namesL (legsM (M.take k) fa fb)) (legsM (M.take k) fa fb) ∧ Gr w1 wr (fun j => j = w.heap.size)) (fun i _ => M.length - (intOf i).toNat)
 case atStart => exact ⟨0, [], rfl, Nat.zero_le _, HK0.out, FlR.nil_, Gr.refl _ _⟩
 case round =>
  obtain ⟨k, T, rfl, hk, hK, hR, hG⟩ := hrel
  obtain ⟨wo, rfl⟩ : ∃ wo, wo = wr := ⟨wr, rfl⟩
  have hwz := hG.size
  by_cases hlt : k < M.length
  ·have g1 : decide ((k : Int) < (M.length : Int)) = true := decide_eq_true (by omega)
   have g2 : decide (k < M.length) = true := decide_eq_true hlt
   have i0 : (0 : Int) ≤ (k : Int) := by omega
   have i1 : (k : Int) < (M.length : Int) := by omega
   obtain ⟨bm, om, rfl, hbm, hokm, c0, c1, c2, c3⟩ := (Hsm.out.grs hG (fun b hb => hb)).mv hlt
   have h6 := H6.out M[k] (List.getElem_mem hlt)
   have Hst := Lib.hid (legsM_snoc hlt fa fb)
   have hls := legsM_len H6.out k fa fb
   obtain ⟨m, hmk⟩ : ∃ m, M[k] = m := ⟨_, rfl⟩
   simp only [hmk] at c0 c1 c2 c3 hokm h6 Hst
   have hlg0 := (show Mv.Ok w1 _ m from hmk ▸ Hsm.out.2.2.2 M[k] (List.getElem_mem hlt)).legs
   clear hmk hokm hbm
   obtain ⟨mc, ms, mp, mla, mlc, mlg⟩ := m
   dsimp only at c0 c1 c2 c3 h6 Hst hlg0
   have hba := (Below.refl wo.heap.size wo).alloc (Nat.le_refl _) (.cells #[i64 mc, i64 ms, i64 mp, .slice mla mlg.length mlc] 85)
   have HKm := Lib.hid (hK.later hba)
   have HGm := Lib.hid (hG.more hba)
   have HR := Lib.hid hR
   have Hlg := Lib.hid hlg0
   have hlc2 : mlg.length ≤ mlc := hlg0.1
   clear hK hG hR hba hlg0
   generalize hgls : legsM (M.take k) fa fb = ls at *
   clear hgls
   by_cases hin : fa ≤ mp ∧ mp ≤ fb
   ·have e1 : decide (mp < fa) = false := decide_eq_false (by omega)
    have e2 : decide (mp > fb) = false := decide_eq_false (by omega)
    have e3 : decide (fb < mp) = false := decide_eq_false (by omega)
    rw [if_pos hin] at Hst
    clear hin
    go_wp2_with fail
    generalize wo.alloc (.cells #[i64 mc, i64 ms, i64 mp, .slice mla mlg.length mlc] 85) = wm at *
    go_loopw [34] (fun i wr => ∃ (j : Nat) (T : List Fl), i = i64 j ∧ j ≤ mlg.length ∧ FlM wr w1.heap.size w.heap.size T ∧ FlR T (namesL (ls ++ mlg.take j)) (ls ++ mlg.take j) ∧ Gr w1 wr (fun j => j = w.heap.size)) (fun i _ => mlg.length - (intOf i).toNat)
    case atStart => exact ⟨0, T, rfl, Nat.zero_le _, HKm.out, by rw [List.take_zero, List.append_nil]; exact HR.out, HGm.out⟩
    case round =>
     clear HKm HGm HR
     obtain ⟨j, T1, rfl, hj, hK, hR, hG⟩ := hrel
     obtain ⟨wi, rfl⟩ : ∃ wi, wi = wr := ⟨wr, rfl⟩
     have hwi := hG.size
     by_cases hjt : j < mlg.length
     ·have g3 : decide ((j : Int) < (mlg.length : Int)) = true := decide_eq_true (by omega)
      have g4 : decide (j < mlg.length) = true := decide_eq_true hjt
      have j0 : (0 : Int) ≤ (j : Int) := by omega
      have j1 : (j : Int) < (mlg.length : Int) := by omega
      obtain ⟨bl, ol, rfl, hbl, -, d0, d1⟩ := (Hlg.out.grs hG (fun b hb => hb)).leg hjt
      have Htk := Lib.hid (show ls ++ mlg.take (j + 1) = (ls ++ mlg.take j) ++ [mlg[j]] by rw [List.take_succ_eq_append_getElem hjt, List.append_assoc])
      have hls2 : (ls ++ mlg.take j).length ≤ 60006 := by rw [List.length_append, List.length_take]; omega
      obtain ⟨y, hyk⟩ : ∃ y, mlg[j] = y := ⟨_, rfl⟩
      simp only [hyk] at d0 d1 Htk
      generalize ls ++ mlg.take j = ls2 at *
      have hba := (Below.refl wi.heap.size wi).alloc (Nat.le_refl _) (.cells #[.string y.acct, i64 y.sum] 167)
      have hq0 := heap_alloc_new wi (.cells #[.string y.acct, i64 y.sum] 167)
      have hKq := hK.later hba
      have hGq := hG.more hba
      have hlt1 := hK.lt
      have hlk := hKq.look y.acct
      have hek := eql_fl (getF T1 y.acct)
      have hgk := eqg_fl (getF T1 y.acct)
      obtain ⟨pv, hpv⟩ : ∃ pv, ((getF T1 y.acct).map Fl.ptr).getD (.pointer none) = pv := ⟨_, rfl⟩
      obtain ⟨bq, hbq⟩ : ∃ bq, (getF T1 y.acct).isNone = bq := ⟨_, rfl⟩
      rw [hpv] at hlk hek hgk
      rw [hbq] at hek
      have Hpv := Lib.hid hpv
      have Hbq := Lib.hid hbq
      clear hpv hbq
      have hqz : (wi.alloc (.cells #[.string y.acct, i64 y.sum] 167)).heap.size = wi.heap.size + 1 := by simp
      have s0 := cell_of_row _ wi.heap.size 0 _ _ (0, 0) hq0
      simp only [List.getElem?_toArray, List.getElem?_cons_zero] at s0
      have HKq := Lib.hid hKq
      have HGq := Lib.hid hGq
      have HR := Lib.hid hR
      have Hq0 := Lib.hid hq0
      have Hlt1 := Lib.hid hlt1
      clear hyk hK hG hR hba hq0 hKq hGq hlt1 hbl
      go_upto_if 43 with fail
      generalize wi.alloc (.cells #[.string y.acct, i64 y.sum] 167) = wq at *
      generalize wi.heap.size = q at *
      go_cut [12] from 44 to 50 (fun s12 wx => ∃ (T2 : List Fl) (X : Fl), s12 = X.ptr ∧ X ∈ T2 ∧ X.name = y.acct ∧ FlM wx w1.heap.size w.heap.size T2 ∧ FlR T2 (addN (namesL ls2) y.acct) ls2 ∧ Gr w1 wx (fun j => j = w.heap.size) ∧ (∀ g, flAll w.heap.size T2 g → g ≠ q) ∧ wx.heap[q]? = some (.cells #[.string y.acct, i64 y.sum] 167 (0, 0)))
      case first =>
       cases hg : getF T1 y.acct with
       | some X =>
        have hX := getF_mem hg
        have hN := HR.out.has hg
        have hpv := Hpv.out
        have hbq := Hbq.out
        rw [hg] at hpv hbq
        simp only [Option.map_some, Option.getD_some, Option.isNone_some] at hpv hbq
        subst hpv hbq
        have HX := Lib.hid hX
        have HN := Lib.hid hN
        clear hg hX hN Hpv Hbq
        go_wp2_with fail
        go_meet
        exact ⟨T1, X, rfl, HX.out.1, HX.out.2, HKq.out, by rw [HN.out]; exact HR.out, HGq.out, fun g hg e => by have := (Hlt1.out g hg).2; omega, Hq0.out⟩
       | none =>
        have hpv := Hpv.out
        have hbq := Hbq.out
        rw [hg] at hpv hbq
        simp only [Option.map_none, Option.getD_none, Option.isNone_none] at hpv hbq
        subst hpv hbq
        have Hg := Lib.hid hg
        have hbn := (Below.refl wq.heap.size wq).alloc (Nat.le_refl _) (.cells #[.slice none 0 0, .slice none 0 0] 183)
        have hKn := HKq.out.later hbn
        obtain ⟨w5, hrun, hm5, hg5⟩ := run_put (P := Tryz.prog) strKey Tryz.underlying173 hKn.map y.acct (.pointer (some ⟨q + 1, 0, none⟩))
        have HF := Lib.hid (HKq.out.new hg (by have := HGq.out.size; omega) (by rw [hqz]; exact hm5) hg5)
        have s1 := (hbn.cell (p := ⟨q, 0, none⟩) (show q < wq.heap.size by omega)).trans s0
        clear hg hKn hm5 hbn hg5
        go_wp2_with fail
        go_meet
        obtain ⟨hK5, hG5⟩ := HF.out
        refine ⟨T1 ++ [fl0 y.acct wq.heap.size], fl0 y.acct wq.heap.size, by show _ = Value.pointer (some ⟨wq.heap.size, 0, none⟩); rw [hqz], by simp, rfl, hK5, HR.out.add Hg.out _, HGq.out.after hG5, fun g hg e => ?_, (hG5.block q (by omega) (fun e => by have := HGq.out.size; have := (Hlt1.out w.heap.size (.inl rfl)).2; omega)).trans Hq0.out⟩
        rcases hg with rfl | ⟨z, hz, hzg⟩
        ·have := (Hlt1.out _ (.inl rfl)).2; omega
        ·rcases List.mem_append.1 hz with hz | hz
         ·have := (Hlt1.out g (.inr ⟨z, hz, hzg⟩)).2; omega
         ·obtain rfl := List.mem_singleton.1 hz
          rcases hzg with rfl | h9 | h9
          ·have : wq.heap.size = q := e
           omega
          ·cases h9
          ·cases h9
      case rest =>
       obtain ⟨T2, X, rfl, hX, hXn, hK, hR, hG, hqT, hqc⟩ := hcut
       obtain ⟨Wc, rfl⟩ : ∃ Wc, Wc = wc := ⟨wc, rfl⟩
       have s1 := cell_of_row _ q 1 _ _ (0, 0) hqc
       simp only [List.getElem?_toArray, List.getElem?_cons_zero, List.getElem?_cons_succ] at s1
       have HX := Lib.hid hX
       have HN := Lib.hid (show addN (namesL ls2) y.acct = addN (namesL ls2) X.name by rw [hXn])
       have HXy := Lib.hid (show (⟨X.name, y.sum⟩ : Leg) = y by rw [hXn])
       have HK := Lib.hid (fun V (hV : Below Wc.heap.size Wc V) => hK.later hV)
       have HR := Lib.hid hR
       have HG := Lib.hid hG
       have Hli := Lib.hid (show X.li.length + 1 ≤ 4294967296 by have := hR.inn X hX; have h2 := inK_len ls2 X.name; rw [this]; omega)
       have Hlo := Lib.hid (show X.lo.length + 1 ≤ 4294967296 by have := hR.out X hX; have h2 := outK_len ls2 X.name; rw [this]; omega)
       have Hxc := Lib.hid (hK.cell X hX)
       have Hqc := Lib.hid hqc
       have HqI := Lib.hid (show some q ≠ X.vi.ownBlock from fun e => hqT q (.inr ⟨X, hX, .inr (.inl e.symm)⟩) rfl)
       have HqO := Lib.hid (show some q ≠ X.vo.ownBlock from fun e => hqT q (.inr ⟨X, hX, .inr (.inr e.symm)⟩) rfl)
       have hBW : w1.heap.size ≤ Wc.heap.size := hG.size
       have hqz2 : q < Wc.heap.size := (Array.getElem?_eq_some_iff.1 hqc).1
       have hxz2 : X.p < Wc.heap.size := (Array.getElem?_eq_some_iff.1 Hxc.out).1
       have HS : Hid (∀ V : World, V.heap[X.p]? = some (.cells #[X.vi, X.vo] 183 (0, 0)) → V.heap[q]? = some (.cells #[.string y.acct, i64 y.sum] 167 (0, 0)) → (fun V : World => V.cell? ⟨X.p, 0, none⟩ = some X.vi ∧ V.cell? ⟨X.p, 1, none⟩ = some X.vo ∧ V.cell? ⟨q, 0, none⟩ = some (.string y.acct) ∧ V.cell? ⟨q, 1, none⟩ = some (i64 y.sum)) V) := Lib.hid fun V h1 h2 =>
        ⟨cell_of_row _ X.p 0 _ _ (0, 0) h1, cell_of_row _ X.p 1 _ _ (0, 0) h1, cell_of_row _ q 0 _ _ (0, 0) h2, cell_of_row _ q 1 _ _ (0, 0) h2⟩
       clear hX hXn hK hR hG hqT hqc HKq HGq Hlt1 hlk hek hgk Hpv Hbq Hq0
       by_cases hy0 : 0 < y.sum
       ·have e4 : decide (y.sum > 0) = true := decide_eq_true hy0
        have e5 : decide (0 < y.sum) = true := decide_eq_true hy0
        have Hys := Lib.hid hy0
        clear hy0
        go_upto_region 14 with fail
        refine wp_region_noPanic ?_
        refine wp_region_l 11 (fun V : World => V.cell? ⟨X.p, 0, none⟩ = some X.vi ∧ V.cell? ⟨X.p, 1, none⟩ = some X.vo ∧ V.cell? ⟨q, 0, none⟩ = some (.string y.acct) ∧ V.cell? ⟨q, 1, none⟩ = some (i64 y.sum)) (by kernel_rfl) (HS.out _ Hxc.out Hqc.out) (fun hH => ?_)
        have hbd := (Below.refl Wc.heap.size Wc).drew
        generalize Wc.drew = Wd at *
        refine tkZ 0 ?_; refine tkZ 1 ?_; refine tkZ 2 ?_; refine tkZ 3 ?_; refine tkZ 4 ?_; refine tkZ 5 ?_; refine tkZ 6 ?_
        refine tkO 7 (fun K hK => ?_)
        refine oper_lit_i64 59 rfl y.sum rfl ?_
        have HH := Lib.hid (heap_alloc_new Wd (.cells #[i64 y.sum] 2))
        have hba := (Below.refl Wd.heap.size Wd).alloc (Nat.le_refl _) (.cells #[i64 y.sum] 2)
        have HK2 := Lib.hid ((HK.out _ hbd).later hba)
        have HO2 := Lib.hid (HK2.out.inn X HX.out)
        have Hne := Lib.hid (((HK.out _ hbd).inn X HX.out).new_ne (Nat.le_refl Wd.heap.size))
        have hbu := hbd.alloc hbd.size (.cells #[i64 y.sum] 2)
        have HBu := Lib.hid hbu
        have hq2 := Lib.hid ((hbu.block q hqz2).trans Hqc.out)
        have hx2 := Lib.hid ((hbu.block X.p hxz2).trans Hxc.out)
        clear hba hbu
        refine hK.out _ _ (HS.out _ hx2.out hq2.out) (fun hH => ?_)
        clear hK K
        try simp only [Act.put, uA, uZ, uS, vA, vZ, vS]
        refine tkO 8 (fun K hK => ?_)
        refine oper_append_one (.tmp 57) (.tmp 60) 181 rfl _ 8 Tryz.underlying181 inf_i64 rfl (by decide) (by decide) rfl HO2.out Wd.heap.size y.sum rfl _ 2 HH.out rfl Hne.out trivial Hli.out (Nat.le_trans hBW HBu.out.size) ?_
        intro v2 u2 hO3 hg3 hat3
        have HO3 := Lib.hid hO3
        have Hg3 := Lib.hid hg3
        have Hat3 := Lib.hid hat3
        have Hc3 := Lib.hid (HK2.out.cell_growI HX.out hg3)
        have hq3 := Lib.hid ((hg3.block q (Nat.lt_of_lt_of_le hqz2 HBu.out.size) HqI.out).trans hq2.out)
        clear hO3 hg3 hat3 HH Hne HO2
        refine hK.out _ _ (HS.out _ Hc3.out hq3.out) (fun hH => ?_)
        clear hK K
        try simp only [Act.put, uA, uZ, uS, vA, vZ, vS]
        refine tkZ 9 ?_; refine tkZ 10 ?_
        refine tkL (fun K hK => ?_)
        refine oper_store_arr (.tmp 63) (.tmp 61) 181 rfl (by kernel_rfl) X.p 0 #[X.vi, X.vo] v2 Hc3.out (by simp) rfl HO3.out.cells1.1 HO3.out.cells1.2 ?_
        intro u3 hc4 hg4
        have HK4 := Lib.hid (HK2.out.growI HX.out HO3.out Hg3.out Hat3.out hc4 hg4)
        clear hc4 hg4
        refine hK.out _ _ ?_
        clear hK K
        try simp only [Act.put, uA, uZ, uS]
        refine tkD ?_
        have HG4 := Lib.hid ((HG.out.more HBu.out).trans HK4.out.2 (fun j e => .inr (by
         rcases e with e | e
         ·rw [e]; exact HK2.out.lo X HX.out
         ·exact ((HK2.out.inn X HX.out).1.lt j e).1)))
        have HR4 := Lib.hid (HR.out.growI HX.out HN.out Hys.out v2)
        clear hH HS HK HK2 HO3 Hg3 Hat3 Hc3 hq3 hq2 hx2
        go_wp2
        go_roundw
        case rel => exact ⟨j + 1, _, by go_num, by omega, HK4.out.1, by rw [Htk.out, ← HXy.out]; exact HR4.out, HG4.out⟩
        case measure => simp [intOf]; omega
       ·have e4 : decide (y.sum > 0) = false := decide_eq_false hy0
        have e5 : decide (0 < y.sum) = false := decide_eq_false hy0
        have Hys := Lib.hid hy0
        clear hy0
        go_upto_region 15 with fail
        refine wp_region_noPanic ?_
        refine wp_region_l 11 (fun V : World => V.cell? ⟨X.p, 0, none⟩ = some X.vi ∧ V.cell? ⟨X.p, 1, none⟩ = some X.vo ∧ V.cell? ⟨q, 0, none⟩ = some (.string y.acct) ∧ V.cell? ⟨q, 1, none⟩ = some (i64 y.sum)) (by kernel_rfl) (HS.out _ Hxc.out Hqc.out) (fun hH => ?_)
        have hbd := (Below.refl Wc.heap.size Wc).drew
        generalize Wc.drew = Wd at *
        refine tkZ 0 ?_; refine tkZ 1 ?_; refine tkZ 2 ?_; refine tkZ 3 ?_; refine tkZ 4 ?_; refine tkZ 5 ?_; refine tkZ 6 ?_
        refine tkO 7 (fun K hK => ?_)
        refine oper_lit_i64 70 rfl y.sum rfl ?_
        have HH := Lib.hid (heap_alloc_new Wd (.cells #[i64 y.sum] 2))
        have hba := (Below.refl Wd.heap.size Wd).alloc (Nat.le_refl _) (.cells #[i64 y.sum] 2)
        have HK2 := Lib.hid ((HK.out _ hbd).later hba)
        have HO2 := Lib.hid (HK2.out.out X HX.out)
        have Hne := Lib.hid (((HK.out _ hbd).out X HX.out).new_ne (Nat.le_refl Wd.heap.size))
        have hbu := hbd.alloc hbd.size (.cells #[i64 y.sum] 2)
        have HBu := Lib.hid hbu
        have hq2 := Lib.hid ((hbu.block q hqz2).trans Hqc.out)
        have hx2 := Lib.hid ((hbu.block X.p hxz2).trans Hxc.out)
        clear hba hbu
        refine hK.out _ _ (HS.out _ hx2.out hq2.out) (fun hH => ?_)
        clear hK K
        try simp only [Act.put, uA, uZ, uS, vA, vZ, vS]
        refine tkO 8 (fun K hK => ?_)
        refine oper_append_one (.tmp 68) (.tmp 71) 181 rfl _ 8 Tryz.underlying181 inf_i64 rfl (by decide) (by decide) rfl HO2.out Wd.heap.size y.sum rfl _ 2 HH.out rfl Hne.out trivial Hlo.out (Nat.le_trans hBW HBu.out.size) ?_
        intro v2 u2 hO3 hg3 hat3
        have HO3 := Lib.hid hO3
        have Hg3 := Lib.hid hg3
        have Hat3 := Lib.hid hat3
        have Hc3 := Lib.hid (HK2.out.cell_growO HX.out hg3)
        have hq3 := Lib.hid ((hg3.block q (Nat.lt_of_lt_of_le hqz2 HBu.out.size) HqO.out).trans hq2.out)
        clear hO3 hg3 hat3 HH Hne HO2
        refine hK.out _ _ (HS.out _ Hc3.out hq3.out) (fun hH => ?_)
        clear hK K
        try simp only [Act.put, uA, uZ, uS, vA, vZ, vS]
        refine tkZ 9 ?_; refine tkZ 10 ?_
        refine tkL (fun K hK => ?_)
        refine oper_store_arr (.tmp 74) (.tmp 72) 181 rfl (by kernel_rfl) X.p 1 #[X.vi, X.vo] v2 Hc3.out (by simp) rfl HO3.out.cells1.1 HO3.out.cells1.2 ?_
        intro u3 hc4 hg4
        have HK4 := Lib.hid (HK2.out.growO HX.out HO3.out Hg3.out Hat3.out hc4 hg4)
        clear hc4 hg4
        refine hK.out _ _ ?_
        clear hK K
        try simp only [Act.put, uA, uZ, uS]
        refine tkD ?_
        have HG4 := Lib.hid ((HG.out.more HBu.out).trans HK4.out.2 (fun j e => .inr (by
         rcases e with e | e
         ·rw [e]; exact HK2.out.lo X HX.out
         ·exact ((HK2.out.out X HX.out).1.lt j e).1)))
        have HR4 := Lib.hid (HR.out.growO HX.out HN.out Hys.out v2)
        clear hH HS HK HK2 HO3 Hg3 Hat3 Hc3 hq3 hq2 hx2
        go_wp2
        go_roundw
        case rel => exact ⟨j + 1, _, by go_num, by omega, HK4.out.1, by rw [Htk.out, ← HXy.out]; exact HR4.out, HG4.out⟩
        case measure => simp [intOf]; omega
     ·obtain rfl : j = mlg.length := by omega
      have g3 : decide ((mlg.length : Int) < (mlg.length : Int)) = false := decide_eq_false (by omega)
      rw [List.take_length] at hR
      have HK := Lib.hid hK
      have HR := Lib.hid hR
      have HG := Lib.hid hG
      clear hK hR hG
      go_wp2
      go_roundw
      case rel => exact ⟨k + 1, T1, by go_num, by omega, HK.out, by rw [Hst.out]; exact HR.out, HG.out⟩
      case measure => simp [intOf]; omega
   ·rw [if_neg hin] at Hst
    by_cases hp : mp < fa
    ·have e1 : decide (mp < fa) = true := decide_eq_true hp
     clear hin hp
     go_wp2
     go_roundw
     case rel => exact ⟨k + 1, T, by go_num, by omega, HKm.out, by rw [Hst.out]; exact HR.out, HGm.out⟩
     case measure => simp [intOf]; omega
    ·have e1 : decide (mp < fa) = false := decide_eq_false hp
     have e2 : decide (mp > fb) = true := decide_eq_true (by omega)
     have e3 : decide (fb < mp) = true := decide_eq_true (by omega)
     clear hin hp
     go_wp2
     go_roundw
     case rel => exact ⟨k + 1, T, by go_num, by omega, HKm.out, by rw [Hst.out]; exact HR.out, HGm.out⟩
     case measure => simp [intOf]; omega
  ·obtain rfl : k = M.length := by omega
   have g1 : decide ((M.length : Int) < (M.length : Int)) = false := decide_eq_false (by omega)
   rw [List.take_length, legsM_eq _ _ Hcore.out] at hR
   have HK := Lib.hid hK
   have HR := Lib.hid hR
   have HG := Lib.hid hG
   clear hK hR hG
   go_wp2
   go_ret
   exact ⟨_, T, rfl, HK.out.mono (by omega), HR.out, Nat.le_refl _, Hb1.out.trans (HG.out.below (by omega) (fun j e => by omega))⟩
end Go.Proofs.YtampniiehgimhaaGreat
/- law09.BookWeighs: all accounts together have 0 (plain) -/
namespace Go.Proofs.YtampniiehgimhaaGreat
open Go.RowKit
/-- what all accounts together have -/
def havL (L : List Ac) : Int := (L.map Ac.hav).sum
theorem sum_setK (f : Ac → Int) {a b : Ac} (hb : b.name = a.name) : ∀ {L : List Ac}, L.Pairwise (fun x y => x.name ≠ y.name) → a ∈ L → ((setK Ac.name L b).map f).sum = (L.map f).sum - f a + f b
 | [], _, h => by cases h
 | x :: r, hp, h => by
  obtain ⟨h1, h2⟩ := List.pairwise_cons.1 hp
  rcases List.mem_cons.1 h with rfl | h
  ·have e : setK Ac.name r b = r := by
    unfold setK
    have := List.map_congr_left (l := r) (f := fun x => if x.name = b.name then b else x) (g := id) (fun y hy => by
     show (if y.name = b.name then b else y) = y
     rw [if_neg (by rw [hb]; exact fun e => h1 y hy e.symm)])
    rw [this, List.map_id]
   have e2 : setK Ac.name (a :: r) b = b :: r := by
    show (if a.name = b.name then b else a) :: setK Ac.name r b = _
    rw [if_pos hb.symm, e]
   rw [e2]
   simp only [List.map_cons, List.sum_cons]
   omega
  ·have e2 : setK Ac.name (x :: r) b = x :: setK Ac.name r b := by
    show (if x.name = b.name then b else x) :: setK Ac.name r b = _
    rw [if_neg (by rw [hb]; exact h1 a h)]
   rw [e2]
   simp only [List.map_cons, List.sum_cons]
   rw [sum_setK f hb h2 h]
   omega
theorem srt_apart {L : List Ac} (h : SrtL ltA L) : L.Pairwise (fun x y => x.name ≠ y.name) := h.imp fun h => keyA.ne _ _ h
theorem sumR_zero {n : Int} (h : (sumR n).2 = 0) : (sumR n).1 = n := by
 unfold sumR at *
 split
 ·rename_i h1; rw [if_pos h1] at h; cases h
 ·rfl
theorem turn_hav {L : List Ac} (hs : SrtL ltA L) (k : ByteArray) (x y : Int) (h : (turnL (givD y) L k x).1 = 0) : havL (turnL (givD y) L k x).2 = havL L - y := by
 rcases turnL_cases (givD y) L k x with ⟨e, _⟩ | ⟨_, a, hg, h0, _, _, e⟩
 ·exact absurd h e
 ·have ham := (getK_mem hg).1
  rw [e]
  unfold havL
  rw [sum_setK Ac.hav (a := a) (b := (givD y a).1) rfl (srt_apart hs) ham]
  have : (givD y a).1.hav = a.hav - y := sumR_zero h0
  omega
theorem turn_asi {L : List Ac} (hs : SrtL ltA L) (k : ByteArray) (x y : Int) : havL (turnL (asiD y) L k x).2 = havL L := by
 rcases turnL_cases (asiD y) L k x with ⟨_, e⟩ | ⟨_, a, hg, _, _, _, e⟩
 ·rw [e]
 ·have ham := (getK_mem hg).1
  rw [e]
  unfold havL
  rw [sum_setK Ac.hav (a := a) (b := (asiD y a).1) rfl (srt_apart hs) ham]
  have : (asiD y a).1.hav = a.hav := rfl
  omega
theorem post_hav {L : List Ac} (hs : SrtL ltA L) (x : Leg) (h : (postL L x).1 = 0) : havL (postL L x).2 = havL L + x.sum := by
 unfold postL at *
 split at h
 ·rename_i h1; exact absurd h h1
 ·rename_i h1
  rw [if_neg h1]
  split at h
  ·rename_i h2; exact absurd h h2
  ·rename_i h2
   rw [if_neg h2]
   rw [turn_hav hs _ _ _ h, sumR_zero (by simpa using h2)]
   omega
theorem all_hav : ∀ (l : List Leg) {L : List Ac}, SrtL ltA L → (allL L l).1 = 0 → havL (allL L l).2 = havL L + sumL (l.map Leg.sum)
 | [], L, _, _ => by show havL L = havL L + 0; omega
 | x :: r, L, hs, h => by
  unfold allL at *
  by_cases h1 : (postL L x).1 ≠ 0
  ·rw [if_pos h1] at h
   exact absurd h h1
  ·rw [if_neg h1] at h ⊢
   have h1 : (postL L x).1 = 0 := by simpa using h1
   rw [all_hav r (postL_ss hs x).2 h, post_hav hs x h1]
   show _ = havL L + (x.sum + sumL (r.map Leg.sum))
   omega
theorem make_hav {L : List Ac} (hs : SrtL ltA L) (l : List Leg) : havL (makeL L l).2 = havL L := by
 by_cases hc : checkL L l = 0
 ·obtain ⟨e, h0⟩ := make_of_check hc
  rw [e] at h0 ⊢
  rw [all_hav l hs h0]
  have hw : weighB l = true := by
   unfold checkL at hc
   split at hc
   ·cases hc
   ·split at hc
    ·cases hc
    ·rename_i h2; simpa using h2
  unfold weighB at hw
  simp only [Bool.and_eq_true, decide_eq_true_eq] at hw
  have := sumR_zero hw.1
  omega
 ·unfold makeL
  rw [if_pos hc]
theorem free_hav {L : List Ac} (hs : SrtL ltA L) (H : List Held) (k : ByteArray) (n : Int) : havL (freeHL L H k n).2.1 = havL L := by
 unfold freeHL
 cases getK Held.key H ⟨k, n⟩ with
 | none => rfl
 | some y => exact turn_asi hs _ _ _
theorem put_hav {L : List Ac} (hs : SrtL ltA L) (H : List Held) (x : Held) : havL (putH L H x).2.1 = havL L := by
 unfold putH
 split
 ·rfl
 ·split
  ·rfl
  ·split
   ·rfl
   ·exact turn_asi hs _ _ _
theorem free_srt {L : List Ac} (hs : SrtL ltA L) (H : List Held) (k : ByteArray) (n : Int) : SrtL ltA (freeHL L H k n).2.1 := by
 unfold freeHL
 cases getK Held.key H ⟨k, n⟩ with
 | none => exact hs
 | some y => exact turnL_srt hs _ _
theorem take_hav {L : List Ac} (hs : SrtL ltA L) (H : List Held) (k : ByteArray) (n : Int) (p : ByteArray) (s : Int) : havL (takeH L H k n p s).2.1 = havL L := by
 unfold takeH
 cases getK Held.key H ⟨k, n⟩ with
 | none => rfl
 | some y =>
  dsimp only
  split
  ·rfl
  ·split
   ·rfl
   ·split
    ·rfl
    ·rw [make_hav (free_srt hs H k n), free_hav hs]
theorem perm_sum {l m : List Int} (h : l.Perm m) : l.sum = m.sum := by
 induction h with
 | nil => rfl
 | cons x _ ih => simp only [List.sum_cons]; omega
 | swap x y l => simp only [List.sum_cons]; omega
 | trans _ _ h1 h2 => exact h1.trans h2
theorem open_hav (L : List Ac) (k : ByteArray) (lim : Int) : havL (openL L k lim).2 = havL L := by
 unfold openL
 split
 ·rfl
 ·split
  ·rfl
  ·split
   ·rfl
   ·unfold havL
    have h := perm_sum ((insB_perm (lt := ltA) (⟨k, 0, 0, lim⟩ : Ac) L).map Ac.hav)
    rw [h]
    rw [List.map_cons, List.sum_cons]
    exact Int.zero_add _
/-- all accounts together keep what they have -/
theorem do_hav {B : Bk} (hI : InvB B) (x : Od) : havL (doL B x).2.L = havL B.L := by
 have hs := hI.inv.srtA
 unfold doL
 by_cases hr : rightB x = false
 ·rw [if_pos hr]
 rw [if_neg hr]
 unfold kindD
 by_cases k1 : x.kind = 1
 ·rw [if_pos k1]; exact open_hav _ _ _
 rw [if_neg k1]
 by_cases k2 : x.kind = 2
 ·rw [if_pos k2]
  unfold postD
  split
  ·rfl
  ·exact make_hav hs _
 rw [if_neg k2]
 by_cases k3 : x.kind = 3
 ·rw [if_pos k3]; exact put_hav hs _ _
 rw [if_neg k3]
 by_cases k4 : x.kind = 4
 ·rw [if_pos k4]
  unfold capD
  split
  ·rfl
  ·exact take_hav hs _ _ _ _ _
 rw [if_neg k4]
 by_cases k5 : x.kind = 5
 ·rw [if_pos k5]; exact free_hav hs _ _ _
 rw [if_neg k5]
 by_cases k6 : x.kind = 6
 ·rw [if_pos k6]
  unfold shutD
  split
  ·rfl
  ·rfl
 rw [if_neg k6]
 rfl
/-- no account has less than it may -/
def LimL (L : List Ac) : Prop := ∀ a ∈ L, -a.lim ≤ a.hav - a.set_
theorem free_lim {a : Ac} {x : Int} (h : freeA a x = true) : -a.lim ≤ a.hav - a.set_ - x := by
 unfold freeA at h
 simp only [Bool.and_eq_true, decide_eq_true_eq] at h
 obtain ⟨h1, h2, h3⟩ := h
 rw [sumR_zero h1] at h2 h3
 rw [sumR_zero h2] at h3
 exact h3
theorem turn_lim {L : List Ac} (h : LimL L) (k : ByteArray) (y : Int) (D : Ac → Ac × Int) (hD : D = givD y ∨ D = asiD y) : LimL (turnL D L k y).2 := by
 rcases turnL_cases D L k y with ⟨_, e⟩ | ⟨_, a, hg, h0, _, hf, e⟩
 ·rw [e]; exact h
 ·rw [e]
  intro b hb
  obtain ⟨c, hc, rfl⟩ := List.mem_map.1 hb
  have ha := h a (getK_mem hg).1
  have hfy : 0 < y → -a.lim ≤ a.hav - a.set_ - y := fun hy => free_lim (hf hy)
  split
  ·rcases hD with rfl | rfl
   ·have : (givD y a).1.hav = a.hav - y := sumR_zero h0
    show -a.lim ≤ (givD y a).1.hav - a.set_
    by_cases hy : 0 < y
    ·have := hfy hy; omega
    ·omega
   ·have : (asiD y a).1.set_ = a.set_ + y := sumR_zero h0
    show -a.lim ≤ a.hav - (asiD y a).1.set_
    by_cases hy : 0 < y
    ·have := hfy hy; omega
    ·omega
  ·exact h c hc
theorem post_lim {L : List Ac} (h : LimL L) (x : Leg) : LimL (postL L x).2 := by
 unfold postL
 split
 ·exact h
 ·split
  ·exact h
  ·exact turn_lim h _ _ _ (.inl rfl)
theorem all_lim : ∀ (l : List Leg) {L : List Ac}, LimL L → LimL (allL L l).2
 | [], _, h => h
 | x :: r, L, h => by
  unfold allL
  split
  ·exact post_lim h x
  ·exact all_lim r (post_lim h x)
theorem make_lim {L : List Ac} (h : LimL L) (l : List Leg) : LimL (makeL L l).2 := by
 unfold makeL
 split
 ·exact h
 ·exact all_lim l h
theorem freeH_lim {L : List Ac} (h : LimL L) (H : List Held) (k : ByteArray) (n : Int) : LimL (freeHL L H k n).2.1 := by
 unfold freeHL
 cases getK Held.key H ⟨k, n⟩ with
 | none => exact h
 | some y => exact turn_lim h _ _ _ (.inr rfl)
theorem put_lim {L : List Ac} (h : LimL L) (H : List Held) (x : Held) : LimL (putH L H x).2.1 := by
 unfold putH
 split
 ·exact h
 ·split
  ·exact h
  ·split
   ·exact h
   ·exact turn_lim h _ _ _ (.inr rfl)
theorem take_lim {L : List Ac} (h : LimL L) (H : List Held) (k : ByteArray) (n : Int) (p : ByteArray) (s : Int) : LimL (takeH L H k n p s).2.1 := by
 unfold takeH
 cases getK Held.key H ⟨k, n⟩ with
 | none => exact h
 | some y =>
  dsimp only
  split
  ·exact h
  ·split
   ·exact h
   ·split
    ·exact h
    ·exact make_lim (freeH_lim h H k n) _
theorem open_lim {L : List Ac} (h : LimL L) (k : ByteArray) (lim : Int) : LimL (openL L k lim).2 := by
 unfold openL
 split
 ·exact h
 ·rename_i h0
  split
  ·exact h
  ·split
   ·exact h
   ·intro a ha
    rcases List.mem_cons.1 ((insB_perm (lt := ltA) (⟨k, 0, 0, lim⟩ : Ac) L).mem_iff.1 ha) with rfl | ha
    ·show -lim ≤ 0 - 0
     have : ¬ lim < 0 := fun e => h0 (.inr e)
     omega
    ·exact h a ha
theorem do_lim {B : Bk} (h : LimL B.L) (x : Od) : LimL (doL B x).2.L := by
 unfold doL
 by_cases hr : rightB x = false
 ·rw [if_pos hr]; exact h
 rw [if_neg hr]
 unfold kindD
 by_cases k1 : x.kind = 1
 ·rw [if_pos k1]; exact open_lim h _ _
 rw [if_neg k1]
 by_cases k2 : x.kind = 2
 ·rw [if_pos k2]
  unfold postD
  split
  ·exact h
  ·exact make_lim h _
 rw [if_neg k2]
 by_cases k3 : x.kind = 3
 ·rw [if_pos k3]; exact put_lim h _ _
 rw [if_neg k3]
 by_cases k4 : x.kind = 4
 ·rw [if_pos k4]
  unfold capD
  split
  ·exact h
  ·exact take_lim h _ _ _ _ _
 rw [if_neg k4]
 by_cases k5 : x.kind = 5
 ·rw [if_pos k5]; exact freeH_lim h _ _ _
 rw [if_neg k5]
 by_cases k6 : x.kind = 6
 ·rw [if_pos k6]
  unfold shutD
  split
  ·exact h
  ·exact h
 rw [if_neg k6]
 exact h
/-- what BookWeighs keeps -/
structure InvW (B : Bk) : Prop where
 inv : InvB B
 hav : havL B.L = 0
 lim : LimL B.L
theorem InvW.do_ {B : Bk} (h : InvW B) {x : Od} (hx : OdB x) : InvW (doL B x).2 := ⟨h.inv.do_ hx, by rw [do_hav h.inv]; exact h.hav, do_lim h.lim x⟩
end Go.Proofs.YtampniiehgimhaaGreat
/- audit: the plain laws -/
namespace Go.Proofs.YtampniiehgimhaaGreat
open Go.RowKit
end Go.Proofs.YtampniiehgimhaaGreat
/- cmp.Compare, cmp.Or of ints -/
namespace Go.Proofs.YtampniiehgimhaaGreat
open Go.RowKit
end Go.Proofs.YtampniiehgimhaaGreat
