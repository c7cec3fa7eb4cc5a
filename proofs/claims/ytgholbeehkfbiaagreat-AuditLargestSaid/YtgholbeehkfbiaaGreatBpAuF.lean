/- audit: flows -/
import Derived.Test.YtgholbeehkfbiaaGreatRows
import Derived.Test.YtgholbeehkfbiaaGreatBpAuC
import Derived.Test.YtgholbeehkfbiaaGreatBm10
import Derived.Test.YtgholbeehkfbiaaGreatBm20
import Derived.Deep.CutBlock
import Derived.WalkKit
import Derived.WalkSpells
import Derived.WalkLawsBesides
import Derived.Deep.QuietTactic
import Derived.BigQuiet
import Derived.Laws.StructEq
import Derived.Deep.DeepFit
import Derived.StillTailTactics
namespace Go.Proofs.YtgholbeehkfbiaaGreat
open Go.RowKit
theorem FlM.cell_growI {w w1 : World} {B b : Nat} {T : List Fl} (h : FlM w B b T) {x : Fl} (hx : x ∈ T) (hg : w.grownBy w1 x.vi.ownBlock) : w1.heap[x.p]? = some (.cells #[x.vi, x.vo] 189 (0, 0)) := by
  obtain ⟨f, _, f2⟩ := h.lab
  obtain ⟨f0, f1, _⟩ := f2 x hx
  refine (hg.block _ (Array.getElem?_eq_some_iff.1 (h.cell x hx)).1 (fun e => ?_)).trans (h.cell x hx)
  have := f1 x.p e.symm
  rw [f0] at this
  injection this with this; injection this with _ this; cases this
theorem FlM.cell_growO {w w1 : World} {B b : Nat} {T : List Fl} (h : FlM w B b T) {x : Fl} (hx : x ∈ T) (hg : w.grownBy w1 x.vo.ownBlock) : w1.heap[x.p]? = some (.cells #[x.vi, x.vo] 189 (0, 0)) := by
  obtain ⟨f, _, f2⟩ := h.lab
  obtain ⟨f0, _, f1⟩ := f2 x hx
  refine (hg.block _ (Array.getElem?_eq_some_iff.1 (h.cell x hx)).1 (fun e => ?_)).trans (h.cell x hx)
  have := f1 x.p e.symm
  rw [f0] at this
  injection this with this; injection this with _ this; cases this
theorem Own.cells1 {α : Type} [Enc α] {w : World} {B : Nat} {e : TypeId} {v : Value} {l : List α} (h : Own w B e v l) : v.cells.toList = [v] ∧ v.oneCell' = true := by
  obtain ⟨A, c, rfl, _⟩ := h.sl
  exact ⟨rfl, rfl⟩
theorem legs_len6 {M : List Mv} {L : List Od} (h : M.map Mv.core = L.map coreM) (hL : ∀ x ∈ L, Mvd x) : ∀ m ∈ M, m.legs.length ≤ 6 := fun m hm => by
  have h1 : m.core ∈ L.map coreM := by rw [← h]; exact List.mem_map.2 ⟨m, hm, rfl⟩
  obtain ⟨x, hx, e⟩ := List.mem_map.1 h1
  have e2 : mvL x = m.legs := congrArg (fun p => p.2.2) e
  rw [← e2]
  exact (hL x hx).fits.2.1
theorem legsM_snoc {M : List Mv} {k : Nat} (hk : k < M.length) (a b : Int) : legsM (M.take (k + 1)) a b = if a ≤ M[k].period ∧ M[k].period ≤ b then legsM (M.take k) a b ++ M[k].legs else legsM (M.take k) a b := by
  unfold legsM
  rw [List.take_succ_eq_append_getElem hk, List.flatMap_append]
  split
  · rename_i h; simp [h]
  · rename_i h; simp [h]
theorem legsM_len {M : List Mv} (h : ∀ m ∈ M, m.legs.length ≤ 6) (k : Nat) (a b : Int) : (legsM (M.take k) a b).length ≤ 6 * M.length := by
  have := flat_le (fun x : Mv => if a ≤ x.period ∧ x.period ≤ b then x.legs else []) 6 (M.take k) fun x hx => by
    split
    · exact h x (List.mem_of_mem_take hx)
    · exact Nat.zero_le _
  rw [List.length_take] at this
  unfold legsM
  omega
set_option maxRecDepth 100000 in
set_option maxHeartbeats 1000000 in
theorem eql_fl (o : Option Fl) (W : World) : (binOp .eql 185 ((o.map Fl.ptr).getD (.pointer none)) (.pointer none)).run Tryz.prog W = .ok (.bool o.isNone) W := by
  have u := Tryz.underlying185
  cases o with
  | none => simp only [Option.map_none, Option.getD_none, Option.isNone_none]; go_simp
  | some X => simp only [Option.map_some, Option.getD_some, Option.isNone_some]; go_simp
set_option maxRecDepth 100000 in
set_option maxHeartbeats 1000000 in
theorem eqg_fl (o : Option Fl) (W : World) : (eqGuard .eql 185 (.tmp 42) (.const (.pointer none)) ((o.map Fl.ptr).getD (.pointer none)) (.pointer none)).run Tryz.prog W = .ok () W := by
  have u := Tryz.underlying185
  cases o with
  | none => simp only [Option.map_none, Option.getD_none]; go_simp
  | some X => simp only [Option.map_some, Option.getD_some]; go_simp
set_option maxRecDepth 100000 in
set_option maxHeartbeats 16000000 in
theorem aflows_c (A : Option Addr) (c : Nat) (l : List Od) (fa fb : Int) (w : World) (h : Sl w w.heap.size A c l) (hx : ∀ x ∈ l, OdB x) (hl : ∀ x ∈ l, x.legs.length ≤ 65536) (hn : l.length ≤ 10000) :
    Calls Tryz.prog 93 #[.slice A l.length c, i64 fa, i64 fb] w fun e w' => ∃ (b : Nat) (T : List Fl), e = .returned (.map (some b)) ∧ FlM w' w.heap.size b T ∧ FlR T (namesL (legsR (movedL l) fa fb)) (legsR (movedL l) fa fb) ∧ w.heap.size ≤ b ∧ Below w.heap.size w w' := by
  have hmm := @run_makeMap Tryz.prog
  have hba := (Below.refl w.heap.size w).alloc (Nat.le_refl _) (.map #[] 0)
  have hN := Lib.hid (amoves_c A c l (w.alloc (.map #[] 0)) (h.later hba) hx hl (by omega))
  have HM0 := Lib.hid (MapIs.made (enc := Value.string) w)
  have HKz := Lib.hid (fun B => FlM.made w B)
  have HMd := Lib.hid (show ∀ x ∈ movedL l, Mvd x from fun x hm => (movedL_mem hx hm).2)
  have hLn : (movedL l).length ≤ 10000 := Nat.le_trans (movedL_len l) hn
  have hz0 : (w.alloc (.map #[] 0)).heap.size = w.heap.size + 1 := by simp
  have Hba := Lib.hid hba
  have hlc : l.length ≤ c := h.1
  clear h hx hl hba
  generalize movedL l = L at *
  go_enter Tryz.func93, Tryz.ntmps93
  go_wp2_with fail
  generalize w.alloc (.map #[] 0) = w0 at *
  refine hN.out.mono ?_
  rintro e w1 ⟨vm, M, rfl, hcore, hOm, hF⟩
  have hm1 := HM0.out.later hF
  obtain ⟨Am, cm, rfl, hsm0⟩ := hOm.sl
  have hsm := hsm0.off_map hm1 (by decide) (fun m hm => (⟨(show Mv.Ok _ _ m from hsm0.2.2.2 m hm).legs.off_map hm1 (by decide) (fun y hy => (show Mv.Ok _ _ m from hsm0.2.2.2 m hm).legs.2.2.2 y hy)⟩ : Mv.Ok _ _ m))
  have hcm : M.length ≤ cm := hsm.1
  have hMl : M.length ≤ 10000 := by have := congrArg List.length hcore; rw [List.length_map, List.length_map] at this; omega
  have H6 := Lib.hid (legs_len6 hcore HMd.out)
  have Hcore := Lib.hid hcore
  have Hsm := Lib.hid hsm
  have HK0 := Lib.hid ((HKz.out w1.heap.size).later hF)
  have hw1 := hF.size
  have Hb1 := Lib.hid (below_on Hba.out (by omega) hF)
  clear hN hOm hsm hsm0 hF hcore hm1 HM0 HMd Hba
  go_wp2_with fail
  go_loopw [17] (fun i wr => ∃ (k : Nat) (T : List Fl), i = i64 k ∧ k ≤ M.length ∧ FlM wr w1.heap.size w.heap.size T ∧ FlR T (namesL (legsM (M.take k) fa fb)) (legsM (M.take k) fa fb) ∧ Gr w1 wr (fun j => j = w.heap.size)) (fun i _ => M.length - (intOf i).toNat)
  case atStart => exact ⟨0, [], rfl, Nat.zero_le _, HK0.out, FlR.nil_, Gr.refl _ _⟩
  case round =>
    obtain ⟨k, T, rfl, hk, hK, hR, hG⟩ := hrel
    obtain ⟨wo, rfl⟩ : ∃ wo, wo = wr := ⟨wr, rfl⟩
    have hwz := hG.size
    by_cases hlt : k < M.length
    · have g1 : decide ((k : Int) < (M.length : Int)) = true := decide_eq_true (by omega)
      have g2 : decide (k < M.length) = true := decide_eq_true hlt
      have i0 : (0 : Int) ≤ (k : Int) := by omega
      have i1 : (k : Int) < (M.length : Int) := by omega
      obtain ⟨bm, om, rfl, hbm, hokm, c0, c1, c2, c3⟩ := (Hsm.out.grs hG (fun b hb => hb)).mv hlt
      have h6 := H6.out M[k] (List.getElem_mem hlt)
      have Hst := Lib.hid (legsM_snoc hlt fa fb)
      have hls := legsM_len H6.out k fa fb
      obtain ⟨m, hmk⟩ : ∃ m, M[k] = m := ⟨_, rfl⟩
      simp only [hmk] at c0 c1 c2 c3 hokm h6 Hst
      have hlg0 := (show Mv.Ok w1 _ m from hmk ▸ Hsm.out.2.2.2 M[k] (List.getElem_mem hlt)).legs
      clear hmk hokm hbm
      obtain ⟨mc, ms, mp, mla, mlc, mlg⟩ := m
      dsimp only at c0 c1 c2 c3 h6 Hst hlg0
      have hba := (Below.refl wo.heap.size wo).alloc (Nat.le_refl _) (.cells #[i64 mc, i64 ms, i64 mp, .slice mla mlg.length mlc] 85)
      have HKm := Lib.hid (hK.later hba)
      have HGm := Lib.hid (hG.more hba)
      have HR := Lib.hid hR
      have Hlg := Lib.hid hlg0
      have hlc2 : mlg.length ≤ mlc := hlg0.1
      clear hK hG hR hba hlg0
      generalize hgls : legsM (M.take k) fa fb = ls at *
      clear hgls
      by_cases hin : fa ≤ mp ∧ mp ≤ fb
      · have e1 : decide (mp < fa) = false := decide_eq_false (by omega)
        have e2 : decide (mp > fb) = false := decide_eq_false (by omega)
        have e3 : decide (fb < mp) = false := decide_eq_false (by omega)
        rw [if_pos hin] at Hst
        clear hin
        go_wp2_with fail
        generalize wo.alloc (.cells #[i64 mc, i64 ms, i64 mp, .slice mla mlg.length mlc] 85) = wm at *
        go_loopw [34] (fun i wr => ∃ (j : Nat) (T : List Fl), i = i64 j ∧ j ≤ mlg.length ∧ FlM wr w1.heap.size w.heap.size T ∧ FlR T (namesL (ls ++ mlg.take j)) (ls ++ mlg.take j) ∧ Gr w1 wr (fun j => j = w.heap.size)) (fun i _ => mlg.length - (intOf i).toNat)
        case atStart => exact ⟨0, T, rfl, Nat.zero_le _, HKm.out, by rw [List.take_zero, List.append_nil]; exact HR.out, HGm.out⟩
        case round =>
          clear HKm HGm HR
          obtain ⟨j, T1, rfl, hj, hK, hR, hG⟩ := hrel
          obtain ⟨wi, rfl⟩ : ∃ wi, wi = wr := ⟨wr, rfl⟩
          have hwi := hG.size
          by_cases hjt : j < mlg.length
          · have g3 : decide ((j : Int) < (mlg.length : Int)) = true := decide_eq_true (by omega)
            have g4 : decide (j < mlg.length) = true := decide_eq_true hjt
            have j0 : (0 : Int) ≤ (j : Int) := by omega
            have j1 : (j : Int) < (mlg.length : Int) := by omega
            obtain ⟨bl, ol, rfl, hbl, -, d0, d1⟩ := (Hlg.out.grs hG (fun b hb => hb)).leg hjt
            have Htk := Lib.hid (show ls ++ mlg.take (j + 1) = (ls ++ mlg.take j) ++ [mlg[j]] by rw [List.take_succ_eq_append_getElem hjt, List.append_assoc])
            have hls2 : (ls ++ mlg.take j).length ≤ 60006 := by rw [List.length_append, List.length_take]; omega
            obtain ⟨y, hyk⟩ : ∃ y, mlg[j] = y := ⟨_, rfl⟩
            simp only [hyk] at d0 d1 Htk
            generalize ls ++ mlg.take j = ls2 at *
            have hba := (Below.refl wi.heap.size wi).alloc (Nat.le_refl _) (.cells #[.string y.acct, i64 y.sum] 173)
            have hq0 := heap_alloc_new wi (.cells #[.string y.acct, i64 y.sum] 173)
            have hKq := hK.later hba
            have hGq := hG.more hba
            have hlt1 := hK.lt
            have hlk := hKq.look y.acct
            have hek := eql_fl (getF T1 y.acct)
            have hgk := eqg_fl (getF T1 y.acct)
            obtain ⟨pv, hpv⟩ : ∃ pv, ((getF T1 y.acct).map Fl.ptr).getD (.pointer none) = pv := ⟨_, rfl⟩
            obtain ⟨bq, hbq⟩ : ∃ bq, (getF T1 y.acct).isNone = bq := ⟨_, rfl⟩
            rw [hpv] at hlk hek hgk
            rw [hbq] at hek
            have Hpv := Lib.hid hpv
            have Hbq := Lib.hid hbq
            clear hpv hbq
            have hqz : (wi.alloc (.cells #[.string y.acct, i64 y.sum] 173)).heap.size = wi.heap.size + 1 := by simp
            have s0 := cell_of_row _ wi.heap.size 0 _ _ (0, 0) hq0
            simp only [List.getElem?_toArray, List.getElem?_cons_zero] at s0
            have HKq := Lib.hid hKq
            have HGq := Lib.hid hGq
            have HR := Lib.hid hR
            have Hq0 := Lib.hid hq0
            have Hlt1 := Lib.hid hlt1
            clear hyk hK hG hR hba hq0 hKq hGq hlt1 hbl
            go_upto_if 43 with fail
            generalize wi.alloc (.cells #[.string y.acct, i64 y.sum] 173) = wq at *
            generalize wi.heap.size = q at *
            go_cut [12] from 44 to 50 (fun s12 wx => ∃ (T2 : List Fl) (X : Fl), s12 = X.ptr ∧ X ∈ T2 ∧ X.name = y.acct ∧ FlM wx w1.heap.size w.heap.size T2 ∧ FlR T2 (addN (namesL ls2) y.acct) ls2 ∧ Gr w1 wx (fun j => j = w.heap.size) ∧ (∀ g, flAll w.heap.size T2 g → g ≠ q) ∧ wx.heap[q]? = some (.cells #[.string y.acct, i64 y.sum] 173 (0, 0)))
            case first =>
              cases hg : getF T1 y.acct with
              | some X =>
                have hX := getF_mem hg
                have hN := HR.out.has hg
                have hpv := Hpv.out
                have hbq := Hbq.out
                rw [hg] at hpv hbq
                simp only [Option.map_some, Option.getD_some, Option.isNone_some] at hpv hbq
                subst hpv hbq
                have HX := Lib.hid hX
                have HN := Lib.hid hN
                clear hg hX hN Hpv Hbq
                go_wp2_with fail
                go_meet
                exact ⟨T1, X, rfl, HX.out.1, HX.out.2, HKq.out, by rw [HN.out]; exact HR.out, HGq.out, fun g hg e => by have := (Hlt1.out g hg).2; omega, Hq0.out⟩
              | none =>
                have hpv := Hpv.out
                have hbq := Hbq.out
                rw [hg] at hpv hbq
                simp only [Option.map_none, Option.getD_none, Option.isNone_none] at hpv hbq
                subst hpv hbq
                have Hg := Lib.hid hg
                have hbn := (Below.refl wq.heap.size wq).alloc (Nat.le_refl _) (.cells #[.slice none 0 0, .slice none 0 0] 189)
                have hKn := HKq.out.later hbn
                obtain ⟨w5, hrun, hm5, hg5⟩ := run_put (P := Tryz.prog) strKey Tryz.underlying179 hKn.map y.acct (.pointer (some ⟨q + 1, 0, none⟩))
                have HF := Lib.hid (HKq.out.new hg (by have := HGq.out.size; omega) (by rw [hqz]; exact hm5) hg5)
                have s1 := (hbn.cell (p := ⟨q, 0, none⟩) (show q < wq.heap.size by omega)).trans s0
                clear hg hKn hm5 hbn hg5
                go_wp2_with fail
                go_meet
                obtain ⟨hK5, hG5⟩ := HF.out
                refine ⟨T1 ++ [fl0 y.acct wq.heap.size], fl0 y.acct wq.heap.size, by show _ = Value.pointer (some ⟨wq.heap.size, 0, none⟩); rw [hqz], by simp, rfl, hK5, HR.out.add Hg.out _, HGq.out.after hG5, fun g hg e => ?_, (hG5.block q (by omega) (fun e => by have := HGq.out.size; have := (Hlt1.out w.heap.size (.inl rfl)).2; omega)).trans Hq0.out⟩
                rcases hg with rfl | ⟨z, hz, hzg⟩
                · have := (Hlt1.out _ (.inl rfl)).2; omega
                · rcases List.mem_append.1 hz with hz | hz
                  · have := (Hlt1.out g (.inr ⟨z, hz, hzg⟩)).2; omega
                  · obtain rfl := List.mem_singleton.1 hz
                    rcases hzg with rfl | h9 | h9
                    · have : wq.heap.size = q := e
                      omega
                    · cases h9
                    · cases h9
            case rest =>
              obtain ⟨T2, X, rfl, hX, hXn, hK, hR, hG, hqT, hqc⟩ := hcut
              obtain ⟨Wc, rfl⟩ : ∃ Wc, Wc = wc := ⟨wc, rfl⟩
              have s1 := cell_of_row _ q 1 _ _ (0, 0) hqc
              simp only [List.getElem?_toArray, List.getElem?_cons_zero, List.getElem?_cons_succ] at s1
              have HX := Lib.hid hX
              have HN := Lib.hid (show addN (namesL ls2) y.acct = addN (namesL ls2) X.name by rw [hXn])
              have HXy := Lib.hid (show (⟨X.name, y.sum⟩ : Leg) = y by rw [hXn])
              have HK := Lib.hid (fun V (hV : Below Wc.heap.size Wc V) => hK.later hV)
              have HR := Lib.hid hR
              have HG := Lib.hid hG
              have Hli := Lib.hid (show X.li.length + 1 ≤ 4294967296 by have := hR.inn X hX; have h2 := inK_len ls2 X.name; rw [this]; omega)
              have Hlo := Lib.hid (show X.lo.length + 1 ≤ 4294967296 by have := hR.out X hX; have h2 := outK_len ls2 X.name; rw [this]; omega)
              have Hxc := Lib.hid (hK.cell X hX)
              have Hqc := Lib.hid hqc
              have HqI := Lib.hid (show some q ≠ X.vi.ownBlock from fun e => hqT q (.inr ⟨X, hX, .inr (.inl e.symm)⟩) rfl)
              have HqO := Lib.hid (show some q ≠ X.vo.ownBlock from fun e => hqT q (.inr ⟨X, hX, .inr (.inr e.symm)⟩) rfl)
              have hBW : w1.heap.size ≤ Wc.heap.size := hG.size
              have hqz2 : q < Wc.heap.size := (Array.getElem?_eq_some_iff.1 hqc).1
              have hxz2 : X.p < Wc.heap.size := (Array.getElem?_eq_some_iff.1 Hxc.out).1
              have HS : Hid (∀ V : World, V.heap[X.p]? = some (.cells #[X.vi, X.vo] 189 (0, 0)) → V.heap[q]? = some (.cells #[.string y.acct, i64 y.sum] 173 (0, 0)) → (fun V : World => V.cell? ⟨X.p, 0, none⟩ = some X.vi ∧ V.cell? ⟨X.p, 1, none⟩ = some X.vo ∧ V.cell? ⟨q, 0, none⟩ = some (.string y.acct) ∧ V.cell? ⟨q, 1, none⟩ = some (i64 y.sum)) V) := Lib.hid fun V h1 h2 =>
                ⟨cell_of_row _ X.p 0 _ _ (0, 0) h1, cell_of_row _ X.p 1 _ _ (0, 0) h1, cell_of_row _ q 0 _ _ (0, 0) h2, cell_of_row _ q 1 _ _ (0, 0) h2⟩
              clear hX hXn hK hR hG hqT hqc HKq HGq Hlt1 hlk hek hgk Hpv Hbq Hq0
              by_cases hy0 : 0 < y.sum
              · have e4 : decide (y.sum > 0) = true := decide_eq_true hy0
                have e5 : decide (0 < y.sum) = true := decide_eq_true hy0
                have Hys := Lib.hid hy0
                clear hy0
                go_upto_region 14 with fail
                refine wp_region_noPanic ?_
                refine wp_region_l 11 (fun V : World => V.cell? ⟨X.p, 0, none⟩ = some X.vi ∧ V.cell? ⟨X.p, 1, none⟩ = some X.vo ∧ V.cell? ⟨q, 0, none⟩ = some (.string y.acct) ∧ V.cell? ⟨q, 1, none⟩ = some (i64 y.sum)) (by kernel_rfl) (HS.out _ Hxc.out Hqc.out) (fun hH => ?_)
                have hbd := (Below.refl Wc.heap.size Wc).drew
                generalize Wc.drew = Wd at *
                refine tkY 0 (v := ?v20001) ?y20001 ?r20001
                case y20001 => (intro W hW; go_simp; try with_reducible rfl)
                try simp only [List.set]
                refine tkY 1 (v := ?v20002) ?y20002 ?r20002
                case y20002 => (intro W hW; go_simp; try with_reducible rfl)
                try simp only [List.set]
                refine tkY 2 (v := ?v20003) ?y20003 ?r20003
                case y20003 => (intro W hW; go_simp; try with_reducible rfl)
                try simp only [List.set]
                refine tkY 3 (v := ?v20004) ?y20004 ?r20004
                case y20004 => (intro W hW; go_simp; try with_reducible rfl)
                try simp only [List.set]
                refine tkY 4 (v := ?v20005) ?y20005 ?r20005
                case y20005 => (intro W hW; go_simp; try with_reducible rfl)
                try simp only [List.set]
                refine tkY 5 (v := ?v20006) ?y20006 ?r20006
                case y20006 => (intro W hW; go_simp; try with_reducible rfl)
                try simp only [List.set]
                refine tkY 6 (v := ?v20007) ?y20007 ?r20007
                case y20007 => (intro W hW; go_simp; try with_reducible rfl)
                try simp only [List.set]
                refine wpAnyL_one (i := 7) (by kernel_rfl) rfl (by decide) (fun K hK => ?_)
                refine oper_lit_i64 59 rfl y.sum rfl ?_
                have HH := Lib.hid (heap_alloc_new Wd (.cells #[i64 y.sum] 2))
                have hba := (Below.refl Wd.heap.size Wd).alloc (Nat.le_refl _) (.cells #[i64 y.sum] 2)
                have HK2 := Lib.hid ((HK.out _ hbd).later hba)
                have HO2 := Lib.hid (HK2.out.inn X HX.out)
                have Hne := Lib.hid (((HK.out _ hbd).inn X HX.out).new_ne (Nat.le_refl Wd.heap.size))
                have hbu := hbd.alloc hbd.size (.cells #[i64 y.sum] 2)
                have HBu := Lib.hid hbu
                have hq2 := Lib.hid ((hbu.block q hqz2).trans Hqc.out)
                have hx2 := Lib.hid ((hbu.block X.p hxz2).trans Hxc.out)
                clear hba hbu
                refine hK.out _ _ (HS.out _ hx2.out hq2.out) (fun hH => ?_)
                clear hK K
                try simp only [Act.put, List.getElem_toArray, List.getElem_cons_zero, List.getElem_cons_succ, List.setIfInBounds_toArray, List.set_cons_zero, List.set_cons_succ]
                refine wpAnyL_one (i := 8) (by kernel_rfl) rfl (by decide) (fun K hK => ?_)
                refine oper_append_one (.tmp 57) (.tmp 60) 187 rfl _ 8 Tryz.underlying187 inf_i64 rfl (by decide) (by decide) rfl HO2.out Wd.heap.size y.sum rfl _ 2 HH.out rfl Hne.out trivial Hli.out (Nat.le_trans hBW HBu.out.size) ?_
                intro v2 u2 hO3 hg3 hat3
                have HO3 := Lib.hid hO3
                have Hg3 := Lib.hid hg3
                have Hat3 := Lib.hid hat3
                have Hc3 := Lib.hid (HK2.out.cell_growI HX.out hg3)
                have hq3 := Lib.hid ((hg3.block q (Nat.lt_of_lt_of_le hqz2 HBu.out.size) HqI.out).trans hq2.out)
                clear hO3 hg3 hat3 HH Hne HO2
                refine hK.out _ _ (HS.out _ Hc3.out hq3.out) (fun hH => ?_)
                clear hK K
                try simp only [Act.put, List.getElem_toArray, List.getElem_cons_zero, List.getElem_cons_succ, List.setIfInBounds_toArray, List.set_cons_zero, List.set_cons_succ]
                refine tkY 9 (v := ?v20008) ?y20008 ?r20008
                case y20008 => (intro W hW; go_simp; try with_reducible rfl)
                try simp only [List.set]
                refine tkY 10 (v := ?v20009) ?y20009 ?r20009
                case y20009 => (intro W hW; go_simp; try with_reducible rfl)
                try simp only [List.set]
                refine wpAnyL_last (by kernel_rfl) rfl (fun K hK => ?_)
                refine oper_store_arr (.tmp 63) (.tmp 61) 187 rfl (by kernel_rfl) X.p 0 #[X.vi, X.vo] v2 Hc3.out (by simp) rfl HO3.out.cells1.1 HO3.out.cells1.2 ?_
                intro u3 hc4 hg4
                have HK4 := Lib.hid (HK2.out.growI HX.out HO3.out Hg3.out Hat3.out hc4 hg4)
                clear hc4 hg4
                refine hK.out _ _ ?_
                clear hK K
                try simp only [Act.put, List.getElem_toArray, List.getElem_cons_zero, List.getElem_cons_succ, List.setIfInBounds_toArray, List.set_cons_zero, List.set_cons_succ]
                refine wpAnyL_done (by kernel_rfl) ?_ _
                refine NoPanic.normal ?_
                have HG4 := Lib.hid ((HG.out.more HBu.out).trans HK4.out.2 (fun j e => .inr (by
                  rcases e with e | e
                  · rw [e]; exact HK2.out.lo X HX.out
                  · exact ((HK2.out.inn X HX.out).1.lt j e).1)))
                have HR4 := Lib.hid (HR.out.growI HX.out HN.out Hys.out v2)
                clear hH HS HK HK2 HO3 Hg3 Hat3 Hc3 hq3 hq2 hx2
                go_wp2
                go_roundw
                case rel => exact ⟨j + 1, _, by go_num, by omega, HK4.out.1, by rw [Htk.out, ← HXy.out]; exact HR4.out, HG4.out⟩
                case measure => simp [intOf]; omega
              · have e4 : decide (y.sum > 0) = false := decide_eq_false hy0
                have e5 : decide (0 < y.sum) = false := decide_eq_false hy0
                have Hys := Lib.hid hy0
                clear hy0
                go_upto_region 15 with fail
                refine wp_region_noPanic ?_
                refine wp_region_l 11 (fun V : World => V.cell? ⟨X.p, 0, none⟩ = some X.vi ∧ V.cell? ⟨X.p, 1, none⟩ = some X.vo ∧ V.cell? ⟨q, 0, none⟩ = some (.string y.acct) ∧ V.cell? ⟨q, 1, none⟩ = some (i64 y.sum)) (by kernel_rfl) (HS.out _ Hxc.out Hqc.out) (fun hH => ?_)
                have hbd := (Below.refl Wc.heap.size Wc).drew
                generalize Wc.drew = Wd at *
                refine tkY 0 (v := ?v20010) ?y20010 ?r20010
                case y20010 => (intro W hW; go_simp; try with_reducible rfl)
                try simp only [List.set]
                refine tkY 1 (v := ?v20011) ?y20011 ?r20011
                case y20011 => (intro W hW; go_simp; try with_reducible rfl)
                try simp only [List.set]
                refine tkY 2 (v := ?v20012) ?y20012 ?r20012
                case y20012 => (intro W hW; go_simp; try with_reducible rfl)
                try simp only [List.set]
                refine tkY 3 (v := ?v20013) ?y20013 ?r20013
                case y20013 => (intro W hW; go_simp; try with_reducible rfl)
                try simp only [List.set]
                refine tkY 4 (v := ?v20014) ?y20014 ?r20014
                case y20014 => (intro W hW; go_simp; try with_reducible rfl)
                try simp only [List.set]
                refine tkY 5 (v := ?v20015) ?y20015 ?r20015
                case y20015 => (intro W hW; go_simp; try with_reducible rfl)
                try simp only [List.set]
                refine tkY 6 (v := ?v20016) ?y20016 ?r20016
                case y20016 => (intro W hW; go_simp; try with_reducible rfl)
                try simp only [List.set]
                refine wpAnyL_one (i := 7) (by kernel_rfl) rfl (by decide) (fun K hK => ?_)
                refine oper_lit_i64 70 rfl y.sum rfl ?_
                have HH := Lib.hid (heap_alloc_new Wd (.cells #[i64 y.sum] 2))
                have hba := (Below.refl Wd.heap.size Wd).alloc (Nat.le_refl _) (.cells #[i64 y.sum] 2)
                have HK2 := Lib.hid ((HK.out _ hbd).later hba)
                have HO2 := Lib.hid (HK2.out.out X HX.out)
                have Hne := Lib.hid (((HK.out _ hbd).out X HX.out).new_ne (Nat.le_refl Wd.heap.size))
                have hbu := hbd.alloc hbd.size (.cells #[i64 y.sum] 2)
                have HBu := Lib.hid hbu
                have hq2 := Lib.hid ((hbu.block q hqz2).trans Hqc.out)
                have hx2 := Lib.hid ((hbu.block X.p hxz2).trans Hxc.out)
                clear hba hbu
                refine hK.out _ _ (HS.out _ hx2.out hq2.out) (fun hH => ?_)
                clear hK K
                try simp only [Act.put, List.getElem_toArray, List.getElem_cons_zero, List.getElem_cons_succ, List.setIfInBounds_toArray, List.set_cons_zero, List.set_cons_succ]
                refine wpAnyL_one (i := 8) (by kernel_rfl) rfl (by decide) (fun K hK => ?_)
                refine oper_append_one (.tmp 68) (.tmp 71) 187 rfl _ 8 Tryz.underlying187 inf_i64 rfl (by decide) (by decide) rfl HO2.out Wd.heap.size y.sum rfl _ 2 HH.out rfl Hne.out trivial Hlo.out (Nat.le_trans hBW HBu.out.size) ?_
                intro v2 u2 hO3 hg3 hat3
                have HO3 := Lib.hid hO3
                have Hg3 := Lib.hid hg3
                have Hat3 := Lib.hid hat3
                have Hc3 := Lib.hid (HK2.out.cell_growO HX.out hg3)
                have hq3 := Lib.hid ((hg3.block q (Nat.lt_of_lt_of_le hqz2 HBu.out.size) HqO.out).trans hq2.out)
                clear hO3 hg3 hat3 HH Hne HO2
                refine hK.out _ _ (HS.out _ Hc3.out hq3.out) (fun hH => ?_)
                clear hK K
                try simp only [Act.put, List.getElem_toArray, List.getElem_cons_zero, List.getElem_cons_succ, List.setIfInBounds_toArray, List.set_cons_zero, List.set_cons_succ]
                refine tkY 9 (v := ?v20017) ?y20017 ?r20017
                case y20017 => (intro W hW; go_simp; try with_reducible rfl)
                try simp only [List.set]
                refine tkY 10 (v := ?v20018) ?y20018 ?r20018
                case y20018 => (intro W hW; go_simp; try with_reducible rfl)
                try simp only [List.set]
                refine wpAnyL_last (by kernel_rfl) rfl (fun K hK => ?_)
                refine oper_store_arr (.tmp 74) (.tmp 72) 187 rfl (by kernel_rfl) X.p 1 #[X.vi, X.vo] v2 Hc3.out (by simp) rfl HO3.out.cells1.1 HO3.out.cells1.2 ?_
                intro u3 hc4 hg4
                have HK4 := Lib.hid (HK2.out.growO HX.out HO3.out Hg3.out Hat3.out hc4 hg4)
                clear hc4 hg4
                refine hK.out _ _ ?_
                clear hK K
                try simp only [Act.put, List.getElem_toArray, List.getElem_cons_zero, List.getElem_cons_succ, List.setIfInBounds_toArray, List.set_cons_zero, List.set_cons_succ]
                refine wpAnyL_done (by kernel_rfl) ?_ _
                refine NoPanic.normal ?_
                have HG4 := Lib.hid ((HG.out.more HBu.out).trans HK4.out.2 (fun j e => .inr (by
                  rcases e with e | e
                  · rw [e]; exact HK2.out.lo X HX.out
                  · exact ((HK2.out.out X HX.out).1.lt j e).1)))
                have HR4 := Lib.hid (HR.out.growO HX.out HN.out Hys.out v2)
                clear hH HS HK HK2 HO3 Hg3 Hat3 Hc3 hq3 hq2 hx2
                go_wp2
                go_roundw
                case rel => exact ⟨j + 1, _, by go_num, by omega, HK4.out.1, by rw [Htk.out, ← HXy.out]; exact HR4.out, HG4.out⟩
                case measure => simp [intOf]; omega
          · obtain rfl : j = mlg.length := by omega
            have g3 : decide ((mlg.length : Int) < (mlg.length : Int)) = false := decide_eq_false (by omega)
            rw [List.take_length] at hR
            have HK := Lib.hid hK
            have HR := Lib.hid hR
            have HG := Lib.hid hG
            clear hK hR hG
            go_wp2
            go_roundw
            case rel => exact ⟨k + 1, T1, by go_num, by omega, HK.out, by rw [Hst.out]; exact HR.out, HG.out⟩
            case measure => simp [intOf]; omega
      · rw [if_neg hin] at Hst
        by_cases hp : mp < fa
        · have e1 : decide (mp < fa) = true := decide_eq_true hp
          clear hin hp
          go_wp2
          go_roundw
          case rel => exact ⟨k + 1, T, by go_num, by omega, HKm.out, by rw [Hst.out]; exact HR.out, HGm.out⟩
          case measure => simp [intOf]; omega
        · have e1 : decide (mp < fa) = false := decide_eq_false hp
          have e2 : decide (mp > fb) = true := decide_eq_true (by omega)
          have e3 : decide (fb < mp) = true := decide_eq_true (by omega)
          clear hin hp
          go_wp2
          go_roundw
          case rel => exact ⟨k + 1, T, by go_num, by omega, HKm.out, by rw [Hst.out]; exact HR.out, HGm.out⟩
          case measure => simp [intOf]; omega
    · obtain rfl : k = M.length := by omega
      have g1 : decide ((M.length : Int) < (M.length : Int)) = false := decide_eq_false (by omega)
      rw [List.take_length, legsM_eq _ _ Hcore.out] at hR
      have HK := Lib.hid hK
      have HR := Lib.hid hR
      have HG := Lib.hid hG
      clear hK hR hG
      go_wp2
      go_ret
      exact ⟨_, T, rfl, HK.out.mono (by omega), HR.out, Nat.le_refl _, Hb1.out.trans (HG.out.below (by omega) (fun j e => by omega))⟩
end Go.Proofs.YtgholbeehkfbiaaGreat
