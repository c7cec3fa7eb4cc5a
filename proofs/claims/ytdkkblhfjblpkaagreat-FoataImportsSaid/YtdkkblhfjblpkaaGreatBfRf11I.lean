/- ref11.Import -/
import Derived.Test.YtdkkblhfjblpkaaGreatRows
import Derived.Test.YtdkkblhfjblpkaaGreatBfRf11E
import Derived.Test.YtdkkblhfjblpkaaGreatBfRf11A
import Derived.Test.YtdkkblhfjblpkaaGreatBfFoBack
import Derived.Test.YtdkkblhfjblpkaaGreatBi9
import Derived.Test.YtdkkblhfjblpkaaGreatBi24
import Derived.Test.YtdkkblhfjblpkaaGreatBi23
import Derived.Lib.ConvBytes
import Derived.WalkKit
import Derived.WalkSpells
import Derived.WalkLawsBesides
import Derived.Deep.QuietTactic
import Derived.BigQuiet
import Derived.Laws.StructEq
import Derived.Deep.DeepFit
import Derived.StillTailTactics
namespace Go.Proofs.YtdkkblhfjblpkaaGreat
open Go.RowKit
theorem Sl.one2 {w : World} {n : Nat} {A : Option Addr} {c : Nat} {l : List UInt8} (h : Sl w n A c l) (hp : 0 < n) : ∃ r, r < n ∧ ∀ w', Below n w w' → SlS w' (fun b => b = r) A c l := by
  obtain ⟨r, hr, hs⟩ := SlS.one_block h hp
  exact ⟨r, hr, fun w' hb => hs.keep (fun p hp2 => hb.cell (by rw [hp2]; exact hr)) (fun _ h => h)⟩
theorem import_conv {b : List UInt8} {S : List (List Od)} (h : rdF b = some S) (he : errX (layL S) = 0) (ho : outX (layL S) = b) : importB b = some S := by
  obtain ⟨hx, hw⟩ := errX_iff.1 he
  have hv := okX_val hx
  have hn : (layL S).length ≤ 200 := by unfold okX at hx; rw [Bool.and_eq_true, decide_eq_true_eq] at hx; exact hx.1
  obtain ⟨h1, h2, h3⟩ := rdF_dec h
  have hr : ∀ x ∈ layL S, rightB x = true := fun x hm => (good_lay h2 x hm).1
  have hin : ∀ x ∈ layL S, InR x := fun x hm => (good_lay h2 x hm).2.1
  have hp := lay_perm (layL S)
  rw [(out_of hv hn hr).2, ← h3] at ho
  have mem : ∀ {s : List Od}, s ∈ stepsV (layL S) → ∀ y ∈ s, y ∈ layL S := fun {s} hs y hy => hp.mem_iff.1 (by
    have : y ∈ layL (stepsV (layL S)) := by unfold layL; exact List.mem_flatten.2 ⟨s, hs, hy⟩
    exact this)
  have slen : ∀ {s : List Od}, s ∈ stepsV (layL S) → s.length ≤ 60000 := fun {s} hs => by
    have h4 : s.length ≤ (layL (stepsV (layL S))).length := by
      show s.length ≤ (List.flatten _).length
      exact (List.sublist_flatten_of_mem hs).length_le
    rw [hp.length_eq] at h4
    omega
  have h5 : (stepsV (layL S)).length ≤ 60000 := by
    rw [stepsV_len]
    have := (most_small (layL S)).2
    omega
  have hi := wrL_inj h5 (by omega) (fun s hs => ⟨slen hs, fun x hx => bytesB_le (hr x (mem hs x hx)) (hin x (mem hs x hx))⟩) (fun s hs => ⟨by have := (h2 s hs).2.1; omega, fun x hx => bytesB_le ((h2 s hs).2.2 x hx).1 ((h2 s hs).2.2 x hx).2.1⟩) ho
  have k1 : (stepsV (layL S)).map K = ((stepsV (layL S)).map fun s => s.map bytesB).map fun s => s.map rawO := by
    rw [List.map_map]
    exact List.map_congr_left fun s hs => K_of_bytes fun x hx => ⟨hr x (mem hs x hx), hin x (mem hs x hx)⟩
  have k2 : S.map K = (S.map fun s => s.map bytesB).map fun s => s.map rawO := by
    rw [List.map_map]
    exact List.map_congr_left fun s hs => K_of_bytes fun x hx => ⟨((h2 s hs).2.2 x hx).1, ((h2 s hs).2.2 x hx).2.1⟩
  have hno : normalB S = true := normalB_iff.2 ⟨hv, by rw [k1, k2, hi]⟩
  rw [import_of h, if_pos]
  unfold okI
  rw [hno, decide_eq_true hn]
  rfl
theorem import_not {b : List UInt8} {S : List (List Od)} (h : rdF b = some S) (hno : ¬ (errX (layL S) = 0 ∧ outX (layL S) = b)) : importB b = none := by
  cases hi : importB b with
  | none => rfl
  | some T =>
    have h1 := (import_dec hi).1
    rw [h] at h1
    injection h1 with h1
    subst h1
    exact absurd (back_b hi) hno
theorem core_in {o : Od} {l : List UInt8} (h : o.core = rawO l) (hr : readOk l = true) : o.legs.length ≤ 10 ∧ InR o := by
  obtain ⟨_, h2, h3, _⟩ := goodO_raw hr
  rw [← h] at h2 h3
  have e : o.core.legs = o.legs := rfl
  rw [e] at h3
  exact ⟨by omega, h2⟩
theorem rg_zero {lo hi err : Int} {l : List UInt8} : (rangeRd lo hi err l).1.2 ≠ 0 → (rangeRd lo hi err l).1.1 = 0 := by
  intro h
  unfold rangeRd at h ⊢
  split
  · rfl
  · rename_i h1
    rw [if_neg h1] at h
    split
    · rfl
    · rename_i h2
      rw [if_neg h2] at h
      exact absurd rfl h
theorem bad0 {n : Nat} {s0 : St} {F : Option (List (List Od))} (h : fin (rdS n s0) = F) (hs : s0.1 ≠ 0) (hn : s0.1 ≠ 0 → n = 0) : F = none := by
  obtain rfl := hn hs
  rw [rdS] at h
  unfold fin at h
  simp only at h
  rw [if_neg (fun e => hs (doneRd_nil e).1)] at h
  exact h.symm
def goodL (L : List (SV Od)) : Prop := ∀ x ∈ L, x.l.length ≤ 200 ∧ ∀ y ∈ x.l, y.legs.length ≤ 10 ∧ InR y
theorem goodL.lay {L : List (SV Od)} (h : goodL L) : (layL (L.map SV.l)).length ≤ L.length * 200 ∧ ∀ y ∈ layL (L.map SV.l), y.legs.length ≤ 10 ∧ InR y := by
  constructor
  · induction L with
    | nil => simp [layL]
    | cons x r ih =>
      have h3 := ih fun y hy => h y (List.mem_cons_of_mem _ hy)
      have h4 := (h x (List.mem_cons_self ..)).1
      unfold layL at h3 ⊢
      rw [List.map_cons, List.flatten_cons, List.length_append, List.length_cons]
      omega
  · intro y hy
    unfold layL at hy
    obtain ⟨s, hs, hy⟩ := List.mem_flatten.1 hy
    obtain ⟨x, hx, rfl⟩ := List.mem_map.1 hs
    exact (h x hx).2 y hy
set_option maxRecDepth 100000 in
set_option maxHeartbeats 8000000 in
theorem rimport_c (A : Option Addr) (c : Nat) (b : List UInt8) (w : World) (h : Sl w w.heap.size A c b) (hn : b.length ≤ 60000) (hpos : 0 < w.heap.size) :
    Calls Tryz.prog 23 #[.slice A b.length c] w fun e w' => ∃ (v : Value) (L : List (SV Od)), e = .returned (.tuple #[v, i64 (impE b)]) ∧ Own w' w.heap.size 22 v L ∧ (L.map SV.l).map K = (importB b).getD [] ∧ Below w.heap.size w w' := by
  obtain ⟨r, hr, hone⟩ := Sl.one2 h hpos
  have hb := (Below.refl w.heap.size w).alloc (Nat.le_refl _) (.cells #[.slice A b.length c, i64 0] 124)
  have hR : RQ (w.alloc (.cells #[.slice A b.length c, i64 0] 124)) w.heap.size r 0 b := ⟨by omega, A, c, heap_alloc_new w _, hone _ hb⟩
  have hz : (w.alloc (.cells #[.slice A b.length c, i64 0] 124)).heap.size = w.heap.size + 1 := by simp
  have Hb := Lib.hid h
  obtain ⟨E, hE⟩ : ∃ E, impE b = E := ⟨_, rfl⟩
  rw [hE]
  have HE := Lib.hid hE
  clear hE
  have Hcv := Lib.hid (fun (t : ByteArray) W => Lib.run_convert_string_bytes (P := Tryz.prog) W 9 25 5 t Tryz.underlying9 Tryz.underlying25 Tryz.underlying5)
  obtain ⟨F, hF0⟩ : ∃ F, rdF b = F := ⟨_, rfl⟩
  have HF0 := Lib.hid hF0
  have HEn := Lib.hid (show F = none → E = 3 ∧ importB b = none from fun h => ⟨HE.out.symm.trans (impE_none (import_none (HF0.out.trans h))), import_none (HF0.out.trans h)⟩)
  clear h hF0 hone
  go_enter Tryz.func23, Tryz.ntmps23
  go_wp2_with fail
  generalize w.alloc (.cells #[.slice A b.length c, i64 0] 124) = w1 at *
  have hl1 := (rangeRd_left 0 200 0 b).1
  have hi1 := smR_in (m := 200) (by decide) (0, b)
  have HRg := Lib.hid (qrange_c w.heap.size r 0 200 0 b w1 hR (by omega) (by omega))
  have HFD := Lib.hid (show fin (rdS (rangeRd 0 200 0 b).1.1.toNat (rangeRd 0 200 0 b).2) = F from HF0.out)
  have hz1 : w.heap.size + 1 ≤ w1.heap.size := Nat.le_of_eq hz.symm
  have Hn0 := Lib.hid (show (rangeRd 0 200 0 b).2.1 ≠ 0 → (rangeRd 0 200 0 b).1.1.toNat = 0 from fun e => by rw [rg_zero (by rw [← (rangeRd_left 0 200 0 b).2]; exact e)]; rfl)
  unfold smR at hi1
  simp only at hi1
  generalize rangeRd 0 200 0 b = Q at *
  obtain ⟨⟨n0, e0⟩, s0⟩ := Q
  obtain ⟨n, rfl⟩ : ∃ n : Nat, n0 = n := ⟨n0.toNat, by simp only at hi1; omega⟩
  simp only [Int.toNat_natCast] at hi1 hl1 HFD HRg Hn0
  clear hR hz
  refine HRg.out.mono ?_
  rintro e w2 ⟨rfl, hR, hg⟩
  have hb := hb.trans (below_of_grown hg hb.size (fun g e => by injection e with e; omega))
  have hz2 := Nat.le_trans hz1 hg.size
  have hl0 : s0.2.length ≤ 60000 := by omega
  clear hg HRg hz1 hl1
  go_wp2_with fail
  go_loopw [7, 8] (fun ov i wr => ∃ (o : Value) (q : Nat) (Lo : List (SV Od)) (st : St), o = ov ∧ i = i64 q ∧ q ≤ n ∧ OwnN wr (w.heap.size + 1) 22 o Lo ∧ Lo.length = q ∧ Hid (st.1 = 0 → rdS n s0 = addX ((Lo.map SV.l).map K) (rdS (n - q) st)) ∧ Hid (st.1 ≠ 0 → F = none) ∧ Hid (goodL Lo) ∧ st.2.length ≤ 60000 ∧ RQ wr w.heap.size r st.1 st.2 ∧ Below w.heap.size w wr ∧ w.heap.size + 1 ≤ wr.heap.size) (fun _ i _ => n - (intOf i).toNat)
  case atStart => exact ⟨_, 0, [], s0, rfl, rfl, Nat.zero_le _, OwnN.nil_ _ _ _, rfl, Lib.hid (fun _ => by rw [Nat.sub_zero]; exact (addX_nil _).symm), Lib.hid (fun e => bad0 HFD.out e Hn0.out), Lib.hid (by intro x hx; cases hx), hl0, hR, hb, hz2⟩
  case round =>
    clear hR hb hz2 hl0
    obtain ⟨o, q, Lo, st, rfl, rfl, hq, hO, hlo, Hrd0, Hbad, Hgl, hls, hR, hb, hz2⟩ := hrel
    have HO := Lib.hid hO
    have Hlo := Lib.hid hlo
    clear hO hlo
    have cE := hR.of_cell
    by_cases hlt : q < n ∧ st.1 = 0
    · obtain ⟨hlt, hst⟩ := hlt
      have Hrd := Lib.hid (Hrd0.out hst)
      have gE : (st.1 == 0) = true := by rw [hst]; rfl
      clear hst Hrd0 Hbad
      have g1 : decide ((q : Int) < (n : Int)) = true := decide_eq_true (by omega)
      have g2 : decide (q < n) = true := decide_eq_true hlt
      have hl2 := (rangeRd_left 1 200 st.1 st.2).1
      have hlq := (rangeRd_left 1 200 st.1 st.2).2
      have hm00 : (rangeRd 1 200 st.1 st.2).1.2 ≠ 0 → (rangeRd 1 200 st.1 st.2).1.1 = 0 := rg_zero
      have hin := rangeRd_in (lo := 1) (hi := 200) (err := st.1) (l := st.2)
      have HRg := Lib.hid (qrange_c w.heap.size r 1 200 st.1 st.2 wr hR (by omega) (by omega))
      obtain ⟨Hs1, Hs2, Hs3⟩ := rdS_step hlt Hrd.out
      have Hs1 := Lib.hid Hs1
      have Hs2 := Lib.hid Hs2
      have Hs3 := Lib.hid Hs3
      unfold rg11 at Hs1 Hs2 Hs3
      generalize rangeRd 1 200 st.1 st.2 = Q at *
      obtain ⟨⟨m0, e1⟩, s1⟩ := Q
      simp only at hin hl2 Hs1 Hs2 Hs3 HRg hlq hm00
      clear hR Hrd
      go_wp2_with fail
      clear cE
      refine HRg.out.mono ?_
      rintro e w3 ⟨rfl, hR, hg⟩
      have hb := hb.trans (below_of_grown hg hb.size (fun g e => by injection e with e; omega))
      have HO := Lib.hid (HO.out.off hg (by omega))
      have hz3 := Nat.le_trans hz2 hg.size
      clear hg HRg hz2
      by_cases he : e1 = 0
      · subst he
        obtain ⟨hm1, hm2⟩ := hin rfl
        have hs10 : s1.1 = 0 := hlq
        obtain ⟨m, rfl⟩ : ∃ m : Nat, m0 = m := ⟨m0.toNat, by omega⟩
        have HS2 := Lib.hid (Hs2.out rfl)
        have HS3 := Lib.hid (fun l t => Hs3.out l t rfl)
        simp only [Int.toNat_natCast] at HS2 HS3
        have hl1 : s1.2.length ≤ 60000 := by omega
        clear hin Hs1 Hs2 Hs3 hl2 hls hlq hm00
        go_wp2_with fail
        go_loopw [11, 12] (fun pv i wr => ∃ (p : Value) (k : Nat) (L : List Od) (su : St), p = pv ∧ i = i64 k ∧ k ≤ m ∧ OwnN wr w3.heap.size 50 p L ∧ L.length = k ∧ Hid (rdO m s1 = addX (K L) (rdO (m - k) su)) ∧ su.1 = 0 ∧ Hid (∀ y ∈ L, y.legs.length ≤ 10 ∧ InR y) ∧ su.2.length ≤ 60000 ∧ RQ wr w.heap.size r su.1 su.2 ∧ w3.grownBy wr (some w.heap.size)) (fun _ i _ => m - (intOf i).toNat)
        case atStart => exact ⟨_, 0, [], s1, rfl, rfl, Nat.zero_le _, OwnN.nil_ _ _ _, rfl, Lib.hid (by rw [Nat.sub_zero]; exact (addX_nil _).symm), hs10, Lib.hid (by intro y hy; cases hy), hl1, hR, World.grownBy.refl _ _⟩
        case round =>
          clear hR hl1
          obtain ⟨p, k, L, su, rfl, rfl, hk, hP, hlp, Hro, hsu, Hgd, hlu, hR, hgq⟩ := hrel
          have HP := Lib.hid hP
          have Hlp := Lib.hid hlp
          have hzq := hgq.size
          clear hP hlp
          have cE := hR.of_cell
          have gE : (su.1 == 0) = true := by rw [hsu]; rfl
          by_cases hkl : k < m
          · have g3 : decide ((k : Int) < (m : Int)) = true := decide_eq_true (by omega)
            have g4 : decide (k < m) = true := decide_eq_true hkl
            have hl4 := textRd_left 1000 su.1 su.2
            have HTx := Lib.hid (qtext_c w.heap.size r 1000 su.1 su.2 wr hR (by omega) (by omega))
            obtain ⟨Ho1, Ho2⟩ := rdO_step hkl Hro.out
            have Ho1 := Lib.hid Ho1
            have Ho2 := Lib.hid Ho2
            have Hok0 := Lib.hid (show readOk (tx su) = true → (txR 1000 su).2.1 = 0 from fun h => (tx_ok h).2.1)
            unfold tx txR at Ho1 Ho2 Hok0
            generalize textRd 1000 su.1 su.2 = Q at *
            obtain ⟨⟨t, e2⟩, s2⟩ := Q
            simp only at hl4 Ho1 Ho2 HTx Hok0
            have hts : t.size ≤ 60000 := by omega
            have hl5 : s2.2.length ≤ 60000 := by omega
            clear hR Hro hl4 hlu hsu
            go_wp2_with fail
            clear cE gE
            refine HTx.out.mono ?_
            rintro e w4 ⟨rfl, hR, hg⟩
            have hgq := grown_trans hgq hg
            have HP := Lib.hid (HP.out.off hg (by omega))
            have hz4 := hg.size
            clear hg HTx
            have hcv := Hcv.out t w4
            have hbb := below_bytes w4 5 t
            have hsb := sl_bytes w4 5 t hts
            have Htl := Lib.hid (show t.data.toList.length = t.size by simp)
            have hgq := grown_trans hgq (grown_of_below hbb _)
            have HP := Lib.hid (HP.out.later hbb)
            have hR := hR.later (by omega) hbb
            have hz5 : w4.heap.size ≤ (Lib.bytesWorld w4 5 t).heap.size := hbb.size
            have HRd := Lib.hid (rread_own _ _ t.data.toList _ hsb (by rw [Htl.out]; exact hts))
            rw [Htl.out] at HRd
            clear hbb hsb
            go_wp2_with fail
            generalize Lib.bytesWorld w4 5 t = w5 at *
            refine HRd.out.mono ?_
            rintro e w6 ⟨o, rfl, hcore, hok, hF⟩
            unfold Od.v
            have hgq := grown_trans hgq (grown_of_below hF _)
            have hok : Enc.ok w6 (fun b => (w3.heap.size ≤ b ∧ b < w6.heap.size) ∧ some b ≠ p.ownBlock) o := Enc.keep hok (fun _ _ => rfl) (fun b hb => ⟨⟨by omega, hb.2⟩, fun e => by have := (HP.out.lt b e.symm).2; omega⟩)
            have HP := Lib.hid (HP.out.later hF)
            have hR := hR.later (by omega) hF
            have hz6 := hF.size
            clear HRd hF hcv
            have hba := (Below.refl w6.heap.size w6).alloc (Nat.le_refl _) (.cells #[i64 o.client, i64 o.seq, i64 o.kind, .string o.acct, .string o.peer, i64 o.sum, .slice o.la o.legs.length o.lc, i64 o.period, i64 o.hold, .string o.note] 50)
            cases hrk : readOk t.data.toList
            · have g5 : (readE t.data.toList != 0) = true := by unfold readE; rw [hrk]; rfl
              have Hno := Lib.hid (HEn.out (by rw [← HFD.out, HS2.out (Ho2.out hrk)]; rfl))
              have hgq := grown_trans hgq (grown_of_below hba _)
              have hb := hb.trans (below_of_grown hgq hb.size (fun g e => by injection e with e; omega))
              clear hrk Ho1 Ho2 HS2 HS3 hba hok hcore
              generalize readE t.data.toList = rE at *
              go_wp2
              go_ret2
              obtain ⟨rfl, h2⟩ := Hno.out
              exact ⟨_, [], rfl, Own.nil_ _ _ _, by rw [h2]; rfl, hb⟩
            · have g5 : (readE t.data.toList != 0) = false := by unfold readE; rw [hrk]; rfl
              have Hyes := Lib.hid (Ho1.out hrk)
              have hco : o.core = rawO t.data.toList := by have := hcore; unfold readO at this; rw [hrk, if_pos rfl] at this; exact this
              have Hco := Lib.hid hco
              have Hcg := Lib.hid (core_in hco hrk)
              have Hs20 := Lib.hid (Hok0.out hrk)
              have hB2 := hba.alloc (by simp) (.cells #[i64 o.client, i64 o.seq, i64 o.kind, .string o.acct, .string o.peer, i64 o.sum, .slice o.la o.legs.length o.lc, i64 o.period, i64 o.hold, .string o.note] 50)
              have hHeap := heap_alloc2_new w6 (.cells #[i64 o.client, i64 o.seq, i64 o.kind, .string o.acct, .string o.peer, i64 o.sum, .slice o.la o.legs.length o.lc, i64 o.period, i64 o.hold, .string o.note] 50) (.cells #[i64 o.client, i64 o.seq, i64 o.kind, .string o.acct, .string o.peer, i64 o.sum, .slice o.la o.legs.length o.lc, i64 o.period, i64 o.hold, .string o.note] 50)
              have hP2 := HP.out.later hB2
              have hok2 : Enc.ok ((w6.alloc (.cells #[i64 o.client, i64 o.seq, i64 o.kind, .string o.acct, .string o.peer, i64 o.sum, .slice o.la o.legs.length o.lc, i64 o.period, i64 o.hold, .string o.note] 50)).alloc (.cells #[i64 o.client, i64 o.seq, i64 o.kind, .string o.acct, .string o.peer, i64 o.sum, .slice o.la o.legs.length o.lc, i64 o.period, i64 o.hold, .string o.note] 50)) (fun b => w3.heap.size ≤ b ∧ b < ((w6.alloc (.cells #[i64 o.client, i64 o.seq, i64 o.kind, .string o.acct, .string o.peer, i64 o.sum, .slice o.la o.legs.length o.lc, i64 o.period, i64 o.hold, .string o.note] 50)).alloc (.cells #[i64 o.client, i64 o.seq, i64 o.kind, .string o.acct, .string o.peer, i64 o.sum, .slice o.la o.legs.length o.lc, i64 o.period, i64 o.hold, .string o.note] 50)).heap.size ∧ some b ≠ p.ownBlock) o := Enc.keep hok (fun p hp => hB2.cell hp.1.2) (fun b hb => ⟨hb.1.1, Nat.lt_of_lt_of_le hb.1.2 hB2.size, hb.2⟩)
              have hR := hR.later (by omega) hB2
              have hgq := grown_trans hgq (grown_of_below hB2 _)
              have HP2 := Lib.hid hP2
              have Hok2 := Lib.hid hok2
              have HH := Lib.hid hHeap
              have HB2 := Lib.hid hB2
              have Hne := Lib.hid (HP.out.own.new_ne (Nat.le_succ w6.heap.size))
              clear hP2 hok2 hHeap hB2 hba hok hcore hco hrk Ho1 Ho2 HP
              generalize readE t.data.toList = rE at *
              go_wp2_with (at_builtin; refine wpList_append_one rfl (some 72) (.tmp 69) (.tmp 71) 22 rfl rfl _ 120 Tryz.underlying22 inf_od rfl (by decide) (by decide) rfl HP2.out.own (w6.heap.size + 1) o rfl _ 50 HH.out rfl Hne.out (HP2.out.oth Hok2.out) (by rw [Hlp.out]; omega) hgq.size ?_; intro v3 w7 hO3 hg3 hat3)
              have hP3 := HP2.out.push Hok2.out hO3 hg3 hat3
              have hlt3 := HP2.out.lt
              have hR := hR.grown hg3 (fun e => by have := hlt3 _ e; omega) (fun e => by have := hlt3 _ e; omega) (Nat.lt_of_lt_of_le (by omega) hgq.size)
              have hgq : w3.grownBy w7 (some w.heap.size) := ⟨hg3.os.trans hgq.os, hg3.tape.trans hgq.tape, hg3.output.trans hgq.output, Nat.le_trans hgq.size hg3.size, fun k hk hne => (hg3.block k (Nat.lt_of_lt_of_le hk hgq.size) (fun e => by have := (hlt3 k e.symm).1; omega)).trans (hgq.block k hk hne)⟩
              clear hO3 hg3 hat3 hlt3 HP2 Hok2 HH HB2 Hne
              go_roundw
              case rel => exact ⟨_, k + 1, L ++ [o], s2, rfl, by go_num, by omega, hP3, by rw [List.length_append, Hlp.out]; rfl, Lib.hid (by rw [Hyes.out, ← Hco.out]; unfold K; rw [List.map_append]; rfl), Hs20.out, Lib.hid (fun y hy => (List.mem_append.1 hy).elim (Hgd.out y) (fun h => by rw [List.mem_singleton.1 h]; exact Hcg.out)), hl5, hR, hgq⟩
              case measure => simp [intOf]; omega
          · obtain rfl : k = m := by omega
            have g3 : decide ((k : Int) < (k : Int)) = false := decide_eq_false (by omega)
            have Hend := Lib.hid (HS3.out (K L) su (by rw [Hro.out, Nat.sub_self, rdO]; show some (K L ++ [], su) = _; rw [List.append_nil]))
            have hO2 := HO.out.off hgq (by omega)
            obtain ⟨Ap, cp, rfl, hsp⟩ := HP.out.sv (B2 := w.heap.size + 1) (u := o) (by omega) (fun b e => (HO.out.lt b e).2)
            have hba := (Below.refl wr.heap.size wr).alloc (Nat.le_refl _) (.cells #[.slice Ap L.length cp] 22)
            have hnew := heap_alloc_new wr (.cells #[.slice Ap L.length cp] 22)
            have hx : Enc.ok (wr.alloc (.cells #[.slice Ap L.length cp] 22)) (fun b => w.heap.size + 1 ≤ b ∧ b < (wr.alloc (.cells #[.slice Ap L.length cp] 22)).heap.size ∧ some b ≠ o.ownBlock) (⟨Ap, cp, L⟩ : SV Od) := Enc.keep (α := SV Od) (S := fun b => w.heap.size + 1 ≤ b ∧ b < wr.heap.size ∧ some b ≠ o.ownBlock) hsp (fun p hp => hba.cell hp.2.1) (fun b hb => ⟨hb.1, Nat.lt_of_lt_of_le hb.2.1 hba.size, hb.2.2⟩)
            have Hx := Lib.hid hx
            have HO2 := Lib.hid (hO2.later hba)
            have Hne := Lib.hid (hO2.own.new_ne (Nat.le_refl wr.heap.size))
            have hR := hR.later (by omega) hba
            have hgq := grown_trans hgq (grown_of_below hba _)
            have hb := hb.trans (below_of_grown hgq hb.size (fun g e => by injection e with e; omega))
            have HH := Lib.hid hnew
            clear hx hsp hba hnew hO2 HO HP Hro
            go_wp2_with (at_builtin; refine wpList_append_one rfl (some 76) (.tmp 73) (.tmp 75) 29 rfl rfl _ 24 Tryz.underlying29 inf_sv rfl (by decide) (by decide) rfl HO2.out.own wr.heap.size (⟨Ap, cp, L⟩ : SV Od) rfl _ 22 HH.out rfl Hne.out (HO2.out.oth Hx.out) (by rw [Hlo.out]; omega) (Nat.le_trans hz3 hgq.size) ?_; intro v3 w7 hO3 hg3 hat3)
            have hP3 := HO2.out.push Hx.out hO3 hg3 hat3
            have hlt3 := HO2.out.lt
            have hR := hR.grown hg3 (fun e => by have := hlt3 _ e; omega) (fun e => by have := hlt3 _ e; omega) (Nat.lt_of_lt_of_le (by omega) hgq.size)
            have hb := hb.trans (below_of_grown hg3 hb.size (fun g e => by have := hlt3 g e; omega))
            have hz7 := Nat.le_trans hz3 (Nat.le_trans hgq.size hg3.size)
            clear hO3 hg3 hat3 hlt3 HO2 Hx HH Hne hgq
            go_roundw
            case rel => exact ⟨_, q + 1, Lo ++ [⟨Ap, cp, L⟩], su, rfl, by go_num, by omega, hP3, by rw [List.length_append, Hlo.out]; rfl, Lib.hid (fun _ => by rw [Hend.out, List.map_append, List.map_append]; rfl), Lib.hid (fun e => absurd hsu e), Lib.hid (fun y hy => (List.mem_append.1 hy).elim (Hgl.out y) (fun h => by rw [List.mem_singleton.1 h]; exact ⟨show L.length ≤ 200 by have := Hlp.out; omega, Hgd.out⟩)), hlu, hR, hb, hz7⟩
            case measure => simp [intOf]; omega
      · obtain rfl : m0 = 0 := hm00 he
        have HFn := Lib.hid (show F = none by rw [← HFD.out, Hs1.out he]; rfl)
        have hs11 : s1.1 ≠ 0 := by rw [hlq]; exact he
        have hl1 : s1.2.length ≤ 60000 := by omega
        have gE2 : (s1.1 == 0) = false := by simpa using hs11
        have cE := hR.of_cell
        clear hin Hs1 Hs2 Hs3 hl2 hls hlq hm00 he
        go_wp2_with fail
        go_loopw [11, 12] (fun pv i wr => pv = .slice none 0 0 ∧ i = i64 0 ∧ w3 = wr) (fun _ _ _ => 0)
        case atStart => exact ⟨rfl, rfl, rfl⟩
        case round =>
          obtain ⟨rfl, rfl, rfl⟩ := hrel
          have hba := (Below.refl w3.heap.size w3).alloc (Nat.le_refl _) (.cells #[.slice none 0 0] 22)
          have hnew := heap_alloc_new w3 (.cells #[.slice none 0 0] 22)
          have Hx : Hid (Enc.ok (w3.alloc (.cells #[.slice none 0 0] 22)) (fun b => w.heap.size + 1 ≤ b ∧ b < (w3.alloc (.cells #[.slice none 0 0] 22)).heap.size ∧ some b ≠ o.ownBlock) (⟨none, 0, []⟩ : SV Od)) := Lib.hid (SlS.nil_ _ _)
          have HO2 := Lib.hid (HO.out.later hba)
          have Hne := Lib.hid (HO.out.own.new_ne (Nat.le_refl w3.heap.size))
          have hR := hR.later (by omega) hba
          have hzz := Nat.le_trans hz3 hba.size
          have hb := hb.trans (hba.mono hb.size)
          have HH := Lib.hid hnew
          clear hba hnew HO
          go_wp2_with (at_builtin; refine wpList_append_one rfl (some 76) (.tmp 73) (.tmp 75) 29 rfl rfl _ 24 Tryz.underlying29 inf_sv rfl (by decide) (by decide) rfl HO2.out.own w3.heap.size (⟨none, 0, []⟩ : SV Od) rfl _ 22 HH.out rfl Hne.out (HO2.out.oth Hx.out) (by rw [Hlo.out]; omega) hzz ?_; intro v3 w7 hO3 hg3 hat3)
          have hP3 := HO2.out.push Hx.out hO3 hg3 hat3
          have hlt3 := HO2.out.lt
          have hR := hR.grown hg3 (fun e => by have := hlt3 _ e; omega) (fun e => by have := hlt3 _ e; omega) (Nat.lt_of_lt_of_le (by omega) hzz)
          have hb := hb.trans (below_of_grown hg3 hb.size (fun g e => by have := hlt3 g e; omega))
          have hz7 := Nat.le_trans hzz hg3.size
          clear hO3 hg3 hat3 hlt3 HO2 Hx HH Hne
          go_roundw
          case rel => exact ⟨_, q + 1, Lo ++ [⟨none, 0, []⟩], s1, rfl, by go_num, by omega, hP3, by rw [List.length_append, Hlo.out]; rfl, Lib.hid (fun e => absurd e hs11), Lib.hid (fun _ => HFn.out), Lib.hid (fun y hy => (List.mem_append.1 hy).elim (Hgl.out y) (fun h => by rw [List.mem_singleton.1 h]; exact ⟨Nat.zero_le _, by intro y hy; cases hy⟩)), hl1, hR, hb, hz7⟩
          case measure => simp [intOf]; omega
    · have hqn : q ≤ 200 := by omega
      by_cases hq1 : q < n
      · have hst : st.1 ≠ 0 := fun e => hlt ⟨hq1, e⟩
        have Hno := Lib.hid (Hbad.out hst)
        have g1 : decide ((q : Int) < (n : Int)) = true := decide_eq_true (by omega)
        have g2 : decide (q < n) = true := decide_eq_true hq1
        have gE : (st.1 == 0) = false := by simpa using hst
        have gN : (st.1 != 0) = true := by simpa using hst
        clear hst hlt Hrd0 Hbad
        obtain ⟨AO, cO, rfl, hO⟩ := HO.out.sl
        have hgl := Hgl.out.lay
        have hM : (layL (Lo.map SV.l)).length ≤ 40000 := by have := hgl.1; have := Hlo.out; omega
        have hLn : Lo.length ≤ 65536 := by have := Hlo.out; omega
        have HLy := Lib.hid (rlay11_c AO cO Lo wr hO hLn (by omega))
        have HKM := Lib.hid (show K (layL (Lo.map SV.l)) = layL ((Lo.map SV.l).map K) from (lay_K _).symm)
        have Hgl2 := Lib.hid hgl.2
        generalize layL (Lo.map SV.l) = M at *
        clear hgl hO
        go_wp2_with fail
        refine HLy.out.mono ?_
        rintro e wl ⟨v, rfl, hOM, hF⟩
        obtain ⟨AM, cM, rfl, hMs⟩ := hOM.sl
        have hb := below_on hb (by omega) hF
        have HO := Lib.hid (HO.out.later hF)
        have hR := hR.later (by omega) hF
        have hzl := Nat.le_trans hz2 hF.size
        have HEx := Lib.hid (rexport_c AM cM M wl hMs (by omega) (fun x hx => (Hgl2.out x hx).1) (fun x hx => (Hgl2.out x hx).2))
        clear hOM hF HLy hMs hM
        go_wp2_with fail
        refine HEx.out.mono ?_
        rintro e we ⟨v, rfl, hOE, hF⟩
        obtain ⟨AE, cE2, rfl, hE⟩ := hOE.sl
        have hb := below_on hb (by omega) hF
        have HO := Lib.hid (HO.out.later hF)
        have hR := hR.later (by omega) hF
        have hcu := conv_bytes hE
        have hcb := conv_bytes (Hb.out.later hb)
        have cE := hR.of_cell
        obtain ⟨_, Ar, cr, hgr, -⟩ := hR
        have cB := cell_of_row we w.heap.size 0 _ _ (0, 0) hgr
        simp only [List.getElem?_toArray, List.getElem?_cons_zero] at cB
        clear hOE hF HEx hE hgr
        obtain ⟨rfl, h2⟩ := HEn.out Hno.out
        generalize errX M = em at *
        generalize outX M = um at *
        clear hcu hcb
        go_wp2
        go_ret2
        exact ⟨_, [], rfl, Own.nil_ _ _ _, by rw [h2]; rfl, hb⟩
      · obtain rfl : q = n := by omega
        have g1 : decide ((q : Int) < (q : Int)) = false := decide_eq_false (by omega)
        by_cases hst : st.1 = 0
        · have gN : (st.1 != 0) = false := by rw [hst]; rfl
          have Hend := Lib.hid (show rdS q s0 = some ((Lo.map SV.l).map K, st) by rw [Hrd0.out hst, Nat.sub_self, rdS]; show some ((Lo.map SV.l).map K ++ [], st) = _; rw [List.append_nil])
          have Hst := Lib.hid hst
          clear hlt Hrd0 Hbad hst hq1
          obtain ⟨AO, cO, rfl, hO⟩ := HO.out.sl
          have hgl := Hgl.out.lay
          have hM : (layL (Lo.map SV.l)).length ≤ 40000 := by have := hgl.1; have := Hlo.out; omega
          have hLn : Lo.length ≤ 65536 := by have := Hlo.out; omega
          have HLy := Lib.hid (rlay11_c AO cO Lo wr hO hLn (by omega))
          have HKM := Lib.hid (show K (layL (Lo.map SV.l)) = layL ((Lo.map SV.l).map K) from (lay_K _).symm)
          have Hgl2 := Lib.hid hgl.2
          generalize layL (Lo.map SV.l) = M at *
          clear hgl hO
          go_wp2_with fail
          refine HLy.out.mono ?_
          rintro e wl ⟨v, rfl, hOM, hF⟩
          obtain ⟨AM, cM, rfl, hMs⟩ := hOM.sl
          have hb := below_on hb (by omega) hF
          have HO := Lib.hid (HO.out.later hF)
          have hR := hR.later (by omega) hF
          have hzl := Nat.le_trans hz2 hF.size
          have HEx := Lib.hid (rexport_c AM cM M wl hMs (by omega) (fun x hx => (Hgl2.out x hx).1) (fun x hx => (Hgl2.out x hx).2))
          clear hOM hF HLy hMs hM
          go_wp2_with fail
          refine HEx.out.mono ?_
          rintro e we ⟨v, rfl, hOE, hF⟩
          obtain ⟨AE, cE2, rfl, hE⟩ := hOE.sl
          have hb := below_on hb (by omega) hF
          have HO := Lib.hid (HO.out.later hF)
          have hR := hR.later (by omega) hF
          have hcu := conv_bytes hE
          have hcb := conv_bytes (Hb.out.later hb)
          have cE := hR.of_cell
          obtain ⟨_, Ar, cr, hgr, -⟩ := hR
          have cB := cell_of_row we w.heap.size 0 _ _ (0, 0) hgr
          simp only [List.getElem?_toArray, List.getElem?_cons_zero] at cB
          clear hOE hF HEx hE hgr
          by_cases hnil : st.2 = []
          · have hlen0 : st.2.length = 0 := by rw [hnil]; rfl
            have HF := Lib.hid (show rdF b = some ((Lo.map SV.l).map K) by rw [HF0.out, ← HFD.out, Hend.out]; unfold fin; simp only; rw [Hst.out, hnil]; rfl)
            rw [hlen0] at cB
            have gB : decide (((0 : Nat) : Int) > 0) = false := rfl
            have Hcv2 := Lib.hid (fun (h1 : errX M = 0) (h2 : outX M = b) => import_conv HF.out (by rw [← HKM.out, errX_K]; exact h1) (by rw [← HKM.out, outX_K]; exact h2))
            have Hcn := Lib.hid (fun (h : ¬ (errX M = 0 ∧ outX M = b)) => import_not HF.out (fun h2 => h ⟨by rw [← errX_K, HKM.out]; exact h2.1, by rw [← outX_K, HKM.out]; exact h2.2⟩))
            generalize errX M = em at *
            generalize outX M = um at *
            clear hnil hlen0 HKM Hgl2
            by_cases he : em = 0
            · subst he
              by_cases hu : um = b
              · subst hu
                have hi := Hcv2.out rfl rfl
                have Hi := Lib.hid hi
                obtain rfl : E = 0 := HE.out.symm.trans (impE_some hi)
                clear hi Hcv2 Hcn HEn HFD HF
                go_wp2
                go_ret2
                exact ⟨_, Lo, rfl, HO.out.own.mono (by omega), by rw [Hi.out]; rfl, hb⟩
              · have hn1 : ((⟨um.toArray⟩ : ByteArray).toList == (⟨b.toArray⟩ : ByteArray).toList) = false := beqS_of_ne (fun e => hu (by have := congrArg (fun x : ByteArray => x.data.toList) e; simpa using this))
                have hn2 : (um == b) = false := by simpa using hu
                have hn3 : (um != b) = true := by simpa using hu
                have hn4 : ((⟨um.toArray⟩ : ByteArray).toList != (⟨b.toArray⟩ : ByteArray).toList) = true := by rw [bne, hn1]; rfl
                have hi := Hcn.out (fun h => hu h.2)
                have Hi := Lib.hid hi
                obtain rfl : E = 3 := HE.out.symm.trans (impE_none hi)
                clear hi Hcv2 Hcn HEn HFD HF hu
                go_wp2
                go_ret2
                exact ⟨_, [], rfl, Own.nil_ _ _ _, by rw [Hi.out]; rfl, hb⟩
            · have ge : (em != 0) = true := by simpa using he
              have hi := Hcn.out (fun h => he h.1)
              have Hi := Lib.hid hi
              obtain rfl : E = 3 := HE.out.symm.trans (impE_none hi)
              clear hi Hcv2 Hcn HEn HFD HF he hcu hcb
              go_wp2
              go_ret2
              exact ⟨_, [], rfl, Own.nil_ _ _ _, by rw [Hi.out]; rfl, hb⟩
          · have hlp : 0 < st.2.length := List.length_pos_iff.2 hnil
            have gB : decide ((st.2.length : Int) > 0) = true := decide_eq_true (by omega)
            have gB2 : decide (0 < (st.2.length : Int)) = true := decide_eq_true (by omega)
            have gB3 : decide (0 < st.2.length) = true := decide_eq_true hlp
            obtain ⟨rfl, h2⟩ := HEn.out (by rw [← HFD.out, Hend.out]; unfold fin; simp only; rw [if_neg (fun e => hnil (doneRd_nil e).2)])
            have H2 := Lib.hid h2
            generalize errX M = em at *
            generalize outX M = um at *
            clear hnil h2 hlp HFD HEn hcu hcb
            go_wp2
            go_ret2
            exact ⟨_, [], rfl, Own.nil_ _ _ _, by rw [H2.out]; rfl, hb⟩
        · have Hno := Lib.hid (Hbad.out hst)
          have gN : (st.1 != 0) = true := by simpa using hst
          clear hst hlt Hrd0 Hbad hq1
          obtain ⟨AO, cO, rfl, hO⟩ := HO.out.sl
          have hgl := Hgl.out.lay
          have hM : (layL (Lo.map SV.l)).length ≤ 40000 := by have := hgl.1; have := Hlo.out; omega
          have hLn : Lo.length ≤ 65536 := by have := Hlo.out; omega
          have HLy := Lib.hid (rlay11_c AO cO Lo wr hO hLn (by omega))
          have HKM := Lib.hid (show K (layL (Lo.map SV.l)) = layL ((Lo.map SV.l).map K) from (lay_K _).symm)
          have Hgl2 := Lib.hid hgl.2
          generalize layL (Lo.map SV.l) = M at *
          clear hgl hO
          go_wp2_with fail
          refine HLy.out.mono ?_
          rintro e wl ⟨v, rfl, hOM, hF⟩
          obtain ⟨AM, cM, rfl, hMs⟩ := hOM.sl
          have hb := below_on hb (by omega) hF
          have HO := Lib.hid (HO.out.later hF)
          have hR := hR.later (by omega) hF
          have hzl := Nat.le_trans hz2 hF.size
          have HEx := Lib.hid (rexport_c AM cM M wl hMs (by omega) (fun x hx => (Hgl2.out x hx).1) (fun x hx => (Hgl2.out x hx).2))
          clear hOM hF HLy hMs hM
          go_wp2_with fail
          refine HEx.out.mono ?_
          rintro e we ⟨v, rfl, hOE, hF⟩
          obtain ⟨AE, cE2, rfl, hE⟩ := hOE.sl
          have hb := below_on hb (by omega) hF
          have HO := Lib.hid (HO.out.later hF)
          have hR := hR.later (by omega) hF
          have hcu := conv_bytes hE
          have hcb := conv_bytes (Hb.out.later hb)
          have cE := hR.of_cell
          obtain ⟨_, Ar, cr, hgr, -⟩ := hR
          have cB := cell_of_row we w.heap.size 0 _ _ (0, 0) hgr
          simp only [List.getElem?_toArray, List.getElem?_cons_zero] at cB
          clear hOE hF HEx hE hgr
          obtain ⟨rfl, h2⟩ := HEn.out Hno.out
          generalize errX M = em at *
          generalize outX M = um at *
          clear hcu hcb
          go_wp2
          go_ret2
          exact ⟨_, [], rfl, Own.nil_ _ _ _, by rw [h2]; rfl, hb⟩
end Go.Proofs.YtdkkblhfjblpkaaGreat
