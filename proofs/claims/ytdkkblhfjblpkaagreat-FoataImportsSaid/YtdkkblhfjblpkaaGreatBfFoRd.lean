/- foata.read -/
import Derived.Test.YtdkkblhfjblpkaaGreatRows
import Derived.Test.YtdkkblhfjblpkaaGreatBfFoRdP
import Derived.Test.YtdkkblhfjblpkaaGreatBfOwnN
import Derived.Lib.ConvBytes
import Derived.WalkKit
import Derived.WalkSpells
import Derived.WalkLawsBesides
import Derived.Deep.QuietTactic
import Derived.BigQuiet
import Derived.Laws.StructEq
import Derived.Deep.DeepFit
import Derived.StillTailTactics
namespace Go.Proofs.YtdkkblhfjblpkaaGreat
open Go.RowKit
theorem addX_none {α : Type} {l : List α} : addX l none = none := rfl
theorem inf_sv : (Tryz.prog.info? 22).map (fun i => (i.zero, i.size, i.bytes)) = some (some (.slice none 0 0), Enc.size (SV Od), 24) := by kernel_rfl
set_option maxRecDepth 100000 in
set_option maxHeartbeats 8000000 in
theorem fread_g (A : Option Addr) (c : Nat) (b : List UInt8) (w : World) (h : Sl w w.heap.size A c b) (hn : b.length ≤ 60000) :
    Calls Tryz.prog 75 #[.slice A b.length c] w fun e w' => ∃ (v : Value) (L : List (SV Od)), e = .returned (.tuple #[v, .bool (rdF b).isSome]) ∧ Own w' w.heap.size 22 v L ∧ (∀ S, rdF b = some S → (L.map SV.l).map K = S) ∧ Below w.heap.size w w' ∧ w.heap.size < w'.heap.size := by
  have HN := Lib.hid (rnew_c A c b w h (by omega))
  have Hcv := Lib.hid (fun (t : ByteArray) W => Lib.run_convert_string_bytes (P := Tryz.prog) W 9 25 5 t Tryz.underlying9 Tryz.underlying25 Tryz.underlying5)
  obtain ⟨F, hF0⟩ : ∃ F, rdF b = F := ⟨_, rfl⟩
  rw [hF0]
  have HF0 := Lib.hid hF0
  clear h hF0
  go_enter Tryz.func75, Tryz.ntmps75
  go_wp2_with fail
  refine HN.out.mono ?_
  rintro e w1 ⟨rfl, hR, hz, hb⟩
  clear HN
  have hl1 := (rangeRd_left 0 200 0 b).1
  have hi1 := smR_in (m := 200) (by decide) (0, b)
  have HRg := Lib.hid (range_c (w.heap.size + 1) w.heap.size 0 200 0 b w1 hR (by omega) (by omega))
  have HFD := Lib.hid (show fin (rdS (rangeRd 0 200 0 b).1.1.toNat (rangeRd 0 200 0 b).2) = F from HF0.out)
  have hz1 : w.heap.size + 2 ≤ w1.heap.size := by omega
  unfold smR at hi1
  simp only at hi1
  generalize rangeRd 0 200 0 b = Q at *
  obtain ⟨⟨n0, e0⟩, s0⟩ := Q
  obtain ⟨n, rfl⟩ : ∃ n : Nat, n0 = n := ⟨n0.toNat, by simp only at hi1; omega⟩
  simp only [Int.toNat_natCast] at hi1 hl1 HFD HRg
  clear hR hz HF0
  go_wp2_with fail
  refine HRg.out.mono ?_
  rintro e w2 ⟨rfl, hR, hg⟩
  have hb := hb.trans (below_of_grown hg hb.size (fun g e => by injection e with e; omega))
  have hz2 := Nat.le_trans hz1 hg.size
  have hl0 : s0.2.length ≤ 60000 := by omega
  clear hg HRg hz1 hl1
  go_wp2_with fail
  go_loopw [7, 23] (fun ov i wr => ∃ (o : Value) (q : Nat) (Lo : List (SV Od)) (st : St), o = ov ∧ i = i64 q ∧ q ≤ n ∧ OwnN wr (w.heap.size + 2) 22 o Lo ∧ Lo.length = q ∧ Hid (rdS n s0 = addX ((Lo.map SV.l).map K) (rdS (n - q) st)) ∧ st.2.length ≤ 60000 ∧ Rd wr (w.heap.size + 1) w.heap.size st.1 st.2 ∧ Below w.heap.size w wr ∧ w.heap.size + 2 ≤ wr.heap.size) (fun _ i _ => n - (intOf i).toNat)
  case atStart => exact ⟨_, 0, [], s0, rfl, rfl, Nat.zero_le _, OwnN.nil_ _ _ _, rfl, Lib.hid (by rw [Nat.sub_zero]; exact (addX_nil _).symm), hl0, hR, hb, hz2⟩
  case round =>
    clear hR hb hz2 hl0
    obtain ⟨o, q, Lo, st, rfl, rfl, hq, hO, hlo, Hrd, hls, hR, hb, hz2⟩ := hrel
    have HO := Lib.hid hO
    have Hlo := Lib.hid hlo
    clear hO hlo
    by_cases hlt : q < n
    · have g1 : decide ((q : Int) < (n : Int)) = true := decide_eq_true (by omega)
      have g2 : decide (q < n) = true := decide_eq_true hlt
      have hl2 := (rangeRd_left 1 200 st.1 st.2).1
      have hin := rangeRd_in (lo := 1) (hi := 200) (err := st.1) (l := st.2)
      have HRg := Lib.hid (range_c (w.heap.size + 1) w.heap.size 1 200 st.1 st.2 wr hR (by omega) (by omega))
      obtain ⟨Hs1, Hs2, Hs3⟩ := rdS_step hlt Hrd.out
      have Hs1 := Lib.hid Hs1
      have Hs2 := Lib.hid Hs2
      have Hs3 := Lib.hid Hs3
      unfold rg11 at Hs1 Hs2 Hs3
      generalize rangeRd 1 200 st.1 st.2 = Q at *
      obtain ⟨⟨m0, e1⟩, s1⟩ := Q
      simp only at hin hl2 Hs1 Hs2 Hs3 HRg
      clear hR Hrd
      go_wp2_with fail
      refine HRg.out.mono ?_
      rintro e w3 ⟨rfl, hR, hg⟩
      have hb := hb.trans (below_of_grown hg hb.size (fun g e => by injection e with e; omega))
      have HO := Lib.hid (HO.out.off hg (by omega))
      have hz3 := Nat.le_trans hz2 hg.size
      clear hg HRg hz2
      by_cases he : e1 = 0
      · subst he
        obtain ⟨hm1, hm2⟩ := hin rfl
        obtain ⟨m, rfl⟩ : ∃ m : Nat, m0 = m := ⟨m0.toNat, by omega⟩
        have HS2 := Lib.hid (Hs2.out rfl)
        have HS3 := Lib.hid (fun l t => Hs3.out l t rfl)
        simp only [Int.toNat_natCast] at HS2 HS3
        have hl1 : s1.2.length ≤ 60000 := by omega
        clear hin Hs1 Hs2 Hs3 hl2 hls
        go_wp2_with fail
        go_loopw [10, 33] (fun pv i wr => ∃ (p : Value) (k : Nat) (L : List Od) (su : St), p = pv ∧ i = i64 k ∧ k ≤ m ∧ OwnN wr w3.heap.size 50 p L ∧ L.length = k ∧ Hid (rdO m s1 = addX (K L) (rdO (m - k) su)) ∧ su.2.length ≤ 60000 ∧ Rd wr (w.heap.size + 1) w.heap.size su.1 su.2 ∧ w3.grownBy wr (some (w.heap.size + 1))) (fun _ i _ => m - (intOf i).toNat)
        case atStart => exact ⟨_, 0, [], s1, rfl, rfl, Nat.zero_le _, OwnN.nil_ _ _ _, rfl, Lib.hid (by rw [Nat.sub_zero]; exact (addX_nil _).symm), hl1, hR, World.grownBy.refl _ _⟩
        case round =>
          clear hR hl1
          obtain ⟨p, k, L, su, rfl, rfl, hk, hP, hlp, Hro, hlu, hR, hgq⟩ := hrel
          have HP := Lib.hid hP
          have Hlp := Lib.hid hlp
          have hzq := hgq.size
          clear hP hlp
          by_cases hkl : k < m
          · have g3 : decide ((k : Int) < (m : Int)) = true := decide_eq_true (by omega)
            have g4 : decide (k < m) = true := decide_eq_true hkl
            have hl4 := textRd_left 1000 su.1 su.2
            have HTx := Lib.hid (rtext_c (w.heap.size + 1) w.heap.size 1000 su.1 su.2 wr hR (by omega) (by omega))
            obtain ⟨Ho1, Ho2⟩ := rdO_step hkl Hro.out
            have Ho1 := Lib.hid Ho1
            have Ho2 := Lib.hid Ho2
            unfold tx txR at Ho1 Ho2
            generalize textRd 1000 su.1 su.2 = Q at *
            obtain ⟨⟨t, e2⟩, s2⟩ := Q
            simp only at hl4 Ho1 Ho2 HTx
            have hts : t.size ≤ 60000 := by omega
            have hl5 : s2.2.length ≤ 60000 := by omega
            clear hR Hro hl4 hlu
            go_wp2_with fail
            refine HTx.out.mono ?_
            rintro e w4 ⟨rfl, hR, hg⟩
            have hgq := grown_trans hgq hg
            have HP := Lib.hid (HP.out.off hg (by omega))
            have hz4 := hg.size
            clear hg HTx
            have hcv := Hcv.out t w4
            have hbb := below_bytes w4 5 t
            have hsb := sl_bytes w4 5 t hts
            have Htl := Lib.hid (show t.data.toList.length = t.size by simp)
            have hgq := grown_trans hgq (grown_of_below hbb _)
            have HP := Lib.hid (HP.out.later hbb)
            have hR := hR.later (by omega) hbb
            have hz5 : w4.heap.size ≤ (Lib.bytesWorld w4 5 t).heap.size := hbb.size
            have HRd := Lib.hid (read_own _ _ t.data.toList _ hsb (by rw [Htl.out]; exact hts))
            rw [Htl.out] at HRd
            clear hbb hsb
            go_wp2_with fail
            generalize Lib.bytesWorld w4 5 t = w5 at *
            refine HRd.out.mono ?_
            rintro e w6 ⟨o, rfl, hcore, hok, hF⟩
            unfold Od.v
            have hgq := grown_trans hgq (grown_of_below hF _)
            have hok : Enc.ok w6 (fun b => (w3.heap.size ≤ b ∧ b < w6.heap.size) ∧ some b ≠ p.ownBlock) o := Enc.keep hok (fun _ _ => rfl) (fun b hb => ⟨⟨by omega, hb.2⟩, fun e => by have := (HP.out.lt b e.symm).2; omega⟩)
            have HP := Lib.hid (HP.out.later hF)
            have hR := hR.later (by omega) hF
            have hz6 := hF.size
            clear HRd hF hcv
            have hba := (Below.refl w6.heap.size w6).alloc (Nat.le_refl _) (.cells #[i64 o.client, i64 o.seq, i64 o.kind, .string o.acct, .string o.peer, i64 o.sum, .slice o.la o.legs.length o.lc, i64 o.period, i64 o.hold, .string o.note] 50)
            cases hrk : readOk t.data.toList
            · have g5 : (readE t.data.toList != 0) = true := by unfold readE; rw [hrk]; rfl
              have Hno := Lib.hid (HS2.out (Ho2.out hrk))
              have hgq := grown_trans hgq (grown_of_below hba _)
              have hb := hb.trans (below_of_grown hgq hb.size (fun g e => by injection e with e; omega))
              clear hrk Ho1 Ho2 HS2 HS3 hba hok hcore
              generalize readE t.data.toList = rE at *
              go_wp2
              go_ret2
              have hFn := HFD.out
              rw [Hno.out] at hFn
              exact ⟨_, [], by rw [← hFn]; rfl, Own.nil_ _ _ _, (fun S hS => by rw [← hFn] at hS; cases hS), hb, Nat.lt_of_lt_of_le (show w.heap.size < w3.heap.size by omega) hgq.size⟩
            · have g5 : (readE t.data.toList != 0) = false := by unfold readE; rw [hrk]; rfl
              have Hyes := Lib.hid (Ho1.out hrk)
              have hco : o.core = rawO t.data.toList := by have := hcore; unfold readO at this; rw [hrk, if_pos rfl] at this; exact this
              have Hco := Lib.hid hco
              have hB2 := hba.alloc (by simp) (.cells #[i64 o.client, i64 o.seq, i64 o.kind, .string o.acct, .string o.peer, i64 o.sum, .slice o.la o.legs.length o.lc, i64 o.period, i64 o.hold, .string o.note] 50)
              have hHeap := heap_alloc2_new w6 (.cells #[i64 o.client, i64 o.seq, i64 o.kind, .string o.acct, .string o.peer, i64 o.sum, .slice o.la o.legs.length o.lc, i64 o.period, i64 o.hold, .string o.note] 50) (.cells #[i64 o.client, i64 o.seq, i64 o.kind, .string o.acct, .string o.peer, i64 o.sum, .slice o.la o.legs.length o.lc, i64 o.period, i64 o.hold, .string o.note] 50)
              have hP2 := HP.out.later hB2
              have hok2 : Enc.ok ((w6.alloc (.cells #[i64 o.client, i64 o.seq, i64 o.kind, .string o.acct, .string o.peer, i64 o.sum, .slice o.la o.legs.length o.lc, i64 o.period, i64 o.hold, .string o.note] 50)).alloc (.cells #[i64 o.client, i64 o.seq, i64 o.kind, .string o.acct, .string o.peer, i64 o.sum, .slice o.la o.legs.length o.lc, i64 o.period, i64 o.hold, .string o.note] 50)) (fun b => w3.heap.size ≤ b ∧ b < ((w6.alloc (.cells #[i64 o.client, i64 o.seq, i64 o.kind, .string o.acct, .string o.peer, i64 o.sum, .slice o.la o.legs.length o.lc, i64 o.period, i64 o.hold, .string o.note] 50)).alloc (.cells #[i64 o.client, i64 o.seq, i64 o.kind, .string o.acct, .string o.peer, i64 o.sum, .slice o.la o.legs.length o.lc, i64 o.period, i64 o.hold, .string o.note] 50)).heap.size ∧ some b ≠ p.ownBlock) o := Enc.keep hok (fun p hp => hB2.cell hp.1.2) (fun b hb => ⟨hb.1.1, Nat.lt_of_lt_of_le hb.1.2 hB2.size, hb.2⟩)
              have hR := hR.later (by omega) hB2
              have hgq := grown_trans hgq (grown_of_below hB2 _)
              have HP2 := Lib.hid hP2
              have Hok2 := Lib.hid hok2
              have HH := Lib.hid hHeap
              have HB2 := Lib.hid hB2
              have Hne := Lib.hid (HP.out.own.new_ne (Nat.le_succ w6.heap.size))
              clear hP2 hok2 hHeap hB2 hba hok hcore hco hrk Ho1 Ho2 HP
              generalize readE t.data.toList = rE at *
              go_wp2_with (at_builtin; refine wpList_append_one rfl (some 51) (.tmp 48) (.tmp 50) 22 rfl rfl _ 120 Tryz.underlying22 inf_od rfl (by decide) (by decide) rfl HP2.out.own (w6.heap.size + 1) o rfl _ 50 HH.out rfl Hne.out (HP2.out.oth Hok2.out) (by rw [Hlp.out]; omega) hgq.size ?_; intro v3 w7 hO3 hg3 hat3)
              have hP3 := HP2.out.push Hok2.out hO3 hg3 hat3
              have hlt3 := HP2.out.lt
              have hR := hR.grown hg3 (fun e => by have := hlt3 _ e; omega) (fun e => by have := hlt3 _ e; omega) (Nat.lt_of_lt_of_le (by omega) hgq.size)
              have hgq : w3.grownBy w7 (some (w.heap.size + 1)) := ⟨hg3.os.trans hgq.os, hg3.tape.trans hgq.tape, hg3.output.trans hgq.output, Nat.le_trans hgq.size hg3.size, fun k hk hne => (hg3.block k (Nat.lt_of_lt_of_le hk hgq.size) (fun e => by have := (hlt3 k e.symm).1; omega)).trans (hgq.block k hk hne)⟩
              clear hO3 hg3 hat3 hlt3 HP2 Hok2 HH HB2 Hne
              go_roundw
              case rel => exact ⟨_, k + 1, L ++ [o], s2, rfl, by go_num, by omega, hP3, by rw [List.length_append, Hlp.out]; rfl, Lib.hid (by rw [Hyes.out, ← Hco.out]; unfold K; rw [List.map_append]; rfl), hl5, hR, hgq⟩
              case measure => simp [intOf]; omega
          · obtain rfl : k = m := by omega
            have g3 : decide ((k : Int) < (k : Int)) = false := decide_eq_false (by omega)
            have Hend := Lib.hid (HS3.out (K L) su (by rw [Hro.out, Nat.sub_self, rdO]; show some (K L ++ [], su) = _; rw [List.append_nil]))
            have hO2 := HO.out.off hgq (by omega)
            obtain ⟨Ap, cp, rfl, hsp⟩ := HP.out.sv (B2 := w.heap.size + 2) (u := o) (by omega) (fun b e => (HO.out.lt b e).2)
            have hba := (Below.refl wr.heap.size wr).alloc (Nat.le_refl _) (.cells #[.slice Ap L.length cp] 22)
            have hnew := heap_alloc_new wr (.cells #[.slice Ap L.length cp] 22)
            have hx : Enc.ok (wr.alloc (.cells #[.slice Ap L.length cp] 22)) (fun b => w.heap.size + 2 ≤ b ∧ b < (wr.alloc (.cells #[.slice Ap L.length cp] 22)).heap.size ∧ some b ≠ o.ownBlock) (⟨Ap, cp, L⟩ : SV Od) := Enc.keep (α := SV Od) (S := fun b => w.heap.size + 2 ≤ b ∧ b < wr.heap.size ∧ some b ≠ o.ownBlock) hsp (fun p hp => hba.cell hp.2.1) (fun b hb => ⟨hb.1, Nat.lt_of_lt_of_le hb.2.1 hba.size, hb.2.2⟩)
            have Hx := Lib.hid hx
            have HO2 := Lib.hid (hO2.later hba)
            have Hne := Lib.hid (hO2.own.new_ne (Nat.le_refl wr.heap.size))
            have hR := hR.later (by omega) hba
            have hgq := grown_trans hgq (grown_of_below hba _)
            have hb := hb.trans (below_of_grown hgq hb.size (fun g e => by injection e with e; omega))
            have HH := Lib.hid hnew
            clear hx hsp hba hnew hO2 HO HP Hro
            go_wp2_with (at_builtin; refine wpList_append_one rfl (some 56) (.tmp 53) (.tmp 55) 29 rfl rfl _ 24 Tryz.underlying29 inf_sv rfl (by decide) (by decide) rfl HO2.out.own wr.heap.size (⟨Ap, cp, L⟩ : SV Od) rfl _ 22 HH.out rfl Hne.out (HO2.out.oth Hx.out) (by rw [Hlo.out]; omega) (Nat.le_trans hz3 hgq.size) ?_; intro v3 w7 hO3 hg3 hat3)
            have hP3 := HO2.out.push Hx.out hO3 hg3 hat3
            have hlt3 := HO2.out.lt
            have hR := hR.grown hg3 (fun e => by have := hlt3 _ e; omega) (fun e => by have := hlt3 _ e; omega) (Nat.lt_of_lt_of_le (by omega) hgq.size)
            have hb := hb.trans (below_of_grown hg3 hb.size (fun g e => by have := hlt3 g e; omega))
            have hz7 := Nat.le_trans hz3 (Nat.le_trans hgq.size hg3.size)
            clear hO3 hg3 hat3 hlt3 HO2 Hx HH Hne hgq
            go_roundw
            case rel => exact ⟨_, q + 1, Lo ++ [⟨Ap, cp, L⟩], su, rfl, by go_num, by omega, hP3, by rw [List.length_append, Hlo.out]; rfl, Lib.hid (by rw [Hend.out, List.map_append, List.map_append]; rfl), hlu, hR, hb, hz7⟩
            case measure => simp [intOf]; omega
      · have g5 : (e1 != 0) = true := by simpa using he
        have Hno := Lib.hid (Hs1.out he)
        clear he Hs1 Hs2 Hs3 hin hl2
        go_wp2
        go_ret2
        have hFn := HFD.out
        rw [Hno.out] at hFn
        exact ⟨_, [], by rw [← hFn]; rfl, Own.nil_ _ _ _, (fun S hS => by rw [← hFn] at hS; cases hS), hb, by omega⟩
    · obtain rfl : q = n := by omega
      have g1 : decide ((q : Int) < (q : Int)) = false := decide_eq_false (by omega)
      have HD := Lib.hid (done_c (w.heap.size + 1) w.heap.size st.1 st.2 wr hR (by omega) (by omega))
      have Hend := Lib.hid (show rdS q s0 = some ((Lo.map SV.l).map K, st) by rw [Hrd.out, Nat.sub_self, rdS]; show some ((Lo.map SV.l).map K ++ [], st) = _; rw [List.append_nil])
      have hFn := HFD.out
      rw [Hend.out] at hFn
      unfold fin at hFn
      simp only at hFn
      have HFn := Lib.hid hFn
      generalize doneRd st.1 st.2 = Dn at *
      clear hR Hrd hFn Hend
      go_wp2_with fail
      refine HD.out.mono ?_
      rintro e w3 ⟨rfl, _, hg⟩
      have HO := Lib.hid (HO.out.off hg (by omega))
      have hb := hb.trans (below_of_grown hg hb.size (fun g e => by injection e with e; omega))
      have hz9 := Nat.le_trans hz2 hg.size
      clear hg HD
      by_cases hd : Dn.1 = 0
      · have g5 : (Dn.1 == 0) = true := by rw [hd]; rfl
        have Hd := Lib.hid hd
        clear hd
        go_wp2
        go_ret2
        have hFn := HFn.out
        rw [if_pos Hd.out] at hFn
        exact ⟨_, Lo, by rw [← hFn]; rfl, HO.out.own.mono (by omega), (fun S hS => by rw [← hFn] at hS; injection hS), hb, by omega⟩
      · have g5 : (Dn.1 == 0) = false := by simpa using hd
        have Hd := Lib.hid hd
        clear hd
        go_wp2
        go_ret2
        have hFn := HFn.out
        rw [if_neg Hd.out] at hFn
        exact ⟨_, Lo, by rw [← hFn]; rfl, HO.out.own.mono (by omega), (fun S hS => by rw [← hFn] at hS; cases hS), hb, by omega⟩
theorem fread_c (A : Option Addr) (c : Nat) (b : List UInt8) (w : World) (h : Sl w w.heap.size A c b) (hn : b.length ≤ 60000) :
    Calls Tryz.prog 75 #[.slice A b.length c] w fun e w' => ∃ (v : Value) (L : List (SV Od)), e = .returned (.tuple #[v, .bool (rdF b).isSome]) ∧ Own w' w.heap.size 22 v L ∧ (∀ S, rdF b = some S → (L.map SV.l).map K = S) ∧ Below w.heap.size w w' := by
  refine (fread_g A c b w h hn).mono ?_
  rintro e w' ⟨v, L, h1, h2, h3, h4, -⟩
  exact ⟨v, L, h1, h2, h3, h4⟩
end Go.Proofs.YtdkkblhfjblpkaaGreat
