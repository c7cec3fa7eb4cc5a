/- voucher: post, all, Check, Make -/
import Derived.Test.YthmgchohbdlonaaGreatRows
import Derived.Test.YthmgchohbdlonaaGreatVou
import Derived.Test.YthmgchohbdlonaaGreatChA
import Derived.Test.YthmgchohbdlonaaGreatCopyM
import Derived.WalkKit
import Derived.WalkSpells
import Derived.WalkLawsBesides
import Derived.Deep.QuietTactic
import Derived.BigQuiet
import Derived.Laws.StructEq
import Derived.Deep.DeepFit
import Derived.StillTailTactics
namespace Go.Proofs.YthmgchohbdlonaaGreat
open Go.RowKit
def postL (L : List Ac) (x : Leg) : Int × List Ac := if (getLR L x.acct).2 ≠ 0 then ((getLR L x.acct).2, L) else if (sumR (0 - x.sum)).2 ≠ 0 then ((sumR (0 - x.sum)).2, L) else turnL (givD (sumR (0 - x.sum)).1) L x.acct (sumR (0 - x.sum)).1
def allL : List Ac → List Leg → Int × List Ac
  | L, [] => (0, L)
  | L, x :: r => if (postL L x).1 ≠ 0 then postL L x else allL (postL L x).2 r
/-- voucher.Check, Make -/
def checkL (L : List Ac) (l : List Leg) : Int := if legsB l = false then 1 else if weighB l = false then 8 else (allL L l).1
def makeL (L : List Ac) (l : List Leg) : Int × List Ac := if checkL L l ≠ 0 then (checkL L l, L) else allL L l
theorem postL_ok {L : List Ac} (h : OkA L) (x : Leg) : OkA (postL L x).2 := by
  unfold postL
  split
  · exact h
  · split
    · exact h
    · exact turnL_ok (givD_ok _) h _ _
theorem allL_ok : ∀ (l : List Leg) {L : List Ac}, OkA L → OkA (allL L l).2
  | [], _, h => h
  | x :: r, L, h => by
    unfold allL
    split
    · exact postL_ok h x
    · exact allL_ok r (postL_ok h x)
theorem makeL_ok {L : List Ac} (h : OkA L) (l : List Leg) : OkA (makeL L l).2 := by
  unfold makeL
  split
  · exact h
  · exact allL_ok l h
set_option maxRecDepth 100000 in
set_option maxHeartbeats 4000000 in
theorem post_c (g b : Nat) (L : List Ac) (x : Leg) (w : World) (h : ChA w g b L) (hL : OkA L) (hx : R64 x.sum) :
    Calls Tryz.prog 96 #[.pointer (some ⟨g, 0, none⟩), .agg #[.string x.acct, i64 x.sum]] w fun e w' => e = .returned (i64 (postL L x).1) ∧ ChA w' g b (postL L x).2 ∧ w.grownBy w' (some b) := by
  have HL := Lib.hid hL
  obtain ⟨R, hR⟩ : ∃ R, postL L x = R := ⟨_, rfl⟩
  rw [hR]
  unfold postL at hR
  have hb0 := (Below.refl w.heap.size w).alloc (Nat.le_refl _) (.cells #[.string x.acct, i64 x.sum] 93)
  have h0 := h.later hb0
  have hG := Lib.hid (getA_c g b L x.acct _ h0)
  have hk := heap_alloc_new w (.cells #[.string x.acct, i64 x.sum] 93)
  have hlt := h.lt
  have H0 := Lib.hid h0
  obtain ⟨q, hq⟩ : ∃ q, getLR L x.acct = q := ⟨_, rfl⟩
  rw [hq] at hR hG
  have HR := Lib.hid hR.symm
  have L1 := Lib.hid fun W => less_c 0 x.sum W R64_0 hx
  have Hs64 := Lib.hid (sumR_R64 (0 - x.sum))
  obtain ⟨r, hr⟩ : ∃ r, sumR (0 - x.sum) = r := ⟨_, rfl⟩
  rw [hr] at L1 HR Hs64
  clear hR hL h h0 hx hq hr
  go_enter Tryz.func96, Tryz.ntmps96
  go_wp2_with fail
  generalize w.alloc (.cells #[.string x.acct, i64 x.sum] 93) = w0 at *
  refine hG.out.mono ?_
  rintro e w1 ⟨rfl, hF⟩
  have hb1 := below_on hb0 (Nat.le_refl _) hF
  have h1 := H0.out.later hF
  have hk1 := (hF.block _ (Array.getElem?_eq_some_iff.1 hk).1).trans hk
  clear hF hG H0 hb0 hk
  have hb2 := hb1.alloc hb1.size (.cells #[.string q.1.name, i64 q.1.hav, i64 q.1.set_, i64 q.1.lim] 52)
  have h2 := h1.later ((Below.refl _ _).alloc (Nat.le_refl _) (.cells #[.string q.1.name, i64 q.1.hav, i64 q.1.set_, i64 q.1.lim] 52))
  have hk2 := (((Below.refl _ _).alloc (Nat.le_refl _) (.cells #[.string q.1.name, i64 q.1.hav, i64 q.1.set_, i64 q.1.lim] 52)).block _ (Array.getElem?_eq_some_iff.1 hk1).1).trans hk1
  have m0 := cell_of_row _ w.heap.size 0 _ _ (0, 0) hk2
  have m1 := cell_of_row _ w.heap.size 1 _ _ (0, 0) hk2
  simp only [List.getElem?_toArray, List.getElem?_cons_zero, List.getElem?_cons_succ] at m0 m1
  have H2 := Lib.hid h2
  have Hk2 := Lib.hid hk2
  clear h1 hk1 hb1 h2 hk2
  by_cases hq0 : q.2 = 0
  · have g1 : (q.2 != 0) = false := by rw [hq0]; rfl
    have HR1 := Lib.hid (show R = (if r.2 ≠ 0 then (r.2, L) else turnL (givD r.1) L x.acct r.1) by rw [HR.out, if_neg (by simpa using hq0)])
    clear hq0 HR
    go_wp2_with fail
    generalize w1.alloc (.cells #[.string q.1.name, i64 q.1.hav, i64 q.1.set_, i64 q.1.lim] 52) = w2 at *
    refine (L1.out _).mono ?_
    rintro e w3 ⟨rfl, hF⟩
    have hlw := (Array.getElem?_eq_some_iff.1 Hk2.out).1
    have hb3 := below_on hb2 (Nat.le_refl _) hF
    have h3 := H2.out.later hF
    have m0 := (hF.cell (p := ⟨w.heap.size, 0, none⟩) hlw).trans m0
    clear hF L1 hb2 H2 m1
    by_cases hr0 : r.2 = 0
    · have g2 : (r.2 != 0) = false := by rw [hr0]; rfl
      have HR2 := Lib.hid (show R = turnL (givD r.1) L x.acct r.1 by rw [HR1.out, if_neg (by simpa using hr0)])
      have hT := Lib.hid (giveA_c g b L x.acct r.1 w3 h3 HL.out Hs64.out)
      clear hr0 HR1 h3
      go_wp2_with fail
      refine hT.out.mono ?_
      rintro e w4 ⟨rfl, h4, hG4⟩
      go_wp2
      go_ret
      exact ⟨by rw [HR2.out]; rfl, by rw [HR2.out]; exact h4, grown_trans (grown_of_below hb3 _) hG4⟩
    · have g2 : (r.2 != 0) = true := by simpa using hr0
      have HR2 := Lib.hid (show R = (r.2, L) by rw [HR1.out, if_pos hr0])
      clear hr0 HR1
      go_wp2
      go_ret
      exact ⟨by rw [HR2.out]; rfl, by rw [HR2.out]; exact h3, grown_of_below hb3 _⟩
  · have g1 : (q.2 != 0) = true := by simpa using hq0
    have HR1 := Lib.hid (show R = (q.2, L) by rw [HR.out, if_pos hq0])
    clear hq0 HR
    go_wp2
    go_ret
    exact ⟨by rw [HR1.out]; rfl, by rw [HR1.out]; exact H2.out, grown_of_below hb2 _⟩
theorem allL_step {L : List Ac} {l : List Leg} {k : Nat} (h : k < l.length) : allL L (l.drop k) = if (postL L l[k]).1 ≠ 0 then postL L l[k] else allL (postL L l[k]).2 (l.drop (k + 1)) := by
  rw [List.drop_eq_getElem_cons h]
  rfl
set_option maxRecDepth 100000 in
set_option maxHeartbeats 4000000 in
theorem all_c (g b : Nat) (L : List Ac) (A : Option Addr) (c : Nat) (l : List Leg) (w : World) (h : ChA w g b L) (hL : OkA L) (hl : SlS w (fun k => k < w.heap.size ∧ k ≠ b) A c l) (hn : l.length ≤ 65536) (hr : ∀ x ∈ l, R64 x.sum) :
    Calls Tryz.prog 73 #[.pointer (some ⟨g, 0, none⟩), .slice A l.length c] w fun e w' => e = .returned (i64 (allL L l).1) ∧ ChA w' g b (allL L l).2 ∧ w.grownBy w' (some b) := by
  obtain ⟨R, hR⟩ : ∃ R, allL L l = R := ⟨_, rfl⟩
  rw [hR]
  have HR := Lib.hid hR
  have HL := Lib.hid hL
  have Hr := Lib.hid hr
  have Hl := Lib.hid hl
  have H := Lib.hid h
  clear hR hL hr hl h
  go_enter Tryz.func73, Tryz.ntmps73
  go_wp2_with fail
  go_loopw [10] (fun i wr => ∃ (k : Nat) (Lk : List Ac), i = i64 k ∧ k ≤ l.length ∧ ChA wr g b Lk ∧ OkA Lk ∧ R = allL Lk (l.drop k) ∧ w.grownBy wr (some b)) (fun i _ => l.length - (intOf i).toNat)
  case atStart => exact ⟨0, L, rfl, by omega, H.out, HL.out, HR.out.symm, World.grownBy.refl _ _⟩
  case round =>
    obtain ⟨k, Lk, rfl, hk, hc, hok, hR, hg⟩ := hrel
    have hs := Lib.hid (Hl.out.grs (Gr.of_grown hg) (fun b' hb => ⟨hb.1, fun e => hb.2 (by injection e with e; exact e.symm)⟩))
    by_cases hlt : k < l.length
    · obtain ⟨bb, o, rfl, hbb, hsz, c0, c1⟩ := hs.out.leg hlt
      rw [allL_step hlt] at hR
      have HRk := Lib.hid hR
      have hB1 := (Below.refl wr.heap.size wr).alloc (Nat.le_refl _) (.cells #[.string l[k].acct, i64 l[k].sum] 93)
      have hP := Lib.hid (post_c g b Lk l[k] _ (hc.later hB1) hok (Hr.out _ (List.getElem_mem hlt)))
      have HP := Lib.hid (postL_ok hok l[k])
      have hg1 := grown_trans hg (grown_of_below hB1 (some b))
      generalize postL Lk l[k] = p at *
      clear hc hok hR hg hB1 hsz
      go_wp2_with fail
      refine hP.out.mono ?_
      rintro e w2 ⟨rfl, hc2, hg2⟩
      have hg3 := grown_trans hg1 hg2
      clear hP hg1 hg2 c0 c1
      by_cases hp : p.1 = 0
      · have g1 : (p.1 != 0) = false := by rw [hp]; rfl
        have HRn := Lib.hid (show R = allL p.2 (l.drop (k + 1)) by rw [HRk.out, if_neg (by simpa using hp)])
        clear hp HRk
        go_wp2
        go_roundw
        case rel => exact ⟨k + 1, p.2, by go_num, by omega, hc2, HP.out, HRn.out, hg3⟩
        case measure => simp [intOf]; omega
      · have g1 : (p.1 != 0) = true := by simpa using hp
        have HRn := Lib.hid (show R = p by rw [HRk.out, if_pos hp])
        clear hp HRk
        go_wp2
        go_ret
        exact ⟨by rw [HRn.out]; rfl, by rw [HRn.out]; exact hc2, hg3⟩
    · obtain rfl : k = l.length := by omega
      rw [List.drop_length] at hR
      have HRn := Lib.hid (show R = (0, Lk) from hR)
      clear hR
      go_wp2
      go_ret
      exact ⟨by rw [HRn.out]; rfl, by rw [HRn.out]; exact hc, hg⟩
theorem chcopyA_c (g b : Nat) (L : List Ac) (w : World) (h : ChA w g b L) :
    Calls Tryz.prog 19 #[.pointer (some ⟨g, 0, none⟩)] w fun e w' => ∃ g' b', e = .returned (.pointer (some ⟨g', 0, none⟩)) ∧ ChA w' g' b' L ∧ w.heap.size ≤ g' ∧ w.heap.size ≤ b' ∧ Below w.heap.size w w' := by
  obtain ⟨M, h, hr⟩ := h
  exact (chcopy_c g b M w h).mono fun _ _ ⟨g', b', h1, h2, h3⟩ => ⟨g', b', h1, ⟨M, h2, hr⟩, h3⟩
set_option maxRecDepth 100000 in
set_option maxHeartbeats 4000000 in
theorem check_c (g b : Nat) (L : List Ac) (A : Option Addr) (c : Nat) (l : List Leg) (w : World) (h : ChA w g b L) (hL : OkA L) (hl : Sl w w.heap.size A c l) (hn : l.length ≤ 65536) (hr : ∀ x ∈ l, R64 x.sum) :
    Calls Tryz.prog 45 #[.pointer (some ⟨g, 0, none⟩), .slice A l.length c] w fun e w' => e = .returned (i64 (checkL L l)) ∧ Below w.heap.size w w' := by
  obtain ⟨R, hR⟩ : ∃ R, checkL L l = R := ⟨_, rfl⟩
  rw [hR]
  unfold checkL at hR
  have HR := Lib.hid hR.symm
  have hk1 := Lib.hid (right_c A c l w hl hn)
  have hk2 := Lib.hid fun W (hb : Below w.heap.size w W) => weigh_c A c l W (hl.later hb) hn hr
  have H := Lib.hid h
  have Hl := Lib.hid hl
  have HL := Lib.hid hL
  have Hr := Lib.hid hr
  clear hR hL hr hl h
  go_enter Tryz.func45, Tryz.ntmps45
  go_wp2_with fail
  refine hk1.out.mono ?_
  rintro e w1 ⟨rfl, hb1⟩
  clear hk1
  cases hlb : legsB l with
  | false =>
    have HR1 := Lib.hid (show R = 1 by rw [HR.out, if_pos hlb])
    clear hlb
    go_wp2
    go_ret
    exact ⟨by rw [HR1.out]; rfl, hb1⟩
  | true =>
    have HR1 := Lib.hid (show R = (if weighB l = false then 8 else (allL L l).1) by rw [HR.out, if_neg (by rw [hlb]; decide)])
    clear hlb HR
    go_wp2_with fail
    refine (hk2.out _ hb1).mono ?_
    rintro e w2 ⟨rfl, hF⟩
    have hb2 := below_on hb1 (Nat.le_refl _) hF
    clear hF hk2 hb1
    cases hwb : weighB l with
    | false =>
      have HR2 := Lib.hid (show R = 8 by rw [HR1.out, if_pos hwb])
      clear hwb
      go_wp2
      go_ret
      exact ⟨by rw [HR2.out]; rfl, hb2⟩
    | true =>
      have HR2 := Lib.hid (show R = (allL L l).1 by rw [HR1.out, if_neg (by rw [hwb]; decide)])
      have hC := Lib.hid (chcopyA_c g b L w2 (H.out.later hb2))
      clear hwb HR1
      go_wp2_with fail
      refine hC.out.mono ?_
      rintro e w3 ⟨g', b', rfl, hc3, hg', hb', hF⟩
      have hb3 := below_on hb2 (Nat.le_refl _) hF
      have hA := Lib.hid (all_c g' b' L A c l w3 hc3 HL.out ((Hl.out.later hb2).keep (fun p hp => hF.cell hp) (fun k hk => ⟨Nat.lt_of_lt_of_le hk hF.size, by omega⟩)) hn Hr.out)
      have hlb' := hc3.lt
      have hsz := hb2.size
      generalize allL L l = p at *
      clear hF hC
      go_wp2_with fail
      refine hA.out.mono ?_
      rintro e w4 ⟨rfl, hc4, hg4⟩
      go_wp2
      go_ret
      exact ⟨by rw [HR2.out]; rfl, hb3.trans (below_of_grown hg4 hb3.size (fun k e => by injection e with e; omega))⟩
set_option maxRecDepth 100000 in
set_option maxHeartbeats 4000000 in
theorem make_c (g b : Nat) (L : List Ac) (A : Option Addr) (c : Nat) (l : List Leg) (w : World) (h : ChA w g b L) (hL : OkA L) (hl : SlS w (fun k => k < w.heap.size ∧ k ≠ b) A c l) (hn : l.length ≤ 65536) (hr : ∀ x ∈ l, R64 x.sum) :
    Calls Tryz.prog 46 #[.pointer (some ⟨g, 0, none⟩), .slice A l.length c] w fun e w' => e = .returned (i64 (makeL L l).1) ∧ ChA w' g b (makeL L l).2 ∧ w.grownBy w' (some b) := by
  obtain ⟨R, hR⟩ : ∃ R, makeL L l = R := ⟨_, rfl⟩
  rw [hR]
  unfold makeL at hR
  have HR := Lib.hid hR.symm
  have hk1 := Lib.hid (check_c g b L A c l w h hL (hl.mono fun _ h => h.1) hn hr)
  have H := Lib.hid h
  have Hl := Lib.hid hl
  have HL := Lib.hid hL
  have Hr := Lib.hid hr
  clear hR hL hr hl h
  generalize checkL L l = q at *
  go_enter Tryz.func46, Tryz.ntmps46
  go_wp2_with fail
  refine hk1.out.mono ?_
  rintro e w1 ⟨rfl, hb1⟩
  clear hk1
  by_cases hq : q = 0
  · have g1 : (q != 0) = false := by rw [hq]; rfl
    have HR1 := Lib.hid (show R = allL L l by rw [HR.out, if_neg (by simpa using hq)])
    have hA := Lib.hid (all_c g b L A c l w1 (H.out.later hb1) HL.out (Hl.out.keep (fun p hp => hb1.cell hp.1) (fun k hk => ⟨Nat.lt_of_lt_of_le hk.1 hb1.size, hk.2⟩)) hn Hr.out)
    generalize allL L l = p at *
    clear hq HR
    go_wp2_with fail
    refine hA.out.mono ?_
    rintro e w4 ⟨rfl, hc4, hg4⟩
    go_wp2
    go_ret
    exact ⟨by rw [HR1.out]; rfl, by rw [HR1.out]; exact hc4, grown_trans (grown_of_below hb1 _) hg4⟩
  · have g1 : (q != 0) = true := by simpa using hq
    have HR1 := Lib.hid (show R = (q, L) by rw [HR.out, if_pos hq])
    clear hq HR
    go_wp2
    go_ret
    exact ⟨by rw [HR1.out]; rfl, by rw [HR1.out]; exact H.out.later hb1, grown_of_below hb1 _⟩
end Go.Proofs.YthmgchohbdlonaaGreat
