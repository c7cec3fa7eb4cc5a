/- Texts of this claim, laid together: VouB, HoTake, Hlives. -/
import Derived.Test.YtmljlkjomjflpaaGreatRows
import Derived.Test.YtmljlkjomjflpaaGreatHp13
import Derived.Test.YtmljlkjomjflpaaGreatHp6
import Derived.WalkKit
import Derived.WalkSpells
import Derived.WalkLawsBesides
import Derived.Deep.QuietTactic
import Derived.BigQuiet
import Derived.Laws.StructEq
import Derived.Deep.DeepFit
import Derived.StillTailTactics
import Derived.Test.YtmljlkjomjflpaaGreatHp12

/- voucher: post, all, Check, Make -/
namespace Go.Proofs.YtmljlkjomjflpaaGreat
open Go.RowKit
def postL (L : List Ac) (x : Leg) : Int × List Ac := if (getLR L x.acct).2 ≠ 0 then ((getLR L x.acct).2, L) else if (sumR (0 - x.sum)).2 ≠ 0 then ((sumR (0 - x.sum)).2, L) else turnL (givD (sumR (0 - x.sum)).1) L x.acct (sumR (0 - x.sum)).1
def allL : List Ac → List Leg → Int × List Ac
  | L, [] => (0, L)
  | L, x :: r => if (postL L x).1 ≠ 0 then postL L x else allL (postL L x).2 r
/-- voucher.Check, Make -/
def checkL (L : List Ac) (l : List Leg) : Int := if legsB l = false then 1 else if weighB l = false then 8 else (allL L l).1
def makeL (L : List Ac) (l : List Leg) : Int × List Ac := if checkL L l ≠ 0 then (checkL L l, L) else allL L l
theorem postL_ok {L : List Ac} (h : OkA L) (x : Leg) : OkA (postL L x).2 := by
  unfold postL
  split
  · exact h
  · split
    · exact h
    · exact turnL_ok (givD_ok _) h _ _
theorem allL_ok : ∀ (l : List Leg) {L : List Ac}, OkA L → OkA (allL L l).2
  | [], _, h => h
  | x :: r, L, h => by
    unfold allL
    split
    · exact postL_ok h x
    · exact allL_ok r (postL_ok h x)
theorem makeL_ok {L : List Ac} (h : OkA L) (l : List Leg) : OkA (makeL L l).2 := by
  unfold makeL
  split
  · exact h
  · exact allL_ok l h
set_option maxRecDepth 100000 in
set_option maxHeartbeats 4000000 in
theorem post_c (g b : Nat) (L : List Ac) (x : Leg) (w : World) (h : ChA w g b L) (hL : OkA L) (hx : R64 x.sum) :
    Calls Tryz.prog 179 #[.pointer (some ⟨g, 0, none⟩), .agg #[.string x.acct, i64 x.sum]] w fun e w' => e = .returned (i64 (postL L x).1) ∧ ChA w' g b (postL L x).2 ∧ w.grownBy w' (some b) := by
  have HL := Lib.hid hL
  obtain ⟨R, hR⟩ : ∃ R, postL L x = R := ⟨_, rfl⟩
  rw [hR]
  unfold postL at hR
  have hb0 := (Below.refl w.heap.size w).alloc (Nat.le_refl _) (.cells #[.string x.acct, i64 x.sum] 137)
  have h0 := h.later hb0
  have hG := Lib.hid (getA_c g b L x.acct _ h0)
  have hk := heap_alloc_new w (.cells #[.string x.acct, i64 x.sum] 137)
  have hlt := h.lt
  have H0 := Lib.hid h0
  obtain ⟨q, hq⟩ : ∃ q, getLR L x.acct = q := ⟨_, rfl⟩
  rw [hq] at hR hG
  have HR := Lib.hid hR.symm
  have L1 := Lib.hid fun W => less_c 0 x.sum W R64_0 hx
  have Hs64 := Lib.hid (sumR_R64 (0 - x.sum))
  obtain ⟨r, hr⟩ : ∃ r, sumR (0 - x.sum) = r := ⟨_, rfl⟩
  rw [hr] at L1 HR Hs64
  clear hR hL h h0 hx hq hr
  go_enter Tryz.func179, Tryz.ntmps179
  go_wp2_with fail
  generalize w.alloc (.cells #[.string x.acct, i64 x.sum] 137) = w0 at *
  refine hG.out.mono ?_
  rintro e w1 ⟨rfl, hF⟩
  have hb1 := below_on hb0 (Nat.le_refl _) hF
  have h1 := H0.out.later hF
  have hk1 := (hF.block _ (Array.getElem?_eq_some_iff.1 hk).1).trans hk
  clear hF hG H0 hb0 hk
  have hb2 := hb1.alloc hb1.size (.cells #[.string q.1.name, i64 q.1.hav, i64 q.1.set_, i64 q.1.lim] 70)
  have h2 := h1.later ((Below.refl _ _).alloc (Nat.le_refl _) (.cells #[.string q.1.name, i64 q.1.hav, i64 q.1.set_, i64 q.1.lim] 70))
  have hk2 := (((Below.refl _ _).alloc (Nat.le_refl _) (.cells #[.string q.1.name, i64 q.1.hav, i64 q.1.set_, i64 q.1.lim] 70)).block _ (Array.getElem?_eq_some_iff.1 hk1).1).trans hk1
  have m0 := cell_of_row _ w.heap.size 0 _ _ (0, 0) hk2
  have m1 := cell_of_row _ w.heap.size 1 _ _ (0, 0) hk2
  simp only [List.getElem?_toArray, List.getElem?_cons_zero, List.getElem?_cons_succ] at m0 m1
  have H2 := Lib.hid h2
  have Hk2 := Lib.hid hk2
  clear h1 hk1 hb1 h2 hk2
  by_cases hq0 : q.2 = 0
  · have g1 : (q.2 != 0) = false := by rw [hq0]; rfl
    have HR1 := Lib.hid (show R = (if r.2 ≠ 0 then (r.2, L) else turnL (givD r.1) L x.acct r.1) by rw [HR.out, if_neg (by simpa using hq0)])
    clear hq0 HR
    go_wp2_with fail
    generalize w1.alloc (.cells #[.string q.1.name, i64 q.1.hav, i64 q.1.set_, i64 q.1.lim] 70) = w2 at *
    refine (L1.out _).mono ?_
    rintro e w3 ⟨rfl, hF⟩
    have hlw := (Array.getElem?_eq_some_iff.1 Hk2.out).1
    have hb3 := below_on hb2 (Nat.le_refl _) hF
    have h3 := H2.out.later hF
    have m0 := (hF.cell (p := ⟨w.heap.size, 0, none⟩) hlw).trans m0
    clear hF L1 hb2 H2 m1
    by_cases hr0 : r.2 = 0
    · have g2 : (r.2 != 0) = false := by rw [hr0]; rfl
      have HR2 := Lib.hid (show R = turnL (givD r.1) L x.acct r.1 by rw [HR1.out, if_neg (by simpa using hr0)])
      have hT := Lib.hid (giveA_c g b L x.acct r.1 w3 h3 HL.out Hs64.out)
      clear hr0 HR1 h3
      go_wp2_with fail
      refine hT.out.mono ?_
      rintro e w4 ⟨rfl, h4, hG4⟩
      go_wp2
      go_ret
      exact ⟨by rw [HR2.out]; rfl, by rw [HR2.out]; exact h4, grown_trans (grown_of_below hb3 _) hG4⟩
    · have g2 : (r.2 != 0) = true := by simpa using hr0
      have HR2 := Lib.hid (show R = (r.2, L) by rw [HR1.out, if_pos hr0])
      clear hr0 HR1
      go_wp2
      go_ret
      exact ⟨by rw [HR2.out]; rfl, by rw [HR2.out]; exact h3, grown_of_below hb3 _⟩
  · have g1 : (q.2 != 0) = true := by simpa using hq0
    have HR1 := Lib.hid (show R = (q.2, L) by rw [HR.out, if_pos hq0])
    clear hq0 HR
    go_wp2
    go_ret
    exact ⟨by rw [HR1.out]; rfl, by rw [HR1.out]; exact H2.out, grown_of_below hb2 _⟩
theorem allL_step {L : List Ac} {l : List Leg} {k : Nat} (h : k < l.length) : allL L (l.drop k) = if (postL L l[k]).1 ≠ 0 then postL L l[k] else allL (postL L l[k]).2 (l.drop (k + 1)) := by
  rw [List.drop_eq_getElem_cons h]
  rfl
set_option maxRecDepth 100000 in
set_option maxHeartbeats 4000000 in
theorem all_c (g b : Nat) (L : List Ac) (A : Option Addr) (c : Nat) (l : List Leg) (w : World) (h : ChA w g b L) (hL : OkA L) (hl : SlS w (fun k => k < w.heap.size ∧ k ≠ b) A c l) (hn : l.length ≤ 65536) (hr : ∀ x ∈ l, R64 x.sum) :
    Calls Tryz.prog 130 #[.pointer (some ⟨g, 0, none⟩), .slice A l.length c] w fun e w' => e = .returned (i64 (allL L l).1) ∧ ChA w' g b (allL L l).2 ∧ w.grownBy w' (some b) := by
  obtain ⟨R, hR⟩ : ∃ R, allL L l = R := ⟨_, rfl⟩
  rw [hR]
  have HR := Lib.hid hR
  have HL := Lib.hid hL
  have Hr := Lib.hid hr
  have Hl := Lib.hid hl
  have H := Lib.hid h
  clear hR hL hr hl h
  go_enter Tryz.func130, Tryz.ntmps130
  go_wp2_with fail
  go_loopw [10] (fun i wr => ∃ (k : Nat) (Lk : List Ac), i = i64 k ∧ k ≤ l.length ∧ ChA wr g b Lk ∧ OkA Lk ∧ R = allL Lk (l.drop k) ∧ w.grownBy wr (some b)) (fun i _ => l.length - (intOf i).toNat)
  case atStart => exact ⟨0, L, rfl, by omega, H.out, HL.out, HR.out.symm, World.grownBy.refl _ _⟩
  case round =>
    obtain ⟨k, Lk, rfl, hk, hc, hok, hR, hg⟩ := hrel
    have hs := Lib.hid (Hl.out.grs (Gr.of_grown hg) (fun b' hb => ⟨hb.1, fun e => hb.2 (by injection e with e; exact e.symm)⟩))
    by_cases hlt : k < l.length
    · obtain ⟨bb, o, rfl, hbb, hsz, c0, c1⟩ := hs.out.leg hlt
      rw [allL_step hlt] at hR
      have HRk := Lib.hid hR
      have hB1 := (Below.refl wr.heap.size wr).alloc (Nat.le_refl _) (.cells #[.string l[k].acct, i64 l[k].sum] 137)
      have hP := Lib.hid (post_c g b Lk l[k] _ (hc.later hB1) hok (Hr.out _ (List.getElem_mem hlt)))
      have HP := Lib.hid (postL_ok hok l[k])
      have hg1 := grown_trans hg (grown_of_below hB1 (some b))
      generalize postL Lk l[k] = p at *
      clear hc hok hR hg hB1 hsz
      go_wp2_with fail
      refine hP.out.mono ?_
      rintro e w2 ⟨rfl, hc2, hg2⟩
      have hg3 := grown_trans hg1 hg2
      clear hP hg1 hg2 c0 c1
      by_cases hp : p.1 = 0
      · have g1 : (p.1 != 0) = false := by rw [hp]; rfl
        have HRn := Lib.hid (show R = allL p.2 (l.drop (k + 1)) by rw [HRk.out, if_neg (by simpa using hp)])
        clear hp HRk
        go_wp2
        go_roundw
        case rel => exact ⟨k + 1, p.2, by go_num, by omega, hc2, HP.out, HRn.out, hg3⟩
        case measure => simp [intOf]; omega
      · have g1 : (p.1 != 0) = true := by simpa using hp
        have HRn := Lib.hid (show R = p by rw [HRk.out, if_pos hp])
        clear hp HRk
        go_wp2
        go_ret
        exact ⟨by rw [HRn.out]; rfl, by rw [HRn.out]; exact hc2, hg3⟩
    · obtain rfl : k = l.length := by omega
      rw [List.drop_length] at hR
      have HRn := Lib.hid (show R = (0, Lk) from hR)
      clear hR
      go_wp2
      go_ret
      exact ⟨by rw [HRn.out]; rfl, by rw [HRn.out]; exact hc, hg⟩
theorem chcopyA_c (g b : Nat) (L : List Ac) (w : World) (h : ChA w g b L) :
    Calls Tryz.prog 70 #[.pointer (some ⟨g, 0, none⟩)] w fun e w' => ∃ g' b', e = .returned (.pointer (some ⟨g', 0, none⟩)) ∧ ChA w' g' b' L ∧ w.heap.size ≤ g' ∧ w.heap.size ≤ b' ∧ Below w.heap.size w w' := by
  obtain ⟨M, h, hr⟩ := h
  exact (chcopy_c g b M w h).mono fun _ _ ⟨g', b', h1, h2, h3⟩ => ⟨g', b', h1, ⟨M, h2, hr⟩, h3⟩
set_option maxRecDepth 100000 in
set_option maxHeartbeats 4000000 in
theorem check_c (g b : Nat) (L : List Ac) (A : Option Addr) (c : Nat) (l : List Leg) (w : World) (h : ChA w g b L) (hL : OkA L) (hl : Sl w w.heap.size A c l) (hn : l.length ≤ 65536) (hr : ∀ x ∈ l, R64 x.sum) :
    Calls Tryz.prog 85 #[.pointer (some ⟨g, 0, none⟩), .slice A l.length c] w fun e w' => e = .returned (i64 (checkL L l)) ∧ Below w.heap.size w w' := by
  obtain ⟨R, hR⟩ : ∃ R, checkL L l = R := ⟨_, rfl⟩
  rw [hR]
  unfold checkL at hR
  have HR := Lib.hid hR.symm
  have hk1 := Lib.hid (right_c A c l w hl hn)
  have hk2 := Lib.hid fun W (hb : Below w.heap.size w W) => weigh_c A c l W (hl.later hb) hn hr
  have H := Lib.hid h
  have Hl := Lib.hid hl
  have HL := Lib.hid hL
  have Hr := Lib.hid hr
  clear hR hL hr hl h
  go_enter Tryz.func85, Tryz.ntmps85
  go_wp2_with fail
  refine hk1.out.mono ?_
  rintro e w1 ⟨rfl, hb1⟩
  clear hk1
  cases hlb : legsB l with
  | false =>
    have HR1 := Lib.hid (show R = 1 by rw [HR.out, if_pos hlb])
    clear hlb
    go_wp2
    go_ret
    exact ⟨by rw [HR1.out]; rfl, hb1⟩
  | true =>
    have HR1 := Lib.hid (show R = (if weighB l = false then 8 else (allL L l).1) by rw [HR.out, if_neg (by rw [hlb]; decide)])
    clear hlb HR
    go_wp2_with fail
    refine (hk2.out _ hb1).mono ?_
    rintro e w2 ⟨rfl, hF⟩
    have hb2 := below_on hb1 (Nat.le_refl _) hF
    clear hF hk2 hb1
    cases hwb : weighB l with
    | false =>
      have HR2 := Lib.hid (show R = 8 by rw [HR1.out, if_pos hwb])
      clear hwb
      go_wp2
      go_ret
      exact ⟨by rw [HR2.out]; rfl, hb2⟩
    | true =>
      have HR2 := Lib.hid (show R = (allL L l).1 by rw [HR1.out, if_neg (by rw [hwb]; decide)])
      have hC := Lib.hid (chcopyA_c g b L w2 (H.out.later hb2))
      clear hwb HR1
      go_wp2_with fail
      refine hC.out.mono ?_
      rintro e w3 ⟨g', b', rfl, hc3, hg', hb', hF⟩
      have hb3 := below_on hb2 (Nat.le_refl _) hF
      have hA := Lib.hid (all_c g' b' L A c l w3 hc3 HL.out ((Hl.out.later hb2).keep (fun p hp => hF.cell hp) (fun k hk => ⟨Nat.lt_of_lt_of_le hk hF.size, by omega⟩)) hn Hr.out)
      have hlb' := hc3.lt
      have hsz := hb2.size
      generalize allL L l = p at *
      clear hF hC
      go_wp2_with fail
      refine hA.out.mono ?_
      rintro e w4 ⟨rfl, hc4, hg4⟩
      go_wp2
      go_ret
      exact ⟨by rw [HR2.out]; rfl, hb3.trans (below_of_grown hg4 hb3.size (fun k e => by injection e with e; omega))⟩
set_option maxRecDepth 100000 in
set_option maxHeartbeats 4000000 in
theorem make_c (g b : Nat) (L : List Ac) (A : Option Addr) (c : Nat) (l : List Leg) (w : World) (h : ChA w g b L) (hL : OkA L) (hl : SlS w (fun k => k < w.heap.size ∧ k ≠ b) A c l) (hn : l.length ≤ 65536) (hr : ∀ x ∈ l, R64 x.sum) :
    Calls Tryz.prog 86 #[.pointer (some ⟨g, 0, none⟩), .slice A l.length c] w fun e w' => e = .returned (i64 (makeL L l).1) ∧ ChA w' g b (makeL L l).2 ∧ w.grownBy w' (some b) := by
  obtain ⟨R, hR⟩ : ∃ R, makeL L l = R := ⟨_, rfl⟩
  rw [hR]
  unfold makeL at hR
  have HR := Lib.hid hR.symm
  have hk1 := Lib.hid (check_c g b L A c l w h hL (hl.mono fun _ h => h.1) hn hr)
  have H := Lib.hid h
  have Hl := Lib.hid hl
  have HL := Lib.hid hL
  have Hr := Lib.hid hr
  clear hR hL hr hl h
  generalize checkL L l = q at *
  go_enter Tryz.func86, Tryz.ntmps86
  go_wp2_with fail
  refine hk1.out.mono ?_
  rintro e w1 ⟨rfl, hb1⟩
  clear hk1
  by_cases hq : q = 0
  · have g1 : (q != 0) = false := by rw [hq]; rfl
    have HR1 := Lib.hid (show R = allL L l by rw [HR.out, if_neg (by simpa using hq)])
    have hA := Lib.hid (all_c g b L A c l w1 (H.out.later hb1) HL.out (Hl.out.keep (fun p hp => hb1.cell hp.1) (fun k hk => ⟨Nat.lt_of_lt_of_le hk.1 hb1.size, hk.2⟩)) hn Hr.out)
    generalize allL L l = p at *
    clear hq HR
    go_wp2_with fail
    refine hA.out.mono ?_
    rintro e w4 ⟨rfl, hc4, hg4⟩
    go_wp2
    go_ret
    exact ⟨by rw [HR1.out]; rfl, by rw [HR1.out]; exact hc4, grown_trans (grown_of_below hb1 _) hg4⟩
  · have g1 : (q != 0) = true := by simpa using hq
    have HR1 := Lib.hid (show R = (q, L) by rw [HR.out, if_pos hq])
    clear hq HR
    go_wp2
    go_ret
    exact ⟨by rw [HR1.out]; rfl, by rw [HR1.out]; exact H.out.later hb1, grown_of_below hb1 _⟩
end Go.Proofs.YtmljlkjomjflpaaGreat

/- hold: Take -/
namespace Go.Proofs.YtmljlkjomjflpaaGreat
open Go.RowKit
def legs2 (a p : ByteArray) (s : Int) : List Leg := [⟨a, -s⟩, ⟨p, s⟩]
def takeH (L : List Ac) (H : List Held) (k : ByteArray) (n : Int) (p : ByteArray) (s : Int) : Int × List Ac × List Held := match getK Held.key H ⟨k, n⟩ with
  | none => (6, L, H)
  | some y => if s < 1 ∨ y.sum < s then (13, L, H) else if (turnL (asiD (-y.sum)) L k (-y.sum)).1 ≠ 0 then ((turnL (asiD (-y.sum)) L k (-y.sum)).1, L, H)
    else if checkL (turnL (asiD (-y.sum)) L k (-y.sum)).2 (legs2 k p s) ≠ 0 then (checkL (turnL (asiD (-y.sum)) L k (-y.sum)).2 (legs2 k p s), L, H)
    else ((makeL (freeHL L H k n).2.1 (legs2 k p s)).1, (makeL (freeHL L H k n).2.1 (legs2 k p s)).2, (freeHL L H k n).2.2)
theorem freeHL_ok {L : List Ac} (h : OkA L) (H : List Held) (k : ByteArray) (n : Int) : OkA (freeHL L H k n).2.1 := by
  unfold freeHL
  cases getK Held.key H ⟨k, n⟩ with
  | none => exact h
  | some y => exact turnL_ok (asiD_ok _) h _ _
theorem freeHL_okH {H : List Held} (h : OkH H) (L : List Ac) (k : ByteArray) (n : Int) : OkH (freeHL L H k n).2.2 := by
  unfold freeHL
  cases getK Held.key H ⟨k, n⟩ with
  | none => exact h
  | some y =>
    dsimp only
    split
    · exact fun x hx => h x (List.mem_filter.1 hx).1
    · exact h
set_option maxRecDepth 100000 in
set_option maxHeartbeats 8000000 in
theorem hotake_c (g b gh bh : Nat) (L : List Ac) (H : List Held) (k : ByteArray) (n : Int) (p : ByteArray) (s : Int) (w : World) (h : ChA w g b L) (hh : HoA w gh bh H) (hd : gh ≠ b ∧ bh ≠ b ∧ g ≠ bh) (hL : OkA L) (hH : OkH H) (hs : R64 s) (hk : k.size ≤ maxLen) (hp : p.size ≤ maxLen) :
    Calls Tryz.prog 49 #[.pointer (some ⟨gh, 0, none⟩), .pointer (some ⟨g, 0, none⟩), .string k, i64 n, .string p, i64 s] w fun e w' => e = .returned (i64 (takeH L H k n p s).1) ∧ ChA w' g b (takeH L H k n p s).2.1 ∧ HoA w' gh bh (takeH L H k n p s).2.2 ∧ G2 w w' b bh := by
  obtain ⟨R, hR⟩ : ∃ R, takeH L H k n p s = R := ⟨_, rfl⟩
  rw [hR]
  unfold takeH at hR
  have HR := Lib.hid hR.symm
  have HL := Lib.hid hL
  have HH := Lib.hid hH
  have Hd := Lib.hid hd
  have H0 := Lib.hid h
  have HH0 := Lib.hid hh
  have hlg := Lib.hid h.lt
  have hlh := Lib.hid hh.lt
  have Hkk := Lib.hid hk
  have Hp := Lib.hid hp
  obtain ⟨MH, hhi, hrh⟩ := hh
  have c0 := cell_of_row _ gh 0 _ _ (0, 0) hhi.cell
  simp only [List.getElem?_toArray, List.getElem?_cons_zero] at c0
  have hlk := run_lookup (P := Tryz.prog) hkKey Tryz.underlying99 hhi.map ⟨k, n⟩ (i64 0) (by kernel_rfl) true
  rw [getM_hv, hrh.get_] at hlk
  obtain ⟨o, ho⟩ : ∃ o, getK Held.key H ⟨k, n⟩ = o := ⟨_, rfl⟩
  rw [ho] at hlk
  have Ho := Lib.hid ho
  unfold Hk.v at hlk
  clear hR hL hH hd h hhi hrh ho hk hp
  cases o with
  | none =>
    have HR1 := Lib.hid (show R = (6, L, H) by rw [HR.out, Ho.out])
    clear HR
    go_enter Tryz.func49, Tryz.ntmps49
    go_wp2
    go_ret
    exact ⟨by rw [HR1.out]; rfl, by rw [HR1.out]; exact H0.out, by rw [HR1.out]; exact HH0.out, G2.of_below (Below.refl _ _) _ _⟩
  | some y =>
    have hy := HH.out y (getK_mem Ho.out).1
    have hR1 := HR.out
    rw [Ho.out] at hR1
    dsimp only at hR1
    have HR1 := Lib.hid hR1
    clear hR1
    obtain ⟨-, -, hy1, hy2, -⟩ := hy
    clear HR
    by_cases hbad : s < 1 ∨ y.sum < s
    · have HR2 := Lib.hid (show R = (13, L, H) by rw [HR1.out, if_pos hbad])
      clear HR1
      by_cases h1 : s < 1
      · have g1 : decide (s < 1) = true := decide_eq_true h1
        clear h1 hbad
        go_enter Tryz.func49, Tryz.ntmps49
        go_wp2
        go_ret
        exact ⟨by rw [HR2.out]; rfl, by rw [HR2.out]; exact H0.out, by rw [HR2.out]; exact HH0.out, G2.of_below (Below.refl _ _) _ _⟩
      · have g1 : decide (s < 1) = false := decide_eq_false h1
        have g2 : decide (y.sum < s) = true := decide_eq_true (hbad.resolve_left h1)
        clear h1 hbad
        go_enter Tryz.func49, Tryz.ntmps49
        go_wp2
        go_ret
        exact ⟨by rw [HR2.out]; rfl, by rw [HR2.out]; exact H0.out, by rw [HR2.out]; exact HH0.out, G2.of_below (Below.refl _ _) _ _⟩
    · have g1 : decide (s < 1) = false := decide_eq_false (fun e => hbad (.inl e))
      have g2 : decide (y.sum < s) = false := decide_eq_false (fun e => hbad (.inr e))
      have HR2 := Lib.hid (show R = _ by rw [HR1.out, if_neg hbad])
      have hw1 : wrap64 (-s) = -s := by rw [← IntWalk.i64_left, IntKind.wrap_i64]; omega
      have hw2 : wrap64 (-y.sum) = -y.sum := by rw [← IntWalk.i64_left, IntKind.wrap_i64]; omega
      have hns := R64_neg ⟨hy1, hy2⟩
      have hss : R64 (-s) ∧ R64 s := by unfold R64 at hs ⊢; omega
      clear HR1 hbad
      have hb1 := (Below.refl w.heap.size w).alloc (Nat.le_refl _) (.cells #[.string k, i64 (-s), .string p, i64 s] 137)
      have hl1 := (own_lit (w := w) (base := w.heap.size) 137 #[.string k, i64 (-s), .string p, i64 s] (legs2 k p s) (Nat.le_refl _) rfl (by simp [legs2]) (fun x hx => by
        simp only [legs2, List.mem_cons, List.not_mem_nil, or_false] at hx
        rcases hx with rfl | rfl
        · exact Hkk.out
        · exact Hp.out))
      have hls : SlS (w.alloc (.cells #[.string k, i64 (-s), .string p, i64 s] 137)) (fun j => j = w.heap.size) (some ⟨w.heap.size, 0, none⟩) 2 (legs2 k p s) := by
        have h2 := hl1.sl_of
        refine ⟨h2.1, h2.2.1, fun hn => ?_, h2.2.2.2⟩
        obtain ⟨b, o, e, -, hc⟩ := h2.2.2.1 hn
        injection e with e
        injection e with e1 e2
        subst e1 e2
        exact ⟨w.heap.size, 0, rfl, rfl, hc⟩
      have hr64 : ∀ x ∈ legs2 k p s, R64 x.sum := fun x hx => by
        simp only [legs2, List.mem_cons, List.not_mem_nil, or_false] at hx
        rcases hx with rfl | rfl
        · exact hss.1
        · exact hss.2
      have Hr := Lib.hid hr64
      have hC := Lib.hid (chcopyA_c g b L _ (H0.out.later hb1))
      have hlen : (legs2 k p s).length = 2 := rfl
      have Hls := Lib.hid hls
      generalize hlg2 : legs2 k p s = ls at *
      clear hl1 hls hr64 hlg2
      have hlen2 := Lib.hid hlen
      clear hlen
      go_enter Tryz.func49, Tryz.ntmps49
      go_wp2_with fail
      have hwsz : w.heap.size + 1 = (w.alloc (.cells #[.string k, i64 (-s), .string p, i64 s] 137)).heap.size := by simp
      generalize w.alloc (.cells #[.string k, i64 (-s), .string p, i64 s] 137) = w0 at *
      refine hC.out.mono ?_
      rintro e w1 ⟨g', b', rfl, hc1, hg', hb', hF⟩
      have Hls1 := Lib.hid (show SlS w1 (fun j => j = w.heap.size) (some ⟨w.heap.size, 0, none⟩) 2 ls from Hls.out.keep (fun p hp => hF.cell (by have : p.block = w.heap.size := hp; omega)) (fun _ h => h))
      have hb2 := below_on hb1 (Nat.le_refl _) hF
      have hA := Lib.hid (asideA_c g' b' L k (-y.sum) w1 hc1 HL.out hns)
      have hOk2 := Lib.hid (turnL_ok (asiD_ok (-y.sum)) HL.out k (-y.sum))
      have hsz1 := hF.size
      have hlc1 := Lib.hid hc1.lt
      obtain ⟨q, hq⟩ : ∃ q, turnL (asiD (-y.sum)) L k (-y.sum) = q := ⟨_, rfl⟩
      rw [hq] at hA hOk2 HR2
      clear hC hF Hls hb1 hlk c0 hc1 hq
      go_wp2_with fail
      refine hA.out.mono ?_
      rintro e w2 ⟨rfl, hc2, hg2⟩
      have Hls2 := Lib.hid (show SlS w2 (fun j => j = w.heap.size) (some ⟨w.heap.size, 0, none⟩) 2 ls from Hls1.out.keep (fun p hp => World.cell?_of_block (hg2.block _ (by have : p.block = w.heap.size := hp; omega) (fun e => by have : p.block = w.heap.size := hp; injection e with e; omega))) (fun _ h => h))
      have hb3 := hb2.trans (below_of_grown hg2 hb2.size (fun j e => by injection e with e; omega))
      have hs2 := hg2.size
      clear hA hg2 Hls1 hb2
      by_cases hq0 : q.1 = 0
      · have g3 : (q.1 != 0) = false := by rw [hq0]; rfl
        have HR3 := Lib.hid (show R = _ by rw [HR2.out, if_neg (by simpa using hq0)])
        have hK := Lib.hid (check_c g' b' q.2 _ _ ls w2 hc2 hOk2.out (Hls2.out.mono (fun j hj => by omega)) (by rw [hlen2.out]; decide) Hr.out)
        rw [hlen2.out] at hK
        obtain ⟨r, hr⟩ : ∃ r, checkL q.2 ls = r := ⟨_, rfl⟩
        rw [hr] at hK HR3
        clear hq0 HR2 hr
        go_wp2_with fail
        refine hK.out.mono ?_
        rintro e w3 ⟨rfl, hF⟩
        have hb4 := below_on hb3 (Nat.le_refl _) hF
        have Hls3 := Lib.hid (show SlS w3 (fun j => j = w.heap.size) (some ⟨w.heap.size, 0, none⟩) 2 ls from Hls2.out.keep (fun p hp => hF.cell (by have : p.block = w.heap.size := hp; omega)) (fun _ h => h))
        have hs3 := hF.size
        have HC := Lib.hid (H0.out.later hb4)
        have HM := Lib.hid (HH0.out.later hb4)
        clear hF Hls2 hK hc2
        by_cases hr0 : r = 0
        · have g4 : (r != 0) = false := by rw [hr0]; rfl
          have HR4 := Lib.hid (show R = _ by rw [HR3.out, if_neg (by simpa using hr0)])
          have hFr := Lib.hid (hofreeA_c g b gh bh L H k n w3 HC.out HM.out Hd.out HL.out HH.out)
          have hOk3 := Lib.hid (freeHL_ok HL.out H k n)
          obtain ⟨f, hf⟩ : ∃ f, freeHL L H k n = f := ⟨_, rfl⟩
          rw [hf] at hFr hOk3 HR4
          clear hr0 HR3 hf
          go_wp2_with fail
          refine hFr.out.mono ?_
          rintro e w4 ⟨rfl, hc4, hh4, hg4⟩
          have hlb := hlg.out.2.1
          have hlbh := hlh.out.2.1
          have Hls4 := Lib.hid (show SlS w4 (fun j => j = w.heap.size) (some ⟨w.heap.size, 0, none⟩) 2 ls from Hls3.out.keep (fun p hp => World.cell?_of_block (hg4.block _ (by have : p.block = w.heap.size := hp; omega) (fun e => by have : p.block = w.heap.size := hp; omega) (fun e => by have : p.block = w.heap.size := hp; omega))) (fun _ h => h))
          have hs4 := hg4.size
          have hMk := Lib.hid (make_c g b f.2.1 _ _ ls w4 hc4 hOk3.out (Hls4.out.mono (fun j hj => ⟨by omega, by omega⟩)) (by rw [hlen2.out]; decide) Hr.out)
          rw [hlen2.out] at hMk
          obtain ⟨m, hm⟩ : ∃ m, makeL f.2.1 ls = m := ⟨_, rfl⟩
          rw [hm] at hMk HR4
          clear hm hFr Hls3
          go_wp2_with fail
          refine hMk.out.mono ?_
          rintro e w5 ⟨rfl, hc5, hg5⟩
          have hh5 := hh4.kept (Gr.of_grown hg5) (fun e => by injection e with e; exact Hd.out.1 e.symm) (fun e => by injection e with e; exact Hd.out.2.1 e.symm)
          have hgz := ((G2.of_below hb4 b bh).trans hg4).trans (G2.fst hg5 bh)
          clear hMk hc4 hh4 hg4 hg5
          go_wp2
          go_ret
          exact ⟨by rw [HR4.out]; rfl, by rw [HR4.out]; exact hc5, by rw [HR4.out]; exact hh5, hgz⟩
        · have g4 : (r != 0) = true := by simpa using hr0
          have HR4 := Lib.hid (show R = (r, L, H) by rw [HR3.out, if_pos hr0])
          clear hr0 HR3
          go_wp2
          go_ret
          exact ⟨by rw [HR4.out]; rfl, by rw [HR4.out]; exact HC.out, by rw [HR4.out]; exact HM.out, G2.of_below hb4 _ _⟩
      · have g3 : (q.1 != 0) = true := by simpa using hq0
        have HR3 := Lib.hid (show R = (q.1, L, H) by rw [HR2.out, if_pos hq0])
        clear hq0 HR2
        go_wp2
        go_ret
        exact ⟨by rw [HR3.out]; rfl, by rw [HR3.out]; exact H0.out.later hb3, by rw [HR3.out]; exact HH0.out.later hb3, G2.of_below hb3 _ _⟩
end Go.Proofs.YtmljlkjomjflpaaGreat

/- law08.lives -/
namespace Go.Proofs.YtmljlkjomjflpaaGreat
open Go.RowKit
def LP : List Ac := [⟨sA, 30, 20, 0⟩, ⟨sB, 10, 0, 5⟩, ⟨sC, 0, 0, 10⟩]
def LT : List Ac := [⟨sA, 26, 0, 0⟩, ⟨sB, 10, 0, 5⟩, ⟨sC, 4, 0, 10⟩]
theorem ok_LP : OkA LP := ok_of fun x hx => by
  simp only [LP, List.mem_cons, List.not_mem_nil, or_false] at hx
  rcases hx with rfl | rfl | rfl
  · exact ⟨⟨by decide, by decide⟩, ⟨by decide, by decide⟩, ⟨by decide, by decide⟩, nameA⟩
  · exact ⟨⟨by decide, by decide⟩, ⟨by decide, by decide⟩, ⟨by decide, by decide⟩, nameBb⟩
  · exact ⟨⟨by decide, by decide⟩, ⟨by decide, by decide⟩, ⟨by decide, by decide⟩, nameC⟩
theorem pu1 : putH L0 [] ⟨1, sA, 20⟩ = (0, LP, [⟨1, sA, 20⟩]) := by rfl
theorem pu2 : putH LP [⟨1, sA, 20⟩] ⟨2, sA, 11⟩ = (9, LP, [⟨1, sA, 20⟩]) := by rfl
theorem lgB : legsB (legs2 sA sC 4) = true := by
  unfold legsB legs2
  simp only [List.all_cons, List.all_nil, legB, nameA, nameC]
  rfl
theorem mk1 : makeL [⟨sA, 30, 0, 0⟩, ⟨sB, 10, 0, 5⟩, ⟨sC, 0, 0, 10⟩] (legs2 sA sC 4) = (0, LT) := by
  unfold makeL
  have h : checkL [⟨sA, 30, 0, 0⟩, ⟨sB, 10, 0, 5⟩, ⟨sC, 0, 0, 10⟩] (legs2 sA sC 4) = 0 := by
    unfold checkL
    rw [if_neg (by rw [lgB]; decide)]
    rfl
  rw [if_neg (by rw [h]; decide)]
  rfl
theorem ta1 : takeH LP [⟨1, sA, 20⟩] sA 1 sC 4 = (0, LT, []) := by
  unfold takeH
  have h0 : getK Held.key [⟨1, sA, 20⟩] ⟨sA, 1⟩ = some ⟨1, sA, 20⟩ := by rfl
  rw [h0]
  dsimp only
  have h1 : turnL (asiD (-20)) LP sA (-20) = (0, [⟨sA, 30, 0, 0⟩, ⟨sB, 10, 0, 5⟩, ⟨sC, 0, 0, 10⟩]) := by rfl
  have h2 : freeHL LP [⟨1, sA, 20⟩] sA 1 = (0, [⟨sA, 30, 0, 0⟩, ⟨sB, 10, 0, 5⟩, ⟨sC, 0, 0, 10⟩], []) := by rfl
  have h3 : checkL [⟨sA, 30, 0, 0⟩, ⟨sB, 10, 0, 5⟩, ⟨sC, 0, 0, 10⟩] (legs2 sA sC 4) = 0 := by
    unfold checkL
    rw [if_neg (by rw [lgB]; decide)]
    rfl
  rw [if_neg (by decide), h1, if_neg (by decide), h3, if_neg (by decide), h2, mk1]
theorem eq_ac (a b : Ac) (w : World) : (binOp .eql 70 (.agg #[.string a.name, i64 a.hav, i64 a.set_, i64 a.lim]) (.agg #[.string b.name, i64 b.hav, i64 b.set_, i64 b.lim])).run Tryz.prog w = .ok (.bool (decide (a = b))) w := by
  have u3 := Tryz.underlying2
  have a3 := Tryz.isAgg2
  have z3 := Tryz.sizeOf2
  have u9 := Tryz.underlying9
  have a9 := Tryz.isAgg9
  have z9 := Tryz.sizeOf9
  have hS : Tryz.prog.underlying 70 = some (.struct (Tryz.prog.fieldsOf 70)) := by kernel_rfl
  have hp : Tryz.prog.stoodInHeld 70 = false := by kernel_rfl
  rw [run_eql_struct, show (10000 : Nat) = 9999 + 1 from rfl, run_equalIn_agg w 9999 70 _ _ hS hp]
  simp only [Program.fieldsOf, Tryz.underlying70]
  go_simp
  by_cases h1 : a.name = b.name
  · have t1 := beqS_of_eq h1
    by_cases h2 : a.hav = b.hav
    · by_cases h3 : a.set_ = b.set_
      · by_cases h4 : a.lim = b.lim
        · rw [decide_eq_true (Ac.ext_ h1 h2 h3 h4)]; simp [h1, h2, h3, h4]
        · rw [decide_eq_false (fun e => h4 (by rw [e]))]; simp [h1, h2, h3, h4]
      · rw [decide_eq_false (fun e => h3 (by rw [e]))]; simp [h1, h2, h3]
    · rw [decide_eq_false (fun e => h2 (by rw [e]))]; simp [h1, h2]
  · have t1 := beqS_of_ne h1
    have t2 : ¬ a.name.toList = b.name.toList := by simpa using t1
    rw [decide_eq_false (fun e => h1 (by rw [e]))]; simp [t2]
theorem okH_one {x : Held} (h : 1 ≤ x.num ∧ x.num ≤ 9999 ∧ 1 ≤ x.sum ∧ x.sum ≤ 9223372036854775807 ∧ x.acct.size ≤ maxLen) : OkH [x] := fun y hy => by
  simp only [List.mem_singleton] at hy
  subst hy
  exact h
theorem okH_nil : OkH [] := fun y hy => by simp at hy
set_option maxRecDepth 100000 in
set_option maxHeartbeats 8000000 in
theorem lives8_c (w : World) : Calls Tryz.prog 12 #[] w fun e w' => e = .returned (.bool true) ∧ Below w.heap.size w w' := by
  have hb := Lib.hid (begin_c w)
  go_enter Tryz.func12, Tryz.ntmps12
  go_wp2_with fail
  refine hb.out.mono ?_
  rintro e w1 ⟨g, b, r, rfl, hB⟩
  have hH := Lib.hid (honewA_c w1)
  have HB := Lib.hid hB
  have hltc := hB.ch.lt
  have hb1 := hB.be
  have hge := hB.ge
  clear hb hB
  go_wp2_with fail
  refine hH.out.mono ?_
  rintro e w2 ⟨rfl, hh, hF⟩
  have hb2 := below_on hb1 (Nat.le_refl _) hF
  have hc2 := HB.out.ch.later hF
  have hsz := hb1.size
  have hd : (w1.heap.size + 1 ≠ b ∧ w1.heap.size ≠ b ∧ g ≠ w1.heap.size) := by omega
  have Hd := Lib.hid hd
  have hP := Lib.hid (hoput_c g b (w1.heap.size + 1) w1.heap.size L0 [] ⟨1, sA, 20⟩ w2 hc2 hh hd ok_L0 okH_nil (r64_small ⟨by decide, by decide⟩) (by decide))
  rw [pu1] at hP
  clear hH HB hh hF hc2 hd hb1
  go_wp2_with fail
  refine hP.out.mono ?_
  rintro e w3 ⟨rfl, hc3, hh3, hg3⟩
  have hb3 := hb2.trans ((Gr.of_g2 hg3).below hb2.size (fun k hk => by rcases hk with rfl | rfl <;> omega))
  have hP := Lib.hid (hoput_c g b (w1.heap.size + 1) w1.heap.size LP [⟨1, sA, 20⟩] ⟨2, sA, 11⟩ w3 hc3 hh3 Hd.out ok_LP (okH_one ⟨by decide, by decide, by decide, by decide, sz_s _⟩) (r64_small ⟨by decide, by decide⟩) (by decide))
  rw [pu2] at hP
  clear hc3 hh3 hg3 hb2
  go_wp2_with fail
  refine hP.out.mono ?_
  rintro e w4 ⟨rfl, hc4, hh4, hg4⟩
  have hb4 := hb3.trans ((Gr.of_g2 hg4).below hb3.size (fun k hk => by rcases hk with rfl | rfl <;> omega))
  have hT := Lib.hid (hotake_c g b (w1.heap.size + 1) w1.heap.size LP [⟨1, sA, 20⟩] sA 1 sC 4 w4 hc4 hh4 Hd.out ok_LP (okH_one ⟨by decide, by decide, by decide, by decide, sz_s _⟩) (r64_small ⟨by decide, by decide⟩) (sz_s _) (sz_s _))
  rw [ta1] at hT
  clear hP hc4 hh4 hg4 hb3
  go_wp2_with fail
  refine hT.out.mono ?_
  rintro e w5 ⟨rfl, hc5, hh5, hg5⟩
  have hb5 := hb4.trans ((Gr.of_g2 hg5).below hb4.size (fun k hk => by rcases hk with rfl | rfl <;> omega))
  have hG := Lib.hid (getA_c g b LT sA w5 hc5)
  rw [show getLR LT sA = (⟨sA, 26, 0, 0⟩, 0) by rfl] at hG
  clear hT hc5 hg5 hb4
  go_wp2_with fail
  refine hG.out.mono ?_
  rintro e w6 ⟨rfl, hF⟩
  have hb6 := below_on hb5 (Nat.le_refl _) hF
  have hh6 := hh5.later hF
  have hb7 := hb6.alloc hb6.size (.cells #[.string sA, i64 26, i64 0, i64 0] 70)
  have hA := Lib.hid (hoall_c (w1.heap.size + 1) w1.heap.size [] _ (hh6.later ((Below.refl _ _).alloc (Nat.le_refl _) (.cells #[.string sA, i64 26, i64 0, i64 0] 70))) okH_nil (by decide))
  have heq : ∀ W : World, (binOp .eql 70 (.agg #[.string sA, i64 26, i64 0, i64 0]) (.agg #[.string sA, i64 26, i64 0, i64 0])).run Tryz.prog W = .ok (.bool true) W := fun W => eq_ac ⟨sA, 26, 0, 0⟩ ⟨sA, 26, 0, 0⟩ W
  clear hG hF hh5 hh6 hb5 hb6 hltc hge
  go_wp2_with fail
  refine hA.out.mono ?_
  rintro e w7 ⟨v, rfl, hO, hF⟩
  obtain ⟨A, c, rfl, -⟩ := hO.sl
  have hb8 := below_on hb7 (Nat.le_refl _) hF
  clear hO hF hA hb7
  go_wp2
  go_ret
  exact ⟨rfl, hb8⟩
end Go.Proofs.YtmljlkjomjflpaaGreat
