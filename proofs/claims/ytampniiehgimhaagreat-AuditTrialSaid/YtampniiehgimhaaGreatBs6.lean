/- Texts of this claim, laid together. -/
import Derived.Test.YtampniiehgimhaaGreatRows
import Derived.Test.YtampniiehgimhaaGreatBs5
import Derived.Test.YtampniiehgimhaaGreatBs3
import Derived.Test.YtampniiehgimhaaGreatBs4
import Derived.WalkKit
import Derived.WalkSpells
import Derived.WalkLawsBesides
import Derived.Deep.QuietTactic
import Derived.BigQuiet
import Derived.Laws.StructEq
import Derived.Deep.DeepFit
import Derived.StillTailTactics
import Derived.Test.YtampniiehgimhaaGreatBs1

/- voucher: post, all, Check, Make -/
namespace Go.Proofs.YtampniiehgimhaaGreat
open Go.RowKit
def postL (L : List Ac) (x : Leg) : Int × List Ac := if (getLR L x.acct).2 ≠ 0 then ((getLR L x.acct).2, L) else if (sumR (0 - x.sum)).2 ≠ 0 then ((sumR (0 - x.sum)).2, L) else turnL (givD (sumR (0 - x.sum)).1) L x.acct (sumR (0 - x.sum)).1
def allL : List Ac → List Leg → Int × List Ac
 | L, [] => (0, L)
 | L, x :: r => if (postL L x).1 ≠ 0 then postL L x else allL (postL L x).2 r
/-- voucher.Check, Make -/
def checkL (L : List Ac) (l : List Leg) : Int := if legsB l = false then 1 else if weighB l = false then 8 else (allL L l).1
def makeL (L : List Ac) (l : List Leg) : Int × List Ac := if checkL L l ≠ 0 then (checkL L l, L) else allL L l
theorem postL_ok {L : List Ac} (h : OkA L) (x : Leg) : OkA (postL L x).2 := by
 unfold postL
 split
 ·exact h
 ·split
  ·exact h
  ·exact turnL_ok (givD_ok _) h _ _
theorem allL_ok : ∀ (l : List Leg) {L : List Ac}, OkA L → OkA (allL L l).2
 | [], _, h => h
 | x :: r, L, h => by
  unfold allL
  split
  ·exact postL_ok h x
  ·exact allL_ok r (postL_ok h x)
theorem makeL_ok {L : List Ac} (h : OkA L) (l : List Leg) : OkA (makeL L l).2 := by
 unfold makeL
 split
 ·exact h
 ·exact allL_ok l h
set_option maxRecDepth 100000 in
set_option maxHeartbeats 4000000 in
theorem post_c (g b : Nat) (L : List Ac) (x : Leg) (w : World) (h : ChA w g b L) (hL : OkA L) (hx : R64 x.sum) :
  Calls Tryz.prog 215 #[.pointer (some ⟨g, 0, none⟩), .agg #[.string x.acct, i64 x.sum]] w fun e w' => e = .returned (i64 (postL L x).1) ∧ ChA w' g b (postL L x).2 ∧ w.grownBy w' (some b) := by
 have HL := Lib.hid hL
 obtain ⟨R, hR⟩ : ∃ R, postL L x = R := ⟨_, rfl⟩
 rw [hR]
 unfold postL at hR
 have hb0 := (Below.refl w.heap.size w).alloc (Nat.le_refl _) (.cells #[.string x.acct, i64 x.sum] 167)
 have h0 := h.later hb0
 have hG := Lib.hid (getA_c g b L x.acct _ h0)
 have hk := heap_alloc_new w (.cells #[.string x.acct, i64 x.sum] 167)
 have hlt := h.lt
 have H0 := Lib.hid h0
 obtain ⟨q, hq⟩ : ∃ q, getLR L x.acct = q := ⟨_, rfl⟩
 rw [hq] at hR hG
 have HR := Lib.hid hR.symm
 have L1 := Lib.hid fun W => less_c 0 x.sum W R64_0 hx
 have Hs64 := Lib.hid (sumR_R64 (0 - x.sum))
 obtain ⟨r, hr⟩ : ∃ r, sumR (0 - x.sum) = r := ⟨_, rfl⟩
 rw [hr] at L1 HR Hs64
 clear hR hL h h0 hx hq hr
 go_enter Tryz.func215, Tryz.ntmps215
 go_wp2_with fail
 generalize w.alloc (.cells #[.string x.acct, i64 x.sum] 167) = w0 at *
 refine hG.out.mono ?_
 rintro e w1 ⟨rfl, hF⟩
 have hb1 := below_on hb0 (Nat.le_refl _) hF
 have h1 := H0.out.later hF
 have hk1 := (hF.block _ (Array.getElem?_eq_some_iff.1 hk).1).trans hk
 clear hF hG H0 hb0 hk
 have hb2 := hb1.alloc hb1.size (.cells #[.string q.1.name, i64 q.1.hav, i64 q.1.set_, i64 q.1.lim] 140)
 have h2 := h1.later ((Below.refl _ _).alloc (Nat.le_refl _) (.cells #[.string q.1.name, i64 q.1.hav, i64 q.1.set_, i64 q.1.lim] 140))
 have hk2 := (((Below.refl _ _).alloc (Nat.le_refl _) (.cells #[.string q.1.name, i64 q.1.hav, i64 q.1.set_, i64 q.1.lim] 140)).block _ (Array.getElem?_eq_some_iff.1 hk1).1).trans hk1
 have m0 := cell_of_row _ w.heap.size 0 _ _ (0, 0) hk2
 have m1 := cell_of_row _ w.heap.size 1 _ _ (0, 0) hk2
 simp only [List.getElem?_toArray, List.getElem?_cons_zero, List.getElem?_cons_succ] at m0 m1
 have H2 := Lib.hid h2
 have Hk2 := Lib.hid hk2
 clear h1 hk1 hb1 h2 hk2
 by_cases hq0 : q.2 = 0
 ·have g1 : (q.2 != 0) = false := by rw [hq0]; rfl
  have HR1 := Lib.hid (show R = (if r.2 ≠ 0 then (r.2, L) else turnL (givD r.1) L x.acct r.1) by rw [HR.out, if_neg (by simpa using hq0)])
  clear hq0 HR
  go_wp2_with fail
  generalize w1.alloc (.cells #[.string q.1.name, i64 q.1.hav, i64 q.1.set_, i64 q.1.lim] 140) = w2 at *
  refine (L1.out _).mono ?_
  rintro e w3 ⟨rfl, hF⟩
  have hlw := (Array.getElem?_eq_some_iff.1 Hk2.out).1
  have hb3 := below_on hb2 (Nat.le_refl _) hF
  have h3 := H2.out.later hF
  have m0 := (hF.cell (p := ⟨w.heap.size, 0, none⟩) hlw).trans m0
  clear hF L1 hb2 H2 m1
  by_cases hr0 : r.2 = 0
  ·have g2 : (r.2 != 0) = false := by rw [hr0]; rfl
   have HR2 := Lib.hid (show R = turnL (givD r.1) L x.acct r.1 by rw [HR1.out, if_neg (by simpa using hr0)])
   have hT := Lib.hid (giveA_c g b L x.acct r.1 w3 h3 HL.out Hs64.out)
   clear hr0 HR1 h3
   go_wp2_with fail
   refine hT.out.mono ?_
   rintro e w4 ⟨rfl, h4, hG4⟩
   go_wp2
   go_ret
   exact ⟨by rw [HR2.out]; rfl, by rw [HR2.out]; exact h4, grown_trans (grown_of_below hb3 _) hG4⟩
  ·have g2 : (r.2 != 0) = true := by simpa using hr0
   have HR2 := Lib.hid (show R = (r.2, L) by rw [HR1.out, if_pos hr0])
   clear hr0 HR1
   go_wp2
   go_ret
   exact ⟨by rw [HR2.out]; rfl, by rw [HR2.out]; exact h3, grown_of_below hb3 _⟩
 ·have g1 : (q.2 != 0) = true := by simpa using hq0
  have HR1 := Lib.hid (show R = (q.2, L) by rw [HR.out, if_pos hq0])
  clear hq0 HR
  go_wp2
  go_ret
  exact ⟨by rw [HR1.out]; rfl, by rw [HR1.out]; exact H2.out, grown_of_below hb2 _⟩
theorem allL_step {L : List Ac} {l : List Leg} {k : Nat} (h : k < l.length) : allL L (l.drop k) = if (postL L l[k]).1 ≠ 0 then postL L l[k] else allL (postL L l[k]).2 (l.drop (k + 1)) := by
 rw [List.drop_eq_getElem_cons h]
 rfl
set_option maxRecDepth 100000 in
set_option maxHeartbeats 4000000 in
theorem all_c (g b : Nat) (L : List Ac) (A : Option Addr) (c : Nat) (l : List Leg) (w : World) (h : ChA w g b L) (hL : OkA L) (hl : SlS w (fun k => k < w.heap.size ∧ k ≠ b) A c l) (hn : l.length ≤ 65536) (hr : ∀ x ∈ l, R64 x.sum) :
  Calls Tryz.prog 189 #[.pointer (some ⟨g, 0, none⟩), .slice A l.length c] w fun e w' => e = .returned (i64 (allL L l).1) ∧ ChA w' g b (allL L l).2 ∧ w.grownBy w' (some b) := by
 obtain ⟨R, hR⟩ : ∃ R, allL L l = R := ⟨_, rfl⟩
 rw [hR]
 have HR := Lib.hid hR
 have HL := Lib.hid hL
 have Hr := Lib.hid hr
 have Hl := Lib.hid hl
 have H := Lib.hid h
 clear hR hL hr hl h
 go_enter Tryz.func189, Tryz.ntmps189
 go_wp2_with fail
 go_loopw [10] (fun i wr => ∃ (k : Nat) (Lk : List Ac), i = i64 k ∧ k ≤ l.length ∧ ChA wr g b Lk ∧ OkA Lk ∧ R = allL Lk (l.drop k) ∧ w.grownBy wr (some b)) (fun i _ => l.length - (intOf i).toNat)
 case atStart => exact ⟨0, L, rfl, by omega, H.out, HL.out, HR.out.symm, World.grownBy.refl _ _⟩
 case round =>
  obtain ⟨k, Lk, rfl, hk, hc, hok, hR, hg⟩ := hrel
  have hs := Lib.hid (Hl.out.grs (Gr.of_grown hg) (fun b' hb => ⟨hb.1, fun e => hb.2 (by injection e with e; exact e.symm)⟩))
  by_cases hlt : k < l.length
  ·obtain ⟨bb, o, rfl, hbb, hsz, c0, c1⟩ := hs.out.leg hlt
   rw [allL_step hlt] at hR
   have HRk := Lib.hid hR
   have hB1 := (Below.refl wr.heap.size wr).alloc (Nat.le_refl _) (.cells #[.string l[k].acct, i64 l[k].sum] 167)
   have hP := Lib.hid (post_c g b Lk l[k] _ (hc.later hB1) hok (Hr.out _ (List.getElem_mem hlt)))
   have HP := Lib.hid (postL_ok hok l[k])
   have hg1 := grown_trans hg (grown_of_below hB1 (some b))
   generalize postL Lk l[k] = p at *
   clear hc hok hR hg hB1 hsz
   go_wp2_with fail
   refine hP.out.mono ?_
   rintro e w2 ⟨rfl, hc2, hg2⟩
   have hg3 := grown_trans hg1 hg2
   clear hP hg1 hg2 c0 c1
   by_cases hp : p.1 = 0
   ·have g1 : (p.1 != 0) = false := by rw [hp]; rfl
    have HRn := Lib.hid (show R = allL p.2 (l.drop (k + 1)) by rw [HRk.out, if_neg (by simpa using hp)])
    clear hp HRk
    go_wp2
    go_roundw
    case rel => exact ⟨k + 1, p.2, by go_num, by omega, hc2, HP.out, HRn.out, hg3⟩
    case measure => simp [intOf]; omega
   ·have g1 : (p.1 != 0) = true := by simpa using hp
    have HRn := Lib.hid (show R = p by rw [HRk.out, if_pos hp])
    clear hp HRk
    go_wp2
    go_ret
    exact ⟨by rw [HRn.out]; rfl, by rw [HRn.out]; exact hc2, hg3⟩
  ·obtain rfl : k = l.length := by omega
   rw [List.drop_length] at hR
   have HRn := Lib.hid (show R = (0, Lk) from hR)
   clear hR
   go_wp2
   go_ret
   exact ⟨by rw [HRn.out]; rfl, by rw [HRn.out]; exact hc, hg⟩
theorem chcopyA_c (g b : Nat) (L : List Ac) (w : World) (h : ChA w g b L) :
  Calls Tryz.prog 100 #[.pointer (some ⟨g, 0, none⟩)] w fun e w' => ∃ g' b', e = .returned (.pointer (some ⟨g', 0, none⟩)) ∧ ChA w' g' b' L ∧ w.heap.size ≤ g' ∧ w.heap.size ≤ b' ∧ Below w.heap.size w w' := by
 obtain ⟨M, h, hr⟩ := h
 exact (chcopy_c g b M w h).mono fun _ _ ⟨g', b', h1, h2, h3⟩ => ⟨g', b', h1, ⟨M, h2, hr⟩, h3⟩
set_option maxRecDepth 100000 in
set_option maxHeartbeats 4000000 in
theorem check_c (g b : Nat) (L : List Ac) (A : Option Addr) (c : Nat) (l : List Leg) (w : World) (h : ChA w g b L) (hL : OkA L) (hl : Sl w w.heap.size A c l) (hn : l.length ≤ 65536) (hr : ∀ x ∈ l, R64 x.sum) :
  Calls Tryz.prog 188 #[.pointer (some ⟨g, 0, none⟩), .slice A l.length c] w fun e w' => e = .returned (i64 (checkL L l)) ∧ Below w.heap.size w w' := by
 obtain ⟨R, hR⟩ : ∃ R, checkL L l = R := ⟨_, rfl⟩
 rw [hR]
 unfold checkL at hR
 have HR := Lib.hid hR.symm
 have hk1 := Lib.hid (vright_c A c l w hl hn)
 have hk2 := Lib.hid fun W (hb : Below w.heap.size w W) => weigh_c A c l W (hl.later hb) hn hr
 have H := Lib.hid h
 have Hl := Lib.hid hl
 have HL := Lib.hid hL
 have Hr := Lib.hid hr
 clear hR hL hr hl h
 go_enter Tryz.func188, Tryz.ntmps188
 go_wp2_with fail
 refine hk1.out.mono ?_
 rintro e w1 ⟨rfl, hb1⟩
 clear hk1
 cases hlb : legsB l with
 | false =>
  have HR1 := Lib.hid (show R = 1 by rw [HR.out, if_pos hlb])
  clear hlb
  go_wp2
  go_ret
  exact ⟨by rw [HR1.out]; rfl, hb1⟩
 | true =>
  have HR1 := Lib.hid (show R = (if weighB l = false then 8 else (allL L l).1) by rw [HR.out, if_neg (by rw [hlb]; decide)])
  clear hlb HR
  go_wp2_with fail
  refine (hk2.out _ hb1).mono ?_
  rintro e w2 ⟨rfl, hF⟩
  have hb2 := below_on hb1 (Nat.le_refl _) hF
  clear hF hk2 hb1
  cases hwb : weighB l with
  | false =>
   have HR2 := Lib.hid (show R = 8 by rw [HR1.out, if_pos hwb])
   clear hwb
   go_wp2
   go_ret
   exact ⟨by rw [HR2.out]; rfl, hb2⟩
  | true =>
   have HR2 := Lib.hid (show R = (allL L l).1 by rw [HR1.out, if_neg (by rw [hwb]; decide)])
   have hC := Lib.hid (chcopyA_c g b L w2 (H.out.later hb2))
   clear hwb HR1
   go_wp2_with fail
   refine hC.out.mono ?_
   rintro e w3 ⟨g', b', rfl, hc3, hg', hb', hF⟩
   have hb3 := below_on hb2 (Nat.le_refl _) hF
   have hA := Lib.hid (all_c g' b' L A c l w3 hc3 HL.out ((Hl.out.later hb2).keep (fun p hp => hF.cell hp) (fun k hk => ⟨Nat.lt_of_lt_of_le hk hF.size, by omega⟩)) hn Hr.out)
   have hlb' := hc3.lt
   have hsz := hb2.size
   generalize allL L l = p at *
   clear hF hC
   go_wp2_with fail
   refine hA.out.mono ?_
   rintro e w4 ⟨rfl, hc4, hg4⟩
   go_wp2
   go_ret
   exact ⟨by rw [HR2.out]; rfl, hb3.trans (below_of_grown hg4 hb3.size (fun k e => by injection e with e; omega))⟩
set_option maxRecDepth 100000 in
set_option maxHeartbeats 4000000 in
theorem make_c (g b : Nat) (L : List Ac) (A : Option Addr) (c : Nat) (l : List Leg) (w : World) (h : ChA w g b L) (hL : OkA L) (hl : SlS w (fun k => k < w.heap.size ∧ k ≠ b) A c l) (hn : l.length ≤ 65536) (hr : ∀ x ∈ l, R64 x.sum) :
  Calls Tryz.prog 164 #[.pointer (some ⟨g, 0, none⟩), .slice A l.length c] w fun e w' => e = .returned (i64 (makeL L l).1) ∧ ChA w' g b (makeL L l).2 ∧ w.grownBy w' (some b) := by
 obtain ⟨R, hR⟩ : ∃ R, makeL L l = R := ⟨_, rfl⟩
 rw [hR]
 unfold makeL at hR
 have HR := Lib.hid hR.symm
 have hk1 := Lib.hid (check_c g b L A c l w h hL (hl.mono fun _ h => h.1) hn hr)
 have H := Lib.hid h
 have Hl := Lib.hid hl
 have HL := Lib.hid hL
 have Hr := Lib.hid hr
 clear hR hL hr hl h
 generalize checkL L l = q at *
 go_enter Tryz.func164, Tryz.ntmps164
 go_wp2_with fail
 refine hk1.out.mono ?_
 rintro e w1 ⟨rfl, hb1⟩
 clear hk1
 by_cases hq : q = 0
 ·have g1 : (q != 0) = false := by rw [hq]; rfl
  have HR1 := Lib.hid (show R = allL L l by rw [HR.out, if_neg (by simpa using hq)])
  have hA := Lib.hid (all_c g b L A c l w1 (H.out.later hb1) HL.out (Hl.out.keep (fun p hp => hb1.cell hp.1) (fun k hk => ⟨Nat.lt_of_lt_of_le hk.1 hb1.size, hk.2⟩)) hn Hr.out)
  generalize allL L l = p at *
  clear hq HR
  go_wp2_with fail
  refine hA.out.mono ?_
  rintro e w4 ⟨rfl, hc4, hg4⟩
  go_wp2
  go_ret
  exact ⟨by rw [HR1.out]; rfl, by rw [HR1.out]; exact hc4, grown_trans (grown_of_below hb1 _) hg4⟩
 ·have g1 : (q != 0) = true := by simpa using hq
  have HR1 := Lib.hid (show R = (q, L) by rw [HR.out, if_pos hq])
  clear hq HR
  go_wp2
  go_ret
  exact ⟨by rw [HR1.out]; rfl, by rw [HR1.out]; exact H.out.later hb1, grown_of_below hb1 _⟩
end Go.Proofs.YtampniiehgimhaaGreat
/- hold: Take -/
namespace Go.Proofs.YtampniiehgimhaaGreat
open Go.RowKit
def legs2 (a p : ByteArray) (s : Int) : List Leg := [⟨a, -s⟩, ⟨p, s⟩]
def takeH (L : List Ac) (H : List Held) (k : ByteArray) (n : Int) (p : ByteArray) (s : Int) : Int × List Ac × List Held := match getK Held.key H ⟨k, n⟩ with
 | none => (6, L, H)
 | some y => if s < 1 ∨ y.sum < s then (13, L, H) else if (turnL (asiD (-y.sum)) L k (-y.sum)).1 ≠ 0 then ((turnL (asiD (-y.sum)) L k (-y.sum)).1, L, H)
  else if checkL (turnL (asiD (-y.sum)) L k (-y.sum)).2 (legs2 k p s) ≠ 0 then (checkL (turnL (asiD (-y.sum)) L k (-y.sum)).2 (legs2 k p s), L, H)
  else ((makeL (freeHL L H k n).2.1 (legs2 k p s)).1, (makeL (freeHL L H k n).2.1 (legs2 k p s)).2, (freeHL L H k n).2.2)
theorem freeHL_ok {L : List Ac} (h : OkA L) (H : List Held) (k : ByteArray) (n : Int) : OkA (freeHL L H k n).2.1 := by
 unfold freeHL
 cases getK Held.key H ⟨k, n⟩ with
 | none => exact h
 | some y => exact turnL_ok (asiD_ok _) h _ _
theorem freeHL_okH {H : List Held} (h : OkH H) (L : List Ac) (k : ByteArray) (n : Int) : OkH (freeHL L H k n).2.2 := by
 unfold freeHL
 cases getK Held.key H ⟨k, n⟩ with
 | none => exact h
 | some y =>
  dsimp only
  split
  ·exact fun x hx => h x (List.mem_filter.1 hx).1
  ·exact h
set_option maxRecDepth 100000 in
set_option maxHeartbeats 8000000 in
theorem hotake_c (g b gh bh : Nat) (L : List Ac) (H : List Held) (k : ByteArray) (n : Int) (p : ByteArray) (s : Int) (w : World) (h : ChA w g b L) (hh : HoA w gh bh H) (hd : gh ≠ b ∧ bh ≠ b ∧ g ≠ bh) (hL : OkA L) (hH : OkH H) (hs : R64 s) (hk : k.size ≤ maxLen) (hp : p.size ≤ maxLen) :
  Calls Tryz.prog 167 #[.pointer (some ⟨gh, 0, none⟩), .pointer (some ⟨g, 0, none⟩), .string k, i64 n, .string p, i64 s] w fun e w' => e = .returned (i64 (takeH L H k n p s).1) ∧ ChA w' g b (takeH L H k n p s).2.1 ∧ HoA w' gh bh (takeH L H k n p s).2.2 ∧ G2 w w' b bh := by
 obtain ⟨R, hR⟩ : ∃ R, takeH L H k n p s = R := ⟨_, rfl⟩
 rw [hR]
 unfold takeH at hR
 have HR := Lib.hid hR.symm
 have HL := Lib.hid hL
 have HH := Lib.hid hH
 have Hd := Lib.hid hd
 have H0 := Lib.hid h
 have HH0 := Lib.hid hh
 have hlg := Lib.hid h.lt
 have hlh := Lib.hid hh.lt
 have Hkk := Lib.hid hk
 have Hp := Lib.hid hp
 obtain ⟨MH, hhi, hrh⟩ := hh
 have c0 := cell_of_row _ gh 0 _ _ (0, 0) hhi.cell
 simp only [List.getElem?_toArray, List.getElem?_cons_zero] at c0
 have hlk := run_lookup (P := Tryz.prog) hkKey Tryz.underlying192 hhi.map ⟨k, n⟩ (i64 0) (by kernel_rfl) true
 rw [getM_hv, hrh.get_] at hlk
 obtain ⟨o, ho⟩ : ∃ o, getK Held.key H ⟨k, n⟩ = o := ⟨_, rfl⟩
 rw [ho] at hlk
 have Ho := Lib.hid ho
 unfold Hk.v at hlk
 clear hR hL hH hd h hhi hrh ho hk hp
 cases o with
 | none =>
  have HR1 := Lib.hid (show R = (6, L, H) by rw [HR.out, Ho.out])
  clear HR
  go_enter Tryz.func167, Tryz.ntmps167
  go_wp2
  go_ret
  exact ⟨by rw [HR1.out]; rfl, by rw [HR1.out]; exact H0.out, by rw [HR1.out]; exact HH0.out, G2.of_below (Below.refl _ _) _ _⟩
 | some y =>
  have hy := HH.out y (getK_mem Ho.out).1
  have hR1 := HR.out
  rw [Ho.out] at hR1
  dsimp only at hR1
  have HR1 := Lib.hid hR1
  clear hR1
  obtain ⟨-, -, hy1, hy2, -⟩ := hy
  clear HR
  by_cases hbad : s < 1 ∨ y.sum < s
  ·have HR2 := Lib.hid (show R = (13, L, H) by rw [HR1.out, if_pos hbad])
   clear HR1
   by_cases h1 : s < 1
   ·have g1 : decide (s < 1) = true := decide_eq_true h1
    clear h1 hbad
    go_enter Tryz.func167, Tryz.ntmps167
    go_wp2
    go_ret
    exact ⟨by rw [HR2.out]; rfl, by rw [HR2.out]; exact H0.out, by rw [HR2.out]; exact HH0.out, G2.of_below (Below.refl _ _) _ _⟩
   ·have g1 : decide (s < 1) = false := decide_eq_false h1
    have g2 : decide (y.sum < s) = true := decide_eq_true (hbad.resolve_left h1)
    clear h1 hbad
    go_enter Tryz.func167, Tryz.ntmps167
    go_wp2
    go_ret
    exact ⟨by rw [HR2.out]; rfl, by rw [HR2.out]; exact H0.out, by rw [HR2.out]; exact HH0.out, G2.of_below (Below.refl _ _) _ _⟩
  ·have g1 : decide (s < 1) = false := decide_eq_false (fun e => hbad (.inl e))
   have g2 : decide (y.sum < s) = false := decide_eq_false (fun e => hbad (.inr e))
   have HR2 := Lib.hid (show R = _ by rw [HR1.out, if_neg hbad])
   have hw1 : wrap64 (-s) = -s := by rw [← IntWalk.i64_left, IntKind.wrap_i64]; omega
   have hw2 : wrap64 (-y.sum) = -y.sum := by rw [← IntWalk.i64_left, IntKind.wrap_i64]; omega
   have hns := R64_neg ⟨hy1, hy2⟩
   have hss : R64 (-s) ∧ R64 s := by unfold R64 at hs ⊢; omega
   clear HR1 hbad
   have hb1 := (Below.refl w.heap.size w).alloc (Nat.le_refl _) (.cells #[.string k, i64 (-s), .string p, i64 s] 167)
   have hl1 := (own_lit (w := w) (base := w.heap.size) 167 #[.string k, i64 (-s), .string p, i64 s] (legs2 k p s) (Nat.le_refl _) rfl (by simp [legs2]) (fun x hx => by
    simp only [legs2, List.mem_cons, List.not_mem_nil, or_false] at hx
    rcases hx with rfl | rfl
    ·exact Hkk.out
    ·exact Hp.out))
   have hls : SlS (w.alloc (.cells #[.string k, i64 (-s), .string p, i64 s] 167)) (fun j => j = w.heap.size) (some ⟨w.heap.size, 0, none⟩) 2 (legs2 k p s) := by
    have h2 := hl1.sl_of
    refine ⟨h2.1, h2.2.1, fun hn => ?_, h2.2.2.2⟩
    obtain ⟨b, o, e, -, hc⟩ := h2.2.2.1 hn
    injection e with e
    injection e with e1 e2
    subst e1 e2
    exact ⟨w.heap.size, 0, rfl, rfl, hc⟩
   have hr64 : ∀ x ∈ legs2 k p s, R64 x.sum := fun x hx => by
    simp only [legs2, List.mem_cons, List.not_mem_nil, or_false] at hx
    rcases hx with rfl | rfl
    ·exact hss.1
    ·exact hss.2
   have Hr := Lib.hid hr64
   have hC := Lib.hid (chcopyA_c g b L _ (H0.out.later hb1))
   have hlen : (legs2 k p s).length = 2 := rfl
   have Hls := Lib.hid hls
   generalize hlg2 : legs2 k p s = ls at *
   clear hl1 hls hr64 hlg2
   have hlen2 := Lib.hid hlen
   clear hlen
   go_enter Tryz.func167, Tryz.ntmps167
   go_wp2_with fail
   have hwsz : w.heap.size + 1 = (w.alloc (.cells #[.string k, i64 (-s), .string p, i64 s] 167)).heap.size := by simp
   generalize w.alloc (.cells #[.string k, i64 (-s), .string p, i64 s] 167) = w0 at *
   refine hC.out.mono ?_
   rintro e w1 ⟨g', b', rfl, hc1, hg', hb', hF⟩
   have Hls1 := Lib.hid (show SlS w1 (fun j => j = w.heap.size) (some ⟨w.heap.size, 0, none⟩) 2 ls from Hls.out.keep (fun p hp => hF.cell (by have : p.block = w.heap.size := hp; omega)) (fun _ h => h))
   have hb2 := below_on hb1 (Nat.le_refl _) hF
   have hA := Lib.hid (asideA_c g' b' L k (-y.sum) w1 hc1 HL.out hns)
   have hOk2 := Lib.hid (turnL_ok (asiD_ok (-y.sum)) HL.out k (-y.sum))
   have hsz1 := hF.size
   have hlc1 := Lib.hid hc1.lt
   obtain ⟨q, hq⟩ : ∃ q, turnL (asiD (-y.sum)) L k (-y.sum) = q := ⟨_, rfl⟩
   rw [hq] at hA hOk2 HR2
   clear hC hF Hls hb1 hlk c0 hc1 hq
   go_wp2_with fail
   refine hA.out.mono ?_
   rintro e w2 ⟨rfl, hc2, hg2⟩
   have Hls2 := Lib.hid (show SlS w2 (fun j => j = w.heap.size) (some ⟨w.heap.size, 0, none⟩) 2 ls from Hls1.out.keep (fun p hp => World.cell?_of_block (hg2.block _ (by have : p.block = w.heap.size := hp; omega) (fun e => by have : p.block = w.heap.size := hp; injection e with e; omega))) (fun _ h => h))
   have hb3 := hb2.trans (below_of_grown hg2 hb2.size (fun j e => by injection e with e; omega))
   have hs2 := hg2.size
   clear hA hg2 Hls1 hb2
   by_cases hq0 : q.1 = 0
   ·have g3 : (q.1 != 0) = false := by rw [hq0]; rfl
    have HR3 := Lib.hid (show R = _ by rw [HR2.out, if_neg (by simpa using hq0)])
    have hK := Lib.hid (check_c g' b' q.2 _ _ ls w2 hc2 hOk2.out (Hls2.out.mono (fun j hj => by omega)) (by rw [hlen2.out]; decide) Hr.out)
    rw [hlen2.out] at hK
    obtain ⟨r, hr⟩ : ∃ r, checkL q.2 ls = r := ⟨_, rfl⟩
    rw [hr] at hK HR3
    clear hq0 HR2 hr
    go_wp2_with fail
    refine hK.out.mono ?_
    rintro e w3 ⟨rfl, hF⟩
    have hb4 := below_on hb3 (Nat.le_refl _) hF
    have Hls3 := Lib.hid (show SlS w3 (fun j => j = w.heap.size) (some ⟨w.heap.size, 0, none⟩) 2 ls from Hls2.out.keep (fun p hp => hF.cell (by have : p.block = w.heap.size := hp; omega)) (fun _ h => h))
    have hs3 := hF.size
    have HC := Lib.hid (H0.out.later hb4)
    have HM := Lib.hid (HH0.out.later hb4)
    clear hF Hls2 hK hc2
    by_cases hr0 : r = 0
    ·have g4 : (r != 0) = false := by rw [hr0]; rfl
     have HR4 := Lib.hid (show R = _ by rw [HR3.out, if_neg (by simpa using hr0)])
     have hFr := Lib.hid (hofreeA_c g b gh bh L H k n w3 HC.out HM.out Hd.out HL.out HH.out)
     have hOk3 := Lib.hid (freeHL_ok HL.out H k n)
     obtain ⟨f, hf⟩ : ∃ f, freeHL L H k n = f := ⟨_, rfl⟩
     rw [hf] at hFr hOk3 HR4
     clear hr0 HR3 hf
     go_wp2_with fail
     refine hFr.out.mono ?_
     rintro e w4 ⟨rfl, hc4, hh4, hg4⟩
     have hlb := hlg.out.2.1
     have hlbh := hlh.out.2.1
     have Hls4 := Lib.hid (show SlS w4 (fun j => j = w.heap.size) (some ⟨w.heap.size, 0, none⟩) 2 ls from Hls3.out.keep (fun p hp => World.cell?_of_block (hg4.block _ (by have : p.block = w.heap.size := hp; omega) (fun e => by have : p.block = w.heap.size := hp; omega) (fun e => by have : p.block = w.heap.size := hp; omega))) (fun _ h => h))
     have hs4 := hg4.size
     have hMk := Lib.hid (make_c g b f.2.1 _ _ ls w4 hc4 hOk3.out (Hls4.out.mono (fun j hj => ⟨by omega, by omega⟩)) (by rw [hlen2.out]; decide) Hr.out)
     rw [hlen2.out] at hMk
     obtain ⟨m, hm⟩ : ∃ m, makeL f.2.1 ls = m := ⟨_, rfl⟩
     rw [hm] at hMk HR4
     clear hm hFr Hls3
     go_wp2_with fail
     refine hMk.out.mono ?_
     rintro e w5 ⟨rfl, hc5, hg5⟩
     have hh5 := hh4.kept (Gr.of_grown hg5) (fun e => by injection e with e; exact Hd.out.1 e.symm) (fun e => by injection e with e; exact Hd.out.2.1 e.symm)
     have hgz := ((G2.of_below hb4 b bh).trans hg4).trans (G2.fst hg5 bh)
     clear hMk hc4 hh4 hg4 hg5
     go_wp2
     go_ret
     exact ⟨by rw [HR4.out]; rfl, by rw [HR4.out]; exact hc5, by rw [HR4.out]; exact hh5, hgz⟩
    ·have g4 : (r != 0) = true := by simpa using hr0
     have HR4 := Lib.hid (show R = (r, L, H) by rw [HR3.out, if_pos hr0])
     clear hr0 HR3
     go_wp2
     go_ret
     exact ⟨by rw [HR4.out]; rfl, by rw [HR4.out]; exact HC.out, by rw [HR4.out]; exact HM.out, G2.of_below hb4 _ _⟩
   ·have g3 : (q.1 != 0) = true := by simpa using hq0
    have HR3 := Lib.hid (show R = (q.1, L, H) by rw [HR2.out, if_pos hq0])
    clear hq0 HR2
    go_wp2
    go_ret
    exact ⟨by rw [HR3.out]; rfl, by rw [HR3.out]; exact H0.out.later hb3, by rw [HR3.out]; exact HH0.out.later hb3, G2.of_below hb3 _ _⟩
end Go.Proofs.YtampniiehgimhaaGreat
/- chart: what a turn may be -/
namespace Go.Proofs.YtampniiehgimhaaGreat
open Go.RowKit
theorem sumR_0 {n : Int} (h : (sumR n).2 = 0) : (sumR n).1 = n := by
 unfold sumR at *
 split at h
 ·cases h
 ·rw [if_neg (by assumption)]
theorem turnL_cases (D : Ac → Ac × Int) (L : List Ac) (k : ByteArray) (x : Int) : ((turnL D L k x).1 ≠ 0 ∧ (turnL D L k x).2 = L) ∨ ((turnL D L k x).1 = 0 ∧ ∃ a, getK Ac.name L k = some a ∧ (D a).2 = 0 ∧ 0 ≤ (D a).1.set_ ∧ (0 < x → freeA a x = true) ∧ (turnL D L k x).2 = setK Ac.name L (D a).1) := by
 unfold turnL
 cases hg : getK Ac.name L k with
 | none => exact .inl ⟨by show (6 : Int) ≠ 0; decide, rfl⟩
 | some a =>
  dsimp only
  by_cases h1 : (D a).2 ≠ 0
  ·rw [if_pos h1]; exact .inl ⟨h1, rfl⟩
  ·rw [if_neg h1]
   by_cases h2 : 0 < x ∧ freeA a x = false
   ·rw [if_pos h2]; exact .inl ⟨by show (9 : Int) ≠ 0; decide, rfl⟩
   ·rw [if_neg h2]
    by_cases h3 : (D a).1.set_ < 0
    ·rw [if_pos h3]; exact .inl ⟨by show (13 : Int) ≠ 0; decide, rfl⟩
    ·rw [if_neg h3]
     exact .inr ⟨rfl, a, rfl, by simpa using h1, by omega, fun h => by
      cases hf : freeA a x with
      | true => rfl
      | false => exact absurd ⟨h, hf⟩ h2, rfl⟩
end Go.Proofs.YtampniiehgimhaaGreat
/- law08: what holds and accounts keep -/
namespace Go.Proofs.YtampniiehgimhaaGreat
open Go.RowKit
def sumH : List Held → Int
 | [] => 0
 | x :: r => x.sum + sumH r
theorem sumH_perm {l m : List Held} (h : l.Perm m) : sumH l = sumH m := by
 induction h with
 | nil => rfl
 | cons x _ ih => unfold sumH; rw [ih]
 | swap x y l => unfold sumH; unfold sumH; omega
 | trans _ _ h1 h2 => rw [h1, h2]
theorem turnL_srt {D : Ac → Ac × Int} {L : List Ac} (h : SrtL ltA L) (k : ByteArray) (x : Int) : SrtL ltA (turnL D L k x).2 := by
 rcases turnL_cases D L k x with ⟨_, e⟩ | ⟨_, a, _, _, _, _, e⟩
 ·rw [e]; exact h
 ·rw [e]; exact setK_srt keyA h _
/-- name, set aside, limit -/
def nsl (a : Ac) : ByteArray × Int × Int := (a.name, a.set_, a.lim)
/-- all but what they have -/
def SS (L L' : List Ac) : Prop := L.map nsl = L'.map nsl
theorem setK_ss {L : List Ac} (h : SrtL ltA L) {a a' : Ac} (ha : a ∈ L) (e : nsl a' = nsl a) : SS L (setK Ac.name L a') := by
 have hn : a'.name = a.name := congrArg Prod.fst e
 unfold SS setK
 rw [List.map_map]
 refine (List.map_congr_left fun x hx => ?_).symm
 simp only [Function.comp_def]
 by_cases hx' : x.name = a'.name
 ·rw [if_pos hx', h.one keyA hx ha (by rw [hx', hn]), e]
 ·rw [if_neg hx']
theorem turnL_ss {L : List Ac} (h : SrtL ltA L) (k : ByteArray) (x y : Int) : SS L (turnL (givD y) L k x).2 := by
 rcases turnL_cases (givD y) L k x with ⟨_, e⟩ | ⟨_, a, hg, _, _, _, e⟩
 ·rw [e]; rfl
 ·rw [e]; exact setK_ss h (getK_mem hg).1 rfl
theorem postL_ss {L : List Ac} (h : SrtL ltA L) (x : Leg) : SS L (postL L x).2 ∧ SrtL ltA (postL L x).2 := by
 unfold postL
 split
 ·exact ⟨rfl, h⟩
 ·split
  ·exact ⟨rfl, h⟩
  ·exact ⟨turnL_ss h _ _ _, turnL_srt h _ _⟩
theorem allL_ss : ∀ (l : List Leg) {L : List Ac}, SrtL ltA L → SS L (allL L l).2 ∧ SrtL ltA (allL L l).2
 | [], _, h => ⟨rfl, h⟩
 | x :: r, L, h => by
  obtain ⟨h1, h2⟩ := postL_ss h x
  unfold allL
  split
  ·exact ⟨h1, h2⟩
  ·obtain ⟨h3, h4⟩ := allL_ss r h2
   exact ⟨Eq.trans h1 h3, h4⟩
theorem makeL_ss {L : List Ac} (h : SrtL ltA L) (l : List Leg) : SS L (makeL L l).2 ∧ SrtL ltA (makeL L l).2 := by
 unfold makeL
 split
 ·exact ⟨rfl, h⟩
 ·exact allL_ss l h
theorem SS.mem {L L' : List Ac} (h : SS L L') {a : Ac} (ha : a ∈ L') : ∃ b ∈ L, nsl b = nsl a := by
 have : nsl a ∈ L'.map nsl := List.mem_map.2 ⟨a, ha, rfl⟩
 rw [← h] at this
 obtain ⟨b, hb, e⟩ := List.mem_map.1 this
 exact ⟨b, hb, e⟩
theorem SS.symm {L L' : List Ac} (h : SS L L') : SS L' L := Eq.symm h
/-- what a chart and holds keep -/
structure InvH (L : List Ac) (H : List Held) : Prop where
 okA : OkA L
 srtA : SrtL ltA L
 okH : OkH H
 srtH : SrtL ltH H
 set : ∀ a ∈ L, a.set_ = sumH (ofL H a.name)
 few : ∀ s, (ofL H s).length ≤ 8
 at_ : ∀ x ∈ H, ∃ a ∈ L, a.name = x.acct
theorem InvH.ss {L L' : List Ac} {H : List Held} (h : InvH L H) (hs : SS L L') (hok : OkA L') (hsr : SrtL ltA L') : InvH L' H where
 okA := hok
 srtA := hsr
 okH := h.okH
 srtH := h.srtH
 few := h.few
 set a ha := by
  obtain ⟨b, hb, e⟩ := hs.mem ha
  have e1 : b.name = a.name := congrArg Prod.fst e
  have e2 : b.set_ = a.set_ := congrArg (fun p => p.2.1) e
  rw [← e1, ← e2]; exact h.set b hb
 at_ x hx := by
  obtain ⟨a, ha, e⟩ := h.at_ x hx
  obtain ⟨b, hb, e2⟩ := hs.symm.mem ha
  exact ⟨b, hb, (congrArg Prod.fst e2).trans e⟩
theorem ofL_perm {l m : List Held} (h : l.Perm m) (s : ByteArray) : (ofL l s).Perm (ofL m s) := h.filter _
theorem ofL_cons (x : Held) (l : List Held) (s : ByteArray) : ofL (x :: l) s = if x.acct = s then x :: ofL l s else ofL l s := by
 unfold ofL
 by_cases h : x.acct = s
 ·rw [if_pos h, List.filter_cons_of_pos (by simpa using h)]
 ·rw [if_neg h, List.filter_cons_of_neg (by simpa using h)]
/-- an account's set aside, and a hold: both turn alike -/
theorem InvH.turn {L : List Ac} {H H' : List Held} (h : InvH L H) {a : Ac} {k : ByteArray} (hg : getK Ac.name L k = some a) {d : Int} {v : Ac} (hv : v = { a with set_ := a.set_ + d }) (hok : OkA (setK Ac.name L v))
  (h1 : OkH H') (h2 : SrtL ltH H') (h3 : ∀ s, (ofL H' s).length ≤ 8) (h4 : ∀ s, sumH (ofL H' s) = sumH (ofL H s) + if s = k then d else 0) (h5 : ∀ x ∈ H', x ∈ H ∨ x.acct = k) : InvH (setK Ac.name L v) H' where
 okA := hok
 srtA := setK_srt keyA h.srtA _
 okH := h1
 srtH := h2
 few := h3
 set b hb := by
  obtain ⟨ha, hk⟩ := getK_mem hg
  have hvn : v.name = k := by rw [hv]; exact hk
  rw [h4]
  rcases setK_mem hb with rfl | ⟨hb, hne⟩
  ·rw [if_pos hvn, hvn, ← hk, ← h.set a ha, hv]
  ·rw [if_neg (fun e => hne (by rw [e, hvn])), Int.add_zero]
   exact h.set b hb
 at_ x hx := by
  obtain ⟨ha, hk⟩ := getK_mem hg
  have hvn : v.name = a.name := by rw [hv]
  have key : ∀ b ∈ L, ∃ c ∈ setK Ac.name L v, c.name = b.name := fun b hb => by
   by_cases he : b.name = v.name
   ·exact ⟨v, List.mem_map.2 ⟨b, hb, by rw [if_pos he]⟩, he.symm⟩
   ·exact ⟨b, List.mem_map.2 ⟨b, hb, by rw [if_neg he]⟩, rfl⟩
  rcases h5 x hx with hx | hx
  ·obtain ⟨b, hb, e⟩ := h.at_ x hx
   obtain ⟨c, hc, e2⟩ := key b hb
   exact ⟨c, hc, e2.trans e⟩
  ·obtain ⟨c, hc, e2⟩ := key a ha
   exact ⟨c, hc, by rw [e2, hk, hx]⟩
/-- one hold taken out -/
theorem del_perm {H : List Held} (h : SrtL ltH H) {k : Hk} {y : Held} (hg : getK Held.key H k = some y) : H.Perm (y :: delK Held.key H k) := by
 obtain ⟨hy, hk⟩ := getK_mem hg
 obtain ⟨i, hi, rfl⟩ := List.getElem_of_mem hy
 rw [← hk, delK_at keyH h hi]
 have e : H = H.take i ++ H[i] :: H.drop (i + 1) := by rw [← List.drop_eq_getElem_cons hi, List.take_append_drop]
 conv => lhs; rw [e]
 exact List.perm_middle
theorem asiD_0 {x : Int} {a : Ac} (h : (asiD x a).2 = 0) : (asiD x a).1 = { a with set_ := a.set_ + x } := by
 have h1 : (sumR (a.set_ + x)).2 = 0 := h
 show ({ a with set_ := (sumR (a.set_ + x)).1 } : Ac) = _
 rw [sumR_0 h1]
theorem InvH.free {L : List Ac} {H : List Held} (h : InvH L H) (k : ByteArray) (n : Int) : InvH (freeHL L H k n).2.1 (freeHL L H k n).2.2 := by
 have hokA := freeHL_ok h.okA H k n
 have hokH := freeHL_okH h.okH L k n
 unfold freeHL at *
 cases hg : getK Held.key H ⟨k, n⟩ with
 | none => rw [hg] at hokA hokH; exact h
 | some y =>
  rw [hg] at hokA hokH
  dsimp only at *
  rcases turnL_cases (asiD (-y.sum)) L k (-y.sum) with ⟨e0, e⟩ | ⟨e0, a, ha, hz, _, _, e⟩
  ·rw [if_neg e0, e]; exact h
  ·rw [if_pos e0] at hokH ⊢
   rw [e] at hokA ⊢
   have hp := del_perm h.srtH hg
   have hyk : y.acct = k := congrArg Hk.acct (getK_mem hg).2
   refine h.turn ha (asiD_0 hz) hokA hokH (delK_srt h.srtH _) (fun s => ?_) (fun s => ?_) (fun x hx => .inl (List.mem_filter.1 hx).1)
   ·have h1 := (ofL_perm hp s).length_eq
    have h2 := h.few s
    rw [ofL_cons] at h1
    split at h1
    ·rw [List.length_cons] at h1; omega
    ·omega
   ·have h1 := sumH_perm (ofL_perm hp s)
    rw [ofL_cons] at h1
    by_cases hs : s = k
    ·rw [if_pos (by rw [hyk, hs])] at h1
     rw [if_pos hs, h1]
     show _ = y.sum + _ + -y.sum
     omega
    ·rw [if_neg (by rw [hyk]; exact fun e => hs e.symm)] at h1
     rw [if_neg hs, h1, Int.add_zero]
theorem InvH.put {L : List Ac} {H : List Held} (h : InvH L H) (x : Held) (hx : R64 x.sum) (hk : x.acct.size ≤ maxLen) : InvH (putH L H x).2.1 (putH L H x).2.2 := by
 unfold putH
 by_cases h1 : x.num < 1 ∨ 9999 < x.num ∨ x.sum < 1
 ·rw [if_pos h1]; exact h
 ·rw [if_neg h1]
  by_cases h2 : (getK Held.key H x.key).isSome = true
  ·rw [if_pos h2]; exact h
  ·rw [if_neg h2]
   by_cases h3 : (ofL H x.acct).length = 8
   ·rw [if_pos h3]; exact h
   ·rw [if_neg h3]
    have hok := turnL_ok (asiD_ok x.sum) h.okA x.acct x.sum
    dsimp only
    rcases turnL_cases (asiD x.sum) L x.acct x.sum with ⟨e0, e⟩ | ⟨e0, a, ha, hz, _, _, e⟩
    ·rw [if_neg e0, e]; exact h
    ·rw [if_pos e0]
     rw [e] at hok ⊢
     have hp := insB_perm (lt := ltH) x H
     have hno : getK Held.key H x.key = none := by simpa using h2
     refine h.turn ha (asiD_0 hz) hok (fun y hy => ?_) (insB_srt keyH.strict x H h.srtH fun y hy => keyH.co _ _ fun e => getK_none.1 hno y hy e.symm) (fun s => ?_) (fun s => ?_) (fun y hy => ?_)
     ·rcases List.mem_cons.1 (hp.mem_iff.1 hy) with rfl | hy
      ·obtain ⟨g1, g2⟩ := hx
       exact ⟨by omega, by omega, by omega, g2, hk⟩
      ·exact h.okH y hy
     ·have h4 := (ofL_perm hp s).length_eq
      have h5 := h.few s
      rw [ofL_cons] at h4
      split at h4
      ·rename_i hs
       have := h.few x.acct
       rw [hs] at this h3
       simp only [List.length_cons] at h4
       omega
      ·omega
     ·have h4 := sumH_perm (ofL_perm hp s)
      rw [ofL_cons] at h4
      by_cases hs : s = x.acct
      ·rw [if_pos hs.symm] at h4
       rw [if_pos hs, h4]
       show x.sum + _ = _
       omega
      ·rw [if_neg (fun e => hs e.symm)] at h4
       rw [if_neg hs, h4, Int.add_zero]
     ·rcases List.mem_cons.1 (hp.mem_iff.1 hy) with rfl | hy
      ·exact .inr rfl
      ·exact .inl hy
theorem InvH.take {L : List Ac} {H : List Held} (h : InvH L H) (k : ByteArray) (n : Int) (p : ByteArray) (s : Int) : InvH (takeH L H k n p s).2.1 (takeH L H k n p s).2.2 := by
 unfold takeH
 cases hg : getK Held.key H ⟨k, n⟩ with
 | none => exact h
 | some y =>
  dsimp only
  by_cases h1 : s < 1 ∨ y.sum < s
  ·rw [if_pos h1]; exact h
  ·rw [if_neg h1]
   by_cases h2 : (turnL (asiD (-y.sum)) L k (-y.sum)).1 ≠ 0
   ·rw [if_pos h2]; exact h
   ·rw [if_neg h2]
    by_cases h3 : checkL (turnL (asiD (-y.sum)) L k (-y.sum)).2 (legs2 k p s) ≠ 0
    ·rw [if_pos h3]; exact h
    ·rw [if_neg h3]
     have hf := h.free k n
     obtain ⟨g1, g2⟩ := makeL_ss hf.srtA (legs2 k p s)
     exact hf.ss g1 (makeL_ok hf.okA _) g2
theorem freeHL_of {L : List Ac} {H : List Held} {k : ByteArray} {n : Int} {y : Held} (hg : getK Held.key H ⟨k, n⟩ = some y) (h : ¬ (turnL (asiD (-y.sum)) L k (-y.sum)).1 ≠ 0) : freeHL L H k n = (0, (turnL (asiD (-y.sum)) L k (-y.sum)).2, delK Held.key H ⟨k, n⟩) := by
 have h0 : (turnL (asiD (-y.sum)) L k (-y.sum)).1 = 0 := by simpa using h
 unfold freeHL
 rw [hg]
 dsimp only
 rw [if_pos h0, h0]
theorem turnL_len (D : Ac → Ac × Int) (L : List Ac) (k : ByteArray) (x : Int) : (turnL D L k x).2.length = L.length := by
 rcases turnL_cases D L k x with ⟨_, e⟩ | ⟨_, a, _, _, _, _, e⟩
 ·rw [e]
 ·rw [e, setK_len]
theorem SS.len {L L' : List Ac} (h : SS L L') : L'.length = L.length := by
 have := congrArg List.length h
 simpa using this.symm
theorem freeHL_lenA (L : List Ac) (H : List Held) (k : ByteArray) (n : Int) : (freeHL L H k n).2.1.length = L.length := by
 unfold freeHL
 cases getK Held.key H ⟨k, n⟩ with
 | none => rfl
 | some y => exact turnL_len _ _ _ _
end Go.Proofs.YtampniiehgimhaaGreat
/- slices.Equal at legs, order.Same -/
namespace Go.Proofs.YtampniiehgimhaaGreat
open Go.RowKit
theorem neq_leg (a b : ByteArray) (c d : Int) (w : World) : (binOp .neq 167 (.agg #[.string a, i64 c]) (.agg #[.string b, i64 d])).run Tryz.prog w = .ok (.bool (!decide (Leg.mk a c = ⟨b, d⟩))) w := by
 have u3 := Tryz.underlying2
 have a3 := Tryz.isAgg2
 have z3 := Tryz.sizeOf2
 have u9 := Tryz.underlying9
 have a9 := Tryz.isAgg9
 have z9 := Tryz.sizeOf9
 have hS : Tryz.prog.underlying 167 = some (.struct (Tryz.prog.fieldsOf 167)) := by kernel_rfl
 have hp : Tryz.prog.stoodInHeld 167 = false := by kernel_rfl
 rw [run_neq_struct, show (10000 : Nat) = 9999 + 1 from rfl, run_equalIn_agg w 9999 167 _ _ hS hp]
 simp only [Program.fieldsOf, Tryz.underlying167]
 go_simp
 by_cases h1 : a = b
 ·have h3 := beqS_of_eq h1
  by_cases h2 : c = d <;> simp_all
 ·have h3 := beqS_of_ne h1
  by_cases h2 : c = d <;> simp_all
set_option maxRecDepth 100000 in
set_option maxHeartbeats 400000 in
theorem equal_leg (A C : Option Addr) (c d : Nat) (l m : List Leg) (w : World) (h : Sl w w.heap.size A c l) (k : Sl w w.heap.size C d m) (hl : l.length ≤ 65536) (hm : m.length ≤ 65536) :
  Calls Tryz.prog 161 #[.slice A l.length c, .slice C m.length d] w fun e w' => e = .returned (.bool (decide (l = m))) ∧ ∃ n, w.drewN n = w' := by
 by_cases hlm : l.length = m.length
 ·have hne : ((l.length : Int) != (m.length : Int)) = false := by rw [hlm]; simp
  have HL := Lib.hid hlm
  clear hlm
  go_enter Tryz.func161, Tryz.ntmps161
  go_wp2
  go_loopw [13] (fun i wr => ∃ (j n : Nat), i = i64 j ∧ j ≤ l.length ∧ l.take j = m.take j ∧ wr = w.drewN n) (fun i _ => l.length - (intOf i).toNat)
  case atStart => exact ⟨0, 0, rfl, by omega, rfl, rfl⟩
  case round =>
   obtain ⟨j, n, rfl, hj, ht, rfl⟩ := hrel
   have HT := Lib.hid ht
   clear ht
   by_cases hlt : j < l.length
   ·have hltm : j < m.length := by have := HL.out; omega
    obtain ⟨b, o, rfl, hb, -, c0, c1⟩ := h.leg hlt
    obtain ⟨b', o', rfl, hb', -, c0', c1'⟩ := k.leg hltm
    have he : ∀ W : World, (binOp .neq 167 (.agg #[.string l[j].acct, i64 l[j].sum]) (.agg #[.string m[j].acct, i64 m[j].sum])).run Tryz.prog W = .ok (.bool (!decide (l[j] = m[j]))) W := neq_leg _ _ _ _
    by_cases heq : l[j] = m[j]
    ·simp only [decide_eq_true heq, Bool.not_true] at he
     have Heq := Lib.hid heq
     clear heq
     go_wp2
     go_quiet (fail)
     go_wp2
     go_roundw
     case rel => exact ⟨j + 1, n + _, by go_num, by omega, by rw [List.take_succ_eq_append_getElem hlt, List.take_succ_eq_append_getElem hltm, HT.out, Heq.out], rfl⟩
     case measure => simp [intOf]; omega
    ·simp only [decide_eq_false heq, Bool.not_false] at he
     have Heq := Lib.hid heq
     clear heq
     go_wp2
     go_quiet (fail)
     go_wp2
     go_ret
     refine ⟨?_, _, (World.drewN_drewN _ _ _).symm⟩
     rw [decide_eq_false (show ¬ l = m from fun e => Heq.out (by subst e; rfl))]
     rfl
   ·have hjl : j = l.length := by omega
    subst hjl
    go_wp2
    go_ret
    refine ⟨?_, _, rfl⟩
    rw [decide_eq_true (show l = m by
     have := HT.out
     rwa [List.take_length, List.take_of_length_le (by have := HL.out; omega)] at this)]
    rfl
 ·have hne : ((l.length : Int) != (m.length : Int)) = true := by rw [bne_iff_ne]; omega
  have HL := Lib.hid hlm
  clear hlm
  go_enter Tryz.func161, Tryz.ntmps161
  go_wp2
  go_ret
  refine ⟨?_, 0, rfl⟩
  rw [decide_eq_false (show ¬ l = m from fun e => HL.out (by rw [e]))]
  rfl
/-- order.Same -/
structure SameOd (a b : Od) : Prop where
 acct : a.acct = b.acct
 peer : a.peer = b.peer
 note : a.note = b.note
 id : a.id = b.id
 kind : a.kind = b.kind
 sum : a.sum = b.sum
 period : a.period = b.period
 hold : a.hold = b.hold
 legs : a.legs = b.legs
instance (a b : Od) : Decidable (SameOd a b) :=
 if h : a.acct = b.acct ∧ a.peer = b.peer ∧ a.note = b.note ∧ a.id = b.id ∧ a.kind = b.kind ∧ a.sum = b.sum ∧ a.period = b.period ∧ a.hold = b.hold ∧ a.legs = b.legs then
  isTrue ⟨h.1, h.2.1, h.2.2.1, h.2.2.2.1, h.2.2.2.2.1, h.2.2.2.2.2.1, h.2.2.2.2.2.2.1, h.2.2.2.2.2.2.2.1, h.2.2.2.2.2.2.2.2⟩
 else isFalse fun k => h ⟨k.1, k.2, k.3, k.4, k.5, k.6, k.7, k.8, k.9⟩
abbrev sameB (a b : Od) : Bool := decide (SameOd a b)
set_option maxRecDepth 100000 in
set_option maxHeartbeats 1000000 in
theorem same_c (x y : Od) (w : World) (hx : Okb w w.heap.size x) (hy : Okb w w.heap.size y) (hlx : x.legs.length ≤ 65536) (hly : y.legs.length ≤ 65536) :
  Calls Tryz.prog 103 #[x.v, y.v] w fun e w' => e = .returned (.bool (sameB x y)) ∧ Below w.heap.size w w' := by
 obtain ⟨-, -, -, hgx⟩ := hx
 obtain ⟨-, -, -, hgy⟩ := hy
 unfold Od.v
 by_cases h0 : x.acct = y.acct
 ·have q0 := beqS_of_eq h0
  by_cases h1 : x.peer = y.peer
  ·have q1 := beqS_of_eq h1
   by_cases h2 : x.note = y.note
   ·have q2 := beqS_of_eq h2
    by_cases h3 : x.id = y.id
    ·have q3 : ∀ W : World, (binOp .eql 34 (.agg #[i64 x.client, i64 x.seq]) (.agg #[i64 y.client, i64 y.seq])).run Tryz.prog W = .ok (.bool true) W := fun W => by rw [eq_id, decide_eq_true (show Id.mk x.client x.seq = ⟨y.client, y.seq⟩ from h3)]
     by_cases h4 : x.kind = y.kind
     ·have q4 : (x.kind == y.kind) = true := beq_iff_eq.2 h4
      by_cases h5 : x.sum = y.sum
      ·have q5 : (x.sum == y.sum) = true := beq_iff_eq.2 h5
       by_cases h6 : x.period = y.period
       ·have q6 : (x.period == y.period) = true := beq_iff_eq.2 h6
        by_cases h7 : x.hold = y.hold
        ·have q7 : (x.hold == y.hold) = true := beq_iff_eq.2 h7
         have H : Hid (x.acct = y.acct ∧ x.peer = y.peer ∧ x.note = y.note ∧ x.id = y.id ∧ x.kind = y.kind ∧ x.sum = y.sum ∧ x.period = y.period ∧ x.hold = y.hold) := Lib.hid ⟨h0, h1, h2, h3, h4, h5, h6, h7⟩
         clear h0 h1 h2 h3 h4 h5 h6 h7
         go_enter Tryz.func103, Tryz.ntmps103
         go_wp2_with fail
         have hb1 : Below w.heap.size w ((w.alloc (.cells #[i64 x.client, i64 x.seq, i64 x.kind, .string x.acct, .string x.peer, i64 x.sum, .slice x.la x.legs.length x.lc, i64 x.period, i64 x.hold, .string x.note] 37)).alloc (.cells #[i64 y.client, i64 y.seq, i64 y.kind, .string y.acct, .string y.peer, i64 y.sum, .slice y.la y.legs.length y.lc, i64 y.period, i64 y.hold, .string y.note] 37)) := ((Below.refl _ _).alloc (Nat.le_refl _) _).alloc (by simp) _
         refine (equal_leg _ _ _ _ _ _ _ (hgx.later hb1) (hgy.later hb1) hlx hly).mono ?_
         rintro e w1 ⟨rfl, n, rfl⟩
         go_wp2
         go_ret
         refine ⟨?_, below_drewN hb1 n⟩
         obtain ⟨h0, h1, h2, h3, h4, h5, h6, h7⟩ := H.out
         have hs : sameB x y = decide (x.legs = y.legs) := by
          by_cases hl : x.legs = y.legs
          ·rw [decide_eq_true hl]; exact decide_eq_true ⟨h0, h1, h2, h3, h4, h5, h6, h7, hl⟩
          ·rw [decide_eq_false hl]; exact decide_eq_false fun k => hl k.legs
         rw [hs]
         rfl
        ·have q7 : (x.hold == y.hold) = false := beq_eq_false_iff_ne.2 h7
         have Hs : Hid (sameB x y = false) := Lib.hid (decide_eq_false fun k => h7 k.hold)
         clear h0 h1 h2 h3 h4 h5 h6 h7
         go_enter Tryz.func103, Tryz.ntmps103
         go_wp2
         go_ret
         exact ⟨by rw [Hs.out]; rfl, ((Below.refl _ _).alloc (Nat.le_refl _) _).alloc (by simp) _⟩
       ·have q6 : (x.period == y.period) = false := beq_eq_false_iff_ne.2 h6
        have Hs : Hid (sameB x y = false) := Lib.hid (decide_eq_false fun k => h6 k.period)
        clear h0 h1 h2 h3 h4 h5 h6
        go_enter Tryz.func103, Tryz.ntmps103
        go_wp2
        go_ret
        exact ⟨by rw [Hs.out]; rfl, ((Below.refl _ _).alloc (Nat.le_refl _) _).alloc (by simp) _⟩
      ·have q5 : (x.sum == y.sum) = false := beq_eq_false_iff_ne.2 h5
       have Hs : Hid (sameB x y = false) := Lib.hid (decide_eq_false fun k => h5 k.sum)
       clear h0 h1 h2 h3 h4 h5
       go_enter Tryz.func103, Tryz.ntmps103
       go_wp2
       go_ret
       exact ⟨by rw [Hs.out]; rfl, ((Below.refl _ _).alloc (Nat.le_refl _) _).alloc (by simp) _⟩
     ·have q4 : (x.kind == y.kind) = false := beq_eq_false_iff_ne.2 h4
      have Hs : Hid (sameB x y = false) := Lib.hid (decide_eq_false fun k => h4 k.kind)
      clear h0 h1 h2 h3 h4
      go_enter Tryz.func103, Tryz.ntmps103
      go_wp2
      go_ret
      exact ⟨by rw [Hs.out]; rfl, ((Below.refl _ _).alloc (Nat.le_refl _) _).alloc (by simp) _⟩
    ·have q3 : ∀ W : World, (binOp .eql 34 (.agg #[i64 x.client, i64 x.seq]) (.agg #[i64 y.client, i64 y.seq])).run Tryz.prog W = .ok (.bool false) W := fun W => by rw [eq_id, decide_eq_false (show ¬ Id.mk x.client x.seq = ⟨y.client, y.seq⟩ from h3)]
     have Hs : Hid (sameB x y = false) := Lib.hid (decide_eq_false fun k => h3 k.id)
     clear h0 h1 h2 h3
     go_enter Tryz.func103, Tryz.ntmps103
     go_wp2
     go_ret
     exact ⟨by rw [Hs.out]; rfl, ((Below.refl _ _).alloc (Nat.le_refl _) _).alloc (by simp) _⟩
   ·have q2 := beqS_of_ne h2
    have Hs : Hid (sameB x y = false) := Lib.hid (decide_eq_false fun k => h2 k.note)
    clear h0 h1 h2
    go_enter Tryz.func103, Tryz.ntmps103
    go_wp2
    go_ret
    exact ⟨by rw [Hs.out]; rfl, ((Below.refl _ _).alloc (Nat.le_refl _) _).alloc (by simp) _⟩
  ·have q1 := beqS_of_ne h1
   have Hs : Hid (sameB x y = false) := Lib.hid (decide_eq_false fun k => h1 k.peer)
   clear h0 h1
   go_enter Tryz.func103, Tryz.ntmps103
   go_wp2
   go_ret
   exact ⟨by rw [Hs.out]; rfl, ((Below.refl _ _).alloc (Nat.le_refl _) _).alloc (by simp) _⟩
 ·have q0 := beqS_of_ne h0
  have Hs : Hid (sameB x y = false) := Lib.hid (decide_eq_false fun k => h0 k.acct)
  clear h0
  go_enter Tryz.func103, Tryz.ntmps103
  go_wp2
  go_ret
  exact ⟨by rw [Hs.out]; rfl, ((Below.refl _ _).alloc (Nat.le_refl _) _).alloc (by simp) _⟩
/-- an order without the place of its legs -/
def Od.core (x : Od) : Od := { x with la := none, lc := 0 }
theorem sameB_core {x y : Od} : sameB x y = true ↔ x.core = y.core := by
 unfold sameB Od.core
 rw [decide_eq_true_eq]
 cases x; cases y
 constructor
 ·rintro ⟨h1, h2, h3, h4, h5, h6, h7, h8, h9⟩
  simp only [Od.id, Id.mk.injEq] at h1 h2 h3 h4 h5 h6 h7 h8 h9
  simp only [Od.mk.injEq]
  exact ⟨h4.1, h4.2, h5, h1, h2, h6, trivial, trivial, h9, h7, h8, h3⟩
 ·intro h
  simp only [Od.mk.injEq] at h
  obtain ⟨h1, h2, h3, h4, h5, h6, _, _, h7, h8, h9, h10⟩ := h
  exact ⟨h4, h5, h10, by simp only [Od.id, h1, h2], h3, h6, h8, h9, h7⟩
end Go.Proofs.YtampniiehgimhaaGreat
/- accounts and holds: what is turned back -/
namespace Go.Proofs.YtampniiehgimhaaGreat
open Go.RowKit
section
variable {α κ : Type} [DecidableEq κ] {lt : α → α → Bool} {kf : α → κ}
end
theorem getLR_some {L : List Ac} {k : ByteArray} {a : Ac} (h : getK Ac.name L k = some a) : getLR L k = (a, 0) := by unfold getLR; rw [h]
end Go.Proofs.YtampniiehgimhaaGreat
