/- hold: Take -/
import Derived.Test.YthmgchohbdlonaaGreatRows
import Derived.Test.YthmgchohbdlonaaGreatHoPut
import Derived.Test.YthmgchohbdlonaaGreatVouB
import Derived.WalkKit
import Derived.WalkSpells
import Derived.WalkLawsBesides
import Derived.Deep.QuietTactic
import Derived.BigQuiet
import Derived.Laws.StructEq
import Derived.Deep.DeepFit
import Derived.StillTailTactics
namespace Go.Proofs.YthmgchohbdlonaaGreat
open Go.RowKit
def legs2 (a p : ByteArray) (s : Int) : List Leg := [⟨a, -s⟩, ⟨p, s⟩]
def takeH (L : List Ac) (H : List Held) (k : ByteArray) (n : Int) (p : ByteArray) (s : Int) : Int × List Ac × List Held := match getK Held.key H ⟨k, n⟩ with
  | none => (6, L, H)
  | some y => if s < 1 ∨ y.sum < s then (13, L, H) else if (turnL (asiD (-y.sum)) L k (-y.sum)).1 ≠ 0 then ((turnL (asiD (-y.sum)) L k (-y.sum)).1, L, H)
    else if checkL (turnL (asiD (-y.sum)) L k (-y.sum)).2 (legs2 k p s) ≠ 0 then (checkL (turnL (asiD (-y.sum)) L k (-y.sum)).2 (legs2 k p s), L, H)
    else ((makeL (freeHL L H k n).2.1 (legs2 k p s)).1, (makeL (freeHL L H k n).2.1 (legs2 k p s)).2, (freeHL L H k n).2.2)
theorem freeHL_ok {L : List Ac} (h : OkA L) (H : List Held) (k : ByteArray) (n : Int) : OkA (freeHL L H k n).2.1 := by
  unfold freeHL
  cases getK Held.key H ⟨k, n⟩ with
  | none => exact h
  | some y => exact turnL_ok (asiD_ok _) h _ _
theorem freeHL_okH {H : List Held} (h : OkH H) (L : List Ac) (k : ByteArray) (n : Int) : OkH (freeHL L H k n).2.2 := by
  unfold freeHL
  cases getK Held.key H ⟨k, n⟩ with
  | none => exact h
  | some y =>
    dsimp only
    split
    · exact fun x hx => h x (List.mem_filter.1 hx).1
    · exact h
set_option maxRecDepth 100000 in
set_option maxHeartbeats 8000000 in
theorem hotake_c (g b gh bh : Nat) (L : List Ac) (H : List Held) (k : ByteArray) (n : Int) (p : ByteArray) (s : Int) (w : World) (h : ChA w g b L) (hh : HoA w gh bh H) (hd : gh ≠ b ∧ bh ≠ b ∧ g ≠ bh) (hL : OkA L) (hH : OkH H) (hs : R64 s) (hk : k.size ≤ maxLen) (hp : p.size ≤ maxLen) :
    Calls Tryz.prog 23 #[.pointer (some ⟨gh, 0, none⟩), .pointer (some ⟨g, 0, none⟩), .string k, i64 n, .string p, i64 s] w fun e w' => e = .returned (i64 (takeH L H k n p s).1) ∧ ChA w' g b (takeH L H k n p s).2.1 ∧ HoA w' gh bh (takeH L H k n p s).2.2 ∧ G2 w w' b bh := by
  obtain ⟨R, hR⟩ : ∃ R, takeH L H k n p s = R := ⟨_, rfl⟩
  rw [hR]
  unfold takeH at hR
  have HR := Lib.hid hR.symm
  have HL := Lib.hid hL
  have HH := Lib.hid hH
  have Hd := Lib.hid hd
  have H0 := Lib.hid h
  have HH0 := Lib.hid hh
  have hlg := Lib.hid h.lt
  have hlh := Lib.hid hh.lt
  have Hkk := Lib.hid hk
  have Hp := Lib.hid hp
  obtain ⟨MH, hhi, hrh⟩ := hh
  have c0 := cell_of_row _ gh 0 _ _ (0, 0) hhi.cell
  simp only [List.getElem?_toArray, List.getElem?_cons_zero] at c0
  have hlk := run_lookup (P := Tryz.prog) hkKey Tryz.underlying64 hhi.map ⟨k, n⟩ (i64 0) (by kernel_rfl) true
  rw [getM_hv, hrh.get_] at hlk
  obtain ⟨o, ho⟩ : ∃ o, getK Held.key H ⟨k, n⟩ = o := ⟨_, rfl⟩
  rw [ho] at hlk
  have Ho := Lib.hid ho
  unfold Hk.v at hlk
  clear hR hL hH hd h hhi hrh ho hk hp
  cases o with
  | none =>
    have HR1 := Lib.hid (show R = (6, L, H) by rw [HR.out, Ho.out])
    clear HR
    go_enter Tryz.func23, Tryz.ntmps23
    go_wp2
    go_ret
    exact ⟨by rw [HR1.out]; rfl, by rw [HR1.out]; exact H0.out, by rw [HR1.out]; exact HH0.out, G2.of_below (Below.refl _ _) _ _⟩
  | some y =>
    have hy := HH.out y (getK_mem Ho.out).1
    have hR1 := HR.out
    rw [Ho.out] at hR1
    dsimp only at hR1
    have HR1 := Lib.hid hR1
    clear hR1
    obtain ⟨-, -, hy1, hy2, -⟩ := hy
    clear HR
    by_cases hbad : s < 1 ∨ y.sum < s
    · have HR2 := Lib.hid (show R = (13, L, H) by rw [HR1.out, if_pos hbad])
      clear HR1
      by_cases h1 : s < 1
      · have g1 : decide (s < 1) = true := decide_eq_true h1
        clear h1 hbad
        go_enter Tryz.func23, Tryz.ntmps23
        go_wp2
        go_ret
        exact ⟨by rw [HR2.out]; rfl, by rw [HR2.out]; exact H0.out, by rw [HR2.out]; exact HH0.out, G2.of_below (Below.refl _ _) _ _⟩
      · have g1 : decide (s < 1) = false := decide_eq_false h1
        have g2 : decide (y.sum < s) = true := decide_eq_true (hbad.resolve_left h1)
        clear h1 hbad
        go_enter Tryz.func23, Tryz.ntmps23
        go_wp2
        go_ret
        exact ⟨by rw [HR2.out]; rfl, by rw [HR2.out]; exact H0.out, by rw [HR2.out]; exact HH0.out, G2.of_below (Below.refl _ _) _ _⟩
    · have g1 : decide (s < 1) = false := decide_eq_false (fun e => hbad (.inl e))
      have g2 : decide (y.sum < s) = false := decide_eq_false (fun e => hbad (.inr e))
      have HR2 := Lib.hid (show R = _ by rw [HR1.out, if_neg hbad])
      have hw1 : wrap64 (-s) = -s := by rw [← IntWalk.i64_left, IntKind.wrap_i64]; omega
      have hw2 : wrap64 (-y.sum) = -y.sum := by rw [← IntWalk.i64_left, IntKind.wrap_i64]; omega
      have hns := R64_neg ⟨hy1, hy2⟩
      have hss : R64 (-s) ∧ R64 s := by unfold R64 at hs ⊢; omega
      clear HR1 hbad
      have hb1 := (Below.refl w.heap.size w).alloc (Nat.le_refl _) (.cells #[.string k, i64 (-s), .string p, i64 s] 93)
      have hl1 := (own_lit (w := w) (base := w.heap.size) 93 #[.string k, i64 (-s), .string p, i64 s] (legs2 k p s) (Nat.le_refl _) rfl (by simp [legs2]) (fun x hx => by
        simp only [legs2, List.mem_cons, List.not_mem_nil, or_false] at hx
        rcases hx with rfl | rfl
        · exact Hkk.out
        · exact Hp.out))
      have hls : SlS (w.alloc (.cells #[.string k, i64 (-s), .string p, i64 s] 93)) (fun j => j = w.heap.size) (some ⟨w.heap.size, 0, none⟩) 2 (legs2 k p s) := by
        have h2 := hl1.sl_of
        refine ⟨h2.1, h2.2.1, fun hn => ?_, h2.2.2.2⟩
        obtain ⟨b, o, e, -, hc⟩ := h2.2.2.1 hn
        injection e with e
        injection e with e1 e2
        subst e1 e2
        exact ⟨w.heap.size, 0, rfl, rfl, hc⟩
      have hr64 : ∀ x ∈ legs2 k p s, R64 x.sum := fun x hx => by
        simp only [legs2, List.mem_cons, List.not_mem_nil, or_false] at hx
        rcases hx with rfl | rfl
        · exact hss.1
        · exact hss.2
      have Hr := Lib.hid hr64
      have hC := Lib.hid (chcopyA_c g b L _ (H0.out.later hb1))
      have hlen : (legs2 k p s).length = 2 := rfl
      have Hls := Lib.hid hls
      generalize hlg2 : legs2 k p s = ls at *
      clear hl1 hls hr64 hlg2
      have hlen2 := Lib.hid hlen
      clear hlen
      go_enter Tryz.func23, Tryz.ntmps23
      go_wp2_with fail
      have hwsz : w.heap.size + 1 = (w.alloc (.cells #[.string k, i64 (-s), .string p, i64 s] 93)).heap.size := by simp
      generalize w.alloc (.cells #[.string k, i64 (-s), .string p, i64 s] 93) = w0 at *
      refine hC.out.mono ?_
      rintro e w1 ⟨g', b', rfl, hc1, hg', hb', hF⟩
      have Hls1 := Lib.hid (show SlS w1 (fun j => j = w.heap.size) (some ⟨w.heap.size, 0, none⟩) 2 ls from Hls.out.keep (fun p hp => hF.cell (by have : p.block = w.heap.size := hp; omega)) (fun _ h => h))
      have hb2 := below_on hb1 (Nat.le_refl _) hF
      have hA := Lib.hid (asideA_c g' b' L k (-y.sum) w1 hc1 HL.out hns)
      have hOk2 := Lib.hid (turnL_ok (asiD_ok (-y.sum)) HL.out k (-y.sum))
      have hsz1 := hF.size
      have hlc1 := Lib.hid hc1.lt
      obtain ⟨q, hq⟩ : ∃ q, turnL (asiD (-y.sum)) L k (-y.sum) = q := ⟨_, rfl⟩
      rw [hq] at hA hOk2 HR2
      clear hC hF Hls hb1 hlk c0 hc1 hq
      go_wp2_with fail
      refine hA.out.mono ?_
      rintro e w2 ⟨rfl, hc2, hg2⟩
      have Hls2 := Lib.hid (show SlS w2 (fun j => j = w.heap.size) (some ⟨w.heap.size, 0, none⟩) 2 ls from Hls1.out.keep (fun p hp => World.cell?_of_block (hg2.block _ (by have : p.block = w.heap.size := hp; omega) (fun e => by have : p.block = w.heap.size := hp; injection e with e; omega))) (fun _ h => h))
      have hb3 := hb2.trans (below_of_grown hg2 hb2.size (fun j e => by injection e with e; omega))
      have hs2 := hg2.size
      clear hA hg2 Hls1 hb2
      by_cases hq0 : q.1 = 0
      · have g3 : (q.1 != 0) = false := by rw [hq0]; rfl
        have HR3 := Lib.hid (show R = _ by rw [HR2.out, if_neg (by simpa using hq0)])
        have hK := Lib.hid (check_c g' b' q.2 _ _ ls w2 hc2 hOk2.out (Hls2.out.mono (fun j hj => by omega)) (by rw [hlen2.out]; decide) Hr.out)
        rw [hlen2.out] at hK
        obtain ⟨r, hr⟩ : ∃ r, checkL q.2 ls = r := ⟨_, rfl⟩
        rw [hr] at hK HR3
        clear hq0 HR2 hr
        go_wp2_with fail
        refine hK.out.mono ?_
        rintro e w3 ⟨rfl, hF⟩
        have hb4 := below_on hb3 (Nat.le_refl _) hF
        have Hls3 := Lib.hid (show SlS w3 (fun j => j = w.heap.size) (some ⟨w.heap.size, 0, none⟩) 2 ls from Hls2.out.keep (fun p hp => hF.cell (by have : p.block = w.heap.size := hp; omega)) (fun _ h => h))
        have hs3 := hF.size
        have HC := Lib.hid (H0.out.later hb4)
        have HM := Lib.hid (HH0.out.later hb4)
        clear hF Hls2 hK hc2
        by_cases hr0 : r = 0
        · have g4 : (r != 0) = false := by rw [hr0]; rfl
          have HR4 := Lib.hid (show R = _ by rw [HR3.out, if_neg (by simpa using hr0)])
          have hFr := Lib.hid (hofreeA_c g b gh bh L H k n w3 HC.out HM.out Hd.out HL.out HH.out)
          have hOk3 := Lib.hid (freeHL_ok HL.out H k n)
          obtain ⟨f, hf⟩ : ∃ f, freeHL L H k n = f := ⟨_, rfl⟩
          rw [hf] at hFr hOk3 HR4
          clear hr0 HR3 hf
          go_wp2_with fail
          refine hFr.out.mono ?_
          rintro e w4 ⟨rfl, hc4, hh4, hg4⟩
          have hlb := hlg.out.2.1
          have hlbh := hlh.out.2.1
          have Hls4 := Lib.hid (show SlS w4 (fun j => j = w.heap.size) (some ⟨w.heap.size, 0, none⟩) 2 ls from Hls3.out.keep (fun p hp => World.cell?_of_block (hg4.block _ (by have : p.block = w.heap.size := hp; omega) (fun e => by have : p.block = w.heap.size := hp; omega) (fun e => by have : p.block = w.heap.size := hp; omega))) (fun _ h => h))
          have hs4 := hg4.size
          have hMk := Lib.hid (make_c g b f.2.1 _ _ ls w4 hc4 hOk3.out (Hls4.out.mono (fun j hj => ⟨by omega, by omega⟩)) (by rw [hlen2.out]; decide) Hr.out)
          rw [hlen2.out] at hMk
          obtain ⟨m, hm⟩ : ∃ m, makeL f.2.1 ls = m := ⟨_, rfl⟩
          rw [hm] at hMk HR4
          clear hm hFr Hls3
          go_wp2_with fail
          refine hMk.out.mono ?_
          rintro e w5 ⟨rfl, hc5, hg5⟩
          have hh5 := hh4.kept (Gr.of_grown hg5) (fun e => by injection e with e; exact Hd.out.1 e.symm) (fun e => by injection e with e; exact Hd.out.2.1 e.symm)
          have hgz := ((G2.of_below hb4 b bh).trans hg4).trans (G2.fst hg5 bh)
          clear hMk hc4 hh4 hg4 hg5
          go_wp2
          go_ret
          exact ⟨by rw [HR4.out]; rfl, by rw [HR4.out]; exact hc5, by rw [HR4.out]; exact hh5, hgz⟩
        · have g4 : (r != 0) = true := by simpa using hr0
          have HR4 := Lib.hid (show R = (r, L, H) by rw [HR3.out, if_pos hr0])
          clear hr0 HR3
          go_wp2
          go_ret
          exact ⟨by rw [HR4.out]; rfl, by rw [HR4.out]; exact HC.out, by rw [HR4.out]; exact HM.out, G2.of_below hb4 _ _⟩
      · have g3 : (q.1 != 0) = true := by simpa using hq0
        have HR3 := Lib.hid (show R = (q.1, L, H) by rw [HR2.out, if_pos hq0])
        clear hq0 HR2
        go_wp2
        go_ret
        exact ⟨by rw [HR3.out]; rfl, by rw [HR3.out]; exact H0.out.later hb3, by rw [HR3.out]; exact HH0.out.later hb3, G2.of_below hb3 _ _⟩
end Go.Proofs.YthmgchohbdlonaaGreat
