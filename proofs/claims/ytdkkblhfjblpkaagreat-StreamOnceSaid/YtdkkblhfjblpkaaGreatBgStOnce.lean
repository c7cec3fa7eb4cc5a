/- StreamOnce -/
import Derived.Test.YtdkkblhfjblpkaaGreatRows
import Derived.Test.YtdkkblhfjblpkaaGreatBk16
import Derived.Test.YtdkkblhfjblpkaaGreatBk1
import Derived.Test.YtdkkblhfjblpkaaGreatBk12
import Derived.Deep.Cut
import Derived.Deep.CutRange
import Derived.WalkKit
import Derived.WalkSpells
import Derived.WalkLawsBesides
import Derived.Deep.QuietTactic
import Derived.BigQuiet
import Derived.Laws.StructEq
import Derived.Deep.DeepFit
import Derived.StillTailTactics
namespace Go.Proofs.YtdkkblhfjblpkaaGreat
open Go.RowKit
theorem evL_noname {k : ByteArray} (hk : nameB k = false) {l : List Od} (hx : ∀ x ∈ l, OdB x) : evL bk0 l k = [] := (ev_law hx k).none_ (getK_none.2 fun a ha e => by
  have := ((inv_bk0.fold l hx).inv.okA a ha).2.2
  rw [e, hk] at this
  cases this)
theorem rem4 (x : Int) : 0 ≤ wrap64 ((IntKind.u64.wrap x).tmod 4) ∧ wrap64 ((IntKind.u64.wrap x).tmod 4) ≤ 3 := by
  have h0 : 0 ≤ IntKind.u64.wrap x := by simp only [IntKind.wrap_u64]; omega
  have h1 : 0 ≤ (IntKind.u64.wrap x).tmod 4 := Int.tmod_nonneg _ h0
  have h2 : (IntKind.u64.wrap x).tmod 4 < 4 := Int.tmod_lt_of_pos _ (by omega)
  generalize (IntKind.u64.wrap x).tmod 4 = y at h1 h2
  unfold wrap64
  omega
theorem take_more (l : List Ev) (n m : Nat) : l.take n ++ (l.drop n).take m = l.take (n + m) := (List.take_add ..).symm
theorem getRd_me (g : Nat) (k : ByteArray) (n : Nat) : getRd [(⟨tMe, g, k, n⟩ : Rx)] tMe = some ⟨tMe, g, k, n⟩ := by unfold getRd; simp
theorem setRd_me (g : Nat) (k : ByteArray) (n m : Nat) : setRd [(⟨tMe, g, k, n⟩ : Rx)] tMe m = [⟨tMe, g, k, m⟩] := by unfold setRd; simp
theorem all_me {d : DA} {T : EvT} {g n m : Nat} {k : ByteArray} {j : Nat} (h : d.all T [(⟨tMe, g, k, n⟩ : Rx)] j) : d.all T [(⟨tMe, g, k, m⟩ : Rx)] j := by
  rcases h with h | h
  · refine .inl ?_
    rcases h with h | h | h | h | ⟨r, hr, e⟩
    · exact .inl h
    · exact .inr (.inl h)
    · exact .inr (.inr (.inl h))
    · exact .inr (.inr (.inr (.inl h)))
    · rw [List.mem_singleton.1 hr] at e
      exact .inr (.inr (.inr (.inr ⟨_, List.mem_singleton.2 rfl, e⟩)))
  · exact .inr h
/-- what stands apart from a desk -/
def ApD (n : Nat) (d : DA) (T : EvT) (R : List Rx) (b : Nat) : Prop := b < n ∧ ¬ d.all T R b
theorem SlS.desk {α : Type} [Enc α] {n : Nat} {w w' : World} {d : DA} {T T' : EvT} {R R' : List Rx} {A : Option Addr} {c : Nat} {l : List α} (h : SlS w (ApD n d T R) A c l) (hn : n ≤ w.heap.size) (hg : Gr w w' (d.all T R)) (hT : ∀ b, d.all T' R' b → d.all T R b ∨ n ≤ b) : SlS w' (ApD n d T' R') A c l :=
  (h.grs hg (fun b hb => ⟨Nat.lt_of_lt_of_le hb.1 hn, hb.2⟩)).mono (fun b hb => ⟨hb.1, fun e => (hT b e).elim hb.2 (fun h2 => by have := hb.1; omega)⟩)
theorem desk_rows {w : World} {d : DA} {T T' : EvT} {R : List Rx} (h : ∀ g, T'.rows g → T.rows g ∨ w.heap.size ≤ g) : ∀ b, d.all T' R b → d.all T R b ∨ w.heap.size ≤ b := fun b hb => by
  rcases hb with hb | hb
  · exact .inl (.inl hb)
  · exact (h b hb).imp (fun e => .inr e) id
theorem Own.desk {α : Type} [Enc α] {w w' : World} {base : Nat} {e : TypeId} {v : Value} {l : List α} {d : DA} {T : EvT} {R : List Rx} (h : Own w base e v l) (hg : Gr w w' (d.all T R)) (hv : ∀ g, v.ownBlock = some g → ¬ d.all T R g) (hx : ∀ x ∈ l, Enc.ok w' (Oth w' v) x) : Own w' base e v l := h.gr hg hv hx
set_option maxRecDepth 100000 in
set_option maxHeartbeats 16000000 in
theorem streamOnce_c (A B : Option Addr) (c dd : Nat) (l : List Od) (s : List Int) (k : ByteArray) (w : World) (h : Sl w w.heap.size A c l) (hr : ∀ x ∈ l, InR x) (hs : Sl w w.heap.size B dd s) (hk : k.size ≤ maxLen) :
    Calls Tryz.prog 7 #[.slice A l.length c, .slice B s.length dd, .string k] w fun e w' => e = .returned (.bool true) ∧ Below w.heap.size w w' := by
  have hL := Lib.hid fun W => lives_12 W
  have Hod := Lib.hid (fewL_od (n := 60) h hr)
  have Hleg := Lib.hid (fun x hx => Nat.le_trans (fewL_legs 60 l x hx) (by decide : 8 ≤ 10))
  have Hel := Lib.hid (show ∀ x ∈ fewL 60 l, Od.Ok w (fun b => b < w.heap.size) x from fun x hx => by
    obtain ⟨y, hy, rfl⟩ := List.mem_map.1 hx
    exact cut8_ok (h.2.2.2 y (List.mem_of_mem_take hy)))
  have H := Lib.hid h
  have Hs := Lib.hid hs
  have hsm : s.length ≤ 9223372036854775807 := hs.len_le
  clear h hr hk hs
  go_enter Tryz.func7, Tryz.ntmps7
  go_wp2_with fail
  refine (hL.out _).mono ?_
  rintro e w1 ⟨rfl, hF⟩
  have hb1 := hF
  have hl1 := H.out.later hF
  clear hL hF
  go_wp2_with fail
  refine (snew_c w1).mono ?_
  rintro e w2 ⟨d, rfl, hK2, hF⟩
  have hb2 := below_on hb1 (Nat.le_refl _) hF
  have hl2 := hl1.later hF
  have h12 := hF.size
  have hw1 : w.heap.size ≤ w1.heap.size := hb1.size
  clear hF hb1 hl1
  generalize w1.heap.size = b0 at *
  have HFw := Lib.hid (few_12 A c 60 l w2 hl2 (by decide))
  go_wp2_with fail
  refine HFw.out.mono ?_
  rintro e w3 ⟨v, rfl, hO, hF⟩
  have hb3 := below_on hb2 (Nat.le_refl _) hF
  have hK3 := hK2.later hF
  have h23 := hF.size
  have hn := fewL_le 60 l
  obtain ⟨AF, cF, rfl, hsF⟩ := hO.sl_at (S := ApD w3.heap.size d [] []) (fun b e => ⟨(hO.1.lt b e).2, fun e2 => by have h1 := (hO.1.lt b e).1; have h2 := (hK2.lt b e2).2; omega⟩) (fun y hy => Enc.keep (α := Od) (Hel.out y hy) (fun p hp => hb3.cell hp) (fun b hb => ⟨Nat.lt_of_lt_of_le hb hb3.size, fun e2 => by have h2 := (hK2.lt b e2).1; omega⟩))
  have HsF := Lib.hid hsF
  have HK3 := Lib.hid hK3
  have hb03 : b0 ≤ w3.heap.size := Nat.le_trans h12 h23
  have Hs3 := Lib.hid (fun V (hV : Below w.heap.size w V) => Hs.out.below hV)
  have Hb3 := Lib.hid hb3
  clear hF hK2 hK3 hO hsF HFw hl2 hb2 H Hel Hs
  generalize fewL 60 l = F at *
  have HRd := Lib.hid (sread_c tMe k w3 HK3.out hb03)
  go_wp2_with fail
  refine HRd.out.mono ?_
  rintro e w4 ⟨R4, rfl, hK4, hG4, hR0, hR1⟩
  have hb4 := Hb3.out.trans ((HK3.out.below hG4 hb03).mono hw1)
  have hb04 : b0 ≤ w4.heap.size := Nat.le_trans hb03 hG4.size
  clear HRd
  cases hk : nameB k
  · have HE := Lib.hid (show sreadE [] tMe k = 1 by unfold sreadE; rw [if_pos (.inr hk)])
    obtain rfl := hR0 (by rw [HE.out]; decide)
    have Hno := Lib.hid (fun (m : List Od) (hm : ∀ x ∈ m, OdB x) => evL_noname hk hm)
    rw [HE.out]
    have hs4 := HsF.out.desk (Nat.le_refl _) hG4 (T' := []) (R' := []) (fun b hb => .inl hb)
    have h34 := hG4.size
    clear hR0 hR1 hk hG4 HK3 HsF
    go_wp2_with fail
    go_loopw [9, 10] (fun gv iv wr => ∃ (i : Nat) (T : EvT), gv = .slice none 0 0 ∧ iv = i64 i ∧ i ≤ F.length ∧ DkA wr b0 d (foldL bk0 (F.take i)) T [] ∧ InvB (foldL bk0 (F.take i)) ∧ Hid (∀ k, T.get k = evL bk0 (F.take i) k) ∧ SlS wr (ApD w3.heap.size d T []) AF cF F ∧ w4.heap.size ≤ wr.heap.size ∧ Below w.heap.size w wr) (fun _ iv _ => F.length - (intOf iv).toNat)
    case atStart => exact ⟨0, [], rfl, rfl, Nat.zero_le _, hK4, inv_bk0, Lib.hid (fun k => rfl), hs4, Nat.le_refl _, hb4⟩
    case round =>
      clear hK4 hs4
      obtain ⟨i, T, rfl, rfl, hi, hK, hI, Hget, hsl, hsz, hb⟩ := hrel
      by_cases hlt : i < F.length
      · have g1 : decide ((i : Int) < (F.length : Int)) = true := decide_eq_true (by omega)
        have g2 : decide (i < F.length) = true := decide_eq_true hlt
        have i0 : (0 : Int) ≤ (i : Int) := by omega
        have i1 : (i : Int) < (F.length : Int) := by omega
        have hFc : F.length ≤ cF := hsl.1
        obtain ⟨bF, oF, hAF, hbb, hokx, c0, c1, c2, c3, c4, c5, c6, c7, c8, c9⟩ := hsl.od hlt
        have HFs := Lib.hid (show foldL bk0 (F.take (i + 1)) = (doL (foldL bk0 (F.take i)) F[i]).2 by rw [List.take_succ_eq_append_getElem hlt, foldL_snoc])
        have HEs := Lib.hid (fun k => show evL bk0 (F.take (i + 1)) k = evL bk0 (F.take i) k ++ evD (foldL bk0 (F.take i)) F[i] k by rw [List.take_succ_eq_append_getElem hlt, evL_snoc])
        have hxo := Hod.out F[i] (List.getElem_mem hlt)
        have hlo := Hleg.out F[i] (List.getElem_mem hlt)
        have Hlen := Lib.hid (fun k => show (T.get k).length ≤ 60 by
          rw [Hget.out]
          have h1 := evL_le inv_bk0 k (F.take i) (fun x hx => Hod.out x (List.mem_of_mem_take hx))
          rw [List.length_take] at h1
          omega)
        have hI2 := Lib.hid (hI.do_ hxo)
        have HsL := Lib.hid hsl
        have hbs : w4.heap.size ≤ wr.heap.size := hsz
        have HD := Lib.hid (sdo_c F[i] wr hK hI hxo (Enc.keep (α := Od) hokx (fun _ _ => rfl) (fun b hb => ⟨by have := hb.1; omega, hb.2⟩)) hlo (by omega) (fun k => Nat.le_trans (Hlen.out k) (by decide)))
        have HK := Lib.hid hK
        have Hb := Lib.hid hb
        unfold Od.v at HD
        subst hAF
        clear hsl hbb hokx hxo hlo hI hK hb
        go_wp2_with fail
        refine HD.out.mono ?_
        rintro e w5 ⟨rfl, T2, hK5, hg5, hG5, hr5⟩
        have hd5 : ∀ b, d.all T2 [] b → d.all T [] b ∨ wr.heap.size ≤ b := desk_rows hr5
        have hs5 := HsL.out.desk (T' := T2) (R' := []) (by omega) hG5 (fun b hb => (hd5 b hb).imp id (fun e => by omega))
        have hb5 := Hb.out.trans ((HK.out.below hG5 (by omega)).mono hw1)
        have Hg5 := Lib.hid (fun k => show T2.get k = evL bk0 (F.take (i + 1)) k by rw [hg5, Hget.out, HEs.out])
        have Hg5b := Lib.hid hg5
        have h5 := hG5.size
        rw [← HFs.out] at hK5 hI2
        clear HD HEs HFs Hb HsL c0 c1 c2 c3 c4 c5 c6 c7 c8 c9 hg5
        have HK5 := Lib.hid hK5
        have Hs5 := Lib.hid hs5
        have Hb5 := Lib.hid hb5
        have hsS := Hs3.out w5 hb5
        clear hK5 hs5 hb5 hr5 hG5 hd5
        go_upto_if 44 with fail
        go_cut [11] from 29 to 79 (fun s11 wx => ∃ n : Int, s11 = i64 n ∧ 0 ≤ n ∧ n ≤ 3 ∧ wx = w5)
        case first =>
          by_cases hq : i < s.length
          · have q1 : decide ((i : Int) < (s.length : Int)) = true := decide_eq_true (by omega)
            have q2 : (i : Int) < (s.length : Int) := by omega
            obtain ⟨b2, o2, hB2, -, -, hcell⟩ := hsS.at_ hq
            have c0 : w5.cell? ⟨b2, o2 + i, none⟩ = some (i64 s[i]) := by
              have := hcell 0 _ rfl
              rwa [show i * Enc.size Int + 0 = i from Nat.mul_one i] at this
            subst hB2
            clear hcell hsS
            go_wp2_with fail
            go_meet
            exact ⟨_, rfl, (rem4 _).1, (rem4 _).2, rfl⟩
          · have q1 : decide ((i : Int) < (s.length : Int)) = false := decide_eq_false (by omega)
            clear hsS
            go_wp2_with fail
            go_meet
            exact ⟨2, rfl, by decide, by decide, rfl⟩
        case rest =>
          obtain ⟨n, rfl, n0, n3, hwc⟩ := hcut
          obtain rfl : w5 = wc := hwc.symm
          clear hsS
          go_wp2_with fail
          refine (spoll_no tMe n w5 HK5.out rfl).mono ?_
          rintro e w6 ⟨v, rfl, hO, hF⟩
          obtain ⟨A6, c6, rfl, -⟩ := hO.sl
          have hK6 := HK5.out.later hF
          have hs6 := Hs5.out.desk (by omega) (Gr.of_below hF (d.all T2 [])) (T' := T2) (R' := []) (fun b hb => .inl hb)
          have hb6 := below_on Hb5.out (Nat.le_refl _) hF
          have h6 := hF.size
          clear hO hF HK5 Hs5 Hb5
          go_wp2
          go_roundw
          case rel => exact ⟨i + 1, T2, rfl, by go_num, by omega, hK6, hI2.out, Hg5, hs6, by omega, hb6⟩
          case measure => simp [intOf]; omega
      · obtain rfl : i = F.length := by omega
        have g1 : decide ((F.length : Int) < (F.length : Int)) = false := decide_eq_false (by omega)
        have Hgk := Lib.hid (show T.get k = [] by rw [Hget.out, List.take_length]; exact Hno.out F Hod.out)
        have HO := Lib.hid (sof_c k wr hK (by rw [Hgk.out]; decide))
        rw [Hgk.out] at HO
        clear hK hI Hget hsl
        go_wp2_with fail
        refine HO.out.mono ?_
        rintro e w5 ⟨v, rfl, hO, hF⟩
        obtain ⟨A5, c5, rfl, -⟩ := hO.sl
        have hbe := hb.trans (hF.mono (by have := hb.size; omega))
        clear hO HO
        go_wp2
        go_ret
        exact ⟨rfl, hbe⟩
  · have HE := Lib.hid (show sreadE [] tMe k = 0 by unfold sreadE; rw [if_neg (by rw [hk, show nameB tMe = true by kernel_rfl]; simp)]; rfl)
    obtain ⟨g, rfl, hgl⟩ := hR1 HE.out
    change DkA w4 b0 d bk0 [] [(⟨tMe, g, k, 0⟩ : Rx)] at hK4
    rw [HE.out]
    have hs4 := HsF.out.desk (Nat.le_refl _) hG4 (T' := []) (R' := [(⟨tMe, g, k, 0⟩ : Rx)]) (fun b hb => by
      rcases hb with hb | hb
      · rcases hb with hb | hb | hb | hb | ⟨r, hr, e⟩
        · exact .inl (.inl (.inl hb))
        · exact .inl (.inl (.inr (.inl hb)))
        · exact .inl (.inl (.inr (.inr (.inl hb))))
        · exact .inl (.inl (.inr (.inr (.inr (.inl hb)))))
        · rw [List.mem_singleton.1 hr] at e
          exact .inr (e ▸ hgl)
      · exact .inl (.inr hb))
    have h34 := hG4.size
    clear hR0 hR1 hk hG4 HK3 HsF hgl
    go_wp2_with fail
    go_loopw [9, 10] (fun gv iv wr => ∃ (g9 : Value) (i : Nat) (T : EvT) (at_ : Nat), g9 = gv ∧ iv = i64 i ∧ i ≤ F.length ∧ DkA wr b0 d (foldL bk0 (F.take i)) T [(⟨tMe, g, k, at_⟩ : Rx)] ∧ InvB (foldL bk0 (F.take i)) ∧ Hid (∀ k, T.get k = evL bk0 (F.take i) k) ∧ SlS wr (ApD w3.heap.size d T [(⟨tMe, g, k, at_⟩ : Rx)]) AF cF F ∧ w4.heap.size ≤ wr.heap.size ∧ Below w.heap.size w wr ∧ at_ ≤ (T.get k).length ∧ Own wr w4.heap.size 88 g9 ((T.get k).take at_) ∧ Hid (∀ j, g9.ownBlock = some j → ¬ d.all T [(⟨tMe, g, k, at_⟩ : Rx)] j)) (fun _ iv _ => F.length - (intOf iv).toNat)
    case atStart => exact ⟨_, 0, [], 0, rfl, rfl, Nat.zero_le _, hK4, inv_bk0, Lib.hid (fun k => rfl), hs4, Nat.le_refl _, hb4, Nat.zero_le _, Own.nil_ _ _ _, Lib.hid (fun j e => by cases e)⟩
    case round =>
      clear hK4 hs4
      obtain ⟨gv, i, T, at_, rfl, rfl, hi, hK, hI, Hget, hsl, hsz, hb, hat, hOg, Hgv⟩ := hrel
      by_cases hlt : i < F.length
      · have HOg := Lib.hid hOg
        clear hOg
        have g1 : decide ((i : Int) < (F.length : Int)) = true := decide_eq_true (by omega)
        have g2 : decide (i < F.length) = true := decide_eq_true hlt
        have i0 : (0 : Int) ≤ (i : Int) := by omega
        have i1 : (i : Int) < (F.length : Int) := by omega
        have hFc : F.length ≤ cF := hsl.1
        obtain ⟨bF, oF, hAF, hbb, hokx, c0, c1, c2, c3, c4, c5, c6, c7, c8, c9⟩ := hsl.od hlt
        have HFs := Lib.hid (show foldL bk0 (F.take (i + 1)) = (doL (foldL bk0 (F.take i)) F[i]).2 by rw [List.take_succ_eq_append_getElem hlt, foldL_snoc])
        have HEs := Lib.hid (fun k => show evL bk0 (F.take (i + 1)) k = evL bk0 (F.take i) k ++ evD (foldL bk0 (F.take i)) F[i] k by rw [List.take_succ_eq_append_getElem hlt, evL_snoc])
        have hxo := Hod.out F[i] (List.getElem_mem hlt)
        have hlo := Hleg.out F[i] (List.getElem_mem hlt)
        have Hlen := Lib.hid (fun k => show (T.get k).length ≤ 60 by
          rw [Hget.out]
          have h1 := evL_le inv_bk0 k (F.take i) (fun x hx => Hod.out x (List.mem_of_mem_take hx))
          rw [List.length_take] at h1
          omega)
        have hI2 := Lib.hid (hI.do_ hxo)
        have HsL := Lib.hid hsl
        have hbs : w4.heap.size ≤ wr.heap.size := hsz
        have HD := Lib.hid (sdo_c F[i] wr hK hI hxo (Enc.keep (α := Od) hokx (fun _ _ => rfl) (fun b hb => ⟨by have := hb.1; omega, hb.2⟩)) hlo (by omega) (fun k => Nat.le_trans (Hlen.out k) (by decide)))
        have HK := Lib.hid hK
        have Hb := Lib.hid hb
        unfold Od.v at HD
        subst hAF
        clear hsl hbb hokx hxo hlo hI hK hb
        go_wp2_with fail
        refine HD.out.mono ?_
        rintro e w5 ⟨rfl, T2, hK5, hg5, hG5, hr5⟩
        have hd5 : ∀ b, d.all T2 [(⟨tMe, g, k, at_⟩ : Rx)] b → d.all T [(⟨tMe, g, k, at_⟩ : Rx)] b ∨ wr.heap.size ≤ b := desk_rows hr5
        have hs5 := HsL.out.desk (T' := T2) (R' := [(⟨tMe, g, k, at_⟩ : Rx)]) (by omega) hG5 (fun b hb => (hd5 b hb).imp id (fun e => by omega))
        have hb5 := Hb.out.trans ((HK.out.below hG5 (by omega)).mono hw1)
        have Hg5 := Lib.hid (fun k => show T2.get k = evL bk0 (F.take (i + 1)) k by rw [hg5, Hget.out, HEs.out])
        have Hg5b := Lib.hid hg5
        have h5 := hG5.size
        rw [← HFs.out] at hK5 hI2
        clear HD HEs HFs Hb HsL c0 c1 c2 c3 c4 c5 c6 c7 c8 c9 hg5
        have HK5 := Lib.hid hK5
        have Hs5 := Lib.hid hs5
        have Hb5 := Lib.hid hb5
        have hsS := Hs3.out w5 hb5
        have HL5 := Lib.hid (show (T2.get k).length ≤ 60 by
          rw [Hg5.out]
          exact Nat.le_trans (evL_le inv_bk0 k (F.take (i + 1)) (fun x hx => Hod.out x (List.mem_of_mem_take hx))) (by rw [List.length_take]; omega))
        have hat5 : at_ ≤ (T2.get k).length := by rw [Hg5b.out, List.length_append]; omega
        have HO5 : Hid (Own w5 w4.heap.size 88 gv ((T2.get k).take at_)) := Lib.hid (by
          rw [Hg5b.out, List.take_append_of_le_length hat]
          exact HOg.out.gr hG5 (fun j e => Hgv.out j e) (fun _ _ => trivial))
        have Hgv5 := Lib.hid (show ∀ j, gv.ownBlock = some j → ¬ d.all T2 [(⟨tMe, g, k, at_⟩ : Rx)] j from fun j e hj => by
          rcases hd5 j hj with h1 | h1
          · exact Hgv.out j e h1
          · have := (HOg.out.1.lt j e).2; omega)
        have HO5lt := Lib.hid (show ∀ j, gv.ownBlock = some j → w4.heap.size ≤ j ∧ j < w5.heap.size from fun j e => ⟨(HOg.out.1.lt j e).1, by have := (HOg.out.1.lt j e).2; omega⟩)
        clear HOg Hgv hat
        clear hK5 hs5 hb5 hr5 hG5 hd5
        go_upto_if 44 with fail
        go_cut [11] from 29 to 79 (fun s11 wx => ∃ n : Int, s11 = i64 n ∧ 0 ≤ n ∧ n ≤ 3 ∧ wx = w5)
        case first =>
          by_cases hq : i < s.length
          · have q1 : decide ((i : Int) < (s.length : Int)) = true := decide_eq_true (by omega)
            have q2 : (i : Int) < (s.length : Int) := by omega
            obtain ⟨b2, o2, hB2, -, -, hcell⟩ := hsS.at_ hq
            have c0 : w5.cell? ⟨b2, o2 + i, none⟩ = some (i64 s[i]) := by
              have := hcell 0 _ rfl
              rwa [show i * Enc.size Int + 0 = i from Nat.mul_one i] at this
            subst hB2
            clear hcell hsS
            go_wp2_with fail
            go_meet
            exact ⟨_, rfl, (rem4 _).1, (rem4 _).2, rfl⟩
          · have q1 : decide ((i : Int) < (s.length : Int)) = false := decide_eq_false (by omega)
            clear hsS
            go_wp2_with fail
            go_meet
            exact ⟨2, rfl, by decide, by decide, rfl⟩
        case rest =>
          obtain ⟨n, rfl, n0, n3, hwc⟩ := hcut
          obtain rfl : w5 = wc := hwc.symm
          clear hsS
          have HP := Lib.hid (spoll_c tMe n ⟨tMe, g, k, at_⟩ w5 HK5.out (getRd_me g k at_) hat5 (Nat.le_trans HL5.out (by decide)))
          go_wp2_with fail
          refine HP.out.mono ?_
          rintro e w6 ⟨v, rfl, hO, hF⟩
          have hXM : ((T2.get k).drop at_).take (min (max n 0) (((T2.get k).drop at_).length : Int)).toNat = ((T2.get k).drop at_).take (min (max n 0) (((T2.get k).drop at_).length : Int)).toNat := rfl
          have hXl : (((T2.get k).drop at_).take (min (max n 0) (((T2.get k).drop at_).length : Int)).toNat).length = (min (max n 0) (((T2.get k).drop at_).length : Int)).toNat := by rw [List.length_take]; omega
          have HXt := Lib.hid (take_more (T2.get k) at_ (min (max n 0) (((T2.get k).drop at_).length : Int)).toNat)
          have hXd : (min (max n 0) (((T2.get k).drop at_).length : Int)).toNat ≤ ((T2.get k).drop at_).length := by omega
          have hXn : ((min (max n 0) (((T2.get k).drop at_).length : Int)).toNat : Int) ≤ n := by omega
          have hXa : at_ + (min (max n 0) (((T2.get k).drop at_).length : Int)).toNat ≤ (T2.get k).length := by rw [List.length_drop] at hXd ⊢; omega
          obtain ⟨M, hM⟩ : ∃ M, (min (max n 0) (((T2.get k).drop at_).length : Int)).toNat = M := ⟨_, rfl⟩
          rw [hM] at hO hXl HXt hXd hXn hXa
          clear hM
          obtain ⟨X, hX⟩ : ∃ X, ((T2.get k).drop at_).take M = X := ⟨_, rfl⟩
          rw [hX] at hO hXl HXt
          clear hX hXM
          subst hXl
          have h6 := hF.size
          have hlt5 := HK5.out.lt
          have hK6 := HK5.out.later hF
          have hs6 := Hs5.out.desk (by omega) (Gr.of_below hF (d.all T2 [(⟨tMe, g, k, at_⟩ : Rx)])) (T' := T2) (R' := [(⟨tMe, g, k, at_⟩ : Rx)]) (fun b hb => .inl hb)
          have hb6 := below_on Hb5.out (Nat.le_refl _) hF
          have hO6 := HO5.out.later hF
          obtain ⟨Ax, cx, rfl, hsx⟩ := hO.sl_at (S := fun b => (w5.heap.size ≤ b ∧ b < w6.heap.size)) (fun b e => hO.1.lt b e) (fun _ _ => trivial)
          have HsX := Lib.hid hsx
          have HT7 := Lib.hid (stake_c tMe X.length ⟨tMe, g, k, at_⟩ w6 hK6 (getRd_me g k at_) hat5 (Nat.le_trans HL5.out (by decide)) hXd)
          rw [setRd_me] at HT7
          have hXle : X.length ≤ 60 := by have := HL5.out; omega
          have q3 : decide ((X.length : Int) > n) = false := decide_eq_false (by omega)
          have q4 : decide (n < (X.length : Int)) = false := decide_eq_false (by omega)
          have HK6 := Lib.hid hK6
          have Hs6 := Lib.hid hs6
          have Hb6 := Lib.hid hb6
          have HO6 := Lib.hid hO6
          clear hO hsx hK6 hs6 hb6 hO6 HP hF HK5 Hs5 Hb5 HO5
          go_wp2_with fail
          refine HT7.out.mono ?_
          rintro e w7 ⟨rfl, hK7, hG7⟩
          have h7 := hG7.size
          have hs7 := Hs6.out.desk (by omega) hG7 (T' := T2) (R' := [(⟨tMe, g, k, at_ + X.length⟩ : Rx)]) (fun b hb => .inl (all_me hb))
          have hb7 := Hb6.out.trans ((HK6.out.below hG7 (by omega)).mono hw1)
          have HO7 := Lib.hid (HO6.out.gr hG7 (fun j e => Hgv5.out j e) (fun _ _ => trivial))
          have HX7 := Lib.hid ((HsX.out.grs hG7 (fun b hb => ⟨hb.2, fun e => by have := (hlt5 b e).2; omega⟩)).mono (S' := Oth w7 gv) (fun b hb => ⟨by omega, fun e => by have := (HO5lt.out b e.symm); omega⟩))
          have HK7 := Lib.hid hK7
          have Hs7 := Lib.hid hs7
          have Hb7 := Lib.hid hb7
          have Hlt7 := Lib.hid (show ∀ j, d.all T2 [(⟨tMe, g, k, at_ + X.length⟩ : Rx)] j → j < w7.heap.size from fun j hj => (hK7.lt j hj).2)
          have Hl7 := Lib.hid (show ((T2.get k).take at_).length + X.length ≤ 4294967296 by rw [List.length_take]; have := HL5.out; omega)
          clear hK7 hs7 hb7 hG7 HK6 Hs6 Hb6 HO6 HsX HT7 hlt5 q3 q4
          go_wp2_with (at_builtin; refine wpList_append_slice rfl (some 79) (.tmp 77) (.tmp 78) 61 rfl rfl (.agg #[i64 0, i64 0, i64 0, i64 0, i64 0]) 40 Tryz.underlying61 evInfo rfl (by decide) (by decide) rfl HO7.out Ax X.length cx X rfl rfl HX7.out Hl7.out (by omega) ?_; intro v8 w8 hO8 hg8 hat8)
          rw [HXt.out] at hO8
          have hK8 := HK7.out.kept (Gr.of_grown hg8) (fun j hj e => Hgv5.out j e (all_me hj))
          have h8 := hg8.size
          have hs8 := Hs7.out.grs (Gr.of_grown hg8) (fun b hb => ⟨by have := hb.1; omega, fun e => by have h1 := (HO7.out.1.lt b e).1; have h2 := hb.1; omega⟩)
          have hb8 := Hb7.out.trans (HO7.out.below hg8 (by omega) (by have := Hb7.out.size; omega))
          have Hgv8 := Lib.hid (show ∀ j, v8.ownBlock = some j → ¬ d.all T2 [(⟨tMe, g, k, at_ + X.length⟩ : Rx)] j from fun j e hj => by
            rcases hat8 with e2 | e2
            · exact Hgv5.out j (e2 ▸ e) (all_me hj)
            · rw [e2] at e
              injection e with e
              have := Hlt7.out j hj
              omega)
          clear hg8 hat8 HO7 HX7 HK7 Hs7 Hb7 Hlt7
          go_roundw
          case rel => exact ⟨v8, i + 1, T2, at_ + X.length, rfl, by go_num, by omega, hK8, hI2.out, Hg5, hs8, by omega, hb8, hXa, hO8, Hgv8⟩
          case measure => simp [intOf]; omega
      · obtain rfl : i = F.length := by omega
        have g1 : decide ((F.length : Int) < (F.length : Int)) = false := decide_eq_false (by omega)
        have HEl := Lib.hid (show (T.get k).length ≤ 60 by
          rw [Hget.out, List.take_length]
          exact Nat.le_trans (evL_le inv_bk0 k F Hod.out) hn)
        have HK := Lib.hid hK
        have HOg := Lib.hid hOg
        have Hb := Lib.hid hb
        clear hK hI Hget hsl hOg hb
        have hwz : w4.heap.size ≤ wr.heap.size := hsz
        obtain ⟨E, hE⟩ : ∃ E, T.get k = E := ⟨_, rfl⟩
        have hat' := hat
        rw [hE] at HEl HOg hat'
        have hEl := HEl.out
        have HOlt := Lib.hid (show ∀ j, gv.ownBlock = some j → j < wr.heap.size from fun j e => (HOg.out.1.lt j e).2)
        obtain ⟨Ag, cg, hgv, -⟩ := HOg.out.sl
        subst hgv
        have HP := Lib.hid (spoll_c tMe 1000 ⟨tMe, g, k, at_⟩ wr HK.out (getRd_me g k at_) hat (by rw [hE]; omega))
        rw [hE] at HP
        have hdl : (E.drop at_).length ≤ 60 := by rw [List.length_drop]; omega
        have hm : (E.drop at_).take (min (max 1000 0) ((E.drop at_).length : Int)).toNat = E.drop at_ := List.take_of_length_le (by omega)
        rw [hm] at HP
        have HGD := Lib.hid (List.take_append_drop at_ E)
        have HGl := Lib.hid (show (E.take at_).length = at_ by rw [List.length_take]; omega)
        clear hm
        generalize E.drop at_ = D at *
        generalize E.take at_ = G9 at *
        go_wp2_with fail
        refine HP.out.mono ?_
        rintro e w5 ⟨v, rfl, hO, hF⟩
        obtain ⟨Ax, cx, rfl, hsx⟩ := hO.sl_at (S := fun b => (wr.heap.size ≤ b ∧ b < w5.heap.size)) (fun b e => hO.1.lt b e) (fun _ _ => trivial)
        have hK5 := HK.out.later hF
        have h5 := hF.size
        have hb5 := below_on Hb.out (Nat.le_refl _) hF
        have HO5 := Lib.hid (HOg.out.later hF)
        have hlt := HK.out.lt
        have HX := Lib.hid (fun V (hV : Below w5.heap.size w5 V) => hsx.keep (S' := fun b => (wr.heap.size ≤ b ∧ b < w5.heap.size)) (fun p hp => hV.cell hp.2) (fun _ h => h))
        have hOf := sof_c k w5 hK5 (by rw [hE]; omega)
        rw [hE] at hOf
        have HOf := Lib.hid hOf
        have HK5 := Lib.hid hK5
        have Hb5 := Lib.hid hb5
        clear hO hsx hF HP hK5 hb5 HK Hb HOg hOf
        go_wp2_with fail
        refine HOf.out.mono ?_
        rintro e w6 ⟨v, rfl, hO, hF⟩
        obtain ⟨Aa, ca, rfl, hsa⟩ := hO.sl_at (S := fun b => (w5.heap.size ≤ b ∧ b < w6.heap.size)) (fun b e => hO.1.lt b e) (fun _ _ => trivial)
        have HAt := Lib.hid (sat_c tMe ⟨tMe, g, k, at_⟩ w6 (HK5.out.later hF) (getRd_me g k at_) hat)
        have h6 := hF.size
        have hb6 := Hb5.out.trans (hF.mono (by have := Hb5.out.size; omega))
        have hF56 := hF
        have HA6 := Lib.hid hsa
        have Hb6 := Lib.hid hb6
        clear hO hsa hF HOf hb6 Hb5
        go_wp2_with fail
        refine HAt.out.mono ?_
        rintro e w7 ⟨rfl, hF⟩
        have hb7 := Hb6.out.trans (hF.mono (by have := Hb6.out.size; omega))
        have h7 := hF.size
        have h57 := hF56.trans (hF.mono h6)
        have HK7 := Lib.hid (HK5.out.later h57)
        have HO7 := Lib.hid (HO5.out.later h57)
        have HX7 := Lib.hid ((HX.out w7 h57).mono (S' := Oth w7 (.slice Ag G9.length cg)) (fun b hb => ⟨by omega, fun e => by have h1 := HOlt.out b e.symm; have h2 := hb.1; omega⟩))
        have q1 : ((at_ : Int) != (G9.length : Int)) = false := by rw [HGl.out]; simp
        have Hl7 := Lib.hid (show G9.length + D.length ≤ 4294967296 by rw [HGl.out]; omega)
        have hA7 := Lib.hid (HA6.out.keep (S' := fun b => w5.heap.size ≤ b ∧ b < w6.heap.size) (fun p hp => hF.cell hp.2) (fun _ h => h))
        have Hb7 := Lib.hid hb7
        have Hlt := Lib.hid hlt
        clear hF hb7 h57 hF56 HK5 HO5 HX HA6 Hb6 HAt hlt
        go_wp2_with (at_builtin; refine wpList_append_guarded rfl (some 111) (.tmp 109) (.tmp 110) 61 rfl rfl (.agg #[i64 0, i64 0, i64 0, i64 0, i64 0]) 40 Tryz.underlying61 evInfo rfl (by decide) (by decide) rfl HO7.out Ax D.length cx D rfl rfl HX7.out Hl7.out (by omega) ?_; intro v8 w8 hO8 hg8 hat8)
        rw [HGD.out] at hO8
        obtain ⟨A8, c8, rfl, hs8⟩ := hO8.sl
        have h8 := hg8.size
        have hK8 := HK7.out.kept (Gr.of_grown hg8) (fun j hj e => Hgv.out j e hj)
        have hb8 := Hb7.out.trans (HO7.out.below hg8 (by omega) (by have := Hb7.out.size; omega))
        have hA8 := Lib.hid (hA7.out.grs (Gr.of_grown hg8) (fun b hb => ⟨by have := hb.2; omega, fun e => by have h1 := HOlt.out b e; have h2 := hb.1; omega⟩))
        have HK8 := Lib.hid hK8
        have Hb8 := Lib.hid hb8
        have Hs8 := Lib.hid hs8
        clear hO8 hg8 hat8 hK8 hb8 hs8 HO7 HX7 hA7 HK7 Hb7 q1
        go_wp2_with fail
        refine (as12_c A8 c8 E w8 Hs8.out (by omega)).mono ?_
        rintro e w9 ⟨v9, rfl, hO9, hF9⟩
        obtain ⟨A9, c9, rfl, hs9⟩ := hO9.sl
        have h9 := hF9.size
        have hA9 := Lib.hid (hA8.out.keep (S' := fun b => w5.heap.size ≤ b ∧ b < w6.heap.size) (fun p hp => hF9.cell (by have := hp.2; omega)) (fun _ h => h))
        clear hO9 hA8 Hs8
        go_wp2_with fail
        refine (as12_c Aa ca E w9 (hA9.out.mono (fun b hb => by have := hb.2; omega)) (by omega)).mono ?_
        rintro e w10 ⟨v10, rfl, hO10, hF10⟩
        obtain ⟨A10, c10, rfl, hs10⟩ := hO10.sl
        have h10 := hF10.size
        have hs9 := hs9.later hF10
        have hb810 := hF9.trans (hF10.mono h9)
        have hA10 := Lib.hid (hA9.out.keep (S' := fun b => w5.heap.size ≤ b ∧ b < w6.heap.size) (fun p hp => hF10.cell (by have := hp.2; omega)) (fun _ h => h))
        clear hO10 hA9 hF9 hF10
        go_wp2_with fail
        refine (same12_c _ _ A9 A10 c9 c10 E E w10 hs9 hs10).mono ?_
        rintro e w11 ⟨rfl, hF11⟩
        rw [decide_eq_true (show E = E from rfl)]
        have h11 := hF11.size
        have hb811 := hb810.trans (hF11.mono (by omega))
        have hK11 := HK8.out.later hb811
        have hb11 := Hb8.out.trans (hb811.mono (by have := Hb8.out.size; omega))
        have hA11 := Lib.hid (hA10.out.keep (S' := fun b => w5.heap.size ≤ b ∧ b < w6.heap.size) (fun p hp => hF11.cell (by have := hp.2; omega)) (fun _ h => h))
        have HB := Lib.hid (sback_c tMe at_ ⟨tMe, g, k, at_⟩ w11 hK11 (getRd_me g k at_) hat (by rw [hE]; omega) (Nat.le_refl _))
        rw [setRd_me, Nat.sub_self] at HB
        have HK11 := Lib.hid hK11
        have Hb11 := Lib.hid hb11
        clear hs9 hs10 hF11 hb810 hb811 hK11 hb11 HK8 Hb8 hA10
        go_wp2_with fail
        refine HB.out.mono ?_
        rintro e w12 ⟨rfl, hK12, hG12⟩
        have h12' := hG12.size
        have hb12 := Hb11.out.trans ((HK11.out.below hG12 (by omega)).mono hw1)
        have hA12 := Lib.hid (hA11.out.grs hG12 (fun b hb => ⟨by have := hb.2; omega, fun e => by have h1 := (Hlt.out b e).2; have h2 := hb.1; omega⟩))
        have HB2 := Lib.hid (sback_bad tMe 1 ⟨tMe, g, k, 0⟩ w12 hK12 (getRd_me g k 0) (Nat.zero_le _) (.inr (by show ((0 : Nat) : Int) < 1; decide)))
        have HK12 := Lib.hid hK12
        have Hb12 := Lib.hid hb12
        clear hK12 hG12 hb12 HB HK11 Hb11 hA11
        go_wp2_with fail
        refine HB2.out.mono ?_
        rintro e w13 ⟨rfl, hF13⟩
        have h13 := hF13.size
        have hK13 := HK12.out.later hF13
        have hb13 := Hb12.out.trans (hF13.mono (by have := Hb12.out.size; omega))
        have hA13 := Lib.hid (hA12.out.keep (S' := fun b => w5.heap.size ≤ b ∧ b < w6.heap.size) (fun p hp => hF13.cell (by have := hp.2; omega)) (fun _ h => h))
        have HP := Lib.hid (spoll_c tMe 1000 ⟨tMe, g, k, 0⟩ w13 hK13 (getRd_me g k 0) (Nat.zero_le _) (by rw [hE]; omega))
        have hm : ((T.get k).drop 0).take (min (max 1000 0) (((T.get k).drop 0).length : Int)).toNat = E := by rw [List.drop_zero, hE]; exact List.take_of_length_le (by omega)
        rw [show (⟨tMe, g, k, 0⟩ : Rx).acct = k from rfl, show (⟨tMe, g, k, 0⟩ : Rx).at_ = 0 from rfl, hm] at HP
        have HK13 := Lib.hid hK13
        have Hb13 := Lib.hid hb13
        clear hm hK13 hb13 hF13 HB2 HK12 Hb12 hA12
        go_wp2_with fail
        refine HP.out.mono ?_
        rintro e w14 ⟨v14, rfl, hO14, hF14⟩
        obtain ⟨A14, c14, rfl, hs14⟩ := hO14.sl
        have h14 := hF14.size
        have hA14 := Lib.hid (hA13.out.keep (S' := fun b => w5.heap.size ≤ b ∧ b < w6.heap.size) (fun p hp => hF14.cell (by have := hp.2; omega)) (fun _ h => h))
        clear hO14 HP hA13
        go_wp2_with fail
        refine (as12_c A14 c14 E w14 hs14 (by omega)).mono ?_
        rintro e w15 ⟨v15, rfl, hO15, hF15⟩
        obtain ⟨A15, c15, rfl, hs15⟩ := hO15.sl
        have h15 := hF15.size
        have hA15 := Lib.hid (hA14.out.keep (S' := fun b => w5.heap.size ≤ b ∧ b < w6.heap.size) (fun p hp => hF15.cell (by have := hp.2; omega)) (fun _ h => h))
        clear hO15 hs14 hA14
        go_wp2_with fail
        refine (as12_c Aa ca E w15 (hA15.out.mono (fun b hb => by have := hb.2; omega)) (by omega)).mono ?_
        rintro e w16 ⟨v16, rfl, hO16, hF16⟩
        obtain ⟨A16, c16, rfl, hs16⟩ := hO16.sl
        have h16 := hF16.size
        have hs15 := hs15.later hF16
        clear hO16 hA15
        go_wp2_with fail
        refine (same12_c _ _ A15 A16 c15 c16 E E w16 hs15 hs16).mono ?_
        rintro e w17 ⟨rfl, hF17⟩
        rw [decide_eq_true (show E = E from rfl)]
        have hb1317 := hF14.trans ((hF15.mono h14).trans ((hF16.mono (by omega)).trans (hF17.mono (by omega))))
        have hK17 := HK13.out.later hb1317
        have hb17 := Hb13.out.trans (hb1317.mono (by have := Hb13.out.size; omega))
        have HT := Lib.hid (stake_bad tMe ((E.length : Int) + 1) ⟨tMe, g, k, 0⟩ w17 hK17 (getRd_me g k 0) (Nat.zero_le _) (.inr (by show ((((T.get k).drop 0).length : Nat) : Int) < _; rw [List.drop_zero, hE]; omega)))
        have Hb17 := Lib.hid hb17
        clear hs15 hs16 hF14 hF15 hF16 hF17 hb1317 hK17 hb17 HK13 Hb13
        go_wp2_with fail
        refine HT.out.mono ?_
        rintro e w18 ⟨rfl, hF18⟩
        have hbe := Hb17.out.trans (hF18.mono (by have := Hb17.out.size; omega))
        clear hF18 HT
        go_wp2
        go_ret
        exact ⟨rfl, hbe⟩
end Go.Proofs.YtdkkblhfjblpkaaGreat
