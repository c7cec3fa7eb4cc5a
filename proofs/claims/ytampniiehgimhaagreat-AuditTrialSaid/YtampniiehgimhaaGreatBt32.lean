/- Texts of this claim, laid together. -/
import Derived.Test.YtampniiehgimhaaGreatRows
import Derived.Test.YtampniiehgimhaaGreatBt31
import Derived.Test.YtampniiehgimhaaGreatBt30
import Derived.Test.YtampniiehgimhaaGreatBs5
import Derived.Test.YtampniiehgimhaaGreatBs9
import Derived.Test.YtampniiehgimhaaGreatBs1
import Derived.WalkKit
import Derived.WalkSpells
import Derived.WalkLawsBesides
import Derived.Deep.QuietTactic
import Derived.BigQuiet
import Derived.Laws.StructEq
import Derived.Deep.DeepFit
import Derived.StillTailTactics
import Derived.Test.YtampniiehgimhaaGreatBs23
import Derived.Test.YtampniiehgimhaaGreatBtX

/- audit: amount, Trial, Between, Errors, Notes -/
namespace Go.Proofs.YtampniiehgimhaaGreat
open Go.RowKit
theorem moved_names {l : List Od} (hx : ∀ x ∈ l, OdB x) (a b : Int) : ∀ k ∈ namesL (legsR (movedL l) a b), k.size ≤ 8 := fun k hk => by
 obtain ⟨y, hy, rfl⟩ := namesL_mem.1 hk
 obtain ⟨x, hm, hy⟩ := List.mem_flatMap.1 hy
 obtain ⟨h1, h2⟩ := movedL_mem hx hm
 split at hy
 ·clear hk
  obtain ⟨r1, r2, r3⟩ := rightB_kinds h2.right
  unfold mvL at hy
  split at hy
  ·rename_i k2; exact nameB_sz (legsB_names (r1 k2) y hy)
  ·rename_i k2
   have h4 := h2.kind.resolve_left k2
   unfold legs2 at hy
   rcases List.mem_cons.1 hy with rfl | hy
   ·exact nameB_sz (r2 k2 (by omega))
   ·obtain rfl := List.mem_singleton.1 hy
    exact nameB_sz (r3 h4)
 ·cases hy
theorem keysF_c (mb : Option Nat) (W : World) : Calls Tryz.prog 89 #[.map mb] W fun e w' => e = .returned (.func (.func 129) #[] #[.pointer (some ⟨W.heap.size, 0, none⟩)]) ∧ w' = W.alloc (.cells #[.map mb] 173) :=
 (callsIn_wide (n := 5)).1 (AnyZ.keys_in Tryz.keysF Fence.wide 5 trivial rfl mb W)
set_option maxRecDepth 100000 in
set_option maxHeartbeats 2000000 in
theorem sortedF_c (b : Nat) (T : List Fl) (N : List ByteArray) (W : World) (h : MapIs Value.string W b (flEnts T)) (hr : (T.map Fl.name).Perm N) (hs : SrtL bless N) (hok : ∀ k ∈ N, k.size ≤ 8) (hn : N.length ≤ 65536) :
  Calls Tryz.prog 88 #[.func (.func 129) #[] #[.pointer (some ⟨W.heap.size, 0, none⟩)]] (W.alloc (.cells #[.map (some b)] 173)) fun e w' =>
   ∃ v, e = .returned v ∧ Own w' (W.heap.size + 1) 9 v N ∧ Below (W.heap.size + 1) (W.alloc (.cells #[.map (some b)] 173)) w' := by
 have hML : (flEnts T).length = N.length := by unfold flEnts; rw [List.length_map]; have := hr.length_eq; simpa using this
 have hsz : ∀ p ∈ flEnts T, p.1.size ≤ 8 := fun p hp => by
  obtain ⟨q, hq, rfl⟩ := List.mem_map.1 hp
  exact hok _ (hr.mem_iff.1 (List.mem_map.2 ⟨q, hq, rfl⟩))
 obtain ⟨D0, hown, hk, hz⟩ := ownsMap_of (P := Tryz.prog) (k := 9) Tryz.underlying9 h (by rw [hML]; unfold maxLen; omega) (fun p hp => by have := hsz p hp; unfold maxLen; omega)
 refine (callsIn_wide (n := 5)).1 ?_
 have hbl := hown.lt
 have hseq : SeqGives Fence.wide 2 Tryz.prog 129 #[.pointer (some ⟨W.heap.size, 0, none⟩)] _root_.Go.Proofs.encStr (fun ss => ss.Perm (strKeys D0)) (Maps.size D0) (W.alloc (.cells #[.map (some b)] 173)) :=
  AnyZ.keys_gives (ρ := Tryz.keysF_ren) { Tryz.keysF with } Fence.wide _ trivial rfl (by omega) W.heap.size b (flEnts T).length D0 _ (by simp) (by simp) (by
   obtain ⟨es, clock, hb, Ft, hs, hD⟩ := hown
   exact ⟨es, clock, (Below.heap_alloc _ _ b hbl).trans hb, Ft, hs, hD⟩)
 have cS := AnyZ.sorted_in Tryz.sortedA Fence.wide 5 trivial trivial trivial trivial rfl (by omega) (sortsA _) (enters_of Tryz.func121 (by kernel_rfl) rfl) 129 #[.pointer (some ⟨W.heap.size, 0, none⟩)] trivial (enters_of Tryz.func129 (by kernel_rfl) rfl) _ _ (by rw [hz, hML]; unfold maxLen; omega) (by rw [hz, hML]; omega) _ hseq
 change CallsIn _ _ Tryz.prog 88 _ _ _ at cS
 refine cS.mono ?_
 rintro e w' ⟨v, ss, rfl, hS, hrow, hnil, hb⟩
 have hp : ss.Perm (N.map fun a => a.data.toList) := by
  refine (hS.trans hk).trans ?_
  have := hr.map (fun a : ByteArray => a.data.toList)
  refine List.Perm.trans (List.Perm.of_eq ?_) this
  unfold flEnts
  rw [List.map_map, List.map_map]
  rfl
 have hlen : ss.length = N.length := by rw [hp.length_eq, List.length_map]
 rw [sorted_keys hp hs, hlen] at hrow
 refine ⟨v, rfl, ⟨?_, fun x hx => ?_⟩, by simpa using hb⟩
 ·rw [flat1]
  have hs : (W.alloc (.cells #[.map (some b)] 173)).heap.size = W.heap.size + 1 := by simp
  rw [hs] at hrow
  exact hrow
 ·have := hok x hx
  show x.size ≤ maxLen
  unfold maxLen; omega
def orE (a b c : Int) : Int := if a ≠ 0 then a else if b ≠ 0 then b else c
set_option maxRecDepth 100000 in
set_option maxHeartbeats 4000000 in
theorem orE_c (a b c : Int) (g : Nat) (w : World) (h0 : w.cell? ⟨g, 0, none⟩ = some (i64 a)) (h1 : w.cell? ⟨g, 1, none⟩ = some (i64 b)) (h2 : w.cell? ⟨g, 2, none⟩ = some (i64 c)) :
  Calls Tryz.prog 92 #[.slice (some ⟨g, 0, none⟩) 3 3] w fun e w' => e = .returned (i64 (orE a b c)) ∧ w = w' := by
 have HC := Lib.hid (show orE a b c = if a ≠ 0 then a else if b ≠ 0 then b else c from rfl)
 generalize orE a b c = r at *
 go_enter Tryz.func92, Tryz.ntmps92
 go_wp2
 refine wp_loop_rounds 4 ?_
 rw [rounds_succ]
 by_cases ha : a = 0
 ·have HR := Lib.hid (show r = if b ≠ 0 then b else c by rw [HC.out, if_neg (by simpa using ha)])
  subst ha
  clear HC
  go_wp2
  rw [rounds_succ]
  by_cases hb : b = 0
  ·have HR2 := Lib.hid (show r = c by rw [HR.out, if_neg (by simpa using hb)])
   subst hb
   clear HR
   go_wp2
   rw [rounds_succ]
   by_cases hc : c = 0
   ·have HR3 := Lib.hid (show r = 0 by rw [HR2.out, hc])
    subst hc
    clear HR2
    go_wp2
    rw [rounds_succ]
    go_wp2
    go_ret
    exact ⟨by rw [HR3.out]; rfl, rfl⟩
   ·have g2 : (c != 0) = true := by simpa using hc
    clear hc
    go_wp2
    go_ret
    exact ⟨by rw [HR2.out]; rfl, rfl⟩
  ·have g2 : (b != 0) = true := by simpa using hb
   have HR2 := Lib.hid (show r = b by rw [HR.out, if_pos hb])
   clear hb HR
   go_wp2
   go_ret
   exact ⟨by rw [HR2.out]; rfl, rfl⟩
 ·have g1 : (a != 0) = true := by simpa using ha
  have HR := Lib.hid (show r = a by rw [HC.out, if_pos ha])
  clear ha HC
  go_wp2
  go_ret
  exact ⟨by rw [HR.out]; rfl, rfl⟩
theorem orE_ok {ls : List Leg} {k : ByteArray} : okLn ls k = true ↔ orE (sumR (sumL (inK ls k))).2 (sumR (sumL (outK ls k))).2 (sumR (0 - (sumR (sumL (outK ls k))).1)).2 = 0 := by
 unfold okLn orE
 simp only [Bool.and_eq_true, decide_eq_true_eq]
 split
 ·rename_i h; exact ⟨fun e => absurd e.1 h, fun e => absurd e h⟩
 ·rename_i h
  split
  ·rename_i h2; exact ⟨fun e => absurd e.2.1 h2, fun e => absurd e h2⟩
  ·rename_i h2
   exact ⟨fun e => e.2.2, fun e => ⟨by simpa using h, by simpa using h2, e⟩⟩
theorem trial_step {ls : List Leg} {N : List ByteArray} {k : Nat} (hk : k < N.length) (h : ∀ n ∈ N.take k, okLn ls n = true) (h2 : okLn ls N[k] = true) : ∀ n ∈ N.take (k + 1), okLn ls n = true := fun n hn => by
 rw [List.take_succ_eq_append_getElem hk] at hn
 rcases List.mem_append.1 hn with hn | hn
 ·exact h n hn
 ·rw [List.mem_singleton.1 hn]; exact h2
theorem trial_bad {ls : List Leg} {k : ByteArray} (hk : k ∈ namesL ls) (h : okLn ls k = false) : trialL ls = ([], 2) := by
 unfold trialL
 rw [if_neg]
 rw [List.all_eq_true]
 intro e
 rw [e k hk] at h
 cases h
theorem trial_good {ls : List Leg} (h : ∀ k ∈ namesL ls, okLn ls k = true) : trialL ls = ((namesL ls).map (lineOf ls), 0) := by
 unfold trialL
 rw [if_pos (List.all_eq_true.2 h)]
set_option maxRecDepth 100000 in
set_option maxHeartbeats 16000000 in
theorem atrial_c (A : Option Addr) (c : Nat) (l : List Od) (p : Int) (w : World) (h : Sl w w.heap.size A c l) (hx : ∀ x ∈ l, OdB x) (hl : ∀ x ∈ l, x.legs.length ≤ 65536) (hn : l.length ≤ 10000) :
  Calls Tryz.prog 49 #[.slice A l.length c, i64 p] w fun e w' => ∃ v, e = .returned (.tuple #[v, i64 (trialL (legsR (movedL l) 0 p)).2]) ∧ Own w' w.heap.size 104 v (trialL (legsR (movedL l) 0 p)).1 ∧ Below w.heap.size w w' := by
 have hN := Lib.hid (aflows_c A c l 0 p w h hx hl hn)
 have Hsz := Lib.hid (moved_names hx 0 p)
 have Hsum := Lib.hid (legsR_sums hx 0 p)
 have hlen := legsR_len hx 0 p
 have hNl := namesL_len (legsR (movedL l) 0 p)
 have Hsr := Lib.hid (namesL_srt (legsR (movedL l) 0 p))
 have hlc : l.length ≤ c := h.1
 clear h hx hl
 generalize legsR (movedL l) 0 p = ls at *
 have Hbad := Lib.hid (fun k (hk : k ∈ namesL ls) => trial_bad hk)
 have Hgood := Lib.hid (trial_good (ls := ls))
 generalize trialL ls = R at *
 generalize namesL ls = N at *
 go_enter Tryz.func49, Tryz.ntmps49
 go_wp2_with fail
 refine hN.out.mono ?_
 rintro e w1 ⟨b, T, rfl, hK, hR, hbz, hF⟩
 have hK1 := Lib.hid (keysF_c (some b) w1)
 have hS := Lib.hid (sortedF_c b T N w1 hK.map hR.perm Hsr.out Hsz.out (by omega))
 have HK := Lib.hid hK
 have HR := Lib.hid hR
 have HF := Lib.hid hF
 have hw1 := hF.size
 clear hN hK hR hF Hsr
 go_wp2_with fail
 refine hK1.out.mono ?_
 rintro e w2 ⟨rfl, rfl⟩
 go_wp2_with fail
 refine hS.out.mono ?_
 rintro e w3 ⟨kv, rfl, hkv, hF2⟩
 have hB2 : Below w1.heap.size w1 w3 := ((Below.refl _ w1).alloc (Nat.le_refl _) _).trans (hF2.mono (Nat.le_succ _))
 have HK3 := Lib.hid (HK.out.later hB2)
 obtain ⟨An, cn, rfl, hsn⟩ := hkv.sl
 have hcn : N.length ≤ cn := hsn.1
 have Hsn := Lib.hid (fun V (hV : Below w3.heap.size w3 V) => hsn.later hV)
 have Hb3 := Lib.hid (HF.out.trans (hB2.mono hw1))
 have hw3 := hB2.size
 clear hK1 hS hF2 hB2 hkv hsn HK HF
 go_wp2_with fail
 go_loopw [7, 23] (fun v i wr => ∃ k : Nat, i = i64 k ∧ k ≤ N.length ∧ Own wr w3.heap.size 104 v ((N.take k).map (lineOf ls)) ∧ (∀ n ∈ N.take k, okLn ls n = true) ∧ Below w3.heap.size w3 wr) (fun _ i _ => N.length - (intOf i).toNat)
 case atStart => exact ⟨0, rfl, Nat.zero_le _, Own.nil_ _ _ _, fun n hn => (by rw [List.take_zero] at hn; cases hn), Below.refl _ _⟩
 case round =>
  obtain ⟨k, rfl, hk, hO, hok, hb⟩ := hrel
  obtain ⟨wo, rfl⟩ : ∃ wo, wo = wr := ⟨wr, rfl⟩
  by_cases hlt : k < N.length
  ·have g1 : decide ((k : Int) < (N.length : Int)) = true := decide_eq_true (by omega)
   have g2 : decide (k < N.length) = true := decide_eq_true hlt
   have i0 : (0 : Int) ≤ (k : Int) := by omega
   have i1 : (k : Int) < (N.length : Int) := by omega
   obtain ⟨bn, on, rfl, -, hsz, n0⟩ := (Hsn.out _ hb).str hlt
   have HMem := Lib.hid (show N[k] ∈ N from List.getElem_mem hlt)
   have Hstep := Lib.hid (fun h2 => trial_step (ls := ls) hlt hok h2)
   have Htk := Lib.hid (show (N.take (k + 1)).map (lineOf ls) = (N.take k).map (lineOf ls) ++ [lineOf ls N[k]] by rw [List.take_succ_eq_append_getElem hlt, List.map_append]; rfl)
   have Hlen := Lib.hid (show ((N.take k).map (lineOf ls)).length + 1 ≤ 4294967296 by rw [List.length_map, List.length_take]; omega)
   generalize (N.take k).map (lineOf ls) = out at *
   obtain ⟨nm, hnm⟩ : ∃ nm, N[k] = nm := ⟨_, rfl⟩
   simp only [hnm] at n0 hsz HMem Hstep Htk
   have hKo := HK3.out.later hb
   cases hg : getF T nm with
   | none => exact absurd HMem.out ((HR.out.none_ nm).1 hg)
   | some X =>
    obtain ⟨hX, hXn⟩ := getF_mem hg
    have hlk := hKo.look nm
    rw [hg] at hlk
    simp only [Option.map_some, Option.getD_some] at hlk
    have hli := HR.out.inn X hX
    have hlo := HR.out.out X hX
    rw [hXn] at hli hlo
    obtain ⟨Ai, ci, hvi, hsi⟩ := (hKo.inn X hX).sl
    obtain ⟨Ao, co, hvo, hso⟩ := (hKo.out X hX).sl
    have hxc := hKo.cell X hX
    have hxp : X.p < wo.heap.size := (Array.getElem?_eq_some_iff.1 hxc).1
    rw [hvi, hvo] at hxc
    rw [hli] at hsi hxc
    rw [hlo] at hso hxc
    have r0 := cell_of_row _ X.p 0 _ _ (0, 0) hxc
    simp only [List.getElem?_toArray, List.getElem?_cons_zero] at r0
    have HT1 := Lib.hid (total_c Ai ci (inK ls nm) wo hsi (by have := inK_len ls nm; omega) (fun a ha => by obtain ⟨y, hy, rfl⟩ := inK_sub ls nm a ha; exact Hsum.out y hy))
    have HT2 := Lib.hid (fun V (hV : Below wo.heap.size wo V) => total_c Ao co (outK ls nm) V (hso.later hV) (by have := outK_len ls nm; omega) (fun a ha => by obtain ⟨y, hy, rfl⟩ := outK_sub ls nm a ha; exact Hsum.out y hy))
    have HLk := Lib.hid (fun V (hV : Below wo.heap.size wo V) => (hKo.later hV).look nm)
    rw [hg] at HLk
    simp only [Option.map_some, Option.getD_some] at HLk
    have hokn := orE_ok (ls := ls) (k := nm)
    have Hln := Lib.hid (show lineOf ls nm = ⟨nm, (sumR (sumL (inK ls nm))).1, (sumR (0 - (sumR (sumL (outK ls nm))).1)).1⟩ from rfl)
    have hr64 := sumR_R64 (sumL (outK ls nm))
    have HLess := Lib.hid (fun V => less_c 0 (sumR (sumL (outK ls nm))).1 V R64_0 hr64)
    have Hxc := Lib.hid hxc
    have HO := Lib.hid hO
    have Hokn := Lib.hid hokn
    have Hb := Lib.hid hb
    have Hno := Lib.hid hok
    clear hli hlo hvi hvo hsi hso hg hX hKo hr64 hO hxc hokn hb hnm hok hXn HR
    generalize inK ls nm = Li at *
    generalize outK ls nm = Lo at *
    generalize sumR (sumL Li) = S1 at *
    generalize sumR (sumL Lo) = S2 at *
    generalize sumR (0 - S2.1) = S3 at *
    go_wp2_with fail
    refine HT1.out.mono ?_
    rintro e w4 ⟨rfl, hF4⟩
    have hlk4 := HLk.out _ hF4
    have hxc4 := (hF4.block X.p hxp).trans Hxc.out
    have r1 := cell_of_row _ X.p 1 _ _ (0, 0) hxc4
    simp only [List.getElem?_toArray, List.getElem?_cons_zero, List.getElem?_cons_succ] at r1
    have HT4 := Lib.hid (HT2.out _ hF4)
    have hw4 := hF4.size
    clear HT1 HT2 HLk hlk r0 hxc4
    go_wp2_with fail
    refine HT4.out.mono ?_
    rintro e w5 ⟨rfl, hF5⟩
    have hb5 := hF4.trans (hF5.mono hw4)
    clear HT4 hF4 hF5 hlk4 r1
    go_wp2_with fail
    refine (HLess.out _).mono ?_
    rintro e w6 ⟨rfl, hF6⟩
    have hb6 := hb5.trans (hF6.mono hb5.size)
    have hba := (Below.refl w6.heap.size w6).alloc (Nat.le_refl _) (.cells #[i64 S1.2, i64 S2.2, i64 S3.2] 29)
    have hal := heap_alloc_new w6 (.cells #[i64 S1.2, i64 S2.2, i64 S3.2] 29)
    have t0 := cell_of_row _ w6.heap.size 0 _ _ (0, 0) hal
    have t1 := cell_of_row _ w6.heap.size 1 _ _ (0, 0) hal
    have t2 := cell_of_row _ w6.heap.size 2 _ _ (0, 0) hal
    simp only [List.getElem?_toArray, List.getElem?_cons_zero, List.getElem?_cons_succ] at t0 t1 t2
    have HOr := Lib.hid (orE_c S1.2 S2.2 S3.2 w6.heap.size _ t0 t1 t2)
    have hb7 := hb6.trans (hba.mono hb6.size)
    clear HLess hF6 hal t0 t1 t2 hb5 hba
    go_wp2_with fail
    refine HOr.out.mono ?_
    rintro e w7 ⟨rfl, rfl⟩
    obtain ⟨oe, hoe⟩ : ∃ oe, orE S1.2 S2.2 S3.2 = oe := ⟨_, rfl⟩
    rw [hoe] at Hokn ⊢
    clear HOr hoe
    have hbw := Hb.out.trans (hb7.mono Hb.out.size)
    by_cases h0 : oe = 0
    ·have e0 : (oe != 0) = false := by simp [h0]
     have HO2 := Lib.hid (HO.out.later hb7)
     have hba2 := (Below.refl _ (w6.alloc (.cells #[i64 S1.2, i64 S2.2, i64 S3.2] 29))).alloc (Nat.le_refl _) (.cells #[.string nm, i64 S1.1, i64 S3.1] 104)
     have HO3 := Lib.hid (HO2.out.later hba2)
     have Hne := Lib.hid (HO2.out.new_ne (Nat.le_refl _))
     have HH := Lib.hid (heap_alloc_new (w6.alloc (.cells #[i64 S1.2, i64 S2.2, i64 S3.2] 29)) (.cells #[.string nm, i64 S1.1, i64 S3.1] 104))
     have hzz : (w6.alloc (.cells #[i64 S1.2, i64 S2.2, i64 S3.2] 29)).heap.size = w6.heap.size + 1 := by simp
     rw [hzz] at HH Hne
     have Hb8 := Lib.hid (hbw.alloc hbw.size (.cells #[.string nm, i64 S1.1, i64 S3.1] 104))
     have HokT := Lib.hid (Hstep.out (Hokn.out.2 h0))
     have Hsz8 := Lib.hid hsz
     clear h0 hba2 hb6 hb7 HO HO2 Hb hbw Hokn Hstep Hxc hsz
     go_wp2_with (at_builtin; refine wpList_append_one rfl (some 64) (.tmp 58) (.tmp 63) 95 rfl rfl _ 32 Tryz.underlying95 lnInfo rfl (by decide) (by decide) rfl HO3.out (w6.heap.size + 1) (⟨nm, S1.1, S3.1⟩ : Ln) rfl _ 104 HH.out rfl Hne.out Hsz8.out Hlen.out Hb8.out.size ?_; intro v9 w9 hO9 hg9 hat9)
     go_roundw
     case rel => exact ⟨k + 1, by go_num, by omega, by rw [Htk.out, Hln.out]; exact hO9, HokT.out, Hb8.out.trans (HO3.out.below hg9 (Nat.le_refl _) Hb8.out.size)⟩
     case measure => simp [intOf]; omega
    ·have e0 : (oe != 0) = true := by simpa using h0
     have HRb := Lib.hid (Hbad.out nm HMem.out (by
      cases hq : okLn ls nm with
      | false => rfl
      | true => exact absurd (Hokn.out.1 hq) h0))
     have Hbw := Lib.hid (Hb3.out.trans (hbw.mono (Nat.le_trans hw1 hw3)))
     clear h0 hb6 hb7 HO Hb hbw Hokn Hstep Hxc Hbad Hgood
     go_wp2
     go_ret2
     exact ⟨.slice none 0 0, by rw [HRb.out]; rfl, by rw [HRb.out]; exact Own.nil_ _ _ _, Hbw.out⟩
  ·obtain rfl : k = N.length := by omega
   have g1 : decide ((N.length : Int) < (N.length : Int)) = false := decide_eq_false (by omega)
   rw [List.take_length] at hO hok
   have HRg := Lib.hid (Hgood.out hok)
   have HO := Lib.hid hO
   clear hO hok
   go_wp2
   go_ret2
   exact ⟨_, by rw [HRg.out]; rfl, by rw [HRg.out]; exact HO.out.mono (by omega), Hb3.out.trans (hb.mono (by omega))⟩
end Go.Proofs.YtampniiehgimhaaGreat
/- audit: Between, Notes -/
namespace Go.Proofs.YtampniiehgimhaaGreat
open Go.RowKit
theorem oper_lit_sv2 {o : Oper} {a : Act} {w : World} {K : Act → World → Prop} {Q : Exit → Act → World → Prop} (n m : Nat) (ho : o.op = .buildSlice 223 2 #[(0, .tmp n), (1, .tmp m)]) (A B : Option Addr) (p c q d : Nat) (hx : a.tmps[n]?.getD undef = .slice A p c) (hy : a.tmps[m]?.getD undef = .slice B q d)
  (hK : K (a.put o.dst (.slice (some ⟨w.heap.size, 0, none⟩) 2 2)) (w.alloc (.cells #[.slice A p c, .slice B q d] 181))) : Oper.wp Tryz.prog o a w K Q := by
 obtain ⟨dd, op, t, ps, af, gd⟩ := o
 dsimp only at ho hK
 subst ho
 go_simp
 exact hK
theorem idInfo : (Tryz.prog.info? 34).map (fun i => (i.zero, i.size, i.bytes)) = some (some (.agg #[i64 0, i64 0]), Enc.size Id, 16) := by kernel_rfl
theorem bytes_ext {a b : ByteArray} (h : a.toList = b.toList) : a = b := by
 rw [ByteArray.toList_eq, ByteArray.toList_eq] at h
 exact ByteArray.ext (Array.toList_inj.1 h)
theorem sl_two {w : World} {g : Nat} {A B : Option Addr} {c d : Nat} {l m : List Int} {T : TypeId} (h : (w.alloc (.cells #[.slice A l.length c, .slice B m.length d] T)).heap[g]? = some (.cells #[.slice A l.length c, .slice B m.length d] T (0, 0))) (hl : Sl (w.alloc (.cells #[.slice A l.length c, .slice B m.length d] T)) (w.alloc (.cells #[.slice A l.length c, .slice B m.length d] T)).heap.size A c l) (hm : Sl (w.alloc (.cells #[.slice A l.length c, .slice B m.length d] T)) (w.alloc (.cells #[.slice A l.length c, .slice B m.length d] T)).heap.size B d m) :
  Sl (w.alloc (.cells #[.slice A l.length c, .slice B m.length d] T)) (w.alloc (.cells #[.slice A l.length c, .slice B m.length d] T)).heap.size (some ⟨g, 0, none⟩) 2 [(⟨A, c, l⟩ : SV Int), ⟨B, d, m⟩] := by
 refine ⟨Nat.le_refl _, by simp [maxLen], fun _ => ⟨g, 0, rfl, (Array.getElem?_eq_some_iff.1 h).1, fun j u hu => ?_⟩, fun x hx => ?_⟩
 ·rw [cell_of_row _ g (0 + j) _ T (0, 0) h, Nat.zero_add]
  have e : [(⟨A, c, l⟩ : SV Int), ⟨B, d, m⟩].flatMap Enc.cells = [.slice A l.length c, .slice B m.length d] := rfl
  rw [e] at hu
  simpa using hu
 ·rcases List.mem_cons.1 hx with rfl | hx
  ·exact hl
  ·rw [List.mem_singleton.1 hx]; exact hm
theorem sumL_inout (ls : List Leg) (k : ByteArray) : sumL (inK ls k ++ outK ls k) = sumL (allK ls k) := by rw [sumL_app, in_out]
theorem betw_none {ls : List Leg} {k : ByteArray} (h : k ∉ namesL ls) : betwL ls k = (0, 0) := by
 have : allK ls k = [] := by
  unfold allK
  rw [List.filter_eq_nil_iff.2 fun x hx => by simpa using fun e => h (namesL_mem.2 ⟨x, hx, e⟩)]; rfl
 unfold betwL
 rw [this]; rfl
set_option maxRecDepth 100000 in
set_option maxHeartbeats 8000000 in
theorem abetw_c (A : Option Addr) (c : Nat) (l : List Od) (k : ByteArray) (fa fb : Int) (w : World) (h : Sl w w.heap.size A c l) (hx : ∀ x ∈ l, OdB x) (hl : ∀ x ∈ l, x.legs.length ≤ 65536) (hn : l.length ≤ 5000) :
  Calls Tryz.prog 51 #[.slice A l.length c, .string k, i64 fa, i64 fb] w fun e w' => e = .returned (.tuple #[i64 (betwL (legsR (movedL l) fa fb) k).1, i64 (betwL (legsR (movedL l) fa fb) k).2]) ∧ Below w.heap.size w w' := by
 have hN := Lib.hid (aflows_c A c l fa fb w h hx hl (by omega))
 have Hsum := Lib.hid (legsR_sums hx fa fb)
 have hlen := legsR_len hx fa fb
 have hlc : l.length ≤ c := h.1
 clear h hx hl
 generalize legsR (movedL l) fa fb = ls at *
 have Hnone := Lib.hid (betw_none (ls := ls) (k := k))
 have HR := Lib.hid (show betwL ls k = sumR (sumL (inK ls k ++ outK ls k)) by unfold betwL; rw [sumL_inout])
 generalize betwL ls k = R at *
 go_enter Tryz.func51, Tryz.ntmps51
 go_wp2_with fail
 refine hN.out.mono ?_
 rintro e w1 ⟨b, T, rfl, hK, hR, hbz, hF⟩
 have hlk := hK.look k
 have hw1 := hF.size
 cases hg : getF T k with
 | none =>
  rw [hg] at hlk
  simp only [Option.map_none, Option.getD_none] at hlk
  have H0 := Lib.hid (Hnone.out ((hR.none_ k).1 hg))
  clear hg hK hR HR Hnone hN
  go_wp2
  go_ret2
  exact ⟨by rw [H0.out]; rfl, hF⟩
 | some X =>
  rw [hg] at hlk
  simp only [Option.map_some, Option.getD_some] at hlk
  obtain ⟨hX, hXn⟩ := getF_mem hg
  have hli := hR.inn X hX
  have hlo := hR.out X hX
  rw [hXn] at hli hlo
  obtain ⟨Ai, ci, hvi, hsi⟩ := (hK.inn X hX).sl
  obtain ⟨Ao, co, hvo, hso⟩ := (hK.out X hX).sl
  have hxc := hK.cell X hX
  have hxp : X.p < w1.heap.size := (Array.getElem?_eq_some_iff.1 hxc).1
  rw [hvi, hvo] at hxc
  rw [hli] at hsi hxc
  rw [hlo] at hso hxc
  have hil : (inK ls k).length ≤ 30000 := by have := inK_len ls k; omega
  have hol : (outK ls k).length ≤ 30000 := by have := outK_len ls k; omega
  have Hin := Lib.hid (show ∀ a ∈ inK ls k ++ outK ls k, R64 a from fun a ha => by
   rcases List.mem_append.1 ha with ha | ha
   ·obtain ⟨y, hy, rfl⟩ := inK_sub ls k a ha; exact Hsum.out y hy
   ·obtain ⟨y, hy, rfl⟩ := outK_sub ls k a ha; exact Hsum.out y hy)
  have Hsi := Lib.hid (fun V (hV : Below w1.heap.size w1 V) => hsi.later hV)
  have Hso := Lib.hid (fun V (hV : Below w1.heap.size w1 V) => hso.later hV)
  have HF := Lib.hid hF
  generalize inK ls k = Li at *
  generalize outK ls k = Lo at *
  have HS : Hid (∀ V, Below w1.heap.size w1 V → (fun V : World => Below w1.heap.size w1 V ∧ V.cell? ⟨X.p, 0, none⟩ = some (.slice Ai Li.length ci) ∧ V.cell? ⟨X.p, 1, none⟩ = some (.slice Ao Lo.length co)) V) := Lib.hid fun V hV => by
   have h1 := (hV.block X.p hxp).trans hxc
   exact ⟨hV, cell_of_row _ X.p 0 _ _ (0, 0) h1, cell_of_row _ X.p 1 _ _ (0, 0) h1⟩
  clear hvi hvo hsi hso hg hX hK hR hXn Hnone hli hlo hN hF hxc
  go_upto_region 4 with fail
  refine wp_region_noPanic ?_
  refine wp_region_l 14 (fun V : World => Below w1.heap.size w1 V ∧ V.cell? ⟨X.p, 0, none⟩ = some (.slice Ai Li.length ci) ∧ V.cell? ⟨X.p, 1, none⟩ = some (.slice Ao Lo.length co)) (by kernel_rfl) (HS.out _ (Below.refl _ _).drew) (fun hH => ?_)
  have hbd := (Below.refl w1.heap.size w1).drew
  generalize w1.drew = Wd at *
  refine tkZ 0 ?_; refine tkZ 1 ?_; refine tkZ 2 ?_; refine tkZ 3 ?_; refine tkZ 4 ?_; refine tkZ 5 ?_; refine tkZ 6 ?_; refine tkZ 7 ?_
  refine tkO 8 (fun K hK => ?_)
  refine oper_lit_sv2 22 26 rfl Ai Ao Li.length ci Lo.length co rfl rfl ?_
  have hbu := hbd.alloc hbd.size (.cells #[.slice Ai Li.length ci, .slice Ao Lo.length co] 181)
  have hal := heap_alloc_new Wd (.cells #[.slice Ai Li.length ci, .slice Ao Lo.length co] 181)
  have HSl := Lib.hid (sl_two hal (Hsi.out _ hbu) (Hso.out _ hbu))
  have HBu := Lib.hid hbu
  clear hal
  refine hK.out _ _ (HS.out _ hbu) (fun hH => ?_)
  clear hK K
  try simp only [Act.put, uA, uZ, uS, vA, vZ, vS]
  clear hbu
  refine tkO 9 (fun K hK => ?_)
  refine oper_call1 97 27 _ rfl _ rfl (enters_of Tryz.func97 (by kernel_rfl) rfl) ?_
  refine (concat_i64 _ 2 [⟨Ai, ci, Li⟩, ⟨Ao, co, Lo⟩] _ HSl.out (by simp) (by simp; omega)).mono ?_
  rintro e u1 ⟨vc, rfl, hOc, hFc⟩
  refine ⟨_, rfl, ?_⟩
  have hbu2 := below_on HBu.out (Nat.le_refl _) hFc
  have HB2 := Lib.hid hbu2
  have hOc : Own u1 (Wd.alloc (.cells #[.slice Ai Li.length ci, .slice Ao Lo.length co] 181)).heap.size 2 vc (Li ++ Lo) := by simpa using hOc
  obtain ⟨Ac, cc, rfl, hsc⟩ := hOc.sl
  have HT := Lib.hid (total_c Ac cc _ u1 hsc (by rw [List.length_append]; omega) Hin.out)
  clear hFc hOc hsc HSl
  refine hK.out _ _ (HS.out _ hbu2) (fun hH => ?_)
  clear hK K
  try simp only [Act.put, uA, uZ, uS, vA, vZ, vS]
  clear hbu2
  refine tkO 10 (fun K hK => ?_)
  refine oper_call1 90 28 _ rfl _ rfl (enters_of Tryz.func90 (by kernel_rfl) rfl) ?_
  refine HT.out.mono ?_
  rintro e u2 ⟨rfl, hFt⟩
  refine ⟨_, rfl, ?_⟩
  have hbu3 := below_on HB2.out (Nat.le_refl _) hFt
  rw [← HR.out] at *
  clear hFt HT
  refine hK.out _ _ (HS.out _ hbu3) (fun hH => ?_)
  clear hK K
  try simp only [Act.put, uA, uZ, uS, vA, vZ, vS]
  refine tkZ 11 ?_; refine tkZ 12 ?_; refine tkZ 13 ?_
  refine tkL (fun K hK => ?_)
  go_simp
  refine hK.out _ _ ?_
  clear hK K
  try simp only [Act.put, uA, uZ, uS, vA, vZ, vS]
  refine tkD ?_
  have hbf := hH.1
  clear hH HS
  go_wp2
  go_ret2
  exact ⟨rfl, HF.out.trans (hbf.mono hw1)⟩
set_option maxRecDepth 100000 in
set_option maxHeartbeats 8000000 in
theorem anotes_c (A : Option Addr) (c : Nat) (l : List Od) (note : ByteArray) (w : World) (h : Sl w w.heap.size A c l) (hx : ∀ x ∈ l, OdB x) (hl : ∀ x ∈ l, x.legs.length ≤ 65536) (hn : l.length ≤ 60000) :
  Calls Tryz.prog 45 #[.slice A l.length c, .string note] w fun e w' => ∃ v, e = .returned v ∧ Own w' w.heap.size 34 v (((movedL l).filter fun x => decide (x.note = note)).map Od.id) ∧ Below w.heap.size w w' := by
 have hN := Lib.hid (amoved_c A c l w h hx hl hn)
 have hlc : l.length ≤ c := h.1
 have hLn : (movedL l).length ≤ 60000 := Nat.le_trans (movedL_len l) hn
 clear h hx hl
 generalize movedL l = L at *
 go_enter Tryz.func45, Tryz.ntmps45
 go_wp2_with fail
 refine hN.out.mono ?_
 rintro e w1 ⟨vm, rfl, hOm, hF⟩
 obtain ⟨Am, cm, rfl, hsm⟩ := hOm.sl
 have hcm : L.length ≤ cm := hsm.1
 have hw1 := hF.size
 have HL := Lib.hid (fun V (hV : Below w1.heap.size w1 V) => hsm.later hV)
 have HF1 := Lib.hid hF
 clear hN hOm hsm hF
 go_wp2_with fail
 go_loopw [5, 11] (fun v i wr => ∃ (k : Nat), i = i64 k ∧ k ≤ L.length ∧ Own wr w1.heap.size 34 v (((L.take k).filter fun x => decide (x.note = note)).map Od.id) ∧ Below w1.heap.size w1 wr) (fun _ i _ => L.length - (intOf i).toNat)
 case atStart => exact ⟨0, rfl, Nat.zero_le _, Own.nil_ _ _ _, Below.refl _ _⟩
 case round =>
  obtain ⟨k, rfl, hk, hO, hb⟩ := hrel
  obtain ⟨wo, rfl⟩ : ∃ wo, wo = wr := ⟨wr, rfl⟩
  by_cases hlt : k < L.length
  ·have g1 : decide ((k : Int) < (L.length : Int)) = true := decide_eq_true (by omega)
   have g2 : decide (k < L.length) = true := decide_eq_true hlt
   have i0 : (0 : Int) ≤ (k : Int) := by omega
   have i1 : (k : Int) < (L.length : Int) := by omega
   obtain ⟨b, o, rfl, hbb, hok, c0, c1, c2, c3, c4, c5, c6, c7, c8, c9⟩ := (HL.out _ hb).od hlt
   have Hlen := Lib.hid (show (((L.take k).filter fun x => decide (x.note = note)).map Od.id).length + 1 ≤ 4294967296 by
    rw [List.length_map]
    have := List.length_filter_le (fun x : Od => decide (x.note = note)) (L.take k)
    rw [List.length_take] at this
    omega)
   have Htk := Lib.hid (show ((L.take (k + 1)).filter fun x => decide (x.note = note)).map Od.id = ((L.take k).filter fun x => decide (x.note = note)).map Od.id ++ (if L[k].note = note then [L[k].id] else []) by
    rw [List.take_succ_eq_append_getElem hlt, List.filter_append, List.map_append]
    congr 1
    by_cases hq : L[k].note = note
    ·rw [if_pos hq, List.filter_cons_of_pos (by simpa using hq)]; rfl
    ·rw [if_neg hq, List.filter_cons_of_neg (by simpa using hq)]; rfl)
   generalize ((L.take k).filter fun x => decide (x.note = note)).map Od.id = out at *
   obtain ⟨x, hxk⟩ : ∃ x, L[k] = x := ⟨_, rfl⟩
   simp only [hxk] at c0 c1 c2 c3 c4 c5 c6 c7 c8 c9 hok Htk
   have hba := (Below.refl wo.heap.size wo).alloc (Nat.le_refl _) (.cells #[i64 x.client, i64 x.seq, i64 x.kind, .string x.acct, .string x.peer, i64 x.sum, .slice x.la x.legs.length x.lc, i64 x.period, i64 x.hold, .string x.note] 37)
   have hO1 := hO.later hba
   have hb1 := hb.alloc hb.size (.cells #[i64 x.client, i64 x.seq, i64 x.kind, .string x.acct, .string x.peer, i64 x.sum, .slice x.la x.legs.length x.lc, i64 x.period, i64 x.hold, .string x.note] 37)
   by_cases hq : x.note = note
   ·have q1 : (x.note.toList == note.toList) = true := by rw [hq]; simp
    rw [if_pos hq] at Htk
    have hba2 := (Below.refl _ (wo.alloc (.cells #[i64 x.client, i64 x.seq, i64 x.kind, .string x.acct, .string x.peer, i64 x.sum, .slice x.la x.legs.length x.lc, i64 x.period, i64 x.hold, .string x.note] 37))).alloc (Nat.le_refl _) (.cells #[i64 x.client, i64 x.seq] 34)
    have HO2 := Lib.hid (hO1.later hba2)
    have Hne := Lib.hid (hO1.new_ne (Nat.le_refl _))
    have HH := Lib.hid (heap_alloc_new (wo.alloc (.cells #[i64 x.client, i64 x.seq, i64 x.kind, .string x.acct, .string x.peer, i64 x.sum, .slice x.la x.legs.length x.lc, i64 x.period, i64 x.hold, .string x.note] 37)) (.cells #[i64 x.client, i64 x.seq] 34))
    have Hb2 := Lib.hid (hb1.alloc hb1.size (.cells #[i64 x.client, i64 x.seq] 34))
    have hzz : (wo.alloc (.cells #[i64 x.client, i64 x.seq, i64 x.kind, .string x.acct, .string x.peer, i64 x.sum, .slice x.la x.legs.length x.lc, i64 x.period, i64 x.hold, .string x.note] 37)).heap.size = wo.heap.size + 1 := by simp
    rw [hzz] at HH Hne
    clear hxk hok hba hO hO1 hb hb1 hba2 hbb hq
    go_wp2_with (at_builtin; refine wpList_append_one rfl (some 23) (.tmp 19) (.tmp 22) 90 rfl rfl _ 16 Tryz.underlying90 idInfo rfl (by decide) (by decide) rfl HO2.out (wo.heap.size + 1) x.id rfl _ 34 HH.out rfl Hne.out trivial Hlen.out Hb2.out.size ?_; intro v4 w4 hO5 hg5 hat5)
    go_roundw
    case rel => exact ⟨k + 1, by go_num, by omega, by rw [Htk.out]; exact hO5, Hb2.out.trans (HO2.out.below hg5 (Nat.le_refl _) Hb2.out.size)⟩
    case measure => simp [intOf]; omega
   ·have q1 : (x.note.toList == note.toList) = false := by
     rw [beq_eq_false_iff_ne]
     exact fun e => hq (bytes_ext e)
    rw [if_neg hq, List.append_nil] at Htk
    have HO1 := Lib.hid hO1
    have Hb1 := Lib.hid hb1
    clear hxk hok hba hO hO1 hb hb1 hbb hq
    go_wp2
    go_roundw
    case rel => exact ⟨k + 1, by go_num, by omega, by rw [Htk.out]; exact HO1.out, Hb1.out⟩
    case measure => simp [intOf]; omega
  ·obtain rfl : k = L.length := by omega
   have g1 : decide ((L.length : Int) < (L.length : Int)) = false := decide_eq_false (by omega)
   rw [List.take_length] at hO
   have HO := Lib.hid hO
   clear hO
   go_wp2
   go_ret
   exact ⟨_, rfl, HO.out.mono hw1, HF1.out.trans (hb.mono hw1)⟩
end Go.Proofs.YtampniiehgimhaaGreat
/- audit: Errors; Largest of one move at most -/
namespace Go.Proofs.YtampniiehgimhaaGreat
open Go.RowKit
set_option maxRecDepth 100000 in
set_option maxHeartbeats 4000000 in
theorem ainsert1_c (A : Option Addr) (n c : Nat) (f : Value) (w : World) (hn : n ≤ 1) : Calls Tryz.prog 179 #[.slice A n c, i64 0, i64 n, f] w fun e w' => e = .returned (.tuple #[]) ∧ w = w' := by
 have g1 : decide ((1 : Int) < (n : Int)) = false := decide_eq_false (by omega)
 go_enter Tryz.func179, Tryz.ntmps179
 go_wp2
 refine wp_loop_rounds 1 ?_
 rw [rounds_succ]
 go_wp2
 go_end0
 exact ⟨rfl, rfl⟩
set_option maxRecDepth 100000 in
set_option maxHeartbeats 4000000 in
theorem astable1_c (A : Option Addr) (n c : Nat) (f : Value) (w : World) (hn : n ≤ 1) : Calls Tryz.prog 126 #[.slice A n c, i64 n, f] w fun e w' => e = .returned (.tuple #[]) ∧ w = w' := by
 have g1 : decide ((20 : Int) ≤ (n : Int)) = false := decide_eq_false (by omega)
 have g2 : decide ((20 : Int) < (n : Int)) = false := decide_eq_false (by omega)
 have g3 : decide (20 ≤ n) = false := decide_eq_false (by omega)
 have g4 : decide (20 < n) = false := decide_eq_false (by omega)
 go_enter Tryz.func126, Tryz.ntmps126
 go_wp2
 refine wp_loop_rounds 1 ?_
 rw [rounds_succ]
 go_wp2_with fail
 refine (ainsert1_c A n c f _ hn).mono ?_
 rintro e w1 ⟨rfl, rfl⟩
 go_wp2
 refine wp_loop_rounds 1 ?_
 rw [rounds_succ]
 go_wp2
 go_end0
 exact ⟨rfl, rfl⟩
set_option maxRecDepth 100000 in
set_option maxHeartbeats 4000000 in
theorem asort1_c (A : Option Addr) (n c : Nat) (f : Value) (w : World) (hn : n ≤ 1) : Calls Tryz.prog 82 #[.slice A n c, f] w fun e w' => e = .returned (.tuple #[]) ∧ w = w' := by
 go_enter Tryz.func82, Tryz.ntmps82
 go_wp2_with fail
 refine (astable1_c A n c f _ hn).mono ?_
 rintro e w1 ⟨rfl, rfl⟩
 go_wp2
 go_end0
 exact ⟨rfl, rfl⟩
set_option maxRecDepth 100000 in
set_option maxHeartbeats 8000000 in
theorem alargG_c (A : Option Addr) (c : Nat) (l : List Od) (n : Int) (tgt : List (Id × Int × List Leg)) (w : World) (h : Sl w w.heap.size A c l) (hx : ∀ x ∈ l, OdB x) (hl : ∀ x ∈ l, x.legs.length ≤ 65536) (hn : l.length ≤ 60000) (ht : tgt.length = (movedL l).length)
  (hsort : ∀ (v : Value) (M : List Mv) (W : World), M.map Mv.core = (movedL l).map coreM → Own W w.heap.size 85 v M → w.heap.size ≤ W.heap.size → Calls Tryz.prog 82 #[v, .func (.func 83) #[] #[]] W fun e W' => e = .returned (.tuple #[]) ∧ ∃ M', M'.map Mv.core = tgt ∧ Own W' w.heap.size 85 v M' ∧ Below w.heap.size W W') :
  Calls Tryz.prog 47 #[.slice A l.length c, i64 n] w fun e w' => ∃ v, e = .returned v ∧ Own w' w.heap.size 34 v ((tgt.take (max n 0).toNat).map (·.1)) ∧ Below w.heap.size w w' := by
 have hN := Lib.hid (amoves_c A c l w h hx hl hn)
 have hlc : l.length ≤ c := h.1
 have Hso := Lib.hid hsort
 have hLn : (movedL l).length ≤ 60000 := Nat.le_trans (movedL_len l) hn
 have Ht := Lib.hid ht
 clear h hx hl hsort ht
 generalize movedL l = L at *
 go_enter Tryz.func47, Tryz.ntmps47
 go_wp2_with fail
 refine hN.out.mono ?_
 rintro e w1 ⟨vm, M, rfl, hcore, hOm, hF⟩
 have HS := Lib.hid (Hso.out vm M w1 hcore hOm hF.size)
 have HF1 := Lib.hid hF
 clear hN Hso hOm hF hcore
 go_wp2_with fail
 refine HS.out.mono ?_
 rintro e w2 ⟨rfl, M2, hM2, hO2, hF2⟩
 obtain ⟨Am, cm, rfl, hsm⟩ := hO2.sl
 have hML : M2.length ≤ 60000 := by have := congrArg List.length hM2; rw [List.length_map] at this; have := Ht.out; omega
 have Hidn := Lib.hid (show (tgt.take (max n 0).toNat).map (·.1) = (M2.take (max n 0).toNat).map (fun m : Mv => (⟨m.client, m.seq⟩ : Id)) by rw [← hM2, ← List.map_take, List.map_map]; rfl)
 have hcm : M2.length ≤ cm := hsm.1
 have Hb2 := Lib.hid (HF1.out.trans hF2)
 have hw2 := Hb2.out.size
 obtain ⟨q, hq⟩ : ∃ q : Nat, (min (max n 0) (M2.length : Int)).toNat = q := ⟨_, rfl⟩
 have hq2 : (q : Int) = min (max n 0) (M2.length : Int) := by omega
 have m0 : (0 : Int) ≤ min (max n 0) (M2.length : Int) := by omega
 have m1 : min (max n 0) (M2.length : Int) ≤ (cm : Int) := by omega
 have hqM : q ≤ M2.length := by omega
 have Htk := Lib.hid (show M2.take (max n 0).toNat = M2.take q by
  rcases Nat.le_total (max n 0).toNat M2.length with hh | hh
  ·congr 1; omega
  ·rw [List.take_of_length_le hh, List.take_of_length_le (by omega)])
 have Htg := Lib.hid (Hidn.out.trans (congrArg (List.map _) Htk.out))
 have HL := Lib.hid (fun V (hV : Below w2.heap.size w2 V) => hsm.later hV)
 clear HS hO2 hsm hF2 Hidn hM2 Htk HF1 Ht
 have h60 : q ≤ 60000 := by omega
 go_wp2_with fail
 rw [← hq2]
 clear hq2 hq m0 m1
 go_loopw [6, 21] (fun v i wr => ∃ k : Nat, i = i64 k ∧ k ≤ q ∧ Own wr w2.heap.size 34 v ((M2.take k).map (fun m : Mv => (⟨m.client, m.seq⟩ : Id))) ∧ Below w2.heap.size w2 wr) (fun _ i _ => q - (intOf i).toNat)
 case atStart => exact ⟨0, rfl, Nat.zero_le _, Own.nil_ _ _ _, Below.refl _ _⟩
 case round =>
  obtain ⟨k, rfl, hk, hO, hb⟩ := hrel
  by_cases hlt : k < q
  ·have g1 : decide ((k : Int) < (q : Int)) = true := decide_eq_true (by omega)
   have g2 : decide (k < q) = true := decide_eq_true hlt
   have i0 : (0 : Int) ≤ (k : Int) := by omega
   have i1 : (k : Int) < (q : Int) := by omega
   have hlM : k < M2.length := by omega
   obtain ⟨b, o, rfl, hbb, hok, c0, c1, c2, c3⟩ := (HL.out _ hb).mv hlM
   have Htk := Lib.hid (show (M2.take (k + 1)).map (fun m : Mv => (⟨m.client, m.seq⟩ : Id)) = (M2.take k).map (fun m : Mv => (⟨m.client, m.seq⟩ : Id)) ++ [⟨M2[k].client, M2[k].seq⟩] by rw [List.take_succ_eq_append_getElem hlM, List.map_append]; rfl)
   have Hlen := Lib.hid (show ((M2.take k).map (fun m : Mv => (⟨m.client, m.seq⟩ : Id))).length + 1 ≤ 4294967296 by rw [List.length_map, List.length_take]; omega)
   generalize (M2.take k).map (fun m : Mv => (⟨m.client, m.seq⟩ : Id)) = out at *
   obtain ⟨m, hmk⟩ : ∃ m, M2[k] = m := ⟨_, rfl⟩
   simp only [hmk] at c0 c1 c2 c3 Htk
   have hba := (Below.refl wr.heap.size wr).alloc (Nat.le_refl _) (.cells #[i64 m.client, i64 m.seq, i64 m.period, .slice m.la m.legs.length m.lc] 85)
   have hO1 := hO.later hba
   have hb1 := hb.alloc hb.size (.cells #[i64 m.client, i64 m.seq, i64 m.period, .slice m.la m.legs.length m.lc] 85)
   have hba2 := (Below.refl _ (wr.alloc (.cells #[i64 m.client, i64 m.seq, i64 m.period, .slice m.la m.legs.length m.lc] 85))).alloc (Nat.le_refl _) (.cells #[i64 m.client, i64 m.seq] 34)
   have HO2 := Lib.hid (hO1.later hba2)
   have Hne := Lib.hid (hO1.new_ne (Nat.le_refl _))
   have HH := Lib.hid (heap_alloc_new (wr.alloc (.cells #[i64 m.client, i64 m.seq, i64 m.period, .slice m.la m.legs.length m.lc] 85)) (.cells #[i64 m.client, i64 m.seq] 34))
   have Hb3 := Lib.hid (hb1.alloc hb1.size (.cells #[i64 m.client, i64 m.seq] 34))
   have hzz : (wr.alloc (.cells #[i64 m.client, i64 m.seq, i64 m.period, .slice m.la m.legs.length m.lc] 85)).heap.size = wr.heap.size + 1 := by simp
   rw [hzz] at HH Hne
   clear hmk hok hba hO hO1 hb hb1 hba2 hbb
   go_wp2_with (at_builtin; refine wpList_append_one rfl (some 29) (.tmp 25) (.tmp 28) 90 rfl rfl _ 16 Tryz.underlying90 idInfo rfl (by decide) (by decide) rfl HO2.out (wr.heap.size + 1) (⟨m.client, m.seq⟩ : Id) rfl _ 34 HH.out rfl Hne.out trivial Hlen.out Hb3.out.size ?_; intro v4 w4 hO5 hg5 hat5)
   go_roundw
   case rel => exact ⟨k + 1, by go_num, by omega, by rw [Htk.out]; exact hO5, Hb3.out.trans (HO2.out.below hg5 (Nat.le_refl _) Hb3.out.size)⟩
   case measure => simp [intOf]; omega
  ·obtain rfl : k = q := by omega
   have g1 : decide ((k : Int) < (k : Int)) = false := decide_eq_false (by omega)
   have HO := Lib.hid hO
   clear hO
   go_wp2
   go_ret
   exact ⟨_, rfl, by rw [Htg.out]; exact HO.out.mono hw2, Hb2.out.trans (hb.mono hw2)⟩
theorem alarg1_c (A : Option Addr) (c : Nat) (l : List Od) (n : Int) (w : World) (h : Sl w w.heap.size A c l) (hx : ∀ x ∈ l, OdB x) (hl : ∀ x ∈ l, x.legs.length ≤ 65536) (hn : l.length ≤ 60000) (h1 : (movedL l).length ≤ 1) :
  Calls Tryz.prog 47 #[.slice A l.length c, i64 n] w fun e w' => ∃ v, e = .returned v ∧ Own w' w.heap.size 34 v ((((movedL l).map coreM).take (max n 0).toNat).map (·.1)) ∧ Below w.heap.size w w' :=
 alargG_c A c l n _ w h hx hl hn (List.length_map ..) fun v M W hc hO hW => by
  obtain ⟨Am, cm, rfl, hsm⟩ := hO.sl
  have hM1 : M.length ≤ 1 := by have := congrArg List.length hc; rw [List.length_map, List.length_map] at this; omega
  refine (asort1_c Am M.length cm _ W hM1).mono ?_
  rintro e w' ⟨rfl, rfl⟩
  exact ⟨rfl, M, hc, hO, Below.refl _ _⟩
end Go.Proofs.YtampniiehgimhaaGreat
/- few, own of countinghouselaw22 -/
namespace Go.Proofs.YtampniiehgimhaaGreat
open Go.RowKit
set_option maxRecDepth 100000 in
set_option maxHeartbeats 1000000 in
theorem few_22 (A : Option Addr) (c n : Nat) (l : List Od) (w : World) (h : Sl w w.heap.size A c l) (hn : n ≤ 65536) :
  Calls Tryz.prog 38 #[.slice A l.length c, i64 n] w fun e w' => ∃ v, e = .returned v ∧ Own w' w.heap.size 37 v (fewL n l) ∧ Below w.heap.size w w' := by
 have hlm : l.length ≤ 9223372036854775807 := h.len_le
 go_enter Tryz.func38, Tryz.ntmps38
 go_wp2
 go_loopw [5, 6] (fun v i wr => ∃ k : Nat, i = i64 k ∧ k ≤ l.length ∧ k ≤ n ∧ Own wr w.heap.size 37 v (fewL k l) ∧ Below w.heap.size w wr) (fun _ i _ => l.length - (intOf i).toNat)
 case atStart => exact ⟨0, rfl, by omega, by omega, Own.nil_ _ _ _, Below.refl _ _⟩
 case round =>
  obtain ⟨k, rfl, hk, hkn, hO, hb⟩ := hrel
  by_cases hlt : k < l.length ∧ k < n
  ·obtain ⟨h1, h2⟩ := hlt
   obtain ⟨b, o, rfl, hbb, hok, c0, c1, c2, c3, c4, c5, c6, c7, c8, c9⟩ := (h.below hb).od h1
   have hlc : l[k].legs.length ≤ l[k].lc := hok.legs.1
   have Hok := Lib.hid hok
   clear hok
   have HO := Lib.hid hO
   have hne := hO.new_ne (Nat.le_succ wr.heap.size)
   have Hne := Lib.hid hne
   clear hO hne
   have hlen : (fewL k l).length = k := fewL_len h1
   have HL := Lib.hid hlen
   clear hlen
   by_cases h8 : l[k].legs.length ≤ 8
   all_goals
    have hB2 := ((Below.refl wr.heap.size wr).alloc (Nat.le_refl _) (.cells (cut8 l[k]).cells.toArray 37)).alloc (by simp) (.cells (cut8 l[k]).cells.toArray 37)
    have hb2 := hb.trans (hB2.mono hb.size)
    have hHeap := heap_alloc2_new wr (.cells (cut8 l[k]).cells.toArray 37) (.cells (cut8 l[k]).cells.toArray 37)
    have hO2 := HO.out.later hB2
    have hok2 : Enc.ok ((wr.alloc (.cells (cut8 l[k]).cells.toArray 37)).alloc (.cells (cut8 l[k]).cells.toArray 37)) (Oth ((wr.alloc (.cells (cut8 l[k]).cells.toArray 37)).alloc (.cells (cut8 l[k]).cells.toArray 37)) _) (cut8 l[k]) := Enc.keep (cut8_ok Hok.out) (fun _ hp => hB2.cell (Nat.lt_of_lt_of_le hp hb.size)) (hO2.oth (Nat.le_refl _) hb2.size)
    have HO2 := Lib.hid hO2
    have Hok2 := Lib.hid hok2
    have HH := Lib.hid hHeap
    have Hb2 := Lib.hid hb2
    clear hO2 hok2 hHeap hb2 hB2
    have hcs : (cut8 l[k]).cells = [i64 l[k].client, i64 l[k].seq, i64 l[k].kind, .string l[k].acct, .string l[k].peer, i64 l[k].sum, .slice l[k].la (cut8 l[k]).legs.length l[k].lc, i64 l[k].period, i64 l[k].hold, .string l[k].note] := rfl
    have h88 : (cut8 l[k]).legs.length = (min (l[k].legs.length : Int) 8).toNat := by show (l[k].legs.take 8).length = _; rw [List.length_take]; omega
    rw [h88] at hcs
    clear h88
    have Hcs := Lib.hid hcs
    rw [hcs] at HO2 Hok2 HH Hb2
    clear hcs
    go_wp2_with (at_builtin; refine wpList_append_one rfl (some 34) (.tmp 31) (.tmp 33) 22 rfl rfl _ 120 Tryz.underlying22 inf_od rfl (by decide) (by decide) rfl HO2.out (wr.heap.size + 1) (cut8 l[k]) rfl _ 37 HH.out Hcs.out.symm Hne.out Hok2.out (by rw [HL.out]; omega) Hb2.out.size ?_; intro v3 w3 hO3 hg3 hat3)
    go_roundw
    case rel => exact ⟨k + 1, by go_num, by omega, by omega, by rw [fewL_succ h1]; exact hO3, Hb2.out.trans (HO2.out.below hg3 (Nat.le_refl _) Hb2.out.size)⟩
    case measure => simp [intOf]; omega
  ·have hf : fewL n l = fewL k l := by
    unfold fewL
    rcases Nat.lt_or_ge k l.length with h1 | h1
    ·rw [show n = k by omega]
    ·rw [List.take_of_length_le (by omega), List.take_of_length_le h1]
   have Hf := Lib.hid hf
   clear hf
   by_cases hkl : k < l.length
   ·have hkn2 : ¬ k < n := fun h => hlt ⟨hkl, h⟩
    clear hlt
    go_wp2
    go_ret
    exact ⟨_, rfl, by rw [Hf.out]; exact hO, hb⟩
   ·clear hlt
    go_wp2
    go_ret
    exact ⟨_, rfl, by rw [Hf.out]; exact hO, hb⟩
end Go.Proofs.YtampniiehgimhaaGreat
