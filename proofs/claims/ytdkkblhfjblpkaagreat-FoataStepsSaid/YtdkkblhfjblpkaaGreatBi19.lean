/- Texts of this claim, laid together: FoAlQ, Lives, FoLives, Few11, RDefs. -/
import Derived.Test.YtdkkblhfjblpkaaGreatRows
import Derived.Test.YtdkkblhfjblpkaaGreatBi18
import Derived.Test.YtdkkblhfjblpkaaGreatBi5
import Derived.WalkKit
import Derived.WalkSpells
import Derived.WalkLawsBesides
import Derived.Deep.QuietTactic
import Derived.BigQuiet
import Derived.Laws.StructEq
import Derived.Deep.DeepFit
import Derived.StillTailTactics
import Derived.Test.YtdkkblhfjblpkaaGreatBi10
import Derived.Test.YtdkkblhfjblpkaaGreatBi3
import Derived.Test.YtdkkblhfjblpkaaGreatBi4
import Derived.Deep.RegionHeld3
import Derived.Test.YtdkkblhfjblpkaaGreatBi13
import Derived.Test.YtdkkblhfjblpkaaGreatBi12
import Derived.Test.YtdkkblhfjblpkaaGreatBi11
import Derived.Test.YtdkkblhfjblpkaaGreatBi2
import Derived.Test.YtdkkblhfjblpkaaGreatBi1

/- FoataAlike: the plain law, joined -/
namespace Go.Proofs.YtdkkblhfjblpkaaGreat
open Go.RowKit
theorem alike_len2 {a b : List Od} (h : alikeB a b = true) : a.length = b.length ∧ Beg (K a) (K b) := by
  unfold alikeB at h
  simp only [Bool.and_eq_true, decide_eq_true_eq] at h
  exact ⟨h.1, beginsB_K.1 h.2⟩
theorem lvAt_K (P : List (Od × Int)) (o : Od) : lvAt (P.map fun p => (p.1.core, p.2)) o.core = lvAt P o := by
  unfold lvAt
  rw [List.foldl_map]
  rfl
theorem levP_K (l : List Od) : levP (K l) = (levP l).map fun p => (p.1.core, p.2) := by
  rw [show l = l.reverse.reverse by rw [List.reverse_reverse]]
  induction l.reverse with
  | nil => rfl
  | cons o r ih =>
    have e : (o :: r).reverse = r.reverse ++ [o] := by rw [List.reverse_cons]
    rw [e, show K (r.reverse ++ [o]) = K r.reverse ++ [o.core] by unfold K; rw [List.map_append]; rfl, levP_snoc, levP_snoc, ih, List.map_append, lvAt_K]
    rfl
theorem mostP_K (P : List (Od × Int)) : mostP (P.map fun p => (p.1.core, p.2)) = mostP P := by
  unfold mostP
  rw [List.foldl_map]
theorem stepP_K {l : List Od} (hv : Val l) (s : Nat) : stepP (levP (K l)) s = K (stepP (levP l) s) := by
  have hm : ((levP (K l)).filter fun p => decide (p.2 = (s : Int) + 1)).map (·.1) = K (((levP l).filter fun p => decide (p.2 = (s : Int) + 1)).map (·.1)) := by
    rw [levP_K, List.filter_map, List.map_map]
    unfold K
    rw [List.map_map]
    rfl
  have hvk : Val (K (stepP (levP l) s)) := valK (by
    have h := step_srt (P := levP l) (by rw [levP_fst]; exact hv) s
    exact h.imp fun h => ltO_irr_id h)
  have hp : (stepP (levP (K l)) s).Perm (K (stepP (levP l) s)) := by
    unfold stepP
    rw [hm]
    exact (sortB_perm _).trans ((sortB_perm _).symm.map _)
  refine (sort_unique_val hp.symm hvk ?_ ?_).symm
  · have : SortedB ltO (stepP (levP l) s) := sortB_sorted strictO _
    exact List.pairwise_map.2 (this.imp fun h => h)
  · exact sortB_sorted strictO _
theorem stepsV_K {l : List Od} (hv : Val l) : stepsV (K l) = (stepsV l).map K := by
  refine List.ext_getElem (by rw [List.length_map, stepsV_len, stepsV_len, levP_K, mostP_K]) fun i h1 h2 => ?_
  rw [stepsV_get h1, List.getElem_map, stepsV_get, stepP_K hv]
theorem alike_writes {a b : List Od} (hva : Val a) (hvb : Val b) (h : alikeB a b = true) : wrL (stepsV a) = wrL (stepsV b) := by
  obtain ⟨hl, hb⟩ := alike_len2 h
  obtain ⟨m, hm, hk⟩ := alike_mix hb hl hva hvb
  have hvm : Val m := validL_iff.1 (by rw [← validL_core, hk, validL_core]; exact validL_iff.2 hvb)
  rw [stepsV_mix hm hva, ← wrL_K, ← stepsV_K hvm, hk, stepsV_K hvb, wrL_K]
theorem core_of_bytes {x y : Od} (hx : rightB x = true) (hy : rightB y = true) (rx : InR x) (ry : InR y) (h : bytesB x = bytesB y) : x.core = y.core := by
  have h1 := (back_law1 hx rx).2
  have h2 := (back_law1 hy ry).2
  rw [← h1, ← h2, h]
theorem K_of_bytes {s : List Od} (h : ∀ x ∈ s, rightB x = true ∧ InR x) : K s = (s.map bytesB).map rawO := by
  rw [List.map_map]
  exact (List.map_congr_left fun x hx => (back_law1 (h x hx).1 (h x hx).2).2).symm
theorem writes_alike {a b : List Od} (hva : Val a) (hvb : Val b) (ha : ∀ x ∈ a, rightB x = true ∧ InR x) (hb : ∀ x ∈ b, rightB x = true ∧ InR x) (hna : a.length ≤ 60000) (hnb : b.length ≤ 60000) (h : wrL (stepsV a) = wrL (stepsV b)) : alikeB a b = true := by
  have mem : ∀ {l : List Od} {s : List Od}, s ∈ stepsV l → ∀ y ∈ s, y ∈ l := fun {l} {s} hs y hy => by
    have : y ∈ layL (stepsV l) := by unfold layL; exact List.mem_flatten.2 ⟨s, hs, hy⟩
    exact (lay_perm l).mem_iff.1 this
  have len : ∀ {l : List Od}, l.length ≤ 60000 → (stepsV l).length ≤ 60000 := fun {l} hn => by
    rw [stepsV_len]
    have := (most_small l).2
    omega
  have slen : ∀ {l : List Od} {s : List Od}, s ∈ stepsV l → s.length ≤ l.length := fun {l} {s} hs => by
    have h1 : s.length ≤ (layL (stepsV l)).length := by
      unfold layL
      exact (List.sublist_flatten_of_mem hs).length_le
    rwa [(lay_perm l).length_eq] at h1
  have sm : ∀ {l : List Od}, (∀ x ∈ l, rightB x = true ∧ InR x) → l.length ≤ 60000 → smB (stepsV l) := fun {l} hr hn s hs =>
    ⟨Nat.le_trans (slen hs) hn, fun x hx => bytesB_le (hr x (mem hs x hx)).1 (hr x (mem hs x hx)).2⟩
  have hi := wrL_inj (len hna) (len hnb) (sm ha hna) (sm hb hnb) h
  have hk : ∀ {l : List Od}, (∀ x ∈ l, rightB x = true ∧ InR x) → (stepsV l).map K = ((stepsV l).map fun s => s.map bytesB).map fun s => s.map rawO := fun {l} hr => by
    rw [List.map_map]
    exact List.map_congr_left fun s hs => K_of_bytes fun x hx => hr x (mem hs x hx)
  have he : stepsV (K a) = stepsV (K b) := by rw [stepsV_K hva, stepsV_K hvb, hk ha, hk hb, hi]
  have b1 := lay_beg (valK hva)
  have b2 := lay_beg (valK hvb)
  have l1 := (lay_perm (K a)).length_eq
  have l2 := (lay_perm (K b)).length_eq
  rw [he] at b1 l1
  have hl : a.length = b.length := by
    rw [l1] at l2
    simpa using l2
  have hbg : Beg (K a) (K b) := b1.trans (b2.symm (by rw [l2]; exact Nat.le_refl _))
  unfold alikeB
  simp only [Bool.and_eq_true, decide_eq_true_eq]
  exact ⟨hl, beginsB_K.2 hbg⟩
theorem okW_all {l : List Od} (h : okW (stepsV l) = true) : ∀ x ∈ l, rightB x = true := fun x hx => by
  have hm : x ∈ layL (stepsV l) := (lay_perm l).mem_iff.2 hx
  unfold layL at hm
  obtain ⟨s, hs, hxs⟩ := List.mem_flatten.1 hm
  unfold okW at h
  exact List.all_eq_true.1 (List.all_eq_true.1 h s hs) x hxs
end Go.Proofs.YtdkkblhfjblpkaaGreat

/- lives -/
namespace Go.Proofs.YtdkkblhfjblpkaaGreat
open Go.RowKit
/-- the list of lives, and what clash.Swap makes of it -/
def livesL : List Od := [askOd 1 ⟨#[97]⟩, askOd 2 ⟨#[98]⟩, askOd 3 ⟨#[98]⟩]
def livesM : List Od := [askOd 2 ⟨#[98]⟩, askOd 1 ⟨#[97]⟩, askOd 3 ⟨#[98]⟩]
theorem lives_ok : swapOk livesL 0 = true := by kernel_rfl
theorem lives_r : swapR livesL 0 = livesM := by kernel_rfl
theorem lives_no : swapOk livesL 1 = false := by kernel_rfl
theorem lives_alike : alikeB livesL livesM = true := by kernel_rfl
theorem lives_begins : beginsB (livesL.take 1) livesM = true := by kernel_rfl
theorem lives_clash : clashB (askOd 2 ⟨#[98]⟩) (askOd 3 ⟨#[98]⟩) = true := by kernel_rfl
theorem lives_not : beginsB (livesL.drop 2) livesM = false := by kernel_rfl
theorem lives_few {l : List Od} (h : l.all (fun x => decide (x.legs.length ≤ 10)) = true) : fewLegs l := fun x hx => of_decide_eq_true (List.all_eq_true.1 h x hx)
theorem askOd_okb (s : Int) (c : UInt8) (w : World) (n : Nat) : Okb w n (askOd s ⟨#[c]⟩) := ⟨by simp [askOd, ByteArray.size, maxLen], by simp [askOd, ByteArray.size, maxLen], by simp [askOd, ByteArray.size, maxLen], SlS.nil_ _ _⟩

end Go.Proofs.YtdkkblhfjblpkaaGreat

/- law11: ask, lives -/
namespace Go.Proofs.YtdkkblhfjblpkaaGreat
open Go.RowKit
set_option maxRecDepth 100000 in
set_option maxHeartbeats 400000 in
theorem ask_11 (seq : Int) (acct : ByteArray) (w : World) :
    Calls Tryz.prog 58 #[i64 seq, .string acct] w fun e w' => e = .returned (askOd seq acct).v ∧ Below w.heap.size w w' := by
  go_enter Tryz.func58, Tryz.ntmps58
  go_wp2
  refine bodyPost_ret (v := (askOd seq acct).v) (by simp [results, Tryz.results58, go_sem, askOd, Od.v]) rfl ⟨rfl, ?_⟩
  exact (Below.refl _ _).alloc (Nat.le_refl _) _
theorem steps_none : stepsL [] = [] := by kernel_rfl
theorem num_zero : numB 0 = [0] := by kernel_rfl
set_option maxRecDepth 100000 in
set_option maxHeartbeats 2000000 in
theorem write_none (A : Option Addr) (c : Nat) (w : World) :
    Calls Tryz.prog 61 #[.slice A 0 c] w fun e w' => ∃ v, e = .returned (.tuple #[v, i64 0]) ∧ Own w' w.heap.size 5 v [(0 : UInt8)] ∧ Below w.heap.size w w' := by
  have HN := Lib.hid (num_c 0 w (by decide) (by decide))
  rw [num_zero] at HN
  go_enter Tryz.func61, Tryz.ntmps61
  go_wp2_with fail
  refine HN.out.mono ?_
  rintro e w1 ⟨v, rfl, hO, hF⟩
  have HO := Lib.hid hO
  clear hO HN
  go_wp2_with fail
  go_loopw [4, 16] (fun b i wr => b = v ∧ i = i64 0 ∧ wr = w1) (fun _ _ _ => 0)
  case atStart => exact ⟨rfl, rfl, rfl⟩
  case round =>
    obtain ⟨rfl, rfl, rfl⟩ := hrel
    go_wp2
    go_ret2
    exact ⟨_, rfl, HO.out, hF⟩
set_option maxRecDepth 100000 in
set_option maxHeartbeats 2000000 in
theorem export_none (w : World) :
    Calls Tryz.prog 13 #[.slice none 0 0] w fun e w' => ∃ v, e = .returned (.tuple #[v, i64 0]) ∧ Own w' w.heap.size 5 v [(0 : UInt8)] ∧ Below w.heap.size w w' := by
  have HR := Lib.hid (right_c none 0 [] w (SlS.nil_ _ _) (by decide))
  change Hid (Calls Tryz.prog 60 #[.slice none 0 0] w fun e w' => e = .returned (.bool true) ∧ Below w.heap.size w w') at HR
  have HS := Lib.hid (fun W => steps_c none 0 [] W (SlS.nil_ _ _) (by decide) (fun _ h => by cases h))
  rw [steps_none] at HS
  have HW := Lib.hid (fun A c W => write_none A c W)
  go_enter Tryz.func13, Tryz.ntmps13
  go_wp2_with fail
  refine HR.out.mono ?_
  rintro e w1 ⟨rfl, hb1⟩
  clear HR
  go_wp2_with fail
  refine (HS.out _).mono ?_
  rintro e w2 ⟨v, L, rfl, hO, hm, hF⟩
  obtain rfl : L = [] := List.map_eq_nil_iff.1 hm
  obtain ⟨A2, c2, rfl, _⟩ := hO.sl
  have hb2 := below_on hb1 (Nat.le_refl _) hF
  clear hO hF hm HS
  go_wp2_with fail
  refine (HW.out _ _ _).mono ?_
  rintro e w3 ⟨v, rfl, hO, hF⟩
  have hb3 := below_on hb2 (Nat.le_refl _) hF
  have HO := Lib.hid (hO.mono hb2.size)
  clear hO hF
  go_wp2
  go_ret2
  exact ⟨v, rfl, HO.out, hb3⟩
theorem range_zero : rangeRd 0 200 0 [(0 : UInt8)] = ((0, 0), (0, [])) := by kernel_rfl
set_option maxRecDepth 100000 in
set_option maxHeartbeats 4000000 in
theorem read_zero (A : Option Addr) (c : Nat) (w : World) (h : Sl w w.heap.size A c [(0 : UInt8)]) :
    Calls Tryz.prog 75 #[.slice A 1 c] w fun e w' => e = .returned (.tuple #[.slice none 0 0, .bool true]) ∧ Below w.heap.size w w' := by
  have HN := Lib.hid (rnew_c A c [(0 : UInt8)] w h (by decide))
  clear h
  go_enter Tryz.func75, Tryz.ntmps75
  go_wp2_with fail
  refine HN.out.mono ?_
  rintro e w1 ⟨rfl, hR, hz, hF⟩
  have hb1 := hF
  have HRg := Lib.hid (range_c (w.heap.size + 1) w.heap.size 0 200 0 [(0 : UInt8)] w1 hR (by omega) (by decide))
  rw [range_zero] at HRg
  have Hz := Lib.hid hz
  clear HN hF hR hz
  go_wp2_with fail
  refine HRg.out.mono ?_
  rintro e w2 ⟨rfl, hR, hg⟩
  have hb2 := hb1.trans (below_of_grown hg hb1.size (fun g e => by injection e with e; omega))
  have hz2 := Nat.le_trans (Nat.le_of_eq Hz.out.symm) hg.size
  have HD := Lib.hid (done_c (w.heap.size + 1) w.heap.size 0 [] w2 hR (by omega) (by decide))
  have hd : doneRd 0 [] = (0, (0, [])) := rfl
  rw [hd] at HD
  clear HRg hg hR hd hb1 Hz hz2
  go_wp2_with fail
  go_loopw [7, 23] (fun o i wr => o = .slice none 0 0 ∧ i = i64 0 ∧ wr = w2) (fun _ _ _ => 0)
  case atStart => exact ⟨rfl, rfl, rfl⟩
  case round =>
    obtain ⟨rfl, rfl, rfl⟩ := hrel
    go_wp2_with fail
    refine HD.out.mono ?_
    rintro e w3 ⟨rfl, _, hg⟩
    have hb3 := hb2.trans (below_of_grown hg hb2.size (fun g e => by injection e with e; omega))
    clear HD hg hb2
    go_wp2
    go_ret2
    exact ⟨rfl, hb3⟩
theorem normal_none : normalB [] = true := by kernel_rfl
set_option maxRecDepth 100000 in
set_option maxHeartbeats 4000000 in
theorem import_zero (A : Option Addr) (c : Nat) (w : World) (h : Sl w w.heap.size A c [(0 : UInt8)]) :
    Calls Tryz.prog 22 #[.slice A 1 c] w fun e w' => e = .returned (.tuple #[.slice none 0 0, i64 0]) ∧ Below w.heap.size w w' := by
  have HR := Lib.hid (read_zero A c w h)
  have HL := Lib.hid (fun W => lay_c none 0 [] W (SlS.nil_ _ _) (by decide) (by decide))
  have HN := Lib.hid (fun W => normal_c none 0 [] W (SlS.nil_ _ _) ⟨by decide, by simp⟩ (by decide))
  change Hid (∀ W, Calls Tryz.prog 59 #[.slice none 0 0] W fun e w' => e = .returned (.bool (normalB [])) ∧ Below W.heap.size W w') at HN
  rw [normal_none] at HN
  change Hid (∀ W, Calls Tryz.prog 20 #[.slice none 0 0] W fun e w' => ∃ v, e = .returned v ∧ Own w' W.heap.size 50 v [] ∧ Below W.heap.size W w') at HL
  clear h
  go_enter Tryz.func22, Tryz.ntmps22
  go_wp2_with fail
  refine HR.out.mono ?_
  rintro e w1 ⟨rfl, hb1⟩
  go_wp2_with fail
  refine (HL.out _).mono ?_
  rintro e w2 ⟨v, rfl, hO, hF⟩
  obtain ⟨A2, c2, rfl, _⟩ := hO.sl
  have hb2 := below_on hb1 (Nat.le_refl _) hF
  clear hO hF
  go_wp2_with fail
  refine (HN.out _).mono ?_
  rintro e w3 ⟨rfl, hF⟩
  have hb3 := below_on hb2 (Nat.le_refl _) hF
  go_wp2
  go_ret2
  exact ⟨rfl, hb3⟩
/-- the list of lives, and its steps -/
def fvL : List Od := [askOd 2 ⟨#[97]⟩, askOd 1 ⟨#[98]⟩, askOd 3 ⟨#[97]⟩]
def fvS : List (List Od) := [[askOd 1 ⟨#[98]⟩, askOd 2 ⟨#[97]⟩], [askOd 3 ⟨#[97]⟩]]
theorem fv_steps : stepsL fvL = fvS := by kernel_rfl
theorem fv_normal : normalB fvS = true := by kernel_rfl
theorem sv_two {L : List (SV Od)} (h : L.map SV.l = fvS) : ∃ x y : SV Od, L = [x, y] ∧ x.l = [askOd 1 ⟨#[98]⟩, askOd 2 ⟨#[97]⟩] ∧ y.l = [askOd 3 ⟨#[97]⟩] := by
  match L, h with
  | [x, y], h =>
    have h : [x.l, y.l] = fvS := h
    injection h with h1 h2
    injection h2 with h2 _
    exact ⟨x, y, rfl, h1, h2⟩
  | [], h => cases h
  | [x], h => have h : [x.l] = fvS := h; injection h with _ h; cases h
  | x :: y :: z :: r, h => have h : x.l :: y.l :: z.l :: r.map SV.l = fvS := h; injection h with _ h; injection h with _ h; cases h
set_option maxRecDepth 100000 in
set_option maxHeartbeats 16000000 in
theorem lives_11 (w : World) :
    Calls Tryz.prog 11 #[] w fun e w' => e = .returned (.bool true) ∧ Below w.heap.size w w' := by
  have a1 : ∀ W : World, Calls Tryz.prog 58 #[i64 2, .string ⟨#[97]⟩] W fun e w' => e = .returned (.agg #[i64 0, i64 2, i64 7, .string ⟨#[97]⟩, .string ⟨#[]⟩, i64 0, .slice none 0 0, i64 0, i64 0, .string ⟨#[]⟩]) ∧ Below W.heap.size W w' := fun W => ask_11 2 ⟨#[97]⟩ W
  have a2 : ∀ W : World, Calls Tryz.prog 58 #[i64 1, .string ⟨#[98]⟩] W fun e w' => e = .returned (.agg #[i64 0, i64 1, i64 7, .string ⟨#[98]⟩, .string ⟨#[]⟩, i64 0, .slice none 0 0, i64 0, i64 0, .string ⟨#[]⟩]) ∧ Below W.heap.size W w' := fun W => ask_11 1 ⟨#[98]⟩ W
  have a3 : ∀ W : World, Calls Tryz.prog 58 #[i64 3, .string ⟨#[97]⟩] W fun e w' => e = .returned (.agg #[i64 0, i64 3, i64 7, .string ⟨#[97]⟩, .string ⟨#[]⟩, i64 0, .slice none 0 0, i64 0, i64 0, .string ⟨#[]⟩]) ∧ Below W.heap.size W w' := fun W => ask_11 3 ⟨#[97]⟩ W
  have hfl : ∀ x ∈ fvL, x.legs.length ≤ 10 := lives_few (l := fvL) (by kernel_rfl)
  go_enter Tryz.func11, Tryz.ntmps11
  go_wp2_with fail
  refine (a1 _).mono ?_
  rintro e w1 ⟨rfl, hb1⟩
  go_wp2_with fail
  refine (a2 _).mono ?_
  rintro e w2 ⟨rfl, hb2⟩
  go_wp2_with fail
  refine (a3 _).mono ?_
  rintro e w3 ⟨rfl, hb3⟩
  have hb4 := below_on (below_on hb1 (Nat.le_refl _) hb2) (Nat.le_refl _) hb3
  have hO := own_lit (w := w3) (base := w3.heap.size) 50 #[i64 0, i64 2, i64 7, .string ⟨#[97]⟩, .string ⟨#[]⟩, i64 0, .slice none 0 0, i64 0, i64 0, .string ⟨#[]⟩, i64 0, i64 1, i64 7, .string ⟨#[98]⟩, .string ⟨#[]⟩, i64 0, .slice none 0 0, i64 0, i64 0, .string ⟨#[]⟩, i64 0, i64 3, i64 7, .string ⟨#[97]⟩, .string ⟨#[]⟩, i64 0, .slice none 0 0, i64 0, i64 0, .string ⟨#[]⟩] fvL (Nat.le_refl _) rfl (by decide) (fun x hx => by
    simp only [fvL, List.mem_cons, List.not_mem_nil, or_false] at hx
    rcases hx with rfl | rfl | rfl <;> exact askOd_okb _ _ _ _)
  have hb5 := hb4.alloc hb4.size (.cells #[i64 0, i64 2, i64 7, .string ⟨#[97]⟩, .string ⟨#[]⟩, i64 0, .slice none 0 0, i64 0, i64 0, .string ⟨#[]⟩, i64 0, i64 1, i64 7, .string ⟨#[98]⟩, .string ⟨#[]⟩, i64 0, .slice none 0 0, i64 0, i64 0, .string ⟨#[]⟩, i64 0, i64 3, i64 7, .string ⟨#[97]⟩, .string ⟨#[]⟩, i64 0, .slice none 0 0, i64 0, i64 0, .string ⟨#[]⟩] 50)
  have HS := Lib.hid (steps_c _ _ fvL (w3.alloc (.cells #[i64 0, i64 2, i64 7, .string ⟨#[97]⟩, .string ⟨#[]⟩, i64 0, .slice none 0 0, i64 0, i64 0, .string ⟨#[]⟩, i64 0, i64 1, i64 7, .string ⟨#[98]⟩, .string ⟨#[]⟩, i64 0, .slice none 0 0, i64 0, i64 0, .string ⟨#[]⟩, i64 0, i64 3, i64 7, .string ⟨#[97]⟩, .string ⟨#[]⟩, i64 0, .slice none 0 0, i64 0, i64 0, .string ⟨#[]⟩] 50)) hO.sl_of (by decide) hfl)
  rw [fv_steps] at HS
  clear hO hb1 hb2 hb3 hb4 a1 a2 a3 hfl
  go_wp2_with fail
  generalize w3.alloc (.cells #[i64 0, i64 2, i64 7, .string ⟨#[97]⟩, .string ⟨#[]⟩, i64 0, .slice none 0 0, i64 0, i64 0, .string ⟨#[]⟩, i64 0, i64 1, i64 7, .string ⟨#[98]⟩, .string ⟨#[]⟩, i64 0, .slice none 0 0, i64 0, i64 0, .string ⟨#[]⟩, i64 0, i64 3, i64 7, .string ⟨#[97]⟩, .string ⟨#[]⟩, i64 0, .slice none 0 0, i64 0, i64 0, .string ⟨#[]⟩] 50) = w4 at *
  refine HS.out.mono ?_
  rintro e w5 ⟨v, L, rfl, hO, hm, hF⟩
  obtain ⟨A5, c5, rfl, s5⟩ := hO.sl
  have hb6 := below_on hb5 (Nat.le_refl _) hF
  obtain ⟨x, y, rfl, hx, hy⟩ := sv_two hm
  have HN := Lib.hid (fun W (hW : Sl W W.heap.size A5 c5 [x, y]) => normal_c A5 c5 [x, y] W hW ⟨by simp, fun z hz => by
    simp only [List.mem_cons, List.not_mem_nil, or_false] at hz
    rcases hz with rfl | rfl
    · rw [hx]; exact ⟨by decide, fun u hu => by simp only [List.mem_cons, List.not_mem_nil, or_false] at hu; rcases hu with rfl | rfl <;> decide⟩
    · rw [hy]; exact ⟨by decide, fun u hu => by simp only [List.mem_cons, List.not_mem_nil, or_false] at hu; rcases hu with rfl; decide⟩⟩ (by rw [hm]; decide))
  rw [hm, fv_normal] at HN
  clear HS hO hF hm hb5
  go_wp2_with fail
  refine (export_none _).mono ?_
  rintro e w6 ⟨v6, rfl, hO, hF⟩
  obtain ⟨A6, c6, rfl, s6⟩ := hO.sl
  have hb7 := below_on hb6 (Nat.le_refl _) hF
  have s5 := s5.later hF
  clear hO hF hb6
  have hO2 := own_lit (w := w6) (base := w6.heap.size) 5 #[.int .u8 0] [(0 : UInt8)] (Nat.le_refl _) rfl (by decide) (fun _ _ => trivial)
  have h0 := (Below.refl w6.heap.size w6).alloc (Nat.le_refl _) (.cells #[.int .u8 0] 5)
  have hb8 := hb7.alloc hb7.size (.cells #[.int .u8 0] 5)
  have s5 := s5.later h0
  have s6 := s6.later h0
  have HI := Lib.hid (import_zero _ _ (w6.alloc (.cells #[.int .u8 0] 5)) hO2.sl_of)
  clear hO2 h0 hb7
  go_wp2_with fail
  generalize w6.alloc (.cells #[.int .u8 0] 5) = w7 at *
  refine HI.out.mono ?_
  rintro e w8 ⟨rfl, hF⟩
  have hb9 := below_on hb8 (Nat.le_refl _) hF
  have s5 := s5.later hF
  have s6 := s6.later hF
  clear HI hF hb8
  have hO2 := own_lit (w := w8) (base := w8.heap.size) 5 #[.int .u8 0] [(0 : UInt8)] (Nat.le_refl _) rfl (by decide) (fun _ _ => trivial)
  have h0 := (Below.refl w8.heap.size w8).alloc (Nat.le_refl _) (.cells #[.int .u8 0] 5)
  have hb10 := hb9.alloc hb9.size (.cells #[.int .u8 0] 5)
  have t5 := Lib.hid (s5.later h0)
  have HE := Lib.hid (same2_c _ _ _ _ _ _ (w8.alloc (.cells #[.int .u8 0] 5)) (s6.later h0) hO2.sl_of)
  have heq : (([(0 : UInt8)] : List UInt8) == [0]) = true := rfl
  rw [heq] at HE
  obtain ⟨b0, o0, rfl, _, k0, p0⟩ := s5.sv (k := 0) (by simp)
  obtain ⟨b1, o1, hA, _, k1, p1⟩ := s5.sv (k := 1) (by simp)
  injection hA with hA
  injection hA with hA1 hA2
  subst hA1 hA2
  simp only [List.getElem_cons_zero, List.getElem_cons_succ, hx, hy, List.length_cons, List.length_nil, Nat.zero_add, Nat.add_zero] at k0 k1 p0 p1
  obtain ⟨d0, u0, hz0, _, _, _, q0, _⟩ := k0.od (k := 0) (by simp)
  obtain ⟨d1, u1, hz1, _, _, _, q1, _⟩ := k1.od (k := 0) (by simp)
  rw [hz0] at p0
  rw [hz1] at p1
  simp only [Nat.zero_mul, Nat.add_zero, List.getElem_cons_zero] at q0 q1
  have q0 : w8.cell? ⟨d0, u0 + 1, none⟩ = some (i64 1) := q0
  have q1 : w8.cell? ⟨d1, u1 + 1, none⟩ = some (i64 3) := q1
  clear hO2 h0 s5 s6 heq k0 k1 hz0 hz1
  go_wp2_with fail
  refine HE.out.mono ?_
  rintro e w9 ⟨rfl, hF⟩
  have t9 := t5.out.later hF
  have hb11 := below_on hb10 (Nat.le_refl _) hF
  clear HE hF t5
  go_wp2_with fail
  refine (HN.out _ t9).mono ?_
  rintro e w10 ⟨rfl, hF⟩
  have hb12 := below_on hb11 (Nat.le_refl _) hF
  go_wp2
  go_ret
  exact ⟨rfl, hb12⟩
end Go.Proofs.YtdkkblhfjblpkaaGreat

/- few, own of countinghouselaw11 -/
namespace Go.Proofs.YtdkkblhfjblpkaaGreat
open Go.RowKit
set_option maxRecDepth 100000 in
set_option maxHeartbeats 1000000 in
theorem few_11 (A : Option Addr) (c n : Nat) (l : List Od) (w : World) (h : Sl w w.heap.size A c l) (hn : n ≤ 65536) :
    Calls Tryz.prog 12 #[.slice A l.length c, i64 n] w fun e w' => ∃ v, e = .returned v ∧ Own w' w.heap.size 50 v (fewL n l) ∧ Below w.heap.size w w' := by
  have hlm : l.length ≤ 9223372036854775807 := h.len_le
  go_enter Tryz.func12, Tryz.ntmps12
  go_wp2
  go_loopw [5, 6] (fun v i wr => ∃ k : Nat, i = i64 k ∧ k ≤ l.length ∧ k ≤ n ∧ Own wr w.heap.size 50 v (fewL k l) ∧ Below w.heap.size w wr) (fun _ i _ => l.length - (intOf i).toNat)
  case atStart => exact ⟨0, rfl, by omega, by omega, Own.nil_ _ _ _, Below.refl _ _⟩
  case round =>
    obtain ⟨k, rfl, hk, hkn, hO, hb⟩ := hrel
    by_cases hlt : k < l.length ∧ k < n
    · obtain ⟨h1, h2⟩ := hlt
      obtain ⟨b, o, rfl, hbb, hok, c0, c1, c2, c3, c4, c5, c6, c7, c8, c9⟩ := (h.below hb).od h1
      have hlc : l[k].legs.length ≤ l[k].lc := hok.legs.1
      have Hok := Lib.hid hok
      clear hok
      have HO := Lib.hid hO
      have hne := hO.new_ne (Nat.le_succ wr.heap.size)
      have Hne := Lib.hid hne
      clear hO hne
      have hlen : (fewL k l).length = k := fewL_len h1
      have HL := Lib.hid hlen
      clear hlen
      by_cases h8 : l[k].legs.length ≤ 8
      all_goals
        have hB2 := ((Below.refl wr.heap.size wr).alloc (Nat.le_refl _) (.cells (cut8 l[k]).cells.toArray 50)).alloc (by simp) (.cells (cut8 l[k]).cells.toArray 50)
        have hb2 := hb.trans (hB2.mono hb.size)
        have hHeap := heap_alloc2_new wr (.cells (cut8 l[k]).cells.toArray 50) (.cells (cut8 l[k]).cells.toArray 50)
        have hO2 := HO.out.later hB2
        have hok2 : Enc.ok ((wr.alloc (.cells (cut8 l[k]).cells.toArray 50)).alloc (.cells (cut8 l[k]).cells.toArray 50)) (Oth ((wr.alloc (.cells (cut8 l[k]).cells.toArray 50)).alloc (.cells (cut8 l[k]).cells.toArray 50)) _) (cut8 l[k]) := Enc.keep (cut8_ok Hok.out) (fun _ hp => hB2.cell (Nat.lt_of_lt_of_le hp hb.size)) (hO2.oth (Nat.le_refl _) hb2.size)
        have HO2 := Lib.hid hO2
        have Hok2 := Lib.hid hok2
        have HH := Lib.hid hHeap
        have Hb2 := Lib.hid hb2
        clear hO2 hok2 hHeap hb2 hB2
        have hcs : (cut8 l[k]).cells = [i64 l[k].client, i64 l[k].seq, i64 l[k].kind, .string l[k].acct, .string l[k].peer, i64 l[k].sum, .slice l[k].la (cut8 l[k]).legs.length l[k].lc, i64 l[k].period, i64 l[k].hold, .string l[k].note] := rfl
        first
          | (first
               | (have h88 : (cut8 l[k]).legs.length = l[k].legs.length := by rw [cut8_small h8]
                  rw [h88] at hcs
                  clear h88)
               | (have h88 : (cut8 l[k]).legs.length = 8 := by show (l[k].legs.take 8).length = 8; rw [List.length_take]; omega
                  rw [h88] at hcs
                  clear h88)
             have Hcs := Lib.hid hcs
             rw [hcs] at HO2 Hok2 HH Hb2
             clear hcs
             go_wp2_with (at_builtin; refine wpList_append_one rfl (some 34) (.tmp 31) (.tmp 33) 22 rfl rfl _ 120 Tryz.underlying22 inf_od rfl (by decide) (by decide) rfl HO2.out (wr.heap.size + 1) (cut8 l[k]) rfl _ 50 HH.out Hcs.out.symm Hne.out Hok2.out (by rw [HL.out]; omega) Hb2.out.size ?_; intro v3 w3 hO3 hg3 hat3)
             go_roundw
             case rel => exact ⟨k + 1, by go_num, by omega, by omega, by rw [fewL_succ h1]; exact hO3, Hb2.out.trans (HO2.out.below hg3 (Nat.le_refl _) Hb2.out.size)⟩
             case measure => simp [intOf]; omega)
          | (have h88 : (cut8 l[k]).legs.length = (min (l[k].legs.length : Int) 8).toNat := by show (l[k].legs.take 8).length = _; rw [List.length_take]; omega
             rw [h88] at hcs
             clear h88
             have Hcs := Lib.hid hcs
             rw [hcs] at HO2 Hok2 HH Hb2
             clear hcs
             go_wp2_with (at_builtin; refine wpList_append_one rfl (some 34) (.tmp 31) (.tmp 33) 22 rfl rfl _ 120 Tryz.underlying22 inf_od rfl (by decide) (by decide) rfl HO2.out (wr.heap.size + 1) (cut8 l[k]) rfl _ 50 HH.out Hcs.out.symm Hne.out Hok2.out (by rw [HL.out]; omega) Hb2.out.size ?_; intro v3 w3 hO3 hg3 hat3)
             go_roundw
             case rel => exact ⟨k + 1, by go_num, by omega, by omega, by rw [fewL_succ h1]; exact hO3, Hb2.out.trans (HO2.out.below hg3 (Nat.le_refl _) Hb2.out.size)⟩
             case measure => simp [intOf]; omega)
    · have hf : fewL n l = fewL k l := by
        unfold fewL
        rcases Nat.lt_or_ge k l.length with h1 | h1
        · rw [show n = k by omega]
        · rw [List.take_of_length_le (by omega), List.take_of_length_le h1]
      have Hf := Lib.hid hf
      clear hf
      by_cases hkl : k < l.length
      · have hkn2 : ¬ k < n := fun h => hlt ⟨hkl, h⟩
        clear hlt
        go_wp2
        go_ret
        exact ⟨_, rfl, by rw [Hf.out]; exact hO, hb⟩
      · clear hlt
        go_wp2
        go_ret
        exact ⟨_, rfl, by rw [Hf.out]; exact hO, hb⟩
end Go.Proofs.YtdkkblhfjblpkaaGreat

/- what the reference's inner functions are to answer -/
namespace Go.Proofs.YtdkkblhfjblpkaaGreat
open Go.RowKit
/-- what ref06.Touches is to answer -/
abbrev RTouch : Prop := ∀ (x : Od) (w : World), Okb w w.heap.size x → x.legs.length ≤ 10 →
  Calls Tryz.prog 109 #[x.v] w fun e w' => ∃ v, e = .returned v ∧ Own w' w.heap.size 9 v (touches x) ∧ Below w.heap.size w w'
/-- what ref10.Clash is to answer -/
abbrev RClash : Prop := ∀ (x y : Od) (w : World), Okb w w.heap.size x → Okb w w.heap.size y → x.legs.length ≤ 10 → y.legs.length ≤ 10 →
  Calls Tryz.prog 71 #[x.v, y.v] w fun e w' => e = .returned (.bool (clashB x y)) ∧ Below w.heap.size w w'
end Go.Proofs.YtdkkblhfjblpkaaGreat
