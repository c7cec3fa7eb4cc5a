/- law09.BookAsks -/
import Derived.Test.YtmljlkjomjflpaaGreatRows
import Derived.Test.YtmljlkjomjflpaaGreatBb24
import Derived.WalkKit
import Derived.WalkSpells
import Derived.WalkLawsBesides
import Derived.Deep.QuietTactic
import Derived.BigQuiet
import Derived.Laws.StructEq
import Derived.Deep.DeepFit
import Derived.StillTailTactics
namespace Go.Proofs.YtmljlkjomjflpaaGreat
open Go.RowKit
theorem cutN_inR {m : Nat} {x : Od} (h : InR x) : InR (cutN m x) := ⟨h.1, h.2.1, h.2.2.1, h.2.2.2.1, h.2.2.2.2.1, h.2.2.2.2.2.1, fun l hl => h.2.2.2.2.2.2 l (List.mem_of_mem_take hl)⟩
theorem fewN_odB {w : World} {S : Nat → Prop} {A : Option Addr} {c m n : Nat} {l : List Od} (h : SlS w S A c l) (hr : ∀ x ∈ l, InR x) : ∀ x ∈ fewN m n l, OdB x := fun x hx => by
  obtain ⟨y, hy, rfl⟩ := List.mem_map.1 hx
  have hy := List.mem_of_mem_take hy
  have ho : Od.Ok w S y := h.2.2.2 y hy
  exact ⟨ho.acct, ho.peer, cutN_inR (hr y hy)⟩
theorem right_ask {q : Int} {k : ByteArray} {s : Int} (h : 1 ≤ q ∧ q ≤ 999) : rightB (askK q 7 k s) = (decide (s = 0) && nameB k) := by
  unfold rightB
  have hb : sameB (askK q 7 k s) (dress (askK q 7 k s) (bareO (askK q 7 k s))) = decide (s = 0) := by
    unfold sameB
    rw [decide_eq_decide]
    constructor
    · intro h; exact h.sum
    · intro h; exact ⟨rfl, rfl, rfl, rfl, rfl, h, rfl, rfl, rfl⟩
  have hf : fitsO (askK q 7 k s) = nameB k := rfl
  rw [hb, hf]
  have h1 : decide (1 ≤ (askK q 7 k s).seq) = true := decide_eq_true h.1
  have h2 : decide ((askK q 7 k s).seq ≤ 999) = true := decide_eq_true h.2
  rw [h1, h2]
  show (true && ((true && true) && (true && true) && _)) = _
  simp only [Bool.true_and]
/-- what who asks is told -/
def askR (B : Bk) (k : ByteArray) : Rp := if nameB k = false then rpE 1 else tellsL B.L k 0
theorem doL_askK (B : Bk) {q : Int} (k : ByteArray) (h : 1 ≤ q ∧ q ≤ 999) : doL B (askK q 7 k 0) = (askR B k, B) := by
  unfold doL askR
  rw [right_ask h]
  simp only [decide_true, Bool.true_and]
  by_cases hn : nameB k = false
  · rw [if_pos hn, if_pos hn]
  · rw [if_neg hn, if_neg hn]; rfl
theorem askR_some {B : Bk} (hI : InvB B) {a : Ac} (ha : a ∈ B.L) : askR B a.name = ⟨0, a.hav, a.set_, 0⟩ := by
  unfold askR
  have hn := (hI.inv.okA a ha).2.2
  rw [if_neg (by rw [hn]; decide)]
  have hg := getLR_some (getK_of keyA hI.inv.srtA ha)
  rw [tells_ok (by rw [hg]), hg]
theorem askR_none {B : Bk} {k : ByteArray} (h : ∀ a ∈ B.L, a.name ≠ k) : askR B k = rpE 6 ∨ askR B k = rpE 1 := by
  unfold askR
  by_cases hn : nameB k = false
  · rw [if_pos hn]; exact .inr rfl
  · rw [if_neg hn]
    left
    have hg : getLR B.L k = (ac0, 6) := by unfold getLR; rw [getK_none.2 h]
    unfold tellsL
    rw [if_neg (fun e => e rfl), hg, if_pos (by show (6 : Int) ≠ 0; decide)]
theorem bask_do (a : BA) (B : Bk) (k : ByteArray) (q : Int) (w : World) (hq : 1 ≤ q ∧ q ≤ 999) (h : BkA w a B) (hI : InvB B) (hk : k.size ≤ maxLen) :
    Calls Tryz.prog 28 #[a.ptr, (askK q 7 k 0).v] w fun e w' => e = .returned (askR B k).v ∧ BkA w' a B ∧ Gr w w' a.own := by
  have := bdo_c a B (askK q 7 k 0) w h hI (askK_odB hk ⟨by omega, by omega⟩ ⟨by decide, by decide⟩ R64_0) ⟨askK_ok q 7 k 0 hk w _, Nat.zero_le _⟩
  rw [doL_askK B k hq] at this
  exact this
/-- a reply's row, which a book leaves alone -/
theorem row_kept {w w' : World} {a : BA} {g : Nat} {cs : Array Value} {t : TypeId} (h : w.heap[g]? = some (.cells cs t (0, 0))) (hg : Gr w w' a.own) (hn : ∀ k, a.all k → k ≠ g) : w'.heap[g]? = some (.cells cs t (0, 0)) :=
  (hg.block g (Array.getElem?_eq_some_iff.1 h).1 (fun e => hn _ (BA.own_all e) rfl)).trans h
theorem row_later {w w' : World} {g : Nat} {o : Obj} (h : w.heap[g]? = some o) (hb : Below w.heap.size w w') : w'.heap[g]? = some o := (hb.block g (Array.getElem?_eq_some_iff.1 h).1).trans h
set_option maxRecDepth 100000 in
set_option maxHeartbeats 8000000 in
theorem bookAsks_c (A : Option Addr) (c : Nat) (l : List Od) (k : ByteArray) (w : World) (h : Sl w w.heap.size A c l) (hr : ∀ x ∈ l, InR x) (hk : k.size ≤ maxLen) :
    Calls Tryz.prog 5 #[.slice A l.length c, .string k] w fun e w' => e = .returned (.bool true) ∧ Below w.heap.size w w' := by
  have hL := Lib.hid fun W => lives9_c W
  have HAs := Lib.hid (fun (q : Int) (W : World) => ask9_c q 7 k 0 W)
  have Hod := Lib.hid (fewN_odB (m := 10) (n := 60) h hr)
  have H := Lib.hid h
  clear h hr
  go_enter Tryz.func5, Tryz.ntmps5
  go_wp2_with fail
  refine (hL.out _).mono ?_
  rintro e w1 ⟨rfl, hF⟩
  have hb1 := hF
  have HFw := Lib.hid (few_09 A c 60 l w1 (H.out.later hF) (by decide))
  clear hL hF
  go_wp2_with fail
  refine HFw.out.mono ?_
  rintro e w2 ⟨v, rfl, hO, hF⟩
  obtain ⟨A2, c2, rfl, s2⟩ := hO.sl
  have hb2 := below_on hb1 (Nat.le_refl _) hF
  have HFo := Lib.hid (bfold_c A2 c2 (fewN 10 60 l) w2 s2 Hod.out (fun x hx => Nat.le_trans (fewN_legs 10 60 l x hx) (by decide)) (Nat.le_trans (fewN_le 10 60 l) (by decide)))
  clear HFw hO hF s2 hb1 H Hod
  generalize fewN 10 60 l = m at *
  go_wp2_with fail
  refine HFo.out.mono ?_
  rintro e w3 ⟨a, v3, B0, rfl, hB, hI, -, h0, ha, hF⟩
  generalize foldL bk0 m = B at *
  have hb3 := below_on hb2 (Nat.le_refl _) hF
  have hlt3 := hB.lt
  have hge : ∀ k, a.all k → w.heap.size ≤ k := fun k hk => Nat.le_trans hb2.size (ha k hk).1
  have Hge := Lib.hid hge
  have Hlt := Lib.hid hlt3
  have HDo := Lib.hid (fun (q : Int) (W : World) (hq : 1 ≤ q ∧ q ≤ 999) (hW : BkA W a B) => bask_do a B k q W hq hW hI hk)
  have HS := Lib.hid (fun (x : Ac) (hx : x ∈ B.L) (e : x.name = k) => (show askR B k = ⟨0, x.hav, x.set_, 0⟩ by rw [← e]; exact askR_some hI hx))
  have HN := Lib.hid (fun (hn : ∀ x ∈ B.L, x.name ≠ k) => askR_none hn)
  have HI := Lib.hid hI
  generalize askR B k = R at *
  clear HFo hF hb2 h0 ha hge hlt3 hI
  go_wp2_with fail
  refine (HAs.out 1 _).mono ?_
  rintro e w4 ⟨rfl, hF⟩
  have hb4 := below_on hb3 (Nat.le_refl _) hF
  have hB4 := hB.later hF
  have hz4 := hF.size
  clear hF hb3 hB
  go_wp2_with fail
  refine (HDo.out 1 _ (by decide) hB4).mono ?_
  rintro e w5 ⟨rfl, hB5, hG⟩
  have hb5 := hb4.trans (BkA.own_below hG hb4.size Hge.out)
  have hz5 := hG.size
  have hba := (Below.refl w5.heap.size w5).alloc (Nat.le_refl _) (.cells #[i64 R.err, i64 R.hav, i64 R.set_, i64 R.num] 59)
  have hg5 := heap_alloc_new w5 (.cells #[i64 R.err, i64 R.hav, i64 R.set_, i64 R.num] 59)
  have hb6 := hb5.alloc hb5.size (.cells #[i64 R.err, i64 R.hav, i64 R.set_, i64 R.num] 59)
  have hB6 := hB5.later hba
  have Hn5 := Lib.hid (show ∀ k, a.all k → k ≠ w5.heap.size from fun k hk e => by have := Hlt.out k hk; omega)
  have hz6 := hba.size
  clear hG hB4 hb4 hB5 hb5 hba
  go_wp2_with fail
  generalize w5.alloc (.cells #[i64 R.err, i64 R.hav, i64 R.set_, i64 R.num] 59) = w6 at *
  generalize w5.heap.size = g5 at *
  refine (HAs.out 2 _).mono ?_
  rintro e w7 ⟨rfl, hF⟩
  have hb7 := below_on hb6 (Nat.le_refl _) hF
  have hB7 := hB6.later hF
  have hg7 := row_later hg5 hF
  have hz7 := hF.size
  clear hF hb6 hB6 hg5
  go_wp2_with fail
  refine (HDo.out 2 _ (by decide) hB7).mono ?_
  rintro e w8 ⟨rfl, hB8, hG⟩
  have hb8 := hb7.trans (BkA.own_below hG hb7.size Hge.out)
  have hg8 := row_kept hg7 hG Hn5.out
  have hba := (Below.refl w8.heap.size w8).alloc (Nat.le_refl _) (.cells #[i64 R.err, i64 R.hav, i64 R.set_, i64 R.num] 59)
  have hk8 := heap_alloc_new w8 (.cells #[i64 R.err, i64 R.hav, i64 R.set_, i64 R.num] 59)
  have hb9 := hb8.alloc hb8.size (.cells #[i64 R.err, i64 R.hav, i64 R.set_, i64 R.num] 59)
  have hB9 := hB8.later hba
  have hg9 := row_later hg8 hba
  clear hG hB7 hb7 hB8 hb8 hba hg7 hg8
  go_wp2_with fail
  generalize w8.alloc (.cells #[i64 R.err, i64 R.hav, i64 R.set_, i64 R.num] 59) = w9 at *
  generalize w8.heap.size = g8 at *
  have HA := Lib.hid (baccts_c a B w9 hB9 HI.out)
  refine HA.out.mono ?_
  rintro e w10 ⟨v10, rfl, hO, hF⟩
  obtain ⟨A5, c5, rfl, s5⟩ := hO.sl
  have hb10 := below_on hb9 (Nat.le_refl _) hF
  have hg10 := row_later hg9 hF
  have hk10 := row_later hk8 hF
  have hl12 := HI.out.len
  clear HA hO hF hb9 hg9 hk8 hB9
  have p0 := cell_of_row _ g5 0 _ _ (0, 0) hg10
  have p1 := cell_of_row _ g5 1 _ _ (0, 0) hg10
  have p2 := cell_of_row _ g5 2 _ _ (0, 0) hg10
  have p3 := cell_of_row _ g5 3 _ _ (0, 0) hg10
  have q0 := cell_of_row _ g8 0 _ _ (0, 0) hk10
  have q1 := cell_of_row _ g8 1 _ _ (0, 0) hk10
  have q2 := cell_of_row _ g8 2 _ _ (0, 0) hk10
  have q3 := cell_of_row _ g8 3 _ _ (0, 0) hk10
  simp only [List.getElem?_toArray, List.getElem?_cons_zero, List.getElem?_cons_succ] at p0 p1 p2 p3 q0 q1 q2 q3
  have he : ∀ W : World, (binOp .eql 59 (.agg #[i64 R.err, i64 R.hav, i64 R.set_, i64 R.num]) (.agg #[i64 R.err, i64 R.hav, i64 R.set_, i64 R.num])).run Tryz.prog W = .ok (.bool true) W := fun W => by rw [eq_rp, decide_eq_true rfl]
  have hlc5 : B.L.length ≤ c5 := s5.1
  clear hg10 hk10
  go_wp2_with fail
  go_loopw [10] (fun i wr => ∃ n : Nat, i = i64 n ∧ n ≤ B.L.length ∧ (∀ j (hj : j < B.L.length), j < n → B.L[j].name ≠ k) ∧ wr = w10) (fun i _ => B.L.length - (intOf i).toNat)
  case atStart => exact ⟨0, rfl, Nat.zero_le _, fun j _ h => absurd h (by omega), rfl⟩
  case round =>
    obtain ⟨n, rfl, hn, hno, rfl⟩ := hrel
    have Hno := Lib.hid hno
    clear hno
    by_cases hlt : n < B.L.length
    · have g1 : decide ((n : Int) < (B.L.length : Int)) = true := decide_eq_true (by omega)
      have g2 : decide (n < B.L.length) = true := decide_eq_true hlt
      have i0 : (0 : Int) ≤ (n : Int) := by omega
      have i1 : (n : Int) < (B.L.length : Int) := by omega
      obtain ⟨b, o, rfl, _, _, d0, d1, d2, d3⟩ := s5.ac hlt
      by_cases hnm : B.L[n].name = k
      · have hRx := HS.out B.L[n] (List.getElem_mem hlt) hnm
        have g3 := beqS_of_eq hnm
        have he2 : ∀ W : World, (binOp .eql 59 (.agg #[i64 R.err, i64 R.hav, i64 R.set_, i64 R.num]) (.agg #[i64 0, i64 B.L[n].hav, i64 B.L[n].set_, i64 0])).run Tryz.prog W = .ok (.bool true) W := fun W => by rw [hRx]; exact (eq_rp ⟨0, B.L[n].hav, B.L[n].set_, 0⟩ ⟨0, B.L[n].hav, B.L[n].set_, 0⟩ W).trans (by rw [decide_eq_true rfl])
        clear hRx hnm
        go_wp2_with fail
        go_quiet (fail)
        go_wp2
        go_ret
        exact ⟨rfl, below_drewN hb10 _⟩
      · have g3 := beqS_of_ne hnm
        have Hnm := Lib.hid hnm
        clear hnm
        go_wp2
        go_roundw
        case rel => exact ⟨n + 1, by go_num, by omega, fun j hj h => by
            rcases Nat.lt_succ_iff_lt_or_eq.1 h with h | rfl
            · exact Hno.out j hj h
            · exact Hnm.out, trivial⟩
        case measure => simp [intOf]; omega
    · have g1 : decide ((n : Int) < (B.L.length : Int)) = false := decide_eq_false (by omega)
      have g2 : decide (n < B.L.length) = false := decide_eq_false hlt
      have hRx := HN.out (fun x hx e => by
        obtain ⟨j, hj, rfl⟩ := List.getElem_of_mem hx
        exact Hno.out j hj (by omega) e)
      rcases hRx with hRx | hRx
      · subst hRx
        have e0 : ((rpE 6).err == 6) = true := rfl
        have p0 : wr.cell? ⟨g5, 0, none⟩ = some (i64 6) := p0
        have p1 : wr.cell? ⟨g5, 1, none⟩ = some (i64 0) := p1
        have p2 : wr.cell? ⟨g5, 2, none⟩ = some (i64 0) := p2
        have p3 : wr.cell? ⟨g5, 3, none⟩ = some (i64 0) := p3
        have q0 : wr.cell? ⟨g8, 0, none⟩ = some (i64 6) := q0
        have q1 : wr.cell? ⟨g8, 1, none⟩ = some (i64 0) := q1
        have q2 : wr.cell? ⟨g8, 2, none⟩ = some (i64 0) := q2
        have q3 : wr.cell? ⟨g8, 3, none⟩ = some (i64 0) := q3
        have he : ∀ W : World, (binOp .eql 59 (.agg #[i64 6, i64 0, i64 0, i64 0]) (.agg #[i64 6, i64 0, i64 0, i64 0])).run Tryz.prog W = .ok (.bool true) W := he
        go_wp2
        go_ret
        exact ⟨rfl, hb10⟩
      · subst hRx
        have p0 : wr.cell? ⟨g5, 0, none⟩ = some (i64 1) := p0
        have p1 : wr.cell? ⟨g5, 1, none⟩ = some (i64 0) := p1
        have p2 : wr.cell? ⟨g5, 2, none⟩ = some (i64 0) := p2
        have p3 : wr.cell? ⟨g5, 3, none⟩ = some (i64 0) := p3
        have q0 : wr.cell? ⟨g8, 0, none⟩ = some (i64 1) := q0
        have q1 : wr.cell? ⟨g8, 1, none⟩ = some (i64 0) := q1
        have q2 : wr.cell? ⟨g8, 2, none⟩ = some (i64 0) := q2
        have q3 : wr.cell? ⟨g8, 3, none⟩ = some (i64 0) := q3
        have he : ∀ W : World, (binOp .eql 59 (.agg #[i64 1, i64 0, i64 0, i64 0]) (.agg #[i64 1, i64 0, i64 0, i64 0])).run Tryz.prog W = .ok (.bool true) W := he
        go_wp2
        go_ret
        exact ⟨rfl, hb10⟩
end Go.Proofs.YtmljlkjomjflpaaGreat
