/- Texts of this claim, laid together. -/
import Derived.Test.YtampniiehgimhaaGreatRows
import Derived.Test.YtampniiehgimhaaGreatBs1
import Derived.WalkKit
import Derived.WalkSpells
import Derived.WalkLawsBesides
import Derived.Deep.QuietTactic
import Derived.BigQuiet
import Derived.Laws.StructEq
import Derived.Deep.DeepFit
import Derived.StillTailTactics
import Derived.Lib.AppendZeros
import Derived.Test.YtampniiehgimhaaGreatBs6
import Derived.Test.YtampniiehgimhaaGreatBs3
import Derived.Test.YtampniiehgimhaaGreatBs2
import Derived.Test.YtampniiehgimhaaGreatBs5
import Derived.Deep.RegionHeld3
import Derived.Lib.Zigzag
import Derived.Lib.VarintMem
import Derived.Lib.ConvBytes
import Derived.Test.YtampniiehgimhaaGreatBs8

/- append of a slice behind a guard that is met -/
namespace Go.Proofs.YtampniiehgimhaaGreat
open Go.RowKit
section
variable {α : Type} [Enc α] {w : World} {base : Nat} {e : TypeId} {v : Value} {l : List α} {P : Program}
/-- the same as one operation of a drawn region -/
theorem oper_append {o : Oper} {a : Act} {K : Act → World → Prop} {Q : Exit → Act → World → Prop} (s x : Operand) (t : TypeId)
  (ho : o.op = .call { callee := .builtin .append, args := #[s, x], argTypes := #[t, t] }) (z : Value) (bytes : Nat) (ht : P.underlying t = some (.slice e)) (hinf : (P.info? e).map (fun i => (i.zero, i.size, i.bytes)) = some (some z, Enc.size α, bytes)) (hzs : z.cells.size = Enc.size α) (hsz : 0 < Enc.size α) (hby : bytes ≤ 1000)
  (hs : a.eval s = v) (h : Own w base e v l) (A : Option Addr) (n c : Nat) (ys : List α) (hx : a.eval x = .slice A n c) (hn : n = ys.length) (hsl : SlS w (Oth w v) A c ys) (hlen : l.length + ys.length ≤ 4294967296) (hbase : base ≤ w.heap.size)
  (hK : ∀ v' w', Own w' base e v' (l ++ ys) → w.grownBy w' v.ownBlock → (v'.ownBlock = v.ownBlock ∨ v'.ownBlock = some w.heap.size) → K (a.put o.dst v') w') : Oper.wp P o a w K Q := by
 subst hn
 obtain ⟨v', w', hrun, h2, h3, h4⟩ := run_append_slice (P := P) t o.type z bytes ht hinf hzs hsz hby h A c ys hsl hlen hbase
 unfold Oper.wp execOp
 simp only [ho, resolve, invoke, builtin, Sem.run_bind, Sem.run_pure, Result.andThen_ok, List.map_toArray, List.map_cons, List.map_nil, hs, hx, hrun]
 exact hK v' w' h2 h3 h4
theorem oper_append_one {o : Oper} {a : Act} {K : Act → World → Prop} {Q : Exit → Act → World → Prop} (s x : Operand) (t : TypeId)
  (ho : o.op = .call { callee := .builtin .append, args := #[s, x], argTypes := #[t, t] }) (z : Value) (bytes : Nat) (ht : P.underlying t = some (.slice e)) (hinf : (P.info? e).map (fun i => (i.zero, i.size, i.bytes)) = some (some z, Enc.size α, bytes)) (hzs : z.cells.size = Enc.size α) (hsz : 0 < Enc.size α) (hby : bytes ≤ 1000)
  (hs : a.eval s = v) (h : Own w base e v l) (g : Nat) (y : α) (hx : a.eval x = .slice (some ⟨g, 0, none⟩) 1 1) (cs : Array Value) (te : TypeId) (hg : w.heap[g]? = some (.cells cs te (0, 0))) (hcs : cs.toList = Enc.cells y) (hne : some g ≠ v.ownBlock) (hy : Enc.ok w (Oth w v) y)
  (hlen : l.length + 1 ≤ 4294967296) (hbase : base ≤ w.heap.size)
  (hK : ∀ v' w', Own w' base e v' (l ++ [y]) → w.grownBy w' v.ownBlock → (v'.ownBlock = v.ownBlock ∨ v'.ownBlock = some w.heap.size) → K (a.put o.dst v') w') : Oper.wp P o a w K Q := by
 refine oper_append s x t ho z bytes ht hinf hzs hsz hby hs h (some ⟨g, 0, none⟩) 1 1 [y] hx rfl ⟨Nat.le_refl _, by simp [maxLen], fun _ => ⟨g, 0, rfl, ⟨(Array.getElem?_eq_some_iff.1 hg).1, hne⟩, fun j u hu => ?_⟩, fun x hx => ?_⟩ hlen hbase hK
 ·rw [cell_of_row w g (0 + j) cs te (0, 0) hg, Nat.zero_add]
  simp only [List.flatMap_cons, List.flatMap_nil, List.append_nil, ← hcs] at hu
  simpa using hu
 ·simp only [List.mem_singleton] at hx
  subst hx; exact hy
end
end Go.Proofs.YtampniiehgimhaaGreat
/- Slices of slices as data; a new row with room. No program. -/
namespace Go.Proofs.YtampniiehgimhaaGreat
open Go.RowKit
/-- a slice as a datum: where it lies, and what it reads as -/
structure SV (α : Type) where
 a : Option Addr
 c : Nat
 l : List α
instance encSV {α : Type} [Enc α] : Enc (SV α) where
 size := 1
 cells s := [.slice s.a s.l.length s.c]
 val s := .slice s.a s.l.length s.c
 ok w S s := SlS w S s.a s.c s.l
 len _ := rfl
 one _ v hv := by simp only [List.mem_singleton] at hv; subst hv; rfl
 keep h hk hS := h.keep hk hS
section
variable {α : Type} [Enc α]
end
end Go.Proofs.YtampniiehgimhaaGreat
/- ref06.Same -/
namespace Go.Proofs.YtampniiehgimhaaGreat
open Go.RowKit
theorem neq_id (a b c d : Int) (w : World) : (binOp .neq 34 (.agg #[i64 a, i64 b]) (.agg #[i64 c, i64 d])).run Tryz.prog w = .ok (.bool (!decide (Id.mk a b = ⟨c, d⟩))) w := by
 have u3 := Tryz.underlying3
 have a3 := Tryz.isAgg3
 have z3 := Tryz.sizeOf3
 have hS : Tryz.prog.underlying 34 = some (.struct (Tryz.prog.fieldsOf 34)) := by kernel_rfl
 have hp : Tryz.prog.stoodInHeld 34 = false := by kernel_rfl
 rw [run_neq_struct, show (10000 : Nat) = 9999 + 1 from rfl, run_equalIn_agg w 9999 34 _ _ hS hp]
 simp only [Program.fieldsOf, Tryz.underlying34]
 go_simp
 by_cases h1 : a = c <;> by_cases h2 : b = d <;> simp [h1, h2]
theorem bneS_of_eq {s t : ByteArray} (h : s = t) : (s.toList != t.toList) = false := by rw [bne, beqS_of_eq h]; rfl
theorem bneS_of_ne {s t : ByteArray} (h : s ≠ t) : (s.toList != t.toList) = true := by rw [bne, beqS_of_ne h]; rfl
set_option maxRecDepth 100000 in
set_option maxHeartbeats 2000000 in
theorem rsame_c (x y : Od) (w : World) (hx : Okb w w.heap.size x) (hy : Okb w w.heap.size y) (hlx : x.legs.length ≤ 65536) (_hly : y.legs.length ≤ 65536) :
  Calls Tryz.prog 111 #[x.v, y.v] w fun e w' => e = .returned (.bool (sameB x y)) ∧ Below w.heap.size w w' := by
 obtain ⟨-, -, -, hgx⟩ := hx
 obtain ⟨-, -, -, hgy⟩ := hy
 have hb1 : Below w.heap.size w ((w.alloc (.cells #[i64 x.client, i64 x.seq, i64 x.kind, .string x.acct, .string x.peer, i64 x.sum, .slice x.la x.legs.length x.lc, i64 x.period, i64 x.hold, .string x.note] 37)).alloc (.cells #[i64 y.client, i64 y.seq, i64 y.kind, .string y.acct, .string y.peer, i64 y.sum, .slice y.la y.legs.length y.lc, i64 y.period, i64 y.hold, .string y.note] 37)) := ((Below.refl _ _).alloc (Nat.le_refl _) _).alloc (by simp) _
 have Hgx := Lib.hid (hgx.later hb1)
 have Hgy := Lib.hid (hgy.later hb1)
 clear hgx hgy
 unfold Od.v
 by_cases h0 : x.id = y.id
 ·have q0 : ∀ W : World, (binOp .neq 34 (.agg #[i64 x.client, i64 x.seq]) (.agg #[i64 y.client, i64 y.seq])).run Tryz.prog W = .ok (.bool false) W := fun W => by rw [neq_id, decide_eq_true (show Id.mk x.client x.seq = ⟨y.client, y.seq⟩ from h0)]; rfl
  by_cases h1 : x.kind = y.kind
  ·have q1 : (x.kind != y.kind) = false := by rw [h1]; simp
   by_cases h2 : x.acct = y.acct
   ·have q2 := bneS_of_eq h2
    have p2 := beqS_of_eq h2
    by_cases h3 : x.peer = y.peer
    ·have q3 := bneS_of_eq h3
     have p3 := beqS_of_eq h3
     by_cases h4 : x.sum = y.sum
     ·have q4 : (x.sum != y.sum) = false := by rw [h4]; simp
      by_cases h5 : x.period = y.period
      ·have q5 : (x.period != y.period) = false := by rw [h5]; simp
       by_cases h6 : x.hold = y.hold
       ·have q6 : (x.hold != y.hold) = false := by rw [h6]; simp
        by_cases h7 : x.note = y.note
        ·have q7 := bneS_of_eq h7
         have p7 := beqS_of_eq h7
         by_cases h8 : x.legs.length = y.legs.length
         ·have q8 : ((x.legs.length : Int) != (y.legs.length : Int)) = false := by rw [h8]; simp
          have H : Hid (x.id = y.id ∧ x.kind = y.kind ∧ x.acct = y.acct ∧ x.peer = y.peer ∧ x.sum = y.sum ∧ x.period = y.period ∧ x.hold = y.hold ∧ x.note = y.note ∧ x.legs.length = y.legs.length) := Lib.hid ⟨h0, h1, h2, h3, h4, h5, h6, h7, h8⟩
          clear h0 h1 h2 h3 h4 h5 h6 h7 h8
          have hxs : sameB x y = decide (x.legs = y.legs) := by
           obtain ⟨h0, h1, h2, h3, h4, h5, h6, h7, _⟩ := H.out
           by_cases hl : x.legs = y.legs
           ·rw [decide_eq_true hl]; exact decide_eq_true ⟨h2, h3, h7, h0, h1, h4, h5, h6, hl⟩
           ·rw [decide_eq_false hl]; exact decide_eq_false fun k => hl k.legs
          have Hxs := Lib.hid hxs
          clear hxs
          go_enter Tryz.func111, Tryz.ntmps111
          go_wp2
          have hcx : World.cell? ((w.alloc (.cells #[i64 x.client, i64 x.seq, i64 x.kind, .string x.acct, .string x.peer, i64 x.sum, .slice x.la x.legs.length x.lc, i64 x.period, i64 x.hold, .string x.note] 37)).alloc (.cells #[i64 y.client, i64 y.seq, i64 y.kind, .string y.acct, .string y.peer, i64 y.sum, .slice y.la y.legs.length y.lc, i64 y.period, i64 y.hold, .string y.note] 37)) ⟨w.heap.size, 6, none⟩ = some (.slice x.la x.legs.length x.lc) := cell_of_row _ w.heap.size 6 _ _ (0, 0) (heap_alloc2_old w _ _)
          have hcy : World.cell? ((w.alloc (.cells #[i64 x.client, i64 x.seq, i64 x.kind, .string x.acct, .string x.peer, i64 x.sum, .slice x.la x.legs.length x.lc, i64 x.period, i64 x.hold, .string x.note] 37)).alloc (.cells #[i64 y.client, i64 y.seq, i64 y.kind, .string y.acct, .string y.peer, i64 y.sum, .slice y.la y.legs.length y.lc, i64 y.period, i64 y.hold, .string y.note] 37)) ⟨w.heap.size + 1, 6, none⟩ = some (.slice y.la y.legs.length y.lc) := cell_of_row _ (w.heap.size + 1) 6 _ _ (0, 0) (heap_alloc2_new w _ _)
          generalize (w.alloc (.cells #[i64 x.client, i64 x.seq, i64 x.kind, .string x.acct, .string x.peer, i64 x.sum, .slice x.la x.legs.length x.lc, i64 x.period, i64 x.hold, .string x.note] 37)).alloc (.cells #[i64 y.client, i64 y.seq, i64 y.kind, .string y.acct, .string y.peer, i64 y.sum, .slice y.la y.legs.length y.lc, i64 y.period, i64 y.hold, .string y.note] 37) = W1 at *
          go_loopw [5] (fun i wr => ∃ (j m : Nat), i = i64 j ∧ j ≤ x.legs.length ∧ x.legs.take j = y.legs.take j ∧ wr = W1.drewN m) (fun i _ => x.legs.length - (intOf i).toNat)
          case atStart => exact ⟨0, 0, rfl, by omega, rfl, rfl⟩
          case round =>
           obtain ⟨j, m, rfl, hj, ht, rfl⟩ := hrel
           have HT := Lib.hid ht
           clear ht
           by_cases hlt : j < x.legs.length
           ·have hltm : j < y.legs.length := by have := H.out.2.2.2.2.2.2.2.2; omega
            obtain ⟨b, o, hA, hb, -, c0, c1⟩ := Hgx.out.leg hlt
            obtain ⟨b', o', hA', hb', -, c0', c1'⟩ := Hgy.out.leg hltm
            have he : ∀ W : World, (binOp .neq 167 (.agg #[.string x.legs[j].acct, i64 x.legs[j].sum]) (.agg #[.string y.legs[j].acct, i64 y.legs[j].sum])).run Tryz.prog W = .ok (.bool (!decide (x.legs[j] = y.legs[j]))) W := neq_leg _ _ _ _
            rw [hA] at hcx
            rw [hA'] at hcy
            by_cases heq : x.legs[j] = y.legs[j]
            ·simp only [decide_eq_true heq, Bool.not_true] at he
             have Heq := Lib.hid heq
             clear heq
             go_wp2
             go_quiet (fail)
             go_wp2
             go_roundw
             case rel => exact ⟨j + 1, m + _, by go_num, by omega, by rw [List.take_succ_eq_append_getElem hlt, List.take_succ_eq_append_getElem hltm, HT.out, Heq.out], rfl⟩
             case measure => simp [intOf]; omega
            ·simp only [decide_eq_false heq, Bool.not_false] at he
             have Heq := Lib.hid heq
             clear heq
             go_wp2
             go_quiet (fail)
             go_wp2
             go_ret
             refine ⟨?_, below_drewN (below_drewN hb1 _) _⟩
             rw [Hxs.out, decide_eq_false (show ¬ x.legs = y.legs from fun e => Heq.out (by simp only [e]))]
             rfl
           ·obtain rfl : j = x.legs.length := by omega
            go_wp2
            go_ret
            refine ⟨?_, below_drewN hb1 _⟩
            rw [Hxs.out, decide_eq_true (show x.legs = y.legs by
             have := HT.out
             rwa [List.take_length, List.take_of_length_le (by have := H.out.2.2.2.2.2.2.2.2; omega)] at this)]
            rfl
         ·have q8 : ((x.legs.length : Int) != (y.legs.length : Int)) = true := by rw [bne_iff_ne]; omega
          have Hs : Hid (sameB x y = false) := Lib.hid (decide_eq_false fun k => h8 (by rw [k.legs]))
          clear h0 h1 h2 h3 h4 h5 h6 h7 h8
          go_enter Tryz.func111, Tryz.ntmps111
          go_wp2
          go_ret
          exact ⟨by rw [Hs.out]; rfl, hb1⟩
        ·have q7 := bneS_of_ne h7
         have p7 := beqS_of_ne h7
         have Hs : Hid (sameB x y = false) := Lib.hid (decide_eq_false fun k => h7 k.note)
         clear h0 h1 h2 h3 h4 h5 h6 h7
         go_enter Tryz.func111, Tryz.ntmps111
         go_wp2
         go_ret
         exact ⟨by rw [Hs.out]; rfl, hb1⟩
       ·have q6 : (x.hold != y.hold) = true := bne_iff_ne.2 h6
        have Hs : Hid (sameB x y = false) := Lib.hid (decide_eq_false fun k => h6 k.hold)
        clear h0 h1 h2 h3 h4 h5 h6
        go_enter Tryz.func111, Tryz.ntmps111
        go_wp2
        go_ret
        exact ⟨by rw [Hs.out]; rfl, hb1⟩
      ·have q5 : (x.period != y.period) = true := bne_iff_ne.2 h5
       have Hs : Hid (sameB x y = false) := Lib.hid (decide_eq_false fun k => h5 k.period)
       clear h0 h1 h2 h3 h4 h5
       go_enter Tryz.func111, Tryz.ntmps111
       go_wp2
       go_ret
       exact ⟨by rw [Hs.out]; rfl, hb1⟩
     ·have q4 : (x.sum != y.sum) = true := bne_iff_ne.2 h4
      have Hs : Hid (sameB x y = false) := Lib.hid (decide_eq_false fun k => h4 k.sum)
      clear h0 h1 h2 h3 h4
      go_enter Tryz.func111, Tryz.ntmps111
      go_wp2
      go_ret
      exact ⟨by rw [Hs.out]; rfl, hb1⟩
    ·have q3 := bneS_of_ne h3
     have p3 := beqS_of_ne h3
     have Hs : Hid (sameB x y = false) := Lib.hid (decide_eq_false fun k => h3 k.peer)
     clear h0 h1 h2 h3
     go_enter Tryz.func111, Tryz.ntmps111
     go_wp2
     go_ret
     exact ⟨by rw [Hs.out]; rfl, hb1⟩
   ·have q2 := bneS_of_ne h2
    have p2 := beqS_of_ne h2
    have Hs : Hid (sameB x y = false) := Lib.hid (decide_eq_false fun k => h2 k.acct)
    clear h0 h1 h2
    go_enter Tryz.func111, Tryz.ntmps111
    go_wp2
    go_ret
    exact ⟨by rw [Hs.out]; rfl, hb1⟩
  ·have q1 : (x.kind != y.kind) = true := bne_iff_ne.2 h1
   have Hs : Hid (sameB x y = false) := Lib.hid (decide_eq_false fun k => h1 k.kind)
   clear h0 h1
   go_enter Tryz.func111, Tryz.ntmps111
   go_wp2
   go_ret
   exact ⟨by rw [Hs.out]; rfl, hb1⟩
 ·have q0 : ∀ W : World, (binOp .neq 34 (.agg #[i64 x.client, i64 x.seq]) (.agg #[i64 y.client, i64 y.seq])).run Tryz.prog W = .ok (.bool true) W := fun W => by rw [neq_id, decide_eq_false (show ¬ Id.mk x.client x.seq = ⟨y.client, y.seq⟩ from h0)]; rfl
  have Hs : Hid (sameB x y = false) := Lib.hid (decide_eq_false fun k => h0 k.id)
  clear h0
  go_enter Tryz.func111, Tryz.ntmps111
  go_wp2
  go_ret
  exact ⟨by rw [Hs.out]; rfl, hb1⟩
end Go.Proofs.YtampniiehgimhaaGreat
/- calls, as one operation of a drawn region -/
namespace Go.Proofs.YtampniiehgimhaaGreat
open Go.RowKit
theorem oper_call1 {P : Program} {o : Oper} {a : Act} {w : World} {K : Act → World → Prop} {Q : Exit → Act → World → Prop} (f n : Nat) (ts : Array TypeId) (ho : o.op = .call { callee := .value (.func f), args := #[.tmp n], argTypes := ts }) (v : Value) (hx : a.tmps[n]?.getD undef = v)
  (ek : ∀ args w, (callFunc f args).run P w = .ok (.enter f args) w) (h : Calls P f #[v] w fun e w' => ∃ r, e = .returned r ∧ K (a.put o.dst r) w') : Oper.wp P o a w K Q := by
 obtain ⟨d, op, t, ps, af, gd⟩ := o
 dsimp only at ho h
 subst ho
 go_simp
 exact h.mono (by rintro e w' ⟨r, rfl, h2⟩; exact h2)
theorem oper_call2 {P : Program} {o : Oper} {a : Act} {w : World} {K : Act → World → Prop} {Q : Exit → Act → World → Prop} (f n m : Nat) (ts : Array TypeId) (ho : o.op = .call { callee := .value (.func f), args := #[.tmp n, .tmp m], argTypes := ts }) (v u : Value) (hx : a.tmps[n]?.getD undef = v) (hy : a.tmps[m]?.getD undef = u)
  (ek : ∀ args w, (callFunc f args).run P w = .ok (.enter f args) w) (h : Calls P f #[v, u] w fun e w' => ∃ r, e = .returned r ∧ K (a.put o.dst r) w') : Oper.wp P o a w K Q := by
 obtain ⟨d, op, t, ps, af, gd⟩ := o
 dsimp only at ho h
 subst ho
 go_simp
 exact h.mono (by rintro e w' ⟨r, rfl, h2⟩; exact h2)
theorem oper_call3 {P : Program} {o : Oper} {a : Act} {w : World} {K : Act → World → Prop} {Q : Exit → Act → World → Prop} (f n1 n2 n3 : Nat) (ts : Array TypeId) (ho : o.op = .call { callee := .value (.func f), args := #[.tmp n1, .tmp n2, .tmp n3], argTypes := ts }) (v1 v2 v3 : Value) (h1 : a.tmps[n1]?.getD undef = v1) (h2 : a.tmps[n2]?.getD undef = v2) (h3 : a.tmps[n3]?.getD undef = v3)
  (ek : ∀ args w, (callFunc f args).run P w = .ok (.enter f args) w) (h : Calls P f #[v1, v2, v3] w fun e w' => ∃ r, e = .returned r ∧ K (a.put o.dst r) w') : Oper.wp P o a w K Q := by
 obtain ⟨d, op, t, ps, af, gd⟩ := o
 dsimp only at ho h
 subst ho
 go_simp
 exact h.mono (by rintro e w' ⟨r, rfl, h2⟩; exact h2)
theorem oper_call4 {P : Program} {o : Oper} {a : Act} {w : World} {K : Act → World → Prop} {Q : Exit → Act → World → Prop} (f n1 n2 n3 n4 : Nat) (ts : Array TypeId) (ho : o.op = .call { callee := .value (.func f), args := #[.tmp n1, .tmp n2, .tmp n3, .tmp n4], argTypes := ts }) (v1 v2 v3 v4 : Value) (h1 : a.tmps[n1]?.getD undef = v1) (h2 : a.tmps[n2]?.getD undef = v2) (h3 : a.tmps[n3]?.getD undef = v3) (h4 : a.tmps[n4]?.getD undef = v4)
  (ek : ∀ args w, (callFunc f args).run P w = .ok (.enter f args) w) (h : Calls P f #[v1, v2, v3, v4] w fun e w' => ∃ r, e = .returned r ∧ K (a.put o.dst r) w') : Oper.wp P o a w K Q := by
 obtain ⟨d, op, t, ps, af, gd⟩ := o
 dsimp only at ho h
 subst ho
 go_simp
 exact h.mono (by rintro e w' ⟨r, rfl, h2⟩; exact h2)
theorem oper_call6 {P : Program} {o : Oper} {a : Act} {w : World} {K : Act → World → Prop} {Q : Exit → Act → World → Prop} (f n1 n2 n3 n4 n5 n6 : Nat) (ts : Array TypeId) (ho : o.op = .call { callee := .value (.func f), args := #[.tmp n1, .tmp n2, .tmp n3, .tmp n4, .tmp n5, .tmp n6], argTypes := ts }) (v1 v2 v3 v4 v5 v6 : Value) (h1 : a.tmps[n1]?.getD undef = v1) (h2 : a.tmps[n2]?.getD undef = v2) (h3 : a.tmps[n3]?.getD undef = v3) (h4 : a.tmps[n4]?.getD undef = v4) (h5 : a.tmps[n5]?.getD undef = v5) (h6 : a.tmps[n6]?.getD undef = v6)
  (ek : ∀ args w, (callFunc f args).run P w = .ok (.enter f args) w) (h : Calls P f #[v1, v2, v3, v4, v5, v6] w fun e w' => ∃ r, e = .returned r ∧ K (a.put o.dst r) w') : Oper.wp P o a w K Q := by
 obtain ⟨d, op, t, ps, af, gd⟩ := o
 dsimp only at ho h
 subst ho
 go_simp
 exact h.mono (by rintro e w' ⟨r, rfl, h2⟩; exact h2)
end Go.Proofs.YtampniiehgimhaaGreat
/- ref05.Ahead -/
namespace Go.Proofs.YtampniiehgimhaaGreat
open Go.RowKit
theorem bl_at : ∀ (x y : List UInt8) (k : Nat) (h1 : k < x.length) (h2 : k < y.length), (∀ j, j < k → x[j]? = y[j]?) → x[k] ≠ y[k] → Op.bytesLess x y = decide (x[k] < y[k])
 | [], _, _, h, _, _, _ => absurd h (by simp)
 | _ :: _, [], _, _, h, _, _ => absurd h (by simp)
 | u :: r, v :: s, 0, _, _, _, hne => by
  have hne2 : (u == v) = false := by simpa using hne
  simp [Op.bytesLess, hne2]
 | u :: r, v :: s, k + 1, h1, h2, hp, hne => by
  have h0 : u = v := by simpa using hp 0 (by omega)
  subst h0
  have hl : ¬ u < u := by rw [UInt8.lt_iff_toNat_lt]; omega
  have ih := bl_at r s k (by simpa using h1) (by simpa using h2) (fun j hj => by simpa using hp (j + 1) (by omega)) (by simpa using hne)
  simp only [Op.bytesLess, decide_eq_false hl, Bool.false_or, beq_self_eq_true, Bool.true_and, List.getElem_cons_succ]
  exact ih
theorem bl_end : ∀ (x y : List UInt8) (k : Nat), (∀ j, j < k → x[j]? = y[j]?) → k ≤ x.length → k ≤ y.length → (k = x.length ∨ k = y.length) → Op.bytesLess x y = decide (x.length < y.length)
 | [], [], _, _, _, _, _ => by simp [Op.bytesLess]
 | [], _ :: _, _, _, _, _, _ => by simp [Op.bytesLess]
 | _ :: _, [], _, _, _, _, _ => by simp [Op.bytesLess]
 | u :: r, v :: s, 0, _, _, _, h => by simp at h
 | u :: r, v :: s, k + 1, hp, h1, h2, h => by
  have h0 : u = v := by simpa using hp 0 (by omega)
  subst h0
  have hl : ¬ u < u := by rw [UInt8.lt_iff_toNat_lt]; omega
  have ih := bl_end r s k (fun j hj => by simpa using hp (j + 1) (by omega)) (by simpa using h1) (by simpa using h2) (by simpa using h)
  simp only [Op.bytesLess, decide_eq_false hl, Bool.false_or, beq_self_eq_true, Bool.true_and, ih, List.length_cons, Nat.add_lt_add_iff_right]
theorem toList_get (a : ByteArray) (k : Nat) (h : k < a.size) : a.toList[k]? = some a[k] := by
 rw [ByteArray.toList_eq]
 exact List.getElem?_eq_getElem (by simpa using h)
theorem toList_len (a : ByteArray) : a.toList.length = a.size := by rw [ByteArray.toList_eq]; simp
def samePre (a b : ByteArray) (k : Nat) : Prop := ∀ j (h1 : j < a.size) (h2 : j < b.size), j < k → a[j] = b[j]
theorem samePre.get {a b : ByteArray} {k : Nat} (h : samePre a b k) (h1 : k ≤ a.size) (h2 : k ≤ b.size) : ∀ j, j < k → a.toList[j]? = b.toList[j]? := fun j hj => by
 rw [toList_get a j (by omega), toList_get b j (by omega), h j (by omega) (by omega) hj]
theorem bless_at {a b : ByteArray} {k : Nat} (h : samePre a b k) (h1 : k < a.size) (h2 : k < b.size) (hne : a[k] ≠ b[k]) : bless a b = decide (a[k].toNat < b[k].toNat) := by
 have g1 : a.toList[k]'(by rw [toList_len]; exact h1) = a[k] := (List.getElem?_eq_some_iff.1 (toList_get a k h1)).2
 have g2 : b.toList[k]'(by rw [toList_len]; exact h2) = b[k] := (List.getElem?_eq_some_iff.1 (toList_get b k h2)).2
 unfold bless
 rw [bl_at a.toList b.toList k (by rw [toList_len]; exact h1) (by rw [toList_len]; exact h2) (h.get (by omega) (by omega)) (by rw [g1, g2]; exact hne), g1, g2]
 rw [decide_eq_decide, UInt8.lt_iff_toNat_lt]
theorem bless_end {a b : ByteArray} {k : Nat} (h : samePre a b k) (h1 : k ≤ a.size) (h2 : k ≤ b.size) (he : k = a.size ∨ k = b.size) : bless a b = decide (a.size < b.size) := by
 unfold bless
 rw [bl_end a.toList b.toList k (h.get h1 h2) (by rw [toList_len]; exact h1) (by rw [toList_len]; exact h2) (by rw [toList_len, toList_len]; exact he), toList_len, toList_len]
set_option maxRecDepth 100000 in
set_option maxHeartbeats 1000000 in
theorem rahead_c (a b : ByteArray) (ha : a.size ≤ maxLen) (hb : b.size ≤ maxLen) (w : World) :
  Calls Tryz.prog 93 #[.string a, .string b] w fun e w' => e = .returned (.bool (bless a b)) ∧ Below w.heap.size w w' := by
 have ha' : a.size ≤ 9223372036854775807 := Nat.le_trans ha (by decide)
 have hb' : b.size ≤ 9223372036854775807 := Nat.le_trans hb (by decide)
 clear ha hb
 go_enter Tryz.func93, Tryz.ntmps93
 go_wp2_with fail
 go_loopw [5] (fun i wr => ∃ k : Nat, i = i64 k ∧ k ≤ a.size ∧ k ≤ b.size ∧ samePre a b k ∧ Below w.heap.size w wr) (fun i _ => a.size - (intOf i).toNat)
 case atStart => exact ⟨0, rfl, by omega, by omega, fun j _ _ h => absurd h (by omega), Below.refl _ _⟩
 case round =>
  obtain ⟨k, rfl, hka, hkb, hpre, hB⟩ := hrel
  have Hpre := Lib.hid hpre
  clear hpre
  by_cases h1 : k < a.size
  ·by_cases h2 : k < b.size
   ·have i0 : (0 : Int) ≤ (k : Int) := by omega
    have i1 : (k : Int) < (a.size : Int) := by omega
    have i2 : (k : Int) < (b.size : Int) := by omega
    by_cases he : a[k] = b[k]
    ·have g : ((a[k].toNat : Int) != (b[k].toNat : Int)) = false := by rw [he]; simp
     have He := Lib.hid he
     clear he
     go_wp2_with fail
     go_quiet (fail)
     go_wp2
     go_roundw
     case rel => exact ⟨k + 1, by go_num, by omega, by omega, fun j h1 h2 hj => by
       rcases Nat.lt_succ_iff_lt_or_eq.1 hj with hj | rfl
       ·exact Hpre.out j h1 h2 hj
       ·exact He.out, below_drewN hB _⟩
     case measure => simp [intOf]; omega
    ·have g : ((a[k].toNat : Int) != (b[k].toNat : Int)) = true := by
      rw [bne_iff_ne]
      exact fun h => he (UInt8.toNat_inj.1 (by omega))
     have hres := bless_at Hpre.out h1 h2 he
     have Hres := Lib.hid hres
     clear he hres
     go_wp2_with fail
     go_quiet (fail)
     have hB2 := below_drewN hB nq
     generalize wr.drewN nq = wq at hB2 ⊢
     go_wp2_with fail
     go_quiet (fail)
     go_wp2
     go_ret
     exact ⟨by rw [Hres.out]; rfl, below_drewN hB2 _⟩
   ·have hres := bless_end Hpre.out hka hkb (.inr (by omega))
    have Hres := Lib.hid hres
    clear hres
    go_wp2
    go_ret
    exact ⟨by rw [Hres.out]; rfl, hB⟩
  ·have hres := bless_end Hpre.out hka hkb (.inl (by omega))
   have Hres := Lib.hid hres
   clear hres
   go_wp2
   go_ret
   exact ⟨by rw [Hres.out]; rfl, hB⟩
end Go.Proofs.YtampniiehgimhaaGreat
/- ref01: sums in two halves -/
namespace Go.Proofs.YtampniiehgimhaaGreat
open Go.RowKit
/-- countinghouseref01.Wide: a number in two halves -/
abbrev wdV (n : Int) : Value := .agg #[i64 (n / 18446744073709551616), .int .u64 (n % 18446744073709551616)]
/-- small enough -/
def RW (n : Int) : Prop := -1208925819614629174706176 ≤ n ∧ n ≤ 1208925819614629174706176
theorem RW.hi {n : Int} (h : RW n) : -65536 ≤ n / 18446744073709551616 ∧ n / 18446744073709551616 ≤ 65536 := by unfold RW at h; omega
theorem RW.of64 {n : Int} (h : R64 n) : RW n := by unfold R64 at h; unfold RW; omega
set_option maxRecDepth 100000 in
set_option maxHeartbeats 2000000 in
theorem of_c (a : Int) (w : World) (ha : R64 a) : Calls Tryz.prog 132 #[i64 a] w fun e w' => e = .returned (wdV a) ∧ Below w.heap.size w w' := by
 obtain ⟨h1, h2⟩ := ha
 have hu : IntKind.u64.wrap a = a % 18446744073709551616 := by rw [IntKind.wrap_u64]
 have hb := fun o p => ((Below.refl w.heap.size w).alloc (Nat.le_refl _) o).alloc (by simp) p
 by_cases hn : a < 0
 ·have g : decide (a < 0) = true := decide_eq_true hn
  have hq : a / 18446744073709551616 = -1 := by omega
  unfold wdV
  rw [hq]
  generalize a % 18446744073709551616 = lo at *
  clear hq h1 h2 hn
  go_enter Tryz.func132, Tryz.ntmps132
  go_wp2
  exact bodyPost_ret (results_cell_row rfl _ _ w.heap.size 218 _ (0, 0) _ rfl (heap_alloc2_old w _ _) Tryz.underlying218 rfl (by kernel_rfl)) rfl ⟨rfl, hb _ _⟩
 ·have g : decide (a < 0) = false := decide_eq_false hn
  have hq : a / 18446744073709551616 = 0 := by omega
  unfold wdV
  rw [hq]
  generalize a % 18446744073709551616 = lo at *
  clear hq h1 h2 hn
  go_enter Tryz.func132, Tryz.ntmps132
  go_wp2
  exact bodyPost_ret (results_cell_row rfl _ _ w.heap.size 218 _ (0, 0) _ rfl (heap_alloc2_old w _ _) Tryz.underlying218 rfl (by kernel_rfl)) rfl ⟨rfl, hb _ _⟩
theorem wdV_of {n h l : Int} (h0 : 0 ≤ l) (h1 : l < 18446744073709551616) (h2 : n = h * 18446744073709551616 + l) : wdV n = .agg #[i64 h, .int .u64 l] := by
 have e1 : n / 18446744073709551616 = h := by omega
 have e2 : n % 18446744073709551616 = l := by omega
 unfold wdV
 rw [e1, e2]
theorem heap_alloc3_b (w : World) (o p q : Obj) : (((w.alloc o).alloc p).alloc q).heap[w.heap.size + 1]? = some p := by
 have := heap_alloc2_old (w.alloc o) p q
 simpa using this
theorem heap_alloc4_c (w : World) (o p q r : Obj) : ((((w.alloc o).alloc p).alloc q).alloc r).heap[w.heap.size + 1 + 1]? = some q := by
 have := heap_alloc2_old ((w.alloc o).alloc p) q r
 simpa using this
set_option maxRecDepth 100000 in
set_option maxHeartbeats 4000000 in
theorem plus_c (m n : Int) (w : World) (hm : RW m) (hn : RW n) : Calls Tryz.prog 131 #[wdV m, wdV n] w fun e w' => e = .returned (wdV (m + n)) ∧ Below w.heap.size w w' := by
 have hm' := hm.hi
 have hn' := hn.hi
 have hV : ∃ V, wdV (m + n) = V := ⟨_, rfl⟩
 obtain ⟨V, hV⟩ := hV
 rw [hV]
 have dm : 0 ≤ m % 18446744073709551616 ∧ m % 18446744073709551616 < 18446744073709551616 := by omega
 have dn : 0 ≤ n % 18446744073709551616 ∧ n % 18446744073709551616 < 18446744073709551616 := by omega
 have em : m = m / 18446744073709551616 * 18446744073709551616 + m % 18446744073709551616 := by omega
 have en : n = n / 18446744073709551616 * 18446744073709551616 + n % 18446744073709551616 := by omega
 unfold wdV
 generalize m / 18446744073709551616 = a at *
 generalize m % 18446744073709551616 = b at *
 generalize n / 18446744073709551616 = c at *
 generalize n % 18446744073709551616 = d at *
 have e1 : IntKind.i64.wrap (a + c) = a + c := by rw [IntKind.wrap_i64]; omega
 have e2 : IntKind.i64.wrap (a + c + 1) = a + c + 1 := by rw [IntKind.wrap_i64]; omega
 have hb := fun o p q r => ((((Below.refl w.heap.size w).alloc (Nat.le_refl _) o).alloc (by simp) p).alloc (by simp; omega) q).alloc (by simp; omega) r
 have h4 := heap_alloc4_c w
 by_cases ho : b + d < 18446744073709551616
 ·have hu : IntKind.u64.wrap (b + d) = b + d := by rw [IntKind.wrap_u64]; omega
  have g : decide (b + d < b) = false := decide_eq_false (by omega)
  have HV := Lib.hid (hV.symm.trans (wdV_of (n := m + n) (h := a + c) (l := b + d) (by omega) ho (by omega)))
  clear hV em en ho dm dn hm' hn' hm hn e2
  go_enter Tryz.func131, Tryz.ntmps131
  go_wp2
  refine bodyPost_ret (results_cell_row rfl _ _ _ 218 _ (0, 0) _ rfl (h4 _ _ _ _) Tryz.underlying218 rfl (by kernel_rfl)) rfl ⟨by rw [HV.out], hb _ _ _ _⟩
 ·have hu : IntKind.u64.wrap (b + d) = b + d - 18446744073709551616 := by rw [IntKind.wrap_u64]; omega
  have g : decide (b + d - 18446744073709551616 < b) = true := decide_eq_true (by omega)
  have HV := Lib.hid (hV.symm.trans (wdV_of (n := m + n) (h := a + c + 1) (l := b + d - 18446744073709551616) (by omega) (by omega) (by omega)))
  clear hV em en ho dm dn hm' hn' hm hn
  go_enter Tryz.func131, Tryz.ntmps131
  go_wp2
  refine bodyPost_ret (results_cell_row rfl _ _ _ 218 _ (0, 0) _ rfl (h4 _ _ _ _) Tryz.underlying218 rfl (by kernel_rfl)) rfl ⟨by rw [HV.out], hb _ _ _ _⟩
set_option maxRecDepth 100000 in
set_option maxHeartbeats 4000000 in
theorem minus_c (m : Int) (w : World) (hm : RW m) : Calls Tryz.prog 134 #[wdV m] w fun e w' => e = .returned (wdV (-m)) ∧ Below w.heap.size w w' := by
 have hm' := hm.hi
 have hV : ∃ V, wdV (-m) = V := ⟨_, rfl⟩
 obtain ⟨V, hV⟩ := hV
 rw [hV]
 have dm : 0 ≤ m % 18446744073709551616 ∧ m % 18446744073709551616 < 18446744073709551616 := by omega
 have em : m = m / 18446744073709551616 * 18446744073709551616 + m % 18446744073709551616 := by omega
 unfold wdV
 generalize m / 18446744073709551616 = a at *
 generalize m % 18446744073709551616 = b at *
 have e1 : IntKind.i64.wrap (-a) = -a := by rw [IntKind.wrap_i64]; omega
 have e2 : IntKind.i64.wrap (-a - 1) = -a - 1 := by rw [IntKind.wrap_i64]; omega
 have hb := fun o p q => (((Below.refl w.heap.size w).alloc (Nat.le_refl _) o).alloc (by simp) p).alloc (by simp; omega) q
 have h4 := heap_alloc3_b w
 by_cases ho : b = 0
 ·have hu : IntKind.u64.wrap (-b) = 0 := by rw [IntKind.wrap_u64]; omega
  have g : (b != 0) = false := by rw [ho]; rfl
  have HV := Lib.hid (hV.symm.trans (wdV_of (n := -m) (h := -a) (l := 0) (by omega) (by omega) (by omega)))
  clear hV em ho dm hm' hm e2
  go_enter Tryz.func134, Tryz.ntmps134
  go_wp2
  refine bodyPost_ret (results_cell_row rfl _ _ _ 218 _ (0, 0) _ rfl (h4 _ _ _) Tryz.underlying218 rfl (by kernel_rfl)) rfl ⟨by rw [HV.out], hb _ _ _⟩
 ·have hu : IntKind.u64.wrap (-b) = 18446744073709551616 - b := by rw [IntKind.wrap_u64]; omega
  have g : (b != 0) = true := by simpa using ho
  have HV := Lib.hid (hV.symm.trans (wdV_of (n := -m) (h := -a - 1) (l := 18446744073709551616 - b) (by omega) (by omega) (by omega)))
  clear hV em ho dm hm' hm
  go_enter Tryz.func134, Tryz.ntmps134
  go_wp2
  refine bodyPost_ret (results_cell_row rfl _ _ _ 218 _ (0, 0) _ rfl (h4 _ _ _) Tryz.underlying218 rfl (by kernel_rfl)) rfl ⟨by rw [HV.out], hb _ _ _⟩
theorem neq_wd (a b c d : Int) (w : World) : (binOp .neq 218 (.agg #[i64 a, .int .u64 b]) (.agg #[i64 c, .int .u64 d])).run Tryz.prog w = .ok (.bool (!(decide (a = c) && decide (b = d)))) w := by
 have u3 := Tryz.underlying2
 have a3 := Tryz.isAgg2
 have z3 := Tryz.sizeOf2
 have u4 := Tryz.underlying213
 have a4 := Tryz.isAgg213
 have z4 := Tryz.sizeOf213
 have hS : Tryz.prog.underlying 218 = some (.struct (Tryz.prog.fieldsOf 218)) := by kernel_rfl
 have hp : Tryz.prog.stoodInHeld 218 = false := by kernel_rfl
 rw [run_neq_struct, show (10000 : Nat) = 9999 + 1 from rfl, run_equalIn_agg w 9999 218 _ _ hS hp]
 simp only [Program.fieldsOf, Tryz.underlying218]
 go_simp
 by_cases h1 : a = c <;> by_cases h2 : b = d <;> simp [h1, h2]
set_option maxRecDepth 100000 in
set_option maxHeartbeats 4000000 in
theorem rsum_c (n : Int) (w : World) : Calls Tryz.prog 133 #[wdV n] w fun e w' => e = .returned (.tuple #[i64 (sumR n).1, i64 (sumR n).2]) ∧ Below w.heap.size w w' := by
 have en : n = n / 18446744073709551616 * 18446744073709551616 + n % 18446744073709551616 := by omega
 obtain ⟨lo, hlo⟩ : ∃ lo, IntKind.i64.wrap (n % 18446744073709551616) = lo := ⟨_, rfl⟩
 have hl : lo = if n % 18446744073709551616 < 9223372036854775808 then n % 18446744073709551616 else n % 18446744073709551616 - 18446744073709551616 := by
  rw [← hlo, IntKind.wrap_i64]
  split <;> omega
 have h64 : R64 lo := by rw [← hlo]; exact wrap_R64 _
 have ho : sumR n = if (!(decide (n / 18446744073709551616 = lo / 18446744073709551616) && decide (n % 18446744073709551616 = lo % 18446744073709551616))) = true then (0, 2) else (lo, 0) := by
  unfold sumR overB
  by_cases h1 : -9223372036854775808 ≤ n ∧ n ≤ 9223372036854775807
  ·rw [decide_eq_true h1.1, decide_eq_true h1.2]
   have : n = lo := by split at hl <;> omega
   subst this
   simp
  ·rw [if_pos (by rw [Bool.not_eq_true', Bool.and_eq_false_iff, decide_eq_false_iff_not, decide_eq_false_iff_not]; omega), if_pos]
   rw [Bool.not_eq_true', Bool.and_eq_false_iff, decide_eq_false_iff_not, decide_eq_false_iff_not]
   unfold R64 at h64
   split at hl <;> omega
 have HO := Lib.hid ho
 have hC := Lib.hid fun W => of_c lo W h64
 have hN := fun W => neq_wd (n / 18446744073709551616) (n % 18446744073709551616) (lo / 18446744073709551616) (lo % 18446744073709551616) W
 unfold wdV at hC ⊢
 generalize (!(decide (n / 18446744073709551616 = lo / 18446744073709551616) && decide (n % 18446744073709551616 = lo % 18446744073709551616))) = t at *
 generalize sumR n = R at *
 generalize n / 18446744073709551616 = a at *
 generalize n % 18446744073709551616 = b at *
 generalize lo / 18446744073709551616 = c at *
 generalize lo % 18446744073709551616 = d at *
 clear en hl h64 ho
 have hb := (Below.refl w.heap.size w).alloc (Nat.le_refl _) (.cells #[i64 a, .int .u64 b] 218)
 have hg := heap_alloc_new w (.cells #[i64 a, .int .u64 b] 218)
 have k0 := cell_of_row _ w.heap.size 0 _ _ (0, 0) hg
 have k1 := cell_of_row _ w.heap.size 1 _ _ (0, 0) hg
 simp only [List.getElem?_toArray, List.getElem?_cons_zero, List.getElem?_cons_succ] at k0 k1
 have hz : w.heap.size < (w.alloc (.cells #[i64 a, .int .u64 b] 218)).heap.size := by simp
 go_enter Tryz.func133, Tryz.ntmps133
 go_wp2_with fail
 generalize w.alloc (.cells #[i64 a, .int .u64 b] 218) = w0 at *
 have hS : ∀ W, Below w0.heap.size w0 W → Below w0.heap.size w0 W ∧ W.cell? ⟨w.heap.size, 0, none⟩ = some (i64 a) ∧ W.cell? ⟨w.heap.size, 1, none⟩ = some (.int .u64 b) := fun W h => ⟨h, (h.cell (p := ⟨w.heap.size, 0, none⟩) hz).trans k0, (h.cell (p := ⟨w.heap.size, 1, none⟩) hz).trans k1⟩
 have h0 := (Below.refl w0.heap.size w0).drew
 clear k0 k1 hg
 go_region_held3 (fun W => Below w0.heap.size w0 W ∧ W.cell? ⟨w.heap.size, 0, none⟩ = some (i64 a) ∧ W.cell? ⟨w.heap.size, 1, none⟩ = some (.int .u64 b)) (first | exact hS _ h0 | (go_split_ands; exact hS _ (below_on (by assumption) (Nat.le_refl _) hbX)))
  (first | (go_at_call 132; with_reducible refine (hC.out _).mono ?_; rintro e w' ⟨rfl, hbX⟩))
 rename_i hh
 have hb2 := below_on hb (Nat.le_refl _) hh.1
 have c1 := hh.2.2
 clear hh hS h0 hb hz
 cases t with
 | true =>
  have HR := Lib.hid (show R = (0, 2) by rw [HO.out]; rfl)
  clear HO
  go_wp2
  go_ret2
  exact ⟨by rw [HR.out]; rfl, hb2⟩
 | false =>
  have HR := Lib.hid (show R = (lo, 0) by rw [HO.out]; rfl)
  clear HO
  go_wp2
  go_ret2
  exact ⟨by rw [HR.out]; rfl, hb2⟩
set_option maxRecDepth 100000 in
set_option maxHeartbeats 4000000 in
theorem rless_c (a b : Int) (w : World) (ha : R64 a) (hb : R64 b) : Calls Tryz.prog 96 #[i64 a, i64 b] w fun e w' => e = .returned (.tuple #[i64 (sumR (a - b)).1, i64 (sumR (a - b)).2]) ∧ Below w.heap.size w w' := by
 have k1 := Lib.hid fun W => of_c a W ha
 have k2 := Lib.hid fun W => of_c b W hb
 have k3 := Lib.hid fun W => minus_c b W (.of64 hb)
 have k4 := Lib.hid fun W => plus_c a (-b) W (.of64 ha) (by unfold R64 at hb; unfold RW; omega)
 have k5 := Lib.hid fun W => rsum_c (a + -b) W
 rw [show a + -b = a - b by omega] at k4 k5
 generalize wdV a = A at *
 generalize wdV b = B at *
 generalize wdV (-b) = C at *
 generalize wdV (a - b) = D at *
 generalize sumR (a - b) = R at *
 clear ha hb
 go_enter Tryz.func96, Tryz.ntmps96
 go_wp2_with fail
 refine (k1.out _).mono ?_
 rintro e w1 ⟨rfl, h1⟩
 go_wp2_with fail
 refine (k2.out _).mono ?_
 rintro e w2 ⟨rfl, h2⟩
 have h2 := below_on h1 (Nat.le_refl _) h2
 go_wp2_with fail
 refine (k3.out _).mono ?_
 rintro e w3 ⟨rfl, h3⟩
 have h3 := below_on h2 (Nat.le_refl _) h3
 go_wp2_with fail
 refine (k4.out _).mono ?_
 rintro e w4 ⟨rfl, h4⟩
 have h4 := below_on h3 (Nat.le_refl _) h4
 go_wp2_with fail
 refine (k5.out _).mono ?_
 rintro e w5 ⟨rfl, h5⟩
 have h5 := below_on h4 (Nat.le_refl _) h5
 go_wp2
 go_ret2
 exact ⟨rfl, h5⟩
end Go.Proofs.YtampniiehgimhaaGreat
/- ref01.Add -/
namespace Go.Proofs.YtampniiehgimhaaGreat
open Go.RowKit
set_option maxRecDepth 100000 in
set_option maxHeartbeats 4000000 in
theorem radd_c (a b : Int) (w : World) (ha : R64 a) (hb : R64 b) : Calls Tryz.prog 170 #[i64 a, i64 b] w fun e w' => e = .returned (.tuple #[i64 (sumR (a + b)).1, i64 (sumR (a + b)).2]) ∧ Below w.heap.size w w' := by
 have k1 := Lib.hid fun W => of_c a W ha
 have k2 := Lib.hid fun W => of_c b W hb
 have k4 := Lib.hid fun W => plus_c a b W (.of64 ha) (.of64 hb)
 have k5 := Lib.hid fun W => rsum_c (a + b) W
 generalize wdV a = A at *
 generalize wdV b = B at *
 generalize wdV (a + b) = D at *
 generalize sumR (a + b) = R at *
 clear ha hb
 go_enter Tryz.func170, Tryz.ntmps170
 go_wp2_with fail
 refine (k1.out _).mono ?_
 rintro e w1 ⟨rfl, h1⟩
 go_wp2_with fail
 refine (k2.out _).mono ?_
 rintro e w2 ⟨rfl, h2⟩
 have h2 := below_on h1 (Nat.le_refl _) h2
 go_wp2_with fail
 refine (k4.out _).mono ?_
 rintro e w4 ⟨rfl, h4⟩
 have h4 := below_on h2 (Nat.le_refl _) h4
 go_wp2_with fail
 refine (k5.out _).mono ?_
 rintro e w5 ⟨rfl, h5⟩
 have h5 := below_on h4 (Nat.le_refl _) h5
 go_wp2
 go_ret2
 exact ⟨rfl, h5⟩
end Go.Proofs.YtampniiehgimhaaGreat
/- two blocks turned -/
namespace Go.Proofs.YtampniiehgimhaaGreat
open Go.RowKit
def GH (b bh : Nat) : Nat → Prop := fun k => k = b ∨ k = bh
end Go.Proofs.YtampniiehgimhaaGreat
/- Clone, Grow, Concat at uint8 -/
namespace Go.Proofs.YtampniiehgimhaaGreat
open Go.RowKit
end Go.Proofs.YtampniiehgimhaaGreat
/- pack.fold, Num; order.num -/
namespace Go.Proofs.YtampniiehgimhaaGreat
open Go.RowKit
end Go.Proofs.YtampniiehgimhaaGreat
/- pack.Text -/
namespace Go.Proofs.YtampniiehgimhaaGreat
open Go.RowKit
end Go.Proofs.YtampniiehgimhaaGreat
/- order.Bytes -/
namespace Go.Proofs.YtampniiehgimhaaGreat
open Go.RowKit
end Go.Proofs.YtampniiehgimhaaGreat
