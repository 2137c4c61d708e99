/- runs.Of: what was told to a process: a range over runs.pairs. -/
import Derived.RangeFuncNested
import Derived.RangeFuncBound
import Derived.RangeFuncCalls
import Derived.RangeFuncLeaves
import Derived.Shelf.Abstract
import Derived.Shelf.RegionOpen
import Derived.OwnWalkIn
import Derived.TacticsInMore
import Derived.LoopNIn
import Derived.LoopIn
import Derived.Test.YtnomklpnlohpiaaWithout
namespace Go.Proofs.Ytnomklpnlohpiaa
open Go.RowKit Go.Shelf
attribute [local go_sem] Oper.semAt_some
set_option linter.unusedVariables false

/-- What was told: OK, a number, no bits: three cells each. -/
def Told3At (w : World) (b off : Nat) (ts : List Int) : Prop :=
  ∀ i (h : i < ts.length), w.cell? ⟨b, off + i * 3, none⟩ = some (.int .i64 0) ∧ w.cell? ⟨b, off + i * 3 + 1, none⟩ = some (.int .i64 ts[i]) ∧ w.cell? ⟨b, off + i * 3 + 2, none⟩ = some (.int .u64 0)
def toldL (t : Int) : List Value := [.int .i64 0, .int .i64 t, .int .u64 0]
def pairEnc (x : CV × Int) : Array Value := #[.agg x.1.cells.toArray, .agg (toldL x.2).toArray]
theorem two_ways {e : Ending} {A B : Prop} (h : (e = .returned (.bool true) ∧ A) ∨ (e = .returned (.bool false) ∧ B)) : ∃ b : Bool, e = .returned (.bool b) ∧ Hid ((b = true → A) ∧ (b = false → B)) := by
  rcases h with ⟨he, ha⟩ | ⟨he, hb⟩
  · exact ⟨true, he, Lib.hid ⟨fun _ => ha, fun h => by cases h⟩⟩
  · exact ⟨false, he, Lib.hid ⟨fun h => (by cases h), fun _ => hb⟩⟩
theorem grown_none {w w' : World} (h : Below w.heap.size w w') : w.grownBy w' none := ⟨h.os, h.tape, h.output, h.size, fun k hk _ => h.block k hk⟩

/-- What lay below n₀ lies as it lay, and so does the box that the iterator reads in each round. -/
def KpB (n₀ B2 : Nat) (A B : World) : Prop := Below n₀ A B ∧ B.cell? ⟨B2, 0, none⟩ = A.cell? ⟨B2, 0, none⟩
theorem kpB_t {n₀ B2 : Nat} {A B C : World} (h : KpB n₀ B2 A B) (k : KpB n₀ B2 B C) : KpB n₀ B2 A C := ⟨h.1.trans k.1, k.2.trans h.2⟩
set_option maxRecDepth 100000 in
set_option maxHeartbeats 2000000 in
theorem pairs1_in (n : Nat) (hn : 1 ≤ n) (l B1 B2 n₀ b1 o1 b2 o2 N c1 c2 : Nat) (cs : List CV) (ts : List Int) (hcs : cs.length = N) (hts : ts.length = N) (hN : N ≤ 1000) (hc1 : N ≤ c1) (hb1 : b1 < n₀) (hb2 : b2 < n₀) 
    (J Jx : List (CV × Int) → World → Prop) (W : World) (hJ : AbidesFrom W.heap.size J) (hn₀ : n₀ ≤ W.heap.size)
    (hY : ∀ pre x W, J pre W → pre.length < N → YieldAt Fence.wide (n - 1) Try.prog l (pairEnc x) W fun e W' =>
      (e = .returned (.bool true) ∧ J (pre ++ [x]) W' ∧ KpB n₀ B2 W W') ∨ (e = .returned (.bool false) ∧ Jx (pre ++ [x]) W'))
    (k1 : W.cell? ⟨B1, 0, none⟩ = some (.slice (some ⟨b1, o1, none⟩) N c1)) (k2 : W.cell? ⟨B2, 0, none⟩ = some (.slice (some ⟨b2, o2, none⟩) N c2))
    (hca : CallsAt W (some ⟨b1, o1, none⟩) cs) (hta : Told3At W b2 o2 ts) (h0 : J [] W) :
    CallsIn Fence.wide n Try.prog 15 #[.func (.yield l) #[] #[], .pointer (some ⟨B1, 0, none⟩), .pointer (some ⟨B2, 0, none⟩)] W fun e W' => (∃ v, e = .returned v) ∧
      ((∃ ys, ys = cs.zip ts ∧ J ys W') ∨ (∃ pre, pre <+: cs.zip ts ∧ Jx pre W')) := by
  refine callsIn_of_wp Try.func15 rfl trivial ?_ rfl
  simp only [Try.ntmps15, List.size_toArray, List.length_cons, List.length_nil, Nat.reduceAdd, Nat.reduceSub, Array.replicate_succ, Array.replicate_zero, List.push_toArray, List.append_toArray, List.nil_append, List.cons_append]
  gi_wp2
  have HTS := Lib.hid hts
  have HCS := Lib.hid hcs
  clear hts hcs
  gi_loopw [14] (fun i wr => ∃ k : Nat, k ≤ N ∧ i = .int .i64 k ∧ Hid (J ((cs.zip ts).take k) wr) ∧ Below n₀ W wr ∧ Hid (W.heap.size ≤ wr.heap.size) ∧ Hid (wr.cell? ⟨B2, 0, none⟩ = some (.slice (some ⟨b2, o2, none⟩) N c2)))
    (fun i _ => N - (intOf i).toNat)
  case atStart => exact ⟨0, Nat.zero_le _, rfl, Lib.hid h0, Below.refl _ _, Lib.hid (Nat.le_refl _), Lib.hid k2⟩
  case round =>
    obtain ⟨k, hk, rfl, hJs, hnx, hsz, HK2⟩ := hrel
    by_cases hlt : k < N
    · have hkc : k < cs.length := by rw [HCS.out]; exact hlt
      have hkt : k < ts.length := by rw [HTS.out]; exact hlt
      obtain ⟨b', o', e, hc⟩ := hca k hkc
      injection e with e
      injection e with e1 e2
      subst e1 e2
      obtain ⟨t0, t1, t2⟩ := hta k hkt
      obtain ⟨c, hcc⟩ : ∃ c, c = cs[k] := ⟨_, rfl⟩
      obtain ⟨t, htt⟩ : ∃ t, t = ts[k] := ⟨_, rfl⟩
      rw [← hcc] at hc
      rw [← htt] at t1
      have g0 := (hnx.cell (p := ⟨b1, o1 + k * 9, none⟩) hb1).trans (hc 0 (by omega))
      have g1 := (hnx.cell (p := ⟨b1, o1 + k * 9 + 1, none⟩) hb1).trans (hc 1 (by omega))
      have g2 := (hnx.cell (p := ⟨b1, o1 + k * 9 + 2, none⟩) hb1).trans (hc 2 (by omega))
      have g3 := (hnx.cell (p := ⟨b1, o1 + k * 9 + 3, none⟩) hb1).trans (hc 3 (by omega))
      have g4 := (hnx.cell (p := ⟨b1, o1 + k * 9 + 4, none⟩) hb1).trans (hc 4 (by omega))
      have g5 := (hnx.cell (p := ⟨b1, o1 + k * 9 + 5, none⟩) hb1).trans (hc 5 (by omega))
      have g6 := (hnx.cell (p := ⟨b1, o1 + k * 9 + 6, none⟩) hb1).trans (hc 6 (by omega))
      have g7 := (hnx.cell (p := ⟨b1, o1 + k * 9 + 7, none⟩) hb1).trans (hc 7 (by omega))
      have g8 := (hnx.cell (p := ⟨b1, o1 + k * 9 + 8, none⟩) hb1).trans (hc 8 (by omega))
      simp only [CV.cell] at g0 g1 g2 g3 g4 g5 g6 g7 g8
      have q0 := (hnx.cell (p := ⟨b2, o2 + k * 3, none⟩) hb2).trans t0
      have q1 := (hnx.cell (p := ⟨b2, o2 + k * 3 + 1, none⟩) hb2).trans t1
      have q2 := (hnx.cell (p := ⟨b2, o2 + k * 3 + 2, none⟩) hb2).trans t2
      have hB2w := World.block_lt_of_cell? wr _ HK2.out
      simp only at hB2w
      have HZ := Lib.hid (show (cs.zip ts).take (k + 1) = (cs.zip ts).take k ++ [(c, t)] by
        rw [List.take_succ_eq_append_getElem (by simp [List.length_zip, HCS.out, HTS.out]; omega)]
        simp [hcc, htt])
      have HLT := Lib.hid (show ((cs.zip ts).take k).length < N by simp [List.length_zip, HCS.out, HTS.out]; omega)
      clear hc hcc htt t0 t1 t2
      gi_wp2
      have hkk := heap_alloc_new wr (Obj.cells c.cells.toArray 30)
      have hbw : Below n₀ wr (wr.alloc (Obj.cells c.cells.toArray 30)) := (Below.refl _ _).alloc (by have := hsz.out; omega) _
      have kk2 := ((((Below.refl _ wr).alloc (Nat.le_refl _) (Obj.cells c.cells.toArray 30)).cell (p := ⟨B2, 0, none⟩) hB2w)).trans HK2.out
      have hJ1 : J ((cs.zip ts).take k) ((wr.alloc (Obj.cells c.cells.toArray 30)).drew) := hJ _ _ _ none hJs.out (grown_none (((Below.refl _ wr).alloc (Nat.le_refl _) _).drew)) (fun r e => by cases e)
      have hsz2 : wr.heap.size ≤ (wr.alloc (Obj.cells c.cells.toArray 30)).heap.size := by simp
      change Code.wpIn _ _ _ _ _ _ (wr.alloc (Obj.cells c.cells.toArray 30))
      clear hB2w
      generalize wr.heap.size = nb at hkk hsz hsz2 ⊢
      generalize wr.alloc (Obj.cells c.cells.toArray 30) = W2 at hkk hbw hJ1 hsz2 kk2 ⊢
      have e0 : W2.cell? ⟨nb, 0, none⟩ = some (.int .i64 c.op) := by rw [cell_of_row _ _ _ _ _ _ hkk]; rfl
      have e1 : W2.cell? ⟨nb, 1, none⟩ = some (.int .i64 c.pid) := by rw [cell_of_row _ _ _ _ _ _ hkk]; rfl
      have e2 : W2.cell? ⟨nb, 2, none⟩ = some (.int .i64 c.at_) := by rw [cell_of_row _ _ _ _ _ _ hkk]; rfl
      have e3 : W2.cell? ⟨nb, 3, none⟩ = some (.int .i64 c.n) := by rw [cell_of_row _ _ _ _ _ _ hkk]; rfl
      have e4 : W2.cell? ⟨nb, 4, none⟩ = some (.int .i64 c.perm) := by rw [cell_of_row _ _ _ _ _ _ hkk]; rfl
      have e5 : W2.cell? ⟨nb, 5, none⟩ = some (.string c.name) := by rw [cell_of_row _ _ _ _ _ _ hkk]; rfl
      have e6 : W2.cell? ⟨nb, 6, none⟩ = some (.slice c.aa c.al c.ac) := by rw [cell_of_row _ _ _ _ _ _ hkk]; rfl
      have e7 : W2.cell? ⟨nb, 7, none⟩ = some (.slice c.ea c.el c.ec) := by rw [cell_of_row _ _ _ _ _ _ hkk]; rfl
      have e8 : W2.cell? ⟨nb, 8, none⟩ = some (.int .u64 c.bits) := by rw [cell_of_row _ _ _ _ _ _ hkk]; rfl
      have q0 := (hbw.cell (p := ⟨b2, o2 + k * 3, none⟩) hb2).trans q0
      have q1 := (hbw.cell (p := ⟨b2, o2 + k * 3 + 1, none⟩) hb2).trans q1
      have q2 := (hbw.cell (p := ⟨b2, o2 + k * 3 + 2, none⟩) hb2).trans q2
      have hnx := hnx.trans hbw
      have HSZ := Lib.hid (Nat.le_trans hsz.out hsz2)
      obtain ⟨fn, tmps, assign, body, hy, hR⟩ := hY _ (c, t) _ hJ1 HLT.out
      simp only [pairEnc, CV.cells, toldL] at hy
      clear hsz hsz2 hJ1 hkk g0 g1 g2 g3 g4 g5 g6 g7 g8 hbw hY hJ hca hta h0 k1 k2 hJs
      have HNX := Lib.hid hnx
      clear hnx hkc hkt HLT
      have hmix : Try.prog.follows .mixedOrders = true := by kernel_rfl
      have tok1 : True := trivial
      gi_region_with_o (have _t := tok1; (with_reducible refine hR.mono ?_); rintro e W3 h3; obtain ⟨yb, rfl, HY⟩ := two_ways h3; clear h3 tok1 _t)
      all_goals
        cases yb
        · have HX := Lib.hid (HY.out.2 rfl)
          clear HY
          gi_wp2
          refine bodyPost_ret (results_none rfl _ _ _) rfl ?_
          exact ⟨⟨_, rfl⟩, .inr ⟨(cs.zip ts).take (k + 1), List.take_prefix _ _, by rw [HZ.out]; exact HX.out⟩⟩
        · have hY3 := HY.out.1 rfl
          have hB3 := hY3.2.1
          have HKK := Lib.hid (hY3.2.2.trans kk2)
          have HJ3 := Lib.hid hY3.1
          clear hY3 HY
          gi_wp2
          go_roundw
          case rel => exact ⟨k + 1, by omega, by simp, Lib.hid (by rw [HZ.out]; exact HJ3.out), HNX.out.trans ⟨hB3.os, hB3.tape, hB3.output, hB3.size, hB3.block⟩, Lib.hid (by have := HSZ.out; have := hB3.size; simp at this; omega), HKK⟩
          case measure => simp [intOf]; omega
    · obtain rfl : k = N := by omega
      gi_wp2
      go_end0
      exact ⟨⟨_, rfl⟩, .inl ⟨_, rfl, by have := hJs.out; rwa [List.take_of_length_le (by simp [List.length_zip, HCS.out, HTS.out])] at this⟩⟩

theorem pairs_in (n : Nat) (a b : Option Addr) (l1 c1 l2 c2 : Nat) (w : World) :
    CallsIn Fence.wide n Try.prog 14 #[.slice a l1 c1, .slice b l2 c2] w fun e w' => e = .returned (.func (.func 15) #[] #[.pointer (some ⟨w.heap.size, 0, none⟩), .pointer (some ⟨w.heap.size + 1, 0, none⟩)]) ∧ w' = (w.alloc (.cells #[.slice a l1 c1] 22)).alloc (.cells #[.slice b l2 c2] 35) := by
  refine callsIn_of_wp Try.func14 rfl trivial ?_ rfl
  simp only [Try.ntmps14, List.size_toArray, List.length_cons, List.length_nil, Nat.reduceAdd, Nat.reduceSub, Array.replicate_succ, Array.replicate_zero, List.push_toArray, List.append_toArray, List.nil_append, List.cons_append]
  gi_wp2
  go_ret
  exact ⟨rfl, rfl⟩
theorem Told3At.below {B : Nat} {w w' : World} {b off : Nat} {ts : List Int} (h : Told3At w b off ts) (hb : Below B w w') (hB : b < B) : Told3At w' b off ts := fun i hi =>
  ⟨(hb.cell (p := ⟨b, _, none⟩) hB).trans (h i hi).1, (hb.cell (p := ⟨b, _, none⟩) hB).trans (h i hi).2.1, (hb.cell (p := ⟨b, _, none⟩) hB).trans (h i hi).2.2⟩
/-- What the range over the pairs meets. -/
theorem pairs_stops (n : Nat) (hn : 1 ≤ n) (B1 B2 n₀ b1 o1 b2 o2 N c1 c2 : Nat) (cs : List CV) (ts : List Int) (hcs : cs.length = N) (hts : ts.length = N) (hN : N ≤ 1000) (hc1 : N ≤ c1) (hb1 : b1 < n₀) (hb2 : b2 < n₀) (w : World)
    (k1 : w.cell? ⟨B1, 0, none⟩ = some (.slice (some ⟨b1, o1, none⟩) N c1)) (k2 : w.cell? ⟨B2, 0, none⟩ = some (.slice (some ⟨b2, o2, none⟩) N c2)) (hn₀ : n₀ ≤ w.heap.size)
    (hca : CallsAt w (some ⟨b1, o1, none⟩) cs) (hta : Told3At w b2 o2 ts) :
    SeqStopsK Fence.wide n Try.prog 15 #[.pointer (some ⟨B1, 0, none⟩), .pointer (some ⟨B2, 0, none⟩)] pairEnc (KpB n₀ B2) (fun ys => ys = cs.zip ts) (fun pre => pre <+: cs.zip ts) N w := fun l J Jx W hW hJ hJx hY h0 =>
  pairs1_in n hn l B1 B2 n₀ b1 o1 b2 o2 N c1 c2 cs ts hcs hts hN hc1 hb1 hb2 J Jx W hJ (Nat.le_trans hn₀ hW.size) hY ((hW.cell (p := ⟨B1, 0, none⟩) (World.block_lt_of_cell? w _ k1)).trans k1) ((hW.cell (p := ⟨B2, 0, none⟩) (World.block_lt_of_cell? w _ k2)).trans k2)
    (hca.below hW (Nat.le_refl _)) (hta.below hW (Nat.lt_of_lt_of_le hb2 hn₀)) h0
end Go.Proofs.Ytnomklpnlohpiaa
