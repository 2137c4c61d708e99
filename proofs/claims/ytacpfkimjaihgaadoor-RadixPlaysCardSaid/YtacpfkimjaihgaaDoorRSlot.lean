/- radix: may, flag, Pack and Unpack. No conditions. -/
import Derived.Test.YtacpfkimjaihgaaDoorRTree
import Derived.Test.YtacpfkimjaihgaaDoorRBits
import Derived.Test.YtacpfkimjaihgaaDoorLib
import Derived.Test.YtacpfkimjaihgaaDoorRows
import Derived.WalkSpells
import Derived.WalkLawsBesides
import Derived.Deep.QuietTactic
import Derived.BigQuiet
import Derived.Handy
namespace Go.Proofs.YtacpfkimjaihgaaDoor
open Go.RowKit
set_option linter.unusedVariables false

def Sl.enc (s : Sl) : Value := .agg #[.bool s.here, .bool s.write, .bool s.copy, .bool s.out, .int .i64 s.n]

set_option maxHeartbeats 1000000 in
theorem may_any (w : World) (s : Sl) : Calls Tryd.prog 79 #[s.enc] w fun e w' => e = .returned (.bool (may s)) ∧ Below w.heap.size w w' := by
  obtain ⟨a, b, c, d, n⟩ := s
  obtain ⟨v, hv⟩ : ∃ v, may ⟨a, b, c, d, n⟩ = v := ⟨_, rfl⟩
  rw [hv]
  simp only [may] at hv
  unfold Sl.enc
  simp only []
  go_enter Tryd.func79, Tryd.ntmps79
  go_wp2
  all_goals (go_ret; exact ⟨congrArg (fun b => Ending.returned (.bool b)) (by subst hv; cases a <;> cases b <;> cases c <;> cases d <;> simp_all <;> omega), by go_grown⟩)
theorem flag_any (w : World) (b : Bool) (k : Int) : Calls Tryd.prog 80 #[.bool b, .int .u64 k] w fun e w' => e = .returned (.int .u64 (b1 b k)) ∧ w = w' := by
  cases b
  · go_enter Tryd.func80, Tryd.ntmps80
    go_wp2
    go_ret
    exact ⟨rfl, rfl⟩
  · go_enter Tryd.func80, Tryd.ntmps80
    go_wp2
    go_ret
    exact ⟨rfl, rfl⟩
theorem quiet_l {P : Program} {f : FuncId} {args : Array Value} {w : World} {n : Nat} {v : Value}
    (h : Calls P f args (w.drewN n) fun e w' => e = .returned v ∧ w.drewN n = w') : Calls P f args (w.drewN n) fun e w'' => e = .returned v ∧ ∃ m, w'' = w.drewN m :=
  h.mono fun _ _ ⟨he, hm⟩ => ⟨he, n, hm.symm⟩

theorem _root_.Go.RowKit.Below.drewN' {B : Nat} {a w : World} (h : Below B a w) (n : Nat) : Below B a (w.drewN n) := ⟨h.os, h.tape, h.output, h.size, h.block⟩
theorem may_is (w : World) (s : Sl) (v : Value) (hv : s.enc = v) (b : Bool) (hb : may s = b) : Calls Tryd.prog 79 #[v] w fun e w' => e = .returned (.bool b) ∧ Below w.heap.size w w' := by
  subst hv hb
  exact may_any w s
theorem b1_cases (b : Bool) (k : Int) : b1 b k = 0 ∨ b1 b k = k := by cases b <;> simp [b1]
set_option maxHeartbeats 2000000 in
theorem pack_any (w : World) (s : Sl) : Calls Tryd.prog 44 #[s.enc] w fun e w' => e = .returned (.int .u64 (packS s)) ∧ Below w.heap.size w w' := by
  obtain ⟨v, hv⟩ : ∃ v, packS s = v := ⟨_, rfl⟩
  rw [hv]
  cases hm : may s with
  | false =>
    have : v = 0 := by rw [← hv]; simp [packS, hm]
    subst this
    obtain ⟨a, b, c, d, n⟩ := s
    unfold Sl.enc
    simp only []
    go_enter Tryd.func44, Tryd.ntmps44
    go_wp2_with (go_at_call 79; refine (may_is _ ⟨a, b, c, d, n⟩ _ rfl false hm).mono ?_; rintro e w' ⟨rfl, hb⟩)
    go_ret
    exact ⟨rfl, ((Below.refl _ w).alloc (Nat.le_refl _) _).trans (hb.mono (by simp))⟩
  | true =>
    have hn := may_n hm
    obtain ⟨a, b, c, d, n⟩ := s
    simp only [packS, hm, if_true] at hv
    simp only [] at hn
    obtain ⟨o1, o2, o3, o4⟩ := or_flags n hn.1 (by omega) (b1 a 1) (b1 b 2) (b1 c 4) (b1 d 8) (b1_cases _ _) (b1_cases _ _) (b1_cases _ _) (b1_cases _ _)
    rw [hv] at o4
    have w1 : IntKind.u64.wrap n = n := by simp [IntKind.wrap, IntKind.bits, IntKind.signed]; omega
    have w2 : IntKind.u64.wrap (n * 16) = n * 16 := by simp [IntKind.wrap, IntKind.bits, IntKind.signed]; omega
    have hc0 : ∀ j, (w.alloc (.cells #[.bool a, .bool b, .bool c, .bool d, .int .i64 n] 68)).cell? ⟨w.heap.size, j, none⟩ = #[Value.bool a, .bool b, .bool c, .bool d, .int .i64 n][j]? := fun j => cell_of_row _ _ j _ _ _ (heap_alloc_new _ _)
    have q0 := hc0 0
    have q1 := hc0 1
    have q2 := hc0 2
    have q3 := hc0 3
    have q4 := hc0 4
    simp only [List.getElem?_toArray, List.getElem?_cons_zero, List.getElem?_cons_succ] at q0 q1 q2 q3 q4
    unfold Sl.enc
    simp only []
    go_enter Tryd.func44, Tryd.ntmps44
    go_wp2_with (
      go_at_call 79; refine (may_is _ ⟨a, b, c, d, n⟩ _ rfl true hm).mono ?_; rintro e w1' ⟨rfl, hb⟩;
      have r0 := (hb.cell (p := ⟨w.heap.size, 0, none⟩) (by simp)).trans q0;
      have r1 := (hb.cell (p := ⟨w.heap.size, 1, none⟩) (by simp)).trans q1;
      have r2 := (hb.cell (p := ⟨w.heap.size, 2, none⟩) (by simp)).trans q2;
      have r3 := (hb.cell (p := ⟨w.heap.size, 3, none⟩) (by simp)).trans q3;
      have r4 := (hb.cell (p := ⟨w.heap.size, 4, none⟩) (by simp)).trans q4)
    go_quiet ((go_at_call 80; exact quiet_l (flag_any _ _ _)))
    go_wp2
    go_ret
    exact ⟨rfl, ((((Below.refl _ w).alloc (Nat.le_refl _) _).trans (hb.mono (by simp))).drewN' _)⟩

theorem unS_bits (x : Int) (h0 : 0 ≤ x) : (x % 2 != 0) = (unS x).here ∧ (x / 2 % 2 * 2 != 0) = (unS x).write ∧ (x / 4 % 2 * 4 != 0) = (unS x).copy ∧ (x / 8 % 2 * 8 != 0) = (unS x).out := by
  have key : ∀ y k : Int, 0 < k → (y % 2 * k != 0) = (y % 2 == 1) := by
    intro y k hk
    rcases (show y % 2 = 0 ∨ y % 2 = 1 by omega) with h | h
    · simp [h]
    · simp [h]; omega
  have := key x 1 (by omega)
  rw [Int.mul_one] at this
  exact ⟨this, key _ 2 (by omega), key _ 4 (by omega), key _ 8 (by omega)⟩
set_option maxHeartbeats 2000000 in
theorem unpack_any (w : World) (x : Int) (h0 : 0 ≤ x) (h1 : x < 18446744073709551616) : Calls Tryd.prog 46 #[.int .u64 x] w fun e w' => e = .returned (unpackB x).enc ∧ Below w.heap.size w w' := by
  obtain ⟨v, hv⟩ : ∃ v, unpackB x = v := ⟨_, rfl⟩
  rw [hv]
  have e16 : x.tdiv 16 = x / 16 := Int.tdiv_eq_ediv_of_nonneg h0
  by_cases hg : x / 16 > 1048576
  · have : v = .zero := by rw [← hv]; unfold unpackB; rw [if_pos hg]
    subst this
    unfold Sl.enc Sl.zero
    simp only []
    have hgd : ((1048576 : Int) < x / 16) := hg
    go_enter Tryd.func46, Tryd.ntmps46
    go_wp2
    go_returns
    exact ⟨rfl, by go_grown⟩
  · have a1 := and_1 x h0 h1
    have a2 := and_2 x h0 h1
    have a4 := and_4 x h0 h1
    have a8 := and_8 x h0 h1
    obtain ⟨b1, b2, b4, b8⟩ := unS_bits x h0
    have hn : (unS x).n = x / 16 := rfl
    have hgd : ¬ ((1048576 : Int) < x / 16) := hg
    have hw : IntKind.i64.wrap (x / 16) = x / 16 := by rw [IntKind.wrap_i64]; omega
    have hu : unpackB x = if may (unS x) then unS x else .zero := by unfold unpackB; rw [if_neg hg]
    generalize unS x = s at b1 b2 b4 b8 hn hu
    obtain ⟨a, b, c, d, n⟩ := s
    simp only [] at b1 b2 b4 b8 hn
    subst hn
    have n0 := (Below.heap_alloc (w.alloc (.cells #[.bool false, .bool false, .bool false, .bool false, .int .i64 0] 68)) (.cells #[.bool a, .bool b, .bool c, .bool d, .int .i64 (x / 16)] 68) w.heap.size (by simp)).trans (heap_alloc_new w (.cells #[.bool false, .bool false, .bool false, .bool false, .int .i64 0] 68))
    have n1 := heap_alloc_new (w.alloc (.cells #[.bool false, .bool false, .bool false, .bool false, .int .i64 0] 68)) (.cells #[.bool a, .bool b, .bool c, .bool d, .int .i64 (x / 16)] 68)
    rw [World.size_alloc] at n1
    cases hm : may ⟨a, b, c, d, x / 16⟩ with
    | false =>
      rw [hm] at hu
      have : v = .zero := by rw [← hv, hu]; rfl
      subst this
      clear hv hu
      unfold Sl.enc Sl.zero
      simp only []
      go_enter Tryd.func46, Tryd.ntmps46
      go_wp2_with (
        go_at_call 79; refine (may_is _ ⟨a, b, c, d, x / 16⟩ _ rfl false hm).mono ?_; rintro e w' ⟨rfl, hb⟩;
        have m0 := (hb.block w.heap.size (by simp; omega)).trans n0;
        have m1 := (hb.block (w.heap.size + 1) (by simp)).trans n1;
        have z0 := (cell_of_row w' _ 0 _ _ _ m0);
        have z1 := (cell_of_row w' _ 1 _ _ _ m0);
        have z2 := (cell_of_row w' _ 2 _ _ _ m0);
        have z3 := (cell_of_row w' _ 3 _ _ _ m0);
        have z4 := (cell_of_row w' _ 4 _ _ _ m0);
        have y0 := (cell_of_row w' _ 0 _ _ _ m1);
        have y1 := (cell_of_row w' _ 1 _ _ _ m1);
        have y2 := (cell_of_row w' _ 2 _ _ _ m1);
        have y3 := (cell_of_row w' _ 3 _ _ _ m1);
        have y4 := (cell_of_row w' _ 4 _ _ _ m1);
        simp only [List.getElem?_toArray, List.getElem?_cons_zero, List.getElem?_cons_succ] at z0 z1 z2 z3 z4 y0 y1 y2 y3 y4;
        have f0 := frozen_of_row w' _ 0 _ _ m0;
        have f1 := frozen_of_row w' _ 1 _ _ m0;
        have f2 := frozen_of_row w' _ 2 _ _ m0;
        have f3 := frozen_of_row w' _ 3 _ _ m0;
        have f4 := frozen_of_row w' _ 4 _ _ m0;
        have HB : Below w.heap.size w w' := (((Below.refl _ w).alloc (Nat.le_refl _) _).alloc (by simp) _).trans (hb.mono (by simp; omega)))
      refine bodyPost_ret (by simp [results, Tryd.results46, go_sem, z0, z1, z2, z3, z4]; try rfl) rfl ?_
      exact ⟨rfl, (((((HB.setCell (p := ⟨w.heap.size, 0, none⟩) (Nat.le_refl _) _).setCell (p := ⟨w.heap.size, 1, none⟩) (Nat.le_refl _) _).setCell (p := ⟨w.heap.size, 2, none⟩) (Nat.le_refl _) _).setCell (p := ⟨w.heap.size, 3, none⟩) (Nat.le_refl _) _).setCell (p := ⟨w.heap.size, 4, none⟩) (Nat.le_refl _) _)⟩
    | true =>
      rw [hm] at hu
      have : v = ⟨a, b, c, d, x / 16⟩ := by rw [← hv, hu]; rfl
      subst this
      clear hv hu
      unfold Sl.enc
      simp only []
      go_enter Tryd.func46, Tryd.ntmps46
      go_wp2_with (
        go_at_call 79; refine (may_is _ ⟨a, b, c, d, x / 16⟩ _ rfl true hm).mono ?_; rintro e w' ⟨rfl, hb⟩;
        have m0 := (hb.block w.heap.size (by simp; omega)).trans n0;
        have m1 := (hb.block (w.heap.size + 1) (by simp)).trans n1;
        have z0 := (cell_of_row w' _ 0 _ _ _ m0);
        have z1 := (cell_of_row w' _ 1 _ _ _ m0);
        have z2 := (cell_of_row w' _ 2 _ _ _ m0);
        have z3 := (cell_of_row w' _ 3 _ _ _ m0);
        have z4 := (cell_of_row w' _ 4 _ _ _ m0);
        have y0 := (cell_of_row w' _ 0 _ _ _ m1);
        have y1 := (cell_of_row w' _ 1 _ _ _ m1);
        have y2 := (cell_of_row w' _ 2 _ _ _ m1);
        have y3 := (cell_of_row w' _ 3 _ _ _ m1);
        have y4 := (cell_of_row w' _ 4 _ _ _ m1);
        simp only [List.getElem?_toArray, List.getElem?_cons_zero, List.getElem?_cons_succ] at z0 z1 z2 z3 z4 y0 y1 y2 y3 y4;
        have f0 := frozen_of_row w' _ 0 _ _ m0;
        have f1 := frozen_of_row w' _ 1 _ _ m0;
        have f2 := frozen_of_row w' _ 2 _ _ m0;
        have f3 := frozen_of_row w' _ 3 _ _ m0;
        have f4 := frozen_of_row w' _ 4 _ _ m0;
        have HB : Below w.heap.size w w' := (((Below.refl _ w).alloc (Nat.le_refl _) _).alloc (by simp) _).trans (hb.mono (by simp; omega)))
      refine bodyPost_ret (by simp [results, Tryd.results46, go_sem, z0, z1, z2, z3, z4]; try rfl) rfl ?_
      exact ⟨rfl, (((((HB.setCell (p := ⟨w.heap.size, 0, none⟩) (Nat.le_refl _) _).setCell (p := ⟨w.heap.size, 1, none⟩) (Nat.le_refl _) _).setCell (p := ⟨w.heap.size, 2, none⟩) (Nat.le_refl _) _).setCell (p := ⟨w.heap.size, 3, none⟩) (Nat.le_refl _) _).setCell (p := ⟨w.heap.size, 4, none⟩) (Nat.le_refl _) _)⟩
end Go.Proofs.YtacpfkimjaihgaaDoor
