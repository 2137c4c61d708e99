/- The document's May, Pack and Unpack. No conditions. -/
import Derived.Test.YtacpfkimjaihgaaDoorRTab
namespace Go.Proofs.YtacpfkimjaihgaaDoor
open Go.RowKit
set_option linter.unusedVariables false

set_option maxHeartbeats 1000000 in
theorem rmay_any (w : World) (s : Sl) : Calls Tryd.prog 43 #[s.enc] w fun e w' => e = .returned (.bool (may s)) ∧ Below w.heap.size w w' := by
  obtain ⟨a, b, c, d, n⟩ := s
  obtain ⟨v, hv⟩ : ∃ v, may ⟨a, b, c, d, n⟩ = v := ⟨_, rfl⟩
  rw [hv]
  simp only [may] at hv
  unfold Sl.enc
  simp only []
  go_enter Tryd.func43, Tryd.ntmps43
  go_wp2
  all_goals (go_ret; exact ⟨congrArg (fun b => Ending.returned (.bool b)) (by subst hv; cases a <;> cases b <;> cases c <;> cases d <;> simp_all <;> omega), by go_grown⟩)
theorem rmay_is (w : World) (s : Sl) (v : Value) (hv : s.enc = v) (b : Bool) (hb : may s = b) : Calls Tryd.prog 43 #[v] w fun e w' => e = .returned (.bool b) ∧ Below w.heap.size w w' := by
  subst hv hb
  exact rmay_any w s
set_option maxHeartbeats 2000000 in
theorem rpack_any (w : World) (s : Sl) : Calls Tryd.prog 45 #[s.enc] w fun e w' => e = .returned (.int .u64 (packS s)) ∧ Below w.heap.size w w' := by
  obtain ⟨v, hv⟩ : ∃ v, packS s = v := ⟨_, rfl⟩
  rw [hv]
  cases hm : may s with
  | false =>
    have : v = 0 := by rw [← hv]; simp [packS, hm]
    subst this
    obtain ⟨a, b, c, d, n⟩ := s
    unfold Sl.enc
    simp only []
    go_enter Tryd.func45, Tryd.ntmps45
    go_wp2_with (go_at_call 43; refine (rmay_is _ ⟨a, b, c, d, n⟩ _ rfl false hm).mono ?_; rintro e w' ⟨rfl, hb⟩)
    go_ret
    exact ⟨rfl, ((Below.refl _ w).alloc (Nat.le_refl _) _).trans (hb.mono (by simp))⟩
  | true =>
    have hn := may_n hm
    obtain ⟨a, b, c, d, n⟩ := s
    simp only [packS, hm, if_true] at hv
    simp only [] at hn
    have w1 : IntKind.u64.wrap n = n := by simp [IntKind.wrap, IntKind.bits, IntKind.signed]; omega
    have w2 : IntKind.u64.wrap (n * 16) = n * 16 := by simp [IntKind.wrap, IntKind.bits, IntKind.signed]; omega
    have hc0 : ∀ j, (w.alloc (.cells #[.bool a, .bool b, .bool c, .bool d, .int .i64 n] 68)).cell? ⟨w.heap.size, j, none⟩ = #[Value.bool a, .bool b, .bool c, .bool d, .int .i64 n][j]? := fun j => cell_of_row _ _ j _ _ _ (heap_alloc_new _ _)
    have q0 := hc0 0
    have q1 := hc0 1
    have q2 := hc0 2
    have q3 := hc0 3
    have q4 := hc0 4
    simp only [List.getElem?_toArray, List.getElem?_cons_zero, List.getElem?_cons_succ] at q0 q1 q2 q3 q4
    unfold Sl.enc
    simp only []
    go_enter Tryd.func45, Tryd.ntmps45
    go_wp2_with (
      go_at_call 43; refine (rmay_is _ ⟨a, b, c, d, n⟩ _ rfl true hm).mono ?_; rintro e w1' ⟨rfl, hb⟩;
      have r0 := (hb.cell (p := ⟨w.heap.size, 0, none⟩) (by simp)).trans q0;
      have r1 := (hb.cell (p := ⟨w.heap.size, 1, none⟩) (by simp)).trans q1;
      have r2 := (hb.cell (p := ⟨w.heap.size, 2, none⟩) (by simp)).trans q2;
      have r3 := (hb.cell (p := ⟨w.heap.size, 3, none⟩) (by simp)).trans q3;
      have r4 := (hb.cell (p := ⟨w.heap.size, 4, none⟩) (by simp)).trans q4)
    all_goals
      go_ret
      refine ⟨?_, ((Below.refl _ w).alloc (Nat.le_refl _) _).trans (hb.mono (by simp))⟩
      refine congrArg (fun z => Ending.returned (.int .u64 z)) ?_
      rw [← hv]
      simp_all [b1, IntKind.wrap, IntKind.bits, IntKind.signed]
      try omega
set_option maxHeartbeats 2000000 in
theorem runpack_any (w : World) (x : Int) (h0 : 0 ≤ x) (h1 : x < 18446744073709551616) : Calls Tryd.prog 47 #[.int .u64 x] w fun e w' => e = .returned (unpackB x).enc ∧ Below w.heap.size w w' := by
  obtain ⟨v, hv⟩ : ∃ v, unpackB x = v := ⟨_, rfl⟩
  rw [hv]
  have e16 : x.tdiv 16 = x / 16 := Int.tdiv_eq_ediv_of_nonneg h0
  have e2 : x.tdiv 2 = x / 2 := Int.tdiv_eq_ediv_of_nonneg h0
  have e4 : x.tdiv 4 = x / 4 := Int.tdiv_eq_ediv_of_nonneg h0
  have e8 : x.tdiv 8 = x / 8 := Int.tdiv_eq_ediv_of_nonneg h0
  have t1 : x.tmod 2 = x % 2 := Int.tmod_eq_emod_of_nonneg h0
  have t2 : (x / 2).tmod 2 = x / 2 % 2 := Int.tmod_eq_emod_of_nonneg (by omega)
  have t4 : (x / 4).tmod 2 = x / 4 % 2 := Int.tmod_eq_emod_of_nonneg (by omega)
  have t8 : (x / 8).tmod 2 = x / 8 % 2 := Int.tmod_eq_emod_of_nonneg (by omega)
  by_cases hg : x / 16 > 1048576
  · have : v = .zero := by rw [← hv]; unfold unpackB; rw [if_pos hg]
    subst this
    unfold Sl.enc Sl.zero
    simp only []
    have hgd : ((1048576 : Int) < x / 16) := hg
    go_enter Tryd.func47, Tryd.ntmps47
    go_wp2
    go_returns
    exact ⟨rfl, by go_grown⟩
  · have b1 : (x % 2 == 1) = (unS x).here := rfl
    have b2 : (x / 2 % 2 == 1) = (unS x).write := rfl
    have b4 : (x / 4 % 2 == 1) = (unS x).copy := rfl
    have b8 : (x / 8 % 2 == 1) = (unS x).out := rfl
    have hn : (unS x).n = x / 16 := rfl
    have hgd : ¬ ((1048576 : Int) < x / 16) := hg
    have hw : IntKind.i64.wrap (x / 16) = x / 16 := by rw [IntKind.wrap_i64]; omega
    have hu : unpackB x = if may (unS x) then unS x else .zero := by unfold unpackB; rw [if_neg hg]
    generalize unS x = s at b1 b2 b4 b8 hn hu
    obtain ⟨a, b, c, d, n⟩ := s
    simp only [] at b1 b2 b4 b8 hn
    subst hn
    have n0 := (Below.heap_alloc (w.alloc (.cells #[.bool false, .bool false, .bool false, .bool false, .int .i64 0] 68)) (.cells #[.bool a, .bool b, .bool c, .bool d, .int .i64 (x / 16)] 68) w.heap.size (by simp)).trans (heap_alloc_new w (.cells #[.bool false, .bool false, .bool false, .bool false, .int .i64 0] 68))
    have n1 := heap_alloc_new (w.alloc (.cells #[.bool false, .bool false, .bool false, .bool false, .int .i64 0] 68)) (.cells #[.bool a, .bool b, .bool c, .bool d, .int .i64 (x / 16)] 68)
    rw [World.size_alloc] at n1
    cases hm : may ⟨a, b, c, d, x / 16⟩ with
    | false =>
      rw [hm] at hu
      have : v = .zero := by rw [← hv, hu]; rfl
      subst this
      clear hv hu
      unfold Sl.enc Sl.zero
      simp only []
      go_enter Tryd.func47, Tryd.ntmps47
      go_wp2_with (
        go_at_call 43; refine (rmay_is _ ⟨a, b, c, d, x / 16⟩ _ rfl false hm).mono ?_; rintro e w' ⟨rfl, hb⟩;
        have m0 := (hb.block w.heap.size (by simp; omega)).trans n0;
        have m1 := (hb.block (w.heap.size + 1) (by simp)).trans n1;
        have z0 := (cell_of_row w' _ 0 _ _ _ m0);
        have z1 := (cell_of_row w' _ 1 _ _ _ m0);
        have z2 := (cell_of_row w' _ 2 _ _ _ m0);
        have z3 := (cell_of_row w' _ 3 _ _ _ m0);
        have z4 := (cell_of_row w' _ 4 _ _ _ m0);
        have y0 := (cell_of_row w' _ 0 _ _ _ m1);
        have y1 := (cell_of_row w' _ 1 _ _ _ m1);
        have y2 := (cell_of_row w' _ 2 _ _ _ m1);
        have y3 := (cell_of_row w' _ 3 _ _ _ m1);
        have y4 := (cell_of_row w' _ 4 _ _ _ m1);
        simp only [List.getElem?_toArray, List.getElem?_cons_zero, List.getElem?_cons_succ] at z0 z1 z2 z3 z4 y0 y1 y2 y3 y4;
        have f0 := frozen_of_row w' _ 0 _ _ m0;
        have f1 := frozen_of_row w' _ 1 _ _ m0;
        have f2 := frozen_of_row w' _ 2 _ _ m0;
        have f3 := frozen_of_row w' _ 3 _ _ m0;
        have f4 := frozen_of_row w' _ 4 _ _ m0;
        have HB : Below w.heap.size w w' := (((Below.refl _ w).alloc (Nat.le_refl _) _).alloc (by simp) _).trans (hb.mono (by simp; omega)))
      refine bodyPost_ret (by simp [results, Tryd.results47, go_sem, z0, z1, z2, z3, z4]; try rfl) rfl ?_
      exact ⟨rfl, (((((HB.setCell (p := ⟨w.heap.size, 0, none⟩) (Nat.le_refl _) _).setCell (p := ⟨w.heap.size, 1, none⟩) (Nat.le_refl _) _).setCell (p := ⟨w.heap.size, 2, none⟩) (Nat.le_refl _) _).setCell (p := ⟨w.heap.size, 3, none⟩) (Nat.le_refl _) _).setCell (p := ⟨w.heap.size, 4, none⟩) (Nat.le_refl _) _)⟩
    | true =>
      rw [hm] at hu
      have : v = ⟨a, b, c, d, x / 16⟩ := by rw [← hv, hu]; rfl
      subst this
      clear hv hu
      unfold Sl.enc
      simp only []
      go_enter Tryd.func47, Tryd.ntmps47
      go_wp2_with (
        go_at_call 43; refine (rmay_is _ ⟨a, b, c, d, x / 16⟩ _ rfl true hm).mono ?_; rintro e w' ⟨rfl, hb⟩;
        have m0 := (hb.block w.heap.size (by simp; omega)).trans n0;
        have m1 := (hb.block (w.heap.size + 1) (by simp)).trans n1;
        have z0 := (cell_of_row w' _ 0 _ _ _ m0);
        have z1 := (cell_of_row w' _ 1 _ _ _ m0);
        have z2 := (cell_of_row w' _ 2 _ _ _ m0);
        have z3 := (cell_of_row w' _ 3 _ _ _ m0);
        have z4 := (cell_of_row w' _ 4 _ _ _ m0);
        have y0 := (cell_of_row w' _ 0 _ _ _ m1);
        have y1 := (cell_of_row w' _ 1 _ _ _ m1);
        have y2 := (cell_of_row w' _ 2 _ _ _ m1);
        have y3 := (cell_of_row w' _ 3 _ _ _ m1);
        have y4 := (cell_of_row w' _ 4 _ _ _ m1);
        simp only [List.getElem?_toArray, List.getElem?_cons_zero, List.getElem?_cons_succ] at z0 z1 z2 z3 z4 y0 y1 y2 y3 y4;
        have f0 := frozen_of_row w' _ 0 _ _ m0;
        have f1 := frozen_of_row w' _ 1 _ _ m0;
        have f2 := frozen_of_row w' _ 2 _ _ m0;
        have f3 := frozen_of_row w' _ 3 _ _ m0;
        have f4 := frozen_of_row w' _ 4 _ _ m0;
        have HB : Below w.heap.size w w' := (((Below.refl _ w).alloc (Nat.le_refl _) _).alloc (by simp) _).trans (hb.mono (by simp; omega)))
      refine bodyPost_ret (by simp [results, Tryd.results47, go_sem, z0, z1, z2, z3, z4]; try rfl) rfl ?_
      exact ⟨rfl, (((((HB.setCell (p := ⟨w.heap.size, 0, none⟩) (Nat.le_refl _) _).setCell (p := ⟨w.heap.size, 1, none⟩) (Nat.le_refl _) _).setCell (p := ⟨w.heap.size, 2, none⟩) (Nat.le_refl _) _).setCell (p := ⟨w.heap.size, 3, none⟩) (Nat.le_refl _) _).setCell (p := ⟨w.heap.size, 4, none⟩) (Nat.le_refl _) _)⟩
end Go.Proofs.YtacpfkimjaihgaaDoor
