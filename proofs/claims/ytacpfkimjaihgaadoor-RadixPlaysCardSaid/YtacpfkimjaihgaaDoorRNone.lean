/- radix: what is not there. No conditions. -/
import Derived.Test.YtacpfkimjaihgaaDoorRClose
namespace Go.Proofs.YtacpfkimjaihgaaDoor
open Go.RowKit
set_option linter.unusedVariables false

set_option maxHeartbeats 4000000 in
theorem get_err (w : World) (tp : Option Addr) (page x : Int) (hx : x = 1 ∨ x = 13 ∨ x = 14) (ha : ∀ W, Below w.heap.size w W → Calls Tryd.prog 82 #[.pointer tp, .int .i64 page] W fun e w' => e = .returned (.int .i64 x) ∧ W = w') :
    Calls Tryd.prog 55 #[.pointer tp, .int .i64 page] w fun e w' => e = .returned (.tuple #[.agg #[.bool false, .bool false, .bool false, .bool false, .int .i64 0], .int .i64 x]) ∧ Below w.heap.size w w' := by
  have H1 := Lib.hid (ha (w.alloc (.cells #[.bool false, .bool false, .bool false, .bool false, .int .i64 0] 68)) ((Below.refl _ w).alloc (Nat.le_refl _) _))
  clear ha
  rcases hx with rfl | rfl | rfl
  all_goals
    go_enter Tryd.func55, Tryd.ntmps55
    go_wp2_with (go_at_call 82; refine H1.out.mono ?_; rintro e w1 ⟨rfl, rfl⟩)
    go_returns
    exact ⟨rfl, (Below.refl _ w).alloc (Nat.le_refl _) _⟩
set_option maxHeartbeats 4000000 in
theorem drop_err (w : World) (tp : Option Addr) (page x : Int) (hx : x = 1 ∨ x = 14) (ha : ∀ W, Below w.heap.size w W → Calls Tryd.prog 82 #[.pointer tp, .int .i64 page] W fun e w' => e = .returned (.int .i64 x) ∧ W = w') :
    Calls Tryd.prog 54 #[.pointer tp, .int .i64 page] w fun e w' => e = .returned (.tuple #[.agg #[.bool false, .bool false, .bool false, .bool false, .int .i64 0], .int .i64 x]) ∧ Below w.heap.size w w' := by
  have hb1 : Below w.heap.size w (w.alloc (.cells #[.bool false, .bool false, .bool false, .bool false, .int .i64 0] 68)) := (Below.refl _ w).alloc (Nat.le_refl _) _
  have n0 := heap_alloc_new w (.cells #[.bool false, .bool false, .bool false, .bool false, .int .i64 0] 68)
  have H1 := Lib.hid (get_err (w.alloc (.cells #[.bool false, .bool false, .bool false, .bool false, .int .i64 0] 68)) tp page x (by omega) (fun W hW => ha W (hb1.trans (hW.mono (by simp)))))
  clear ha
  rcases hx with rfl | rfl
  all_goals
    go_enter Tryd.func54, Tryd.ntmps54
    go_wp2_with (
      go_at_call 55; refine H1.out.mono ?_; rintro e w2 ⟨rfl, hb2⟩;
      have s2 := hb2.size;
      simp only [World.size_alloc] at s2;
      have n2 := (hb2.block w.heap.size (by simp)).trans n0;
      have hB2 : Below w.heap.size w w2 := hb1.trans (hb2.mono (by simp));
      have hl2 : w.heap.size < w2.heap.size := by omega;
      have z0 := (cell_of_row w2 _ 0 _ _ _ n2);
      have z1 := (cell_of_row w2 _ 1 _ _ _ n2);
      have z2 := (cell_of_row w2 _ 2 _ _ _ n2);
      have z3 := (cell_of_row w2 _ 3 _ _ _ n2);
      have z4 := (cell_of_row w2 _ 4 _ _ _ n2);
      have f0 := frozen_of_row w2 _ 0 _ _ n2;
      have f1 := frozen_of_row w2 _ 1 _ _ n2;
      have f2 := frozen_of_row w2 _ 2 _ _ n2;
      have f3 := frozen_of_row w2 _ 3 _ _ n2;
      have f4 := frozen_of_row w2 _ 4 _ _ n2;
      simp only [List.getElem?_toArray, List.getElem?_cons_zero, List.getElem?_cons_succ] at z0 z1 z2 z3 z4)
    have g5 := set5_cells w2 w.heap.size _ _ _ _ _ _ n2 (.bool false) (.bool false) (.bool false) (.bool false) (.int .i64 0)
    have hB3 : Below w.heap.size w (fiveAt w2 w.heap.size (.bool false) (.bool false) (.bool false) (.bool false) (.int .i64 0)) := (((((hB2.setCell (p := ⟨w.heap.size, 0, none⟩) (Nat.le_refl _) (.bool false)).setCell (p := ⟨w.heap.size, 1, none⟩) (Nat.le_refl _) (.bool false)).setCell (p := ⟨w.heap.size, 2, none⟩) (Nat.le_refl _) (.bool false)).setCell (p := ⟨w.heap.size, 3, none⟩) (Nat.le_refl _) (.bool false)).setCell (p := ⟨w.heap.size, 4, none⟩) (Nat.le_refl _) (.int .i64 0))
    have hB4 := hB3.alloc hB3.size (.cells #[.bool false, .bool false, .bool false, .bool false, .int .i64 0] 68)
    have hl3 := lt_of_block g5
    have g6 := (Below.heap_alloc (fiveAt w2 w.heap.size (.bool false) (.bool false) (.bool false) (.bool false) (.int .i64 0)) (.cells #[.bool false, .bool false, .bool false, .bool false, .int .i64 0] 68) w.heap.size hl3).trans g5
    change bodyPost _ _ _ _ _ ((fiveAt w2 w.heap.size (.bool false) (.bool false) (.bool false) (.bool false) (.int .i64 0)).alloc (.cells #[.bool false, .bool false, .bool false, .bool false, .int .i64 0] 68))
    generalize (fiveAt w2 w.heap.size (.bool false) (.bool false) (.bool false) (.bool false) (.int .i64 0)).alloc (.cells #[.bool false, .bool false, .bool false, .bool false, .int .i64 0] 68) = V at hB4 g6 ⊢
    have y0 := (cell_of_row V _ 0 _ _ _ g6)
    have y1 := (cell_of_row V _ 1 _ _ _ g6)
    have y2 := (cell_of_row V _ 2 _ _ _ g6)
    have y3 := (cell_of_row V _ 3 _ _ _ g6)
    have y4 := (cell_of_row V _ 4 _ _ _ g6)
    simp only [List.getElem?_toArray, List.getElem?_cons_zero, List.getElem?_cons_succ] at y0 y1 y2 y3 y4
    refine bodyPost_ret (by simp [results, Tryd.results54, go_sem, y0, y1, y2, y3, y4]; try rfl) rfl ?_
    exact ⟨rfl, hB4⟩
theorem nodes_at (w : World) (t : Nat) (x : Int) (h : w.cell? ⟨t, 2, none⟩ = some (.int .i64 x)) : Calls Tryd.prog 52 #[.pointer (some ⟨t, 0, none⟩)] w fun e w' => e = .returned (.int .i64 x) ∧ w = w' := by
  go_enter Tryd.func52, Tryd.ntmps52
  go_wp2
  go_ret
  exact ⟨rfl, rfl⟩
theorem new_nil (w : World) : Calls Tryd.prog 48 #[.pointer none] w fun e w' => e = .returned (.tuple #[.pointer none, .int .i64 1]) ∧ w = w' := by
  go_enter Tryd.func48, Tryd.ntmps48
  go_wp2_with (go_at_call 19; refine (take_nil _).mono ?_; rintro e w1 ⟨rfl, rfl⟩)
  go_returns
  exact ⟨rfl, rfl⟩
set_option maxHeartbeats 4000000 in
theorem close_none (w : World) (tp : Option Addr) (ht : NoT w tp) : Calls Tryd.prog 56 #[.pointer tp] w fun e w' => ∃ a c, e = .returned (.slice a 0 c) ∧ Below w.heap.size w w' := by
  have HT := Lib.hid ht
  rcases ht with rfl | ⟨t, rfl, hc⟩
  · go_enter Tryd.func56, Tryd.ntmps56
    go_wp2_with (go_at_call 49; refine (all_none _ _ HT.out).mono ?_; rintro e w1 ⟨a, c, rfl, hb1⟩)
    go_loopw [10] (fun i wr => i = .int .i64 0 ∧ w1 = wr) (fun _ _ => 0)
    case atStart => exact ⟨rfl, rfl⟩
    case round =>
      obtain ⟨rfl, rfl⟩ := hrel
      go_wp2_with fail
      go_ret
      exact ⟨_, _, rfl, hb1⟩
  · have hlt := World.block_lt_of_cell? w _ hc
    simp only at hlt
    go_enter Tryd.func56, Tryd.ntmps56
    go_wp2_with (go_at_call 49; refine (all_none _ _ HT.out).mono ?_; rintro e w1 ⟨a, c, rfl, hb1⟩; have hc1 := (hb1.cell (p := ⟨t, 0, none⟩) hlt).trans hc)
    go_loopw [10] (fun i wr => i = .int .i64 0 ∧ w1 = wr) (fun _ _ => 0)
    case atStart => exact ⟨rfl, rfl⟩
    case round =>
      obtain ⟨rfl, rfl⟩ := hrel
      go_wp2_with fail
      go_ret
      exact ⟨_, _, rfl, hb1⟩
end Go.Proofs.YtacpfkimjaihgaaDoor
