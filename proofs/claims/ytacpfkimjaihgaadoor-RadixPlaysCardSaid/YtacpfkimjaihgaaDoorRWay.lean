/- radix: a table whose nodes are told; way. No conditions. -/
import Derived.Test.YtacpfkimjaihgaaDoorRTab
import Derived.Test.YtacpfkimjaihgaaDoorRDig
import Derived.Deep.DeepCutAuto
namespace Go.Proofs.YtacpfkimjaihgaaDoor
open Go.RowKit
set_option linter.unusedVariables false

structure Rst (w0 w : World) (t p bb hb n : Nat) (F : FP) (root : Nat) (N : Nat → Nat → Option Nat) (C : Nat → Option Sl) : Prop where
  tb : Tb w0 w t p bb hb F root (cnt N)
  fit : Fit F n
  tr : Tr (ent F) (Hd F) N C root
  fr : frees F.held + cnt N = n
  n4 : n ≤ 4096

/-- The way to a page: m nodes. -/
structure Way (N : Nat → Nat → Option Nat) (page : Nat) (a : Nat → Nat) (m : Nat) : Prop where
  one : 1 ≤ m
  four : m ≤ 4
  at_ : ∀ i, i < m → N i (pre page i) = some (a i)
  end_ : m < 4 → N m (pre page m) = none
  zero : ∀ i, m ≤ i → a i = 0

theorem pre_dig {page l : Nat} (hl : l < 4) : 8 * pre page l + dig page l = pre page (l + 1) := by
  obtain ⟨h1, h2⟩ := pre_succ (page := page) hl
  unfold dig
  omega

def arr (a : Nat → Nat) (j : Nat) : Array Value := ((List.range 4).map (fun i => Value.int .i64 (if i < j then (a i : Int) else 0))).toArray
def upA (a : Nat → Nat) (j v : Nat) : Nat → Nat := fun i => if i = j then v else a i
theorem upA_at (a : Nat → Nat) (j v : Nat) : upA a j v j = v := by simp [upA]
theorem upA_lt (a : Nat → Nat) (j v : Nat) {i : Nat} (h : i < j) : upA a j v i = a i := by simp [upA]; omega

theorem entry_is {w0 w : World} {t p bb hb root : Nat} {F : FP} {k : Int} (h : Tb w0 w t p bb hb F root k) (hw : Wd w0) (f i : Nat) (hi : i < 8) (a b c d : Bool) (n : Int) (hs : ent F f i = ⟨a, b, c, d, n⟩) :
    Calls Tryd.prog 87 #[.pointer (some ⟨t, 0, none⟩), .int .i64 f, .int .i64 i] w fun e w' => e = .returned (.agg #[.bool a, .bool b, .bool c, .bool d, .int .i64 n]) ∧ Tb w0 w' t p bb hb F root k ∧ Below w.heap.size w w' := by
  have := h.entry hw f i hi
  rw [hs] at this
  exact this

set_option maxHeartbeats 8000000 in
theorem way_any {w0 w : World} {t p bb hb n root : Nat} {F : FP} {N : Nat → Nat → Option Nat} {C : Nat → Option Sl} (h : Rst w0 w t p bb hb n F root N C) (hw : Wd w0) (page : Nat) (hp : page < 4096) :
    Calls Tryd.prog 83 #[.pointer (some ⟨t, 0, none⟩), .int .i64 page] w fun e w' => ∃ (a : Nat → Nat) (m : Nat), e = .returned (.tuple #[.agg #[.int .i64 (a 0), .int .i64 (a 1), .int .i64 (a 2), .int .i64 (a 3)], .int .i64 m]) ∧ Way N page a m ∧ Below w.heap.size w w' := by
  have c1 := h.tb.c1
  have hlt := h.tb.lt
  have HR := Lib.hid h
  have HW := Lib.hid hw
  clear h hw
  go_enter Tryd.func83, Tryd.ntmps83
  go_wp2
  go_step3
  go_wp2_with (go_at_call 84; refine (digits_any _ page hp).mono ?_; rintro e w1 ⟨rfl, hb1⟩)
  have s1 := hb1.size
  simp only [World.size_alloc] at s1
  obtain ⟨W, hW⟩ : ∃ W, w1.alloc (.cells #[.int .i64 (dig page 0), .int .i64 (dig page 1), .int .i64 (dig page 2), .int .i64 (dig page 3)] 47) = W := ⟨_, rfl⟩
  have hB : Below w.heap.size w W := by rw [← hW]; exact (((Below.refl _ w).alloc (Nat.le_refl _) _).trans (hb1.mono (by simp))).alloc (by omega) _
  have n0 : W.heap[w.heap.size]? = some (.cells (arr (fun _ => 0) 0) 47 (0, 0)) := by
    rw [← hW]
    exact (Below.heap_alloc _ _ _ (by omega)).trans ((hb1.block w.heap.size (by simp)).trans (heap_alloc_new _ _))
  have nd : W.heap[w1.heap.size]? = some (.cells #[.int .i64 (dig page 0), .int .i64 (dig page 1), .int .i64 (dig page 2), .int .i64 (dig page 3)] 47 (0, 0)) := by rw [← hW]; exact heap_alloc_new _ _
  have hsW : w1.heap.size < W.heap.size := by rw [← hW]; simp
  obtain ⟨D, hD⟩ : ∃ D, w1.heap.size = D := ⟨_, rfl⟩
  rw [hD] at nd hsW s1 ⊢
  try rw [hW]
  clear hW hb1 hD
  go_step3
  go_wp2
  go_loopw [5, 6, 16] (fun k f i wr => ∃ (j : Nat) (a : Nat → Nat), j ≤ 3 ∧ k = .int .i64 j ∧ i = .int .i64 j ∧ f = .int .i64 (a j) ∧ (∀ i, i ≤ j → N i (pre page i) = some (a i)) ∧ wr.heap[w.heap.size]? = some (.cells (arr a j) 47 (0, 0)) ∧ wr.heap[D]? = some (.cells #[.int .i64 (dig page 0), .int .i64 (dig page 1), .int .i64 (dig page 2), .int .i64 (dig page 3)] 47 (0, 0)) ∧ Below w.heap.size w wr ∧ D < wr.heap.size)
    (fun _ _ i _ => (4 - intOf i).toNat)
  case atStart =>
    refine ⟨0, fun i => if i = 0 then root else 0, by omega, rfl, rfl, rfl, ?_, n0, nd, hB, hsW⟩
    intro i hi
    obtain rfl : i = 0 := by omega
    rw [pre_zero hp]
    exact HR.out.tr.top
  case round =>
    clear n0 nd hB hsW
    obtain ⟨j, a, hj, rfl, rfl, rfl, ha, hA, hdd, hBr, hDl⟩ := hrel
    have hBl : w.heap.size < wr.heap.size := lt_of_block hA
    have hTr := Lib.hid (HR.out.tb.stay hBr)
    have hbB : w0.heap.size ≤ w.heap.size := HR.out.tb.at_.below.size
    have htB : w.heap.size ≠ t := by omega
    have hpB : w.heap.size ∉ [p, bb, hb] := by
      have := HR.out.tb.lts
      simp
      omega
    have d0 := (cell_of_row wr _ 0 _ _ _ hdd)
    have d1 := (cell_of_row wr _ 1 _ _ _ hdd)
    have d2 := (cell_of_row wr _ 2 _ _ _ hdd)
    have d3 := (cell_of_row wr _ 3 _ _ _ hdd)
    simp only [List.getElem?_toArray, List.getElem?_cons_zero, List.getElem?_cons_succ] at d0 d1 d2 d3
    have HA := Lib.hid ha
    clear ha c1
    obtain rfl | rfl | rfl | rfl : j = 0 ∨ j = 1 ∨ j = 2 ∨ j = 3 := by omega
    · have hA0 : wr.heap[w.heap.size]? = some (.cells #[.int .i64 0, .int .i64 0, .int .i64 0, .int .i64 0] 47 (0, 0)) := hA
      clear hA
      have hdj := dig_lt page 0
      have hd0 : ((dig page 0 : Nat) : Int) < 8 := by omega
      have z0 := (cell_of_row wr _ 0 _ _ _ hA0)
      have z1 := (cell_of_row wr _ 1 _ _ _ hA0)
      have z2 := (cell_of_row wr _ 2 _ _ _ hA0)
      have z3 := (cell_of_row wr _ 3 _ _ _ hA0)
      simp only [List.getElem?_toArray, List.getElem?_cons_zero, List.getElem?_cons_succ] at z0 z1 z2 z3
      have f0 := frozen_of_row wr w.heap.size 0 _ _ hA0
      have HT1 := Lib.hid (hTr.out.other (a := ⟨w.heap.size, 0, none⟩) hbB htB hpB (.int .i64 (a 0)))
      have hA1 : (wr.setCell ⟨w.heap.size, 0, none⟩ (.int .i64 (a 0))).heap[w.heap.size]? = some (.cells #[.int .i64 (a 0), .int .i64 0, .int .i64 0, .int .i64 0] 47 (0, 0)) := heap_setCell_same wr w.heap.size 0 _ _ _ hA0
      have hD1 : (wr.setCell ⟨w.heap.size, 0, none⟩ (.int .i64 (a 0))).heap[D]? = wr.heap[D]? := heap_setCell_other _ _ _ _ (by simp; omega)
      have hBs : Below w.heap.size w (wr.setCell ⟨w.heap.size, 0, none⟩ (.int .i64 (a 0))) := hBr.setCell (p := ⟨w.heap.size, 0, none⟩) (Nat.le_refl _) _
      have hN := HR.out.tr.inner 0 (pre page 0) (a 0) (by omega) (HA.out 0 (by omega)) (dig page 0) hdj
      rw [pre_dig (by omega)] at hN
      cases hg : N 1 (pre page 1) with
      | none =>
        rw [hg] at hN
        have hs : ent F (a 0) (dig page 0) = ⟨false, false, false, false, 0⟩ := hN
        clear hN
        go_wp2_with (
          go_at_call 87; refine (entry_is HT1.out HW.out (a 0) (dig page 0) hdj false false false false 0 hs).mono ?_; rintro e w2 ⟨rfl, ht2, hb2⟩;
          have s2 := hb2.size;
          simp only [World.size_setCell] at s2;
          have hA2 := (hb2.block w.heap.size (by simp; omega)).trans hA1;
          have hD2 := (hb2.block D (by simp; omega)).trans (hD1.trans hdd);
          have y0 := (cell_of_row w2 _ 0 _ _ _ hA2);
          have y1 := (cell_of_row w2 _ 1 _ _ _ hA2);
          have y2 := (cell_of_row w2 _ 2 _ _ _ hA2);
          have y3 := (cell_of_row w2 _ 3 _ _ _ hA2);
          simp only [List.getElem?_toArray, List.getElem?_cons_zero, List.getElem?_cons_succ] at y0 y1 y2 y3;
          have v0 := frozen_of_row w2 w.heap.size 0 _ _ hA2;
          have v1 := frozen_of_row w2 w.heap.size 1 _ _ hA2;
          have v2 := frozen_of_row w2 w.heap.size 2 _ _ hA2;
          have v3 := frozen_of_row w2 w.heap.size 3 _ _ hA2;
          have hBl2 : w.heap.size < w2.heap.size := by omega;
          have hB2 : Below w.heap.size w w2 := hBs.trans (hb2.mono (by simp; omega)))
        rw [Exit.noGoto_ret]
        refine bodyPost_ret (by simp [results, Tryd.results83, go_sem, y0, y1, y2, y3, hBl2]; try rfl) rfl ?_
        refine ⟨fun i => if i ≤ 0 then a i else 0, 1, rfl, ⟨by decide, by decide, fun i hi => by rw [if_pos (by omega)]; exact HA.out i (by omega), fun _ => hg, fun i hi => if_neg (by omega)⟩, ?_⟩
        have hB3 := ((((hB2.setCell (p := ⟨w.heap.size, 0, none⟩) (Nat.le_refl _) (.int .i64 (a 0))).setCell (p := ⟨w.heap.size, 1, none⟩) (Nat.le_refl _) (.int .i64 0)).setCell (p := ⟨w.heap.size, 2, none⟩) (Nat.le_refl _) (.int .i64 0)).setCell (p := ⟨w.heap.size, 3, none⟩) (Nat.le_refl _) (.int .i64 0))
        exact hB3.alloc hB3.size _
      | some g =>
        rw [hg] at hN
        have hs : ent F (a 0) (dig page 0) = ⟨true, false, false, false, g⟩ := hN
        clear hN
        go_wp2_with (
          go_at_call 87; refine (entry_is HT1.out HW.out (a 0) (dig page 0) hdj true false false false g hs).mono ?_; rintro e w2 ⟨rfl, ht2, hb2⟩;
          have s2 := hb2.size;
          simp only [World.size_setCell] at s2;
          have hA2 := (hb2.block w.heap.size (by simp; omega)).trans hA1;
          have hD2 := (hb2.block D (by simp; omega)).trans (hD1.trans hdd);
          have y0 := (cell_of_row w2 _ 0 _ _ _ hA2);
          have y1 := (cell_of_row w2 _ 1 _ _ _ hA2);
          have y2 := (cell_of_row w2 _ 2 _ _ _ hA2);
          have y3 := (cell_of_row w2 _ 3 _ _ _ hA2);
          simp only [List.getElem?_toArray, List.getElem?_cons_zero, List.getElem?_cons_succ] at y0 y1 y2 y3;
          have v0 := frozen_of_row w2 w.heap.size 0 _ _ hA2;
          have v1 := frozen_of_row w2 w.heap.size 1 _ _ hA2;
          have v2 := frozen_of_row w2 w.heap.size 2 _ _ hA2;
          have v3 := frozen_of_row w2 w.heap.size 3 _ _ hA2;
          have hBl2 : w.heap.size < w2.heap.size := by omega;
          have hB2 : Below w.heap.size w w2 := hBs.trans (hb2.mono (by simp; omega)))
        go_roundw
        case rel =>
          have e1 : ∀ i, i ≤ 1 → N i (pre page i) = some (upA a 1 g i) := by
            intro i hi
            by_cases e : i = 1
            · subst e
              rw [upA_at]
              exact hg
            · rw [upA_lt _ _ _ (by omega)]
              exact HA.out i (by omega)
          have e2 := (Below.heap_alloc w2 (.cells #[.bool true, .bool false, .bool false, .bool false, .int .i64 g] 68) w.heap.size hBl2).trans hA2
          have e3 := (Below.heap_alloc w2 (.cells #[.bool true, .bool false, .bool false, .bool false, .int .i64 g] 68) D (by omega)).trans hD2
          have e4 := hB2.alloc hB2.size (.cells #[.bool true, .bool false, .bool false, .bool false, .int .i64 g] 68)
          exact ⟨1, upA a 1 g, by omega, by go_num, by go_num, by rw [upA_at], e1, e2, e3, e4, by simp; omega⟩
        case measure => simp [intOf]
    · have hA0 : wr.heap[w.heap.size]? = some (.cells #[.int .i64 (a 0), .int .i64 0, .int .i64 0, .int .i64 0] 47 (0, 0)) := hA
      clear hA
      have hdj := dig_lt page 1
      have hd0 : ((dig page 1 : Nat) : Int) < 8 := by omega
      have z0 := (cell_of_row wr _ 0 _ _ _ hA0)
      have z1 := (cell_of_row wr _ 1 _ _ _ hA0)
      have z2 := (cell_of_row wr _ 2 _ _ _ hA0)
      have z3 := (cell_of_row wr _ 3 _ _ _ hA0)
      simp only [List.getElem?_toArray, List.getElem?_cons_zero, List.getElem?_cons_succ] at z0 z1 z2 z3
      have f0 := frozen_of_row wr w.heap.size 1 _ _ hA0
      have HT1 := Lib.hid (hTr.out.other (a := ⟨w.heap.size, 1, none⟩) hbB htB hpB (.int .i64 (a 1)))
      have hA1 : (wr.setCell ⟨w.heap.size, 1, none⟩ (.int .i64 (a 1))).heap[w.heap.size]? = some (.cells #[.int .i64 (a 0), .int .i64 (a 1), .int .i64 0, .int .i64 0] 47 (0, 0)) := heap_setCell_same wr w.heap.size 1 _ _ _ hA0
      have hD1 : (wr.setCell ⟨w.heap.size, 1, none⟩ (.int .i64 (a 1))).heap[D]? = wr.heap[D]? := heap_setCell_other _ _ _ _ (by simp; omega)
      have hBs : Below w.heap.size w (wr.setCell ⟨w.heap.size, 1, none⟩ (.int .i64 (a 1))) := hBr.setCell (p := ⟨w.heap.size, 1, none⟩) (Nat.le_refl _) _
      have hN := HR.out.tr.inner 1 (pre page 1) (a 1) (by omega) (HA.out 1 (by omega)) (dig page 1) hdj
      rw [pre_dig (by omega)] at hN
      cases hg : N 2 (pre page 2) with
      | none =>
        rw [hg] at hN
        have hs : ent F (a 1) (dig page 1) = ⟨false, false, false, false, 0⟩ := hN
        clear hN
        go_wp2_with (
          go_at_call 87; refine (entry_is HT1.out HW.out (a 1) (dig page 1) hdj false false false false 0 hs).mono ?_; rintro e w2 ⟨rfl, ht2, hb2⟩;
          have s2 := hb2.size;
          simp only [World.size_setCell] at s2;
          have hA2 := (hb2.block w.heap.size (by simp; omega)).trans hA1;
          have hD2 := (hb2.block D (by simp; omega)).trans (hD1.trans hdd);
          have y0 := (cell_of_row w2 _ 0 _ _ _ hA2);
          have y1 := (cell_of_row w2 _ 1 _ _ _ hA2);
          have y2 := (cell_of_row w2 _ 2 _ _ _ hA2);
          have y3 := (cell_of_row w2 _ 3 _ _ _ hA2);
          simp only [List.getElem?_toArray, List.getElem?_cons_zero, List.getElem?_cons_succ] at y0 y1 y2 y3;
          have v0 := frozen_of_row w2 w.heap.size 0 _ _ hA2;
          have v1 := frozen_of_row w2 w.heap.size 1 _ _ hA2;
          have v2 := frozen_of_row w2 w.heap.size 2 _ _ hA2;
          have v3 := frozen_of_row w2 w.heap.size 3 _ _ hA2;
          have hBl2 : w.heap.size < w2.heap.size := by omega;
          have hB2 : Below w.heap.size w w2 := hBs.trans (hb2.mono (by simp; omega)))
        rw [Exit.noGoto_ret]
        refine bodyPost_ret (by simp [results, Tryd.results83, go_sem, y0, y1, y2, y3, hBl2]; try rfl) rfl ?_
        refine ⟨fun i => if i ≤ 1 then a i else 0, 2, rfl, ⟨by decide, by decide, fun i hi => by rw [if_pos (by omega)]; exact HA.out i (by omega), fun _ => hg, fun i hi => if_neg (by omega)⟩, ?_⟩
        have hB3 := ((((hB2.setCell (p := ⟨w.heap.size, 0, none⟩) (Nat.le_refl _) (.int .i64 (a 0))).setCell (p := ⟨w.heap.size, 1, none⟩) (Nat.le_refl _) (.int .i64 (a 1))).setCell (p := ⟨w.heap.size, 2, none⟩) (Nat.le_refl _) (.int .i64 0)).setCell (p := ⟨w.heap.size, 3, none⟩) (Nat.le_refl _) (.int .i64 0))
        exact hB3.alloc hB3.size _
      | some g =>
        rw [hg] at hN
        have hs : ent F (a 1) (dig page 1) = ⟨true, false, false, false, g⟩ := hN
        clear hN
        go_wp2_with (
          go_at_call 87; refine (entry_is HT1.out HW.out (a 1) (dig page 1) hdj true false false false g hs).mono ?_; rintro e w2 ⟨rfl, ht2, hb2⟩;
          have s2 := hb2.size;
          simp only [World.size_setCell] at s2;
          have hA2 := (hb2.block w.heap.size (by simp; omega)).trans hA1;
          have hD2 := (hb2.block D (by simp; omega)).trans (hD1.trans hdd);
          have y0 := (cell_of_row w2 _ 0 _ _ _ hA2);
          have y1 := (cell_of_row w2 _ 1 _ _ _ hA2);
          have y2 := (cell_of_row w2 _ 2 _ _ _ hA2);
          have y3 := (cell_of_row w2 _ 3 _ _ _ hA2);
          simp only [List.getElem?_toArray, List.getElem?_cons_zero, List.getElem?_cons_succ] at y0 y1 y2 y3;
          have v0 := frozen_of_row w2 w.heap.size 0 _ _ hA2;
          have v1 := frozen_of_row w2 w.heap.size 1 _ _ hA2;
          have v2 := frozen_of_row w2 w.heap.size 2 _ _ hA2;
          have v3 := frozen_of_row w2 w.heap.size 3 _ _ hA2;
          have hBl2 : w.heap.size < w2.heap.size := by omega;
          have hB2 : Below w.heap.size w w2 := hBs.trans (hb2.mono (by simp; omega)))
        go_roundw
        case rel =>
          have e1 : ∀ i, i ≤ 2 → N i (pre page i) = some (upA a 2 g i) := by
            intro i hi
            by_cases e : i = 2
            · subst e
              rw [upA_at]
              exact hg
            · rw [upA_lt _ _ _ (by omega)]
              exact HA.out i (by omega)
          have e2 := (Below.heap_alloc w2 (.cells #[.bool true, .bool false, .bool false, .bool false, .int .i64 g] 68) w.heap.size hBl2).trans hA2
          have e3 := (Below.heap_alloc w2 (.cells #[.bool true, .bool false, .bool false, .bool false, .int .i64 g] 68) D (by omega)).trans hD2
          have e4 := hB2.alloc hB2.size (.cells #[.bool true, .bool false, .bool false, .bool false, .int .i64 g] 68)
          exact ⟨2, upA a 2 g, by omega, by go_num, by go_num, by rw [upA_at], e1, e2, e3, e4, by simp; omega⟩
        case measure => simp [intOf]
    · have hA0 : wr.heap[w.heap.size]? = some (.cells #[.int .i64 (a 0), .int .i64 (a 1), .int .i64 0, .int .i64 0] 47 (0, 0)) := hA
      clear hA
      have hdj := dig_lt page 2
      have hd0 : ((dig page 2 : Nat) : Int) < 8 := by omega
      have z0 := (cell_of_row wr _ 0 _ _ _ hA0)
      have z1 := (cell_of_row wr _ 1 _ _ _ hA0)
      have z2 := (cell_of_row wr _ 2 _ _ _ hA0)
      have z3 := (cell_of_row wr _ 3 _ _ _ hA0)
      simp only [List.getElem?_toArray, List.getElem?_cons_zero, List.getElem?_cons_succ] at z0 z1 z2 z3
      have f0 := frozen_of_row wr w.heap.size 2 _ _ hA0
      have HT1 := Lib.hid (hTr.out.other (a := ⟨w.heap.size, 2, none⟩) hbB htB hpB (.int .i64 (a 2)))
      have hA1 : (wr.setCell ⟨w.heap.size, 2, none⟩ (.int .i64 (a 2))).heap[w.heap.size]? = some (.cells #[.int .i64 (a 0), .int .i64 (a 1), .int .i64 (a 2), .int .i64 0] 47 (0, 0)) := heap_setCell_same wr w.heap.size 2 _ _ _ hA0
      have hD1 : (wr.setCell ⟨w.heap.size, 2, none⟩ (.int .i64 (a 2))).heap[D]? = wr.heap[D]? := heap_setCell_other _ _ _ _ (by simp; omega)
      have hBs : Below w.heap.size w (wr.setCell ⟨w.heap.size, 2, none⟩ (.int .i64 (a 2))) := hBr.setCell (p := ⟨w.heap.size, 2, none⟩) (Nat.le_refl _) _
      have hN := HR.out.tr.inner 2 (pre page 2) (a 2) (by omega) (HA.out 2 (by omega)) (dig page 2) hdj
      rw [pre_dig (by omega)] at hN
      cases hg : N 3 (pre page 3) with
      | none =>
        rw [hg] at hN
        have hs : ent F (a 2) (dig page 2) = ⟨false, false, false, false, 0⟩ := hN
        clear hN
        go_wp2_with (
          go_at_call 87; refine (entry_is HT1.out HW.out (a 2) (dig page 2) hdj false false false false 0 hs).mono ?_; rintro e w2 ⟨rfl, ht2, hb2⟩;
          have s2 := hb2.size;
          simp only [World.size_setCell] at s2;
          have hA2 := (hb2.block w.heap.size (by simp; omega)).trans hA1;
          have hD2 := (hb2.block D (by simp; omega)).trans (hD1.trans hdd);
          have y0 := (cell_of_row w2 _ 0 _ _ _ hA2);
          have y1 := (cell_of_row w2 _ 1 _ _ _ hA2);
          have y2 := (cell_of_row w2 _ 2 _ _ _ hA2);
          have y3 := (cell_of_row w2 _ 3 _ _ _ hA2);
          simp only [List.getElem?_toArray, List.getElem?_cons_zero, List.getElem?_cons_succ] at y0 y1 y2 y3;
          have v0 := frozen_of_row w2 w.heap.size 0 _ _ hA2;
          have v1 := frozen_of_row w2 w.heap.size 1 _ _ hA2;
          have v2 := frozen_of_row w2 w.heap.size 2 _ _ hA2;
          have v3 := frozen_of_row w2 w.heap.size 3 _ _ hA2;
          have hBl2 : w.heap.size < w2.heap.size := by omega;
          have hB2 : Below w.heap.size w w2 := hBs.trans (hb2.mono (by simp; omega)))
        rw [Exit.noGoto_ret]
        refine bodyPost_ret (by simp [results, Tryd.results83, go_sem, y0, y1, y2, y3, hBl2]; try rfl) rfl ?_
        refine ⟨fun i => if i ≤ 2 then a i else 0, 3, rfl, ⟨by decide, by decide, fun i hi => by rw [if_pos (by omega)]; exact HA.out i (by omega), fun _ => hg, fun i hi => if_neg (by omega)⟩, ?_⟩
        have hB3 := ((((hB2.setCell (p := ⟨w.heap.size, 0, none⟩) (Nat.le_refl _) (.int .i64 (a 0))).setCell (p := ⟨w.heap.size, 1, none⟩) (Nat.le_refl _) (.int .i64 (a 1))).setCell (p := ⟨w.heap.size, 2, none⟩) (Nat.le_refl _) (.int .i64 (a 2))).setCell (p := ⟨w.heap.size, 3, none⟩) (Nat.le_refl _) (.int .i64 0))
        exact hB3.alloc hB3.size _
      | some g =>
        rw [hg] at hN
        have hs : ent F (a 2) (dig page 2) = ⟨true, false, false, false, g⟩ := hN
        clear hN
        go_wp2_with (
          go_at_call 87; refine (entry_is HT1.out HW.out (a 2) (dig page 2) hdj true false false false g hs).mono ?_; rintro e w2 ⟨rfl, ht2, hb2⟩;
          have s2 := hb2.size;
          simp only [World.size_setCell] at s2;
          have hA2 := (hb2.block w.heap.size (by simp; omega)).trans hA1;
          have hD2 := (hb2.block D (by simp; omega)).trans (hD1.trans hdd);
          have y0 := (cell_of_row w2 _ 0 _ _ _ hA2);
          have y1 := (cell_of_row w2 _ 1 _ _ _ hA2);
          have y2 := (cell_of_row w2 _ 2 _ _ _ hA2);
          have y3 := (cell_of_row w2 _ 3 _ _ _ hA2);
          simp only [List.getElem?_toArray, List.getElem?_cons_zero, List.getElem?_cons_succ] at y0 y1 y2 y3;
          have v0 := frozen_of_row w2 w.heap.size 0 _ _ hA2;
          have v1 := frozen_of_row w2 w.heap.size 1 _ _ hA2;
          have v2 := frozen_of_row w2 w.heap.size 2 _ _ hA2;
          have v3 := frozen_of_row w2 w.heap.size 3 _ _ hA2;
          have hBl2 : w.heap.size < w2.heap.size := by omega;
          have hB2 : Below w.heap.size w w2 := hBs.trans (hb2.mono (by simp; omega)))
        go_roundw
        case rel =>
          have e1 : ∀ i, i ≤ 3 → N i (pre page i) = some (upA a 3 g i) := by
            intro i hi
            by_cases e : i = 3
            · subst e
              rw [upA_at]
              exact hg
            · rw [upA_lt _ _ _ (by omega)]
              exact HA.out i (by omega)
          have e2 := (Below.heap_alloc w2 (.cells #[.bool true, .bool false, .bool false, .bool false, .int .i64 g] 68) w.heap.size hBl2).trans hA2
          have e3 := (Below.heap_alloc w2 (.cells #[.bool true, .bool false, .bool false, .bool false, .int .i64 g] 68) D (by omega)).trans hD2
          have e4 := hB2.alloc hB2.size (.cells #[.bool true, .bool false, .bool false, .bool false, .int .i64 g] 68)
          exact ⟨3, upA a 3 g, by omega, by go_num, by go_num, by rw [upA_at], e1, e2, e3, e4, by simp; omega⟩
        case measure => simp [intOf]
    · have hA0 : wr.heap[w.heap.size]? = some (.cells #[.int .i64 (a 0), .int .i64 (a 1), .int .i64 (a 2), .int .i64 0] 47 (0, 0)) := hA
      clear hA
      have hdj := dig_lt page 3
      have hd0 : ((dig page 3 : Nat) : Int) < 8 := by omega
      have z0 := (cell_of_row wr _ 0 _ _ _ hA0)
      have z1 := (cell_of_row wr _ 1 _ _ _ hA0)
      have z2 := (cell_of_row wr _ 2 _ _ _ hA0)
      have z3 := (cell_of_row wr _ 3 _ _ _ hA0)
      simp only [List.getElem?_toArray, List.getElem?_cons_zero, List.getElem?_cons_succ] at z0 z1 z2 z3
      have f0 := frozen_of_row wr w.heap.size 3 _ _ hA0
      have HT1 := Lib.hid (hTr.out.other (a := ⟨w.heap.size, 3, none⟩) hbB htB hpB (.int .i64 (a 3)))
      have hA1 : (wr.setCell ⟨w.heap.size, 3, none⟩ (.int .i64 (a 3))).heap[w.heap.size]? = some (.cells #[.int .i64 (a 0), .int .i64 (a 1), .int .i64 (a 2), .int .i64 (a 3)] 47 (0, 0)) := heap_setCell_same wr w.heap.size 3 _ _ _ hA0
      have hD1 : (wr.setCell ⟨w.heap.size, 3, none⟩ (.int .i64 (a 3))).heap[D]? = wr.heap[D]? := heap_setCell_other _ _ _ _ (by simp; omega)
      have hBs : Below w.heap.size w (wr.setCell ⟨w.heap.size, 3, none⟩ (.int .i64 (a 3))) := hBr.setCell (p := ⟨w.heap.size, 3, none⟩) (Nat.le_refl _) _
      obtain ⟨sl, hs⟩ : ∃ s : Sl, ent F (a 3) (dig page 3) = s := ⟨_, rfl⟩
      obtain ⟨q1, q2, q3, q4, q5⟩ := sl
      cases q1 with
      | false =>
        go_wp2_with (
          go_at_call 87; refine (entry_is HT1.out HW.out (a 3) (dig page 3) hdj false q2 q3 q4 q5 hs).mono ?_; rintro e w2 ⟨rfl, ht2, hb2⟩;
          have s2 := hb2.size;
          simp only [World.size_setCell] at s2;
          have hA2 := (hb2.block w.heap.size (by simp; omega)).trans hA1;
          have hD2 := (hb2.block D (by simp; omega)).trans (hD1.trans hdd);
          have y0 := (cell_of_row w2 _ 0 _ _ _ hA2);
          have y1 := (cell_of_row w2 _ 1 _ _ _ hA2);
          have y2 := (cell_of_row w2 _ 2 _ _ _ hA2);
          have y3 := (cell_of_row w2 _ 3 _ _ _ hA2);
          simp only [List.getElem?_toArray, List.getElem?_cons_zero, List.getElem?_cons_succ] at y0 y1 y2 y3;
          have v0 := frozen_of_row w2 w.heap.size 0 _ _ hA2;
          have v1 := frozen_of_row w2 w.heap.size 1 _ _ hA2;
          have v2 := frozen_of_row w2 w.heap.size 2 _ _ hA2;
          have v3 := frozen_of_row w2 w.heap.size 3 _ _ hA2;
          have hBl2 : w.heap.size < w2.heap.size := by omega;
          have hB2 : Below w.heap.size w w2 := hBs.trans (hb2.mono (by simp; omega)))
        rw [Exit.noGoto_ret]
        refine bodyPost_ret (by simp [results, Tryd.results83, go_sem, y0, y1, y2, y3, hBl2]; try rfl) rfl ?_
        refine ⟨fun i => if i ≤ 3 then a i else 0, 4, rfl, ⟨by decide, by decide, fun i hi => by rw [if_pos (by omega)]; exact HA.out i (by omega), fun h => absurd h (by decide), fun i hi => if_neg (by omega)⟩, ?_⟩
        have hB3 := ((((hB2.setCell (p := ⟨w.heap.size, 0, none⟩) (Nat.le_refl _) (.int .i64 (a 0))).setCell (p := ⟨w.heap.size, 1, none⟩) (Nat.le_refl _) (.int .i64 (a 1))).setCell (p := ⟨w.heap.size, 2, none⟩) (Nat.le_refl _) (.int .i64 (a 2))).setCell (p := ⟨w.heap.size, 3, none⟩) (Nat.le_refl _) (.int .i64 (a 3)))
        exact hB3.alloc hB3.size _
      | true =>
        go_wp2_with (
          go_at_call 87; refine (entry_is HT1.out HW.out (a 3) (dig page 3) hdj true q2 q3 q4 q5 hs).mono ?_; rintro e w2 ⟨rfl, ht2, hb2⟩;
          have s2 := hb2.size;
          simp only [World.size_setCell] at s2;
          have hA2 := (hb2.block w.heap.size (by simp; omega)).trans hA1;
          have hD2 := (hb2.block D (by simp; omega)).trans (hD1.trans hdd);
          have y0 := (cell_of_row w2 _ 0 _ _ _ hA2);
          have y1 := (cell_of_row w2 _ 1 _ _ _ hA2);
          have y2 := (cell_of_row w2 _ 2 _ _ _ hA2);
          have y3 := (cell_of_row w2 _ 3 _ _ _ hA2);
          simp only [List.getElem?_toArray, List.getElem?_cons_zero, List.getElem?_cons_succ] at y0 y1 y2 y3;
          have v0 := frozen_of_row w2 w.heap.size 0 _ _ hA2;
          have v1 := frozen_of_row w2 w.heap.size 1 _ _ hA2;
          have v2 := frozen_of_row w2 w.heap.size 2 _ _ hA2;
          have v3 := frozen_of_row w2 w.heap.size 3 _ _ hA2;
          have hBl2 : w.heap.size < w2.heap.size := by omega;
          have hB2 : Below w.heap.size w w2 := hBs.trans (hb2.mono (by simp; omega)))
        rw [Exit.noGoto_ret]
        refine bodyPost_ret (by simp [results, Tryd.results83, go_sem, y0, y1, y2, y3, hBl2]; try rfl) rfl ?_
        refine ⟨fun i => if i ≤ 3 then a i else 0, 4, rfl, ⟨by decide, by decide, fun i hi => by rw [if_pos (by omega)]; exact HA.out i (by omega), fun h => absurd h (by decide), fun i hi => if_neg (by omega)⟩, ?_⟩
        have hB3 := ((((hB2.setCell (p := ⟨w.heap.size, 0, none⟩) (Nat.le_refl _) (.int .i64 (a 0))).setCell (p := ⟨w.heap.size, 1, none⟩) (Nat.le_refl _) (.int .i64 (a 1))).setCell (p := ⟨w.heap.size, 2, none⟩) (Nat.le_refl _) (.int .i64 (a 2))).setCell (p := ⟨w.heap.size, 3, none⟩) (Nat.le_refl _) (.int .i64 (a 3)))
        exact hB3.alloc hB3.size _
end Go.Proofs.YtacpfkimjaihgaaDoor
