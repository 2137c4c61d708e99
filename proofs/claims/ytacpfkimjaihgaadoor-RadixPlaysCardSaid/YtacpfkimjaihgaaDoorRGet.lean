/- radix: Get. No conditions. -/
import Derived.Test.YtacpfkimjaihgaaDoorREq
namespace Go.Proofs.YtacpfkimjaihgaaDoor
open Go.RowKit
set_option linter.unusedVariables false
section
variable {w0 w : World} {t p bb hb n root : Nat} {F : FP} {N : Nat → Nat → Option Nat} {C : Nat → Option Sl} {k : Int}
theorem Way.none_at {page : Nat} {a : Nat → Nat} {m : Nat} (h : Way N page a m) (hT : Tr (ent F) (Hd F) N C root) (hm : m < 4) : C page = none := by
  cases hc : C page with
  | none => rfl
  | some s =>
    exfalso
    obtain ⟨f3, h3⟩ := hT.leaf_ne hc
    rw [← pre_three] at h3
    have hup : ∀ l f, l < 3 → N (l + 1) (pre page (l + 1)) = some f → ∃ g, N l (pre page l) = some g := by
      intro l f hl hf
      obtain ⟨g, hg⟩ := hT.up_ne hl hf
      rw [(pre_succ (by omega)).1] at hg
      exact ⟨g, hg⟩
    obtain ⟨f2, h2⟩ := hup 2 _ (by omega) h3
    obtain ⟨f1, h1⟩ := hup 1 _ (by omega) h2
    have he := h.end_ hm
    have := h.one
    obtain rfl | rfl | rfl : m = 1 ∨ m = 2 ∨ m = 3 := by omega
    · rw [h1] at he; cases he
    · rw [h2] at he; cases he
    · rw [h3] at he; cases he
theorem leaf_at (hT : Tr (ent F) (Hd F) N C root) {page f : Nat} (hf : N 3 (pre page 3) = some f) : ent F f (page % 8) = (C page).getD .zero := by
  rw [pre_three] at hf
  have := hT.leaf _ _ hf (page % 8) (Nat.mod_lt _ (by decide))
  rw [show 8 * (page / 8) + page % 8 = page from by omega] at this
  exact this

/-- What Get tells. -/
def getV (C : Nat → Option Sl) (page : Nat) : Sl × Int := match C page with
  | some s => (s, 0)
  | none => (.zero, 12)

set_option maxHeartbeats 4000000 in
theorem Rst.get_none (h : Rst w0 w t p bb hb n F root N C) (hw : Wd w0) (page : Nat) (hp : page < 4096) (hC : C page = none) :
    Calls Tryd.prog 55 #[.pointer (some ⟨t, 0, none⟩), .int .i64 page] w fun e w' => e = .returned (.tuple #[.agg #[.bool false, .bool false, .bool false, .bool false, .int .i64 0], .int .i64 12]) ∧ Below w.heap.size w w' := by
  have HR := Lib.hid h
  have HW := Lib.hid hw
  have hlt := h.tb.lt
  have h1 : Rst w0 (w.alloc (.cells #[.bool false, .bool false, .bool false, .bool false, .int .i64 0] 68)) t p bb hb n F root N C := ⟨h.tb.alloc _, h.fit, h.tr, h.fr, h.n4⟩
  have H1 := Lib.hid h1
  have tm : ((page : Int)).tmod 8 = ((page % 8 : Nat) : Int) := by rw [Int.tmod_eq_emod_of_nonneg (by omega)]; omega
  obtain ⟨d, hd⟩ : ∃ d, page % 8 = d := ⟨_, rfl⟩
  have hd8 : d < 8 := by omega
  rw [hd] at tm
  have n0 := heap_alloc_new w (.cells #[.bool false, .bool false, .bool false, .bool false, .int .i64 0] 68)
  clear h hw h1
  go_enter Tryd.func55, Tryd.ntmps55
  go_wp2_with (first
    | (go_at_call 82; refine (asked_ok_t H1.out.tb page (by omega) (by omega)).mono ?_; rintro e w1 ⟨rfl, rfl⟩))
  refine (way_any H1.out HW.out page hp).mono ?_
  rintro e w2 ⟨a, m, rfl, HWy, hb2⟩
  have s2 := hb2.size
  simp only [World.size_alloc] at s2
  have n2 := (hb2.block w.heap.size (by simp)).trans n0
  have hB2 : Below w.heap.size w w2 := ((Below.refl _ w).alloc (Nat.le_refl _) _).trans (hb2.mono (by simp))
  have hm1 := HWy.one
  have hm4 := HWy.four
  have HY := Lib.hid HWy
  have hl2 : w.heap.size < w2.heap.size := by omega
  clear HWy
  by_cases hm : m < 4
  · have hm' : (m : Int) < 4 := by omega
    have z0 := (cell_of_row w2 _ 0 _ _ _ n2)
    have z1 := (cell_of_row w2 _ 1 _ _ _ n2)
    have z2 := (cell_of_row w2 _ 2 _ _ _ n2)
    have z3 := (cell_of_row w2 _ 3 _ _ _ n2)
    have z4 := (cell_of_row w2 _ 4 _ _ _ n2)
    simp only [List.getElem?_toArray, List.getElem?_cons_zero, List.getElem?_cons_succ] at z0 z1 z2 z3 z4
    have f0 := frozen_of_row w2 _ 0 _ _ n2
    have f1 := frozen_of_row w2 _ 1 _ _ n2
    have f2 := frozen_of_row w2 _ 2 _ _ n2
    have f3 := frozen_of_row w2 _ 3 _ _ n2
    have f4 := frozen_of_row w2 _ 4 _ _ n2
    go_wp2_with fail
    refine bodyPost_ret (by simp [results, Tryd.results55, go_sem, z0, z1, z2, z3, z4, hl2]; try rfl) rfl ?_
    have hB3 := (((((hB2.setCell (p := ⟨w.heap.size, 0, none⟩) (Nat.le_refl _) (.bool false)).setCell (p := ⟨w.heap.size, 1, none⟩) (Nat.le_refl _) (.bool false)).setCell (p := ⟨w.heap.size, 2, none⟩) (Nat.le_refl _) (.bool false)).setCell (p := ⟨w.heap.size, 3, none⟩) (Nat.le_refl _) (.bool false)).setCell (p := ⟨w.heap.size, 4, none⟩) (Nat.le_refl _) (.int .i64 0))
    exact ⟨rfl, hB3.alloc hB3.size _⟩
  · obtain rfl : m = 4 := by omega
    have he := leaf_at HR.out.tr (HY.out.at_ 3 (by omega))
    rw [hC, hd] at he
    have hs : ent F (a 3) d = ⟨false, false, false, false, 0⟩ := he
    clear he
    have H2 := Lib.hid ((H1.out.tb.stay hb2).alloc (.cells #[.int .i64 (a 0), .int .i64 (a 1), .int .i64 (a 2), .int .i64 (a 3)] 47))
    have heq : ∀ W, (binOp .eql 68 (.agg #[.bool false, .bool false, .bool false, .bool false, .int .i64 0]) (.agg #[.bool false, .bool false, .bool false, .bool false, .int .i64 0])).run Tryd.prog W = .ok (.bool true) W := fun W => eqSl .zero .zero W
    go_wp2_with (
      go_at_call 87; refine (entry_is H2.out HW.out (a 3) d hd8 false false false false 0 hs).mono ?_; rintro e w3 ⟨rfl, ht3, hb3⟩;
      have s3 := hb3.size;
      simp only [World.size_alloc] at s3;
      have n3 := (hb3.block w.heap.size (by simp; omega)).trans ((Below.heap_alloc _ _ _ hl2).trans n2);
      have z0 := (cell_of_row w3 _ 0 _ _ _ n3);
      have z1 := (cell_of_row w3 _ 1 _ _ _ n3);
      have z2 := (cell_of_row w3 _ 2 _ _ _ n3);
      have z3 := (cell_of_row w3 _ 3 _ _ _ n3);
      have z4 := (cell_of_row w3 _ 4 _ _ _ n3);
      simp only [List.getElem?_toArray, List.getElem?_cons_zero, List.getElem?_cons_succ] at z0 z1 z2 z3 z4;
      have f0 := frozen_of_row w3 _ 0 _ _ n3;
      have f1 := frozen_of_row w3 _ 1 _ _ n3;
      have f2 := frozen_of_row w3 _ 2 _ _ n3;
      have f3 := frozen_of_row w3 _ 3 _ _ n3;
      have f4 := frozen_of_row w3 _ 4 _ _ n3;
      have hl3 : w.heap.size < w3.heap.size := by omega;
      have hB3 : Below w.heap.size w w3 := (hB2.alloc hB2.size _).trans (hb3.mono (by simp; omega)))
    refine bodyPost_ret (by simp [results, Tryd.results55, go_sem, z0, z1, z2, z3, z4, hl3]; try rfl) rfl ?_
    have hB4 := (((((hB3.setCell (p := ⟨w.heap.size, 0, none⟩) (Nat.le_refl _) (.bool false)).setCell (p := ⟨w.heap.size, 1, none⟩) (Nat.le_refl _) (.bool false)).setCell (p := ⟨w.heap.size, 2, none⟩) (Nat.le_refl _) (.bool false)).setCell (p := ⟨w.heap.size, 3, none⟩) (Nat.le_refl _) (.bool false)).setCell (p := ⟨w.heap.size, 4, none⟩) (Nat.le_refl _) (.int .i64 0))
    exact ⟨rfl, hB4.alloc hB4.size _⟩

set_option maxHeartbeats 4000000 in
theorem Rst.get_some (h : Rst w0 w t p bb hb n F root N C) (hw : Wd w0) (page : Nat) (hp : page < 4096) (q1 q2 q3 q4 : Bool) (q5 : Int) (hC : C page = some ⟨q1, q2, q3, q4, q5⟩) :
    Calls Tryd.prog 55 #[.pointer (some ⟨t, 0, none⟩), .int .i64 page] w fun e w' => e = .returned (.tuple #[.agg #[.bool q1, .bool q2, .bool q3, .bool q4, .int .i64 q5], .int .i64 0]) ∧ Below w.heap.size w w' := by
  have HR := Lib.hid h
  have HW := Lib.hid hw
  have hlt := h.tb.lt
  have h1 : Rst w0 (w.alloc (.cells #[.bool false, .bool false, .bool false, .bool false, .int .i64 0] 68)) t p bb hb n F root N C := ⟨h.tb.alloc _, h.fit, h.tr, h.fr, h.n4⟩
  have H1 := Lib.hid h1
  have tm : ((page : Int)).tmod 8 = ((page % 8 : Nat) : Int) := by rw [Int.tmod_eq_emod_of_nonneg (by omega)]; omega
  obtain ⟨d, hd⟩ : ∃ d, page % 8 = d := ⟨_, rfl⟩
  have hd8 : d < 8 := by omega
  rw [hd] at tm
  have n0 := heap_alloc_new w (.cells #[.bool false, .bool false, .bool false, .bool false, .int .i64 0] 68)
  clear h hw h1
  go_enter Tryd.func55, Tryd.ntmps55
  go_wp2_with (first
    | (go_at_call 82; refine (asked_ok_t H1.out.tb page (by omega) (by omega)).mono ?_; rintro e w1 ⟨rfl, rfl⟩))
  refine (way_any H1.out HW.out page hp).mono ?_
  rintro e w2 ⟨a, m, rfl, HWy, hb2⟩
  have s2 := hb2.size
  simp only [World.size_alloc] at s2
  have n2 := (hb2.block w.heap.size (by simp)).trans n0
  have hB2 : Below w.heap.size w w2 := ((Below.refl _ w).alloc (Nat.le_refl _) _).trans (hb2.mono (by simp))
  have hm1 := HWy.one
  have hm4 := HWy.four
  have HY := Lib.hid HWy
  have hl2 : w.heap.size < w2.heap.size := by omega
  clear HWy
  have hm : ¬ m < 4 := fun hm => by
    have := HY.out.none_at HR.out.tr hm
    rw [hC] at this; cases this
  obtain rfl : m = 4 := by omega
  have he := leaf_at HR.out.tr (HY.out.at_ 3 (by omega))
  rw [hC, hd] at he
  have hs : ent F (a 3) d = ⟨q1, q2, q3, q4, q5⟩ := he
  clear he
  have hne : slEq ⟨q1, q2, q3, q4, q5⟩ .zero = false := by
    rw [slEq_iff]
    simp only [decide_eq_false_iff_not]
    exact may_ne (HR.out.tr.ok _ _ hC)
  have H2 := Lib.hid ((H1.out.tb.stay hb2).alloc (.cells #[.int .i64 (a 0), .int .i64 (a 1), .int .i64 (a 2), .int .i64 (a 3)] 47))
  have heq : ∀ W, (binOp .eql 68 (.agg #[.bool q1, .bool q2, .bool q3, .bool q4, .int .i64 q5]) (.agg #[.bool false, .bool false, .bool false, .bool false, .int .i64 0])).run Tryd.prog W = .ok (.bool false) W := fun W => by
    have := eqSl ⟨q1, q2, q3, q4, q5⟩ .zero W
    rw [hne] at this
    exact this
  clear hne
  go_wp2_with (
    go_at_call 87; refine (entry_is H2.out HW.out (a 3) d hd8 q1 q2 q3 q4 q5 hs).mono ?_; rintro e w3 ⟨rfl, ht3, hb3⟩;
    have s3 := hb3.size;
    simp only [World.size_alloc] at s3;
    have n3 := (hb3.block w.heap.size (by simp; omega)).trans ((Below.heap_alloc _ _ _ hl2).trans n2);
    have z0 := (cell_of_row w3 _ 0 _ _ _ n3);
    have z1 := (cell_of_row w3 _ 1 _ _ _ n3);
    have z2 := (cell_of_row w3 _ 2 _ _ _ n3);
    have z3 := (cell_of_row w3 _ 3 _ _ _ n3);
    have z4 := (cell_of_row w3 _ 4 _ _ _ n3);
    simp only [List.getElem?_toArray, List.getElem?_cons_zero, List.getElem?_cons_succ] at z0 z1 z2 z3 z4;
    have f0 := frozen_of_row w3 _ 0 _ _ n3;
    have f1 := frozen_of_row w3 _ 1 _ _ n3;
    have f2 := frozen_of_row w3 _ 2 _ _ n3;
    have f3 := frozen_of_row w3 _ 3 _ _ n3;
    have f4 := frozen_of_row w3 _ 4 _ _ n3;
    have hl3 : w.heap.size < w3.heap.size := by omega;
    have hB3 : Below w.heap.size w w3 := (hB2.alloc hB2.size _).trans (hb3.mono (by simp; omega)))
  refine bodyPost_ret (by simp [results, Tryd.results55, go_sem, z0, z1, z2, z3, z4, hl3]; try rfl) rfl ?_
  have hB4 := (((((hB3.setCell (p := ⟨w.heap.size, 0, none⟩) (Nat.le_refl _) (.bool q1)).setCell (p := ⟨w.heap.size, 1, none⟩) (Nat.le_refl _) (.bool q2)).setCell (p := ⟨w.heap.size, 2, none⟩) (Nat.le_refl _) (.bool q3)).setCell (p := ⟨w.heap.size, 3, none⟩) (Nat.le_refl _) (.bool q4)).setCell (p := ⟨w.heap.size, 4, none⟩) (Nat.le_refl _) (.int .i64 q5))
  exact ⟨rfl, hB4.alloc hB4.size _⟩
theorem Rst.get (h : Rst w0 w t p bb hb n F root N C) (hw : Wd w0) (page : Nat) (hp : page < 4096) :
    Calls Tryd.prog 55 #[.pointer (some ⟨t, 0, none⟩), .int .i64 page] w fun e w' => e = .returned (.tuple #[(getV C page).1.enc, .int .i64 (getV C page).2]) ∧ Below w.heap.size w w' := by
  cases hC : C page with
  | none =>
    have hg : getV C page = (.zero, 12) := by simp [getV, hC]
    rw [hg]
    exact h.get_none hw page hp hC
  | some s =>
    have hg : getV C page = (s, 0) := by simp [getV, hC]
    rw [hg]
    obtain ⟨q1, q2, q3, q4, q5⟩ := s
    exact h.get_some hw page hp q1 q2 q3 q4 q5 hC
end
end Go.Proofs.YtacpfkimjaihgaaDoor
