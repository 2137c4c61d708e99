/- radix: Drop. No conditions. -/
import Derived.Test.YtacpfkimjaihgaaDoorRSet
import Derived.Test.YtacpfkimjaihgaaDoorRGet
namespace Go.Proofs.YtacpfkimjaihgaaDoor
open Go.RowKit
set_option linter.unusedVariables false
section
variable {w0 w : World} {t p bb hb n root : Nat} {F : FP} {N : Nat → Nat → Option Nat} {C : Nat → Option Sl} {k : Int}

/-- No node but the root is there for nothing. -/
def Tight (N : Nat → Nat → Option Nat) (C : Nat → Option Sl) : Prop := ∀ l q, 1 ≤ l → (N l q).isSome = true → ∃ x, pre x l = q ∧ C x ≠ none

theorem pre_up {x y l : Nat} (hl : l < 4) (h : pre x (l + 1) = pre y (l + 1)) : pre x l = pre y l := by
  have a := (pre_succ (page := x) hl).1
  have b := (pre_succ (page := y) hl).1
  rw [← a, ← b, h]
theorem pre_down {x y i : Nat} (hi : i ≤ 4) (h : pre x i = pre y i) : ∀ k l, l + k = i → pre x l = pre y l := by
  intro k
  induction k with
  | zero => intro l hl; rw [show l = i by omega]; exact h
  | succ k ih => intro l hl; exact pre_up (by omega) (ih (l + 1) (by omega))

/-- Behind Drop's loop. -/
theorem tight_drop {E : Nat → Nat → Sl} {H : Nat → Prop} {N' : Nat → Nat → Option Nat} {page i f : Nat} (tr : Tr E H N' (updC C page none) root) (hN : Tight N C) (hi : i ≤ 3) (h1 : N' i (pre page i) = some f)
    (hgone : ∀ l, i < l → l ≤ 3 → N' l (pre page l) = none) (hother : ∀ l q, q ≠ pre page l → N' l q = N l q) (hex : i = 0 ∨ ∃ e, e < 8 ∧ E f e ≠ .zero) : Tight N' (updC C page none) := by
  have hoff : ∀ l q, 1 ≤ l → q ≠ pre page l → (N' l q).isSome = true → ∃ x, pre x l = q ∧ updC C page none x ≠ none := by
    intro l q hl hq hs
    rw [hother l q hq] at hs
    obtain ⟨x, hx, hc⟩ := hN l q hl hs
    refine ⟨x, hx, ?_⟩
    have : x ≠ page := fun e => hq (by rw [← hx, e])
    simpa [updC, this] using hc
  intro l q hl hs
  by_cases hq : q = pre page l
  · subst hq
    have hl3 : l ≤ 3 := by
      obtain ⟨g, hg⟩ := Option.isSome_iff_exists.1 hs
      have := (tr.small _ _ _ hg).1
      omega
    have hli : l ≤ i := by
      rcases Nat.lt_or_ge i l with h | h
      · rw [hgone l h hl3] at hs; simp at hs
      · exact h
    rcases hex with h0 | ⟨e, he, hne⟩
    · omega
    · by_cases h3 : i = 3
      · subst h3
        have := tr.leaf _ _ h1 e he
        have hc : updC C page none (8 * pre page 3 + e) ≠ none := by
          intro hc
          rw [hc] at this
          exact hne this
        refine ⟨8 * pre page 3 + e, ?_, hc⟩
        refine pre_down (i := 3) (by omega) ?_ (3 - l) l (by omega)
        rw [pre_three]
        omega
      · have hN' := tr.inner _ _ _ (by omega) h1 e he
        cases hg : N' (i + 1) (8 * pre page i + e) with
        | none =>
          rw [hg] at hN'
          exact absurd hN' hne
        | some g =>
          have hqn : 8 * pre page i + e ≠ pre page (i + 1) := by
            intro x
            rw [x, hgone (i + 1) (by omega) (by omega)] at hg
            cases hg
          obtain ⟨x, hx, hc⟩ := hoff (i + 1) _ (by omega) hqn (by rw [hg]; rfl)
          refine ⟨x, ?_, hc⟩
          refine pre_down (i := i) (by omega) ?_ (i - l) l (by omega)
          have := (pre_succ (page := x) (l := i) (by omega)).1
          rw [← this, hx]
          omega
  · exact hoff l q hl hq hs

theorem drop_is (h : Tb w0 w t p bb hb F root k) (f : Nat) (hB : Few F.held) (F1 : FP) (ha : asked F.held f = 0) (hF : F.drop f = F1) : Calls Tryd.prog 29 #[.pointer (some ⟨p, 0, none⟩), .int .i64 f] w fun e w' => e = .returned (.int .i64 0) ∧ Tb w0 w' t p bb hb F1 root k ∧ Mods [p, bb, hb] w w' := by
  have := h.drop f hB
  rw [ha, hF] at this
  exact this
theorem bare_is (h : Tb w0 w t p bb hb F root k) (hw : Wd w0) (f : Nat) (b : Bool) (hb' : bareB F f = b) : Calls Tryd.prog 86 #[.pointer (some ⟨t, 0, none⟩), .int .i64 f] w fun e w' => e = .returned (.bool b) ∧ Below w.heap.size w w' := by
  subst hb'
  exact h.bare hw f

set_option maxRecDepth 100000 in
set_option maxHeartbeats 4000000 in
theorem Rst.drop_none (h : Rst w0 w t p bb hb n F root N C) (hw : Wd w0) (page : Nat) (hp : page < 4096) (hC : C page = none) :
    Calls Tryd.prog 54 #[.pointer (some ⟨t, 0, none⟩), .int .i64 page] w fun e w' => e = .returned (.tuple #[.agg #[.bool false, .bool false, .bool false, .bool false, .int .i64 0], .int .i64 12]) ∧ Below w.heap.size w w' := by
  have H1 := Lib.hid (h.stay ((Below.refl _ w).alloc (Nat.le_refl _) (.cells #[.bool false, .bool false, .bool false, .bool false, .int .i64 0] 68)))
  have n0 := heap_alloc_new w (.cells #[.bool false, .bool false, .bool false, .bool false, .int .i64 0] 68)
  have HW := Lib.hid hw
  clear h hw
  go_enter Tryd.func54, Tryd.ntmps54
  go_wp2_with (
    go_at_call 55; refine (H1.out.get_none HW.out page hp hC).mono ?_; rintro e w2 ⟨rfl, hb2⟩;
    have s2 := hb2.size;
    simp only [World.size_alloc] at s2;
    have n2 := (hb2.block w.heap.size (by simp)).trans n0;
    have z0 := (cell_of_row w2 _ 0 _ _ _ n2);
    have z1 := (cell_of_row w2 _ 1 _ _ _ n2);
    have z2 := (cell_of_row w2 _ 2 _ _ _ n2);
    have z3 := (cell_of_row w2 _ 3 _ _ _ n2);
    have z4 := (cell_of_row w2 _ 4 _ _ _ n2);
    simp only [List.getElem?_toArray, List.getElem?_cons_zero, List.getElem?_cons_succ] at z0 z1 z2 z3 z4;
    have f0 := frozen_of_row w2 _ 0 _ _ n2;
    have f1 := frozen_of_row w2 _ 1 _ _ n2;
    have f2 := frozen_of_row w2 _ 2 _ _ n2;
    have f3 := frozen_of_row w2 _ 3 _ _ n2;
    have f4 := frozen_of_row w2 _ 4 _ _ n2;
    have hl2 : w.heap.size < w2.heap.size := by omega;
    have hB2 : Below w.heap.size w w2 := ((Below.refl _ w).alloc (Nat.le_refl _) _).trans (hb2.mono (by simp)))
  refine bodyPost_ret (by simp [results, Tryd.results54, go_sem, z0, z1, z2, z3, z4, hl2]; try rfl) rfl ?_
  have hB3 := (((((hB2.setCell (p := ⟨w.heap.size, 0, none⟩) (Nat.le_refl _) (.bool false)).setCell (p := ⟨w.heap.size, 1, none⟩) (Nat.le_refl _) (.bool false)).setCell (p := ⟨w.heap.size, 2, none⟩) (Nat.le_refl _) (.bool false)).setCell (p := ⟨w.heap.size, 3, none⟩) (Nat.le_refl _) (.bool false)).setCell (p := ⟨w.heap.size, 4, none⟩) (Nat.le_refl _) (.int .i64 0))
  exact ⟨rfl, hB3.alloc hB3.size _⟩
end
end Go.Proofs.YtacpfkimjaihgaaDoor
