/- The Go text of flyleaflaw02.WordOrders returns true and writes nothing that was there. -/
import Derived.Test.YtlcconooojlhhaaDoorRefCmp
import Derived.Test.YtlcconooojlhhaaDoorAwake02
namespace Go.Proofs.YtlcconooojlhhaaDoor
open Go.RowKit
set_option linter.unusedVariables false
set_option maxRecDepth 100000 in
set_option maxHeartbeats 8000000 in
theorem orders_walk (w : World) (hw : Wd w) (k : Int) (hk0 : (Lit.int IntKind.i64 k).wf = true) (a : Int) (ha0 : 0 ≤ a) (ha1 : a < 18446744073709551616) (b : Int) (hb0 : 0 ≤ b) (hb1 : b < 18446744073709551616) :
    Calls Tryd.prog 7 #[.int .i64 k, .int .u64 a, .int .u64 b] w fun e w' => e = .returned (.bool true) ∧ Below w.heap.size w w' := by
  have haw := awake02 w hw
  have hwd := rwidth_any w k
  have HW := Lib.hid hw
  by_cases hk : k < 1 ∨ 10 ≤ k
  · have hc := compare_any w hw k a b ha0 ha1 hb0 hb1
    rw [widthOf_out hk] at hwd
    have hc0 : cmpC k (clipOf k a) (clipOf k b) = 0 := by
      rw [clipOf_out hk, clipOf_out hk, cmpC, if_neg (by omega)]
      split <;> rfl
    rw [hc0] at hc
    clear hk hw hc0
    go_enter Tryd.func7, Tryd.ntmps7
    go_wp2_with fail
    refine haw.mono ?_
    rintro e w1 ⟨rfl, rfl⟩
    go_wp2_with fail
    refine hwd.mono ?_
    rintro e w1 ⟨rfl, rfl⟩
    go_wp2_with fail
    refine hc.mono ?_
    rintro e w1 ⟨rfl, rfl⟩
    go_wp2_with fail
    go_ret
    exact ⟨rfl, Below.refl _ _⟩
  · have hk9 : 1 ≤ k ∧ k ≤ 9 := by omega
    have hz : (widthOf k == 0) = false := by simp only [beq_eq_false_iff_ne, ne_eq, widthOf_zero]; exact hk
    generalize widthOf k = wk at *
    have hc := compare_any w hw k a b ha0 ha1 hb0 hb1
    have hrc := rcompare_any w k a b hk9 ha0 ha1 hb0 hb1
    have hl := fun W hW => least_any W hW k a b ha0 ha1 hb0 hb1
    have hg := fun W hW => greatest_any W hW k a b ha0 ha1 hb0 hb1
    have hrl : ∀ W, Calls Tryd.prog 22 #[.int .i64 k, .int .u64 a, .int .u64 b, .bool true] W (fun e w' => e = .returned (.int .u64 (leastOf k (clipOf k a) (clipOf k b))) ∧ Below W.heap.size W w') := fun W => rpick_any W k a b true hk9 ha0 ha1 hb0 hb1
    have hrg : ∀ W, Calls Tryd.prog 22 #[.int .i64 k, .int .u64 a, .int .u64 b, .bool false] W (fun e w' => e = .returned (.int .u64 (greatestOf k (clipOf k a) (clipOf k b))) ∧ Below W.heap.size W w') := fun W => rpick_any W k a b false hk9 ha0 ha1 hb0 hb1
    change ∀ W, Wd W → Calls Tryd.prog 21 _ W (fun e w' => e = .returned (.int .u64 (leastOf k (clipOf k a) (clipOf k b))) ∧ W = w') at hl
    change ∀ W, Wd W → Calls Tryd.prog 23 _ W (fun e w' => e = .returned (.int .u64 (greatestOf k (clipOf k a) (clipOf k b))) ∧ W = w') at hg
    generalize leastOf k (clipOf k a) (clipOf k b) = l at *
    generalize greatestOf k (clipOf k a) (clipOf k b) = g at *
    generalize cmpC k (clipOf k a) (clipOf k b) = c at *
    clear hw hk hk9
    go_enter Tryd.func7, Tryd.ntmps7
    go_wp2_with fail
    refine haw.mono ?_
    rintro e w1 ⟨rfl, rfl⟩
    go_wp2_with fail
    refine hwd.mono ?_
    rintro e w1 ⟨rfl, rfl⟩
    go_wp2_with fail
    refine hc.mono ?_
    rintro e w1 ⟨rfl, rfl⟩
    go_wp2_with fail
    refine hrc.mono ?_
    rintro e w2 ⟨rfl, q2⟩
    have HW2 := Lib.hid (HW.out.below q2 (Nat.le_refl _))
    have b2 := q2
    have z2 := b2.size
    clear q2
    go_wp2_with fail
    refine (hl _ HW2.out).mono ?_
    rintro e w1 ⟨rfl, rfl⟩
    go_wp2_with fail
    refine (hrl w2).mono ?_
    rintro e w3 ⟨rfl, q3⟩
    have HW3 := Lib.hid (HW2.out.below q3 (Nat.le_refl _))
    have b3 := b2.trans (q3.mono z2)
    have z3 := b3.size
    clear q3
    go_wp2_with fail
    refine (hg _ HW3.out).mono ?_
    rintro e w1 ⟨rfl, rfl⟩
    go_wp2_with fail
    refine (hrg w3).mono ?_
    rintro e w4 ⟨rfl, q4⟩
    have HW4 := Lib.hid (HW3.out.below q4 (Nat.le_refl _))
    have b4 := b3.trans (q4.mono z3)
    have z4 := b4.size
    clear q4
    go_wp2_with fail
    go_ret
    exact ⟨rfl, b4⟩
end Go.Proofs.YtlcconooojlhhaaDoor
