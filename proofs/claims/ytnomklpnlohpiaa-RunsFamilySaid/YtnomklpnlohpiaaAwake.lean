/- flyleaflaw22.awake returns true. -/
import Derived.Test.YtnomklpnlohpiaaSame
import Derived.Test.YtnomklpnlohpiaaCount
namespace Go.Proofs.Ytnomklpnlohpiaa
open Go.RowKit

def opCV (n : Int) : CV := ⟨n, 0, 0, 0, 0, ⟨#[]⟩, none, 0, 0, none, 0, 0, 0⟩

theorem cntL_awake : cntL [opCV 1, opCV 5, opCV 5] = [1, 0, 0, 0, 2, 0, 0, 0, 0, 0, 0].map (Value.int .i64) := by kernel_rfl

set_option maxHeartbeats 400000 in
theorem awake_any (w : World) : Calls Try.prog 6 #[] w fun e w' => e = .returned (.bool true) ∧ Below w.heap.size w w' := by
  go_enter Try.func6, Try.ntmps6
  go_wp2_with fail
  refine (count_at _ _ 3 3 [opCV 1, opCV 5, opCV 5] rfl (by omega) (CallsAt.of_row (heap_alloc_new _ _) (by simp [CV.cells, opCV]))).mono ?_
  rintro e w1 ⟨g, hg, rfl, hr, hb⟩
  rw [cntL_awake] at hr
  have hr' := (IntsAt.of_row (xs := [1, 0, 0, 0, 2, 0, 0, 0, 0, 0, 0]) hr)
  have HR := Lib.hid hr'
  clear hr hr'
  go_wp2_with fail
  have hz := hb.size
  refine (same_true _ _ _ 11 11 11 [1, 0, 0, 0, 2, 0, 0, 0, 0, 0, 0] rfl (by omega) (HR.out.below ((Below.refl w1.heap.size w1).alloc (Nat.le_refl _) _) (Nat.le_refl _)) (IntsAt.of_row (heap_alloc_new _ _))).mono ?_
  rintro e w2 ⟨rfl, hb2⟩
  go_wp2
  go_ret
  refine ⟨rfl, ?_⟩
  have b1 : Below w.heap.size w w1 := ((Below.refl _ _).alloc (Nat.le_refl _) _).trans (hb.mono (by simp))
  have hz1 := b1.size
  exact (b1.alloc hz1 _).trans (hb2.mono (by simp; omega))
end Go.Proofs.Ytnomklpnlohpiaa
