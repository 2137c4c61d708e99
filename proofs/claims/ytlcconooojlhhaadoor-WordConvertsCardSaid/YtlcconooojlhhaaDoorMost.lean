/- Package word: most, below, above. -/
import Derived.Test.YtlcconooojlhhaaDoorClip
namespace Go.Proofs.YtlcconooojlhhaaDoor
open Go.RowKit
set_option linter.unusedVariables false

def mostOf (k : Int) : Int := if signedOf k = true then modOf k / 2 - 1 else modOf k - 1
def belowOf (k n : Int) : Int := if signedOf k = true then (max n (-(mostOf k) - 1)) % 18446744073709551616 else 0
def aboveOf (k n : Int) : Int := min n (mostOf k)
set_option maxHeartbeats 1000000
theorem most_1 (w : World) (hw : Wd w) : Calls Tryd.prog 50 #[.int .i64 1] w fun e w' => e = .returned (.int .u64 255) ∧ w = w' := by
  have HW := Lib.hid hw
  clear hw
  go_enter Tryd.func50, Tryd.ntmps50
  go_wp2_with fail
  refine (width_any _ HW.out 1).mono ?_
  rintro e w1 ⟨rfl, rfl⟩
  rw [show widthOf 1 = 1 from rfl]
  go_wp2_with fail
  refine (signed_any _ 1).mono ?_
  rintro e w1 ⟨rfl, rfl⟩
  rw [show signedOf 1 = false from rfl]
  go_wp2_with fail
  go_ret
  exact ⟨rfl, rfl⟩
theorem most_2 (w : World) (hw : Wd w) : Calls Tryd.prog 50 #[.int .i64 2] w fun e w' => e = .returned (.int .u64 65535) ∧ w = w' := by
  have HW := Lib.hid hw
  clear hw
  go_enter Tryd.func50, Tryd.ntmps50
  go_wp2_with fail
  refine (width_any _ HW.out 2).mono ?_
  rintro e w1 ⟨rfl, rfl⟩
  rw [show widthOf 2 = 2 from rfl]
  go_wp2_with fail
  refine (signed_any _ 2).mono ?_
  rintro e w1 ⟨rfl, rfl⟩
  rw [show signedOf 2 = false from rfl]
  go_wp2_with fail
  go_ret
  exact ⟨rfl, rfl⟩
theorem most_3 (w : World) (hw : Wd w) : Calls Tryd.prog 50 #[.int .i64 3] w fun e w' => e = .returned (.int .u64 4294967295) ∧ w = w' := by
  have HW := Lib.hid hw
  clear hw
  go_enter Tryd.func50, Tryd.ntmps50
  go_wp2_with fail
  refine (width_any _ HW.out 3).mono ?_
  rintro e w1 ⟨rfl, rfl⟩
  rw [show widthOf 3 = 4 from rfl]
  go_wp2_with fail
  refine (signed_any _ 3).mono ?_
  rintro e w1 ⟨rfl, rfl⟩
  rw [show signedOf 3 = false from rfl]
  go_wp2_with fail
  go_ret
  exact ⟨rfl, rfl⟩
theorem most_4 (w : World) (hw : Wd w) : Calls Tryd.prog 50 #[.int .i64 4] w fun e w' => e = .returned (.int .u64 18446744073709551615) ∧ w = w' := by
  have HW := Lib.hid hw
  clear hw
  go_enter Tryd.func50, Tryd.ntmps50
  go_wp2_with fail
  refine (width_any _ HW.out 4).mono ?_
  rintro e w1 ⟨rfl, rfl⟩
  rw [show widthOf 4 = 8 from rfl]
  go_wp2_with fail
  refine (signed_any _ 4).mono ?_
  rintro e w1 ⟨rfl, rfl⟩
  rw [show signedOf 4 = false from rfl]
  go_wp2_with fail
  go_ret
  exact ⟨rfl, rfl⟩
theorem most_5 (w : World) (hw : Wd w) : Calls Tryd.prog 50 #[.int .i64 5] w fun e w' => e = .returned (.int .u64 127) ∧ w = w' := by
  have HW := Lib.hid hw
  clear hw
  go_enter Tryd.func50, Tryd.ntmps50
  go_wp2_with fail
  refine (width_any _ HW.out 5).mono ?_
  rintro e w1 ⟨rfl, rfl⟩
  rw [show widthOf 5 = 1 from rfl]
  go_wp2_with fail
  refine (signed_any _ 5).mono ?_
  rintro e w1 ⟨rfl, rfl⟩
  rw [show signedOf 5 = true from rfl]
  go_wp2_with fail
  go_ret
  exact ⟨rfl, rfl⟩
theorem most_6 (w : World) (hw : Wd w) : Calls Tryd.prog 50 #[.int .i64 6] w fun e w' => e = .returned (.int .u64 32767) ∧ w = w' := by
  have HW := Lib.hid hw
  clear hw
  go_enter Tryd.func50, Tryd.ntmps50
  go_wp2_with fail
  refine (width_any _ HW.out 6).mono ?_
  rintro e w1 ⟨rfl, rfl⟩
  rw [show widthOf 6 = 2 from rfl]
  go_wp2_with fail
  refine (signed_any _ 6).mono ?_
  rintro e w1 ⟨rfl, rfl⟩
  rw [show signedOf 6 = true from rfl]
  go_wp2_with fail
  go_ret
  exact ⟨rfl, rfl⟩
theorem most_7 (w : World) (hw : Wd w) : Calls Tryd.prog 50 #[.int .i64 7] w fun e w' => e = .returned (.int .u64 2147483647) ∧ w = w' := by
  have HW := Lib.hid hw
  clear hw
  go_enter Tryd.func50, Tryd.ntmps50
  go_wp2_with fail
  refine (width_any _ HW.out 7).mono ?_
  rintro e w1 ⟨rfl, rfl⟩
  rw [show widthOf 7 = 4 from rfl]
  go_wp2_with fail
  refine (signed_any _ 7).mono ?_
  rintro e w1 ⟨rfl, rfl⟩
  rw [show signedOf 7 = true from rfl]
  go_wp2_with fail
  go_ret
  exact ⟨rfl, rfl⟩
theorem most_8 (w : World) (hw : Wd w) : Calls Tryd.prog 50 #[.int .i64 8] w fun e w' => e = .returned (.int .u64 9223372036854775807) ∧ w = w' := by
  have HW := Lib.hid hw
  clear hw
  go_enter Tryd.func50, Tryd.ntmps50
  go_wp2_with fail
  refine (width_any _ HW.out 8).mono ?_
  rintro e w1 ⟨rfl, rfl⟩
  rw [show widthOf 8 = 8 from rfl]
  go_wp2_with fail
  refine (signed_any _ 8).mono ?_
  rintro e w1 ⟨rfl, rfl⟩
  rw [show signedOf 8 = true from rfl]
  go_wp2_with fail
  go_ret
  exact ⟨rfl, rfl⟩
theorem most_9 (w : World) (hw : Wd w) : Calls Tryd.prog 50 #[.int .i64 9] w fun e w' => e = .returned (.int .u64 18446744073709551615) ∧ w = w' := by
  have HW := Lib.hid hw
  clear hw
  go_enter Tryd.func50, Tryd.ntmps50
  go_wp2_with fail
  refine (width_any _ HW.out 9).mono ?_
  rintro e w1 ⟨rfl, rfl⟩
  rw [show widthOf 9 = 8 from rfl]
  go_wp2_with fail
  refine (signed_any _ 9).mono ?_
  rintro e w1 ⟨rfl, rfl⟩
  rw [show signedOf 9 = false from rfl]
  go_wp2_with fail
  go_ret
  exact ⟨rfl, rfl⟩
theorem most_any (w : World) (hw : Wd w) (k : Int) (hk : ¬ (k < 1 ∨ 10 ≤ k)) : Calls Tryd.prog 50 #[.int .i64 k] w fun e w' => e = .returned (.int .u64 (mostOf k)) ∧ w = w' := by
  rcases nine hk with rfl | rfl | rfl | rfl | rfl | rfl | rfl | rfl | rfl
  · rw [show mostOf 1 = 255 from by decide]; exact most_1 w hw
  · rw [show mostOf 2 = 65535 from by decide]; exact most_2 w hw
  · rw [show mostOf 3 = 4294967295 from by decide]; exact most_3 w hw
  · rw [show mostOf 4 = 18446744073709551615 from by decide]; exact most_4 w hw
  · rw [show mostOf 5 = 127 from by decide]; exact most_5 w hw
  · rw [show mostOf 6 = 32767 from by decide]; exact most_6 w hw
  · rw [show mostOf 7 = 2147483647 from by decide]; exact most_7 w hw
  · rw [show mostOf 8 = 9223372036854775807 from by decide]; exact most_8 w hw
  · rw [show mostOf 9 = 18446744073709551615 from by decide]; exact most_9 w hw
theorem mostOf_range {k : Int} (hk : ¬ (k < 1 ∨ 10 ≤ k)) : 0 ≤ mostOf k ∧ mostOf k < 18446744073709551616 ∧ (signedOf k = true → mostOf k < 9223372036854775808) := by
  rcases nine hk with rfl | rfl | rfl | rfl | rfl | rfl | rfl | rfl | rfl <;> decide
theorem above_any (w : World) (hw : Wd w) (k n : Int) (hk : ¬ (k < 1 ∨ 10 ≤ k)) : Calls Tryd.prog 33 #[.int .i64 k, .int .u64 n] w fun e w' => e = .returned (.int .u64 (aboveOf k n)) ∧ w = w' := by
  have hm := most_any w hw k hk
  unfold aboveOf
  generalize mostOf k = m at *
  clear hk hw
  go_enter Tryd.func33, Tryd.ntmps33
  go_wp2_with fail
  refine hm.mono ?_
  rintro e w1 ⟨rfl, rfl⟩
  go_wp2_with fail
  all_goals
    go_ret
    refine ⟨congrArg (fun z => Ending.returned (Value.int IntKind.u64 z)) ?_, rfl⟩
    omega
theorem below_any (w : World) (hw : Wd w) (k n : Int) (hk : ¬ (k < 1 ∨ 10 ≤ k)) (h0 : -9223372036854775808 ≤ n) (h1 : n < 9223372036854775808) : Calls Tryd.prog 32 #[.int .i64 k, .int .i64 n] w fun e w' => e = .returned (.int .u64 (belowOf k n)) ∧ w = w' := by
  have hm := most_any w hw k hk
  have hr := mostOf_range hk
  cases hs : signedOf k
  · rw [belowOf, hs, if_neg (by decide)]
    have HS := Lib.hid hs
    clear hs hm hr hk hw
    go_enter Tryd.func32, Tryd.ntmps32
    go_wp2_with fail
    refine (signed_any _ k).mono ?_
    rintro e w1 ⟨rfl, rfl⟩
    rw [HS.out]
    go_wp2_with fail
    go_ret
    exact ⟨rfl, rfl⟩
  · rw [belowOf, hs, if_pos rfl]
    obtain ⟨hr0, hr1, hr2⟩ := hr
    have hr3 := hr2 hs
    generalize mostOf k = m at *
    have hwr : wrap64 m = m := by simp only [wrap64]; omega
    have HS := Lib.hid hs
    clear hs hr2 hk hw
    go_enter Tryd.func32, Tryd.ntmps32
    go_wp2_with fail
    refine (signed_any _ k).mono ?_
    rintro e w1 ⟨rfl, rfl⟩
    rw [HS.out]
    go_wp2_with fail
    refine hm.mono ?_
    rintro e w1 ⟨rfl, rfl⟩
    go_wp2_with fail
    all_goals
      go_ret
      refine ⟨congrArg (fun z => Ending.returned (Value.int IntKind.u64 z)) ?_, rfl⟩
      simp only [IntKind.wrap_u64]
      omega
end Go.Proofs.YtlcconooojlhhaaDoor
