/- Package word: Clip. -/
import Derived.Test.YtacpfkimjaihgaaDoorWord
namespace Go.Proofs.YtacpfkimjaihgaaDoor
open Go.RowKit
set_option linter.unusedVariables false

def modOf (k : Int) : Int := if k = 1 ∨ k = 5 then 256 else if k = 2 ∨ k = 6 then 65536 else if k = 3 ∨ k = 7 then 4294967296 else 18446744073709551616
/-- What is clipped, as a number from 0 to 2^64 - 1. -/
def clipOf (k x : Int) : Int := if widthOf k = 0 then 0 else if signedOf k = true ∧ modOf k ≤ 2 * (x % modOf k) then 18446744073709551616 - modOf k + x % modOf k else x % modOf k
theorem widthOf_out {k : Int} (h : k < 1 ∨ 10 ≤ k) : widthOf k = 0 := by
  by_cases h1 : k < 0 ∨ 10 ≤ k
  · rw [widthOf, if_pos h1]
  · obtain rfl : k = 0 := by omega
    rfl
theorem nine {k : Int} (h0 : ¬ (k < 1 ∨ 10 ≤ k)) : k = 1 ∨ k = 2 ∨ k = 3 ∨ k = 4 ∨ k = 5 ∨ k = 6 ∨ k = 7 ∨ k = 8 ∨ k = 9 := by omega
theorem widthOf_zero {k : Int} : widthOf k = 0 ↔ (k < 1 ∨ 10 ≤ k) := by
  refine ⟨fun h => ?_, widthOf_out⟩
  by_cases hk : k < 1 ∨ 10 ≤ k
  · exact hk
  · rcases nine hk with rfl | rfl | rfl | rfl | rfl | rfl | rfl | rfl | rfl <;> exact absurd h (by decide)
set_option maxHeartbeats 1000000
theorem clip_1 (w : World) (hw : Wd w) (x : Int) (h0 : 0 ≤ x) (h1 : x < 18446744073709551616) : Calls Tryd.prog 95 #[.int .i64 1, .int .u64 x] w fun e w' => e = .returned (.int .u64 (x % 256)) ∧ w = w' := by
  have HW := Lib.hid hw
  clear hw
  go_enter Tryd.func95, Tryd.ntmps95
  go_wp2_with fail
  refine (width_any _ HW.out 1).mono ?_
  rintro e w1 ⟨rfl, rfl⟩
  rw [show widthOf 1 = 1 from rfl]
  go_wp2_with fail
  refine (signed_any _ 1).mono ?_
  rintro e w1 ⟨rfl, rfl⟩
  rw [show signedOf 1 = false from rfl]
  go_wp2_with fail
  all_goals
    go_ret
    refine ⟨congrArg (fun z => Ending.returned (Value.int IntKind.u64 z)) ?_, rfl⟩
    simp only [IntKind.wrap_u64]
    omega
theorem clip_2 (w : World) (hw : Wd w) (x : Int) (h0 : 0 ≤ x) (h1 : x < 18446744073709551616) : Calls Tryd.prog 95 #[.int .i64 2, .int .u64 x] w fun e w' => e = .returned (.int .u64 (x % 65536)) ∧ w = w' := by
  have HW := Lib.hid hw
  clear hw
  go_enter Tryd.func95, Tryd.ntmps95
  go_wp2_with fail
  refine (width_any _ HW.out 2).mono ?_
  rintro e w1 ⟨rfl, rfl⟩
  rw [show widthOf 2 = 2 from rfl]
  go_wp2_with fail
  refine (signed_any _ 2).mono ?_
  rintro e w1 ⟨rfl, rfl⟩
  rw [show signedOf 2 = false from rfl]
  go_wp2_with fail
  all_goals
    go_ret
    refine ⟨congrArg (fun z => Ending.returned (Value.int IntKind.u64 z)) ?_, rfl⟩
    simp only [IntKind.wrap_u64]
    omega
theorem clip_3 (w : World) (hw : Wd w) (x : Int) (h0 : 0 ≤ x) (h1 : x < 18446744073709551616) : Calls Tryd.prog 95 #[.int .i64 3, .int .u64 x] w fun e w' => e = .returned (.int .u64 (x % 4294967296)) ∧ w = w' := by
  have HW := Lib.hid hw
  clear hw
  go_enter Tryd.func95, Tryd.ntmps95
  go_wp2_with fail
  refine (width_any _ HW.out 3).mono ?_
  rintro e w1 ⟨rfl, rfl⟩
  rw [show widthOf 3 = 4 from rfl]
  go_wp2_with fail
  refine (signed_any _ 3).mono ?_
  rintro e w1 ⟨rfl, rfl⟩
  rw [show signedOf 3 = false from rfl]
  go_wp2_with fail
  all_goals
    go_ret
    refine ⟨congrArg (fun z => Ending.returned (Value.int IntKind.u64 z)) ?_, rfl⟩
    simp only [IntKind.wrap_u64]
    omega
theorem clip_4 (w : World) (hw : Wd w) (x : Int) (h0 : 0 ≤ x) (h1 : x < 18446744073709551616) : Calls Tryd.prog 95 #[.int .i64 4, .int .u64 x] w fun e w' => e = .returned (.int .u64 (x % 18446744073709551616)) ∧ w = w' := by
  have HW := Lib.hid hw
  clear hw
  go_enter Tryd.func95, Tryd.ntmps95
  go_wp2_with fail
  refine (width_any _ HW.out 4).mono ?_
  rintro e w1 ⟨rfl, rfl⟩
  rw [show widthOf 4 = 8 from rfl]
  go_wp2_with fail
  refine (signed_any _ 4).mono ?_
  rintro e w1 ⟨rfl, rfl⟩
  rw [show signedOf 4 = false from rfl]
  go_wp2_with fail
  all_goals
    go_ret
    refine ⟨congrArg (fun z => Ending.returned (Value.int IntKind.u64 z)) ?_, rfl⟩
    skip
    omega
theorem clip_5 (w : World) (hw : Wd w) (x : Int) (h0 : 0 ≤ x) (h1 : x < 18446744073709551616) : Calls Tryd.prog 95 #[.int .i64 5, .int .u64 x] w fun e w' => e = .returned (.int .u64 (if 256 ≤ 2 * (x % 256) then 18446744073709551616 - 256 + x % 256 else x % 256)) ∧ w = w' := by
  have HW := Lib.hid hw
  clear hw
  go_enter Tryd.func95, Tryd.ntmps95
  go_wp2_with fail
  refine (width_any _ HW.out 5).mono ?_
  rintro e w1 ⟨rfl, rfl⟩
  rw [show widthOf 5 = 1 from rfl]
  go_wp2_with fail
  refine (signed_any _ 5).mono ?_
  rintro e w1 ⟨rfl, rfl⟩
  rw [show signedOf 5 = true from rfl]
  go_wp2_with fail
  all_goals
    go_ret
    refine ⟨congrArg (fun z => Ending.returned (Value.int IntKind.u64 z)) ?_, rfl⟩
    simp only [IntKind.wrap_u64, wrap64]
    omega
theorem clip_6 (w : World) (hw : Wd w) (x : Int) (h0 : 0 ≤ x) (h1 : x < 18446744073709551616) : Calls Tryd.prog 95 #[.int .i64 6, .int .u64 x] w fun e w' => e = .returned (.int .u64 (if 65536 ≤ 2 * (x % 65536) then 18446744073709551616 - 65536 + x % 65536 else x % 65536)) ∧ w = w' := by
  have HW := Lib.hid hw
  clear hw
  go_enter Tryd.func95, Tryd.ntmps95
  go_wp2_with fail
  refine (width_any _ HW.out 6).mono ?_
  rintro e w1 ⟨rfl, rfl⟩
  rw [show widthOf 6 = 2 from rfl]
  go_wp2_with fail
  refine (signed_any _ 6).mono ?_
  rintro e w1 ⟨rfl, rfl⟩
  rw [show signedOf 6 = true from rfl]
  go_wp2_with fail
  all_goals
    go_ret
    refine ⟨congrArg (fun z => Ending.returned (Value.int IntKind.u64 z)) ?_, rfl⟩
    simp only [IntKind.wrap_u64, wrap64]
    omega
theorem clip_7 (w : World) (hw : Wd w) (x : Int) (h0 : 0 ≤ x) (h1 : x < 18446744073709551616) : Calls Tryd.prog 95 #[.int .i64 7, .int .u64 x] w fun e w' => e = .returned (.int .u64 (if 4294967296 ≤ 2 * (x % 4294967296) then 18446744073709551616 - 4294967296 + x % 4294967296 else x % 4294967296)) ∧ w = w' := by
  have HW := Lib.hid hw
  clear hw
  go_enter Tryd.func95, Tryd.ntmps95
  go_wp2_with fail
  refine (width_any _ HW.out 7).mono ?_
  rintro e w1 ⟨rfl, rfl⟩
  rw [show widthOf 7 = 4 from rfl]
  go_wp2_with fail
  refine (signed_any _ 7).mono ?_
  rintro e w1 ⟨rfl, rfl⟩
  rw [show signedOf 7 = true from rfl]
  go_wp2_with fail
  all_goals
    go_ret
    refine ⟨congrArg (fun z => Ending.returned (Value.int IntKind.u64 z)) ?_, rfl⟩
    simp only [IntKind.wrap_u64, wrap64]
    omega
theorem clip_8 (w : World) (hw : Wd w) (x : Int) (h0 : 0 ≤ x) (h1 : x < 18446744073709551616) : Calls Tryd.prog 95 #[.int .i64 8, .int .u64 x] w fun e w' => e = .returned (.int .u64 (if 18446744073709551616 ≤ 2 * (x % 18446744073709551616) then 18446744073709551616 - 18446744073709551616 + x % 18446744073709551616 else x % 18446744073709551616)) ∧ w = w' := by
  have HW := Lib.hid hw
  clear hw
  go_enter Tryd.func95, Tryd.ntmps95
  go_wp2_with fail
  refine (width_any _ HW.out 8).mono ?_
  rintro e w1 ⟨rfl, rfl⟩
  rw [show widthOf 8 = 8 from rfl]
  go_wp2_with fail
  refine (signed_any _ 8).mono ?_
  rintro e w1 ⟨rfl, rfl⟩
  rw [show signedOf 8 = true from rfl]
  go_wp2_with fail
  all_goals
    go_ret
    refine ⟨congrArg (fun z => Ending.returned (Value.int IntKind.u64 z)) ?_, rfl⟩
    simp only [IntKind.wrap_u64, wrap64]
    omega
theorem clip_9 (w : World) (hw : Wd w) (x : Int) (h0 : 0 ≤ x) (h1 : x < 18446744073709551616) : Calls Tryd.prog 95 #[.int .i64 9, .int .u64 x] w fun e w' => e = .returned (.int .u64 (x % 18446744073709551616)) ∧ w = w' := by
  have HW := Lib.hid hw
  clear hw
  go_enter Tryd.func95, Tryd.ntmps95
  go_wp2_with fail
  refine (width_any _ HW.out 9).mono ?_
  rintro e w1 ⟨rfl, rfl⟩
  rw [show widthOf 9 = 8 from rfl]
  go_wp2_with fail
  refine (signed_any _ 9).mono ?_
  rintro e w1 ⟨rfl, rfl⟩
  rw [show signedOf 9 = false from rfl]
  go_wp2_with fail
  all_goals
    go_ret
    refine ⟨congrArg (fun z => Ending.returned (Value.int IntKind.u64 z)) ?_, rfl⟩
    skip
    omega
theorem clip_out (w : World) (hw : Wd w) (k x : Int) (hk : k < 1 ∨ 10 ≤ k) : Calls Tryd.prog 95 #[.int .i64 k, .int .u64 x] w fun e w' => e = .returned (.int .u64 0) ∧ w = w' := by
  have HW := Lib.hid hw
  have HK := Lib.hid hk
  clear hw hk
  go_enter Tryd.func95, Tryd.ntmps95
  go_wp2_with fail
  refine (width_any _ HW.out k).mono ?_
  rintro e w1 ⟨rfl, rfl⟩
  rw [widthOf_out HK.out]
  go_wp2_with fail
  go_ret
  exact ⟨rfl, rfl⟩
theorem clipOf_out {k x : Int} (hk : k < 1 ∨ 10 ≤ k) : clipOf k x = 0 := by rw [clipOf, if_pos (widthOf_out hk)]
theorem clip_any (w : World) (hw : Wd w) (k x : Int) (h0 : 0 ≤ x) (h1 : x < 18446744073709551616) : Calls Tryd.prog 95 #[.int .i64 k, .int .u64 x] w fun e w' => e = .returned (.int .u64 (clipOf k x)) ∧ w = w' := by
  by_cases hk : k < 1 ∨ 10 ≤ k
  · rw [clipOf_out hk]
    exact clip_out w hw k x hk
  · rcases nine hk with rfl | rfl | rfl | rfl | rfl | rfl | rfl | rfl | rfl
    · exact (clip_1 w hw x h0 h1).mono fun e w' h => h
    · exact (clip_2 w hw x h0 h1).mono fun e w' h => h
    · exact (clip_3 w hw x h0 h1).mono fun e w' h => h
    · exact (clip_4 w hw x h0 h1).mono fun e w' h => h
    · have hc : clipOf 5 x = if 256 ≤ 2 * (x % 256) then 18446744073709551616 - 256 + x % 256 else x % 256 := by
        rw [clipOf, if_neg (by decide), show signedOf 5 = true from rfl, show modOf 5 = 256 from rfl]
        simp only [true_and]
      rw [hc]
      exact clip_5 w hw x h0 h1
    · have hc : clipOf 6 x = if 65536 ≤ 2 * (x % 65536) then 18446744073709551616 - 65536 + x % 65536 else x % 65536 := by
        rw [clipOf, if_neg (by decide), show signedOf 6 = true from rfl, show modOf 6 = 65536 from rfl]
        simp only [true_and]
      rw [hc]
      exact clip_6 w hw x h0 h1
    · have hc : clipOf 7 x = if 4294967296 ≤ 2 * (x % 4294967296) then 18446744073709551616 - 4294967296 + x % 4294967296 else x % 4294967296 := by
        rw [clipOf, if_neg (by decide), show signedOf 7 = true from rfl, show modOf 7 = 4294967296 from rfl]
        simp only [true_and]
      rw [hc]
      exact clip_7 w hw x h0 h1
    · have hc : clipOf 8 x = if 18446744073709551616 ≤ 2 * (x % 18446744073709551616) then 18446744073709551616 - 18446744073709551616 + x % 18446744073709551616 else x % 18446744073709551616 := by
        rw [clipOf, if_neg (by decide), show signedOf 8 = true from rfl, show modOf 8 = 18446744073709551616 from rfl]
        simp only [true_and]
      rw [hc]
      exact clip_8 w hw x h0 h1
    · exact (clip_9 w hw x h0 h1).mono fun e w' h => h
theorem clipOf_range {k x : Int} (h0 : 0 ≤ x) (h1 : x < 18446744073709551616) : 0 ≤ clipOf k x ∧ clipOf k x < 18446744073709551616 := by
  by_cases hk : k < 1 ∨ 10 ≤ k
  · rw [clipOf_out hk]; omega
  · rcases nine hk with rfl | rfl | rfl | rfl | rfl | rfl | rfl | rfl | rfl <;> simp [clipOf, modOf, widthOf, widths, signedOf] <;> omega
end Go.Proofs.YtacpfkimjaihgaaDoor
