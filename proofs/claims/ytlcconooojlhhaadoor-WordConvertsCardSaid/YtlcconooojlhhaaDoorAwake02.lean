/- Law 02's awake: the chapter's examples. -/
import Derived.Test.YtlcconooojlhhaaDoorCompare
namespace Go.Proofs.YtlcconooojlhhaaDoor
open Go.RowKit
set_option linter.unusedVariables false

theorem cutOk_c1 : CutOk (clipOf 9 18446744073709551615).toNat := ⟨fun h => absurd h (by decide +kernel), fun h => absurd h (by decide +kernel)⟩
theorem cutOk_c2 : CutOk (clipOf 9 200).toNat := ⟨fun _ h => absurd h (by decide +kernel), fun _ h => absurd h (by decide +kernel)⟩
theorem cutOk_c3 : CutOk (clipOf 9 9221120237041090560).toNat := ⟨fun h => absurd h (by decide +kernel), fun h => absurd h (by decide +kernel)⟩
theorem cutOk_c4 : CutOk (clipOf 9 13832806255468478464).toNat := ⟨fun _ _ _ => ⟨-1, by decide +kernel⟩, fun h => absurd h (by decide +kernel)⟩
theorem conv_c1 : convOf 8 1 18446744073709551615 = 0 := by decide +kernel
theorem conv_c2 : convOf 4 5 200 = 127 := by decide +kernel
theorem conv_c3 : convOf 9 8 9221120237041090560 = 0 := by decide +kernel
theorem conv_c4 : convOf 9 8 13832806255468478464 = 18446744073709551615 := by decide +kernel
theorem cmp_c5 : cmpC 9 (clipOf 9 9223372036854775808) (clipOf 9 0) = 0 := by decide +kernel
set_option maxHeartbeats 1000000 in
theorem awake02 (w : World) (hw : Wd w) : Calls Tryd.prog 11 #[] w fun e w' => e = .returned (.bool true) ∧ w = w' := by
  have HW := Lib.hid hw
  clear hw
  go_enter Tryd.func11, Tryd.ntmps11
  go_wp2_with fail
  refine (conv_of _ HW.out 8 1 _ cutOk_c1 (by omega) (by omega)).mono ?_
  rintro e w1 ⟨rfl, rfl⟩
  rw [conv_c1]
  go_wp2_with fail
  refine (conv_of _ HW.out 4 5 _ cutOk_c2 (by omega) (by omega)).mono ?_
  rintro e w1 ⟨rfl, rfl⟩
  rw [conv_c2]
  go_wp2_with fail
  refine (conv_of _ HW.out 9 8 _ cutOk_c3 (by omega) (by omega)).mono ?_
  rintro e w1 ⟨rfl, rfl⟩
  rw [conv_c3]
  go_wp2_with fail
  refine (conv_of _ HW.out 9 8 _ cutOk_c4 (by omega) (by omega)).mono ?_
  rintro e w1 ⟨rfl, rfl⟩
  rw [conv_c4]
  go_wp2_with fail
  refine (compare_any _ HW.out 9 _ _ (by omega) (by omega) (by omega) (by omega)).mono ?_
  rintro e w1 ⟨rfl, rfl⟩
  rw [cmp_c5]
  go_wp2_with fail
  refine (width_any _ HW.out 9).mono ?_
  rintro e w1 ⟨rfl, rfl⟩
  rw [show widthOf 9 = 8 from rfl]
  go_wp2_with fail
  go_ret
  exact ⟨rfl, rfl⟩
end Go.Proofs.YtlcconooojlhhaaDoor
