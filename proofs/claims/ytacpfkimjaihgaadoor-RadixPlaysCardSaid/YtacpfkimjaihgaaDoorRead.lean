/- Package word: Bytes and Read. -/
import Derived.Test.YtacpfkimjaihgaaDoorClip
import Derived.Test.YtacpfkimjaihgaaDoorGet
namespace Go.Proofs.YtacpfkimjaihgaaDoor
open Go.RowKit
set_option linter.unusedVariables false

theorem widthOf_range (k : Int) : 0 ≤ widthOf k ∧ widthOf k ≤ 8 := by
  by_cases hk : k < 1 ∨ 10 ≤ k
  · rw [widthOf_out hk]; omega
  · rcases nine hk with rfl | rfl | rfl | rfl | rfl | rfl | rfl | rfl | rfl <;> decide
theorem bytes_any (w : World) (hw : Wd w) (k x : Int) (h0 : 0 ≤ x) (h1 : x < 18446744073709551616) : Calls Tryd.prog 67 #[.int .i64 k, .int .u64 x] w fun e w' => e = .returned (.string (leS x (widthOf k).toNat)) ∧ Below w.heap.size w w' := by
  have hr := widthOf_range k
  obtain ⟨m, hm⟩ := Int.eq_ofNat_of_zero_le hr.1
  have hm8 : m ≤ 8 := by omega
  have HW := Lib.hid hw
  have HM := Lib.hid hm
  rw [show (widthOf k).toNat = m by omega]
  clear hw hr hm
  go_enter Tryd.func67, Tryd.ntmps67
  go_wp2_with fail
  refine (width_any _ HW.out k).mono ?_
  rintro e w1 ⟨rfl, rfl⟩
  rw [HM.out]
  go_wp2_with fail
  refine (oput_any _ x m hm8 h0 h1).mono ?_
  rintro e w1 ⟨rfl, hb⟩
  go_wp2_with fail
  go_ret
  exact ⟨rfl, hb⟩
/-- The word of bytes, and the error. -/
def readOf (k : Int) (s : ByteArray) : Int × Int := if widthOf k = 0 then (0, 1) else if (s.size : Int) ≠ widthOf k then (0, 10) else (clipOf k (leV s.data.toList), 0)
set_option maxHeartbeats 1000000 in
theorem read_word (w : World) (hw : Wd w) (k : Int) (s : ByteArray) : Calls Tryd.prog 69 #[.int .i64 k, .string s] w fun e w' => e = .returned (.tuple #[.int .u64 (readOf k s).1, .int .i64 (readOf k s).2]) ∧ w = w' := by
  have HW := Lib.hid hw
  clear hw
  by_cases hz : widthOf k = 0
  · have hr : readOf k s = (0, 1) := by rw [readOf, if_pos hz]
    rw [hr]
    have HZ := Lib.hid hz
    clear hz hr
    go_enter Tryd.func69, Tryd.ntmps69
    go_wp2_with fail
    refine (width_any _ HW.out k).mono ?_
    rintro e w1 ⟨rfl, rfl⟩
    rw [HZ.out]
    go_wp2_with fail
    go_ret2
    exact ⟨rfl, rfl⟩
  · have hrg := widthOf_range k
    obtain ⟨m, hm⟩ := Int.eq_ofNat_of_zero_le hrg.1
    have hm8 : 1 ≤ m ∧ m ≤ 8 := by omega
    by_cases hs : s.size = m
    · have hr : readOf k s = (clipOf k (leV s.data.toList), 0) := by rw [readOf, if_neg hz, if_neg (by omega)]
      rw [hr]
      have hl := leV_range s.data.toList
      have hlt : leV s.data.toList < 18446744073709551616 := by
        have hle : s.data.toList.length = m := by rw [Array.length_toList]; exact hs
        have h2 := hl.2
        rw [hle] at h2
        have h8 : m = 1 ∨ m = 2 ∨ m = 3 ∨ m = 4 ∨ m = 5 ∨ m = 6 ∨ m = 7 ∨ m = 8 := by omega
        generalize leV s.data.toList = lv at *
        clear hle hl hs hr hrg hz hm hm8
        rcases h8 with rfl | rfl | rfl | rfl | rfl | rfl | rfl | rfl <;> simp at h2 <;> omega
      have hc := clip_any w HW.out k (leV s.data.toList) hl.1 hlt
      generalize clipOf k (leV s.data.toList) = cv at *
      have hg := oget_any w s m hm8.1 hm8.2 hs
      generalize leV s.data.toList = lv at *
      have HS := Lib.hid hs
      have HM := Lib.hid hm
      have hne : ((s.size : Int) != (m : Int)) = false := by simp; omega
      have hmz : ((m : Int) == 0) = false := by simp; omega
      clear hs hm hz hr hrg
      go_enter Tryd.func69, Tryd.ntmps69
      go_wp2_with fail
      refine (width_any _ HW.out k).mono ?_
      rintro e w1 ⟨rfl, rfl⟩
      rw [HM.out]
      go_wp2_with fail
      refine hg.mono ?_
      rintro e w1 ⟨rfl, rfl⟩
      go_wp2_with fail
      refine hc.mono ?_
      rintro e w1 ⟨rfl, rfl⟩
      go_wp2_with fail
      go_ret2
      exact ⟨rfl, rfl⟩
    · have hr : readOf k s = (0, 10) := by rw [readOf, if_neg hz, if_pos (by omega)]
      rw [hr]
      have HM := Lib.hid hm
      have hne : ((s.size : Int) != (m : Int)) = true := by simp; omega
      have hmz : ((m : Int) == 0) = false := by simp; omega
      clear hs hm hz hr hrg
      go_enter Tryd.func69, Tryd.ntmps69
      go_wp2_with fail
      refine (width_any _ HW.out k).mono ?_
      rintro e w1 ⟨rfl, rfl⟩
      rw [HM.out]
      go_wp2_with fail
      go_ret2
      exact ⟨rfl, rfl⟩
end Go.Proofs.YtacpfkimjaihgaaDoor
