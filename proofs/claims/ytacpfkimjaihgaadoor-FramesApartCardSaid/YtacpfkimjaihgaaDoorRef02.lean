/- The document's layer 2: Width, Signed, Clip. -/
import Derived.Test.YtacpfkimjaihgaaDoorClip
import Derived.Lib.EndianBits
namespace Go.Proofs.YtacpfkimjaihgaaDoor
open Go.RowKit
set_option linter.unusedVariables false

theorem rsigned_any (w : World) (k : Int) : Calls Tryd.prog 72 #[.int .i64 k] w fun e w' => e = .returned (.bool (signedOf k)) ∧ w = w' := by
  by_cases h1 : 5 ≤ k
  · by_cases h2 : k ≤ 8
    · have : signedOf k = true := by simp [signedOf, h1, h2]
      rw [this]
      go_enter Tryd.func72, Tryd.ntmps72
      go_wp2
      go_ret
      exact ⟨rfl, rfl⟩
    · have : signedOf k = false := by simp [signedOf, h2]
      rw [this]
      go_enter Tryd.func72, Tryd.ntmps72
      go_wp2
      go_ret
      exact ⟨rfl, rfl⟩
  · have : signedOf k = false := by simp [signedOf, h1]
    rw [this]
    go_enter Tryd.func72, Tryd.ntmps72
    go_wp2
    go_ret
    exact ⟨rfl, rfl⟩
theorem rwidth_any (w : World) (k : Int) : Calls Tryd.prog 24 #[.int .i64 k] w fun e w' => e = .returned (.int .i64 (widthOf k)) ∧ w = w' := by
  by_cases hk : k < 1 ∨ 10 ≤ k
  · rw [widthOf_out hk]
    have n1 : (k == (1 : Int)) = false := by simp; omega
    have n2 : (k == (2 : Int)) = false := by simp; omega
    have n3 : (k == (3 : Int)) = false := by simp; omega
    have n4 : (k == (4 : Int)) = false := by simp; omega
    have n5 : (k == (5 : Int)) = false := by simp; omega
    have n6 : (k == (6 : Int)) = false := by simp; omega
    have n7 : (k == (7 : Int)) = false := by simp; omega
    have n8 : (k == (8 : Int)) = false := by simp; omega
    have n9 : (k == (9 : Int)) = false := by simp; omega
    clear hk
    go_enter Tryd.func24, Tryd.ntmps24
    go_wp2
    go_ret
    exact ⟨rfl, rfl⟩
  · rcases nine hk with rfl | rfl | rfl | rfl | rfl | rfl | rfl | rfl | rfl
    all_goals
      go_enter Tryd.func24, Tryd.ntmps24
      go_wp2
      go_ret
      exact ⟨rfl, rfl⟩
theorem and_mask_u64 (x : Int) (m : Nat) (hm : m ≤ 63) (h0 : 0 ≤ x) (h1 : x < 18446744073709551616) : bits BinOp.and IntKind.u64 x ((2 ^ m - 1 : Nat) : Int) = x % ((2 ^ m : Nat) : Int) := by
  obtain ⟨n, rfl⟩ := Int.eq_ofNat_of_zero_le h0
  have hpow : (2 : Nat) ^ m ≤ 2 ^ 63 := Nat.pow_le_pow_right (by omega) hm
  have h4 : bits BinOp.and IntKind.u64 (n : Int) ((2 ^ m - 1 : Nat) : Int) = IntKind.u64.wrap ((BitVec.ofInt 64 (n : Int) &&& BitVec.ofInt 64 ((2 ^ m - 1 : Nat) : Int)).toNat : Int) := rfl
  have h5 : (BitVec.ofInt 64 ((2 ^ m - 1 : Nat) : Int)).toNat = 2 ^ m - 1 := by
    rw [BitVec.ofInt_natCast, BitVec.toNat_ofNat, Nat.mod_eq_of_lt (by omega)]
  have hn : n % 2 ^ 64 = n := Nat.mod_eq_of_lt (by omega)
  rw [h4, BitVec.toNat_and, h5, Nat.and_two_pow_sub_one_eq_mod, BitVec.ofInt_natCast, BitVec.toNat_ofNat, IntKind.wrap_u64, hn]
  have := Nat.mod_lt n (Nat.two_pow_pos m)
  omega
set_option maxHeartbeats 1000000
theorem rclip_1 (w : World) (x : Int) (h0 : 0 ≤ x) (h1 : x < 18446744073709551616) : Calls Tryd.prog 27 #[.int .i64 1, .int .u64 x] w fun e w' => e = .returned (.int .u64 (x % 256)) ∧ w = w' := by
  have hand : bits BinOp.and IntKind.u64 x 255 = x % 256 := and_mask_u64 x 8 (by omega) h0 h1
  go_enter Tryd.func27, Tryd.ntmps27
  go_wp2_with fail
  refine (rwidth_any _ 1).mono ?_
  rintro e w1 ⟨rfl, rfl⟩
  rw [show widthOf 1 = 1 from rfl]
  go_wp2_with fail
  refine (rsigned_any _ 1).mono ?_
  rintro e w1 ⟨rfl, rfl⟩
  rw [show signedOf 1 = false from rfl]
  go_wp2_with fail
  go_ret
  exact ⟨rfl, rfl⟩
theorem rclip_2 (w : World) (x : Int) (h0 : 0 ≤ x) (h1 : x < 18446744073709551616) : Calls Tryd.prog 27 #[.int .i64 2, .int .u64 x] w fun e w' => e = .returned (.int .u64 (x % 65536)) ∧ w = w' := by
  have hand : bits BinOp.and IntKind.u64 x 65535 = x % 65536 := and_mask_u64 x 16 (by omega) h0 h1
  go_enter Tryd.func27, Tryd.ntmps27
  go_wp2_with fail
  refine (rwidth_any _ 2).mono ?_
  rintro e w1 ⟨rfl, rfl⟩
  rw [show widthOf 2 = 2 from rfl]
  go_wp2_with fail
  refine (rsigned_any _ 2).mono ?_
  rintro e w1 ⟨rfl, rfl⟩
  rw [show signedOf 2 = false from rfl]
  go_wp2_with fail
  go_ret
  exact ⟨rfl, rfl⟩
theorem rclip_3 (w : World) (x : Int) (h0 : 0 ≤ x) (h1 : x < 18446744073709551616) : Calls Tryd.prog 27 #[.int .i64 3, .int .u64 x] w fun e w' => e = .returned (.int .u64 (x % 4294967296)) ∧ w = w' := by
  have hand : bits BinOp.and IntKind.u64 x 4294967295 = x % 4294967296 := and_mask_u64 x 32 (by omega) h0 h1
  go_enter Tryd.func27, Tryd.ntmps27
  go_wp2_with fail
  refine (rwidth_any _ 3).mono ?_
  rintro e w1 ⟨rfl, rfl⟩
  rw [show widthOf 3 = 4 from rfl]
  go_wp2_with fail
  refine (rsigned_any _ 3).mono ?_
  rintro e w1 ⟨rfl, rfl⟩
  rw [show signedOf 3 = false from rfl]
  go_wp2_with fail
  go_ret
  exact ⟨rfl, rfl⟩
theorem rclip_4 (w : World) (x : Int) (h0 : 0 ≤ x) (h1 : x < 18446744073709551616) : Calls Tryd.prog 27 #[.int .i64 4, .int .u64 x] w fun e w' => e = .returned (.int .u64 (x % 18446744073709551616)) ∧ w = w' := by
  go_enter Tryd.func27, Tryd.ntmps27
  go_wp2_with fail
  refine (rwidth_any _ 4).mono ?_
  rintro e w1 ⟨rfl, rfl⟩
  rw [show widthOf 4 = 8 from rfl]
  go_wp2_with fail
  all_goals
    go_ret
    refine ⟨congrArg (fun z => Ending.returned (Value.int IntKind.u64 z)) ?_, rfl⟩
    omega
theorem rclip_5 (w : World) (x : Int) (h0 : 0 ≤ x) (h1 : x < 18446744073709551616) : Calls Tryd.prog 27 #[.int .i64 5, .int .u64 x] w fun e w' => e = .returned (.int .u64 (if 256 ≤ 2 * (x % 256) then 18446744073709551616 - 256 + x % 256 else x % 256)) ∧ w = w' := by
  have hand : bits BinOp.and IntKind.u64 x 255 = x % 256 := and_mask_u64 x 8 (by omega) h0 h1
  generalize hy : x % 256 = y at *
  have hy0 : 0 ≤ y ∧ y < 256 := by omega
  obtain ⟨hy0, hy1⟩ := hy0
  have hor := u64_or8 y 18446744073709551360 hy0 hy1 (by omega) (by omega) (by omega)
  have hwrp : IntKind.u64.wrap 4722366482869645213440 = 18446744073709551360 := by rw [IntKind.wrap_u64]; rfl
  clear hy
  by_cases ht : 256 ≤ 2 * y
  · have htop : ((y / 128 == 1) = true) := by simp; omega
    rw [if_pos ht]
    go_enter Tryd.func27, Tryd.ntmps27
    go_wp2_with fail
    refine (rwidth_any _ 5).mono ?_
    rintro e w1 ⟨rfl, rfl⟩
    rw [show widthOf 5 = 1 from rfl]
    go_wp2_with fail
    refine (rsigned_any _ 5).mono ?_
    rintro e w1 ⟨rfl, rfl⟩
    rw [show signedOf 5 = true from rfl]
    go_wp2_with fail
    go_ret
    refine ⟨congrArg (fun z => Ending.returned (Value.int IntKind.u64 z)) ?_, rfl⟩
    omega
  · have htop : ((y / 128 == 1) = false) := by simp; omega
    rw [if_neg ht]
    go_enter Tryd.func27, Tryd.ntmps27
    go_wp2_with fail
    refine (rwidth_any _ 5).mono ?_
    rintro e w1 ⟨rfl, rfl⟩
    rw [show widthOf 5 = 1 from rfl]
    go_wp2_with fail
    refine (rsigned_any _ 5).mono ?_
    rintro e w1 ⟨rfl, rfl⟩
    rw [show signedOf 5 = true from rfl]
    go_wp2_with fail
    go_ret
    exact ⟨rfl, rfl⟩
theorem rclip_6 (w : World) (x : Int) (h0 : 0 ≤ x) (h1 : x < 18446744073709551616) : Calls Tryd.prog 27 #[.int .i64 6, .int .u64 x] w fun e w' => e = .returned (.int .u64 (if 65536 ≤ 2 * (x % 65536) then 18446744073709551616 - 65536 + x % 65536 else x % 65536)) ∧ w = w' := by
  have hand : bits BinOp.and IntKind.u64 x 65535 = x % 65536 := and_mask_u64 x 16 (by omega) h0 h1
  generalize hy : x % 65536 = y at *
  have hy0 : 0 ≤ y ∧ y < 65536 := by omega
  obtain ⟨hy0, hy1⟩ := hy0
  have hor := u64_or16 y 18446744073709486080 hy0 hy1 (by omega) (by omega) (by omega)
  have hwrp : IntKind.u64.wrap 1208925819614629174640640 = 18446744073709486080 := by rw [IntKind.wrap_u64]; rfl
  clear hy
  by_cases ht : 65536 ≤ 2 * y
  · have htop : ((y / 32768 == 1) = true) := by simp; omega
    rw [if_pos ht]
    go_enter Tryd.func27, Tryd.ntmps27
    go_wp2_with fail
    refine (rwidth_any _ 6).mono ?_
    rintro e w1 ⟨rfl, rfl⟩
    rw [show widthOf 6 = 2 from rfl]
    go_wp2_with fail
    refine (rsigned_any _ 6).mono ?_
    rintro e w1 ⟨rfl, rfl⟩
    rw [show signedOf 6 = true from rfl]
    go_wp2_with fail
    go_ret
    refine ⟨congrArg (fun z => Ending.returned (Value.int IntKind.u64 z)) ?_, rfl⟩
    omega
  · have htop : ((y / 32768 == 1) = false) := by simp; omega
    rw [if_neg ht]
    go_enter Tryd.func27, Tryd.ntmps27
    go_wp2_with fail
    refine (rwidth_any _ 6).mono ?_
    rintro e w1 ⟨rfl, rfl⟩
    rw [show widthOf 6 = 2 from rfl]
    go_wp2_with fail
    refine (rsigned_any _ 6).mono ?_
    rintro e w1 ⟨rfl, rfl⟩
    rw [show signedOf 6 = true from rfl]
    go_wp2_with fail
    go_ret
    exact ⟨rfl, rfl⟩
theorem rclip_7 (w : World) (x : Int) (h0 : 0 ≤ x) (h1 : x < 18446744073709551616) : Calls Tryd.prog 27 #[.int .i64 7, .int .u64 x] w fun e w' => e = .returned (.int .u64 (if 4294967296 ≤ 2 * (x % 4294967296) then 18446744073709551616 - 4294967296 + x % 4294967296 else x % 4294967296)) ∧ w = w' := by
  have hand : bits BinOp.and IntKind.u64 x 4294967295 = x % 4294967296 := and_mask_u64 x 32 (by omega) h0 h1
  generalize hy : x % 4294967296 = y at *
  have hy0 : 0 ≤ y ∧ y < 4294967296 := by omega
  obtain ⟨hy0, hy1⟩ := hy0
  have hor := u64_or32 y 18446744069414584320 hy0 hy1 (by omega) (by omega) (by omega)
  have hwrp : IntKind.u64.wrap 79228162514264337589248983040 = 18446744069414584320 := by rw [IntKind.wrap_u64]; rfl
  clear hy
  by_cases ht : 4294967296 ≤ 2 * y
  · have htop : ((y / 2147483648 == 1) = true) := by simp; omega
    rw [if_pos ht]
    go_enter Tryd.func27, Tryd.ntmps27
    go_wp2_with fail
    refine (rwidth_any _ 7).mono ?_
    rintro e w1 ⟨rfl, rfl⟩
    rw [show widthOf 7 = 4 from rfl]
    go_wp2_with fail
    refine (rsigned_any _ 7).mono ?_
    rintro e w1 ⟨rfl, rfl⟩
    rw [show signedOf 7 = true from rfl]
    go_wp2_with fail
    go_ret
    refine ⟨congrArg (fun z => Ending.returned (Value.int IntKind.u64 z)) ?_, rfl⟩
    omega
  · have htop : ((y / 2147483648 == 1) = false) := by simp; omega
    rw [if_neg ht]
    go_enter Tryd.func27, Tryd.ntmps27
    go_wp2_with fail
    refine (rwidth_any _ 7).mono ?_
    rintro e w1 ⟨rfl, rfl⟩
    rw [show widthOf 7 = 4 from rfl]
    go_wp2_with fail
    refine (rsigned_any _ 7).mono ?_
    rintro e w1 ⟨rfl, rfl⟩
    rw [show signedOf 7 = true from rfl]
    go_wp2_with fail
    go_ret
    exact ⟨rfl, rfl⟩
theorem rclip_8 (w : World) (x : Int) (h0 : 0 ≤ x) (h1 : x < 18446744073709551616) : Calls Tryd.prog 27 #[.int .i64 8, .int .u64 x] w fun e w' => e = .returned (.int .u64 (if 18446744073709551616 ≤ 2 * (x % 18446744073709551616) then 18446744073709551616 - 18446744073709551616 + x % 18446744073709551616 else x % 18446744073709551616)) ∧ w = w' := by
  go_enter Tryd.func27, Tryd.ntmps27
  go_wp2_with fail
  refine (rwidth_any _ 8).mono ?_
  rintro e w1 ⟨rfl, rfl⟩
  rw [show widthOf 8 = 8 from rfl]
  go_wp2_with fail
  all_goals
    go_ret
    refine ⟨congrArg (fun z => Ending.returned (Value.int IntKind.u64 z)) ?_, rfl⟩
    omega
theorem rclip_9 (w : World) (x : Int) (h0 : 0 ≤ x) (h1 : x < 18446744073709551616) : Calls Tryd.prog 27 #[.int .i64 9, .int .u64 x] w fun e w' => e = .returned (.int .u64 (x % 18446744073709551616)) ∧ w = w' := by
  go_enter Tryd.func27, Tryd.ntmps27
  go_wp2_with fail
  refine (rwidth_any _ 9).mono ?_
  rintro e w1 ⟨rfl, rfl⟩
  rw [show widthOf 9 = 8 from rfl]
  go_wp2_with fail
  all_goals
    go_ret
    refine ⟨congrArg (fun z => Ending.returned (Value.int IntKind.u64 z)) ?_, rfl⟩
    omega
theorem rclip_any (w : World) (k x : Int) (h0 : 0 ≤ x) (h1 : x < 18446744073709551616) : Calls Tryd.prog 27 #[.int .i64 k, .int .u64 x] w fun e w' => e = .returned (.int .u64 (clipOf k x)) ∧ w = w' := by
  by_cases hk : k < 1 ∨ 10 ≤ k
  · rw [clipOf_out hk]
    have hz := widthOf_out hk
    have HZ := Lib.hid hz
    clear hk hz
    go_enter Tryd.func27, Tryd.ntmps27
    go_wp2_with fail
    refine (rwidth_any _ k).mono ?_
    rintro e w1 ⟨rfl, rfl⟩
    rw [HZ.out]
    go_wp2_with fail
    go_ret
    exact ⟨rfl, rfl⟩
  · rcases nine hk with rfl | rfl | rfl | rfl | rfl | rfl | rfl | rfl | rfl
    · exact (rclip_1 w x h0 h1).mono fun e w' h => h
    · exact (rclip_2 w x h0 h1).mono fun e w' h => h
    · exact (rclip_3 w x h0 h1).mono fun e w' h => h
    · exact (rclip_4 w x h0 h1).mono fun e w' h => h
    · have hc : clipOf 5 x = if 256 ≤ 2 * (x % 256) then 18446744073709551616 - 256 + x % 256 else x % 256 := by
        rw [clipOf, if_neg (by decide), show signedOf 5 = true from rfl, show modOf 5 = 256 from rfl]
        simp only [true_and]
      rw [hc]
      exact rclip_5 w x h0 h1
    · have hc : clipOf 6 x = if 65536 ≤ 2 * (x % 65536) then 18446744073709551616 - 65536 + x % 65536 else x % 65536 := by
        rw [clipOf, if_neg (by decide), show signedOf 6 = true from rfl, show modOf 6 = 65536 from rfl]
        simp only [true_and]
      rw [hc]
      exact rclip_6 w x h0 h1
    · have hc : clipOf 7 x = if 4294967296 ≤ 2 * (x % 4294967296) then 18446744073709551616 - 4294967296 + x % 4294967296 else x % 4294967296 := by
        rw [clipOf, if_neg (by decide), show signedOf 7 = true from rfl, show modOf 7 = 4294967296 from rfl]
        simp only [true_and]
      rw [hc]
      exact rclip_7 w x h0 h1
    · have hc : clipOf 8 x = if 18446744073709551616 ≤ 2 * (x % 18446744073709551616) then 18446744073709551616 - 18446744073709551616 + x % 18446744073709551616 else x % 18446744073709551616 := by
        rw [clipOf, if_neg (by decide), show signedOf 8 = true from rfl, show modOf 8 = 18446744073709551616 from rfl]
        simp only [true_and]
      rw [hc]
      exact rclip_8 w x h0 h1
    · exact (rclip_9 w x h0 h1).mono fun e w' h => h
end Go.Proofs.YtacpfkimjaihgaaDoor
