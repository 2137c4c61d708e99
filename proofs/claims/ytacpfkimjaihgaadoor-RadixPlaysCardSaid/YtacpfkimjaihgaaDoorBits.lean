/- x & (2^m - 1) of an int is x modulo 2^m. No conditions but m ≤ 62. -/
import Derived.WalkKit
namespace Go.Proofs.YtacpfkimjaihgaaDoor
theorem and_mask_i64 (x : Int) (m : Nat) (hm : m ≤ 62) : bits BinOp.and IntKind.i64 x ((2 ^ m - 1 : Nat) : Int) = x % ((2 ^ m : Nat) : Int) := by
  have hpow : (2 : Nat) ^ m ≤ 2 ^ 62 := Nat.pow_le_pow_right (by omega) hm
  have h1 : (BitVec.ofInt 64 x &&& BitVec.ofInt 64 ((2 ^ m - 1 : Nat) : Int)).toNat = (BitVec.ofInt 64 x).toNat % 2 ^ m := by
    rw [BitVec.toNat_and]
    have : (BitVec.ofInt 64 ((2 ^ m - 1 : Nat) : Int)).toNat = 2 ^ m - 1 := by
      rw [BitVec.ofInt_natCast, BitVec.toNat_ofNat, Nat.mod_eq_of_lt (by omega)]
    rw [this, Nat.and_two_pow_sub_one_eq_mod]
  have h2 : ((BitVec.ofInt 64 x).toNat : Int) = x % (2 ^ 64 : Nat) := by
    rw [BitVec.toNat_ofInt]
    exact Int.toNat_of_nonneg (Int.emod_nonneg _ (by decide))
  have h3 : (((BitVec.ofInt 64 x).toNat % 2 ^ m : Nat) : Int) = x % ((2 ^ m : Nat) : Int) := by
    rw [Int.natCast_emod, h2]
    refine Int.emod_emod_of_dvd x ?_
    exact Int.natCast_dvd_natCast.2 (Nat.pow_dvd_pow 2 (by omega))
  have h4 : bits BinOp.and IntKind.i64 x ((2 ^ m - 1 : Nat) : Int) = IntKind.i64.wrap ((BitVec.ofInt 64 x &&& BitVec.ofInt 64 ((2 ^ m - 1 : Nat) : Int)).toNat : Int) := rfl
  rw [h4, h1, h3]
  have hlt := Int.emod_lt_of_pos x (show (0 : Int) < ((2 ^ m : Nat) : Int) by have := Nat.two_pow_pos m; omega)
  have hge := Int.emod_nonneg x (show ((2 ^ m : Nat) : Int) ≠ 0 by have := Nat.two_pow_pos m; omega)
  rw [IntKind.wrap_i64]
  omega
theorem and15 (x : Int) : bits BinOp.and IntKind.i64 x 15 = x % 16 := and_mask_i64 x 4 (by omega)
theorem and7 (x : Int) : bits BinOp.and IntKind.i64 x 7 = x % 8 := and_mask_i64 x 3 (by omega)
theorem and31 (x : Int) : bits BinOp.and IntKind.i64 x 31 = x % 32 := and_mask_i64 x 5 (by omega)
theorem and3 (x : Int) : bits BinOp.and IntKind.i64 x 3 = x % 4 := and_mask_i64 x 2 (by omega)
theorem and63 (x : Int) : bits BinOp.and IntKind.i64 x 63 = x % 64 := and_mask_i64 x 6 (by omega)
theorem and1 (x : Int) : bits BinOp.and IntKind.i64 x 1 = x % 2 := and_mask_i64 x 1 (by omega)
theorem and4095 (x : Int) : bits BinOp.and IntKind.i64 x 4095 = x % 4096 := and_mask_i64 x 12 (by omega)
theorem and255 (x : Int) : bits BinOp.and IntKind.i64 x 255 = x % 256 := and_mask_i64 x 8 (by omega)
theorem and_mask_u8 (x : Int) (m : Nat) (hm : m ≤ 7) : bits BinOp.and IntKind.u8 x ((2 ^ m - 1 : Nat) : Int) = x % ((2 ^ m : Nat) : Int) := by
  have hpow : (2 : Nat) ^ m ≤ 2 ^ 7 := Nat.pow_le_pow_right (by omega) hm
  have h1 : (BitVec.ofInt 8 x &&& BitVec.ofInt 8 ((2 ^ m - 1 : Nat) : Int)).toNat = (BitVec.ofInt 8 x).toNat % 2 ^ m := by
    rw [BitVec.toNat_and]
    have : (BitVec.ofInt 8 ((2 ^ m - 1 : Nat) : Int)).toNat = 2 ^ m - 1 := by
      rw [BitVec.ofInt_natCast, BitVec.toNat_ofNat, Nat.mod_eq_of_lt (by omega)]
    rw [this, Nat.and_two_pow_sub_one_eq_mod]
  have h2 : ((BitVec.ofInt 8 x).toNat : Int) = x % (2 ^ 8 : Nat) := by
    rw [BitVec.toNat_ofInt]
    exact Int.toNat_of_nonneg (Int.emod_nonneg _ (by decide))
  have h3 : (((BitVec.ofInt 8 x).toNat % 2 ^ m : Nat) : Int) = x % ((2 ^ m : Nat) : Int) := by
    rw [Int.natCast_emod, h2]
    refine Int.emod_emod_of_dvd x ?_
    exact Int.natCast_dvd_natCast.2 (Nat.pow_dvd_pow 2 (by omega))
  have h4 : bits BinOp.and IntKind.u8 x ((2 ^ m - 1 : Nat) : Int) = IntKind.u8.wrap ((BitVec.ofInt 8 x &&& BitVec.ofInt 8 ((2 ^ m - 1 : Nat) : Int)).toNat : Int) := rfl
  rw [h4, h1, h3]
  have hlt := Int.emod_lt_of_pos x (show (0 : Int) < ((2 ^ m : Nat) : Int) by have := Nat.two_pow_pos m; omega)
  have hge := Int.emod_nonneg x (show ((2 ^ m : Nat) : Int) ≠ 0 by have := Nat.two_pow_pos m; omega)
  clear h1 h2 h3 h4 hm
  generalize (2 : Nat) ^ m = p at *
  generalize x % (p : Int) = r at *
  have : r % 256 = r := by omega
  simpa [IntKind.wrap, IntKind.bits, IntKind.signed] using this
theorem and7_u8 (x : Int) : bits BinOp.and IntKind.u8 x 7 = x % 8 := and_mask_u8 x 3 (by omega)
end Go.Proofs.YtacpfkimjaihgaaDoor
