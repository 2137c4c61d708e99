/- Bits of a 64-bit number: one bit, an or. No conditions. -/
import Derived.WalkKit
namespace Go.Proofs.YtacpfkimjaihgaaDoor

theorem and_pow (n k : Nat) : n &&& 2 ^ k = n / 2 ^ k % 2 * 2 ^ k := by
  have hb := Nat.testBit_eq_decide_div_mod_eq (x := n) (i := k)
  rcases Nat.mod_two_eq_zero_or_one (n / 2 ^ k) with h | h
  · rw [h, Nat.zero_mul]
    apply Nat.eq_of_testBit_eq
    intro i
    rw [Nat.testBit_and, Nat.testBit_two_pow, Nat.zero_testBit]
    by_cases e : k = i
    · subst e
      rw [hb, h]; simp
    · simp [e]
  · rw [h, Nat.one_mul]
    apply Nat.eq_of_testBit_eq
    intro i
    rw [Nat.testBit_and, Nat.testBit_two_pow]
    by_cases e : k = i
    · subst e
      rw [hb, h]; simp
    · simp [e]
theorem bit_nat (n k : Nat) (hk : k < 64) (hn : n < 18446744073709551616) : bits BinOp.and IntKind.u64 (n : Int) ((2 ^ k : Nat) : Int) = ((n / 2 ^ k % 2 * 2 ^ k : Nat) : Int) := by
  have hpow : (2 : Nat) ^ k < 2 ^ 64 := Nat.pow_lt_pow_right (by omega) hk
  have h1 : (BitVec.ofInt 64 (n : Int) &&& BitVec.ofInt 64 ((2 ^ k : Nat) : Int)).toNat = n / 2 ^ k % 2 * 2 ^ k := by
    rw [BitVec.toNat_and, BitVec.ofInt_natCast, BitVec.ofInt_natCast, BitVec.toNat_ofNat, BitVec.toNat_ofNat, Nat.mod_eq_of_lt (by omega), Nat.mod_eq_of_lt (by omega), and_pow]
  have h4 : bits BinOp.and IntKind.u64 (n : Int) ((2 ^ k : Nat) : Int) = IntKind.u64.wrap ((BitVec.ofInt 64 (n : Int) &&& BitVec.ofInt 64 ((2 ^ k : Nat) : Int)).toNat : Int) := rfl
  rw [h4, h1]
  have hle : n / 2 ^ k % 2 * 2 ^ k ≤ 2 ^ k := by
    rcases Nat.mod_two_eq_zero_or_one (n / 2 ^ k) with h | h <;> simp [h]
  generalize n / 2 ^ k % 2 * 2 ^ k = r at *
  have : ((r : Nat) : Int) % 18446744073709551616 = (r : Int) := by omega
  simpa [IntKind.wrap, IntKind.bits, IntKind.signed] using this
theorem or_nat (a b : Nat) (ha : a < 18446744073709551616) (hb : b < 18446744073709551616) : bits BinOp.or IntKind.u64 (a : Int) (b : Int) = ((a ||| b : Nat) : Int) := by
  have h1 : (BitVec.ofInt 64 (a : Int) ||| BitVec.ofInt 64 (b : Int)).toNat = a ||| b := by
    rw [BitVec.toNat_or, BitVec.ofInt_natCast, BitVec.ofInt_natCast, BitVec.toNat_ofNat, BitVec.toNat_ofNat, Nat.mod_eq_of_lt (by omega), Nat.mod_eq_of_lt (by omega)]
  have h4 : bits BinOp.or IntKind.u64 (a : Int) (b : Int) = IntKind.u64.wrap ((BitVec.ofInt 64 (a : Int) ||| BitVec.ofInt 64 (b : Int)).toNat : Int) := rfl
  have hlt : a ||| b < 2 ^ 64 := Nat.or_lt_two_pow (by omega) (by omega)
  rw [h4, h1]
  generalize a ||| b = r at *
  have : ((r : Nat) : Int) % 18446744073709551616 = (r : Int) := by omega
  simpa [IntKind.wrap, IntKind.bits, IntKind.signed] using this
/-- Parts that don't meet. -/
theorem or_add (a b i : Nat) (hb : b < 2 ^ i) : 2 ^ i * a ||| b = 2 ^ i * a + b := (Nat.two_pow_add_eq_or_of_lt hb a).symm

theorem and_1 (x : Int) (h0 : 0 ≤ x) (h1 : x < 18446744073709551616) : bits BinOp.and IntKind.u64 x 1 = x % 2 := by
  obtain ⟨n, rfl⟩ := Int.eq_ofNat_of_zero_le h0
  have := bit_nat n 0 (by omega) (by omega)
  simp at this
  exact this
theorem and_2 (x : Int) (h0 : 0 ≤ x) (h1 : x < 18446744073709551616) : bits BinOp.and IntKind.u64 x 2 = x / 2 % 2 * 2 := by
  obtain ⟨n, rfl⟩ := Int.eq_ofNat_of_zero_le h0
  have := bit_nat n 1 (by omega) (by omega)
  simp at this
  exact this
theorem and_4 (x : Int) (h0 : 0 ≤ x) (h1 : x < 18446744073709551616) : bits BinOp.and IntKind.u64 x 4 = x / 4 % 2 * 4 := by
  obtain ⟨n, rfl⟩ := Int.eq_ofNat_of_zero_le h0
  have := bit_nat n 2 (by omega) (by omega)
  simp at this
  exact this
theorem and_8 (x : Int) (h0 : 0 ≤ x) (h1 : x < 18446744073709551616) : bits BinOp.and IntKind.u64 x 8 = x / 8 % 2 * 8 := by
  obtain ⟨n, rfl⟩ := Int.eq_ofNat_of_zero_le h0
  have := bit_nat n 3 (by omega) (by omega)
  simp at this
  exact this
/-- Four flags below a number. -/
theorem or_flags (n : Int) (h0 : 0 ≤ n) (h1 : n ≤ 16777216) (a b c d : Int) (ha : a = 0 ∨ a = 1) (hb : b = 0 ∨ b = 2) (hc : c = 0 ∨ c = 4) (hd : d = 0 ∨ d = 8) :
    bits BinOp.or IntKind.u64 (n * 16) a = n * 16 + a ∧ bits BinOp.or IntKind.u64 (n * 16 + a) b = n * 16 + a + b ∧ bits BinOp.or IntKind.u64 (n * 16 + a + b) c = n * 16 + a + b + c ∧ bits BinOp.or IntKind.u64 (n * 16 + a + b + c) d = n * 16 + a + b + c + d := by
  obtain ⟨n, rfl⟩ := Int.eq_ofNat_of_zero_le h0
  have key : ∀ x y : Nat, x < 16 → y < 16 → x ||| y = x + y → bits BinOp.or IntKind.u64 ((n * 16 + x : Nat) : Int) (y : Int) = ((n * 16 + (x + y) : Nat) : Int) := by
    intro x y hx hy hxy
    rw [or_nat _ _ (by omega) (by omega)]
    congr 1
    have e1 : n * 16 + x = 2 ^ 4 * n ||| x := by rw [or_add n x 4 (by omega)]; omega
    have e2 : n * 16 + (x + y) = 2 ^ 4 * n ||| (x + y) := by rw [or_add n (x + y) 4 (by rw [← hxy]; exact Nat.or_lt_two_pow (n := 4) (by omega) (by omega))]; omega
    rw [e1, e2, ← hxy, Nat.or_assoc]
  obtain ⟨a, rfl⟩ := Int.eq_ofNat_of_zero_le (show 0 ≤ a by omega)
  obtain ⟨b, rfl⟩ := Int.eq_ofNat_of_zero_le (show 0 ≤ b by omega)
  obtain ⟨c, rfl⟩ := Int.eq_ofNat_of_zero_le (show 0 ≤ c by omega)
  obtain ⟨d, rfl⟩ := Int.eq_ofNat_of_zero_le (show 0 ≤ d by omega)
  have ha : a = 0 ∨ a = 1 := by omega
  have hb : b = 0 ∨ b = 2 := by omega
  have hc : c = 0 ∨ c = 4 := by omega
  have hd : d = 0 ∨ d = 8 := by omega
  have k1 := key 0 a (by omega) (by omega) (by simp)
  have k2 := key a b (by omega) (by omega) (by rcases ha with rfl | rfl <;> rcases hb with rfl | rfl <;> rfl)
  have k3 := key (a + b) c (by omega) (by omega) (by rcases ha with rfl | rfl <;> rcases hb with rfl | rfl <;> rcases hc with rfl | rfl <;> rfl)
  have k4 := key (a + b + c) d (by omega) (by omega) (by rcases ha with rfl | rfl <;> rcases hb with rfl | rfl <;> rcases hc with rfl | rfl <;> rcases hd with rfl | rfl <;> rfl)
  simp only [Nat.add_zero, Nat.zero_add, Int.natCast_add, Int.natCast_mul, ← Int.add_assoc, Int.cast_ofNat_Int] at k1 k2 k3 k4
  exact ⟨k1, k2, k3, k4⟩
end Go.Proofs.YtacpfkimjaihgaaDoor
