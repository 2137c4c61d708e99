/- What is clipped stays so; its lowest bytes; its sign. -/
import Derived.Test.YtlcconooojlhhaaDoorAwake02
import Derived.Test.YtlcconooojlhhaaDoorRead
namespace Go.Proofs.YtlcconooojlhhaaDoor
open Go.RowKit
set_option linter.unusedVariables false

theorem and1_u64 (x : Int) (h0 : 0 ≤ x) (h1 : x < 18446744073709551616) : bits BinOp.and IntKind.u64 x 1 = x % 2 := by
  obtain ⟨n, rfl⟩ := Int.eq_ofNat_of_zero_le h0
  have h4 : bits BinOp.and IntKind.u64 (n : Int) 1 = IntKind.u64.wrap ((BitVec.ofInt 64 (n : Int) &&& BitVec.ofInt 64 1).toNat : Int) := rfl
  have h5 : (BitVec.ofInt 64 1).toNat = 2 ^ 1 - 1 := by decide
  rw [h4, BitVec.toNat_and, h5, Nat.and_two_pow_sub_one_eq_mod, BitVec.ofInt_natCast, BitVec.toNat_ofNat, IntKind.wrap_u64]
  omega
theorem clip_clip {k x : Int} (h0 : 0 ≤ x) (h1 : x < 18446744073709551616) : clipOf k (clipOf k x) = clipOf k x := by
  by_cases hk : k < 1 ∨ 10 ≤ k
  · rw [clipOf_out hk, clipOf_out hk]
  · rcases nine hk with rfl | rfl | rfl | rfl | rfl | rfl | rfl | rfl | rfl <;> simp [clipOf, modOf, widthOf, widths, signedOf] <;> omega
theorem cmpOf_neg (x y : Int) : cmpOf x y < 0 ↔ x < y := by unfold cmpOf; split <;> (try split) <;> omega
theorem clip_0 (k : Int) : clipOf k 0 = 0 := by
  by_cases hk : k < 1 ∨ 10 ≤ k
  · rw [clipOf_out hk]
  · rcases nine hk with rfl | rfl | rfl | rfl | rfl | rfl | rfl | rfl | rfl <;> decide
theorem clips_1 (b : Int) (h0 : 0 ≤ b) (h1 : b < 18446744073709551616) : leS (clipOf 1 b) 1 = leS b 1 ∧ (bits BinOp.and IntKind.u64 (b / 128) 1 = 0 ∨ bits BinOp.and IntKind.u64 (b / 128) 1 = 1) ∧ ¬ cmpC 1 (clipOf 1 b) 0 < 0 := by
  have hc : clipOf 1 b = b % 256 := by
    rw [clipOf, if_neg (by decide), show signedOf 1 = false from rfl, show modOf 1 = 256 from rfl]
    simp
  rw [hc, and1_u64 _ (by omega) (by omega)]
  refine ⟨?_, by omega, ?_⟩
  · simp only [leS, leL, leB, List.range_succ, List.range_zero, List.nil_append, List.map_cons, List.map_nil]
    congr 2
    simp only [List.cons.injEq, and_true]
    skip
    all_goals
      congr 2
      omega
  · rw [cmpC, if_neg (by decide), show signedOf 1 = false from rfl]
    rw [if_neg (by decide), cmpOf_neg]
    skip
    omega
theorem clips_2 (b : Int) (h0 : 0 ≤ b) (h1 : b < 18446744073709551616) : leS (clipOf 2 b) 2 = leS b 2 ∧ (bits BinOp.and IntKind.u64 (b / 32768) 1 = 0 ∨ bits BinOp.and IntKind.u64 (b / 32768) 1 = 1) ∧ ¬ cmpC 2 (clipOf 2 b) 0 < 0 := by
  have hc : clipOf 2 b = b % 65536 := by
    rw [clipOf, if_neg (by decide), show signedOf 2 = false from rfl, show modOf 2 = 65536 from rfl]
    simp
  rw [hc, and1_u64 _ (by omega) (by omega)]
  refine ⟨?_, by omega, ?_⟩
  · simp only [leS, leL, leB, List.range_succ, List.range_zero, List.nil_append, List.map_append, List.map_cons, List.map_nil]
    congr 2
    simp only [List.cons_append, List.nil_append, List.cons.injEq, and_true]
    refine ⟨?_, ?_⟩
    all_goals
      congr 2
      omega
  · rw [cmpC, if_neg (by decide), show signedOf 2 = false from rfl]
    rw [if_neg (by decide), cmpOf_neg]
    skip
    omega
theorem clips_3 (b : Int) (h0 : 0 ≤ b) (h1 : b < 18446744073709551616) : leS (clipOf 3 b) 4 = leS b 4 ∧ (bits BinOp.and IntKind.u64 (b / 2147483648) 1 = 0 ∨ bits BinOp.and IntKind.u64 (b / 2147483648) 1 = 1) ∧ ¬ cmpC 3 (clipOf 3 b) 0 < 0 := by
  have hc : clipOf 3 b = b % 4294967296 := by
    rw [clipOf, if_neg (by decide), show signedOf 3 = false from rfl, show modOf 3 = 4294967296 from rfl]
    simp
  rw [hc, and1_u64 _ (by omega) (by omega)]
  refine ⟨?_, by omega, ?_⟩
  · simp only [leS, leL, leB, List.range_succ, List.range_zero, List.nil_append, List.map_append, List.map_cons, List.map_nil]
    congr 2
    simp only [List.cons_append, List.nil_append, List.cons.injEq, and_true]
    refine ⟨?_, ?_, ?_, ?_⟩
    all_goals
      congr 2
      omega
  · rw [cmpC, if_neg (by decide), show signedOf 3 = false from rfl]
    rw [if_neg (by decide), cmpOf_neg]
    skip
    omega
theorem clips_4 (b : Int) (h0 : 0 ≤ b) (h1 : b < 18446744073709551616) : leS (clipOf 4 b) 8 = leS b 8 ∧ (bits BinOp.and IntKind.u64 (b / 9223372036854775808) 1 = 0 ∨ bits BinOp.and IntKind.u64 (b / 9223372036854775808) 1 = 1) ∧ ¬ cmpC 4 (clipOf 4 b) 0 < 0 := by
  have hc : clipOf 4 b = b % 18446744073709551616 := by
    rw [clipOf, if_neg (by decide), show signedOf 4 = false from rfl, show modOf 4 = 18446744073709551616 from rfl]
    simp
  rw [hc, and1_u64 _ (by omega) (by omega)]
  refine ⟨?_, by omega, ?_⟩
  · simp only [leS, leL, leB, List.range_succ, List.range_zero, List.nil_append, List.map_append, List.map_cons, List.map_nil]
    congr 2
    simp only [List.cons_append, List.nil_append, List.cons.injEq, and_true]
    refine ⟨?_, ?_, ?_, ?_, ?_, ?_, ?_, ?_⟩
    all_goals
      congr 2
      omega
  · rw [cmpC, if_neg (by decide), show signedOf 4 = false from rfl]
    rw [if_neg (by decide), cmpOf_neg]
    skip
    omega
theorem clips_5 (b : Int) (h0 : 0 ≤ b) (h1 : b < 18446744073709551616) : leS (clipOf 5 b) 1 = leS b 1 ∧ (bits BinOp.and IntKind.u64 (b / 128) 1 = 0 ∨ bits BinOp.and IntKind.u64 (b / 128) 1 = 1) ∧ (cmpC 5 (clipOf 5 b) 0 < 0 ↔ bits BinOp.and IntKind.u64 (b / 128) 1 = 1) := by
  have hc : clipOf 5 b = if 256 ≤ 2 * (b % 256) then 18446744073709551616 - 256 + b % 256 else b % 256 := by
    rw [clipOf, if_neg (by decide), show signedOf 5 = true from rfl, show modOf 5 = 256 from rfl]
    simp
  rw [hc, and1_u64 _ (by omega) (by omega)]
  refine ⟨?_, by omega, ?_⟩
  · simp only [leS, leL, leB, List.range_succ, List.range_zero, List.nil_append, List.map_cons, List.map_nil]
    congr 2
    simp only [List.cons.injEq, and_true]
    skip
    all_goals
      congr 2
      omega
  · rw [cmpC, if_neg (by decide), show signedOf 5 = true from rfl]
    rw [if_pos rfl, cmpOf_neg]
    simp only [s64]
    split <;> split <;> omega
theorem clips_6 (b : Int) (h0 : 0 ≤ b) (h1 : b < 18446744073709551616) : leS (clipOf 6 b) 2 = leS b 2 ∧ (bits BinOp.and IntKind.u64 (b / 32768) 1 = 0 ∨ bits BinOp.and IntKind.u64 (b / 32768) 1 = 1) ∧ (cmpC 6 (clipOf 6 b) 0 < 0 ↔ bits BinOp.and IntKind.u64 (b / 32768) 1 = 1) := by
  have hc : clipOf 6 b = if 65536 ≤ 2 * (b % 65536) then 18446744073709551616 - 65536 + b % 65536 else b % 65536 := by
    rw [clipOf, if_neg (by decide), show signedOf 6 = true from rfl, show modOf 6 = 65536 from rfl]
    simp
  rw [hc, and1_u64 _ (by omega) (by omega)]
  refine ⟨?_, by omega, ?_⟩
  · simp only [leS, leL, leB, List.range_succ, List.range_zero, List.nil_append, List.map_append, List.map_cons, List.map_nil]
    congr 2
    simp only [List.cons_append, List.nil_append, List.cons.injEq, and_true]
    refine ⟨?_, ?_⟩
    all_goals
      congr 2
      omega
  · rw [cmpC, if_neg (by decide), show signedOf 6 = true from rfl]
    rw [if_pos rfl, cmpOf_neg]
    simp only [s64]
    split <;> split <;> omega
theorem clips_7 (b : Int) (h0 : 0 ≤ b) (h1 : b < 18446744073709551616) : leS (clipOf 7 b) 4 = leS b 4 ∧ (bits BinOp.and IntKind.u64 (b / 2147483648) 1 = 0 ∨ bits BinOp.and IntKind.u64 (b / 2147483648) 1 = 1) ∧ (cmpC 7 (clipOf 7 b) 0 < 0 ↔ bits BinOp.and IntKind.u64 (b / 2147483648) 1 = 1) := by
  have hc : clipOf 7 b = if 4294967296 ≤ 2 * (b % 4294967296) then 18446744073709551616 - 4294967296 + b % 4294967296 else b % 4294967296 := by
    rw [clipOf, if_neg (by decide), show signedOf 7 = true from rfl, show modOf 7 = 4294967296 from rfl]
    simp
  rw [hc, and1_u64 _ (by omega) (by omega)]
  refine ⟨?_, by omega, ?_⟩
  · simp only [leS, leL, leB, List.range_succ, List.range_zero, List.nil_append, List.map_append, List.map_cons, List.map_nil]
    congr 2
    simp only [List.cons_append, List.nil_append, List.cons.injEq, and_true]
    refine ⟨?_, ?_, ?_, ?_⟩
    all_goals
      congr 2
      omega
  · rw [cmpC, if_neg (by decide), show signedOf 7 = true from rfl]
    rw [if_pos rfl, cmpOf_neg]
    simp only [s64]
    split <;> split <;> omega
theorem clips_8 (b : Int) (h0 : 0 ≤ b) (h1 : b < 18446744073709551616) : leS (clipOf 8 b) 8 = leS b 8 ∧ (bits BinOp.and IntKind.u64 (b / 9223372036854775808) 1 = 0 ∨ bits BinOp.and IntKind.u64 (b / 9223372036854775808) 1 = 1) ∧ (cmpC 8 (clipOf 8 b) 0 < 0 ↔ bits BinOp.and IntKind.u64 (b / 9223372036854775808) 1 = 1) := by
  have hc : clipOf 8 b = if 18446744073709551616 ≤ 2 * (b % 18446744073709551616) then 18446744073709551616 - 18446744073709551616 + b % 18446744073709551616 else b % 18446744073709551616 := by
    rw [clipOf, if_neg (by decide), show signedOf 8 = true from rfl, show modOf 8 = 18446744073709551616 from rfl]
    simp
  rw [hc, and1_u64 _ (by omega) (by omega)]
  refine ⟨?_, by omega, ?_⟩
  · simp only [leS, leL, leB, List.range_succ, List.range_zero, List.nil_append, List.map_append, List.map_cons, List.map_nil]
    congr 2
    simp only [List.cons_append, List.nil_append, List.cons.injEq, and_true]
    refine ⟨?_, ?_, ?_, ?_, ?_, ?_, ?_, ?_⟩
    all_goals
      congr 2
      omega
  · rw [cmpC, if_neg (by decide), show signedOf 8 = true from rfl]
    rw [if_pos rfl, cmpOf_neg]
    simp only [s64]
    split <;> split <;> omega
theorem clips_9 (b : Int) (h0 : 0 ≤ b) (h1 : b < 18446744073709551616) : leS (clipOf 9 b) 8 = leS b 8 ∧ (bits BinOp.and IntKind.u64 (b / 9223372036854775808) 1 = 0 ∨ bits BinOp.and IntKind.u64 (b / 9223372036854775808) 1 = 1) := by
  have hc : clipOf 9 b = b % 18446744073709551616 := by
    rw [clipOf, if_neg (by decide), show signedOf 9 = false from rfl, show modOf 9 = 18446744073709551616 from rfl]
    simp
  rw [hc, and1_u64 _ (by omega) (by omega)]
  refine ⟨?_, by omega⟩
  · simp only [leS, leL, leB, List.range_succ, List.range_zero, List.nil_append, List.map_append, List.map_cons, List.map_nil]
    congr 2
    simp only [List.cons_append, List.nil_append, List.cons.injEq, and_true]
    refine ⟨?_, ?_, ?_, ?_, ?_, ?_, ?_, ?_⟩
    all_goals
      congr 2
      omega
end Go.Proofs.YtlcconooojlhhaaDoor
