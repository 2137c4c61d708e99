/- Words of F64: the whole number in one; what cut gives. -/
import Derived.Test.YtlcconooojlhhaaDoorFloat
namespace Go.Proofs.YtlcconooojlhhaaDoor
open Go.RowKit

theorem cut_zero (s : Bool) (n drop : Nat) : Ieee.Toward.zero.cut s n drop = n / 2 ^ drop := by
  unfold Ieee.Toward.cut
  simp only [Bool.toNat_false, Nat.add_zero, Nat.one_shiftLeft]
  by_cases h : drop ≤ n.log2 + 2
  · rw [Nat.min_eq_left h]
  · rw [Nat.min_eq_right (by omega)]
    have h1 : n < 2 ^ (n.log2 + 1) := Nat.lt_log2_self
    rw [Nat.div_eq_of_lt (Nat.lt_of_lt_of_le h1 (Nat.pow_le_pow_right (by omega) (by omega))), Nat.div_eq_of_lt (Nat.lt_of_lt_of_le h1 (Nat.pow_le_pow_right (by omega) (by omega)))]
def mantF (r : Nat) : Nat := if r < 2 ^ 52 then r else 2 ^ 52 + r % 2 ^ 52
/-- The whole number in a magnitude. -/
def wholeF (r : Nat) : Nat := mantF r * 2 ^ (r / 2 ^ 52 - 1 - 1074) / 2 ^ (1074 - (r / 2 ^ 52 - 1))
theorem toInt_num {b : Nat} (h : rungF b < 2047 * 2 ^ 52) : (FloatKind.f64.decode b).toInt .zero = some (if negF b then -(wholeF (rungF b) : Int) else wholeF (rungF b)) := by
  unfold FloatKind.decode
  rw [read_num h]
  simp only [Ieee.Datum.toInt, Ieee.Datum.integral, cut_zero, signed_val, Nat.pow_zero, Nat.mul_one, Nat.shiftLeft_eq]
  unfold wholeF mantF
  have e1 : (-1074 + ((rungF b / 2 ^ 52 - 1 : Nat) : Int)).toNat = rungF b / 2 ^ 52 - 1 - 1074 := by omega
  have e2 : (-(-1074 + ((rungF b / 2 ^ 52 - 1 : Nat) : Int))).toNat = 1074 - (rungF b / 2 ^ 52 - 1) := by omega
  rw [e1, e2]
theorem mantF_lt (r : Nat) : mantF r < 2 ^ 53 := by
  unfold mantF
  have := Nat.mod_lt r (Nat.two_pow_pos 52)
  split <;> omega
theorem wholeF_lt {r j : Nat} (h : r < (1075 + j) * 2 ^ 52) (hj : 1 ≤ j) : wholeF r < 2 ^ (53 + (j - 1)) := by
  have he : r / 2 ^ 52 < 1075 + j := (Nat.div_lt_iff_lt_mul (Nat.two_pow_pos 52)).2 h
  have hm := mantF_lt r
  unfold wholeF
  refine Nat.lt_of_le_of_lt (Nat.div_le_self _ _) ?_
  have hp : 2 ^ (r / 2 ^ 52 - 1 - 1074) ≤ 2 ^ (j - 1) := Nat.pow_le_pow_right (by omega) (by omega)
  rw [Nat.pow_add]
  exact Nat.lt_of_le_of_lt (Nat.mul_le_mul_left _ hp) (Nat.mul_lt_mul_of_pos_right hm (Nat.two_pow_pos _))
theorem neg_key {b : Nat} (h : keyF b < 0) : negF b = true ∧ keyF b = -(rungF b : Int) := by
  unfold keyF at *
  cases hn : negF b
  · rw [hn] at h; simp at h; omega
  · simp
theorem pos_key {b : Nat} (h : 0 < keyF b) : negF b = false ∧ keyF b = (rungF b : Int) := by
  unfold keyF at *
  cases hn : negF b
  · simp
  · rw [hn] at h; simp at h; omega
theorem key_M63 : keyF fM63 = -(1086 * 2 ^ 52) := by decide +kernel
theorem key_M1 : keyF fM1 = -(1023 * 2 ^ 52) := by decide +kernel
theorem key_P1 : keyF fP1 = 1023 * 2 ^ 52 := by decide +kernel
theorem key_P64 : keyF fP64 = 1087 * 2 ^ 52 := by decide +kernel
theorem nan_M63 : nan64 fM63 = false := by decide +kernel
theorem nan_M1 : nan64 fM1 = false := by decide +kernel
theorem nan_P1 : nan64 fP1 = false := by decide +kernel
theorem nan_P64 : nan64 fP64 = false := by decide +kernel
theorem cmp_gt {x y : Int} : compare x y = .gt ↔ y < x := by
  simp only [compare, compareOfLessAndEq]
  split
  · simp; omega
  · split
    · simp; omega
    · simp; omega
theorem cmp_lt {x y : Int} : compare x y = .lt ↔ x < y := by
  simp only [compare, compareOfLessAndEq]
  split
  · simp; omega
  · split
    · simp; omega
    · simp; omega
theorem i64_val {b : Nat} {n : Int} (h : (FloatKind.f64.decode b).toInt .zero = some n) (h0 : -9223372036854775808 ≤ n) (h1 : n ≤ 9223372036854775807) : floatToIntVal .f64 b .i64 = some n := by
  have e1 : IntKind.i64.min = -9223372036854775808 := by decide
  have e2 : IntKind.i64.max = 9223372036854775807 := by decide
  unfold floatToIntVal
  rw [h]
  show (if IntKind.i64.min ≤ n ∧ n ≤ IntKind.i64.max then some n else none) = some n
  rw [e1, e2, if_pos ⟨h0, h1⟩]
theorem u64_val {b : Nat} {n : Int} (h : (FloatKind.f64.decode b).toInt .zero = some n) (h0 : 0 ≤ n) (h1 : n ≤ 18446744073709551615) : floatToIntVal .f64 b .u64 = some n := by
  have e1 : IntKind.u64.min = 0 := by decide
  have e2 : IntKind.u64.max = 18446744073709551615 := by decide
  unfold floatToIntVal
  rw [h]
  show (if IntKind.u64.min ≤ n ∧ n ≤ IntKind.u64.max then some n else none) = some n
  rw [e1, e2, if_pos ⟨h0, h1⟩]
theorem val_neg {b : Nat} (h1 : -(1086 * 2 ^ 52) < keyF b) (h2 : keyF b ≤ -(1023 * 2 ^ 52)) : floatToIntVal .f64 b .i64 = some (-(wholeF (rungF b) : Int)) := by
  obtain ⟨hn, hk⟩ := neg_key (b := b) (by omega)
  have hr : rungF b < (1075 + 11) * 2 ^ 52 := by omega
  have ht := toInt_num (b := b) (by omega)
  rw [hn, if_pos rfl] at ht
  have hw := wholeF_lt hr (by omega)
  have : (2 : Nat) ^ (53 + (11 - 1)) = 9223372036854775808 := by decide
  exact i64_val ht (by omega) (by omega)
theorem val_pos {b : Nat} (h1 : 1023 * 2 ^ 52 ≤ keyF b) (h2 : keyF b < 1087 * 2 ^ 52) : floatToIntVal .f64 b .u64 = some (wholeF (rungF b) : Int) := by
  obtain ⟨hn, hk⟩ := pos_key (b := b) (by omega)
  have hr : rungF b < (1075 + 12) * 2 ^ 52 := by omega
  have ht := toInt_num (b := b) (by omega)
  rw [hn, if_neg (by decide)] at ht
  have hw := wholeF_lt hr (by omega)
  have : (2 : Nat) ^ (53 + (12 - 1)) = 18446744073709551616 := by decide
  exact u64_val ht (by omega) (by omega)
theorem ord64_none {b c : Nat} (h : nan64 b = true) (o : Ordering) : ord64 b c ≠ some o := by
  rw [nan64_eq] at h
  have h' : 2047 * 2 ^ 52 < rungF b := by simpa using h
  unfold ord64 Ieee.Format.order
  rw [read_nan h']
  cases FloatKind.f64.format.read c <;> simp [Ieee.Datum.order]
theorem cutOk_all (b : Nat) : CutOk b := by
  constructor
  · intro h1 h2 hn
    rw [ord64_key hn nan_M63, key_M63] at h1
    rw [ord64_key hn nan_M1, key_M1] at h2
    simp only [Option.some.injEq, ne_eq, cmp_gt] at h1 h2
    exact ⟨_, val_neg h1 (by omega)⟩
  · intro h1 h2 h3
    have hn : nan64 b = false := by
      cases hn : nan64 b
      · rfl
      · exact absurd h1 (ord64_none hn _)
    rw [ord64_key hn nan_P1, key_P1] at h2
    rw [ord64_key hn nan_P64, key_P64] at h3
    simp only [Option.some.injEq, ne_eq, cmp_lt] at h2 h3
    exact ⟨_, val_pos (by omega) h3⟩
/-- What cut gives, by the word's place in the order. -/
theorem cutOf_eq (k : Int) (b : Nat) : cutOf k b = if nan64 b = true then 0 else if keyF b ≤ -(1086 * 2 ^ 52) then belowOf k (-9223372036854775808) else if keyF b ≤ -(1023 * 2 ^ 52) then belowOf k (-(wholeF (rungF b) : Int)) else
    if keyF b < 1023 * 2 ^ 52 then 0 else if 1087 * 2 ^ 52 ≤ keyF b then aboveOf k 18446744073709551615 else aboveOf k (wholeF (rungF b)) := by
  unfold cutOf
  cases hn : nan64 b
  · simp only [Bool.false_eq_true, if_false]
    rw [ord64_key hn nan_M63, ord64_key hn nan_M1, ord64_key hn nan_P1, ord64_key hn nan_P64, key_M63, key_M1, key_P1, key_P64]
    simp only [Option.some.injEq, ne_eq, cmp_gt, cmp_lt]
    by_cases h1 : keyF b ≤ -(1086 * 2 ^ 52)
    · rw [if_pos (by omega), if_pos h1]
    · rw [if_neg (by omega), if_neg h1]
      by_cases h2 : keyF b ≤ -(1023 * 2 ^ 52)
      · rw [if_pos (by omega), if_pos h2, val_neg (by omega) h2]
        rfl
      · rw [if_neg (by omega), if_neg h2]
        by_cases h3 : keyF b < 1023 * 2 ^ 52
        · rw [if_pos h3, if_pos h3]
        · rw [if_neg h3, if_neg h3]
          by_cases h4 : 1087 * 2 ^ 52 ≤ keyF b
          · rw [if_pos (by omega), if_pos h4]
          · rw [if_neg (by omega), if_neg h4, val_pos (by omega) (by omega)]
            rfl
  · rfl
theorem convert_any (w : World) (hw : Wd w) (f t x : Int) (h0 : 0 ≤ x) (h1 : x < 18446744073709551616) :
    Calls Tryd.prog 12 #[.int .i64 f, .int .i64 t, .int .u64 x] w fun e w' => e = .returned (.int .u64 (convOf f t x)) ∧ w = w' := conv_of w hw f t x (cutOk_all _) h0 h1
end Go.Proofs.YtlcconooojlhhaaDoor
