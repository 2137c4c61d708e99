/- Convert to a kind without a point: the nearest number to the whole number of what came. Plain laws. -/
import Derived.Test.YtlcconooojlhhaaDoorKeeps02
namespace Go.Proofs.YtlcconooojlhhaaDoor
open Go.RowKit

theorem wholeF_val (r : Nat) : wholeF r = valF r / 2 ^ 1074 := by
  rw [valF_num]
  show mantF r * 2 ^ (r / 2 ^ 52 - 1 - 1074) / 2 ^ (1074 - (r / 2 ^ 52 - 1)) = mantF r * 2 ^ (r / 2 ^ 52 - 1) / 2 ^ 1074
  generalize mantF r = m
  generalize r / 2 ^ 52 - 1 = i
  obtain ⟨K, hK⟩ : ∃ K : Nat, K = 1074 := ⟨_, rfl⟩
  rw [← hK]
  clear hK
  by_cases h : i ≤ K
  · obtain ⟨j, rfl⟩ : ∃ j, K = j + i := ⟨K - i, by omega⟩
    rw [Nat.add_sub_cancel, Nat.sub_eq_zero_of_le h, Nat.pow_zero, Nat.mul_one, Nat.pow_add, Nat.mul_div_mul_right _ _ (Nat.two_pow_pos i)]
  · obtain ⟨j, rfl⟩ : ∃ j, i = j + K := ⟨i - K, by omega⟩
    rw [Nat.add_sub_cancel, Nat.sub_eq_zero_of_le (by omega), Nat.pow_zero, Nat.div_one, Nat.pow_add, ← Nat.mul_assoc, Nat.mul_div_cancel _ (Nat.two_pow_pos K)]
theorem wholeF_mono {r s : Nat} (h : r ≤ s) : wholeF r ≤ wholeF s := by
  rw [wholeF_val, wholeF_val]
  refine Nat.div_le_div_right ?_
  rcases Nat.lt_or_eq_of_le h with h1 | h1
  · exact Nat.le_of_lt (valF_mono h1)
  · rw [h1]; exact Nat.le_refl _
/-- The whole number of a word of F64, as far as it is asked. -/
def wz (b : Nat) : Int := if keyF b ≤ -(1086 * 2 ^ 52) then -9223372036854775808 else if keyF b ≤ -(1023 * 2 ^ 52) then -(wholeF (rungF b) : Int) else if keyF b < 1023 * 2 ^ 52 then 0 else if 1087 * 2 ^ 52 ≤ keyF b then 18446744073709551615 else wholeF (rungF b)
theorem whole_neg_lt {r : Nat} (h : r < 1086 * 2 ^ 52) : wholeF r < 9223372036854775808 := by
  have := wholeF_lt (r := r) (j := 11) h (by omega)
  have e : (2 : Nat) ^ (53 + (11 - 1)) = 9223372036854775808 := by decide
  omega
theorem whole_pos_lt {r : Nat} (h : r < 1087 * 2 ^ 52) : wholeF r < 18446744073709551616 := by
  have := wholeF_lt (r := r) (j := 12) h (by omega)
  have e : (2 : Nat) ^ (53 + (12 - 1)) = 18446744073709551616 := by decide
  omega
theorem whole_one : wholeF (1023 * 2 ^ 52) = 1 := by decide +kernel
theorem wz_range (b : Nat) : -9223372036854775808 ≤ wz b ∧ wz b ≤ 18446744073709551615 := by
  unfold wz
  split
  · omega
  · split
    · rename_i h1 h2
      obtain ⟨_, hk⟩ := neg_key (b := b) (by omega)
      have := whole_neg_lt (r := rungF b) (by omega)
      omega
    · split
      · omega
      · split
        · omega
        · rename_i h1 h2 h3 h4
          obtain ⟨_, hk⟩ := pos_key (b := b) (by omega)
          have := whole_pos_lt (r := rungF b) (by omega)
          omega
theorem wz_mono {a b : Nat} (h : keyF a ≤ keyF b) : wz a ≤ wz b := by
  have ra := wz_range a
  have rb := wz_range b
  by_cases a1 : keyF a ≤ -(1086 * 2 ^ 52)
  · have : wz a = -9223372036854775808 := by rw [wz, if_pos a1]
    omega
  · by_cases b4 : 1087 * 2 ^ 52 ≤ keyF b
    · have : wz b = 18446744073709551615 := by rw [wz, if_neg (by omega), if_neg (by omega), if_neg (by omega), if_pos b4]
      omega
    · by_cases a2 : keyF a ≤ -(1023 * 2 ^ 52)
      · have ea : wz a = -(wholeF (rungF a) : Int) := by rw [wz, if_neg a1, if_pos a2]
        obtain ⟨_, hka⟩ := neg_key (b := a) (by omega)
        by_cases b2 : keyF b ≤ -(1023 * 2 ^ 52)
        · have eb : wz b = -(wholeF (rungF b) : Int) := by rw [wz, if_neg (by omega), if_pos b2]
          obtain ⟨_, hkb⟩ := neg_key (b := b) (by omega)
          have := wholeF_mono (r := rungF b) (s := rungF a) (by omega)
          omega
        · have : 0 ≤ wz b := by
            unfold wz
            rw [if_neg (by omega), if_neg b2]
            split
            · omega
            · first | omega | (split <;> omega)
          omega
      · by_cases a3 : keyF a < 1023 * 2 ^ 52
        · have ea : wz a = 0 := by rw [wz, if_neg a1, if_neg a2, if_pos a3]
          have : 0 ≤ wz b := by
            unfold wz
            rw [if_neg (by omega), if_neg (by omega)]
            split
            · omega
            · first | omega | (split <;> omega)
          omega
        · have ea : wz a = wholeF (rungF a) := by rw [wz, if_neg a1, if_neg a2, if_neg a3, if_neg (by omega)]
          have eb : wz b = wholeF (rungF b) := by rw [wz, if_neg (by omega), if_neg (by omega), if_neg (by omega), if_neg (by omega)]
          obtain ⟨_, hka⟩ := pos_key (b := a) (by omega)
          obtain ⟨_, hkb⟩ := pos_key (b := b) (by omega)
          have := wholeF_mono (r := rungF a) (s := rungF b) (by omega)
          omega
def valOf (f y : Int) : Int := if f = 9 then wz y.toNat else numOf f y
theorem zero_word {t : Int} (ht : 1 ≤ t ∧ t ≤ 8) : numOf t 0 = clampOf t 0 ∧ clipOf t 0 = 0 := by
  have : t = 1 ∨ t = 2 ∨ t = 3 ∨ t = 4 ∨ t = 5 ∨ t = 6 ∨ t = 7 ∨ t = 8 := by omega
  rcases this with rfl | rfl | rfl | rfl | rfl | rfl | rfl | rfl <;> decide
/-- cut gives the nearest number to the whole one. -/
theorem num_cut {t : Int} {b : Nat} (ht : 1 ≤ t ∧ t ≤ 8) (hn : nan64 b = false) : numOf t (cutOf t b) = clampOf t (wz b) ∧ 0 ≤ cutOf t b ∧ cutOf t b < 18446744073709551616 ∧ clipOf t (cutOf t b) = cutOf t b := by
  rw [cutOf_eq, hn, if_neg (by decide)]
  unfold wz
  by_cases a1 : keyF b ≤ -(1086 * 2 ^ 52)
  · rw [if_pos a1, if_pos a1]
    exact num_below ht (by omega) (by omega)
  · rw [if_neg a1, if_neg a1]
    by_cases a2 : keyF b ≤ -(1023 * 2 ^ 52)
    · rw [if_pos a2, if_pos a2]
      obtain ⟨_, hk⟩ := neg_key (b := b) (by omega)
      have h1 := whole_neg_lt (r := rungF b) (by omega)
      have h2 := wholeF_mono (r := 1023 * 2 ^ 52) (s := rungF b) (by omega)
      rw [whole_one] at h2
      exact num_below ht (by omega) (by omega)
    · rw [if_neg a2, if_neg a2]
      by_cases a3 : keyF b < 1023 * 2 ^ 52
      · rw [if_pos a3, if_pos a3]
        exact ⟨(zero_word ht).1, by omega, by omega, (zero_word ht).2⟩
      · rw [if_neg a3, if_neg a3]
        by_cases a4 : 1087 * 2 ^ 52 ≤ keyF b
        · rw [if_pos a4, if_pos a4]
          exact num_above ht (by omega)
        · rw [if_neg a4, if_neg a4]
          exact num_above ht (by omega)
theorem clip_num {t x : Int} (ht : 1 ≤ t ∧ t ≤ 8) (h0 : 0 ≤ x) (h1 : x < 18446744073709551616) : numOf t (clipOf t x) = clampOf t (numOf t (clipOf t x)) := by
  have : t = 1 ∨ t = 2 ∨ t = 3 ∨ t = 4 ∨ t = 5 ∨ t = 6 ∨ t = 7 ∨ t = 8 := by omega
  rcases this with rfl | rfl | rfl | rfl | rfl | rfl | rfl | rfl <;> simp [clipOf, modOf, widthOf, widths, signedOf, numOf, s64, clampOf, mostOf] <;> omega
/-- Convert to a kind without a point, of a word that is a number. -/
theorem conv_num {f t x : Int} (hf : 1 ≤ f ∧ f ≤ 9) (ht : 1 ≤ t ∧ t ≤ 8) (h0 : 0 ≤ x) (h1 : x < 18446744073709551616) (hn : isNum f (clipOf f x)) :
    numOf t (convOf f t x) = clampOf t (valOf f (clipOf f x)) ∧ 0 ≤ convOf f t x ∧ convOf f t x < 18446744073709551616 ∧ clipOf t (convOf f t x) = convOf f t x := by
  have hwf : ¬ (widthOf f = 0 ∨ widthOf t = 0) := by
    rw [widthOf_zero, widthOf_zero]
    omega
  have hr := clipOf_range (k := f) h0 h1
  rw [convOf, if_neg hwf]
  by_cases hft : f = t
  · subst hft
    rw [if_pos rfl]
    have h9 : f ≠ 9 := by omega
    rw [valOf, if_neg h9]
    exact ⟨clip_num ht h0 h1, hr.1, hr.2, clip_clip h0 h1⟩
  · rw [if_neg hft]
    by_cases hf9 : f = 9
    · subst hf9
      rw [if_pos rfl, valOf, if_pos rfl]
      exact num_cut ht (hn rfl)
    · rw [if_neg hf9, if_neg (show ¬ t = 9 by omega), valOf, if_neg hf9]
      by_cases hs : signedOf f = true ∧ s64 (clipOf f x) < 0
      · rw [if_pos hs]
        have e : numOf f (clipOf f x) = s64 (clipOf f x) := by rw [numOf, if_pos hs.1]
        rw [e]
        exact num_below ht (s64_range hr.1 hr.2).1 hs.2
      · rw [if_neg hs]
        have e : numOf f (clipOf f x) = clipOf f x := by
          rw [numOf]
          split
          · rename_i h
            have : ¬ s64 (clipOf f x) < 0 := fun c => hs ⟨h, c⟩
            unfold s64 at *
            split <;> omega
          · rfl
        rw [e]
        exact num_above ht hr.1
theorem val_mono {f x y : Int} (h : rankOf f x ≤ rankOf f y) : valOf f x ≤ valOf f y := by
  unfold rankOf at h
  unfold valOf
  by_cases h9 : f = 9
  · rw [if_pos h9, if_pos h9] at h
    rw [if_pos h9, if_pos h9]
    exact wz_mono h
  · rw [if_neg h9, if_neg h9] at h
    rw [if_neg h9, if_neg h9]
    unfold numOf
    exact h
theorem rank_num {t x : Int} (ht : 1 ≤ t ∧ t ≤ 8) : rankOf t x = numOf t x := by
  rw [rankOf, if_neg (by omega)]
  rfl
theorem isNum_int {t x : Int} (ht : 1 ≤ t ∧ t ≤ 8) : isNum t x := fun h => by omega
end Go.Proofs.YtlcconooojlhhaaDoor
