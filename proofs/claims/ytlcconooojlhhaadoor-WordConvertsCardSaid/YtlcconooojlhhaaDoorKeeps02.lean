/- An order is kept by another kind without a point. Plain laws. -/
import Derived.Test.YtlcconooojlhhaaDoorWhole
import Derived.Test.YtlcconooojlhhaaDoorRank
import Derived.Test.YtlcconooojlhhaaDoorClipsLaw
namespace Go.Proofs.YtlcconooojlhhaaDoor
open Go.RowKit

/-- The number of a kind without a point, of a word that is clipped. -/
def numOf (k x : Int) : Int := if signedOf k = true then s64 x else x
theorem numOf_range {k x : Int} (h0 : 0 ≤ x) (h1 : x < 18446744073709551616) : -9223372036854775808 ≤ numOf k x ∧ numOf k x < 18446744073709551616 := by
  unfold numOf s64
  split
  · split <;> omega
  · omega
/-- The nearest number that a kind without a point has. -/
def clampOf (t z : Int) : Int := if signedOf t = true then max (-(mostOf t) - 1) (min z (mostOf t)) else max 0 (min z (mostOf t))
theorem eight {t : Int} (h : 1 ≤ t ∧ t ≤ 8) : ¬ (t < 1 ∨ 10 ≤ t) := by omega
theorem mostOf_modOf {t : Int} (h : 1 ≤ t ∧ t ≤ 8) : (signedOf t = true → modOf t = 2 * (mostOf t + 1)) ∧ (signedOf t = false → modOf t = mostOf t + 1) := by
  have : t = 1 ∨ t = 2 ∨ t = 3 ∨ t = 4 ∨ t = 5 ∨ t = 6 ∨ t = 7 ∨ t = 8 := by omega
  rcases this with rfl | rfl | rfl | rfl | rfl | rfl | rfl | rfl <;> decide
theorem mostOf_sig {t : Int} (h : 1 ≤ t ∧ t ≤ 8) : (signedOf t = true → 0 ≤ mostOf t ∧ mostOf t ≤ 9223372036854775807) ∧ 0 ≤ mostOf t ∧ mostOf t ≤ 18446744073709551615 := by
  have : t = 1 ∨ t = 2 ∨ t = 3 ∨ t = 4 ∨ t = 5 ∨ t = 6 ∨ t = 7 ∨ t = 8 := by omega
  rcases this with rfl | rfl | rfl | rfl | rfl | rfl | rfl | rfl <;> decide
/-- below and above give the nearest number's word. -/
theorem num_below {t z : Int} (ht : 1 ≤ t ∧ t ≤ 8) (h0 : -9223372036854775808 ≤ z) (h1 : z < 0) : numOf t (belowOf t z) = clampOf t z ∧ 0 ≤ belowOf t z ∧ belowOf t z < 18446744073709551616 ∧ clipOf t (belowOf t z) = belowOf t z := by
  have hm := mostOf_sig ht
  have hmm := mostOf_modOf ht
  have hw : ¬ widthOf t = 0 := fun c => eight ht (widthOf_zero.1 c)
  unfold numOf clampOf belowOf clipOf s64
  rw [if_neg hw]
  cases hs : signedOf t
  · simp only [Bool.false_eq_true, if_false, false_and]
    rw [hmm.2 hs]
    have : (0 : Int) % (mostOf t + 1) = 0 := Int.zero_emod _
    omega
  · simp only [if_true, true_and]
    have h2 := hmm.1 hs
    have h3 := hm.1 hs
    rw [h2]
    generalize mostOf t = m at *
    have hr : 0 ≤ max z (-m - 1) % 18446744073709551616 ∧ max z (-m - 1) % 18446744073709551616 = max z (-m - 1) + 18446744073709551616 := by omega
    obtain ⟨_, hr⟩ := hr
    rw [hr]
    obtain ⟨q, hq, hq0, hq1⟩ : ∃ q : Int, max z (-m - 1) = q ∧ -m - 1 ≤ q ∧ q < 0 := ⟨_, rfl, by omega, by omega⟩
    rw [hq]
    have hmod : (q + 18446744073709551616) % (2 * (m + 1)) = q + 2 * (m + 1) := by
      have hdv : ∃ c : Int, 18446744073709551616 = (2 * (m + 1)) * c := by
        have h4 : modOf t ∣ 18446744073709551616 := by
          have : t = 1 ∨ t = 2 ∨ t = 3 ∨ t = 4 ∨ t = 5 ∨ t = 6 ∨ t = 7 ∨ t = 8 := by omega
          rcases this with rfl | rfl | rfl | rfl | rfl | rfl | rfl | rfl <;> decide
        rw [h2] at h4
        exact h4
      obtain ⟨c, hc⟩ := hdv
      rw [hc, Int.add_mul_emod_self_left]
      have : (q + 2 * (m + 1)) % (2 * (m + 1)) = q % (2 * (m + 1)) := Int.add_emod_right _ _
      rw [← this]
      exact Int.emod_eq_of_lt (by omega) (by omega)
    rw [hmod]
    refine ⟨?_, by omega, by omega, ?_⟩
    · split <;> omega
    · split <;> omega
theorem num_above {t z : Int} (ht : 1 ≤ t ∧ t ≤ 8) (h0 : 0 ≤ z) : numOf t (aboveOf t z) = clampOf t z ∧ 0 ≤ aboveOf t z ∧ aboveOf t z < 18446744073709551616 ∧ clipOf t (aboveOf t z) = aboveOf t z := by
  have hm := mostOf_sig ht
  have hmm := mostOf_modOf ht
  have hw : ¬ widthOf t = 0 := fun c => eight ht (widthOf_zero.1 c)
  unfold numOf clampOf aboveOf clipOf s64
  rw [if_neg hw]
  cases hs : signedOf t
  · simp only [Bool.false_eq_true, if_false, false_and]
    rw [hmm.2 hs, Int.emod_eq_of_lt (by omega) (by omega)]
    omega
  · simp only [if_true, true_and]
    have h2 := hmm.1 hs
    have h3 := hm.1 hs
    rw [h2]
    generalize mostOf t = m at *
    rw [Int.emod_eq_of_lt (a := min z m) (by omega) (by omega)]
    refine ⟨?_, by omega, by omega, ?_⟩
    · split <;> omega
    · split <;> omega
theorem clamp_mono {t a b : Int} (h : a ≤ b) : clampOf t a ≤ clampOf t b := by
  unfold clampOf
  split <;> omega
end Go.Proofs.YtlcconooojlhhaaDoor
