/- Whole numbers that F64 has, there and back. Plain laws. -/
import Derived.Test.YtlcconooojlhhaaDoorNear
namespace Go.Proofs.YtlcconooojlhhaaDoor
open Go.RowKit

theorem rung_parts {A q : Nat} (h1 : 2 ^ 52 ≤ q) (h2 : q < 2 ^ 53) : (A * 2 ^ 52 + q) / 2 ^ 52 = A + 1 ∧ mantF (A * 2 ^ 52 + q) = q := by
  have hd : (A * 2 ^ 52 + q) / 2 ^ 52 = A + 1 := by
    rw [Nat.add_comm, Nat.add_mul_div_right _ _ (Nat.two_pow_pos 52)]
    have : q / 2 ^ 52 = 1 := by omega
    omega
  refine ⟨hd, ?_⟩
  unfold mantF
  have hm : (A * 2 ^ 52 + q) % 2 ^ 52 = q - 2 ^ 52 := by
    rw [Nat.add_comm, Nat.add_mul_mod_self_right]
    omega
  have hlt : ¬ A * 2 ^ 52 + q < 2 ^ 52 := by
    generalize A * 2 ^ 52 = B
    omega
  rw [if_neg hlt, hm]
  omega
theorem wholeF_small {A q : Nat} (h1 : 2 ^ 52 ≤ q) (h2 : q < 2 ^ 53) (hA : A ≤ 1074) : wholeF (A * 2 ^ 52 + q) = q / 2 ^ (1074 - A) := by
  obtain ⟨e1, e2⟩ := rung_parts (A := A) h1 h2
  unfold wholeF
  rw [e1, e2, Nat.add_sub_cancel, Nat.sub_eq_zero_of_le hA, Nat.pow_zero, Nat.mul_one]
theorem wholeF_great {A q : Nat} (h1 : 2 ^ 52 ≤ q) (h2 : q < 2 ^ 53) (hA : 1074 ≤ A) : wholeF (A * 2 ^ 52 + q) = q * 2 ^ (A - 1074) := by
  obtain ⟨e1, e2⟩ := rung_parts (A := A) h1 h2
  unfold wholeF
  rw [e1, e2, Nat.add_sub_cancel, Nat.sub_eq_zero_of_le hA, Nat.pow_zero, Nat.div_one]
/-- A whole number of at most 53 digits: its word has just it. -/
theorem near_exact {n : Nat} (h0 : n ≠ 0) (hl : n.log2 ≤ 52) : nearR n = (n.log2 + 1022) * 2 ^ 52 + n * 2 ^ (52 - n.log2) ∧ 2 ^ 52 ≤ n * 2 ^ (52 - n.log2) ∧ n * 2 ^ (52 - n.log2) < 2 ^ 53 := by
  refine ⟨by unfold nearR; rw [if_pos hl], ?_, ?_⟩
  · calc 2 ^ 52 = 2 ^ n.log2 * 2 ^ (52 - n.log2) := by rw [← Nat.pow_add]; congr 1; omega
      _ ≤ n * 2 ^ (52 - n.log2) := Nat.mul_le_mul_right _ (Nat.log2_self_le h0)
  · calc n * 2 ^ (52 - n.log2) < 2 ^ (n.log2 + 1) * 2 ^ (52 - n.log2) := Nat.mul_lt_mul_of_pos_right Nat.lt_log2_self (Nat.two_pow_pos _)
      _ = 2 ^ 53 := by rw [← Nat.pow_add]; congr 1; omega
theorem whole_near {n : Nat} (h0 : n ≠ 0) (hl : n.log2 ≤ 52) : wholeF (nearR n) = n := by
  obtain ⟨e, h1, h2⟩ := near_exact h0 hl
  rw [e, wholeF_small h1 h2 (by omega), show 1074 - (n.log2 + 1022) = 52 - n.log2 by omega, Nat.mul_div_cancel _ (Nat.two_pow_pos _)]
theorem half_near {n : Nat} (h0 : n ≠ 0) (hl : n.log2 ≤ 52) : wholeF (nearR n - 2 ^ 52) = n / 2 ∧ (n.log2 + 1022) * 2 ^ 52 ≤ nearR n - 2 ^ 52 ∧ nearR n - 2 ^ 52 < (n.log2 + 1023) * 2 ^ 52 := by
  obtain ⟨e, h1, h2⟩ := near_exact h0 hl
  have e2 : nearR n - 2 ^ 52 = (n.log2 + 1021) * 2 ^ 52 + n * 2 ^ (52 - n.log2) := by
    rw [e, show (n.log2 + 1022) * 2 ^ 52 = (n.log2 + 1021) * 2 ^ 52 + 2 ^ 52 from Nat.succ_mul (n.log2 + 1021) (2 ^ 52)]
    generalize (n.log2 + 1021) * 2 ^ 52 = A
    generalize n * 2 ^ (52 - n.log2) = q
    omega
  refine ⟨?_, ?_, ?_⟩
  · have e4 : 1074 - (n.log2 + 1021) = 52 - n.log2 + 1 := by clear e e2 h1 h2; omega
    have e5 : n.log2 + 1021 ≤ 1074 := by clear e e2 h1 h2; omega
    rw [e2, wholeF_small h1 h2 e5, e4, show 2 ^ (52 - n.log2 + 1) = 2 ^ (52 - n.log2) * 2 from Nat.pow_succ .., ← Nat.div_div_eq_div_mul, Nat.mul_div_cancel _ (Nat.two_pow_pos _)]
  · rw [e2, show (n.log2 + 1022) * 2 ^ 52 = (n.log2 + 1021) * 2 ^ 52 + 2 ^ 52 from Nat.succ_mul (n.log2 + 1021) (2 ^ 52)]
    generalize (n.log2 + 1021) * 2 ^ 52 = A
    generalize n * 2 ^ (52 - n.log2) = q at *
    omega
  · rw [e2, show (n.log2 + 1023) * 2 ^ 52 = (n.log2 + 1022) * 2 ^ 52 + 2 ^ 52 from Nat.succ_mul (n.log2 + 1022) (2 ^ 52), show (n.log2 + 1022) * 2 ^ 52 = (n.log2 + 1021) * 2 ^ 52 + 2 ^ 52 from Nat.succ_mul (n.log2 + 1021) (2 ^ 52)]
    generalize (n.log2 + 1021) * 2 ^ 52 = A
    generalize n * 2 ^ (52 - n.log2) = q at *
    omega
theorem neg_parts {r : Nat} (h : r < 2 ^ 63) : negF (r + 2 ^ 63) = true ∧ rungF (r + 2 ^ 63) = r ∧ negF r = false ∧ rungF r = r := by
  unfold negF rungF
  have e1 : (r + 2 ^ 63) / 2 ^ 63 = 1 := by omega
  have e2 : (r + 2 ^ 63) % 2 ^ 63 = r := by omega
  have e3 : r / 2 ^ 63 = 0 := by omega
  have e4 : r % 2 ^ 63 = r := by omega
  rw [e1, e2, e3, e4]
  exact ⟨rfl, rfl, rfl, rfl⟩
theorem key_pos {r : Nat} (h : r < 2 ^ 63) : keyF r = r := by
  obtain ⟨_, _, h3, h4⟩ := neg_parts h
  rw [keyF, h3, h4]
  rfl
theorem key_neg {r : Nat} (h : r < 2 ^ 63) : keyF (r + 2 ^ 63) = -(r : Int) := by
  obtain ⟨h1, h2, _, _⟩ := neg_parts h
  rw [keyF, h1, h2]
  rfl
theorem nan_pos {r : Nat} (h : r ≤ 2047 * 2 ^ 52) : nan64 r = false ∧ nan64 (r + 2 ^ 63) = false := by
  obtain ⟨_, h2, _, h4⟩ := neg_parts (r := r) (by omega)
  rw [nan64_eq, nan64_eq, h2, h4]
  exact ⟨decide_eq_false (by omega), decide_eq_false (by omega)⟩
/-- What cut gives at a magnitude below 2^63 (or its negative) from 1 on. -/
theorem cut_pos {k : Int} {r : Nat} (h1 : 1023 * 2 ^ 52 ≤ r) (h2 : r < 1086 * 2 ^ 52) : cutOf k r = aboveOf k (wholeF r) ∧ cutOf k (r + 2 ^ 63) = belowOf k (-(wholeF r : Int)) := by
  have hn := nan_pos (r := r) (by omega)
  obtain ⟨_, p2, _, p4⟩ := neg_parts (r := r) (by omega)
  constructor
  · rw [cutOf_eq, hn.1, key_pos (by omega), p4, if_neg (by decide), if_neg (by omega), if_neg (by omega), if_neg (by omega), if_neg (by omega)]
  · rw [cutOf_eq, hn.2, key_neg (by omega), p2, if_neg (by decide), if_neg (by omega), if_pos (by omega)]
theorem cut_small {k : Int} {r : Nat} (h : r < 1023 * 2 ^ 52) : cutOf k r = 0 ∧ cutOf k (r + 2 ^ 63) = 0 := by
  have hn := nan_pos (r := r) (by omega)
  constructor
  · rw [cutOf_eq, hn.1, key_pos (by omega), if_neg (by decide), if_neg (by omega), if_neg (by omega), if_pos (by omega)]
  · rw [cutOf_eq, hn.2, key_neg (by omega), if_neg (by decide), if_neg (by omega), if_neg (by omega), if_pos (by omega)]
theorem clip9 {x : Int} (h0 : 0 ≤ x) (h1 : x < 18446744073709551616) : clipOf 9 x = x := by
  rw [clipOf, if_neg (by decide), show signedOf 9 = false from rfl, show modOf 9 = 18446744073709551616 from rfl]
  simp
  omega
theorem clip4 {x : Int} (h0 : 0 ≤ x) (h1 : x < 18446744073709551616) : clipOf 4 x = x := by
  rw [clipOf, if_neg (by decide), show signedOf 4 = false from rfl, show modOf 4 = 18446744073709551616 from rfl]
  simp
  omega
theorem conv94 {x : Nat} (h : x < 2 ^ 64) : convOf 9 4 x = cutOf 4 x := by
  rw [convOf, if_neg (by decide), if_neg (by decide), if_pos rfl, clip9 (by omega) (by omega), Int.toNat_natCast]
theorem conv98 {x : Nat} (h : x < 2 ^ 64) : convOf 9 8 x = cutOf 8 x := by
  rw [convOf, if_neg (by decide), if_neg (by decide), if_pos rfl, clip9 (by omega) (by omega), Int.toNat_natCast]
/-- The law of whole numbers below 2^52. -/
theorem whole_law {m : Nat} (h : m < 2 ^ 52) : ∃ f : Nat, convOf 4 9 m = f ∧ f < 2 ^ 63 ∧ (0 < m → 2 ^ 52 ≤ f) ∧ convOf 9 4 f = m ∧ convOf 9 8 f = m ∧ (0 < m → convOf 9 4 ((f - 2 ^ 52 : Nat) : Int) = ((m / 2 : Nat) : Int)) ∧ (m = 0 → f = 0) ∧
    convOf 9 4 ((f + 2 ^ 63 : Nat) : Int) = 0 ∧ convOf 9 8 ((f + 2 ^ 63 : Nat) : Int) = (-(m : Int)) % 18446744073709551616 := by
  have h49 : convOf 4 9 m = (FloatKind.f64.nearest (m : Int) : Nat) := by
    rw [convOf, if_neg (by decide), if_neg (by decide), if_neg (by decide), if_pos rfl, if_neg (by decide), clip4 (by omega) (by omega)]
  by_cases h0 : m = 0
  · subst h0
    exact ⟨0, by rw [h49]; exact congrArg Nat.cast nearest_zero, by decide, fun c => absurd c (by decide), by decide +kernel, by decide +kernel, fun c => absurd c (by decide), fun _ => rfl, by decide +kernel, by decide +kernel⟩
  · have hl : m.log2 ≤ 51 := by
      have := (Nat.log2_lt h0).2 h
      omega
    have hb := nearR_bounds h0 (by omega)
    have hw := whole_near h0 (by omega)
    have hh := half_near h0 (by omega)
    have hr1 : 1023 * 2 ^ 52 ≤ nearR m := Nat.le_trans (Nat.mul_le_mul_right _ (by omega)) hb.1
    have hr2 : nearR m < 1086 * 2 ^ 52 := Nat.lt_of_le_of_lt hb.2.1 (by
      refine Nat.lt_of_le_of_lt (Nat.mul_le_mul_right _ (show m.log2 + 1024 ≤ 1075 by omega)) ?_
      decide)
    have hc := fun k => cut_pos (k := k) hr1 hr2
    rw [hw] at hc
    refine ⟨nearR m, ?_, by omega, fun _ => by omega, ?_, ?_, fun _ => ?_, fun c => absurd c h0, ?_, ?_⟩
    · rw [h49, nearest_eq _ (by omega) (by omega), if_neg (by omega), Int.natAbs_natCast]
      simp
    · rw [conv94 (by omega), (hc 4).1]
      simp only [aboveOf, show mostOf 4 = 18446744073709551615 by decide]
      omega
    · rw [conv98 (by omega), (hc 8).1]
      simp only [aboveOf, show mostOf 8 = 9223372036854775807 by decide]
      omega
    · rw [conv94 (by omega)]
      by_cases h1 : m = 1
      · subst h1
        have : nearR 1 - 2 ^ 52 < 1023 * 2 ^ 52 := hh.2.2
        rw [(cut_small this).1]
        rfl
      · have hl1 : 1 ≤ m.log2 := by
          have := (Nat.le_log2 h0 (k := 1)).2 (by omega)
          exact this
        have hq1 : 1023 * 2 ^ 52 ≤ nearR m - 2 ^ 52 := Nat.le_trans (Nat.mul_le_mul_right _ (by omega)) hh.2.1
        rw [(cut_pos hq1 (by omega)).1, hh.1]
        simp only [aboveOf, show mostOf 4 = 18446744073709551615 by decide]
        omega
    · rw [conv94 (by omega), (hc 4).2]
      rfl
    · rw [conv98 (by omega), (hc 8).2]
      simp only [belowOf, show signedOf 8 = true from rfl, if_true, show mostOf 8 = 9223372036854775807 by decide]
      rw [show max (-(m : Int)) (-9223372036854775807 - 1) = -(m : Int) by omega]
end Go.Proofs.YtlcconooojlhhaaDoor
