/- The word of F64 nearest to a whole number. Plain laws. -/
import Derived.Test.YtlcconooojlhhaaDoorFloat2
namespace Go.Proofs.YtlcconooojlhhaaDoor
open Go.RowKit

/-- The rung nearest to a whole number that is not 0. -/
def nearR (n : Nat) : Nat :=
  if n.log2 ≤ 52 then (n.log2 + 1022) * 2 ^ 52 + n * 2 ^ (52 - n.log2)
  else (n.log2 + 1022) * 2 ^ 52 + (n / 2 ^ (n.log2 - 52) + (if 2 ^ (n.log2 - 52) < 2 * (n % 2 ^ (n.log2 - 52)) ∨ (2 ^ (n.log2 - 52) = 2 * (n % 2 ^ (n.log2 - 52)) ∧ n / 2 ^ (n.log2 - 52) % 2 = 1) then 1 else 0))
theorem cut_even (s : Bool) (n drop : Nat) (h : drop ≤ n.log2 + 2) : Ieee.Toward.even.cut s n drop = n / 2 ^ drop + (if 2 ^ drop < 2 * (n % 2 ^ drop) ∨ (2 ^ drop = 2 * (n % 2 ^ drop) ∧ n / 2 ^ drop % 2 = 1) then 1 else 0) := by
  unfold Ieee.Toward.cut
  simp only [Nat.one_shiftLeft, Nat.min_eq_left h]
  generalize 2 ^ drop = p
  congr 1
  by_cases h1 : p < 2 * (n % p)
  · simp [h1]
  · by_cases h2 : p = 2 * (n % p)
    · by_cases h3 : n / p % 2 = 1
      · rw [if_pos (.inr ⟨h2, h3⟩)]
        have e2 : (p == 2 * (n % p)) = true := by simp only [beq_iff_eq]; exact h2
        have e3 : (n / p % 2 == 1) = true := by simp only [beq_iff_eq]; exact h3
        rw [e2, e3]
        simp
      · rw [if_neg (by intro c; rcases c with c | c <;> omega)]
        have e3 : (n / p % 2 == 1) = false := by simp only [beq_eq_false_iff_ne, ne_eq]; exact h3
        rw [e3]
        simp [h1]
    · rw [if_neg (by intro c; rcases c with c | c <;> omega)]
      have e2 : (p == 2 * (n % p)) = false := by simp only [beq_eq_false_iff_ne, ne_eq]; exact h2
      rw [e2]
      simp [h1]
theorem nearR_bounds {n : Nat} (h0 : n ≠ 0) (h : n < 2 ^ 64) : (n.log2 + 1023) * 2 ^ 52 ≤ nearR n ∧ nearR n ≤ (n.log2 + 1024) * 2 ^ 52 ∧ n.log2 ≤ 63 := by
  have l1 := Nat.log2_self_le h0
  have l2 : n < 2 ^ (n.log2 + 1) := Nat.lt_log2_self
  have l3 : n.log2 ≤ 63 := by
    have := (Nat.log2_lt h0).2 h
    omega
  have m1 : (n.log2 + 1023) * 2 ^ 52 = (n.log2 + 1022) * 2 ^ 52 + 2 ^ 52 := Nat.succ_mul (n.log2 + 1022) (2 ^ 52)
  have m2 : (n.log2 + 1024) * 2 ^ 52 = (n.log2 + 1022) * 2 ^ 52 + 2 ^ 53 := by
    rw [show n.log2 + 1024 = n.log2 + 1022 + 2 from rfl, Nat.add_mul]
  refine ⟨?_, ?_, l3⟩
  · rw [m1]
    unfold nearR
    split
    · rename_i hl
      have : 2 ^ 52 ≤ n * 2 ^ (52 - n.log2) := by
        calc 2 ^ 52 = 2 ^ n.log2 * 2 ^ (52 - n.log2) := by rw [← Nat.pow_add]; congr 1; omega
          _ ≤ n * 2 ^ (52 - n.log2) := Nat.mul_le_mul_right _ l1
      clear l1 l2 m1 m2
      generalize (n.log2 + 1022) * 2 ^ 52 = A
      generalize n * 2 ^ (52 - n.log2) = q at *
      omega
    · rename_i hl
      have e : 2 ^ 52 * 2 ^ (n.log2 - 52) = 2 ^ n.log2 := by rw [← Nat.pow_add]; congr 1; omega
      have : 2 ^ 52 ≤ n / 2 ^ (n.log2 - 52) := (Nat.le_div_iff_mul_le (Nat.two_pow_pos _)).2 (by rw [e]; exact l1)
      have hu : ∀ u : Nat, (n.log2 + 1022) * 2 ^ 52 + 2 ^ 52 ≤ (n.log2 + 1022) * 2 ^ 52 + (n / 2 ^ (n.log2 - 52) + u) := by
        intro u
        clear l1 l2 e m1 m2
        generalize (n.log2 + 1022) * 2 ^ 52 = A
        generalize n / 2 ^ (n.log2 - 52) = q at *
        omega
      exact hu _
  · rw [m2]
    unfold nearR
    split
    · rename_i hl
      have : n * 2 ^ (52 - n.log2) < 2 ^ 53 := by
        calc n * 2 ^ (52 - n.log2) < 2 ^ (n.log2 + 1) * 2 ^ (52 - n.log2) := Nat.mul_lt_mul_of_pos_right l2 (Nat.two_pow_pos _)
          _ = 2 ^ 53 := by rw [← Nat.pow_add]; congr 1; omega
      clear l1 l2 m1 m2
      generalize (n.log2 + 1022) * 2 ^ 52 = A
      generalize n * 2 ^ (52 - n.log2) = q at *
      omega
    · rename_i hl
      have e : 2 ^ 53 * 2 ^ (n.log2 - 52) = 2 ^ (n.log2 + 1) := by rw [← Nat.pow_add]; congr 1; omega
      have : n / 2 ^ (n.log2 - 52) < 2 ^ 53 := (Nat.div_lt_iff_lt_mul (Nat.two_pow_pos _)).2 (by rw [e]; exact l2)
      have hu : ∀ u : Nat, u ≤ 1 → (n.log2 + 1022) * 2 ^ 52 + (n / 2 ^ (n.log2 - 52) + u) ≤ (n.log2 + 1022) * 2 ^ 52 + 2 ^ 53 := by
        intro u hu
        clear l1 l2 e m1 m2
        generalize (n.log2 + 1022) * 2 ^ 52 = A
        generalize n / 2 ^ (n.log2 - 52) = q at *
        omega
      exact hu _ (by split <;> decide)
/-- The model's nearest word, of a whole number below 2^64. -/
theorem nearest_eq (z : Int) (h0 : z ≠ 0) (h : z.natAbs < 2 ^ 64) : FloatKind.f64.nearest z = (if z < 0 then 2 ^ 63 else 0) + nearR z.natAbs := by
  have hn : z.natAbs ≠ 0 := by omega
  have hb := nearR_bounds hn h
  have key : ∀ (s : Bool) (n : Nat), n ≠ 0 → n < 2 ^ 64 → Ieee.double.nearest s n 0 = (if s = true then 2 ^ 63 else 0) + nearR n := by
    intro s n hn hlt
    have hb := nearR_bounds hn hlt
    unfold Ieee.Format.nearest
    rw [if_neg hn]
    have hl : max ((0 : Int) + (n.log2 : Int) - 52) (-1074) = (n.log2 : Int) - 52 := by omega
    have hlast : (max ((0 : Int) + (n.log2 : Int) - (Ieee.double.fractionBits : Int)) Ieee.double.leastPlace) = (n.log2 : Int) - 52 := hl
    simp only [hlast]
    have e1 : ((n.log2 : Int) - 52 - Ieee.double.leastPlace).toNat = n.log2 + 1022 := by
      show ((n.log2 : Int) - 52 - (-1074)).toNat = _
      omega
    have hcut : Ieee.Toward.even.cut s (n <<< ((0 : Int) - ((n.log2 : Int) - 52)).toNat) ((n.log2 : Int) - 52 - 0).toNat + (n.log2 + 1022) * 2 ^ 52 = nearR n := by
      unfold nearR
      by_cases hl : n.log2 ≤ 52
      · rw [if_pos hl]
        have e2 : ((n.log2 : Int) - 52 - 0).toNat = 0 := by omega
        have e3 : ((0 : Int) - ((n.log2 : Int) - 52)).toNat = 52 - n.log2 := by omega
        rw [e2, e3, cut_even _ _ _ (by omega), Nat.shiftLeft_eq]
        simp [Nat.mod_one]
        omega
      · rw [if_neg hl]
        have e2 : ((n.log2 : Int) - 52 - 0).toNat = n.log2 - 52 := by omega
        have e3 : ((0 : Int) - ((n.log2 : Int) - 52)).toNat = 0 := by omega
        rw [e2, e3, Nat.shiftLeft_zero, cut_even _ _ _ (by omega), Nat.add_comm]
    rw [e1]
    show Ieee.double.word s (min ((n.log2 + 1022) * 2 ^ 52 + _) (2047 * 2 ^ 52)) = _
    rw [Nat.add_comm ((n.log2 + 1022) * 2 ^ 52), hcut, Nat.min_eq_left (by omega)]
    unfold Ieee.Format.word
    cases s
    · simp
    · rfl
  show Ieee.double.nearest (decide (z < 0)) z.natAbs 0 = _
  rw [key _ _ hn h]
  simp
theorem nearest_zero : FloatKind.f64.nearest 0 = 0 := by decide +kernel
end Go.Proofs.YtlcconooojlhhaaDoor
