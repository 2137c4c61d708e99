/- Words of F64: how they stand to each other; the whole number in one. Plain laws, over the model's own reading. -/
import Derived.Test.YtlcconooojlhhaaDoorConv
namespace Go.Proofs.YtlcconooojlhhaaDoor
open Go.RowKit

/-- The sign, the rung (magnitude's place in the order), of a word. -/
def negF (b : Nat) : Bool := b / 2 ^ 63 % 2 == 1
def rungF (b : Nat) : Nat := b % 2 ^ 63
/-- A word's place in the order, both zeros at one place. -/
def keyF (b : Nat) : Int := if negF b then -(rungF b : Int) else rungF b
/-- A magnitude, in units of 2^-1074. -/
def valF (r : Nat) : Nat := if r < 2 ^ 52 then r else (2 ^ 52 + r % 2 ^ 52) * 2 ^ (r / 2 ^ 52 - 1)

theorem valF_lt_next (r : Nat) : valF r < 2 ^ 52 * 2 ^ (r / 2 ^ 52) := by
  unfold valF
  split
  · rename_i h
    have : r / 2 ^ 52 = 0 := Nat.div_eq_of_lt h
    rw [this]
    simpa using h
  · rename_i h
    have h1 : 1 ≤ r / 2 ^ 52 := (Nat.le_div_iff_mul_le (Nat.two_pow_pos 52)).2 (by omega)
    obtain ⟨e, he⟩ : ∃ e, r / 2 ^ 52 = e + 1 := ⟨r / 2 ^ 52 - 1, by omega⟩
    have hm := Nat.mod_lt r (Nat.two_pow_pos 52)
    rw [he, Nat.add_sub_cancel, show 2 ^ (e + 1) = 2 ^ e * 2 from Nat.pow_succ ..]
    have hp := Nat.two_pow_pos e
    generalize 2 ^ e = p at *
    generalize r % 2 ^ 52 = m at *
    calc (2 ^ 52 + m) * p < (2 ^ 52 + 2 ^ 52) * p := Nat.mul_lt_mul_of_pos_right (by omega) hp
      _ = 2 ^ 52 * (p * 2) := by omega
theorem valF_ge (r : Nat) (h : 1 ≤ r / 2 ^ 52) : 2 ^ 52 * 2 ^ (r / 2 ^ 52 - 1) ≤ valF r := by
  unfold valF
  have h52 : ¬ r < 2 ^ 52 := by
    intro hlt
    have : r / 2 ^ 52 = 0 := Nat.div_eq_of_lt hlt
    omega
  rw [if_neg h52]
  exact Nat.mul_le_mul_right _ (Nat.le_add_right _ _)
theorem valF_mono {r s : Nat} (h : r < s) : valF r < valF s := by
  by_cases he : r / 2 ^ 52 = s / 2 ^ 52
  · unfold valF
    by_cases h0 : r < 2 ^ 52
    · have : r / 2 ^ 52 = 0 := Nat.div_eq_of_lt h0
      have hs : s < 2 ^ 52 := by
        apply Nat.lt_of_div_eq_zero (Nat.two_pow_pos 52)
        rw [← he, this]
      rw [if_pos h0, if_pos hs]
      exact h
    · have hs : ¬ s < 2 ^ 52 := by omega
      rw [if_neg h0, if_neg hs, he]
      have h1 := Nat.div_add_mod r (2 ^ 52)
      have h2 := Nat.div_add_mod s (2 ^ 52)
      rw [he] at h1
      exact Nat.mul_lt_mul_of_pos_right (by omega) (Nat.two_pow_pos _)
  · have hle : r / 2 ^ 52 ≤ s / 2 ^ 52 := Nat.div_le_div_right (Nat.le_of_lt h)
    have hlt : r / 2 ^ 52 ≤ s / 2 ^ 52 - 1 := by omega
    have h1 := valF_lt_next r
    have h2 := valF_ge s (by omega)
    have h3 : 2 ^ 52 * 2 ^ (r / 2 ^ 52) ≤ 2 ^ 52 * 2 ^ (s / 2 ^ 52 - 1) := Nat.mul_le_mul_left _ (Nat.pow_le_pow_right (by omega) hlt)
    exact Nat.lt_of_lt_of_le h1 (Nat.le_trans h3 h2)
def svalF (b : Nat) : Int := if negF b then -(valF (rungF b) : Int) else valF (rungF b)
theorem valF_zero : valF 0 = 0 := by simp [valF]
theorem compare_sval (b c : Nat) : compare (svalF b) (svalF c) = compare (keyF b) (keyF c) := by
  have mono : ∀ r s, valF r < valF s ↔ r < s := fun r s => ⟨fun h => by
    rcases Nat.lt_trichotomy r s with h1 | h1 | h1
    · exact h1
    · subst h1; omega
    · have := valF_mono h1; omega, valF_mono⟩
  have z : ∀ r, valF r = 0 ↔ r = 0 := fun r => ⟨fun h => by
    rcases Nat.eq_zero_or_pos r with h1 | h1
    · exact h1
    · have := valF_mono h1; rw [valF_zero] at this; omega, fun h => by rw [h, valF_zero]⟩
  have m1 := mono (rungF b) (rungF c)
  have m2 := mono (rungF c) (rungF b)
  have z1 := z (rungF b)
  have z2 := z (rungF c)
  unfold svalF keyF
  generalize valF (rungF b) = vb at *
  generalize valF (rungF c) = vc at *
  generalize rungF b = rb at *
  generalize rungF c = rc at *
  clear mono z
  simp only [compare, compareOfLessAndEq]
  cases negF b <;> cases negF c <;> simp only [Bool.false_eq_true, if_false, if_true] <;> split <;> split <;> (try split) <;> (try split) <;> first | rfl | (exfalso; omega)

/-- What is read off a word below infinity. -/
theorem read_num {b : Nat} (h : rungF b < 2047 * 2 ^ 52) : FloatKind.f64.format.read b = .number (negF b) (if rungF b < 2 ^ 52 then rungF b else 2 ^ 52 + rungF b % 2 ^ 52) (-1074 + ((rungF b / 2 ^ 52 - 1 : Nat) : Int)) := by
  show (if rungF b < 2 ^ 52 then Ieee.Datum.number (negF b) (rungF b) (-1074) else if rungF b < (2 ^ 11 - 1) * 2 ^ 52 then .number (negF b) (2 ^ 52 + rungF b % 2 ^ 52) (-1074 + ((rungF b / 2 ^ 52 - 1 : Nat) : Int)) else _) = _
  by_cases h0 : rungF b < 2 ^ 52
  · have hd : rungF b / 2 ^ 52 = 0 := Nat.div_eq_of_lt h0
    rw [if_pos h0, if_pos h0, hd]
    rfl
  · rw [if_neg h0, if_neg h0, if_pos (by omega)]
theorem read_inf {b : Nat} (h : rungF b = 2047 * 2 ^ 52) : FloatKind.f64.format.read b = .infinity (negF b) := by
  show (if rungF b < 2 ^ 52 then _ else if rungF b < (2 ^ 11 - 1) * 2 ^ 52 then _ else if rungF b = (2 ^ 11 - 1) * 2 ^ 52 then Ieee.Datum.infinity (negF b) else _) = _
  rw [if_neg (by omega), if_neg (by omega), if_pos (by omega)]
theorem read_nan {b : Nat} (h : 2047 * 2 ^ 52 < rungF b) : FloatKind.f64.format.read b = .nan (negF b) (rungF b - 2047 * 2 ^ 52) := by
  show (if rungF b < 2 ^ 52 then _ else if rungF b < (2 ^ 11 - 1) * 2 ^ 52 then _ else if rungF b = (2 ^ 11 - 1) * 2 ^ 52 then _ else Ieee.Datum.nan (negF b) (rungF b - (2 ^ 11 - 1) * 2 ^ 52)) = _
  rw [if_neg (by omega), if_neg (by omega), if_neg (by omega)]
theorem nan64_eq (b : Nat) : nan64 b = decide (2047 * 2 ^ 52 < rungF b) := by
  unfold nan64 Ieee.Format.order
  rcases Nat.lt_trichotomy (rungF b) (2047 * 2 ^ 52) with h | h | h
  · rw [read_num h]
    have : decide (2047 * 2 ^ 52 < rungF b) = false := decide_eq_false (by omega)
    rw [this]
    simp [Ieee.Datum.order]
  · rw [read_inf h]
    have : decide (2047 * 2 ^ 52 < rungF b) = false := decide_eq_false (by omega)
    rw [this]
    simp [Ieee.Datum.order]
  · rw [read_nan h]
    have : decide (2047 * 2 ^ 52 < rungF b) = true := decide_eq_true h
    rw [this]
    simp [Ieee.Datum.order]
theorem valF_num (r : Nat) : valF r = (if r < 2 ^ 52 then r else 2 ^ 52 + r % 2 ^ 52) * 2 ^ (r / 2 ^ 52 - 1) := by
  unfold valF
  split
  · rename_i h
    have : r / 2 ^ 52 = 0 := Nat.div_eq_of_lt h
    rw [this]
    simp
  · rfl
theorem compare_scale (x y : Int) (p : Nat) (hp : 0 < p) : compare (x * p) (y * p) = compare x y := by
  have hp' : (0 : Int) < p := by omega
  have m : ∀ a b : Int, a * p < b * p ↔ a < b := fun a b => ⟨fun h => Int.lt_of_mul_lt_mul_right h (Int.le_of_lt hp'), fun h => Int.mul_lt_mul_of_pos_right h hp'⟩
  have e : x * p = y * p ↔ x = y := ⟨fun h => by
    have h1 := m x y
    have h2 := m y x
    omega, fun h => by rw [h]⟩
  simp only [compare, compareOfLessAndEq, m, e]
theorem signed_val (s : Bool) (m k : Nat) : Ieee.signed s m k = if s then -((m * 2 ^ k : Nat) : Int) else ((m * 2 ^ k : Nat) : Int) := by
  unfold Ieee.signed
  rw [Nat.shiftLeft_eq]
theorem ord64_num {b c : Nat} (hb : rungF b < 2047 * 2 ^ 52) (hc : rungF c < 2047 * 2 ^ 52) : ord64 b c = some (compare (keyF b) (keyF c)) := by
  rw [← compare_sval]
  unfold ord64 Ieee.Format.order
  rw [read_num hb, read_num hc]
  simp only [Ieee.Datum.order, signed_val]
  unfold svalF
  rw [valF_num (rungF b), valF_num (rungF c)]
  generalize (if rungF b < 2 ^ 52 then rungF b else 2 ^ 52 + rungF b % 2 ^ 52) = m
  generalize (if rungF c < 2 ^ 52 then rungF c else 2 ^ 52 + rungF c % 2 ^ 52) = n
  generalize rungF b / 2 ^ 52 - 1 = i
  generalize rungF c / 2 ^ 52 - 1 = j
  have hi : (-1074 + (i : Int) - min (-1074 + (i : Int)) (-1074 + (j : Int))).toNat = i - min i j := by omega
  have hj : (-1074 + (j : Int) - min (-1074 + (i : Int)) (-1074 + (j : Int))).toNat = j - min i j := by omega
  rw [hi, hj]
  have e1 : m * 2 ^ i = m * 2 ^ (i - min i j) * 2 ^ min i j := by rw [Nat.mul_assoc, ← Nat.pow_add]; congr 2; omega
  have e2 : n * 2 ^ j = n * 2 ^ (j - min i j) * 2 ^ min i j := by rw [Nat.mul_assoc, ← Nat.pow_add]; congr 2; omega
  rw [e1, e2]
  have hp : 0 < 2 ^ min i j := Nat.two_pow_pos _
  generalize 2 ^ min i j = p at *
  rw [← compare_scale _ _ p hp]
  congr 2
  · cases negF b <;> simp [Int.natCast_mul, Int.neg_mul]
  · cases negF c <;> simp [Int.natCast_mul, Int.neg_mul]
theorem rungF_lt (b : Nat) : rungF b < 2 ^ 63 := Nat.mod_lt _ (Nat.two_pow_pos 63)
theorem ord64_key {b c : Nat} (hb : nan64 b = false) (hc : nan64 c = false) : ord64 b c = some (compare (keyF b) (keyF c)) := by
  rw [nan64_eq] at hb hc
  have hb' : rungF b ≤ 2047 * 2 ^ 52 := by simpa using hb
  have hc' : rungF c ≤ 2047 * 2 ^ 52 := by simpa using hc
  rcases Nat.lt_or_eq_of_le hb' with h1 | h1
  · rcases Nat.lt_or_eq_of_le hc' with h2 | h2
    · exact ord64_num h1 h2
    · unfold ord64 Ieee.Format.order
      rw [read_num h1, read_inf h2]
      simp only [Ieee.Datum.order, keyF, h2]
      cases negF c <;> cases negF b <;> simp only [compare, compareOfLessAndEq, Bool.false_eq_true, if_false, if_true] <;> split <;> (try split) <;> first | rfl | (exfalso; omega)
  · rcases Nat.lt_or_eq_of_le hc' with h2 | h2
    · unfold ord64 Ieee.Format.order
      rw [read_inf h1, read_num h2]
      simp only [Ieee.Datum.order, keyF, h1]
      cases negF c <;> cases negF b <;> simp only [compare, compareOfLessAndEq, Bool.false_eq_true, if_false, if_true] <;> split <;> (try split) <;> first | rfl | (exfalso; omega)
    · unfold ord64 Ieee.Format.order
      rw [read_inf h1, read_inf h2]
      simp only [Ieee.Datum.order, keyF, h1, h2]
      cases negF c <;> cases negF b <;> rfl
end Go.Proofs.YtlcconooojlhhaaDoor
