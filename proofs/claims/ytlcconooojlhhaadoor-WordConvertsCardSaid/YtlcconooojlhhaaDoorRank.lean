/- The order of words by ranks; the least and the greatest by them. Plain laws. -/
import Derived.Test.YtlcconooojlhhaaDoorFloat2
import Derived.Test.YtlcconooojlhhaaDoorPick
namespace Go.Proofs.YtlcconooojlhhaaDoor
open Go.RowKit

def rankOf (k x : Int) : Int := if k = 9 then keyF x.toNat else if signedOf k = true then s64 x else x
def isNum (k x : Int) : Prop := k = 9 → nan64 x.toNat = false
instance (k x : Int) : Decidable (isNum k x) := by unfold isNum; infer_instance
theorem cmpF_key {x y : Nat} (hx : nan64 x = false) (hy : nan64 y = false) : cmpF x y = cmpOf (keyF x) (keyF y) := by
  unfold cmpF cmpOf
  rw [hx, hy, if_neg (by simp), ord64_key hx hy]
  simp only [Option.some.injEq, cmp_lt, cmp_gt]
theorem cmpC_rank (k x y : Int) : cmpC k x y = if isNum k x ∧ isNum k y then cmpOf (rankOf k x) (rankOf k y) else 2 := by
  unfold cmpC rankOf
  by_cases h9 : k = 9
  · subst h9
    simp only [if_true, isNum, true_implies]
    by_cases hn : nan64 x.toNat = false ∧ nan64 y.toNat = false
    · rw [if_pos hn, cmpF_key hn.1 hn.2]
    · rw [if_neg hn, cmpF, if_pos]
      cases h1 : nan64 x.toNat <;> cases h2 : nan64 y.toNat <;> simp_all
  · have hnn : isNum k x ∧ isNum k y := ⟨fun h => absurd h h9, fun h => absurd h h9⟩
    simp only [if_neg h9, if_pos hnn]
    by_cases hs : signedOf k = true
    · simp only [if_pos hs]
    · simp only [if_neg hs]
theorem cmpOf_vals (x y : Int) : (x < y ∧ cmpOf x y = -1) ∨ (x = y ∧ cmpOf x y = 0) ∨ (y < x ∧ cmpOf x y = 1) := by
  unfold cmpOf
  rcases Int.lt_trichotomy x y with h | h | h
  · exact .inl ⟨h, by rw [if_pos h]⟩
  · exact .inr (.inl ⟨h, by rw [if_neg (by omega), if_neg (by omega)]⟩)
  · exact .inr (.inr ⟨h, by rw [if_neg (by omega), if_pos h]⟩)
theorem keyF_inj {x y : Nat} (hx : x < 2 ^ 64) (hy : y < 2 ^ 64) (h : keyF x = keyF y) : x = y ∨ (x = 0 ∧ y = 2 ^ 63) ∨ (x = 2 ^ 63 ∧ y = 0) := by
  have e : ∀ b : Nat, b < 2 ^ 64 → (negF b = true ∧ b = 2 ^ 63 + rungF b) ∨ (negF b = false ∧ b = rungF b) := by
    intro b hb
    unfold negF rungF
    have h1 := Nat.div_add_mod b (2 ^ 63)
    by_cases hq : b < 2 ^ 63
    · right
      rw [Nat.div_eq_of_lt hq, Nat.mod_eq_of_lt hq]
      exact ⟨rfl, rfl⟩
    · left
      have : b / 2 ^ 63 = 1 := by omega
      rw [this] at h1 ⊢
      exact ⟨rfl, by omega⟩
  have ex := e x hx
  have ey := e y hy
  unfold keyF at h
  rcases ex with ⟨n1, e1⟩ | ⟨n1, e1⟩ <;> rcases ey with ⟨n2, e2⟩ | ⟨n2, e2⟩ <;> rw [n1, n2] at h <;> simp only [if_true, Bool.false_eq_true, if_false] at h <;> omega
theorem rankOf_inj {k x y : Int} (hx0 : 0 ≤ x) (hx1 : x < 18446744073709551616) (hy0 : 0 ≤ y) (hy1 : y < 18446744073709551616) (h : rankOf k x = rankOf k y) :
    x = y ∨ (k = 9 ∧ ((x = 0 ∧ y = 9223372036854775808) ∨ (x = 9223372036854775808 ∧ y = 0))) := by
  unfold rankOf at h
  by_cases h9 : k = 9
  · rw [if_pos h9, if_pos h9] at h
    rcases keyF_inj (by omega) (by omega) h with h1 | h1 | h1
    · left; omega
    · right; omega
    · right; omega
  · rw [if_neg h9, if_neg h9] at h
    left
    split at h
    · unfold s64 at h
      split at h <;> split at h <;> omega
    · exact h
theorem isNum_0 (k : Int) : isNum k 0 := fun _ => by decide +kernel
theorem isNum_m0 (k : Int) : isNum k 9223372036854775808 := fun _ => by decide +kernel
theorem rank9_0 : rankOf 9 0 = 0 := by decide +kernel
theorem rank9_m0 : rankOf 9 9223372036854775808 = 0 := by decide +kernel
theorem cmpC_2 {k x y : Int} : cmpC k x y = 2 ↔ ¬ (isNum k x ∧ isNum k y) := by
  rw [cmpC_rank]
  by_cases h : isNum k x ∧ isNum k y
  · rw [if_pos h]
    have := cmpOf_vals (rankOf k x) (rankOf k y)
    constructor
    · intro h2; omega
    · intro h2; exact absurd h h2
  · rw [if_neg h]
    simp [h]
theorem isNum_swap {k x y : Int} : (isNum k x ∧ isNum k y) ↔ (isNum k y ∧ isNum k x) := And.comm
/-- The order turned round. -/
theorem cmpC_swap {k x y : Int} (h : cmpC k x y ≠ 2) : cmpC k y x = -cmpC k x y := by
  have hn : isNum k x ∧ isNum k y := Decidable.byContradiction fun c => h (cmpC_2.2 c)
  rw [cmpC_rank, cmpC_rank, if_pos hn, if_pos ⟨hn.2, hn.1⟩]
  have h1 := cmpOf_vals (rankOf k x) (rankOf k y)
  have h2 := cmpOf_vals (rankOf k y) (rankOf k x)
  omega
def leastOf (k x y : Int) : Int := pickOf k x y 9223372036854775808 (fun c => decide (c < 0))
def greatestOf (k x y : Int) : Int := pickOf k x y 0 (fun c => decide (0 < c))
/-- Of two numbers: the least and the greatest, by their ranks. -/
theorem picks_num {k x y : Int} (hx0 : 0 ≤ x) (hx1 : x < 18446744073709551616) (hy0 : 0 ≤ y) (hy1 : y < 18446744073709551616) (h : isNum k x ∧ isNum k y) :
    (rankOf k x < rankOf k y ∧ leastOf k x y = x ∧ greatestOf k x y = y) ∨ (rankOf k y < rankOf k x ∧ leastOf k x y = y ∧ greatestOf k x y = x) ∨
    (rankOf k x = rankOf k y ∧ x = y ∧ leastOf k x y = x ∧ greatestOf k x y = x) ∨
    (rankOf k x = rankOf k y ∧ x ≠ y ∧ k = 9 ∧ ((x = 0 ∧ y = 9223372036854775808) ∨ (x = 9223372036854775808 ∧ y = 0)) ∧ leastOf k x y = 9223372036854775808 ∧ greatestOf k x y = 0) := by
  unfold leastOf greatestOf pickOf
  dsimp only
  rw [cmpC_rank, if_pos h]
  rcases cmpOf_vals (rankOf k x) (rankOf k y) with ⟨h1, h2⟩ | ⟨h1, h2⟩ | ⟨h1, h2⟩
  · refine .inl ⟨h1, ?_, ?_⟩ <;> rw [h2] <;> simp
  · rcases rankOf_inj hx0 hx1 hy0 hy1 h1 with h3 | ⟨h3, h4⟩
    · refine .inr (.inr (.inl ⟨h1, h3, ?_, ?_⟩)) <;> rw [h2] <;> simp [h3]
    · have hne : x ≠ y := by omega
      refine .inr (.inr (.inr ⟨h1, hne, h3, h4, ?_, ?_⟩)) <;> rw [h2] <;> simp [hne]
  · refine .inr (.inl ⟨h1, ?_, ?_⟩) <;> rw [h2] <;> simp
end Go.Proofs.YtlcconooojlhhaaDoor
