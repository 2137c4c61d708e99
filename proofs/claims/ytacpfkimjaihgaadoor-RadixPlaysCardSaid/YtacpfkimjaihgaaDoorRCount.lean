/- radix: how many nodes, by the pages. No conditions. -/
import Derived.Test.YtacpfkimjaihgaaDoorRPages
namespace Go.Proofs.YtacpfkimjaihgaaDoor
set_option linter.unusedVariables false

section
variable {E : Nat → Nat → Sl} {H : Nat → Prop} {N : Nat → Nat → Option Nat} {C : Nat → Option Sl} {root : Nat}
theorem Tr.dom (tr : Tr E H N C root) {x : Nat} {s : Sl} (h : C x = some s) : x < 4096 := by
  obtain ⟨f, hf⟩ := tr.leaf_ne h
  have := (tr.small _ _ _ hf).2
  omega
/-- Is a prefix there? -/
def hasP (L : List (Nat × Sl)) (l q : Nat) : Bool := L.any (fun x => pre x.1 l == q)
theorem hasP_iff (L : List (Nat × Sl)) (l q : Nat) : hasP L l q = true ↔ ∃ x ∈ L, pre x.1 l = q := by
  unfold hasP
  rw [List.any_eq_true]
  constructor
  · rintro ⟨x, hx, h⟩
    exact ⟨x, hx, by simpa using h⟩
  · rintro ⟨x, hx, h⟩
    exact ⟨x, hx, by simpa using h⟩
def nodesL (L : List (Nat × Sl)) : Nat := 1 + (List.range 8).countP (hasP L 1) + (List.range 64).countP (hasP L 2) + (List.range 512).countP (hasP L 3)
theorem hasP_node (tr : Tr E H N C root) (hti : Tight N C) (l q : Nat) (h1 : 1 ≤ l) (h3 : l ≤ 3) : (N l q).isSome = hasP (pages C) l q := by
  rw [Bool.eq_iff_iff, node_iff tr hti l q h1 h3, hasP_iff]
  constructor
  · rintro ⟨x, hx, rfl⟩
    cases hc : C x with
    | none => exact absurd hc hx
    | some s => exact ⟨(x, s), (mem_pages C (x, s)).2 ⟨hc, tr.dom hc⟩, rfl⟩
  · rintro ⟨⟨x, s⟩, hx, rfl⟩
    have := ((mem_pages C (x, s)).1 hx).1
    simp only at this
    exact ⟨x, by rw [this]; simp, rfl⟩
theorem cnt_nodes (tr : Tr E H N C root) (hti : Tight N C) : cnt N = nodesL (pages C) := cnt_of tr (hasP (pages C)) (fun l q h1 h3 => hasP_node tr hti l q h1 h3)
end

/-! ## Pages side by side -/
def rowC (f : Nat → Sl) (a b : Nat) : Nat → Option Sl := fun p => if a ≤ p ∧ p < b then some (f p) else none
theorem rowC_zero (f : Nat → Sl) (a : Nat) : rowC f a a = C0 := by
  funext p
  unfold rowC C0
  rw [if_neg (by omega)]
theorem rowC_succ (f : Nat → Sl) {a b : Nat} (h : a ≤ b) : updC (rowC f a b) b (some (f b)) = rowC f a (b + 1) := by
  funext p
  unfold updC rowC
  by_cases e : p = b
  · subst e
    rw [if_pos rfl, if_pos (by omega)]
  · rw [if_neg e]
    by_cases h2 : a ≤ p ∧ p < b
    · rw [if_pos h2, if_pos (by omega)]
    · rw [if_neg h2, if_neg (by omega)]
theorem rowC_pages (f : Nat → Sl) {a b : Nat} (hb : b ≤ 4096) : pages (rowC f a b) = (List.range (b - a)).map (fun i => (a + i, f (a + i))) := by
  refine pages_eq ?_ ?_
  · unfold Rise
    rw [List.pairwise_map]
    refine List.Pairwise.imp ?_ List.pairwise_lt_range
    intro i j h
    simp only
    omega
  · rintro ⟨p, s⟩
    rw [List.mem_map]
    simp only [Prod.mk.injEq, List.mem_range, rowC]
    constructor
    · rintro ⟨i, hi, rfl, rfl⟩
      rw [if_pos (by omega)]
      exact ⟨rfl, by omega⟩
    · rintro ⟨h1, h2⟩
      split at h1
      · rename_i hp
        injection h1 with h1
        exact ⟨p - a, by omega, by omega, by rw [← h1]; congr 1; omega⟩
      · cases h1
theorem count_range (n a b : Nat) (hab : a ≤ b) (hb : b < n) : (List.range n).countP (fun q => decide (a ≤ q ∧ q ≤ b)) = b - a + 1 := by
  have h1 : ∀ m, (List.range m).countP (fun q => decide (a ≤ q ∧ q ≤ b)) = min m (b + 1) - min m a := by
    intro m
    induction m with
    | zero => simp
    | succ m ih =>
      rw [List.range_succ, List.countP_append, ih]
      by_cases h : a ≤ m ∧ m ≤ b
      · simp [h]; omega
      · simp [h]; omega
  rw [h1]
  omega
theorem rowC_nodes (f : Nat → Sl) {a b : Nat} (hab : a < b) (hb : b ≤ 4096) : nodesL (pages (rowC f a b)) = 1 + ((b - 1) / 512 - a / 512 + 1) + ((b - 1) / 64 - a / 64 + 1) + ((b - 1) / 8 - a / 8 + 1) := by
  have key : ∀ l d, 8 ^ (4 - l) = d → 0 < d → hasP (pages (rowC f a b)) l = fun q => decide (a / d ≤ q ∧ q ≤ (b - 1) / d) := by
    intro l d hd h0
    funext q
    rw [Bool.eq_iff_iff, hasP_iff, decide_eq_true_iff, rowC_pages f hb]
    constructor
    · rintro ⟨x, hx, rfl⟩
      rw [List.mem_map] at hx
      obtain ⟨i, hi, rfl⟩ := hx
      have := List.mem_range.1 hi
      simp only [pre, hd]
      exact ⟨Nat.div_le_div_right (by omega), Nat.div_le_div_right (by omega)⟩
    · rintro ⟨h1, h2⟩
      by_cases e : q = a / d
      · exact ⟨(a + 0, f (a + 0)), List.mem_map.2 ⟨0, List.mem_range.2 (by omega), rfl⟩, by simp [pre, hd, e]⟩
      · have hq : a < q * d := by
          have : a / d < q := by omega
          exact (Nat.div_lt_iff_lt_mul h0).1 this
        have hq2 : q * d ≤ b - 1 := (Nat.le_div_iff_mul_le h0).1 h2
        refine ⟨(a + (q * d - a), f (a + (q * d - a))), List.mem_map.2 ⟨q * d - a, List.mem_range.2 (by omega), rfl⟩, ?_⟩
        simp only [pre, hd]
        rw [show a + (q * d - a) = q * d from by omega, Nat.mul_div_cancel _ h0]
  unfold nodesL
  rw [key 1 512 rfl (by omega), key 2 64 rfl (by omega), key 3 8 rfl (by omega), count_range 8 _ _ (Nat.div_le_div_right (by omega)) (by omega), count_range 64 _ _ (Nat.div_le_div_right (by omega)) (by omega), count_range 512 _ _ (Nat.div_le_div_right (by omega)) (by omega)]
end Go.Proofs.YtacpfkimjaihgaaDoor
