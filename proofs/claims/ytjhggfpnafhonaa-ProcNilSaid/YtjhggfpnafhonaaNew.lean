/- New and Fork. Nothing here is conditional. -/
import Derived.Test.YtjhggfpnafhonaaOps
import Derived.Deep.DeepCutAuto
import Derived.Carry
namespace Go.Proofs.Ytjhggfpnafhonaa
open Go.RowKit Go.Maps

theorem TMap.made (w : World) : TMap (w.alloc (.map #[] 0)) w.heap.size [] := ⟨World.ownsMap_made w Try.prog 3 elP, List.Pairwise.nil⟩

/-- The first table. -/
def T0 : List Pr := [⟨1, 0, 1, 0⟩]

set_option maxHeartbeats 1000000 in
theorem new_any (w : World) :
    Calls Try.prog 9 #[] w fun e w' => ∃ t b, e = .returned (.pointer (some ⟨t, 0, none⟩)) ∧ w.heap.size ≤ t ∧ w.heap.size ≤ b ∧ Tab w' t b T0 ∧ Below w.heap.size w w' := by
  go_enter Try.func9, Try.ntmps9
  have m0 := TMap.made w
  have hmm := run_makeMap (P := Try.prog) 35 w
  go_wp2_with (refine wpList_insert_t _ rfl _ _ _ rfl m0 (by simp) ⟨1, 0, 1, 0⟩ rfl rfl (by decide) rfl ?_; intro w2 hm2 hgr)
  go_ret
  have hs2 := hgr.size
  simp only [World.size_alloc] at hs2
  have hb : Below w.heap.size w w2 := ((Below.refl _ w).alloc (Nat.le_refl _) _).grown hgr (by simp) (fun r hr => by cases hr; exact Nat.le_refl _)
  refine ⟨w2.heap.size, w.heap.size, rfl, by omega, Nat.le_refl _, ⟨⟨(0, 0), heap_alloc_new _ _⟩, hm2.alloc _, by omega⟩, hb.alloc hb.size _⟩

/-- The least number that is free. -/
def free (T : List Pr) (n : Int) : Prop := 1 ≤ n ∧ find T n = none ∧ ∀ k, 1 ≤ k → k < n → (find T k).isSome = true

theorem find_cons (p : Pr) (r : List Pr) (k : Int) : find (p :: r) k = if p.pid = k then some p else find r k := by
  simp only [find, List.find?_cons]
  by_cases e : p.pid = k
  · simp [e]
  · have : (p.pid == k) = false := by simp [e]
    simp [this, e]
theorem find_none_above {T : List Pr} {k : Int} (h : ∀ q ∈ T, k < q.pid) : find T k = none := by
  unfold find
  rw [List.find?_eq_none]
  intro q hq
  have := h q hq
  simp; omega
theorem find_len {T : List Pr} (h : Up T) : ∀ (n : Nat) (a : Int), (∀ k : Int, a ≤ k → k < a + n → (find T k).isSome = true) → n ≤ T.length := by
  induction T with
  | nil =>
    intro n a hn
    rcases Nat.eq_zero_or_pos n with rfl | h0
    · simp
    · have := hn a (by omega) (by omega)
      simp [find] at this
  | cons p r ih =>
    intro n a hn
    have h' := List.pairwise_cons.1 h
    rcases Int.lt_trichotomy p.pid a with hlt | heq | hgt
    · have := ih h'.2 n a (fun k h1 h2 => by
        have := hn k h1 h2
        rwa [find_cons, if_neg (by omega)] at this)
      simp; omega
    · rcases Nat.eq_zero_or_pos n with rfl | h0
      · simp
      have := ih h'.2 (n - 1) (a + 1) (fun k h1 h2 => by
        have := hn k (by omega) (by omega)
        rwa [find_cons, if_neg (by omega)] at this)
      simp; omega
    · rcases Nat.eq_zero_or_pos n with rfl | h0
      · simp
      have := hn a (by omega) (by omega)
      rw [find_cons, if_neg (by omega), find_none_above (fun q hq => by have := h'.1 q hq; omega)] at this
      simp at this
end Go.Proofs.Ytjhggfpnafhonaa
