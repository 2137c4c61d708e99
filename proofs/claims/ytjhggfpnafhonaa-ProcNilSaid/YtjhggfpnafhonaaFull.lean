/- A table full of children of 1: plain laws. Nothing here is conditional. -/
import Derived.Test.YtjhggfpnafhonaaAwake
namespace Go.Proofs.Ytjhggfpnafhonaa
open Go.RowKit Go.Maps

theorem find_append (S T : List Pr) (k : Int) : find (S ++ T) k = match find S k with | some p => some p | none => find T k := by
  induction S with
  | nil => rfl
  | cons p r ih =>
    rw [List.cons_append, find_cons, find_cons, ih]
    by_cases e : p.pid = k
    · rw [if_pos e, if_pos e]
    · rw [if_neg e, if_neg e]
theorem Up.snoc {T : List Pr} (h : Up T) (p : Pr) (hp : ∀ q ∈ T, q.pid < p.pid) : Up (T ++ [p]) := by
  refine List.pairwise_append.2 ⟨h, List.pairwise_singleton .., ?_⟩
  intro a ha b hb
  simp at hb
  subst hb
  exact hp a ha
theorem ins_last {T : List Pr} (p : Pr) (hp : ∀ q ∈ T, q.pid < p.pid) : ins T p = T ++ [p] := by
  unfold ins
  have hd : del T p.pid = T := by
    unfold del
    rw [List.filter_eq_self]
    intro q hq
    have := hp q hq
    simp; omega
  rw [hd]
  induction T with
  | nil => rfl
  | cons q r ih =>
    have h1 := hp q (List.mem_cons_self ..)
    simp only [ins1]
    rw [if_neg (by omega), ih (fun x hx => hp x (List.mem_cons_of_mem _ hx))]
    · rfl
    · unfold del
      rw [List.filter_eq_self]
      intro x hx
      have := hp x (List.mem_cons_of_mem _ hx)
      simp; omega

theorem ended_cons (a : Pr) (r : List Pr) (k : Int) : endedOf (a :: r) k = if a.parent = k ∧ a.state = 2 then some a else endedOf r k := by
  unfold endedOf
  by_cases e : a.parent = k
  · rw [List.filter_cons_of_pos (by simp [keepP, e]), List.find?_cons]
    by_cases e2 : a.state = 2
    · simp [e, e2]
    · simp [e2]
  · rw [List.filter_cons_of_neg (by simp [keepP, e]), if_neg (fun h => e h.1)]
theorem ended_mem {T : List Pr} {k : Int} {p : Pr} (h : endedOf T k = some p) : p ∈ T ∧ p.parent = k ∧ p.state = 2 := by
  unfold endedOf at h
  have h1 := List.find?_some h
  have h2 := List.mem_filter.1 (List.mem_of_find?_eq_some h)
  exact ⟨h2.1, by simpa [keepP] using h2.2, by simpa using h1⟩
theorem ended_none {T : List Pr} {k : Int} (h : ∀ q ∈ T, q.parent = k → q.state ≠ 2) : endedOf T k = none := by
  cases he : endedOf T k with
  | none => rfl
  | some p =>
    obtain ⟨h1, h2, h3⟩ := ended_mem he
    exact absurd h3 (h p h1 h2)
/-- The first of those that have ended, among a process's children. -/
theorem ended_least {T : List Pr} (h : Up T) {k : Int} {p : Pr} (hp : p ∈ T) (h1 : p.parent = k) (h2 : p.state = 2) (hm : ∀ q ∈ T, q.parent = k → q.state = 2 → p.pid ≤ q.pid) : endedOf T k = some p := by
  induction T with
  | nil => simp at hp
  | cons a r ih =>
    have h' := List.pairwise_cons.1 h
    rw [ended_cons]
    rcases List.mem_cons.1 hp with rfl | hp
    · rw [if_pos ⟨h1, h2⟩]
    · rw [if_neg (fun hx => by
        have a1 := hm a (List.mem_cons_self ..) hx.1 hx.2
        have a2 := h'.1 p hp
        omega)]
      exact ih h'.2 hp (fun q hq => hm q (List.mem_cons_of_mem _ hq))

/-- 1 and m children. -/
def kid (j : Nat) : Pr := ⟨(j : Int) + 2, 1, 1, 0⟩
def kids (m : Nat) : List Pr := ⟨1, 0, 1, 0⟩ :: (List.range m).map kid
theorem kids_succ (m : Nat) : kids (m + 1) = kids m ++ [kid m] := by simp [kids, List.range_succ]
theorem kids_mem {m : Nat} {p : Pr} (h : p ∈ kids m) : p = ⟨1, 0, 1, 0⟩ ∨ ∃ j, j < m ∧ p = kid j := by
  unfold kids at h
  rcases List.mem_cons.1 h with h | h
  · exact .inl h
  · obtain ⟨j, hj, rfl⟩ := List.mem_map.1 h
    exact .inr ⟨j, List.mem_range.1 hj, rfl⟩
theorem kids_lt {m : Nat} {p : Pr} (h : p ∈ kids m) : 1 ≤ p.pid ∧ p.pid < (m : Int) + 2 := by
  rcases kids_mem h with rfl | ⟨j, hj, rfl⟩ <;> simp [kid] <;> omega
theorem kids_up (m : Nat) : Up (kids m) := by
  induction m with
  | zero => exact List.pairwise_singleton ..
  | succ m ih =>
    rw [kids_succ]
    refine ih.snoc _ (fun q hq => ?_)
    have := (kids_lt hq).2
    simp [kid]; omega
theorem kids_length (m : Nat) : (kids m).length = m + 1 := by simp [kids]
theorem kids_inv {m : Nat} (h : m ≤ 31) : Inv (kids m) := ⟨kids_up m, by rw [kids_length]; omega, fun p hp => by have := kids_lt hp; omega⟩
theorem kids_one (m : Nat) : find (kids m) 1 = some ⟨1, 0, 1, 0⟩ := by simp [kids, find_cons]
theorem kids_find {m j : Nat} (h : j < m) : find (kids m) ((j : Int) + 2) = some (kid j) :=
  find_mem (p := kid j) (kids_up m) (by unfold kids; exact List.mem_cons_of_mem _ (List.mem_map.2 ⟨j, List.mem_range.2 h, rfl⟩))
theorem kids_none {m : Nat} {k : Int} (h : (m : Int) + 2 ≤ k) : find (kids m) k = none := by
  cases hf : find (kids m) k with
  | none => rfl
  | some p =>
    have := kids_lt (find_in hf)
    have := find_pid hf
    omega
theorem kids_asked (m : Nat) : askedV (kids m) 1 = 0 := by simp [askedV, kids_one]
theorem kids_free (m : Nat) : free (kids m) ((m : Int) + 2) := by
  refine ⟨by omega, kids_none (by omega), fun k h1 h2 => ?_⟩
  by_cases e : k = 1
  · rw [e, kids_one]; rfl
  · have := kids_find (m := m) (j := (k - 2).toNat) (by omega)
    rw [show (((k - 2).toNat : Nat) : Int) + 2 = k from by omega] at this
    rw [this]; rfl
theorem kids_ins (m : Nat) : ins (kids m) ⟨(m : Int) + 2, 1, 1, 0⟩ = kids (m + 1) := by
  rw [ins_last _ (fun q hq => (kids_lt hq).2), kids_succ]
  rfl
theorem kids_running (m : Nat) : running (kids m) = m + 1 := by
  induction m with
  | zero => rfl
  | succ m ih =>
    rw [kids_succ]
    unfold running at ih ⊢
    rw [List.filter_append, List.length_append, ih]
    rfl
theorem kids_ended (m : Nat) : endedOf (kids m) 1 = none := by
  refine ended_none (fun q hq _ => ?_)
  rcases kids_mem hq with rfl | ⟨j, _, rfl⟩ <;> simp [kid]
theorem kids_some {m : Nat} (h : 0 < m) : (kids m).filter (keepP 1) ≠ [] := by
  intro he
  have : kid 0 ∈ (kids m).filter (keepP 1) := List.mem_filter.2 ⟨find_in (kids_find h), by simp [keepP, kid]⟩
  rw [he] at this
  simp at this

/-- Behind the end of one child. -/
theorem kids_exit {m j : Nat} (hj : j < m) : Up (exitT (kids m) ((j : Int) + 2) 5) ∧ askedV (kids m) ((j : Int) + 2) = 0 ∧ askedV (exitT (kids m) ((j : Int) + 2) 5) 1 = 0 ∧
    endedOf (exitT (kids m) ((j : Int) + 2) 5) 1 = some ⟨(j : Int) + 2, 1, 2, 5⟩ ∧ askedV (del (exitT (kids m) ((j : Int) + 2) 5) ((j : Int) + 2)) 1 = 0 ∧ free (del (exitT (kids m) ((j : Int) + 2) 5) ((j : Int) + 2)) ((j : Int) + 2) ∧
    ins (del (exitT (kids m) ((j : Int) + 2) 5) ((j : Int) + 2)) ⟨(j : Int) + 2, 1, 1, 0⟩ = kids m ∧ (del (exitT (kids m) ((j : Int) + 2) 5) ((j : Int) + 2)).length ≤ m := by
  have hU : Up (exitT (kids m) ((j : Int) + 2) 5) := (kids_up m).map _ (exitF_pid _ _)
  have h1 : find (exitT (kids m) ((j : Int) + 2) 5) 1 = some ⟨1, 0, 1, 0⟩ := by
    rw [find_exit, kids_one]
    simp [exitF]
    omega
  have hf := kids_find hj
  have hj1 : find (exitT (kids m) ((j : Int) + 2) 5) ((j : Int) + 2) = some ⟨(j : Int) + 2, 1, 2, 5⟩ := by
    rw [find_exit, hf]
    simp [exitF, kid]
  have ho : ∀ q ∈ exitT (kids m) ((j : Int) + 2) 5, q.parent = 1 → q.state = 2 → q.pid = (j : Int) + 2 := by
    intro q hq _ h2
    obtain ⟨p, hp, rfl⟩ := List.mem_map.1 hq
    simp only [exitF] at h2 ⊢
    by_cases e : p.pid = (j : Int) + 2
    · exact e
    · rw [if_neg e] at h2
      rcases kids_mem hp with rfl | ⟨i, _, rfl⟩ <;> simp [kid] at h2
  refine ⟨hU, by simp [askedV, hf, kid], by simp [askedV, h1], ended_least hU (find_in hj1) rfl rfl (fun q hq a b => by rw [ho q hq a b]; exact Int.le_refl _), ?_, ⟨by omega, ?_, ?_⟩, ?_, ?_⟩
  · unfold askedV
    rw [find_del, if_neg (by omega), h1]
    simp
  · rw [find_del, if_pos rfl]
  · intro k h2 h3
    rw [find_del, if_neg (by omega), find_exit]
    by_cases e : k = 1
    · rw [e, kids_one]; rfl
    · have := kids_find (m := m) (j := (k - 2).toNat) (by omega)
      rw [show (((k - 2).toNat : Nat) : Int) + 2 = k from by omega] at this
      rw [this]; rfl
  · refine up_ext ((hU.del _).ins _) (kids_up m) (fun k => ?_)
    rw [find_ins, find_del]
    by_cases e : (j : Int) + 2 = k
    · rw [if_pos e, ← e, hf]; rfl
    · rw [if_neg e, if_neg (fun h => e h.symm), find_exit]
      cases hk : find (kids m) k with
      | none => rfl
      | some p =>
        have hpp := find_pid hk
        have hne : p.pid ≠ (j : Int) + 2 := by omega
        rcases kids_mem (find_in hk) with rfl | ⟨i, _, rfl⟩
        · simp at hne
          simp [exitF]
          omega
        · simp [kid] at hne
          have hne2 : (1 : Int) ≠ (j : Int) + 2 := by omega
          simp [exitF, kid, hne, hne2]
  · have hlt : (del (exitT (kids m) ((j : Int) + 2) 5) ((j : Int) + 2)).length < (exitT (kids m) ((j : Int) + 2) 5).length := by
      unfold del
      rw [List.length_filter_lt_length_iff_exists]
      exact ⟨_, find_in hj1, by simp⟩
    have e : (exitT (kids m) ((j : Int) + 2) 5).length = m + 1 := by rw [exitT, List.length_map, kids_length]
    omega
end Go.Proofs.Ytjhggfpnafhonaa
