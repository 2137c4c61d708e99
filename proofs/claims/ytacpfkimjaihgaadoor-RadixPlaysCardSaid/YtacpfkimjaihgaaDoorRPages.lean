/- radix: the pages with entries, as a row. No conditions. -/
import Derived.Test.YtacpfkimjaihgaaDoorRFrom
namespace Go.Proofs.YtacpfkimjaihgaaDoor
set_option linter.unusedVariables false

theorem mem_pgL (C : Nat → Option Sl) (fr : Int) : ∀ d q (x : Nat × Sl), x ∈ pgL C fr d q ↔ C x.1 = some x.2 ∧ fr ≤ (x.1 : Int) ∧ x.1 / 8 ^ d = q := by
  intro d
  induction d with
  | zero =>
    rintro q ⟨p, s⟩
    unfold pgL
    simp only [Nat.pow_zero, Nat.div_one]
    constructor
    · intro h
      split at h
      · rename_i s' hs
        split at h
        · simp only [List.mem_singleton, Prod.mk.injEq] at h
          obtain ⟨rfl, rfl⟩ := h
          exact ⟨hs, by assumption, rfl⟩
        · simp at h
      · simp at h
    · rintro ⟨h1, h2, rfl⟩
      simp [h1, h2]
  | succ d ih =>
    rintro q ⟨p, s⟩
    rw [pgL, List.mem_flatMap]
    have e : p / 8 ^ (d + 1) = p / 8 ^ d / 8 := by rw [Nat.pow_succ, Nat.div_div_eq_div_mul]
    constructor
    · rintro ⟨i, hi, hm⟩
      obtain ⟨h1, h2, h3⟩ := (ih _ _).1 hm
      have := List.mem_range.1 hi
      simp only at h3
      refine ⟨h1, h2, ?_⟩
      simp only
      rw [e, h3]
      omega
    · rintro ⟨h1, h2, h3⟩
      simp only at h3
      rw [e] at h3
      refine ⟨p / 8 ^ d % 8, List.mem_range.2 (Nat.mod_lt _ (by decide)), (ih _ _).2 ⟨h1, h2, ?_⟩⟩
      simp only
      omega
def Rise (l : List (Nat × Sl)) : Prop := l.Pairwise (fun a b => a.1 < b.1)
theorem rise_pgL (C : Nat → Option Sl) (fr : Int) : ∀ d q, Rise (pgL C fr d q) := by
  intro d
  induction d with
  | zero =>
    intro q
    unfold pgL Rise
    split
    · split <;> simp
    · simp
  | succ d ih =>
    intro q
    unfold Rise
    rw [pgL, List.pairwise_flatMap]
    refine ⟨fun i _ => ih _, ?_⟩
    refine List.Pairwise.imp ?_ List.pairwise_lt_range
    intro i j hij x hx y hy
    have h1 := ((mem_pgL C fr d _ x).1 hx).2.2
    have h2 := ((mem_pgL C fr d _ y).1 hy).2.2
    refine Nat.lt_of_not_le fun hle => ?_
    have := Nat.div_le_div_right (c := 8 ^ d) hle
    omega
theorem Rise.nodup {l : List (Nat × Sl)} (h : Rise l) : l.Nodup := List.Pairwise.imp (fun h e => by subst e; exact absurd h (Nat.lt_irrefl _)) h
theorem rise_ext {a b : List (Nat × Sl)} (ha : Rise a) (hb : Rise b) (h : ∀ x, x ∈ a ↔ x ∈ b) : a = b := by
  have hp : a.Perm b := (List.perm_ext_iff_of_nodup ha.nodup hb.nodup).2 h
  exact List.Perm.eq_of_pairwise (le := fun (x y : Nat × Sl) => x.1 < y.1) (fun x y _ _ h1 h2 => absurd h1 (Nat.lt_asymm h2)) ha hb hp

/-- The pages of a table. -/
def pages (C : Nat → Option Sl) : List (Nat × Sl) := pgL C 0 4 0
theorem rise_pages (C : Nat → Option Sl) : Rise (pages C) := rise_pgL C 0 4 0
theorem mem_pages (C : Nat → Option Sl) (x : Nat × Sl) : x ∈ pages C ↔ C x.1 = some x.2 ∧ x.1 < 4096 := by
  rw [pages, mem_pgL]
  constructor
  · rintro ⟨h1, _, h3⟩
    exact ⟨h1, by omega⟩
  · rintro ⟨h1, h2⟩
    exact ⟨h1, by omega, by omega⟩
theorem mem_from (C : Nat → Option Sl) (fr : Int) (x : Nat × Sl) : x ∈ pgL C fr 4 0 ↔ x ∈ pages C ∧ fr ≤ (x.1 : Int) := by
  rw [mem_pages, mem_pgL]
  constructor
  · rintro ⟨h1, h2, h3⟩
    exact ⟨⟨h1, by omega⟩, h2⟩
  · rintro ⟨⟨h1, h2⟩, h3⟩
    exact ⟨h1, h3, by omega⟩
theorem from_eq (C : Nat → Option Sl) (fr : Int) : pgL C fr 4 0 = (pages C).filter (fun x => decide (fr ≤ (x.1 : Int))) := by
  refine rise_ext (rise_pgL C fr 4 0) (List.Pairwise.filter _ (rise_pages C)) fun x => ?_
  rw [mem_from, List.mem_filter, decide_eq_true_iff]
theorem pages_eq {C : Nat → Option Sl} {l : List (Nat × Sl)} (hl : Rise l) (h : ∀ x, x ∈ l ↔ C x.1 = some x.2 ∧ x.1 < 4096) : pages C = l := rise_ext (rise_pages C) hl fun x => by rw [mem_pages, h]

/-- The entries behind the first pages' drops. -/
def cut (C : Nat → Option Sl) (i : Nat) : Nat → Option Sl := fun p => if p ∈ ((pages C).take i).map (·.1) then none else C p
theorem cut_zero (C : Nat → Option Sl) : cut C 0 = C := by
  funext p
  simp [cut]
theorem cut_succ (C : Nat → Option Sl) (i : Nat) (x : Nat × Sl) (h : (pages C)[i]? = some x) : updC (cut C i) x.1 none = cut C (i + 1) ∧ cut C i x.1 = some x.2 ∧ x.1 < 4096 := by
  have hlt := (List.getElem?_eq_some_iff.1 h).1
  have hx := (List.getElem?_eq_some_iff.1 h).2
  have hm := (mem_pages C x).1 (hx ▸ List.getElem_mem hlt)
  have hr := rise_pages C
  have ht : (pages C).take (i + 1) = (pages C).take i ++ [x] := by rw [List.take_succ_eq_append_getElem hlt, hx]
  refine ⟨?_, ?_, hm.2⟩
  · funext p
    unfold updC cut
    simp only [ht, List.map_append, List.mem_append]
    by_cases e : p = x.1
    · simp [e]
    · simp [e]
  · unfold cut
    rw [if_neg, hm.1]
    intro hmem
    obtain ⟨y, hy, e⟩ := List.mem_map.1 hmem
    obtain ⟨j, hj, rfl⟩ := List.getElem_of_mem hy
    rw [List.length_take] at hj
    rw [List.getElem_take] at e
    have := List.pairwise_iff_getElem.1 hr j i (by omega) hlt (by omega)
    rw [hx] at this
    omega
theorem cut_all (C : Nat → Option Sl) (i : Nat) (hi : (pages C).length ≤ i) (p : Nat) (hp : p < 4096) : cut C i p = none := by
  unfold cut
  split
  · rfl
  · rename_i h
    rw [List.take_of_length_le hi] at h
    cases hc : C p with
    | none => rfl
    | some s => exact absurd (List.mem_map.2 ⟨(p, s), (mem_pages C (p, s)).2 ⟨hc, hp⟩, rfl⟩) h
end Go.Proofs.YtacpfkimjaihgaaDoor
