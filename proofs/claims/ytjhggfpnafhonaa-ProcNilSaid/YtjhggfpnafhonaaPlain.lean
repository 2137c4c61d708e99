/- The table's list under its calls: plain laws. Nothing here is conditional. -/
import Derived.Test.YtjhggfpnafhonaaKids
import Derived.Test.YtjhggfpnafhonaaFork
namespace Go.Proofs.Ytjhggfpnafhonaa
open Go.RowKit Go.Maps

theorem find_pid {T : List Pr} {k : Int} {p : Pr} (h : find T k = some p) : p.pid = k := by
  have := List.find?_some h
  simpa using this
theorem find_in {T : List Pr} {k : Int} {p : Pr} (h : find T k = some p) : p ∈ T := List.mem_of_find?_eq_some h
theorem find_del (T : List Pr) (k j : Int) : find (del T k) j = if j = k then none else find T j := by
  induction T with
  | nil => simp [find, del]
  | cons p r ih =>
    by_cases e : p.pid = k
    · have : del (p :: r) k = del r k := by simp [del, e]
      rw [this, ih, find_cons]
      by_cases ej : j = k
      · simp [ej]
      · rw [if_neg ej, if_neg ej, if_neg (by omega)]
    · have : del (p :: r) k = p :: del r k := by simp [del, e]
      rw [this, find_cons, find_cons, ih]
      by_cases ej : p.pid = j
      · rw [if_pos ej, if_neg (by omega), if_pos ej]
      · rw [if_neg ej, if_neg ej]
theorem find_ins1 (T : List Pr) (p : Pr) (h : ∀ q ∈ T, q.pid ≠ p.pid) (j : Int) : find (ins1 p T) j = if p.pid = j then some p else find T j := by
  induction T with
  | nil => simp [ins1, find_cons]
  | cons q r ih =>
    have hq := h q (List.mem_cons_self ..)
    simp only [ins1]
    split
    · rw [find_cons]
    · rw [find_cons, ih (fun x hx => h x (List.mem_cons_of_mem _ hx)), find_cons]
      by_cases e1 : q.pid = j
      · rw [if_pos e1, if_neg (by omega), if_pos e1]
      · rw [if_neg e1, if_neg e1]
theorem find_ins (T : List Pr) (p : Pr) (j : Int) : find (ins T p) j = if p.pid = j then some p else find T j := by
  unfold ins
  rw [find_ins1 _ _ (fun q hq => by simpa using (List.mem_filter.1 hq).2), find_del]
  by_cases e : p.pid = j
  · rw [if_pos e, if_pos e]
  · rw [if_neg e, if_neg e, if_neg (by omega)]

/-- What two lists of processes hold is all that tells them apart. -/
theorem up_ext {S T : List Pr} (hS : Up S) (hT : Up T) (h : ∀ k, find S k = find T k) : S = T := by
  induction S generalizing T with
  | nil =>
    cases T with
    | nil => rfl
    | cons p r =>
      have := h p.pid
      rw [find_cons, if_pos rfl] at this
      cases this
  | cons p r ih =>
    have hS' := List.pairwise_cons.1 hS
    cases T with
    | nil =>
      have := h p.pid
      rw [find_cons, if_pos rfl] at this
      cases this
    | cons q s =>
      have hT' := List.pairwise_cons.1 hT
      have hpq : p = q := by
        have h1 := h p.pid
        have h2 := h q.pid
        rw [find_cons, if_pos rfl, find_cons] at h1
        rw [find_cons, find_cons, if_pos rfl] at h2
        by_cases e : q.pid = p.pid
        · rw [if_pos e] at h1
          exact Option.some.inj h1
        · rw [if_neg e] at h1
          rw [if_neg (by omega)] at h2
          have a := hT'.1 _ (find_in h1.symm)
          have b := hS'.1 _ (find_in h2)
          omega
      subst hpq
      congr 1
      refine ih hS'.2 hT'.2 (fun k => ?_)
      have := h k
      rw [find_cons, find_cons] at this
      by_cases e : p.pid = k
      · rw [find_none_above (fun x hx => by have := hS'.1 x hx; omega), find_none_above (fun x hx => by have := hT'.1 x hx; omega)]
      · rw [if_neg e, if_neg e] at this
        exact this

theorem Up.map {T : List Pr} (h : Up T) (f : Pr → Pr) (hf : ∀ p, (f p).pid = p.pid) : Up (T.map f) := by
  refine List.pairwise_map.2 (h.imp ?_)
  intro a b hab
  rw [hf, hf]; exact hab
theorem find_map (T : List Pr) (f : Pr → Pr) (hf : ∀ p, (f p).pid = p.pid) (k : Int) : find (T.map f) k = (find T k).map f := by
  induction T with
  | nil => rfl
  | cons p r ih =>
    rw [List.map_cons, find_cons, find_cons, ih, hf]
    by_cases e : p.pid = k
    · rw [if_pos e, if_pos e]; rfl
    · rw [if_neg e, if_neg e]

def toOne (p : Pr) : Pr := ⟨p.pid, 1, p.state, p.code⟩
/-- Those of L go to 1. -/
def orphG (L : List Pr) (q : Pr) : Pr := if q ∈ L then toOne q else q
theorem orphG_pid (L : List Pr) (q : Pr) : (orphG L q).pid = q.pid := by
  unfold orphG
  split <;> rfl
theorem ins_orph {T L : List Pr} (hT : Up T) {c : Pr} (hc : c ∈ T) : ins (T.map (orphG L)) (toOne c) = T.map (orphG (L ++ [c])) := by
  refine up_ext ((hT.map _ (orphG_pid L)).ins _) (hT.map _ (orphG_pid _)) (fun k => ?_)
  rw [find_ins, find_map _ _ (orphG_pid _), find_map _ _ (orphG_pid _)]
  by_cases e : (toOne c).pid = k
  · have hk : find T k = some c := by rw [← e]; exact find_mem hT hc
    rw [if_pos e, hk]
    simp [orphG]
  · rw [if_neg e]
    cases hk : find T k with
    | none => rfl
    | some q =>
      have hq := find_pid hk
      have hne : q ≠ c := by rintro rfl; exact e hq
      simp [orphG, hne]

/-- Exit's list. -/
def exitF (k code : Int) (q : Pr) : Pr := ⟨q.pid, if q.parent = k then 1 else q.parent, if q.pid = k then 2 else q.state, if q.pid = k then code else q.code⟩
def exitT (T : List Pr) (k code : Int) : List Pr := T.map (exitF k code)
theorem exitF_pid (k code : Int) (q : Pr) : (exitF k code q).pid = q.pid := rfl
theorem find_exit (T : List Pr) (k code j : Int) : find (exitT T k code) j = (find T j).map (exitF k code) := find_map _ _ (exitF_pid k code) j
theorem exit_last {T : List Pr} (hT : Up T) {k : Int} {p : Pr} (hk : find (T.map (orphG (T.filter (keepP k)))) k = some p) (code : Int) :
    ins (T.map (orphG (T.filter (keepP k)))) ⟨k, p.parent, 2, code⟩ = exitT T k code := by
  refine up_ext ((hT.map _ (orphG_pid _)).ins _) (hT.map _ (exitF_pid k code)) (fun j => ?_)
  rw [find_ins, find_exit]
  have key : ∀ q, q ∈ T → orphG (T.filter (keepP k)) q = ⟨q.pid, if q.parent = k then 1 else q.parent, q.state, q.code⟩ := by
    intro q hq
    unfold orphG
    by_cases e : q.parent = k
    · rw [if_pos (List.mem_filter.2 ⟨hq, by simp [keepP, e]⟩), if_pos e]; rfl
    · rw [if_neg (fun h => e (by simpa [keepP] using (List.mem_filter.1 h).2)), if_neg e]
  rw [find_map _ _ (orphG_pid _)] at hk ⊢
  by_cases e : k = j
  · subst e
    rw [if_pos rfl]
    cases hq : find T k with
    | none => rw [hq] at hk; cases hk
    | some q =>
      have hqp := find_pid hq
      rw [hq] at hk
      simp only [Option.map_some, Option.some.injEq] at hk ⊢
      rw [← hk, key q (find_in hq)]
      simp [exitF, hqp]
  · rw [if_neg e]
    cases hq : find T j with
    | none => rfl
    | some q =>
      have hqp := find_pid hq
      simp only [Option.map_some, Option.some.injEq]
      rw [key q (find_in hq)]
      have : q.pid ≠ k := by omega
      simp [exitF, this]
theorem find_length {T : List Pr} {k : Int} {p : Pr} (h : find T k = some p) : T ≠ [] := by
  rintro rfl
  cases h
theorem asked_zero {T : List Pr} {k : Int} (h : askedV T k = 0) : ∃ p, find T k = some p ∧ p.state = 1 := by
  unfold askedV at h
  cases hf : find T k with
  | none => rw [hf] at h; simp at h
  | some p =>
    rw [hf] at h
    by_cases e : p.state = 1
    · exact ⟨p, rfl, e⟩
    · simp [e] at h
end Go.Proofs.Ytjhggfpnafhonaa
