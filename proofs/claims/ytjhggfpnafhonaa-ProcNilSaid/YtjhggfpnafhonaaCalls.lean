/- Fork, Exit and Wait as one answer each, and what they keep. Nothing here is conditional. -/
import Derived.Test.YtjhggfpnafhonaaWait
namespace Go.Proofs.Ytjhggfpnafhonaa
open Go.RowKit Go.Maps

/-- What every table keeps. -/
structure Inv (T : List Pr) : Prop where
  up : Up T
  len : T.length ≤ 32
  pid : ∀ p ∈ T, 1 ≤ p.pid ∧ p.pid ≤ 32

theorem Inv.wf {T : List Pr} (h : Inv T) : Wf T := fun p hp => wf_small _ (by have := h.pid p hp; omega) (by have := h.pid p hp; omega)
theorem inv0 : Inv T0 := ⟨by simp [T0, Up], by simp [T0], by simp [T0]⟩

theorem free_is {T : List Pr} (h : Up T) (hl : T.length < 32) : ∃ n, free T n ∧ n ≤ 32 := by
  have hx : ∃ i : Nat, i < 32 ∧ find T ((i : Int) + 1) = none := by
    apply Classical.byContradiction
    intro hno
    have := find_len h 32 1 (fun k h1 h2 => by
      cases hf : find T k with
      | some p => rfl
      | none => exact absurd ⟨(k - 1).toNat, by omega, by rw [show (((k - 1).toNat : Nat) : Int) + 1 = k from by omega]; exact hf⟩ hno)
    omega
  obtain ⟨i, hi⟩ := hx
  obtain ⟨j, hj, hm⟩ := least (p := fun i : Nat => i < 32 ∧ find T ((i : Int) + 1) = none) i hi
  refine ⟨(j : Int) + 1, ⟨by omega, hj.2, fun k h1 h2 => ?_⟩, by omega⟩
  have := hm (k - 1).toNat (by omega)
  rw [show (((k - 1).toNat : Nat) : Int) + 1 = k from by omega] at this
  cases hf : find T k with
  | some p => rfl
  | none => exact absurd ⟨by omega, hf⟩ this
theorem free_one {T : List Pr} {a b : Int} (ha : free T a) (hb : free T b) : a = b := by
  obtain ⟨a1, a2, a3⟩ := ha
  obtain ⟨b1, b2, b3⟩ := hb
  rcases Int.lt_trichotomy a b with h | h | h
  · have := b3 a a1 h; rw [a2] at this; simp at this
  · exact h
  · have := a3 b b1 h; rw [b2] at this; simp at this

/-- Fork's answer: number, error, and the list behind it. -/
def ForkR (T : List Pr) (k a e : Int) (T' : List Pr) : Prop :=
  (askedV T k ≠ 0 ∧ a = 0 ∧ e = askedV T k ∧ T' = T) ∨ (askedV T k = 0 ∧ T.length = 32 ∧ a = 0 ∧ e = 15 ∧ T' = T) ∨ (askedV T k = 0 ∧ T.length < 32 ∧ e = 0 ∧ free T a ∧ T' = ins T ⟨a, k, 1, 0⟩)
/-- Exit's. -/
def ExitR (T : List Pr) (k code e : Int) (T' : List Pr) : Prop :=
  (askedV T k ≠ 0 ∧ e = askedV T k ∧ T' = T) ∨ (askedV T k = 0 ∧ e = 0 ∧ T' = exitT T k code)
/-- Wait's. -/
def WaitR (T : List Pr) (k a c e : Int) (T' : List Pr) : Prop :=
  (askedV T k ≠ 0 ∧ a = 0 ∧ c = 0 ∧ e = askedV T k ∧ T' = T) ∨ (askedV T k = 0 ∧ endedOf T k = none ∧ a = 0 ∧ c = 0 ∧ e = (if T.filter (keepP k) = [] then 20 else 13) ∧ T' = T) ∨
  (askedV T k = 0 ∧ e = 0 ∧ (∃ p, endedOf T k = some p ∧ a = p.pid ∧ c = p.code) ∧ T' = del T a)

theorem ins1_length (p : Pr) (T : List Pr) : (ins1 p T).length = T.length + 1 := by
  induction T with
  | nil => rfl
  | cons q r ih => simp only [ins1]; split <;> simp [ih]
theorem del_length (T : List Pr) (k : Int) : (del T k).length ≤ T.length := List.length_filter_le ..
theorem del_none {T : List Pr} {k : Int} (h : find T k = none) : del T k = T := by
  unfold del
  rw [List.filter_eq_self]
  intro p hp
  unfold find at h
  rw [List.find?_eq_none] at h
  simpa using h p hp
theorem ForkR.inv {T T' : List Pr} {k a e : Int} (h : Inv T) (hr : ForkR T k a e T') : Inv T' := by
  rcases hr with ⟨_, _, _, rfl⟩ | ⟨_, _, _, _, rfl⟩ | ⟨_, hl, _, hf, rfl⟩
  · exact h
  · exact h
  · obtain ⟨n, hn, hn2⟩ := free_is h.up hl
    have := free_one hn hf
    subst this
    refine ⟨h.up.ins _, ?_, ?_⟩
    · unfold ins
      rw [ins1_length, del_none hf.2.1]; omega
    · intro p hp
      unfold ins at hp
      rcases mem_ins1.1 hp with rfl | hp
      · exact ⟨hf.1, hn2⟩
      · exact h.pid p (List.mem_filter.1 hp).1
theorem ExitR.inv {T T' : List Pr} {k code e : Int} (h : Inv T) (hr : ExitR T k code e T') : Inv T' := by
  rcases hr with ⟨_, _, rfl⟩ | ⟨_, _, rfl⟩
  · exact h
  · refine ⟨h.up.map _ (exitF_pid k code), by simp [exitT, h.len], ?_⟩
    intro p hp
    obtain ⟨q, hq, rfl⟩ := List.mem_map.1 hp
    exact h.pid q hq
theorem WaitR.inv {T T' : List Pr} {k a c e : Int} (h : Inv T) (hr : WaitR T k a c e T') : Inv T' := by
  rcases hr with ⟨_, _, _, _, rfl⟩ | ⟨_, _, _, _, _, rfl⟩ | ⟨_, _, _, rfl⟩
  · exact h
  · exact h
  · exact ⟨h.up.del _, Nat.le_trans (del_length _ _) h.len, fun p hp => h.pid p (List.mem_filter.1 hp).1⟩

theorem fork_any (w : World) (t b : Nat) (T : List Pr) (hT : Tab w t b T) (hi : Inv T) (k : Int) (hk : (Lit.int .i64 k).wf = true) :
    Calls Try.prog 10 #[.pointer (some ⟨t, 0, none⟩), .int .i64 k] w fun e w' => ∃ a er T', e = .returned (.tuple #[.int .i64 a, .int .i64 er]) ∧ ForkR T k a er T' ∧ Tab w' t b T' ∧ Inv T' ∧ Mods [b] w w' := by
  have ht := hT.lt
  have hbl := hT.2.1.lt
  by_cases h0 : askedV T k = 0
  · by_cases hl : T.length < 32
    · obtain ⟨n, hn, _⟩ := free_is hi.up hl
      refine (fork_ok w t b T hT k hk h0 hl n hn).mono ?_
      rintro e w' ⟨rfl, h1, h2⟩
      have hr : ForkR T k n 0 (ins T ⟨n, k, 1, 0⟩) := .inr (.inr ⟨h0, hl, rfl, hn, rfl⟩)
      exact ⟨n, 0, _, rfl, hr, h1, hr.inv hi, h2⟩
    · have hl' : T.length = 32 := by have := hi.len; omega
      refine (fork_full w t b T hT k hk h0 (by omega)).mono ?_
      rintro e w' ⟨rfl, hb⟩
      exact ⟨0, 15, T, rfl, .inr (.inl ⟨h0, hl', rfl, rfl, rfl⟩), hT.below hb ht hbl, hi, Mods.of_below hb⟩
  · refine (fork_no w t b T hT k hk _ rfl h0).mono ?_
    rintro e w' ⟨rfl, hb⟩
    exact ⟨0, _, T, rfl, .inl ⟨h0, rfl, rfl, rfl⟩, hT.below hb ht hbl, hi, Mods.of_below hb⟩

theorem exit_any (w : World) (t b : Nat) (T : List Pr) (hT : Tab w t b T) (hi : Inv T) (k code : Int) (hk : (Lit.int .i64 k).wf = true) :
    Calls Try.prog 11 #[.pointer (some ⟨t, 0, none⟩), .int .i64 k, .int .i64 code] w fun e w' => ∃ er T', e = .returned (.int .i64 er) ∧ ExitR T k code er T' ∧ Tab w' t b T' ∧ Inv T' ∧ Mods [b] w w' := by
  have ht := hT.lt
  have hbl := hT.2.1.lt
  by_cases h0 : askedV T k = 0
  · refine (exit_ok w t b T hT (by have := hi.len; omega) hi.wf k code hk h0).mono ?_
    rintro e w' ⟨rfl, h1, h2⟩
    have hr : ExitR T k code 0 (exitT T k code) := .inr ⟨h0, rfl, rfl⟩
    exact ⟨0, _, rfl, hr, h1, hr.inv hi, h2⟩
  · refine (exit_no w t b T hT k code hk _ rfl h0).mono ?_
    rintro e w' ⟨rfl, hb⟩
    exact ⟨_, T, rfl, .inl ⟨h0, rfl, rfl⟩, hT.below hb ht hbl, hi, Mods.of_below hb⟩

theorem wait_any (w : World) (t b : Nat) (T : List Pr) (hT : Tab w t b T) (hi : Inv T) (k : Int) (hk : (Lit.int .i64 k).wf = true) :
    Calls Try.prog 12 #[.pointer (some ⟨t, 0, none⟩), .int .i64 k] w fun e w' => ∃ a c er T', e = .returned (.tuple #[.int .i64 a, .int .i64 c, .int .i64 er]) ∧ WaitR T k a c er T' ∧ Tab w' t b T' ∧ Inv T' ∧ Mods [b] w w' := by
  have ht := hT.lt
  have hbl := hT.2.1.lt
  have hl : T.length ≤ 99 := by have := hi.len; omega
  by_cases h0 : askedV T k = 0
  · rcases idx_find (fun y => decide (y.state = 2)) (T.filter (keepP k)) with ⟨h1, h2⟩ | ⟨i, hlt, h1, h2⟩
    · by_cases hn : (T.filter (keepP k)).length = 0
      · refine (wait_none w t b T hT hl hi.wf k hk h0 hn).mono ?_
        rintro e w' ⟨rfl, hb⟩
        exact ⟨0, 0, 20, T, rfl, .inr (.inl ⟨h0, h2, rfl, rfl, by rw [if_pos (List.length_eq_zero_iff.1 hn)], rfl⟩), hT.below hb ht hbl, hi, Mods.of_below hb⟩
      · refine (wait_runs w t b T hT hl hi.wf k hk h0 hn h1).mono ?_
        rintro e w' ⟨rfl, hb⟩
        exact ⟨0, 0, 13, T, rfl, .inr (.inl ⟨h0, h2, rfl, rfl, by rw [if_neg (fun h => hn (by rw [h]; rfl))], rfl⟩), hT.below hb ht hbl, hi, Mods.of_below hb⟩
    · obtain ⟨p, hp⟩ : ∃ p, (T.filter (keepP k))[i] = p := ⟨_, rfl⟩
      rw [hp] at h2
      refine (wait_ok w t b T hT hl hi.wf k hk h0 i hlt h1 p.pid p.parent p.state p.code hp).mono ?_
      rintro e w' ⟨rfl, h3, h4⟩
      have hr : WaitR T k p.pid p.code 0 (del T p.pid) := .inr (.inr ⟨h0, rfl, ⟨p, h2, rfl, rfl⟩, rfl⟩)
      exact ⟨_, _, 0, _, rfl, hr, h3, hr.inv hi, h4⟩
  · refine (wait_no w t b T hT k hk _ rfl h0).mono ?_
    rintro e w' ⟨rfl, hb⟩
    exact ⟨0, 0, _, T, rfl, .inl ⟨h0, rfl, rfl, rfl, rfl⟩, hT.below hb ht hbl, hi, Mods.of_below hb⟩
end Go.Proofs.Ytjhggfpnafhonaa
