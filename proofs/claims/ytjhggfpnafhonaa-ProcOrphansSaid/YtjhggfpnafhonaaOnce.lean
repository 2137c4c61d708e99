/- Ends that are told once: the state that ProcOnce keeps. Nothing here is conditional. -/
import Derived.Test.YtjhggfpnafhonaaFullWalk
namespace Go.Proofs.Ytjhggfpnafhonaa
open Go.RowKit Go.Maps

def iv (l : List Int) : List Value := l.map fun n => .int .i64 n
theorem iv_get {l : List Int} {j : Nat} (h : j < l.length) : (iv l)[j]? = some (.int .i64 l[j]) := by simp [iv, h]
theorem iv_set (l : List Int) (j : Nat) (x : Int) : (iv l).set j (.int .i64 x) = iv (l.set j x) := by simp [iv, List.map_set]

/-- What 'ended' says of the table. -/
structure Told (T : List Pr) (E : List Int) : Prop where
  len : E.length = 40
  at_ : ∀ (k : Nat) (h : k < E.length), (find T k = none ∧ E[k] = 0) ∨ (∃ p, find T k = some p ∧ p.state = 2 ∧ 0 ≤ p.code ∧ p.code ≤ 60 ∧ E[k] = 1 + p.code) ∨ (∃ p, find T k = some p ∧ p.state = 1 ∧ E[k] = 0)
  one : ∃ p, find T 1 = some p ∧ p.parent = 0

theorem told0 : Told T0 (List.replicate 40 0) := by
  refine ⟨by simp, ?_, ⟨_, rfl, rfl⟩⟩
  intro k h
  by_cases e : k = 1
  · subst e
    exact .inr (.inr ⟨_, rfl, rfl, List.getElem_replicate ..⟩)
  · refine .inl ⟨?_, List.getElem_replicate ..⟩
    simp [T0, find]
    omega

theorem told_get {T : List Pr} {E : List Int} (h : Told T E) (k : Nat) (hk : k < E.length) (p : Pr) (hp : find T k = some p) : (p.state = 2 ↔ E[k] ≠ 0) ∧ (p.state = 2 → 0 ≤ p.code ∧ p.code ≤ 60 ∧ E[k] = 1 + p.code) := by
  rcases h.at_ k hk with ⟨h1, _⟩ | ⟨q, h1, h2, h3, h4, h5⟩ | ⟨q, h1, h2, h3⟩
  · rw [hp] at h1; cases h1
  · rw [hp] at h1; cases h1
    exact ⟨⟨fun _ => by omega, fun _ => h2⟩, fun _ => ⟨h3, h4, h5⟩⟩
  · rw [hp] at h1; cases h1
    exact ⟨⟨fun h => by omega, fun h => by omega⟩, fun h => by omega⟩

theorem Told.fork {T : List Pr} {E : List Int} (h : Told T E) {k n : Int} (hf : free T n) : Told (ins T ⟨n, k, 1, 0⟩) E := by
  refine ⟨h.len, ?_, ?_⟩
  · intro j hj
    rw [find_ins]
    by_cases e : n = j
    · rw [if_pos e]
      rcases h.at_ j hj with ⟨_, h2⟩ | ⟨q, h1, _⟩ | ⟨q, h1, _⟩
      · exact .inr (.inr ⟨_, rfl, rfl, h2⟩)
      · rw [← e, hf.2.1] at h1; cases h1
      · rw [← e, hf.2.1] at h1; cases h1
    · rw [if_neg e]
      exact h.at_ j hj
  · obtain ⟨p, hp, h0⟩ := h.one
    refine ⟨p, ?_, h0⟩
    rw [find_ins, if_neg (fun e => by rw [show n = 1 from e] at hf; have := hf.2.1; rw [hp] at this; cases this)]
    exact hp
theorem Told.exit {T : List Pr} {E : List Int} (h : Told T E) {k : Nat} (hk : 1 ≤ k) (h0 : askedV T k = 0) {c : Int} (hc0 : 0 ≤ c) (hc1 : c ≤ 60) : Told (exitT T k c) (E.set k (1 + c)) := by
  obtain ⟨pk, hpk, hst⟩ := asked_zero h0
  refine ⟨by rw [List.length_set]; exact h.len, ?_, ?_⟩
  · intro j hj
    rw [List.length_set] at hj
    rw [find_exit, List.getElem_set]
    by_cases e : k = j
    · subst e
      rw [if_pos rfl, hpk]
      have := find_pid hpk
      exact .inr (.inl ⟨_, rfl, by simp [exitF, this], by simp [exitF, this, hc0], by simp [exitF, this, hc1], by simp [exitF, this]⟩)
    · rw [if_neg e]
      rcases h.at_ j hj with ⟨h1, h2⟩ | ⟨q, h1, h2⟩ | ⟨q, h1, h2⟩
      · rw [h1]; exact .inl ⟨rfl, h2⟩
      · have hq := find_pid h1
        have hne : q.pid ≠ k := by omega
        rw [h1]; exact .inr (.inl ⟨_, rfl, by simpa [exitF, hne] using h2⟩)
      · have hq := find_pid h1
        have hne : q.pid ≠ k := by omega
        rw [h1]; exact .inr (.inr ⟨_, rfl, by simpa [exitF, hne] using h2⟩)
  · obtain ⟨p, hp, hp0⟩ := h.one
    refine ⟨_, by rw [find_exit, hp]; rfl, ?_⟩
    have : p.parent ≠ k := by omega
    simp [exitF, hp0]
    omega
theorem Told.wait {T : List Pr} {E : List Int} (h : Told T E) (hi : Inv T) {k : Nat} (hk : 1 ≤ k) {p : Pr} (hp : endedOf T k = some p) :
    1 ≤ p.pid ∧ p.pid ≤ 32 ∧ 0 ≤ p.code ∧ p.code ≤ 60 ∧ E[p.pid.toNat]? = some (1 + p.code) ∧ Told (del T p.pid) (E.set p.pid.toNat 0) := by
  obtain ⟨h1, h2, h3⟩ := ended_mem hp
  have hfp := find_mem hi.up h1
  have hb := hi.pid p h1
  have hl := h.len
  have hx : ((p.pid.toNat : Nat) : Int) = p.pid := by omega
  have hg := (told_get h p.pid.toNat (by omega) p (by rw [hx]; exact hfp)).2 h3
  have hn1 : p.pid ≠ 1 := by
    intro e
    obtain ⟨q, hq, hq0⟩ := h.one
    rw [e, hq] at hfp
    cases hfp
    omega
  refine ⟨hb.1, hb.2, hg.1, hg.2.1, by rw [List.getElem?_eq_getElem (by omega), hg.2.2], ⟨by rw [List.length_set]; exact hl, ?_, ?_⟩⟩
  · intro j hj
    rw [List.length_set] at hj
    rw [find_del, List.getElem_set]
    by_cases e : p.pid.toNat = j
    · rw [if_pos e, if_pos (by omega)]
      exact .inl ⟨rfl, rfl⟩
    · rw [if_neg e, if_neg (by omega)]
      exact h.at_ j hj
  · obtain ⟨q, hq, hq0⟩ := h.one
    exact ⟨q, by rw [find_del, if_neg (fun e => hn1 e.symm)]; exact hq, hq0⟩

/-- All that ProcOnce's loop keeps: the table, its list, what 'ended' is to say, and what its row holds. -/
structure Stt (w0 w : World) (t b g : Nat) (T : List Pr) (E R : List Int) : Prop where
  tab : Tab w t b T
  inv : Inv T
  told : Told T E
  row : w.heap[g]? = some (.cells (iv R).toArray 3 (0, 0))
  len : R.length = 40
  neb : g ≠ b
  net : g ≠ t
  bt : w0.heap.size ≤ t
  bb : w0.heap.size ≤ b
  bg : w0.heap.size ≤ g
  below : Below w0.heap.size w0 w

theorem Stt.after {w0 w w' : World} {t b g : Nat} {T T' : List Pr} {E E' R : List Int} (h : Stt w0 w t b g T E R) (hT : Tab w' t b T') (hi : Inv T') (ht : Told T' E') (hm : Mods [b] w w') : Stt w0 w' t b g T' E' R :=
  ⟨hT, hi, ht, (hm.block g (lt_of_block h.row) (by simpa using h.neb)).trans h.row, h.len, h.neb, h.net, h.bt, h.bb, h.bg, h.below.trans (hm.below h.below.size (fun k hk => by simp at hk; rw [hk]; exact h.bb))⟩
theorem Stt.quiet {w0 w w' : World} {t b g : Nat} {T : List Pr} {E R : List Int} (h : Stt w0 w t b g T E R) (hb : Below w.heap.size w w') : Stt w0 w' t b g T E R :=
  h.after (h.tab.below hb h.tab.lt h.tab.2.1.lt) h.inv h.told (Mods.of_below hb)
theorem Stt.alloc {w0 w : World} {t b g : Nat} {T : List Pr} {E R : List Int} (h : Stt w0 w t b g T E R) (o : Obj) : Stt w0 (w.alloc o) t b g T E R := h.quiet ((Below.refl _ w).alloc (Nat.le_refl _) _)
theorem Stt.store {w0 w : World} {t b g : Nat} {T : List Pr} {E R : List Int} (h : Stt w0 w t b g T E R) (j : Nat) (x : Int) : Stt w0 (w.setCell ⟨g, j, none⟩ (.int .i64 x)) t b g T E (R.set j x) := by
  have hm : Mods [g] w (w.setCell ⟨g, j, none⟩ (.int .i64 x)) := (Mods.refl _ _).setCell (.inl (by simp)) _
  refine ⟨h.tab.mods hm (by simpa using h.net.symm) (by simpa using h.neb.symm), h.inv, h.told, ?_, by rw [List.length_set]; exact h.len, h.neb, h.net, h.bt, h.bb, h.bg, h.below.trans (hm.below h.below.size (fun k hk => by simp at hk; rw [hk]; exact h.bg))⟩
  rw [heap_setCell_same w g j _ _ _ h.row, ← iv_set]
  simp
theorem Stt.cell {w0 w : World} {t b g : Nat} {T : List Pr} {E R : List Int} (h : Stt w0 w t b g T E R) (j : Nat) (x : Int) (hx : R[j]? = some x) : w.cell? ⟨g, j, none⟩ = some (.int .i64 x) := by
  rw [cell_of_row w _ _ _ _ _ h.row]
  obtain ⟨h1, h2⟩ := List.getElem?_eq_some_iff.1 hx
  rw [List.getElem?_toArray, iv_get h1, h2]
theorem Stt.frozen {w0 w : World} {t b g : Nat} {T : List Pr} {E R : List Int} (h : Stt w0 w t b g T E R) (j : Nat) : w.frozen? ⟨g, j, none⟩ = false := frozen_of_row w g _ _ _ h.row

theorem Stt.fork {w0 w : World} {t b g : Nat} {T : List Pr} {E : List Int} (h : Stt w0 w t b g T E E) (k : Int) (hk : (Lit.int .i64 k).wf = true) :
    Calls Try.prog 10 #[.pointer (some ⟨t, 0, none⟩), .int .i64 k] w fun e w' => ∃ a er T', e = .returned (.tuple #[.int .i64 a, .int .i64 er]) ∧ (er = 0 → 2 ≤ a ∧ a ≤ 32 ∧ E[a.toNat]? = some 0) ∧ Stt w0 w' t b g T' E E := by
  refine (fork_any w t b T h.tab h.inv k hk).mono ?_
  rintro e w' ⟨a, er, T', rfl, hr, h1, h2, h3⟩
  have hi := h.inv
  rcases hr with ⟨hn, rfl, rfl, rfl⟩ | ⟨_, _, rfl, rfl, rfl⟩ | ⟨_, hl, rfl, hf, rfl⟩
  · exact ⟨_, _, _, rfl, fun e => absurd e hn, h.after h1 h2 h.told h3⟩
  · exact ⟨_, _, _, rfl, (fun e => by omega), h.after h1 h2 h.told h3⟩
  · refine ⟨_, _, _, rfl, fun _ => ?_, h.after h1 h2 (h.told.fork hf) h3⟩
    have hp := h2.pid ⟨a, k, 1, 0⟩ (by unfold ins; exact mem_ins1.2 (.inl rfl))
    simp only [] at hp
    have hn1 : a ≠ 1 := by
      rintro rfl
      obtain ⟨p, hp, _⟩ := h.told.one
      have := hf.2.1
      rw [hp] at this; cases this
    have hl := h.told.len
    refine ⟨by omega, hp.2, ?_⟩
    rw [List.getElem?_eq_getElem (by omega)]
    have hx : ((a.toNat : Nat) : Int) = a := by omega
    rcases h.told.at_ a.toNat (by omega) with ⟨_, h5⟩ | ⟨q, h5, _⟩ | ⟨q, h5, _⟩
    · rw [h5]
    · rw [hx, hf.2.1] at h5; cases h5
    · rw [hx, hf.2.1] at h5; cases h5
theorem Stt.exit {w0 w : World} {t b g : Nat} {T : List Pr} {E : List Int} (h : Stt w0 w t b g T E E) (k : Nat) (h1k : 1 ≤ k) (h8k : k ≤ 8) (c : Int) (hc0 : 0 ≤ c) (hc1 : c ≤ 60) :
    Calls Try.prog 11 #[.pointer (some ⟨t, 0, none⟩), .int .i64 k, .int .i64 c] w fun e w' => ∃ er T' E', e = .returned (.int .i64 er) ∧ (er ≠ 0 → E' = E) ∧ (er = 0 → E' = E.set k (1 + c)) ∧ Stt w0 w' t b g T' E' E := by
  refine (exit_any w t b T h.tab h.inv k c (wf_small _ (by omega) (by omega))).mono ?_
  rintro e w' ⟨er, T', rfl, hr, h1, h2, h3⟩
  rcases hr with ⟨hn, rfl, rfl⟩ | ⟨h0, rfl, rfl⟩
  · exact ⟨_, _, E, rfl, fun _ => rfl, fun e => absurd e hn, h.after h1 h2 h.told h3⟩
  · exact ⟨_, _, _, rfl, fun e => absurd rfl e, fun _ => rfl, h.after h1 h2 (h.told.exit h1k h0 hc0 hc1) h3⟩
theorem Stt.wait {w0 w : World} {t b g : Nat} {T : List Pr} {E : List Int} (h : Stt w0 w t b g T E E) (k : Nat) (h1k : 1 ≤ k) (h8k : k ≤ 8) :
    Calls Try.prog 12 #[.pointer (some ⟨t, 0, none⟩), .int .i64 k] w fun e w' => ∃ a c er T' E', e = .returned (.tuple #[.int .i64 a, .int .i64 c, .int .i64 er]) ∧ (er ≠ 0 → E' = E) ∧
      (er = 0 → ∃ n : Nat, a = n ∧ 1 ≤ n ∧ n ≤ 32 ∧ 0 ≤ c ∧ c ≤ 60 ∧ E[n]? = some (1 + c) ∧ E' = E.set n 0) ∧ Stt w0 w' t b g T' E' E := by
  refine (wait_any w t b T h.tab h.inv k (wf_small _ (by omega) (by omega))).mono ?_
  rintro e w' ⟨a, c, er, T', rfl, hr, h1, h2, h3⟩
  rcases hr with ⟨hn, rfl, rfl, rfl, rfl⟩ | ⟨_, _, rfl, rfl, rfl, rfl⟩ | ⟨_, rfl, ⟨p, hp, rfl, rfl⟩, rfl⟩
  · exact ⟨_, _, _, _, E, rfl, fun _ => rfl, fun e => absurd e hn, h.after h1 h2 h.told h3⟩
  · exact ⟨_, _, _, _, E, rfl, fun _ => rfl, (fun e => by split at e <;> omega), h.after h1 h2 h.told h3⟩
  · obtain ⟨a1, a2, a3, a4, a5, a6⟩ := h.told.wait h.inv h1k hp
    exact ⟨_, _, _, _, _, rfl, fun e => absurd rfl e, fun _ => ⟨p.pid.toNat, by omega, by omega, by omega, a3, a4, a5, rfl⟩, h.after h1 h2 a6 h3⟩
end Go.Proofs.Ytjhggfpnafhonaa
