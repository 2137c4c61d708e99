/- A row of processes, each the child of the one ahead: plain laws. Nothing here is conditional. -/
import Derived.Test.YtjhggfpnafhonaaFullWalk
namespace Go.Proofs.Ytjhggfpnafhonaa
open Go.RowKit Go.Maps

theorem prEq {p q : Pr} (h1 : p.pid = q.pid) (h2 : p.parent = q.parent) (h3 : p.state = q.state) (h4 : p.code = q.code) : p = q := by
  cases p; cases q; simp_all
def lp (j : Nat) : Pr := ⟨(j : Int) + 1, j, 1, 0⟩
def line (n : Nat) : List Pr := (List.range n).map lp
theorem line_succ (n : Nat) : line (n + 1) = line n ++ [lp n] := by simp [line, List.range_succ]
theorem line_mem {n : Nat} {p : Pr} (h : p ∈ line n) : ∃ j, j < n ∧ p = lp j := by
  obtain ⟨j, hj, rfl⟩ := List.mem_map.1 h
  exact ⟨j, List.mem_range.1 hj, rfl⟩
theorem line_up (n : Nat) : Up (line n) := by
  induction n with
  | zero => exact List.Pairwise.nil
  | succ n ih =>
    rw [line_succ]
    refine ih.snoc _ (fun q hq => ?_)
    obtain ⟨j, hj, rfl⟩ := line_mem hq
    simp [lp]; omega
theorem line_length (n : Nat) : (line n).length = n := by simp [line]
theorem line_find {n k : Nat} (h1 : 1 ≤ k) (h : k ≤ n) : find (line n) k = some (lp (k - 1)) := by
  have := find_mem (p := lp (k - 1)) (line_up n) (List.mem_map.2 ⟨k - 1, List.mem_range.2 (by omega), rfl⟩)
  rw [show (lp (k - 1)).pid = (k : Int) from by simp [lp]; omega] at this
  exact this
theorem line_none {n k : Nat} (h : k < 1 ∨ n < k) : find (line n) k = none := by
  cases hf : find (line n) k with
  | none => rfl
  | some p =>
    obtain ⟨j, hj, rfl⟩ := line_mem (find_in hf)
    have := find_pid hf
    simp [lp] at this
    omega
theorem line_asked {i : Nat} (h : 1 ≤ i) : askedV (line i) i = 0 := by simp [askedV, line_find h (Nat.le_refl i), lp]
theorem line_free (i : Nat) : free (line i) ((i : Int) + 1) := by
  refine ⟨by omega, ?_, fun k h1 h2 => ?_⟩
  · have := line_none (n := i) (k := i + 1) (by omega)
    simpa using this
  · obtain ⟨j, rfl⟩ : ∃ j : Nat, k = j := ⟨k.toNat, by omega⟩
    rw [line_find (by omega) (by omega)]; rfl
theorem line_ins (i : Nat) : ins (line i) ⟨(i : Int) + 1, i, 1, 0⟩ = line (i + 1) := by
  rw [ins_last _ (fun q hq => by obtain ⟨j, hj, rfl⟩ := line_mem hq; simp [lp]; omega), line_succ]
  rfl

/-- A process of the row, where those of E have ended. -/
def opr (E : Nat → Prop) [DecidablePred E] (k : Nat) : Pr := ⟨k, if E (k - 1) then 1 else (k : Int) - 1, if E k then 2 else 1, if E k then 10 * (k : Int) else 0⟩
structure Off (T : List Pr) (n : Nat) (E : Nat → Prop) [DecidablePred E] : Prop where
  at_ : ∀ k : Nat, find T k = if 1 ≤ k ∧ k ≤ n then some (opr E k) else none
  one : ¬ E 0 ∧ ¬ E 1

theorem off_line (n : Nat) (E : Nat → Prop) [DecidablePred E] (h : ∀ k, k ≤ n → ¬ E k) (h1 : 1 ≤ n) : Off (line n) n E := by
  refine ⟨fun k => ?_, h 0 (by omega), h 1 (by omega)⟩
  by_cases e : 1 ≤ k ∧ k ≤ n
  · rw [if_pos e, line_find e.1 e.2]
    have a := h k e.2
    have b := h (k - 1) (by omega)
    simp [opr, lp, a, b]
    omega
  · rw [if_neg e, line_none (by omega)]
theorem Off.asked {T : List Pr} {n : Nat} {E : Nat → Prop} [DecidablePred E] (h : Off T n E) {k : Nat} (h1 : 1 ≤ k) (hn : k ≤ n) (hE : ¬ E k) : askedV T k = 0 := by
  unfold askedV
  rw [h.at_ k, if_pos ⟨h1, hn⟩]
  simp [opr, hE]
theorem Off.exit {T : List Pr} {n : Nat} {E E' : Nat → Prop} [DecidablePred E] [DecidablePred E'] (h : Off T n E) {k : Nat} (h2 : 2 ≤ k) (hE : ¬ E k) (he : ∀ j, E' j ↔ E j ∨ j = k) : Off (exitT T k (10 * (k : Int))) n E' := by
  refine ⟨fun j => ?_, ?_, ?_⟩
  · rw [find_exit, h.at_ j]
    by_cases e : 1 ≤ j ∧ j ≤ n
    · rw [if_pos e, if_pos e]
      simp only [Option.map_some, Option.some.injEq]
      have hp : (exitF k (10 * (k : Int)) (opr E j)).parent = (opr E' j).parent := by
        show (if (if E (j - 1) then 1 else (j : Int) - 1) = (k : Int) then 1 else (if E (j - 1) then 1 else (j : Int) - 1)) = if E' (j - 1) then 1 else (j : Int) - 1
        by_cases a : E (j - 1)
        · rw [if_pos a, if_pos ((he _).2 (.inl a))]
          split <;> rfl
        · rw [if_neg a]
          by_cases c : j - 1 = k
          · rw [if_pos (by omega), if_pos ((he _).2 (.inr c))]
          · rw [if_neg (by omega), if_neg (fun x => ((he _).1 x).elim a c)]
      have hs : (exitF k (10 * (k : Int)) (opr E j)).state = (opr E' j).state ∧ (exitF k (10 * (k : Int)) (opr E j)).code = (opr E' j).code := by
        by_cases c : j = k
        · subst c
          have c2 : (opr E j).pid = j := rfl
          have hE' : E' j := (he j).2 (.inr rfl)
          simp only [exitF, if_pos c2]
          simp [opr, hE']
        · have c2 : ¬ (opr E j).pid = k := by simp [opr]; omega
          simp only [exitF, if_neg c2]
          by_cases a : E j
          · have hE' : E' j := (he j).2 (.inl a)
            simp [opr, a, hE']
          · have hE' : ¬ E' j := fun x => ((he j).1 x).elim a c
            simp [opr, a, hE']
      have hq : (exitF k (10 * (k : Int)) (opr E j)).pid = (opr E' j).pid := rfl
      exact prEq hq hp hs.1 hs.2
    · rw [if_neg e, if_neg e]; rfl
  · rw [he]
    exact fun x => x.elim h.one.1 (by omega)
  · rw [he]
    exact fun x => x.elim h.one.2 (by omega)

/-- All of them ended, r told of. -/
def Gone (T : List Pr) (n r : Nat) : Prop := ∀ k : Nat, find T k = if k = 1 then some ⟨1, 0, 1, 0⟩ else if r + 2 ≤ k ∧ k ≤ n then some ⟨k, 1, 2, 10 * (k : Int)⟩ else none
theorem Off.gone {T : List Pr} {n : Nat} {E : Nat → Prop} [DecidablePred E] (h : Off T n E) (h1 : 1 ≤ n) (hE : ∀ j, 2 ≤ j → j ≤ n → E j) : Gone T n 0 := by
  intro k
  rw [h.at_ k]
  by_cases e : k = 1
  · subst e
    rw [if_pos ⟨by omega, h1⟩, if_pos rfl]
    simp [opr, h.one]
  · rw [if_neg e]
    by_cases e2 : 0 + 2 ≤ k ∧ k ≤ n
    · rw [if_pos ⟨by omega, e2.2⟩, if_pos e2]
      have a := hE k (by omega) e2.2
      by_cases e3 : k = 2
      · subst e3
        have := h.one.2
        simp [opr, a, this]
      · have b := hE (k - 1) (by omega) (by omega)
        simp [opr, a, b]
    · rw [if_neg e2, if_neg (by omega)]
theorem Gone.asked {T : List Pr} {n r : Nat} (h : Gone T n r) : askedV T 1 = 0 := by
  have := h 1
  rw [if_pos rfl] at this
  simp only [askedV, show (1 : Int) = ((1 : Nat) : Int) from rfl, this]
  simp
theorem Gone.mem {T : List Pr} {n r : Nat} (h : Gone T n r) (hi : Inv T) {q : Pr} (hq : q ∈ T) : q = ⟨1, 0, 1, 0⟩ ∨ ∃ k : Nat, r + 2 ≤ k ∧ k ≤ n ∧ q = ⟨k, 1, 2, 10 * (k : Int)⟩ := by
  have hb := hi.pid q hq
  have hf := find_mem hi.up hq
  have hx : ((q.pid.toNat : Nat) : Int) = q.pid := by omega
  have := h q.pid.toNat
  rw [hx, hf] at this
  by_cases e : q.pid.toNat = 1
  · rw [if_pos e] at this
    exact .inl (Option.some.inj this)
  · rw [if_neg e] at this
    by_cases e2 : r + 2 ≤ q.pid.toNat ∧ q.pid.toNat ≤ n
    · rw [if_pos e2] at this
      refine .inr ⟨q.pid.toNat, e2.1, e2.2, ?_⟩
      rw [← hx] at this
      exact Option.some.inj this
    · rw [if_neg e2] at this; cases this
theorem Gone.next {T : List Pr} {n r : Nat} (h : Gone T n r) (hi : Inv T) (hr : r + 2 ≤ n) : endedOf T 1 = some ⟨(r : Int) + 2, 1, 2, 10 * ((r : Int) + 2)⟩ ∧ Gone (del T ((r : Int) + 2)) n (r + 1) := by
  have hf := h (r + 2)
  rw [if_neg (by omega), if_pos ⟨by omega, hr⟩] at hf
  have hc : ((r + 2 : Nat) : Int) = (r : Int) + 2 := by omega
  rw [hc] at hf
  refine ⟨ended_least hi.up (find_in hf) rfl rfl ?_, fun k => ?_⟩
  · intro q hq _ _
    rcases h.mem hi hq with rfl | ⟨k, h1, _, rfl⟩
    · simp_all
    · simp; omega
  · rw [find_del, h k]
    by_cases e : k = 1
    · subst e
      rw [if_neg (by omega), if_pos rfl, if_pos rfl]
    · rw [if_neg e, if_neg e]
      by_cases e2 : (k : Int) = (r : Int) + 2
      · rw [if_pos e2, if_neg (by omega)]
      · rw [if_neg e2]
        by_cases e3 : r + 2 ≤ k ∧ k ≤ n
        · rw [if_pos e3, if_pos (by omega)]
        · rw [if_neg e3, if_neg (by omega)]
theorem Gone.last {T : List Pr} {n r : Nat} (h : Gone T n r) (hi : Inv T) (hr : n < r + 2) : T = T0 := by
  refine up_ext hi.up (by simp [T0, Up]) (fun k => ?_)
  have hT0 : ∀ k : Int, find T0 k = if k = 1 then some ⟨1, 0, 1, 0⟩ else none := by
    intro k
    by_cases e : k = 1
    · subst e; rfl
    · rw [if_neg e]
      simp [T0, find]
      omega
  rw [hT0]
  by_cases e : 0 ≤ k
  · obtain ⟨j, rfl⟩ : ∃ j : Nat, k = j := ⟨k.toNat, by omega⟩
    rw [h j]
    by_cases e1 : j = 1
    · rw [if_pos e1, if_pos (by omega)]
    · rw [if_neg e1, if_neg (by omega), if_neg (by omega)]
  · rw [if_neg (by omega)]
    cases hf : find T k with
    | none => rfl
    | some p =>
      have := hi.pid p (find_in hf)
      have := find_pid hf
      omega
theorem Gone.none {T : List Pr} {n r : Nat} (h : Gone T n r) (hi : Inv T) (hr : n < r + 2) : endedOf T 1 = none ∧ T.filter (keepP 1) = [] := by
  rw [h.last hi hr]
  exact ⟨by decide, by decide⟩

/-- All that ProcOrphans' loops keep. -/
structure Ost (w0 w : World) (t b : Nat) (T : List Pr) : Prop where
  tab : Tab w t b T
  inv : Inv T
  bt : w0.heap.size ≤ t
  bb : w0.heap.size ≤ b
  below : Below w0.heap.size w0 w
theorem Ost.after {w0 w w' : World} {t b : Nat} {T T' : List Pr} (h : Ost w0 w t b T) (hT : Tab w' t b T') (hi : Inv T') (hm : Mods [b] w w') : Ost w0 w' t b T' :=
  ⟨hT, hi, h.bt, h.bb, h.below.trans (hm.below h.below.size (fun k hk => by simp at hk; rw [hk]; exact h.bb))⟩
theorem Ost.quiet {w0 w w' : World} {t b : Nat} {T : List Pr} (h : Ost w0 w t b T) (hb : Below w.heap.size w w') : Ost w0 w' t b T := h.after (h.tab.below hb h.tab.lt h.tab.2.1.lt) h.inv (Mods.of_below hb)
theorem Ost.fork {w0 w : World} {t b i : Nat} (h : Ost w0 w t b (line i)) (h1 : 1 ≤ i) (h9 : i ≤ 9) :
    Calls Try.prog 10 #[.pointer (some ⟨t, 0, none⟩), .int .i64 i] w fun e w' => e = .returned (.tuple #[.int .i64 ((i : Int) + 1), .int .i64 0]) ∧ Ost w0 w' t b (line (i + 1)) := by
  have hl := line_length i
  refine (fork_is w t b _ _ h.tab h.inv i ((i : Int) + 1) (wf_small _ (by omega) (by omega)) (line_asked h1) (by omega) (line_free i) (line_ins i)).mono ?_
  rintro e w' ⟨rfl, a, c, d⟩
  exact ⟨rfl, h.after a c d⟩
theorem Ost.exit {w0 w : World} {t b n k : Nat} {T : List Pr} (h : Ost w0 w t b T) {E E' : Nat → Prop} [DecidablePred E] [DecidablePred E'] (hO : Off T n E) (h2 : 2 ≤ k) (hn : k ≤ n) (h9 : n ≤ 9) (hE : ¬ E k) (he : ∀ j, E' j ↔ E j ∨ j = k) (c : Int) (hc : c = 10 * (k : Int)) :
    Calls Try.prog 11 #[.pointer (some ⟨t, 0, none⟩), .int .i64 k, .int .i64 c] w fun e w' => e = .returned (.int .i64 0) ∧ ∃ T', Ost w0 w' t b T' ∧ Off T' n E' := by
  subst hc
  refine (exit_is w t b T _ h.tab h.inv k _ (wf_small _ (by omega) (by omega)) (hO.asked (by omega) hn hE) rfl).mono ?_
  rintro e w' ⟨rfl, a, c, d⟩
  exact ⟨rfl, _, h.after a c d, hO.exit h2 hE he⟩
theorem Ost.wait {w0 w : World} {t b n r : Nat} {T : List Pr} (h : Ost w0 w t b T) (hG : Gone T n r) (hr : r + 2 ≤ n) (x y : Int) (hx : (r : Int) + 2 = x) (hy : 10 * ((r : Int) + 2) = y) :
    Calls Try.prog 12 #[.pointer (some ⟨t, 0, none⟩), .int .i64 1] w fun e w' => e = .returned (.tuple #[.int .i64 x, .int .i64 y, .int .i64 0]) ∧ ∃ T', Ost w0 w' t b T' ∧ Gone T' n (r + 1) := by
  subst hx hy
  obtain ⟨h1, h2⟩ := hG.next h.inv hr
  refine (wait_is w t b T _ h.tab h.inv 1 (by decide) hG.asked _ _ _ _ h1 rfl).mono ?_
  rintro e w' ⟨rfl, a, c, d⟩
  exact ⟨rfl, _, h.after a c d, h2⟩
theorem Ost.done {w0 w : World} {t b n r : Nat} {T : List Pr} (h : Ost w0 w t b T) (hG : Gone T n r) (hr : n < r + 2) :
    Calls Try.prog 12 #[.pointer (some ⟨t, 0, none⟩), .int .i64 1] w fun e w' => e = .returned (.tuple #[.int .i64 0, .int .i64 0, .int .i64 20]) ∧ Ost w0 w' t b T0 := by
  obtain ⟨h1, h2⟩ := hG.none h.inv hr
  refine (wait_err w t b T h.tab h.inv 1 (by decide) hG.asked 20 h1 (by rw [if_pos h2])).mono ?_
  rintro e w' ⟨rfl, a, c⟩
  have := h.after a h.inv c
  rw [hG.last h.inv hr] at this
  exact ⟨rfl, this⟩
end Go.Proofs.Ytjhggfpnafhonaa
