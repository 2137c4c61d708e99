/- Running. Nothing here is conditional. -/
import Derived.Test.YtjhggfpnafhonaaPick
namespace Go.Proofs.Ytjhggfpnafhonaa
open Go.RowKit Go.Maps

theorem ownsRow_prs {w : World} {base : Nat} {v : Value} {T : List Pr} (h : w.ownsRow base 39 4 v T.length (cellsOf T)) : ∃ a cap, v = .slice a T.length cap ∧ (∀ g, a = some g → ∃ b, g = ⟨b, 0, none⟩ ∧ base ≤ b ∧ b < w.heap.size ∧ PrsAt w b T) ∧ (T ≠ [] → a ≠ none) := by
  rcases h.2 with ⟨rfl, hn⟩ | ⟨g, cap, cur, rfl, hb, hg, _, _, _, ht⟩
  · exact ⟨none, 0, by rw [hn], (fun g hg => by cases hg), fun hT => absurd (List.length_eq_zero_iff.1 hn) hT⟩
  · refine ⟨some ⟨g, 0, none⟩, cap, rfl, (fun g' hg' => ?_), fun _ => by simp⟩
    cases hg'
    refine ⟨g, rfl, hb, lt_of_block hg, fun i hi => ?_⟩
    rw [cell_of_row w _ _ _ _ _ hg]
    have : (cur.toList.take (T.length * 4))[i]? = some (cellsOf T)[i] := by rw [ht]; simp [hi]
    rw [List.getElem?_take, if_pos (by rw [cellsOf_length] at hi; exact hi)] at this
    simpa using this

/-- A process in the row. -/
theorem PrsAt.four {w : World} {g : Nat} {T : List Pr} (h : PrsAt w g T) (j : Nat) (hj : j < T.length) (p : Pr) (hp : T[j] = p) :
    w.cell? ⟨g, j * 4, none⟩ = some (.int .i64 p.pid) ∧ w.cell? ⟨g, j * 4 + 1, none⟩ = some (.int .i64 p.parent) ∧ w.cell? ⟨g, j * 4 + 2, none⟩ = some (.int .i64 p.state) ∧ w.cell? ⟨g, j * 4 + 3, none⟩ = some (.int .i64 p.code) := by
  subst hp
  have key : ∀ i, i < 4 → w.cell? ⟨g, j * 4 + i, none⟩ = T[j].cells[i]? := by
    intro i hi
    have hlt : j * 4 + i < (cellsOf T).length := by rw [cellsOf_length]; omega
    rw [h _ hlt, ← cellsOf_at T j i hj hi]
    simp [hlt]
  exact ⟨key 0 (by omega), key 1 (by omega), key 2 (by omega), key 3 (by omega)⟩

def running (T : List Pr) : Nat := (T.filter (fun p => p.state = 1)).length

set_option maxHeartbeats 2000000 in
theorem running_any (w : World) (t b : Nat) (T : List Pr) (hT : Tab w t b T) (hl : T.length ≤ 100) (hwf : Wf T) :
    Calls Try.prog 14 #[.pointer (some ⟨t, 0, none⟩)] w fun e w' => e = .returned (.int .i64 (running T)) ∧ Below w.heap.size w w' := by
  go_enter Try.func14, Try.ntmps14
  go_wp2_with (go_at_call 13; refine (all_any _ t b T hT hl hwf).mono ?_; rintro e w1 ⟨v, rfl, hrow, hb⟩; obtain ⟨a, cap, rfl, hpr, hne⟩ := ownsRow_prs hrow)
  have HN := Lib.hid hne
  clear hne
  have HP := Lib.hid hpr
  have s1 := hb.size
  clear hpr hrow
  go_loopw [3, 9] (fun n i wr => ∃ k : Nat, k ≤ T.length ∧ i = .int .i64 k ∧ n = .int .i64 (running (T.take k)) ∧ Below w1.heap.size w1 wr)
    (fun _ i _ => match i with | .int _ m => (T.length - m).toNat | _ => 0)
  case atStart => exact ⟨0, by omega, rfl, rfl, Below.refl _ _⟩
  case round =>
    obtain ⟨k, hk, rfl, rfl, hbel⟩ := hrel
    have zr := hbel.size
    by_cases hlt : k < T.length
    · cases a with
      | none => exact absurd rfl (HN.out (by rintro rfl; simp at hlt))
      | some ad =>
        obtain ⟨g, rfl, _, hgl, hg⟩ := HP.out _ rfl
        obtain ⟨q1, q2, q3, q4⟩ := hg.four k hlt _ rfl
        have hts : T.take (k + 1) = T.take k ++ [T[k]] := List.take_succ_eq_append_getElem hlt
        obtain ⟨p, hp⟩ : ∃ p, T[k] = p := ⟨_, rfl⟩
        rw [hp] at q1 q2 q3 q4 hts
        clear hp hg
        obtain ⟨p1, p2, p3, p4⟩ := p
        simp only [] at q1 q2 q3 q4
        have r1 := (hbel.cell (p := ⟨g, k * 4, none⟩) hgl).trans q1
        have r2 := (hbel.cell (p := ⟨g, k * 4 + 1, none⟩) hgl).trans q2
        have r3 := (hbel.cell (p := ⟨g, k * 4 + 2, none⟩) hgl).trans q3
        have r4 := (hbel.cell (p := ⟨g, k * 4 + 3, none⟩) hgl).trans q4
        clear q1 q2 q3 q4
        have hr : running (T.take (k + 1)) = running (T.take k) + (if p3 = 1 then 1 else 0) := by
          rw [hts]
          by_cases e : p3 = 1 <;> simp [running, e]
        have hrl : running (T.take k) ≤ 100 := by
          have := List.length_filter_le (fun p : Pr => decide (p.state = 1)) (T.take k)
          rw [List.length_take] at this
          unfold running; omega
        have HR := Lib.hid hr
        clear hr hts
        by_cases e : p3 = 1
        · subst e
          go_wp2_with fail
          go_roundw
          case rel => exact ⟨k + 1, by omega, by go_num, by rw [HR.out]; go_num, hbel.alloc zr _⟩
          case measure => simp; omega
        · go_wp2_with fail
          go_roundw
          case rel => exact ⟨k + 1, by omega, by go_num, by rw [HR.out, if_neg e]; rfl, hbel.alloc zr _⟩
          case measure => simp; omega
    · obtain rfl : k = T.length := by omega
      go_wp2_with fail
      go_ret
      rw [List.take_length]
      exact ⟨rfl, hb.trans (hbel.mono s1)⟩
end Go.Proofs.Ytjhggfpnafhonaa
