/- The calls on no table and on a zero one. Nothing here is conditional. -/
import Derived.Test.YtjhggfpnafhonaaFullWalk
namespace Go.Proofs.Ytjhggfpnafhonaa
open Go.RowKit Go.Maps

/-- No table, or a zero one. -/
def Emp (w : World) (tv : Value) : Prop := tv = .pointer none ∨ ∃ t, tv = .pointer (some ⟨t, 0, none⟩) ∧ ZTab w t
theorem Emp.below {w w' : World} {tv : Value} (h : Emp w tv) (hb : Below w.heap.size w w') : Emp w' tv := by
  rcases h with rfl | ⟨t, rfl, hz⟩
  · exact .inl rfl
  · exact .inr ⟨t, rfl, hz.below hb hz.lt⟩

theorem get_emp (w : World) (tv : Value) (h : Emp w tv) (k : Int) (hk : (Lit.int .i64 k).wf = true) :
    Calls Try.prog 15 #[tv, .int .i64 k] w fun e w' => e = .returned (.tuple #[.agg #[.int .i64 0, .int .i64 0, .int .i64 0, .int .i64 0], .bool false]) ∧ Below w.heap.size w w' := by
  rcases h with rfl | ⟨t, rfl, hz⟩
  · exact get_nil w k
  · exact get_zero w t hz k hk

set_option maxHeartbeats 1000000 in
theorem asked_emp (w : World) (tv : Value) (h : Emp w tv) (k : Int) (hk : (Lit.int .i64 k).wf = true) :
    Calls Try.prog 17 #[tv, .int .i64 k] w fun e w' => e = .returned (.int .i64 12) ∧ Below w.heap.size w w' := by
  go_enter Try.func17, Try.ntmps17
  go_wp2_with (first | (go_at_call 15; refine (get_emp _ tv h k hk).mono ?_; rintro e w' ⟨rfl, hb⟩))
  go_returns
  exact ⟨rfl, by first | exact (hb.alloc (by have := hb.size; omega) _) | go_grown⟩

set_option maxHeartbeats 1000000 in
theorem fork_emp (w : World) (tv : Value) (h : Emp w tv) (k : Int) (hk : (Lit.int .i64 k).wf = true) :
    Calls Try.prog 10 #[tv, .int .i64 k] w fun e w' => e = .returned (.tuple #[.int .i64 0, .int .i64 12]) ∧ Below w.heap.size w w' := by
  go_enter Try.func10, Try.ntmps10
  go_wp2
  go_step3
  go_wp2_with (go_at_call 17; refine (asked_emp _ tv h k hk).mono ?_; rintro e w' ⟨rfl, hb⟩)
  rw [Exit.noGoto_ret]
  go_returns
  exact ⟨rfl, hb⟩
set_option maxHeartbeats 1000000 in
theorem wait_emp (w : World) (tv : Value) (h : Emp w tv) (k : Int) (hk : (Lit.int .i64 k).wf = true) :
    Calls Try.prog 12 #[tv, .int .i64 k] w fun e w' => e = .returned (.tuple #[.int .i64 0, .int .i64 0, .int .i64 12]) ∧ Below w.heap.size w w' := by
  go_enter Try.func12, Try.ntmps12
  go_wp2_with (go_at_call 17; refine (asked_emp _ tv h k hk).mono ?_; rintro e w' ⟨rfl, hb⟩)
  go_returns
  exact ⟨rfl, hb⟩
set_option maxHeartbeats 1000000 in
theorem exit_emp (w : World) (tv : Value) (h : Emp w tv) (k c : Int) (hk : (Lit.int .i64 k).wf = true) :
    Calls Try.prog 11 #[tv, .int .i64 k, .int .i64 c] w fun e w' => e = .returned (.int .i64 12) ∧ Below w.heap.size w w' := by
  go_enter Try.func11, Try.ntmps11
  go_wp2_with (go_at_call 17; refine (asked_emp _ tv h k hk).mono ?_; rintro e w' ⟨rfl, hb⟩)
  go_returns
  exact ⟨rfl, hb⟩

set_option maxHeartbeats 1000000 in
theorem all_emp (w : World) (tv : Value) (h : Emp w tv) :
    Calls Try.prog 13 #[tv] w fun e w' => e = .returned (.slice none 0 0) ∧ Below w.heap.size w w' := by
  rcases h with rfl | ⟨t, rfl, hz⟩
  · go_enter Try.func13, Try.ntmps13
    go_wp2_with fail
    go_returns
    exact ⟨rfl, by go_grown⟩
  · have hc := hz.cell
    have ht := hz.lt
    go_enter Try.func13, Try.ntmps13
    go_wp2_with (first
      | (go_at_call 22; refine (keys_call _ _).mono ?_; rintro e w' ⟨rfl, rfl⟩)
      | (go_at_call 21; refine (sorted_call_nil w).mono ?_; rintro e w1 ⟨rfl, hb⟩))
    go_loopw [3, 15] (fun o i wr => o = .slice none 0 0 ∧ i = .int .i64 0 ∧ wr = w1) (fun _ _ _ => 0)
    case atStart => exact ⟨rfl, rfl, rfl⟩
    case round =>
      obtain ⟨rfl, rfl, rfl⟩ := hrel
      go_wp2_with fail
      go_returns
      exact ⟨rfl, ((Below.refl _ w).alloc (Nat.le_refl _) _).trans (hb.mono (by simp))⟩

set_option maxHeartbeats 1000000 in
theorem running_emp (w : World) (tv : Value) (h : Emp w tv) :
    Calls Try.prog 14 #[tv] w fun e w' => e = .returned (.int .i64 0) ∧ Below w.heap.size w w' := by
  go_enter Try.func14, Try.ntmps14
  go_wp2_with (go_at_call 13; refine (all_emp _ tv h).mono ?_; rintro e w1 ⟨rfl, hb⟩)
  go_loopw [3, 9] (fun o i wr => o = .int .i64 0 ∧ i = .int .i64 0 ∧ wr = w1) (fun _ _ _ => 0)
  case atStart => exact ⟨rfl, rfl, rfl⟩
  case round =>
    obtain ⟨rfl, rfl, rfl⟩ := hrel
    go_wp2_with fail
    go_ret
    exact ⟨rfl, hb⟩

set_option maxHeartbeats 1000000 in
theorem index_emp (w : World) (f : Value) :
    Calls Try.prog 19 #[.slice none 0 0, f] w fun e w' => e = .returned (.int .i64 (-1)) ∧ Below w.heap.size w w' := by
  go_enter Try.func19, Try.ntmps19
  go_wp2_with fail
  go_loopw [8] (fun i wr => i = .int .i64 0 ∧ wr = w) (fun _ _ => 0)
  case atStart => exact ⟨rfl, rfl⟩
  case round =>
    obtain ⟨rfl, rfl⟩ := hrel
    go_wp2_with fail
    go_ret
    exact ⟨rfl, Below.refl _ _⟩

set_option maxHeartbeats 1000000 in
theorem delete_emp (w : World) (f : Value) :
    Calls Try.prog 25 #[.slice none 0 0, f] w fun e w' => e = .returned (.slice none 0 0) ∧ Below w.heap.size w w' := by
  go_enter Try.func25, Try.ntmps25
  go_wp2_with (go_at_call 19; refine (index_emp _ _).mono ?_; rintro e w' ⟨rfl, hb⟩)
  go_ret
  exact ⟨rfl, hb⟩

set_option maxHeartbeats 1000000 in
theorem children_emp (w : World) (tv : Value) (h : Emp w tv) (k : Int) :
    Calls Try.prog 18 #[tv, .int .i64 k] w fun e w' => e = .returned (.slice none 0 0) ∧ Below w.heap.size w w' := by
  have h1 : Emp (w.alloc (.cells #[.int .i64 k] 3)) tv := h.below ((Below.refl _ w).alloc (Nat.le_refl _) _)
  go_enter Try.func18, Try.ntmps18
  go_wp2_with (first
    | (go_at_call 13; refine (all_emp _ tv h1).mono ?_; rintro e w1 ⟨rfl, hb⟩)
    | (go_at_call 25; refine (delete_emp _ _).mono ?_; rintro e w2 ⟨rfl, hb2⟩))
  go_ret
  have s1 := hb.size
  simp only [World.size_alloc] at s1
  exact ⟨rfl, (((Below.refl _ w).alloc (Nat.le_refl _) _).trans (hb.mono (by simp))).trans (hb2.mono (by omega))⟩

set_option maxHeartbeats 1000000 in
theorem in_emp (w : World) (b0 : Nat) (p2 p3 : Value) (tv : Value) (h : Emp w tv) (hc : w.cell? ⟨b0, 0, none⟩ = some tv) (k : Int) :
    Calls Try.prog 23 #[.int .i64 k, .pointer (some ⟨b0, 0, none⟩), p2, p3] w fun e w' => e = .returned (.tuple #[]) ∧ Below w.heap.size w w' := by
  go_enter Try.func23, Try.ntmps23
  go_wp2_with (go_at_call 18; refine (children_emp _ tv h k).mono ?_; rintro e w1 ⟨rfl, hb⟩)
  go_loopw [11] (fun i wr => i = .int .i64 0 ∧ wr = w1) (fun _ _ => 0)
  case atStart => exact ⟨rfl, rfl⟩
  case round =>
    obtain ⟨rfl, rfl⟩ := hrel
    go_wp2_with fail
    go_end0
    exact ⟨rfl, hb⟩
end Go.Proofs.Ytjhggfpnafhonaa
