/- ProcNil: the walk. Nothing here is conditional. -/
import Derived.Test.YtjhggfpnafhonaaUnder
namespace Go.Proofs.Ytjhggfpnafhonaa
open Go.RowKit Go.Maps

set_option maxHeartbeats 4000000 in
theorem procNil_any (w : World) (n : Int) (hn : (Lit.int .i64 n).wf = true) : Calls Try.prog 4 #[.int .i64 n] w fun e w' => e = .returned (.bool true) ∧ Below w.heap.size w w' := by
  have hE0 : ∀ W, Emp W (.pointer none) := fun W => .inl rfl
  have hz : Emp (w.alloc (.cells #[.map none] 37)) (.pointer (some ⟨w.heap.size, 0, none⟩)) := .inr ⟨w.heap.size, rfl, (0, 0), heap_alloc_new _ _⟩
  have hb0 : Below w.heap.size w (w.alloc (.cells #[.map none] 37)) := (Below.refl _ w).alloc (Nat.le_refl _) _
  go_enter Try.func4, Try.ntmps4
  go_wp2_with fail
  refine (fork_emp _ (.pointer none) (hE0 _) n hn).mono ?_
  rintro e w' ⟨rfl, hb⟩
  replace hz := hz.below hb
  replace hb0 := hb0.trans (hb.mono hb0.size)
  clear hb
  go_wp2_with fail
  refine (fork_emp _ _ hz n hn).mono ?_
  rintro e w' ⟨rfl, hb⟩
  replace hz := hz.below hb
  replace hb0 := hb0.trans (hb.mono hb0.size)
  clear hb
  go_wp2_with fail
  refine (wait_emp _ (.pointer none) (hE0 _) n hn).mono ?_
  rintro e w' ⟨rfl, hb⟩
  replace hz := hz.below hb
  replace hb0 := hb0.trans (hb.mono hb0.size)
  clear hb
  go_wp2_with fail
  refine (get_emp _ (.pointer none) (hE0 _) n hn).mono ?_
  rintro e w' ⟨rfl, hb⟩
  replace hz := hz.below (hb.alloc hb.size (.cells #[.int .i64 0, .int .i64 0, .int .i64 0, .int .i64 0] 39))
  replace hb0 := (hb0.trans (hb.mono hb0.size)).alloc (hb0.trans (hb.mono hb0.size)).size (.cells #[.int .i64 0, .int .i64 0, .int .i64 0, .int .i64 0] 39)
  clear hb
  go_wp2_with fail
  refine (awake_any _).mono ?_
  rintro e w' ⟨rfl, hb⟩
  replace hz := hz.below hb
  replace hb0 := hb0.trans (hb.mono hb0.size)
  clear hb
  go_wp2_with fail
  refine (exit_emp _ (.pointer none) (hE0 _) n 0 hn).mono ?_
  rintro e w' ⟨rfl, hb⟩
  replace hz := hz.below hb
  replace hb0 := hb0.trans (hb.mono hb0.size)
  clear hb
  go_wp2_with fail
  refine (exit_emp _ _ hz n 0 hn).mono ?_
  rintro e w' ⟨rfl, hb⟩
  replace hz := hz.below hb
  replace hb0 := hb0.trans (hb.mono hb0.size)
  clear hb
  go_wp2_with fail
  refine (all_emp _ (.pointer none) (hE0 _)).mono ?_
  rintro e w' ⟨rfl, hb⟩
  replace hz := hz.below hb
  replace hb0 := hb0.trans (hb.mono hb0.size)
  clear hb
  go_wp2_with fail
  refine (all_emp _ _ hz).mono ?_
  rintro e w' ⟨rfl, hb⟩
  replace hz := hz.below hb
  replace hb0 := hb0.trans (hb.mono hb0.size)
  clear hb
  go_wp2_with fail
  refine (running_emp _ (.pointer none) (hE0 _)).mono ?_
  rintro e w' ⟨rfl, hb⟩
  replace hz := hz.below hb
  replace hb0 := hb0.trans (hb.mono hb0.size)
  clear hb
  go_wp2_with fail
  refine (under_emp _ none (hE0 _) n hn).mono ?_
  rintro e w' ⟨rfl, hb⟩
  replace hz := hz.below hb
  replace hb0 := hb0.trans (hb.mono hb0.size)
  clear hb
  go_wp2_with fail
  refine (under_emp _ _ hz n hn).mono ?_
  rintro e w' ⟨rfl, hb⟩
  replace hz := hz.below hb
  replace hb0 := hb0.trans (hb.mono hb0.size)
  clear hb
  go_wp2_with fail
  go_ret
  exact ⟨rfl, hb0⟩
end Go.Proofs.Ytjhggfpnafhonaa
