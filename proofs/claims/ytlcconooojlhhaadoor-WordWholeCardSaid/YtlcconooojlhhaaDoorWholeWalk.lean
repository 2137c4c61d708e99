/- The Go text of flyleaflaw02.WordWhole returns true and writes nothing that was there. -/
import Derived.Test.YtlcconooojlhhaaDoorWhole
import Derived.Test.YtlcconooojlhhaaDoorRef02
import Derived.Test.YtlcconooojlhhaaDoorAwake02
namespace Go.Proofs.YtlcconooojlhhaaDoor
open Go.RowKit
set_option linter.unusedVariables false
set_option maxRecDepth 100000 in
set_option maxHeartbeats 4000000 in
theorem whole_walk (w : World) (hw : Wd w) (n : Int) (h0 : 0 ≤ n) (h1 : n < 18446744073709551616) :
    Calls Tryd.prog 5 #[.int .u64 n] w fun e w' => e = .returned (.bool true) ∧ Below w.heap.size w w' := by
  have hand : bits BinOp.and IntKind.u64 n 4503599627370495 = n % 4503599627370496 := and_mask_u64 n 52 (by omega) h0 h1
  have haw := awake02 w hw
  obtain ⟨m, hm⟩ := Int.eq_ofNat_of_zero_le (show 0 ≤ n % 4503599627370496 by omega)
  have hlt : m < 2 ^ 52 := by omega
  rw [hm] at hand
  obtain ⟨f, e1, e2, e3, e4, e5, e6, e7, e8, e9⟩ := whole_law hlt
  have hor : bits BinOp.or IntKind.u64 (f : Int) 9223372036854775808 = ((f + 2 ^ 63 : Nat) : Int) := by
    have := bits_join_low IntKind.u64 64 (by decide) (fun n h h' => wraps_u64 n h h') 63 (f : Int) 9223372036854775808 (by omega) (by omega) (by omega) (by omega) (by omega) (by omega)
    rw [this]
    omega
  have c1 := convert_any w hw 4 9 m (by omega) (by omega)
  rw [e1] at c1
  have c4 := convert_any w hw 9 4 f (by omega) (by omega)
  rw [e4] at c4
  have c5 := convert_any w hw 9 8 f (by omega) (by omega)
  rw [e5] at c5
  have c8 := convert_any w hw 9 4 ((f + 2 ^ 63 : Nat) : Int) (by omega) (by omega)
  rw [e8] at c8
  have c9 := convert_any w hw 9 8 ((f + 2 ^ 63 : Nat) : Int) (by omega) (by omega)
  rw [e9] at c9
  by_cases hz : m = 0
  · have hf := e7 hz
    subst hz hf
    have d1 : Calls Tryd.prog 12 #[.int .i64 4, .int .i64 9, .int .u64 (0)] w (fun e w' => e = .returned (.int .u64 (0)) ∧ w = w') := c1
    have d4 : Calls Tryd.prog 12 #[.int .i64 9, .int .i64 4, .int .u64 (0)] w (fun e w' => e = .returned (.int .u64 (0)) ∧ w = w') := c4
    have d5 : Calls Tryd.prog 12 #[.int .i64 9, .int .i64 8, .int .u64 (0)] w (fun e w' => e = .returned (.int .u64 (0)) ∧ w = w') := c5
    have d8 : Calls Tryd.prog 12 #[.int .i64 9, .int .i64 4, .int .u64 (9223372036854775808)] w (fun e w' => e = .returned (.int .u64 (0)) ∧ w = w') := c8
    have d9 : Calls Tryd.prog 12 #[.int .i64 9, .int .i64 8, .int .u64 (9223372036854775808)] w (fun e w' => e = .returned (.int .u64 (0)) ∧ w = w') := c9
    have hand : bits BinOp.and IntKind.u64 n 4503599627370495 = 0 := hand
    have hor : bits BinOp.or IntKind.u64 0 9223372036854775808 = 9223372036854775808 := hor
    clear hw e1 e2 e3 e4 e5 e6 e7 e8 e9 hm hlt c1 c4 c5 c8 c9
    go_enter Tryd.func5, Tryd.ntmps5
    go_wp2_with fail
    refine haw.mono ?_
    rintro e w1 ⟨rfl, rfl⟩
    go_wp2_with fail
    refine d1.mono ?_
    rintro e w1 ⟨rfl, rfl⟩
    go_wp2_with fail
    refine d4.mono ?_
    rintro e w1 ⟨rfl, rfl⟩
    go_wp2_with fail
    refine d5.mono ?_
    rintro e w1 ⟨rfl, rfl⟩
    go_wp2_with fail
    refine d4.mono ?_
    rintro e w1 ⟨rfl, rfl⟩
    go_wp2_with fail
    refine d8.mono ?_
    rintro e w1 ⟨rfl, rfl⟩
    go_wp2_with fail
    refine d9.mono ?_
    rintro e w1 ⟨rfl, rfl⟩
    go_wp2_with fail
    go_ret
    exact ⟨rfl, Below.refl _ _⟩
  · have c6 := convert_any w hw 9 4 ((f - 2 ^ 52 : Nat) : Int) (by omega) (by omega)
    rw [e6 (by omega)] at c6
    have hf52 := e3 (by omega)
    have q1 : ((f - 2 ^ 52 : Nat) : Int) = (f : Int) - 4503599627370496 := by omega
    have q2 : ((f + 2 ^ 63 : Nat) : Int) = (f : Int) + 9223372036854775808 := by omega
    have q3 : ((m / 2 : Nat) : Int) = (m : Int) / 2 := by omega
    rw [q1, q3] at c6
    rw [q2] at hor c8 c9
    have m0 : (0 : Int) < m := by omega
    have m1 : (m : Int) < 4503599627370496 := by omega
    have f0 : (4503599627370496 : Int) ≤ f := by omega
    have f1 : (f : Int) < 9223372036854775808 := by omega
    clear e1 e2 e3 e4 e5 e6 e7 e8 e9 hm hlt hf52 q1 q2 q3 hw hz
    generalize (m : Int) = M at *
    generalize (f : Int) = F at *
    have hws : IntKind.u64.wrap (F - 4503599627370496) = F - 4503599627370496 := by rw [IntKind.wrap_u64]; omega
    have hwn : IntKind.u64.wrap (-M) = -M % 18446744073709551616 := IntKind.wrap_u64 _
    have d1 := c1
    have d4 := c4
    have d5 := c5
    have d6 := c6
    have d8 := c8
    have d9 := c9
    clear c1 c4 c5 c6 c8 c9
    generalize hMM : -M % 18446744073709551616 = MM at *
    clear hMM
    go_enter Tryd.func5, Tryd.ntmps5
    go_wp2_with fail
    refine haw.mono ?_
    rintro e w1 ⟨rfl, rfl⟩
    go_wp2_with fail
    refine d1.mono ?_
    rintro e w1 ⟨rfl, rfl⟩
    go_wp2_with fail
    refine d4.mono ?_
    rintro e w1 ⟨rfl, rfl⟩
    go_wp2_with fail
    refine d5.mono ?_
    rintro e w1 ⟨rfl, rfl⟩
    go_wp2_with fail
    refine d6.mono ?_
    rintro e w1 ⟨rfl, rfl⟩
    go_wp2_with fail
    refine d8.mono ?_
    rintro e w1 ⟨rfl, rfl⟩
    go_wp2_with fail
    refine d9.mono ?_
    rintro e w1 ⟨rfl, rfl⟩
    go_wp2_with fail
    go_ret
    exact ⟨rfl, Below.refl _ _⟩
end Go.Proofs.YtlcconooojlhhaaDoor
