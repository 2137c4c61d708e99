/- Package word: Least and Greatest. -/
import Derived.Test.YtlcconooojlhhaaDoorCompare
namespace Go.Proofs.YtlcconooojlhhaaDoor
open Go.RowKit
set_option linter.unusedVariables false

/-- The one or the other, of words that are clipped: by whether the first is asked for. -/
def pickOf (k x y zero : Int) (first : Int → Bool) : Int :=
  if cmpC k x y = 2 then 9221120237041090561 else if cmpC k x y = 0 ∧ x ≠ y then zero else if first (cmpC k x y) = true then x else y
set_option maxHeartbeats 2000000
theorem least_fn (w : World) (c : Int) : Calls Tryd.prog 46 #[.int .i64 c] w fun e w' => e = .returned (.bool (decide (c < 0))) ∧ w = w' := by
  go_enter Tryd.func46, Tryd.ntmps46
  go_wp2_with fail
  go_ret
  exact ⟨rfl, rfl⟩
theorem least_pick (w : World) (hw : Wd w) (k a b : Int) (ha0 : 0 ≤ a) (ha1 : a < 18446744073709551616) (hb0 : 0 ≤ b) (hb1 : b < 18446744073709551616) :
    Calls Tryd.prog 45 #[.int .i64 k, .int .u64 a, .int .u64 b, .int .u64 9223372036854775808, .func (.func 46) #[] #[]] w fun e w' => e = .returned (.int .u64 (pickOf k (clipOf k a) (clipOf k b) 9223372036854775808 (fun c => decide (c < 0)))) ∧ w = w' := by
  have hcx := clip_any w hw k a ha0 ha1
  have hcy := clip_any w hw k b hb0 hb1
  have hcm := compare_any w hw k a b ha0 ha1 hb0 hb1
  unfold pickOf
  dsimp only
  generalize clipOf k a = x at *
  generalize clipOf k b = y at *
  generalize cmpC k x y = c at *
  have hfn := least_fn w c
  clear hw
  by_cases h2 : c = 2
  · subst h2
    rw [if_pos rfl]
    go_enter Tryd.func45, Tryd.ntmps45
    go_wp2_with fail
    refine hcx.mono ?_
    rintro e w1 ⟨rfl, rfl⟩
    go_wp2_with fail
    refine hcy.mono ?_
    rintro e w1 ⟨rfl, rfl⟩
    go_wp2_with fail
    refine hcm.mono ?_
    rintro e w1 ⟨rfl, rfl⟩
    go_wp2_with fail
    go_ret
    exact ⟨rfl, rfl⟩
  · rw [if_neg h2]
    have h2' : (c == 2) = false := by simpa using h2
    by_cases h0 : c = 0 ∧ x ≠ y
    · rw [if_pos h0]
      obtain ⟨rfl, hxy⟩ := h0
      have hxy' : (x != y) = true := by simpa using hxy
      clear hxy h2
      go_enter Tryd.func45, Tryd.ntmps45
      go_wp2_with fail
      refine hcx.mono ?_
      rintro e w1 ⟨rfl, rfl⟩
      go_wp2_with fail
      refine hcy.mono ?_
      rintro e w1 ⟨rfl, rfl⟩
      go_wp2_with fail
      refine hcm.mono ?_
      rintro e w1 ⟨rfl, rfl⟩
      go_wp2_with fail
      go_ret
      exact ⟨rfl, rfl⟩
    · rw [if_neg h0]
      by_cases hc0 : c = 0
      · have hxy : x = y := Decidable.byContradiction fun hn => h0 ⟨hc0, hn⟩
        subst hc0 hxy
        rw [ite_self]
        clear h0 h2
        go_enter Tryd.func45, Tryd.ntmps45
        go_wp2_with fail
        refine hcx.mono ?_
        rintro e w1 ⟨rfl, rfl⟩
        go_wp2_with fail
        refine hcy.mono ?_
        rintro e w1 ⟨rfl, rfl⟩
        go_wp2_with fail
        refine hcm.mono ?_
        rintro e w1 ⟨rfl, rfl⟩
        go_wp2_with fail
        refine hfn.mono ?_
        rintro e w1 ⟨rfl, rfl⟩
        go_wp2_with fail
        go_ret
        exact ⟨rfl, rfl⟩
      · have h3 : (c == 0) = false := by simpa using hc0
        clear h0 h2 hc0
        by_cases hd : decide (c < 0) = true
        case neg =>
          rw [if_neg hd]
          rw [Bool.eq_false_iff.2 hd] at hfn
          clear hd
          go_enter Tryd.func45, Tryd.ntmps45
          go_wp2_with fail
          refine hcx.mono ?_
          rintro e w1 ⟨rfl, rfl⟩
          go_wp2_with fail
          refine hcy.mono ?_
          rintro e w1 ⟨rfl, rfl⟩
          go_wp2_with fail
          refine hcm.mono ?_
          rintro e w1 ⟨rfl, rfl⟩
          go_wp2_with fail
          refine hfn.mono ?_
          rintro e w1 ⟨rfl, rfl⟩
          go_wp2_with fail
          go_ret
          exact ⟨rfl, rfl⟩
        case pos =>
          rw [if_pos hd]
          rw [hd] at hfn
          clear hd
          go_enter Tryd.func45, Tryd.ntmps45
          go_wp2_with fail
          refine hcx.mono ?_
          rintro e w1 ⟨rfl, rfl⟩
          go_wp2_with fail
          refine hcy.mono ?_
          rintro e w1 ⟨rfl, rfl⟩
          go_wp2_with fail
          refine hcm.mono ?_
          rintro e w1 ⟨rfl, rfl⟩
          go_wp2_with fail
          refine hfn.mono ?_
          rintro e w1 ⟨rfl, rfl⟩
          go_wp2_with fail
          go_ret
          exact ⟨rfl, rfl⟩
theorem least_any (w : World) (hw : Wd w) (k a b : Int) (ha0 : 0 ≤ a) (ha1 : a < 18446744073709551616) (hb0 : 0 ≤ b) (hb1 : b < 18446744073709551616) :
    Calls Tryd.prog 21 #[.int .i64 k, .int .u64 a, .int .u64 b] w fun e w' => e = .returned (.int .u64 (pickOf k (clipOf k a) (clipOf k b) 9223372036854775808 (fun c => decide (c < 0)))) ∧ w = w' := by
  have hp := least_pick w hw k a b ha0 ha1 hb0 hb1
  generalize pickOf k (clipOf k a) (clipOf k b) 9223372036854775808 (fun c => decide (c < 0)) = z at *
  clear hw
  go_enter Tryd.func21, Tryd.ntmps21
  go_wp2_with fail
  refine hp.mono ?_
  rintro e w1 ⟨rfl, rfl⟩
  go_wp2_with fail
  go_ret
  exact ⟨rfl, rfl⟩
theorem greatest_fn (w : World) (c : Int) : Calls Tryd.prog 47 #[.int .i64 c] w fun e w' => e = .returned (.bool (decide (0 < c))) ∧ w = w' := by
  go_enter Tryd.func47, Tryd.ntmps47
  go_wp2_with fail
  go_ret
  exact ⟨rfl, rfl⟩
theorem greatest_pick (w : World) (hw : Wd w) (k a b : Int) (ha0 : 0 ≤ a) (ha1 : a < 18446744073709551616) (hb0 : 0 ≤ b) (hb1 : b < 18446744073709551616) :
    Calls Tryd.prog 45 #[.int .i64 k, .int .u64 a, .int .u64 b, .int .u64 0, .func (.func 47) #[] #[]] w fun e w' => e = .returned (.int .u64 (pickOf k (clipOf k a) (clipOf k b) 0 (fun c => decide (0 < c)))) ∧ w = w' := by
  have hcx := clip_any w hw k a ha0 ha1
  have hcy := clip_any w hw k b hb0 hb1
  have hcm := compare_any w hw k a b ha0 ha1 hb0 hb1
  unfold pickOf
  dsimp only
  generalize clipOf k a = x at *
  generalize clipOf k b = y at *
  generalize cmpC k x y = c at *
  have hfn := greatest_fn w c
  clear hw
  by_cases h2 : c = 2
  · subst h2
    rw [if_pos rfl]
    go_enter Tryd.func45, Tryd.ntmps45
    go_wp2_with fail
    refine hcx.mono ?_
    rintro e w1 ⟨rfl, rfl⟩
    go_wp2_with fail
    refine hcy.mono ?_
    rintro e w1 ⟨rfl, rfl⟩
    go_wp2_with fail
    refine hcm.mono ?_
    rintro e w1 ⟨rfl, rfl⟩
    go_wp2_with fail
    go_ret
    exact ⟨rfl, rfl⟩
  · rw [if_neg h2]
    have h2' : (c == 2) = false := by simpa using h2
    by_cases h0 : c = 0 ∧ x ≠ y
    · rw [if_pos h0]
      obtain ⟨rfl, hxy⟩ := h0
      have hxy' : (x != y) = true := by simpa using hxy
      clear hxy h2
      go_enter Tryd.func45, Tryd.ntmps45
      go_wp2_with fail
      refine hcx.mono ?_
      rintro e w1 ⟨rfl, rfl⟩
      go_wp2_with fail
      refine hcy.mono ?_
      rintro e w1 ⟨rfl, rfl⟩
      go_wp2_with fail
      refine hcm.mono ?_
      rintro e w1 ⟨rfl, rfl⟩
      go_wp2_with fail
      go_ret
      exact ⟨rfl, rfl⟩
    · rw [if_neg h0]
      by_cases hc0 : c = 0
      · have hxy : x = y := Decidable.byContradiction fun hn => h0 ⟨hc0, hn⟩
        subst hc0 hxy
        rw [ite_self]
        clear h0 h2
        go_enter Tryd.func45, Tryd.ntmps45
        go_wp2_with fail
        refine hcx.mono ?_
        rintro e w1 ⟨rfl, rfl⟩
        go_wp2_with fail
        refine hcy.mono ?_
        rintro e w1 ⟨rfl, rfl⟩
        go_wp2_with fail
        refine hcm.mono ?_
        rintro e w1 ⟨rfl, rfl⟩
        go_wp2_with fail
        refine hfn.mono ?_
        rintro e w1 ⟨rfl, rfl⟩
        go_wp2_with fail
        go_ret
        exact ⟨rfl, rfl⟩
      · have h3 : (c == 0) = false := by simpa using hc0
        clear h0 h2 hc0
        by_cases hd : decide (0 < c) = true
        case neg =>
          rw [if_neg hd]
          rw [Bool.eq_false_iff.2 hd] at hfn
          clear hd
          go_enter Tryd.func45, Tryd.ntmps45
          go_wp2_with fail
          refine hcx.mono ?_
          rintro e w1 ⟨rfl, rfl⟩
          go_wp2_with fail
          refine hcy.mono ?_
          rintro e w1 ⟨rfl, rfl⟩
          go_wp2_with fail
          refine hcm.mono ?_
          rintro e w1 ⟨rfl, rfl⟩
          go_wp2_with fail
          refine hfn.mono ?_
          rintro e w1 ⟨rfl, rfl⟩
          go_wp2_with fail
          go_ret
          exact ⟨rfl, rfl⟩
        case pos =>
          rw [if_pos hd]
          rw [hd] at hfn
          clear hd
          go_enter Tryd.func45, Tryd.ntmps45
          go_wp2_with fail
          refine hcx.mono ?_
          rintro e w1 ⟨rfl, rfl⟩
          go_wp2_with fail
          refine hcy.mono ?_
          rintro e w1 ⟨rfl, rfl⟩
          go_wp2_with fail
          refine hcm.mono ?_
          rintro e w1 ⟨rfl, rfl⟩
          go_wp2_with fail
          refine hfn.mono ?_
          rintro e w1 ⟨rfl, rfl⟩
          go_wp2_with fail
          go_ret
          exact ⟨rfl, rfl⟩
theorem greatest_any (w : World) (hw : Wd w) (k a b : Int) (ha0 : 0 ≤ a) (ha1 : a < 18446744073709551616) (hb0 : 0 ≤ b) (hb1 : b < 18446744073709551616) :
    Calls Tryd.prog 23 #[.int .i64 k, .int .u64 a, .int .u64 b] w fun e w' => e = .returned (.int .u64 (pickOf k (clipOf k a) (clipOf k b) 0 (fun c => decide (0 < c)))) ∧ w = w' := by
  have hp := greatest_pick w hw k a b ha0 ha1 hb0 hb1
  generalize pickOf k (clipOf k a) (clipOf k b) 0 (fun c => decide (0 < c)) = z at *
  clear hw
  go_enter Tryd.func23, Tryd.ntmps23
  go_wp2_with fail
  refine hp.mono ?_
  rintro e w1 ⟨rfl, rfl⟩
  go_wp2_with fail
  go_ret
  exact ⟨rfl, rfl⟩
end Go.Proofs.YtlcconooojlhhaaDoor
