/- The document's layer 2: Convert is the program's. -/
import Derived.Test.YtlcconooojlhhaaDoorRFloat
namespace Go.Proofs.YtlcconooojlhhaaDoor
open Go.RowKit
set_option linter.unusedVariables false
set_option maxHeartbeats 4000000

theorem rfloat_any (w : World) (m : Bool) (n : Int) (h0 : 0 ≤ n) (h1 : n < 18446744073709551616) : Calls Tryd.prog 34 #[.agg #[.bool m, .int .u64 n]] w fun e w' => e = .returned (.int .u64 (floatRef m n)) ∧ Below w.heap.size w w' := by
  by_cases hn : n = 0
  · subst hn
    rw [show floatRef m 0 = 0 from rfl]
    go_enter Tryd.func34, Tryd.ntmps34
    go_wp2_with fail
    go_ret
    exact ⟨rfl, (Below.refl _ _).alloc (Nat.le_refl _) _⟩
  · exact rfloat_pos w m n (by omega) h1
/-- The document's number with a point is the model's nearest one. -/
theorem float_number {f y : Int} (h0 : 0 ≤ y) (h1 : y < 18446744073709551616) : floatRef (numRef f y).1 (numRef f y).2 = (FloatKind.f64.nearest (if signedOf f = true then s64 y else y) : Nat) := by
  have hz := number_z (k := f) h0 h1
  rw [← hz.1]
  have hr : (numRef f y).2 < 18446744073709551616 := by
    unfold numRef
    split
    · simp only []; omega
    · exact h1
  generalize numRef f y = p at *
  obtain ⟨m, n⟩ := p
  simp only [numZ] at *
  unfold floatRef
  by_cases hn : n = 0
  · subst hn
    cases m
    · simp only [if_true, Bool.false_eq_true, if_false]
      rw [nearest_zero]; rfl
    · have := hz.2.1 rfl
      omega
  · rw [if_neg hn]
    cases m
    · simp only [Bool.false_eq_true, if_false]
      rw [nearest_eq n hn (by omega), if_neg (by omega), Nat.zero_add, Int.zero_add]
      congr 2
      omega
    · simp only [if_true]
      have := hz.2.1 rfl
      rw [nearest_eq (-n) (by omega) (by omega), if_pos (by omega), show (-n).natAbs = n.toNat by omega]
      omega
/-- into at a number without a point. -/
theorem into_number {f t y : Int} (ht : 1 ≤ t ∧ t ≤ 8) (h0 : 0 ≤ y) (h1 : y < 18446744073709551616) : intoOf t (numRef f y) = if signedOf f = true ∧ s64 y < 0 then belowOf t (s64 y) else aboveOf t y := by
  have hm := mostOf_sig ht
  unfold numRef
  by_cases hc : signedOf f = true ∧ 9223372036854775808 ≤ y
  · have hs : s64 y = y - 18446744073709551616 := by unfold s64; rw [if_neg (by omega)]
    rw [if_pos hc, if_pos ⟨hc.1, by omega⟩, hs]
    simp only [intoOf, belowOf, if_true]
    cases ht2 : signedOf t
    · simp
    · have h3 := hm.1 ht2
      simp only [if_true]
      omega
  · rw [if_neg hc, if_neg (by intro c; have : s64 y < 0 := c.2; unfold s64 at this; split at this; omega; exact hc ⟨c.1, by omega⟩)]
    simp only [intoOf, aboveOf, Bool.false_eq_true, if_false]
    split <;> rfl
set_option maxRecDepth 100000 in
theorem rconvert_any (w : World) (f t x : Int) (h0 : 0 ≤ x) (h1 : x < 18446744073709551616) : Calls Tryd.prog 13 #[.int .i64 f, .int .i64 t, .int .u64 x] w fun e w' => e = .returned (.int .u64 (convOf f t x)) ∧ Below w.heap.size w w' := by
  have hwf := rwidth_any w f
  have hwt := rwidth_any w t
  unfold convOf
  by_cases hz : widthOf f = 0 ∨ widthOf t = 0
  · rw [if_pos hz]
    by_cases hz1 : widthOf f = 0
    · rw [hz1] at hwf
      clear hz hz1
      go_enter Tryd.func13, Tryd.ntmps13
      go_wp2_with fail
      refine hwf.mono ?_
      rintro e w1 ⟨rfl, rfl⟩
      go_wp2_with fail
      go_ret
      exact ⟨rfl, Below.refl _ _⟩
    · have hz2 : widthOf t = 0 := by omega
      rw [hz2] at hwt
      have hn : (widthOf f == 0) = false := by simpa using hz1
      generalize widthOf f = wf at *
      clear hz hz1 hz2
      go_enter Tryd.func13, Tryd.ntmps13
      go_wp2_with fail
      refine hwf.mono ?_
      rintro e w1 ⟨rfl, rfl⟩
      go_wp2_with fail
      refine hwt.mono ?_
      rintro e w1 ⟨rfl, rfl⟩
      go_wp2_with fail
      go_ret
      exact ⟨rfl, Below.refl _ _⟩
  · rw [if_neg hz]
    have hf9 : 1 ≤ f ∧ f ≤ 9 := by rw [widthOf_zero, widthOf_zero] at hz; omega
    have ht9 : 1 ≤ t ∧ t ≤ 9 := by rw [widthOf_zero, widthOf_zero] at hz; omega
    have hn1 : (widthOf f == 0) = false := by simp; omega
    have hn2 : (widthOf t == 0) = false := by simp; omega
    generalize widthOf f = wf at *
    generalize widthOf t = wt at *
    have hcl := rclip_any w f x h0 h1
    have hr := clipOf_range (k := f) h0 h1
    generalize clipOf f x = y at *
    clear hz
    by_cases hft : f = t
    · rw [if_pos hft]
      subst hft
      clear hf9 ht9 hwt
      go_enter Tryd.func13, Tryd.ntmps13
      go_wp2_with fail
      refine hwf.mono ?_
      rintro e w1 ⟨rfl, rfl⟩
      go_wp2_with fail
      refine hwf.mono ?_
      rintro e w1 ⟨rfl, rfl⟩
      go_wp2_with fail
      refine hcl.mono ?_
      rintro e w1 ⟨rfl, rfl⟩
      go_wp2_with fail
      go_ret
      exact ⟨rfl, Below.refl _ _⟩
    · rw [if_neg hft]
      have hne : (f == t) = false := by simpa using hft
      by_cases ht : t = 9
      · subst ht
        rw [if_neg hft, if_pos rfl]
        have hfl := float_number (f := f) hr.1 hr.2
        have hnum := fun W => rnumber_any W f y hr.1 hr.2
        have hz := number_z (k := f) hr.1 hr.2
        have hr2 : (numRef f y).2 < 18446744073709551616 := by
          unfold numRef
          split
          · simp only []; omega
          · exact hr.2
        have hflo := fun W => rfloat_any W (numRef f y).1 (numRef f y).2 hz.2.2 hr2
        rw [hfl] at hflo
        simp only [numV] at hnum
        generalize (numRef f y).1 = m at *
        generalize (numRef f y).2 = n at *
        generalize ((FloatKind.f64.nearest (if signedOf f = true then s64 y else y) : Nat) : Int) = R at *
        clear hfl hz hr2 hft hf9 ht9 hr
        go_enter Tryd.func13, Tryd.ntmps13
        go_wp2_with fail
        refine hwf.mono ?_
        rintro e w1 ⟨rfl, rfl⟩
        go_wp2_with fail
        refine hwt.mono ?_
        rintro e w1 ⟨rfl, rfl⟩
        go_wp2_with fail
        refine hcl.mono ?_
        rintro e w1 ⟨rfl, rfl⟩
        go_wp2_with fail
        refine (hnum w).mono ?_
        rintro e w2 ⟨rfl, q2⟩
        have b2 := q2
        have z2 := b2.size
        go_wp2_with fail
        refine (hflo w2).mono ?_
        rintro e w3 ⟨rfl, q3⟩
        have b3 := b2.trans (q3.mono z2)
        have z3 := b3.size
        go_wp2_with fail
        go_ret
        exact ⟨rfl, b3⟩
      · have ht8 : 1 ≤ t ∧ t ≤ 8 := by omega
        have hnt : (t == (9 : Int)) = false := by simpa using ht
        by_cases hf : f = 9
        · subst hf
          rw [if_pos rfl]
          have hnan := fun W => rnan_any W y hr.1 hr.2
          cases hn : nan64 y.toNat
          · rw [hn] at hnan
            obtain ⟨e1, e2, e3, e4⟩ := into_whole (k := t) ht8 hr.1 hr.2 hn
            have hwh := fun W => rwhole_any W y hr.1 hr.2
            rw [← e1]
            have hin := fun W => into_any W t (wholeRef y).1 (wholeRef y).2 ht8 e3 e4 e2
            change ∀ W, Calls Tryd.prog 37 _ W (fun e w' => e = .returned (.int .u64 (intoOf t (wholeRef y))) ∧ Below W.heap.size W w') at hin
            simp only [numV] at hwh
            generalize intoOf t (wholeRef y) = R at *
            generalize (wholeRef y).1 = m at *
            generalize (wholeRef y).2 = n at *
            clear e1 e2 e3 e4 hn ht hft hf9 ht9 ht8 hr
            go_enter Tryd.func13, Tryd.ntmps13
            go_wp2_with fail
            refine hwf.mono ?_
            rintro e w1 ⟨rfl, rfl⟩
            go_wp2_with fail
            refine hwt.mono ?_
            rintro e w1 ⟨rfl, rfl⟩
            go_wp2_with fail
            refine hcl.mono ?_
            rintro e w1 ⟨rfl, rfl⟩
            go_wp2_with fail
            refine (hnan _).mono ?_
            rintro e w1 ⟨rfl, rfl⟩
            go_wp2_with fail
            refine (hwh w).mono ?_
            rintro e w2 ⟨rfl, q2⟩
            have b2 := q2
            have z2 := b2.size
            go_wp2_with fail
            refine (hin w2).mono ?_
            rintro e w3 ⟨rfl, q3⟩
            have b3 := b2.trans (q3.mono z2)
            have z3 := b3.size
            go_wp2_with fail
            go_ret
            exact ⟨rfl, b3⟩
          · rw [hn] at hnan
            rw [cutOf, if_pos hn]
            clear hn ht hft hf9 ht9 ht8 hr
            go_enter Tryd.func13, Tryd.ntmps13
            go_wp2_with fail
            refine hwf.mono ?_
            rintro e w1 ⟨rfl, rfl⟩
            go_wp2_with fail
            refine hwt.mono ?_
            rintro e w1 ⟨rfl, rfl⟩
            go_wp2_with fail
            refine hcl.mono ?_
            rintro e w1 ⟨rfl, rfl⟩
            go_wp2_with fail
            refine (hnan _).mono ?_
            rintro e w1 ⟨rfl, rfl⟩
            go_wp2_with fail
            go_ret
            exact ⟨rfl, Below.refl _ _⟩
        · rw [if_neg hf, if_neg ht]
          have hnf : (f == (9 : Int)) = false := by simpa using hf
          have hin0 := into_number (f := f) ht8 hr.1 hr.2
          rw [← hin0]
          have hnum := fun W => rnumber_any W f y hr.1 hr.2
          have hz := number_z (k := f) hr.1 hr.2
          have hr2 : (numRef f y).2 < 18446744073709551616 := by
            unfold numRef
            split
            · simp only []; omega
            · exact hr.2
          have hin := fun W => into_any W t (numRef f y).1 (numRef f y).2 ht8 hz.2.2 hr2 hz.2.1
          change ∀ W, Calls Tryd.prog 37 _ W (fun e w' => e = .returned (.int .u64 (intoOf t (numRef f y))) ∧ Below W.heap.size W w') at hin
          simp only [numV] at hnum
          generalize intoOf t (numRef f y) = R at *
          generalize (numRef f y).1 = m at *
          generalize (numRef f y).2 = n at *
          clear hin0 hz hr2 hf ht hft hf9 ht9 ht8 hr
          go_enter Tryd.func13, Tryd.ntmps13
          go_wp2_with fail
          refine hwf.mono ?_
          rintro e w1 ⟨rfl, rfl⟩
          go_wp2_with fail
          refine hwt.mono ?_
          rintro e w1 ⟨rfl, rfl⟩
          go_wp2_with fail
          refine hcl.mono ?_
          rintro e w1 ⟨rfl, rfl⟩
          go_wp2_with fail
          refine (hnum w).mono ?_
          rintro e w2 ⟨rfl, q2⟩
          have b2 := q2
          have z2 := b2.size
          go_wp2_with fail
          refine (hin w2).mono ?_
          rintro e w3 ⟨rfl, q3⟩
          have b3 := b2.trans (q3.mono z2)
          have z3 := b3.size
          go_wp2_with fail
          go_ret
          exact ⟨rfl, b3⟩
end Go.Proofs.YtlcconooojlhhaaDoor
