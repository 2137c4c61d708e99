/- Package word: Compare. -/
import Derived.Test.YtlcconooojlhhaaDoorConv
namespace Go.Proofs.YtlcconooojlhhaaDoor
open Go.RowKit
set_option linter.unusedVariables false

def cmpOf (x y : Int) : Int := if x < y then -1 else if y < x then 1 else 0
theorem cmp_i64_isnan (w : World) (x : Int) : Calls Tryd.prog 51 #[.int .i64 x] w fun e w' => e = .returned (.bool false) ∧ w = w' := by
  go_enter Tryd.func51, Tryd.ntmps51
  go_wp2_with fail
  go_ret
  exact ⟨rfl, rfl⟩
theorem cmp_i64 (w : World) (x y : Int) : Calls Tryd.prog 39 #[.int .i64 x, .int .i64 y] w fun e w' => e = .returned (.int .i64 (cmpOf x y)) ∧ w = w' := by
  by_cases h1 : x < y
  · rw [cmpOf, if_pos h1]
    go_enter Tryd.func39, Tryd.ntmps39
    go_wp2_with fail
    refine (cmp_i64_isnan _ x).mono ?_
    rintro e w1 ⟨rfl, rfl⟩
    go_wp2_with fail
    refine (cmp_i64_isnan _ y).mono ?_
    rintro e w1 ⟨rfl, rfl⟩
    go_wp2_with fail
    go_ret
    exact ⟨rfl, rfl⟩
  · by_cases h2 : y < x
    · rw [cmpOf, if_neg h1, if_pos h2]
      go_enter Tryd.func39, Tryd.ntmps39
      go_wp2_with fail
      refine (cmp_i64_isnan _ x).mono ?_
      rintro e w1 ⟨rfl, rfl⟩
      go_wp2_with fail
      refine (cmp_i64_isnan _ y).mono ?_
      rintro e w1 ⟨rfl, rfl⟩
      go_wp2_with fail
      go_ret
      exact ⟨rfl, rfl⟩
    · obtain rfl : x = y := by omega
      rw [cmpOf, if_neg h1, if_neg h2]
      go_enter Tryd.func39, Tryd.ntmps39
      go_wp2_with fail
      refine (cmp_i64_isnan _ x).mono ?_
      rintro e w1 ⟨rfl, rfl⟩
      go_wp2_with fail
      refine (cmp_i64_isnan _ x).mono ?_
      rintro e w1 ⟨rfl, rfl⟩
      go_wp2_with fail
      go_ret
      exact ⟨rfl, rfl⟩
theorem cmp_u64_isnan (w : World) (x : Int) : Calls Tryd.prog 52 #[.int .u64 x] w fun e w' => e = .returned (.bool false) ∧ w = w' := by
  go_enter Tryd.func52, Tryd.ntmps52
  go_wp2_with fail
  go_ret
  exact ⟨rfl, rfl⟩
theorem cmp_u64 (w : World) (x y : Int) : Calls Tryd.prog 40 #[.int .u64 x, .int .u64 y] w fun e w' => e = .returned (.int .i64 (cmpOf x y)) ∧ w = w' := by
  by_cases h1 : x < y
  · rw [cmpOf, if_pos h1]
    go_enter Tryd.func40, Tryd.ntmps40
    go_wp2_with fail
    refine (cmp_u64_isnan _ x).mono ?_
    rintro e w1 ⟨rfl, rfl⟩
    go_wp2_with fail
    refine (cmp_u64_isnan _ y).mono ?_
    rintro e w1 ⟨rfl, rfl⟩
    go_wp2_with fail
    go_ret
    exact ⟨rfl, rfl⟩
  · by_cases h2 : y < x
    · rw [cmpOf, if_neg h1, if_pos h2]
      go_enter Tryd.func40, Tryd.ntmps40
      go_wp2_with fail
      refine (cmp_u64_isnan _ x).mono ?_
      rintro e w1 ⟨rfl, rfl⟩
      go_wp2_with fail
      refine (cmp_u64_isnan _ y).mono ?_
      rintro e w1 ⟨rfl, rfl⟩
      go_wp2_with fail
      go_ret
      exact ⟨rfl, rfl⟩
    · obtain rfl : x = y := by omega
      rw [cmpOf, if_neg h1, if_neg h2]
      go_enter Tryd.func40, Tryd.ntmps40
      go_wp2_with fail
      refine (cmp_u64_isnan _ x).mono ?_
      rintro e w1 ⟨rfl, rfl⟩
      go_wp2_with fail
      refine (cmp_u64_isnan _ x).mono ?_
      rintro e w1 ⟨rfl, rfl⟩
      go_wp2_with fail
      go_ret
      exact ⟨rfl, rfl⟩

def cmpF (x y : Nat) : Int := if nan64 x = true ∨ nan64 y = true then 2 else if ord64 x y = some .lt then -1 else if ord64 x y = some .gt then 1 else 0
/-- The order of two words, that are clipped. -/
def cmpC (k x y : Int) : Int := if k = 9 then cmpF x.toNat y.toNat else if signedOf k = true then cmpOf (s64 x) (s64 y) else cmpOf x y
set_option maxHeartbeats 1000000
theorem compare_any (w : World) (hw : Wd w) (k x y : Int) (hx0 : 0 ≤ x) (hx1 : x < 18446744073709551616) (hy0 : 0 ≤ y) (hy1 : y < 18446744073709551616) :
    Calls Tryd.prog 14 #[.int .i64 k, .int .u64 x, .int .u64 y] w fun e w' => e = .returned (.int .i64 (cmpC k (clipOf k x) (clipOf k y))) ∧ w = w' := by
  have hcx := clip_any w hw k x hx0 hx1
  have hcy := clip_any w hw k y hy0 hy1
  have hrx := clipOf_range (k := k) hx0 hx1
  have hry := clipOf_range (k := k) hy0 hy1
  generalize clipOf k x = cx at *
  generalize clipOf k y = cy at *
  by_cases h9 : k = 9
  · subst h9
    have hfx := fun W => run_frombits cx W
    have hfy := fun W => run_frombits cy W
    have hnx := isnan_any w cx.toNat
    have hny := isnan_any w cy.toNat
    rw [cmpC, if_pos rfl]
    unfold cmpF
    cases e1 : nan64 cx.toNat
    · cases e2 : nan64 cy.toNat
      · rw [if_neg (by simp)]
        obtain ⟨o, ho⟩ := ord64_some e1 e2
        have go : FloatKind.f64.format.order cx.toNat cy.toNat = some o := ho
        rw [ho]
        rw [e1] at hnx
        rw [e2] at hny
        clear hw e1 e2 ho
        generalize cx.toNat = bx at *
        generalize cy.toNat = bz at *
        cases o
        all_goals
          go_enter Tryd.func14, Tryd.ntmps14
          go_wp2_with fail
          refine hcx.mono ?_
          rintro e w1 ⟨rfl, rfl⟩
          go_wp2_with fail
          refine hcy.mono ?_
          rintro e w1 ⟨rfl, rfl⟩
          go_wp2_with fail
          refine hnx.mono ?_
          rintro e w1 ⟨rfl, rfl⟩
          go_wp2_with fail
          refine hny.mono ?_
          rintro e w1 ⟨rfl, rfl⟩
          go_wp2_with fail
          go_ret
          exact ⟨rfl, rfl⟩
      · rw [if_pos (by simp)]
        rw [e1] at hnx
        rw [e2] at hny
        clear hw e1 e2
        go_enter Tryd.func14, Tryd.ntmps14
        go_wp2_with fail
        refine hcx.mono ?_
        rintro e w1 ⟨rfl, rfl⟩
        go_wp2_with fail
        refine hcy.mono ?_
        rintro e w1 ⟨rfl, rfl⟩
        go_wp2_with fail
        refine hnx.mono ?_
        rintro e w1 ⟨rfl, rfl⟩
        go_wp2_with fail
        refine hny.mono ?_
        rintro e w1 ⟨rfl, rfl⟩
        go_wp2_with fail
        go_ret
        exact ⟨rfl, rfl⟩
    · rw [if_pos (by simp)]
      rw [e1] at hnx
      clear hw e1 hny
      go_enter Tryd.func14, Tryd.ntmps14
      go_wp2_with fail
      refine hcx.mono ?_
      rintro e w1 ⟨rfl, rfl⟩
      go_wp2_with fail
      refine hcy.mono ?_
      rintro e w1 ⟨rfl, rfl⟩
      go_wp2_with fail
      refine hnx.mono ?_
      rintro e w1 ⟨rfl, rfl⟩
      go_wp2_with fail
      go_ret
      exact ⟨rfl, rfl⟩
  · have hne : (k != (9 : Int)) = true := by simpa using h9
    have hsg := signed_any w k
    have hsx := s64_wrap hrx.1 hrx.2
    have hsy := s64_wrap hry.1 hry.2
    rw [cmpC, if_neg h9]
    cases hs : signedOf k
    · rw [if_neg (by decide)]
      rw [hs] at hsg
      have hcc := cmp_u64 w cx cy
      generalize cmpOf cx cy = z at *
      clear hw h9 hs hsx hsy
      go_enter Tryd.func14, Tryd.ntmps14
      go_wp2_with fail
      refine hcx.mono ?_
      rintro e w1 ⟨rfl, rfl⟩
      go_wp2_with fail
      refine hcy.mono ?_
      rintro e w1 ⟨rfl, rfl⟩
      go_wp2_with fail
      refine hsg.mono ?_
      rintro e w1 ⟨rfl, rfl⟩
      go_wp2_with fail
      refine hcc.mono ?_
      rintro e w1 ⟨rfl, rfl⟩
      go_wp2_with fail
      go_ret
      exact ⟨rfl, rfl⟩
    · rw [if_pos rfl]
      rw [hs] at hsg
      have hcc := cmp_i64 w (s64 cx) (s64 cy)
      generalize cmpOf (s64 cx) (s64 cy) = z at *
      generalize s64 cx = sx at *
      generalize s64 cy = sy at *
      clear hw h9 hs
      go_enter Tryd.func14, Tryd.ntmps14
      go_wp2_with fail
      refine hcx.mono ?_
      rintro e w1 ⟨rfl, rfl⟩
      go_wp2_with fail
      refine hcy.mono ?_
      rintro e w1 ⟨rfl, rfl⟩
      go_wp2_with fail
      refine hsg.mono ?_
      rintro e w1 ⟨rfl, rfl⟩
      go_wp2_with fail
      refine hcc.mono ?_
      rintro e w1 ⟨rfl, rfl⟩
      go_wp2_with fail
      go_ret
      exact ⟨rfl, rfl⟩
end Go.Proofs.YtlcconooojlhhaaDoor
