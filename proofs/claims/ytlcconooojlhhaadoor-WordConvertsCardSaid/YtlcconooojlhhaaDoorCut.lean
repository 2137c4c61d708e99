/- Package word: cut (a number with a point, without what is behind it). -/
import Derived.Test.YtlcconooojlhhaaDoorMost
import Derived.Laws.FloatArith
namespace Go.Proofs.YtlcconooojlhhaaDoor
open Go.RowKit
set_option linter.unusedVariables false

/-- How two words of F64 stand to each other. -/
def ord64 (x y : Nat) : Option Ordering := FloatKind.f64.format.order x y
def nan64 (b : Nat) : Bool := FloatKind.f64.format.order b b != some .eq
theorem isnan_any (w : World) (b : Nat) : Calls Tryd.prog 41 #[.float .f64 b] w fun e w' => e = .returned (.bool (nan64 b)) ∧ w = w' := by
  go_enter Tryd.func41, Tryd.ntmps41
  go_wp2_with fail
  go_ret
  exact ⟨rfl, rfl⟩
/-- -2^63, -1, 1 and 2^64, as words of F64. -/
def fM63 : Nat := 14114281232179134464
def fM1 : Nat := 13830554455654793216
def fP1 : Nat := 4607182418800017408
def fP64 : Nat := 4895412794951729152
def cutOf (k : Int) (b : Nat) : Int :=
  if nan64 b = true then 0 else
  if ord64 b fM63 ≠ some .gt then belowOf k (-9223372036854775808) else
  if ord64 b fM1 ≠ some .gt then belowOf k ((floatToIntVal .f64 b .i64).getD 0) else
  if ord64 b fP1 = some .lt then 0 else
  if ord64 b fP64 ≠ some .lt then aboveOf k 18446744073709551615 else aboveOf k ((floatToIntVal .f64 b .u64).getD 0)
theorem ord64_some {b c : Nat} (hb : nan64 b = false) (hc : nan64 c = false) : ∃ o, ord64 b c = some o := by
  have h1 : (FloatKind.f64.format.read b).order (FloatKind.f64.format.read b) = some .eq := by simpa [nan64, Ieee.Format.order] using hb
  have h2 : (FloatKind.f64.format.read c).order (FloatKind.f64.format.read c) = some .eq := by simpa [nan64, Ieee.Format.order] using hc
  unfold ord64 Ieee.Format.order
  cases hx : FloatKind.f64.format.read b <;> cases hy : FloatKind.f64.format.read c <;> rw [hx] at h1 <;> rw [hy] at h2 <;> simp [Ieee.Datum.order] at h1 h2 ⊢
theorem i64_of_wf {n : Int} (h : (Lit.int .i64 n).wf = true) : -9223372036854775808 ≤ n ∧ n < 9223372036854775808 := by
  simp [Lit.wf, IntKind.min, IntKind.max, IntKind.signed, IntKind.bits] at h
  omega
theorem u64_of_wf {n : Int} (h : (Lit.int .u64 n).wf = true) : 0 ≤ n ∧ n < 18446744073709551616 := by
  simp [Lit.wf, IntKind.min, IntKind.max, IntKind.signed, IntKind.bits] at h
  omega
theorem Tryd.und45 : (Tryd.prog.underlying 45).isSome = true := by kernel_rfl
set_option maxRecDepth 100000 in
set_option maxHeartbeats 2000000 in
theorem cut_any (w : World) (hw : Wd w) (k : Int) (b : Nat) (hk : ¬ (k < 1 ∨ 10 ≤ k))
    (Hn : ord64 b fM63 = some .gt → ord64 b fM1 ≠ some .gt → nan64 b = false → ∃ n, floatToIntVal .f64 b .i64 = some n)
    (Hp : ord64 b fM1 = some .gt → ord64 b fP1 ≠ some .lt → ord64 b fP64 = some .lt → ∃ n, floatToIntVal .f64 b .u64 = some n) :
    Calls Tryd.prog 29 #[.int .i64 k, .float .f64 b] w fun e w' => e = .returned (.int .u64 (cutOf k b)) ∧ w = w' := by
  have HW := Lib.hid hw
  clear hw
  cases hnn : nan64 b
  · obtain ⟨o1, h1⟩ := ord64_some hnn (show nan64 fM63 = false by decide +kernel)
    obtain ⟨o2, h2⟩ := ord64_some hnn (show nan64 fM1 = false by decide +kernel)
    obtain ⟨o3, h3⟩ := ord64_some hnn (show nan64 fP1 = false by decide +kernel)
    obtain ⟨o4, h4⟩ := ord64_some hnn (show nan64 fP64 = false by decide +kernel)
    have g1 : FloatKind.f64.format.order b 14114281232179134464 = some o1 := h1
    have g2 : FloatKind.f64.format.order b 13830554455654793216 = some o2 := h2
    have g3 : FloatKind.f64.format.order b 4607182418800017408 = some o3 := h3
    have g4 : FloatKind.f64.format.order b 4895412794951729152 = some o4 := h4
    have HNN := Lib.hid hnn
    by_cases c1 : o1 = .gt
    · subst c1
      by_cases c2 : o2 = .gt
      · subst c2
        by_cases c3 : o3 = .lt
        · subst c3
          have hcut : cutOf k b = 0 := by simp [cutOf, hnn, h1, h2, h3]
          rw [hcut]
          clear Hn Hp h1 h2 h3 h4 hnn hcut
          go_enter Tryd.func29, Tryd.ntmps29
          go_wp2_with fail
          refine (isnan_any _ _).mono ?_
          rintro e w1 ⟨rfl, rfl⟩
          rw [HNN.out]
          go_wp2_with fail
          go_ret
          exact ⟨rfl, rfl⟩
        · by_cases c4 : o4 = .lt
          · subst c4
            obtain ⟨n, hn⟩ := Hp h2 (by rw [h3]; simpa using c3) h4
            have hcut : cutOf k b = aboveOf k n := by simp [cutOf, hnn, h1, h2, h3, c3, h4, hn]
            have hcv := fun W => run_convert_float_int (P := Tryd.prog) W 45 22 .f64 .u64 b n Tryd.und45 Tryd.underlying22 hn
            rw [hcut]
            clear Hn Hp h1 h2 h3 h4 hnn hcut hn
            have c3' : (o3 == .lt) = false := by cases o3 <;> simp_all
            cases o3
            · exact absurd rfl c3
            all_goals
              go_enter Tryd.func29, Tryd.ntmps29
              go_wp2_with fail
              refine (isnan_any _ _).mono ?_
              rintro e w1 ⟨rfl, rfl⟩
              rw [HNN.out]
              go_wp2_with fail
              refine (above_any _ HW.out k n hk).mono ?_
              rintro e w1 ⟨rfl, rfl⟩
              go_wp2_with fail
              go_ret
              exact ⟨rfl, rfl⟩
          · have hcut : cutOf k b = aboveOf k 18446744073709551615 := by simp [cutOf, hnn, h1, h2, h3, c3, h4, c4]
            rw [hcut]
            clear Hn Hp h1 h2 h3 h4 hnn hcut
            cases o3
            · exact absurd rfl c3
            all_goals
              cases o4
              · exact absurd rfl c4
              all_goals
                go_enter Tryd.func29, Tryd.ntmps29
                go_wp2_with fail
                refine (isnan_any _ _).mono ?_
                rintro e w1 ⟨rfl, rfl⟩
                rw [HNN.out]
                go_wp2_with fail
                refine (above_any _ HW.out k _ hk).mono ?_
                rintro e w1 ⟨rfl, rfl⟩
                go_wp2_with fail
                go_ret
                exact ⟨rfl, rfl⟩
      · obtain ⟨n, hn⟩ := Hn h1 (by rw [h2]; simpa using c2) hnn
        have hcut : cutOf k b = belowOf k n := by simp [cutOf, hnn, h1, h2, c2, hn]
        have hcv := fun W => run_convert_float_int (P := Tryd.prog) W 45 2 .f64 .i64 b n Tryd.und45 Tryd.underlying2 hn
        have hr := i64_of_wf (floatToIntVal_wf hn)
        rw [hcut]
        clear Hn Hp h1 h2 h3 h4 hnn hcut hn
        cases o2
        case gt => exact absurd rfl c2
        all_goals
          go_enter Tryd.func29, Tryd.ntmps29
          go_wp2_with fail
          refine (isnan_any _ _).mono ?_
          rintro e w1 ⟨rfl, rfl⟩
          rw [HNN.out]
          go_wp2_with fail
          refine (below_any _ HW.out k n hk hr.1 hr.2).mono ?_
          rintro e w1 ⟨rfl, rfl⟩
          go_wp2_with fail
          go_ret
          exact ⟨rfl, rfl⟩
    · have hcut : cutOf k b = belowOf k (-9223372036854775808) := by simp [cutOf, hnn, h1, c1]
      rw [hcut]
      clear Hn Hp h1 h2 h3 h4 hnn hcut
      cases o1
      case gt => exact absurd rfl c1
      all_goals
        go_enter Tryd.func29, Tryd.ntmps29
        go_wp2_with fail
        refine (isnan_any _ _).mono ?_
        rintro e w1 ⟨rfl, rfl⟩
        rw [HNN.out]
        go_wp2_with fail
        refine (below_any _ HW.out k _ hk (by omega) (by omega)).mono ?_
        rintro e w1 ⟨rfl, rfl⟩
        go_wp2_with fail
        go_ret
        exact ⟨rfl, rfl⟩
  · have hcut : cutOf k b = 0 := by simp [cutOf, hnn]
    rw [hcut]
    have HNN := Lib.hid hnn
    clear Hn Hp hnn hcut
    go_enter Tryd.func29, Tryd.ntmps29
    go_wp2_with fail
    refine (isnan_any _ _).mono ?_
    rintro e w1 ⟨rfl, rfl⟩
    rw [HNN.out]
    go_wp2_with fail
    go_ret
    exact ⟨rfl, rfl⟩
end Go.Proofs.YtlcconooojlhhaaDoor
