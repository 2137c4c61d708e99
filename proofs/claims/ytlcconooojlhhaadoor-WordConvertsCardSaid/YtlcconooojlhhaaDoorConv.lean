/- Package word: Convert. -/
import Derived.Test.YtlcconooojlhhaaDoorCut
import Derived.Laws.Externs
namespace Go.Proofs.YtlcconooojlhhaaDoor
open Go.RowKit
set_option linter.unusedVariables false

def s64 (x : Int) : Int := if x < 9223372036854775808 then x else x - 18446744073709551616
theorem s64_wrap {x : Int} (h0 : 0 ≤ x) (h1 : x < 18446744073709551616) : wrap64 x = s64 x := by simp only [wrap64, s64]; omega
def convOf (f t x : Int) : Int :=
  if widthOf f = 0 ∨ widthOf t = 0 then 0 else
  if f = t then clipOf f x else
  if f = 9 then cutOf t (clipOf f x).toNat else
  if t = 9 then (FloatKind.f64.nearest (if signedOf f = true then s64 (clipOf f x) else clipOf f x) : Nat) else
  if signedOf f = true ∧ s64 (clipOf f x) < 0 then belowOf t (s64 (clipOf f x)) else aboveOf t (clipOf f x)
theorem conv_same (w : World) (hw : Wd w) (f x : Int) (hf : ¬ (f < 1 ∨ 10 ≤ f)) (h0 : 0 ≤ x) (h1 : x < 18446744073709551616) :
    Calls Tryd.prog 12 #[.int .i64 f, .int .i64 f, .int .u64 x] w fun e w' => e = .returned (.int .u64 (clipOf f x)) ∧ w = w' := by
  have hz : (widthOf f == 0) = false := by simp only [beq_eq_false_iff_ne, ne_eq, widthOf_zero]; exact hf
  have hc := clip_any w hw f x h0 h1
  generalize clipOf f x = y at *
  have hwd := width_any w hw f
  generalize widthOf f = wf at *
  have HW := Lib.hid hw
  clear hw hf
  go_enter Tryd.func12, Tryd.ntmps12
  go_wp2_with fail
  refine hwd.mono ?_
  rintro e w1 ⟨rfl, rfl⟩
  go_wp2_with fail
  refine hwd.mono ?_
  rintro e w1 ⟨rfl, rfl⟩
  go_wp2_with fail
  refine hc.mono ?_
  rintro e w1 ⟨rfl, rfl⟩
  go_wp2_with fail
  go_ret
  exact ⟨rfl, rfl⟩
theorem run_frombits (n : Int) (w : World) : (callFunc 30 #[.int .u64 n]).run Tryd.prog w = .ok (.value (.float .f64 n.toNat)) w := by
  rw [run_callFunc_extern Tryd.func30 (by kernel_rfl) (by kernel_rfl) (by kernel_rfl) (e := Extern.MathFloatBits.float64frombits) (by kernel_rfl)]
  rfl
theorem run_bits (b : Nat) (w : World) : (callFunc 31 #[.float .f64 b]).run Tryd.prog w = .ok (.value (.int .u64 b)) w := by
  rw [run_callFunc_extern Tryd.func31 (by kernel_rfl) (by kernel_rfl) (by kernel_rfl) (e := Extern.MathFloatBits.float64bits) (by kernel_rfl)]
  rfl
theorem conv_cut (w : World) (hw : Wd w) (t x : Int) (ht : ¬ (t < 1 ∨ 10 ≤ t)) (h9 : t ≠ 9) (h0 : 0 ≤ x) (h1 : x < 18446744073709551616) 
    (hcut : ∀ W, Wd W → Calls Tryd.prog 29 #[.int .i64 t, .float .f64 (clipOf 9 x).toNat] W fun e w' => e = .returned (.int .u64 (cutOf t (clipOf 9 x).toNat)) ∧ W = w') :
    Calls Tryd.prog 12 #[.int .i64 9, .int .i64 t, .int .u64 x] w fun e w' => e = .returned (.int .u64 (cutOf t (clipOf 9 x).toNat)) ∧ w = w' := by
  have hz : (widthOf t == 0) = false := by simp only [beq_eq_false_iff_ne, ne_eq, widthOf_zero]; exact ht
  have hne : ((9 : Int) == t) = false := by simp; omega
  have hc := clip_any w hw 9 x h0 h1
  have hcut := hcut w hw
  generalize clipOf 9 x = y at *
  generalize cutOf t y.toNat = z at *
  have hwd := width_any w hw t
  have hw9 := width_any w hw 9
  rw [show widthOf 9 = 8 from rfl] at hw9
  generalize widthOf t = wf at *
  have HW := Lib.hid hw
  have hfb := fun W => run_frombits y W
  clear hw ht h9
  go_enter Tryd.func12, Tryd.ntmps12
  go_wp2_with fail
  refine hw9.mono ?_
  rintro e w1 ⟨rfl, rfl⟩
  go_wp2_with fail
  refine hwd.mono ?_
  rintro e w1 ⟨rfl, rfl⟩
  go_wp2_with fail
  refine hc.mono ?_
  rintro e w1 ⟨rfl, rfl⟩
  go_wp2_with fail
  refine hcut.mono ?_
  rintro e w1 ⟨rfl, rfl⟩
  go_wp2_with fail
  go_ret
  exact ⟨rfl, rfl⟩

theorem conv_float (w : World) (hw : Wd w) (f x : Int) (hf : ¬ (f < 1 ∨ 10 ≤ f)) (h9 : f ≠ 9) (h0 : 0 ≤ x) (h1 : x < 18446744073709551616) :
    Calls Tryd.prog 12 #[.int .i64 f, .int .i64 9, .int .u64 x] w fun e w' => e = .returned (.int .u64 (FloatKind.f64.nearest (if signedOf f = true then s64 (clipOf f x) else clipOf f x) : Nat)) ∧ w = w' := by
  have hz : (widthOf f == 0) = false := by simp only [beq_eq_false_iff_ne, ne_eq, widthOf_zero]; exact hf
  have hne : (f == (9 : Int)) = false := by simpa using h9
  have hc := clip_any w hw f x h0 h1
  have hcr := clipOf_range (k := f) h0 h1
  generalize clipOf f x = y at *
  have hsw := s64_wrap hcr.1 hcr.2
  have hwd := width_any w hw f
  have hw9 := width_any w hw 9
  rw [show widthOf 9 = 8 from rfl] at hw9
  generalize widthOf f = wf at *
  have hsg := signed_any w f
  have hfb := fun W b => run_bits b W
  cases hs : signedOf f
  · rw [if_neg (by decide)]
    rw [hs] at hsg
    clear hw hf h9 hs hsw
    go_enter Tryd.func12, Tryd.ntmps12
    go_wp2_with fail
    refine hwd.mono ?_
    rintro e w1 ⟨rfl, rfl⟩
    go_wp2_with fail
    refine hw9.mono ?_
    rintro e w1 ⟨rfl, rfl⟩
    go_wp2_with fail
    refine hc.mono ?_
    rintro e w1 ⟨rfl, rfl⟩
    go_wp2_with fail
    refine hsg.mono ?_
    rintro e w1 ⟨rfl, rfl⟩
    go_wp2_with fail
    go_ret
    exact ⟨rfl, rfl⟩
  · rw [if_pos rfl]
    rw [hs] at hsg
    clear hw hf h9 hs
    go_enter Tryd.func12, Tryd.ntmps12
    go_wp2_with fail
    refine hwd.mono ?_
    rintro e w1 ⟨rfl, rfl⟩
    go_wp2_with fail
    refine hw9.mono ?_
    rintro e w1 ⟨rfl, rfl⟩
    go_wp2_with fail
    refine hc.mono ?_
    rintro e w1 ⟨rfl, rfl⟩
    go_wp2_with fail
    refine hsg.mono ?_
    rintro e w1 ⟨rfl, rfl⟩
    go_wp2_with fail
    go_ret
    exact ⟨rfl, rfl⟩
theorem s64_range {x : Int} (h0 : 0 ≤ x) (h1 : x < 18446744073709551616) : -9223372036854775808 ≤ s64 x ∧ s64 x < 9223372036854775808 := by unfold s64; omega
theorem conv_int (w : World) (hw : Wd w) (f t x : Int) (hf : ¬ (f < 1 ∨ 10 ≤ f)) (ht : ¬ (t < 1 ∨ 10 ≤ t)) (hft : f ≠ t) (hf9 : f ≠ 9) (ht9 : t ≠ 9) (h0 : 0 ≤ x) (h1 : x < 18446744073709551616) :
    Calls Tryd.prog 12 #[.int .i64 f, .int .i64 t, .int .u64 x] w fun e w' => e = .returned (.int .u64 (if signedOf f = true ∧ s64 (clipOf f x) < 0 then belowOf t (s64 (clipOf f x)) else aboveOf t (clipOf f x))) ∧ w = w' := by
  have hz : (widthOf f == 0) = false := by simp only [beq_eq_false_iff_ne, ne_eq, widthOf_zero]; exact hf
  have hzt : (widthOf t == 0) = false := by simp only [beq_eq_false_iff_ne, ne_eq, widthOf_zero]; exact ht
  have hne : (f == t) = false := by simpa using hft
  have hne9 : (f == (9 : Int)) = false := by simpa using hf9
  have hnt9 : (t == (9 : Int)) = false := by simpa using ht9
  have hc := clip_any w hw f x h0 h1
  have hcr := clipOf_range (k := f) h0 h1
  generalize clipOf f x = y at *
  have hsw := s64_wrap hcr.1 hcr.2
  have hsr := s64_range hcr.1 hcr.2
  have hbl := below_any w hw t (s64 y) ht hsr.1 hsr.2
  have hab := above_any w hw t y ht
  have hwd := width_any w hw f
  have hwt := width_any w hw t
  generalize widthOf f = wf at *
  generalize widthOf t = wt at *
  have hsg := signed_any w f
  cases hs : signedOf f
  · rw [if_neg (by simp)]
    rw [hs] at hsg
    clear hw hf ht hft hf9 ht9 hs hsw hbl
    generalize aboveOf t y = z at *
    go_enter Tryd.func12, Tryd.ntmps12
    go_wp2_with fail
    refine hwd.mono ?_
    rintro e w1 ⟨rfl, rfl⟩
    go_wp2_with fail
    refine hwt.mono ?_
    rintro e w1 ⟨rfl, rfl⟩
    go_wp2_with fail
    refine hc.mono ?_
    rintro e w1 ⟨rfl, rfl⟩
    go_wp2_with fail
    refine hsg.mono ?_
    rintro e w1 ⟨rfl, rfl⟩
    go_wp2_with fail
    refine hab.mono ?_
    rintro e w1 ⟨rfl, rfl⟩
    go_wp2_with fail
    go_ret
    exact ⟨rfl, rfl⟩
  · rw [hs] at hsg
    by_cases hlt : s64 y < 0
    · rw [if_pos ⟨rfl, hlt⟩]
      clear hw hf ht hft hf9 ht9 hs hab
      generalize belowOf t (s64 y) = z at *
      generalize s64 y = sy at *
      go_enter Tryd.func12, Tryd.ntmps12
      go_wp2_with fail
      refine hwd.mono ?_
      rintro e w1 ⟨rfl, rfl⟩
      go_wp2_with fail
      refine hwt.mono ?_
      rintro e w1 ⟨rfl, rfl⟩
      go_wp2_with fail
      refine hc.mono ?_
      rintro e w1 ⟨rfl, rfl⟩
      go_wp2_with fail
      refine hsg.mono ?_
      rintro e w1 ⟨rfl, rfl⟩
      go_wp2_with fail
      refine hbl.mono ?_
      rintro e w1 ⟨rfl, rfl⟩
      go_wp2_with fail
      go_ret
      exact ⟨rfl, rfl⟩
    · rw [if_neg (fun c => hlt c.2)]
      clear hw hf ht hft hf9 ht9 hs hbl
      generalize aboveOf t y = z at *
      generalize s64 y = sy at *
      go_enter Tryd.func12, Tryd.ntmps12
      go_wp2_with fail
      refine hwd.mono ?_
      rintro e w1 ⟨rfl, rfl⟩
      go_wp2_with fail
      refine hwt.mono ?_
      rintro e w1 ⟨rfl, rfl⟩
      go_wp2_with fail
      refine hc.mono ?_
      rintro e w1 ⟨rfl, rfl⟩
      go_wp2_with fail
      refine hsg.mono ?_
      rintro e w1 ⟨rfl, rfl⟩
      go_wp2_with fail
      refine hab.mono ?_
      rintro e w1 ⟨rfl, rfl⟩
      go_wp2_with fail
      go_ret
      exact ⟨rfl, rfl⟩
theorem conv_out (w : World) (hw : Wd w) (f t x : Int) (h : widthOf f = 0 ∨ widthOf t = 0) :
    Calls Tryd.prog 12 #[.int .i64 f, .int .i64 t, .int .u64 x] w fun e w' => e = .returned (.int .u64 0) ∧ w = w' := by
  have hwd := width_any w hw f
  have hwt := width_any w hw t
  generalize widthOf f = wf at *
  generalize widthOf t = wt at *
  clear hw
  by_cases hz : wf = 0
  · subst hz
    go_enter Tryd.func12, Tryd.ntmps12
    go_wp2_with fail
    refine hwd.mono ?_
    rintro e w1 ⟨rfl, rfl⟩
    go_wp2_with fail
    go_ret
    exact ⟨rfl, rfl⟩
  · obtain rfl : wt = 0 := by omega
    have hz' : (wf == 0) = false := by simpa using hz
    clear hz h
    go_enter Tryd.func12, Tryd.ntmps12
    go_wp2_with fail
    refine hwd.mono ?_
    rintro e w1 ⟨rfl, rfl⟩
    go_wp2_with fail
    refine hwt.mono ?_
    rintro e w1 ⟨rfl, rfl⟩
    go_wp2_with fail
    go_ret
    exact ⟨rfl, rfl⟩
/-- What the model's conversion of a number with a point has where the program asks it. -/
def CutOk (b : Nat) : Prop := (ord64 b fM63 = some .gt → ord64 b fM1 ≠ some .gt → nan64 b = false → ∃ n, floatToIntVal .f64 b .i64 = some n) ∧
  (ord64 b fM1 = some .gt → ord64 b fP1 ≠ some .lt → ord64 b fP64 = some .lt → ∃ n, floatToIntVal .f64 b .u64 = some n)
theorem conv_of (w : World) (hw : Wd w) (f t x : Int) (hok : CutOk (clipOf 9 x).toNat) (h0 : 0 ≤ x) (h1 : x < 18446744073709551616) :
    Calls Tryd.prog 12 #[.int .i64 f, .int .i64 t, .int .u64 x] w fun e w' => e = .returned (.int .u64 (convOf f t x)) ∧ w = w' := by
  unfold convOf
  by_cases hz : widthOf f = 0 ∨ widthOf t = 0
  · rw [if_pos hz]; exact conv_out w hw f t x hz
  · rw [if_neg hz]
    have hf : ¬ (f < 1 ∨ 10 ≤ f) := fun c => hz (.inl (widthOf_zero.2 c))
    have ht : ¬ (t < 1 ∨ 10 ≤ t) := fun c => hz (.inr (widthOf_zero.2 c))
    by_cases hft : f = t
    · rw [if_pos hft]; subst hft; exact conv_same w hw f x hf h0 h1
    · rw [if_neg hft]
      by_cases hf9 : f = 9
      · rw [if_pos hf9]; subst hf9
        exact conv_cut w hw t x ht (Ne.symm hft) h0 h1 (fun W hW => cut_any W hW t _ ht hok.1 hok.2)
      · rw [if_neg hf9]
        by_cases ht9 : t = 9
        · rw [if_pos ht9]; subst ht9; exact conv_float w hw f x hf hf9 h0 h1
        · rw [if_neg ht9]; exact conv_int w hw f t x hf ht hft hf9 ht9 h0 h1
end Go.Proofs.YtlcconooojlhhaaDoor
