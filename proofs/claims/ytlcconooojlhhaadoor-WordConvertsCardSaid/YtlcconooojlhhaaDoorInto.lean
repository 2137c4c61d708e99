/- The document's layer 2: into (the bits of the nearest number). -/
import Derived.Test.YtlcconooojlhhaaDoorRefOrd
import Derived.Test.YtlcconooojlhhaaDoorConvLaw
namespace Go.Proofs.YtlcconooojlhhaaDoor
open Go.RowKit
set_option linter.unusedVariables false

/-- The bits of the nearest number that a kind without a point has, of a sign and an amount. -/
def intoOf (k : Int) (p : Bool × Int) : Int :=
  if signedOf k = true then (if p.1 = true then (18446744073709551616 - min p.2 (mostOf k + 1)) % 18446744073709551616 else min p.2 (mostOf k))
  else if p.1 = true then 0 else min p.2 (mostOf k)
set_option maxHeartbeats 2000000
theorem into_1 (w : World) (m : Bool) (n : Int) (h0 : 0 ≤ n) (h1 : n < 18446744073709551616) (hm : m = true → 0 < n) : Calls Tryd.prog 37 #[.int .i64 1, .agg #[.bool m, .int .u64 n]] w fun e w' => e = .returned (.int .u64 (intoOf 1 (m, n))) ∧ Below w.heap.size w w' := by
  have hns : IntKind.u64.signed = false := rfl
  have hmost : mostOf 1 = 255 := by decide
  cases m
  · by_cases hb : 255 < n
    · rw [show intoOf 1 (false, n) = 255 by rw [intoOf, if_neg (by decide), if_neg Bool.false_ne_true, hmost]; dsimp only; omega]
      clear hmost hm
      go_enter Tryd.func37, Tryd.ntmps37
      go_wp2_with fail
      refine (rwidth_any _ 1).mono ?_
      rintro e w1 ⟨rfl, rfl⟩
      rw [show widthOf 1 = 1 from rfl]
      go_wp2_with fail
      refine (rsigned_any _ 1).mono ?_
      rintro e w1 ⟨rfl, rfl⟩
      rw [show signedOf 1 = false from rfl]
      go_wp2_with fail
      go_ret
      refine ⟨rfl, ?_⟩
      first | exact (Below.refl _ _).alloc (Nat.le_refl _) _ | exact ((Below.refl _ _).alloc (Nat.le_refl _) _).setCell (p := ⟨w.heap.size, 1, none⟩) (Nat.le_refl _) _
    · rw [show intoOf 1 (false, n) = n by rw [intoOf, if_neg (by decide), if_neg Bool.false_ne_true, hmost]; dsimp only; omega]
      clear hmost hm
      go_enter Tryd.func37, Tryd.ntmps37
      go_wp2_with fail
      refine (rwidth_any _ 1).mono ?_
      rintro e w1 ⟨rfl, rfl⟩
      rw [show widthOf 1 = 1 from rfl]
      go_wp2_with fail
      refine (rsigned_any _ 1).mono ?_
      rintro e w1 ⟨rfl, rfl⟩
      rw [show signedOf 1 = false from rfl]
      go_wp2_with fail
      go_ret
      refine ⟨rfl, ?_⟩
      first | exact (Below.refl _ _).alloc (Nat.le_refl _) _ | exact ((Below.refl _ _).alloc (Nat.le_refl _) _).setCell (p := ⟨w.heap.size, 1, none⟩) (Nat.le_refl _) _
  · rw [show intoOf 1 (true, n) = 0 by rw [intoOf, if_neg (by decide), if_pos rfl]]
    clear hmost hm
    go_enter Tryd.func37, Tryd.ntmps37
    go_wp2_with fail
    refine (rwidth_any _ 1).mono ?_
    rintro e w1 ⟨rfl, rfl⟩
    rw [show widthOf 1 = 1 from rfl]
    go_wp2_with fail
    refine (rsigned_any _ 1).mono ?_
    rintro e w1 ⟨rfl, rfl⟩
    rw [show signedOf 1 = false from rfl]
    go_wp2_with fail
    go_ret
    refine ⟨rfl, ?_⟩
    first | exact (Below.refl _ _).alloc (Nat.le_refl _) _ | exact ((Below.refl _ _).alloc (Nat.le_refl _) _).setCell (p := ⟨w.heap.size, 1, none⟩) (Nat.le_refl _) _
theorem into_2 (w : World) (m : Bool) (n : Int) (h0 : 0 ≤ n) (h1 : n < 18446744073709551616) (hm : m = true → 0 < n) : Calls Tryd.prog 37 #[.int .i64 2, .agg #[.bool m, .int .u64 n]] w fun e w' => e = .returned (.int .u64 (intoOf 2 (m, n))) ∧ Below w.heap.size w w' := by
  have hns : IntKind.u64.signed = false := rfl
  have hmost : mostOf 2 = 65535 := by decide
  cases m
  · by_cases hb : 65535 < n
    · rw [show intoOf 2 (false, n) = 65535 by rw [intoOf, if_neg (by decide), if_neg Bool.false_ne_true, hmost]; dsimp only; omega]
      clear hmost hm
      go_enter Tryd.func37, Tryd.ntmps37
      go_wp2_with fail
      refine (rwidth_any _ 2).mono ?_
      rintro e w1 ⟨rfl, rfl⟩
      rw [show widthOf 2 = 2 from rfl]
      go_wp2_with fail
      refine (rsigned_any _ 2).mono ?_
      rintro e w1 ⟨rfl, rfl⟩
      rw [show signedOf 2 = false from rfl]
      go_wp2_with fail
      go_ret
      refine ⟨rfl, ?_⟩
      first | exact (Below.refl _ _).alloc (Nat.le_refl _) _ | exact ((Below.refl _ _).alloc (Nat.le_refl _) _).setCell (p := ⟨w.heap.size, 1, none⟩) (Nat.le_refl _) _
    · rw [show intoOf 2 (false, n) = n by rw [intoOf, if_neg (by decide), if_neg Bool.false_ne_true, hmost]; dsimp only; omega]
      clear hmost hm
      go_enter Tryd.func37, Tryd.ntmps37
      go_wp2_with fail
      refine (rwidth_any _ 2).mono ?_
      rintro e w1 ⟨rfl, rfl⟩
      rw [show widthOf 2 = 2 from rfl]
      go_wp2_with fail
      refine (rsigned_any _ 2).mono ?_
      rintro e w1 ⟨rfl, rfl⟩
      rw [show signedOf 2 = false from rfl]
      go_wp2_with fail
      go_ret
      refine ⟨rfl, ?_⟩
      first | exact (Below.refl _ _).alloc (Nat.le_refl _) _ | exact ((Below.refl _ _).alloc (Nat.le_refl _) _).setCell (p := ⟨w.heap.size, 1, none⟩) (Nat.le_refl _) _
  · rw [show intoOf 2 (true, n) = 0 by rw [intoOf, if_neg (by decide), if_pos rfl]]
    clear hmost hm
    go_enter Tryd.func37, Tryd.ntmps37
    go_wp2_with fail
    refine (rwidth_any _ 2).mono ?_
    rintro e w1 ⟨rfl, rfl⟩
    rw [show widthOf 2 = 2 from rfl]
    go_wp2_with fail
    refine (rsigned_any _ 2).mono ?_
    rintro e w1 ⟨rfl, rfl⟩
    rw [show signedOf 2 = false from rfl]
    go_wp2_with fail
    go_ret
    refine ⟨rfl, ?_⟩
    first | exact (Below.refl _ _).alloc (Nat.le_refl _) _ | exact ((Below.refl _ _).alloc (Nat.le_refl _) _).setCell (p := ⟨w.heap.size, 1, none⟩) (Nat.le_refl _) _
theorem into_3 (w : World) (m : Bool) (n : Int) (h0 : 0 ≤ n) (h1 : n < 18446744073709551616) (hm : m = true → 0 < n) : Calls Tryd.prog 37 #[.int .i64 3, .agg #[.bool m, .int .u64 n]] w fun e w' => e = .returned (.int .u64 (intoOf 3 (m, n))) ∧ Below w.heap.size w w' := by
  have hns : IntKind.u64.signed = false := rfl
  have hmost : mostOf 3 = 4294967295 := by decide
  cases m
  · by_cases hb : 4294967295 < n
    · rw [show intoOf 3 (false, n) = 4294967295 by rw [intoOf, if_neg (by decide), if_neg Bool.false_ne_true, hmost]; dsimp only; omega]
      clear hmost hm
      go_enter Tryd.func37, Tryd.ntmps37
      go_wp2_with fail
      refine (rwidth_any _ 3).mono ?_
      rintro e w1 ⟨rfl, rfl⟩
      rw [show widthOf 3 = 4 from rfl]
      go_wp2_with fail
      refine (rsigned_any _ 3).mono ?_
      rintro e w1 ⟨rfl, rfl⟩
      rw [show signedOf 3 = false from rfl]
      go_wp2_with fail
      go_ret
      refine ⟨rfl, ?_⟩
      first | exact (Below.refl _ _).alloc (Nat.le_refl _) _ | exact ((Below.refl _ _).alloc (Nat.le_refl _) _).setCell (p := ⟨w.heap.size, 1, none⟩) (Nat.le_refl _) _
    · rw [show intoOf 3 (false, n) = n by rw [intoOf, if_neg (by decide), if_neg Bool.false_ne_true, hmost]; dsimp only; omega]
      clear hmost hm
      go_enter Tryd.func37, Tryd.ntmps37
      go_wp2_with fail
      refine (rwidth_any _ 3).mono ?_
      rintro e w1 ⟨rfl, rfl⟩
      rw [show widthOf 3 = 4 from rfl]
      go_wp2_with fail
      refine (rsigned_any _ 3).mono ?_
      rintro e w1 ⟨rfl, rfl⟩
      rw [show signedOf 3 = false from rfl]
      go_wp2_with fail
      go_ret
      refine ⟨rfl, ?_⟩
      first | exact (Below.refl _ _).alloc (Nat.le_refl _) _ | exact ((Below.refl _ _).alloc (Nat.le_refl _) _).setCell (p := ⟨w.heap.size, 1, none⟩) (Nat.le_refl _) _
  · rw [show intoOf 3 (true, n) = 0 by rw [intoOf, if_neg (by decide), if_pos rfl]]
    clear hmost hm
    go_enter Tryd.func37, Tryd.ntmps37
    go_wp2_with fail
    refine (rwidth_any _ 3).mono ?_
    rintro e w1 ⟨rfl, rfl⟩
    rw [show widthOf 3 = 4 from rfl]
    go_wp2_with fail
    refine (rsigned_any _ 3).mono ?_
    rintro e w1 ⟨rfl, rfl⟩
    rw [show signedOf 3 = false from rfl]
    go_wp2_with fail
    go_ret
    refine ⟨rfl, ?_⟩
    first | exact (Below.refl _ _).alloc (Nat.le_refl _) _ | exact ((Below.refl _ _).alloc (Nat.le_refl _) _).setCell (p := ⟨w.heap.size, 1, none⟩) (Nat.le_refl _) _
theorem into_4 (w : World) (m : Bool) (n : Int) (h0 : 0 ≤ n) (h1 : n < 18446744073709551616) (hm : m = true → 0 < n) : Calls Tryd.prog 37 #[.int .i64 4, .agg #[.bool m, .int .u64 n]] w fun e w' => e = .returned (.int .u64 (intoOf 4 (m, n))) ∧ Below w.heap.size w w' := by
  have hns : IntKind.u64.signed = false := rfl
  have hmost : mostOf 4 = 18446744073709551615 := by decide
  cases m
  · by_cases hb : 18446744073709551615 < n
    · exact absurd hb (by omega)
    · rw [show intoOf 4 (false, n) = n by rw [intoOf, if_neg (by decide), if_neg Bool.false_ne_true, hmost]; dsimp only; omega]
      clear hmost hm
      go_enter Tryd.func37, Tryd.ntmps37
      go_wp2_with fail
      refine (rwidth_any _ 4).mono ?_
      rintro e w1 ⟨rfl, rfl⟩
      rw [show widthOf 4 = 8 from rfl]
      go_wp2_with fail
      refine (rsigned_any _ 4).mono ?_
      rintro e w1 ⟨rfl, rfl⟩
      rw [show signedOf 4 = false from rfl]
      go_wp2_with fail
      go_ret
      refine ⟨rfl, ?_⟩
      first | exact (Below.refl _ _).alloc (Nat.le_refl _) _ | exact ((Below.refl _ _).alloc (Nat.le_refl _) _).setCell (p := ⟨w.heap.size, 1, none⟩) (Nat.le_refl _) _
  · rw [show intoOf 4 (true, n) = 0 by rw [intoOf, if_neg (by decide), if_pos rfl]]
    clear hmost hm
    go_enter Tryd.func37, Tryd.ntmps37
    go_wp2_with fail
    refine (rwidth_any _ 4).mono ?_
    rintro e w1 ⟨rfl, rfl⟩
    rw [show widthOf 4 = 8 from rfl]
    go_wp2_with fail
    refine (rsigned_any _ 4).mono ?_
    rintro e w1 ⟨rfl, rfl⟩
    rw [show signedOf 4 = false from rfl]
    go_wp2_with fail
    go_ret
    refine ⟨rfl, ?_⟩
    first | exact (Below.refl _ _).alloc (Nat.le_refl _) _ | exact ((Below.refl _ _).alloc (Nat.le_refl _) _).setCell (p := ⟨w.heap.size, 1, none⟩) (Nat.le_refl _) _
theorem into_5 (w : World) (m : Bool) (n : Int) (h0 : 0 ≤ n) (h1 : n < 18446744073709551616) (hm : m = true → 0 < n) : Calls Tryd.prog 37 #[.int .i64 5, .agg #[.bool m, .int .u64 n]] w fun e w' => e = .returned (.int .u64 (intoOf 5 (m, n))) ∧ Below w.heap.size w w' := by
  have hns : IntKind.u64.signed = false := rfl
  have hmost : mostOf 5 = 127 := by decide
  cases m
  · by_cases hb : 127 < n
    · rw [show intoOf 5 (false, n) = 127 by rw [intoOf, if_pos (show signedOf 5 = true from rfl), if_neg Bool.false_ne_true, hmost]; dsimp only; omega]
      clear hmost hm
      go_enter Tryd.func37, Tryd.ntmps37
      go_wp2_with fail
      refine (rwidth_any _ 5).mono ?_
      rintro e w1 ⟨rfl, rfl⟩
      rw [show widthOf 5 = 1 from rfl]
      go_wp2_with fail
      refine (rsigned_any _ 5).mono ?_
      rintro e w1 ⟨rfl, rfl⟩
      rw [show signedOf 5 = true from rfl]
      go_wp2_with fail
      go_ret
      refine ⟨rfl, ?_⟩
      first | exact (Below.refl _ _).alloc (Nat.le_refl _) _ | exact ((Below.refl _ _).alloc (Nat.le_refl _) _).setCell (p := ⟨w.heap.size, 1, none⟩) (Nat.le_refl _) _
    · rw [show intoOf 5 (false, n) = n by rw [intoOf, if_pos (show signedOf 5 = true from rfl), if_neg Bool.false_ne_true, hmost]; dsimp only; omega]
      clear hmost hm
      go_enter Tryd.func37, Tryd.ntmps37
      go_wp2_with fail
      refine (rwidth_any _ 5).mono ?_
      rintro e w1 ⟨rfl, rfl⟩
      rw [show widthOf 5 = 1 from rfl]
      go_wp2_with fail
      refine (rsigned_any _ 5).mono ?_
      rintro e w1 ⟨rfl, rfl⟩
      rw [show signedOf 5 = true from rfl]
      go_wp2_with fail
      go_ret
      refine ⟨rfl, ?_⟩
      first | exact (Below.refl _ _).alloc (Nat.le_refl _) _ | exact ((Below.refl _ _).alloc (Nat.le_refl _) _).setCell (p := ⟨w.heap.size, 1, none⟩) (Nat.le_refl _) _
  · have hn := hm rfl
    by_cases hb : 128 < n
    · have hxor : bits BinOp.xor IntKind.u64 IntKind.u64.max 128 = 18446744073709551487 := by rw [xor_maxR 128 (by omega) (by omega)]; rfl
      have hwr : IntKind.u64.wrap (18446744073709551487 + 1) = 18446744073709551488 := by rw [IntKind.wrap_u64]; rfl
      rw [show intoOf 5 (true, n) = 18446744073709551488 by rw [intoOf, if_pos (show signedOf 5 = true from rfl), if_pos rfl, hmost]; dsimp only; omega]
      clear hmost hm
      go_enter Tryd.func37, Tryd.ntmps37
      go_wp2_with fail
      refine (rwidth_any _ 5).mono ?_
      rintro e w1 ⟨rfl, rfl⟩
      rw [show widthOf 5 = 1 from rfl]
      go_wp2_with fail
      refine (rsigned_any _ 5).mono ?_
      rintro e w1 ⟨rfl, rfl⟩
      rw [show signedOf 5 = true from rfl]
      go_wp2_with fail
      go_ret
      refine ⟨rfl, ?_⟩
      first | exact (Below.refl _ _).alloc (Nat.le_refl _) _ | exact ((Below.refl _ _).alloc (Nat.le_refl _) _).setCell (p := ⟨w.heap.size, 1, none⟩) (Nat.le_refl _) _
    · have hxor := xor_maxR n h0 h1
      have hwr : IntKind.u64.wrap (18446744073709551615 - n + 1) = 18446744073709551616 - n := by rw [IntKind.wrap_u64]; omega
      rw [show intoOf 5 (true, n) = 18446744073709551616 - n by rw [intoOf, if_pos (show signedOf 5 = true from rfl), if_pos rfl, hmost]; dsimp only; omega]
      clear hmost hm
      go_enter Tryd.func37, Tryd.ntmps37
      go_wp2_with fail
      refine (rwidth_any _ 5).mono ?_
      rintro e w1 ⟨rfl, rfl⟩
      rw [show widthOf 5 = 1 from rfl]
      go_wp2_with fail
      refine (rsigned_any _ 5).mono ?_
      rintro e w1 ⟨rfl, rfl⟩
      rw [show signedOf 5 = true from rfl]
      go_wp2_with fail
      go_ret
      refine ⟨rfl, ?_⟩
      first | exact (Below.refl _ _).alloc (Nat.le_refl _) _ | exact ((Below.refl _ _).alloc (Nat.le_refl _) _).setCell (p := ⟨w.heap.size, 1, none⟩) (Nat.le_refl _) _
theorem into_6 (w : World) (m : Bool) (n : Int) (h0 : 0 ≤ n) (h1 : n < 18446744073709551616) (hm : m = true → 0 < n) : Calls Tryd.prog 37 #[.int .i64 6, .agg #[.bool m, .int .u64 n]] w fun e w' => e = .returned (.int .u64 (intoOf 6 (m, n))) ∧ Below w.heap.size w w' := by
  have hns : IntKind.u64.signed = false := rfl
  have hmost : mostOf 6 = 32767 := by decide
  cases m
  · by_cases hb : 32767 < n
    · rw [show intoOf 6 (false, n) = 32767 by rw [intoOf, if_pos (show signedOf 6 = true from rfl), if_neg Bool.false_ne_true, hmost]; dsimp only; omega]
      clear hmost hm
      go_enter Tryd.func37, Tryd.ntmps37
      go_wp2_with fail
      refine (rwidth_any _ 6).mono ?_
      rintro e w1 ⟨rfl, rfl⟩
      rw [show widthOf 6 = 2 from rfl]
      go_wp2_with fail
      refine (rsigned_any _ 6).mono ?_
      rintro e w1 ⟨rfl, rfl⟩
      rw [show signedOf 6 = true from rfl]
      go_wp2_with fail
      go_ret
      refine ⟨rfl, ?_⟩
      first | exact (Below.refl _ _).alloc (Nat.le_refl _) _ | exact ((Below.refl _ _).alloc (Nat.le_refl _) _).setCell (p := ⟨w.heap.size, 1, none⟩) (Nat.le_refl _) _
    · rw [show intoOf 6 (false, n) = n by rw [intoOf, if_pos (show signedOf 6 = true from rfl), if_neg Bool.false_ne_true, hmost]; dsimp only; omega]
      clear hmost hm
      go_enter Tryd.func37, Tryd.ntmps37
      go_wp2_with fail
      refine (rwidth_any _ 6).mono ?_
      rintro e w1 ⟨rfl, rfl⟩
      rw [show widthOf 6 = 2 from rfl]
      go_wp2_with fail
      refine (rsigned_any _ 6).mono ?_
      rintro e w1 ⟨rfl, rfl⟩
      rw [show signedOf 6 = true from rfl]
      go_wp2_with fail
      go_ret
      refine ⟨rfl, ?_⟩
      first | exact (Below.refl _ _).alloc (Nat.le_refl _) _ | exact ((Below.refl _ _).alloc (Nat.le_refl _) _).setCell (p := ⟨w.heap.size, 1, none⟩) (Nat.le_refl _) _
  · have hn := hm rfl
    by_cases hb : 32768 < n
    · have hxor : bits BinOp.xor IntKind.u64 IntKind.u64.max 32768 = 18446744073709518847 := by rw [xor_maxR 32768 (by omega) (by omega)]; rfl
      have hwr : IntKind.u64.wrap (18446744073709518847 + 1) = 18446744073709518848 := by rw [IntKind.wrap_u64]; rfl
      rw [show intoOf 6 (true, n) = 18446744073709518848 by rw [intoOf, if_pos (show signedOf 6 = true from rfl), if_pos rfl, hmost]; dsimp only; omega]
      clear hmost hm
      go_enter Tryd.func37, Tryd.ntmps37
      go_wp2_with fail
      refine (rwidth_any _ 6).mono ?_
      rintro e w1 ⟨rfl, rfl⟩
      rw [show widthOf 6 = 2 from rfl]
      go_wp2_with fail
      refine (rsigned_any _ 6).mono ?_
      rintro e w1 ⟨rfl, rfl⟩
      rw [show signedOf 6 = true from rfl]
      go_wp2_with fail
      go_ret
      refine ⟨rfl, ?_⟩
      first | exact (Below.refl _ _).alloc (Nat.le_refl _) _ | exact ((Below.refl _ _).alloc (Nat.le_refl _) _).setCell (p := ⟨w.heap.size, 1, none⟩) (Nat.le_refl _) _
    · have hxor := xor_maxR n h0 h1
      have hwr : IntKind.u64.wrap (18446744073709551615 - n + 1) = 18446744073709551616 - n := by rw [IntKind.wrap_u64]; omega
      rw [show intoOf 6 (true, n) = 18446744073709551616 - n by rw [intoOf, if_pos (show signedOf 6 = true from rfl), if_pos rfl, hmost]; dsimp only; omega]
      clear hmost hm
      go_enter Tryd.func37, Tryd.ntmps37
      go_wp2_with fail
      refine (rwidth_any _ 6).mono ?_
      rintro e w1 ⟨rfl, rfl⟩
      rw [show widthOf 6 = 2 from rfl]
      go_wp2_with fail
      refine (rsigned_any _ 6).mono ?_
      rintro e w1 ⟨rfl, rfl⟩
      rw [show signedOf 6 = true from rfl]
      go_wp2_with fail
      go_ret
      refine ⟨rfl, ?_⟩
      first | exact (Below.refl _ _).alloc (Nat.le_refl _) _ | exact ((Below.refl _ _).alloc (Nat.le_refl _) _).setCell (p := ⟨w.heap.size, 1, none⟩) (Nat.le_refl _) _
theorem into_7 (w : World) (m : Bool) (n : Int) (h0 : 0 ≤ n) (h1 : n < 18446744073709551616) (hm : m = true → 0 < n) : Calls Tryd.prog 37 #[.int .i64 7, .agg #[.bool m, .int .u64 n]] w fun e w' => e = .returned (.int .u64 (intoOf 7 (m, n))) ∧ Below w.heap.size w w' := by
  have hns : IntKind.u64.signed = false := rfl
  have hmost : mostOf 7 = 2147483647 := by decide
  cases m
  · by_cases hb : 2147483647 < n
    · rw [show intoOf 7 (false, n) = 2147483647 by rw [intoOf, if_pos (show signedOf 7 = true from rfl), if_neg Bool.false_ne_true, hmost]; dsimp only; omega]
      clear hmost hm
      go_enter Tryd.func37, Tryd.ntmps37
      go_wp2_with fail
      refine (rwidth_any _ 7).mono ?_
      rintro e w1 ⟨rfl, rfl⟩
      rw [show widthOf 7 = 4 from rfl]
      go_wp2_with fail
      refine (rsigned_any _ 7).mono ?_
      rintro e w1 ⟨rfl, rfl⟩
      rw [show signedOf 7 = true from rfl]
      go_wp2_with fail
      go_ret
      refine ⟨rfl, ?_⟩
      first | exact (Below.refl _ _).alloc (Nat.le_refl _) _ | exact ((Below.refl _ _).alloc (Nat.le_refl _) _).setCell (p := ⟨w.heap.size, 1, none⟩) (Nat.le_refl _) _
    · rw [show intoOf 7 (false, n) = n by rw [intoOf, if_pos (show signedOf 7 = true from rfl), if_neg Bool.false_ne_true, hmost]; dsimp only; omega]
      clear hmost hm
      go_enter Tryd.func37, Tryd.ntmps37
      go_wp2_with fail
      refine (rwidth_any _ 7).mono ?_
      rintro e w1 ⟨rfl, rfl⟩
      rw [show widthOf 7 = 4 from rfl]
      go_wp2_with fail
      refine (rsigned_any _ 7).mono ?_
      rintro e w1 ⟨rfl, rfl⟩
      rw [show signedOf 7 = true from rfl]
      go_wp2_with fail
      go_ret
      refine ⟨rfl, ?_⟩
      first | exact (Below.refl _ _).alloc (Nat.le_refl _) _ | exact ((Below.refl _ _).alloc (Nat.le_refl _) _).setCell (p := ⟨w.heap.size, 1, none⟩) (Nat.le_refl _) _
  · have hn := hm rfl
    by_cases hb : 2147483648 < n
    · have hxor : bits BinOp.xor IntKind.u64 IntKind.u64.max 2147483648 = 18446744071562067967 := by rw [xor_maxR 2147483648 (by omega) (by omega)]; rfl
      have hwr : IntKind.u64.wrap (18446744071562067967 + 1) = 18446744071562067968 := by rw [IntKind.wrap_u64]; rfl
      rw [show intoOf 7 (true, n) = 18446744071562067968 by rw [intoOf, if_pos (show signedOf 7 = true from rfl), if_pos rfl, hmost]; dsimp only; omega]
      clear hmost hm
      go_enter Tryd.func37, Tryd.ntmps37
      go_wp2_with fail
      refine (rwidth_any _ 7).mono ?_
      rintro e w1 ⟨rfl, rfl⟩
      rw [show widthOf 7 = 4 from rfl]
      go_wp2_with fail
      refine (rsigned_any _ 7).mono ?_
      rintro e w1 ⟨rfl, rfl⟩
      rw [show signedOf 7 = true from rfl]
      go_wp2_with fail
      go_ret
      refine ⟨rfl, ?_⟩
      first | exact (Below.refl _ _).alloc (Nat.le_refl _) _ | exact ((Below.refl _ _).alloc (Nat.le_refl _) _).setCell (p := ⟨w.heap.size, 1, none⟩) (Nat.le_refl _) _
    · have hxor := xor_maxR n h0 h1
      have hwr : IntKind.u64.wrap (18446744073709551615 - n + 1) = 18446744073709551616 - n := by rw [IntKind.wrap_u64]; omega
      rw [show intoOf 7 (true, n) = 18446744073709551616 - n by rw [intoOf, if_pos (show signedOf 7 = true from rfl), if_pos rfl, hmost]; dsimp only; omega]
      clear hmost hm
      go_enter Tryd.func37, Tryd.ntmps37
      go_wp2_with fail
      refine (rwidth_any _ 7).mono ?_
      rintro e w1 ⟨rfl, rfl⟩
      rw [show widthOf 7 = 4 from rfl]
      go_wp2_with fail
      refine (rsigned_any _ 7).mono ?_
      rintro e w1 ⟨rfl, rfl⟩
      rw [show signedOf 7 = true from rfl]
      go_wp2_with fail
      go_ret
      refine ⟨rfl, ?_⟩
      first | exact (Below.refl _ _).alloc (Nat.le_refl _) _ | exact ((Below.refl _ _).alloc (Nat.le_refl _) _).setCell (p := ⟨w.heap.size, 1, none⟩) (Nat.le_refl _) _
theorem into_8 (w : World) (m : Bool) (n : Int) (h0 : 0 ≤ n) (h1 : n < 18446744073709551616) (hm : m = true → 0 < n) : Calls Tryd.prog 37 #[.int .i64 8, .agg #[.bool m, .int .u64 n]] w fun e w' => e = .returned (.int .u64 (intoOf 8 (m, n))) ∧ Below w.heap.size w w' := by
  have hns : IntKind.u64.signed = false := rfl
  have hmost : mostOf 8 = 9223372036854775807 := by decide
  cases m
  · by_cases hb : 9223372036854775807 < n
    · rw [show intoOf 8 (false, n) = 9223372036854775807 by rw [intoOf, if_pos (show signedOf 8 = true from rfl), if_neg Bool.false_ne_true, hmost]; dsimp only; omega]
      clear hmost hm
      go_enter Tryd.func37, Tryd.ntmps37
      go_wp2_with fail
      refine (rwidth_any _ 8).mono ?_
      rintro e w1 ⟨rfl, rfl⟩
      rw [show widthOf 8 = 8 from rfl]
      go_wp2_with fail
      refine (rsigned_any _ 8).mono ?_
      rintro e w1 ⟨rfl, rfl⟩
      rw [show signedOf 8 = true from rfl]
      go_wp2_with fail
      go_ret
      refine ⟨rfl, ?_⟩
      first | exact (Below.refl _ _).alloc (Nat.le_refl _) _ | exact ((Below.refl _ _).alloc (Nat.le_refl _) _).setCell (p := ⟨w.heap.size, 1, none⟩) (Nat.le_refl _) _
    · rw [show intoOf 8 (false, n) = n by rw [intoOf, if_pos (show signedOf 8 = true from rfl), if_neg Bool.false_ne_true, hmost]; dsimp only; omega]
      clear hmost hm
      go_enter Tryd.func37, Tryd.ntmps37
      go_wp2_with fail
      refine (rwidth_any _ 8).mono ?_
      rintro e w1 ⟨rfl, rfl⟩
      rw [show widthOf 8 = 8 from rfl]
      go_wp2_with fail
      refine (rsigned_any _ 8).mono ?_
      rintro e w1 ⟨rfl, rfl⟩
      rw [show signedOf 8 = true from rfl]
      go_wp2_with fail
      go_ret
      refine ⟨rfl, ?_⟩
      first | exact (Below.refl _ _).alloc (Nat.le_refl _) _ | exact ((Below.refl _ _).alloc (Nat.le_refl _) _).setCell (p := ⟨w.heap.size, 1, none⟩) (Nat.le_refl _) _
  · have hn := hm rfl
    by_cases hb : 9223372036854775808 < n
    · have hxor : bits BinOp.xor IntKind.u64 IntKind.u64.max 9223372036854775808 = 9223372036854775807 := by rw [xor_maxR 9223372036854775808 (by omega) (by omega)]; rfl
      have hwr : IntKind.u64.wrap (9223372036854775807 + 1) = 9223372036854775808 := by rw [IntKind.wrap_u64]; rfl
      rw [show intoOf 8 (true, n) = 9223372036854775808 by rw [intoOf, if_pos (show signedOf 8 = true from rfl), if_pos rfl, hmost]; dsimp only; omega]
      clear hmost hm
      go_enter Tryd.func37, Tryd.ntmps37
      go_wp2_with fail
      refine (rwidth_any _ 8).mono ?_
      rintro e w1 ⟨rfl, rfl⟩
      rw [show widthOf 8 = 8 from rfl]
      go_wp2_with fail
      refine (rsigned_any _ 8).mono ?_
      rintro e w1 ⟨rfl, rfl⟩
      rw [show signedOf 8 = true from rfl]
      go_wp2_with fail
      go_ret
      refine ⟨rfl, ?_⟩
      first | exact (Below.refl _ _).alloc (Nat.le_refl _) _ | exact ((Below.refl _ _).alloc (Nat.le_refl _) _).setCell (p := ⟨w.heap.size, 1, none⟩) (Nat.le_refl _) _
    · have hxor := xor_maxR n h0 h1
      have hwr : IntKind.u64.wrap (18446744073709551615 - n + 1) = 18446744073709551616 - n := by rw [IntKind.wrap_u64]; omega
      rw [show intoOf 8 (true, n) = 18446744073709551616 - n by rw [intoOf, if_pos (show signedOf 8 = true from rfl), if_pos rfl, hmost]; dsimp only; omega]
      clear hmost hm
      go_enter Tryd.func37, Tryd.ntmps37
      go_wp2_with fail
      refine (rwidth_any _ 8).mono ?_
      rintro e w1 ⟨rfl, rfl⟩
      rw [show widthOf 8 = 8 from rfl]
      go_wp2_with fail
      refine (rsigned_any _ 8).mono ?_
      rintro e w1 ⟨rfl, rfl⟩
      rw [show signedOf 8 = true from rfl]
      go_wp2_with fail
      go_ret
      refine ⟨rfl, ?_⟩
      first | exact (Below.refl _ _).alloc (Nat.le_refl _) _ | exact ((Below.refl _ _).alloc (Nat.le_refl _) _).setCell (p := ⟨w.heap.size, 1, none⟩) (Nat.le_refl _) _
theorem into_any (w : World) (k : Int) (m : Bool) (n : Int) (hk : 1 ≤ k ∧ k ≤ 8) (h0 : 0 ≤ n) (h1 : n < 18446744073709551616) (hm : m = true → 0 < n) : Calls Tryd.prog 37 #[.int .i64 k, .agg #[.bool m, .int .u64 n]] w fun e w' => e = .returned (.int .u64 (intoOf k (m, n))) ∧ Below w.heap.size w w' := by
  have h8 : k = 1 ∨ k = 2 ∨ k = 3 ∨ k = 4 ∨ k = 5 ∨ k = 6 ∨ k = 7 ∨ k = 8 := by omega
  rcases h8 with rfl | rfl | rfl | rfl | rfl | rfl | rfl | rfl
  · exact into_1 w m n h0 h1 hm
  · exact into_2 w m n h0 h1 hm
  · exact into_3 w m n h0 h1 hm
  · exact into_4 w m n h0 h1 hm
  · exact into_5 w m n h0 h1 hm
  · exact into_6 w m n h0 h1 hm
  · exact into_7 w m n h0 h1 hm
  · exact into_8 w m n h0 h1 hm
end Go.Proofs.YtlcconooojlhhaaDoor
