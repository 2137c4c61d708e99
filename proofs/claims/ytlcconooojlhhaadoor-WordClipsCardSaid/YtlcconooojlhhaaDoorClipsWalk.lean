/- The Go text of flyleaflaw02.WordClips returns true and writes nothing that was there. -/
import Derived.Test.YtlcconooojlhhaaDoorClipsLaw
namespace Go.Proofs.YtlcconooojlhhaaDoor
open Go.RowKit
set_option linter.unusedVariables false
theorem tmod9 (k0 : Int) : -9 < k0.tmod 9 ∧ k0.tmod 9 < 9 := by
  have := Int.natAbs_tmod k0 9
  have := Nat.mod_lt k0.natAbs (show 0 < (9 : Int).natAbs by decide)
  omega
set_option maxRecDepth 100000 in
set_option maxHeartbeats 8000000 in
theorem clips_walk (w : World) (hw : Wd w) (k0 : Int) (hk0 : (Lit.int IntKind.i64 k0).wf = true) (b : Int) (h0 : 0 ≤ b) (h1 : b < 18446744073709551616) :
    Calls Tryd.prog 6 #[.int .i64 k0, .int .u64 b] w fun e w' => e = .returned (.bool true) ∧ Below w.heap.size w w' := by
  have HW := Lib.hid hw
  clear hw
  obtain ⟨r, hr, hr0, hr1⟩ : ∃ r, k0.tmod 9 = r ∧ -9 < r ∧ r < 9 := ⟨_, rfl, (tmod9 k0).1, (tmod9 k0).2⟩
  go_enter Tryd.func6, Tryd.ntmps6
  go_wp2_with fail
  refine (awake02 _ HW.out).mono ?_
  rintro e w1 ⟨rfl, rfl⟩
  go_wp2_with fail
  have hk9 : ¬ (1 + r % 9 < 1 ∨ 10 ≤ 1 + r % 9) := by omega
  generalize 1 + r % 9 = k at *
  have h9 := nine hk9
  clear hk9
  rcases h9 with rfl | rfl | rfl | rfl | rfl | rfl | rfl | rfl | rfl
  · have hxr := clipOf_range (k := 1) h0 h1
    obtain ⟨hle, htb, hcm⟩ := clips_1 b h0 h1
    have hcc := clip_clip (k := 1) h0 h1
    have hcl := clip_any w HW.out 1 b h0 h1
    have hcl2 := clip_any w HW.out 1 (clipOf 1 b) hxr.1 hxr.2
    rw [hcc] at hcl2
    have hcp := fun W hW => compare_any W hW 1 (clipOf 1 b) 0 hxr.1 hxr.2 (by omega) (by omega)
    rw [hcc, clip_0] at hcp
    have hb1 := fun W hW => bytes_any W hW 1 (clipOf 1 b) hxr.1 hxr.2
    have hb2 := fun W hW => bytes_any W hW 1 b h0 h1
    rw [show (widthOf 1).toNat = 1 from rfl] at hb1 hb2
    rw [hle] at hb1
    have hsz : (leS b 1).size = 1 := leS_size b 1
    generalize leS b 1 = sv at *
    generalize clipOf 1 b = x at *
    generalize htbe : bits BinOp.and IntKind.u64 (b / 128) 1 = tb at *
    generalize cmpC 1 x 0 = c at *
    have HSZ := Lib.hid hsz
    clear hle hcc hsz
    refine (width_any _ HW.out 1).mono ?_
    rintro e w1 ⟨rfl, rfl⟩
    rw [show widthOf 1 = 1 from rfl]
    go_wp2_with fail
    refine hcl.mono ?_
    rintro e w1 ⟨rfl, rfl⟩
    go_wp2_with fail
    refine (signed_any _ 1).mono ?_
    rintro e w1 ⟨rfl, rfl⟩
    rw [show signedOf 1 = false from rfl]
    have HCM := Lib.hid hcm
    clear hcm
    rcases htb with htb | htb
    all_goals
      subst htb
      go_wp2_with fail
      refine hcl2.mono ?_
      rintro e w1 ⟨rfl, rfl⟩
      go_wp2_with fail
      refine (hb1 _ HW.out).mono ?_
      rintro e w2 ⟨rfl, q2⟩
      have HW2 := Lib.hid (HW.out.below q2 (Nat.le_refl _))
      have z2 := q2.size
      go_wp2_with fail
      refine (hb2 _ HW2.out).mono ?_
      rintro e w3 ⟨rfl, q3⟩
      have HW3 := Lib.hid (HW2.out.below q3 (Nat.le_refl _))
      have q3 := q2.trans (q3.mono z2)
      have z3 := q3.size
      go_wp2_with fail
      refine (hb1 _ HW3.out).mono ?_
      rintro e w4 ⟨rfl, q4⟩
      have HW4 := Lib.hid (HW3.out.below q4 (Nat.le_refl _))
      have q4 := q3.trans (q4.mono z3)
      have hs4 := HSZ.out
      go_wp2_with fail
      refine (hcp _ HW4.out).mono ?_
      rintro e w5 ⟨rfl, rfl⟩
      first
        | (have hd : decide (c < 0) = false := by (have hz := HCM.out; try simp at hz); simp only [decide_eq_false_iff_not]; omega)
        | (have hd : decide (c < 0) = true := by (have hz := HCM.out; try simp at hz); simp only [decide_eq_true_eq]; omega)
      go_wp2_with fail
      go_ret
      exact ⟨rfl, q4⟩
  · have hxr := clipOf_range (k := 2) h0 h1
    obtain ⟨hle, htb, hcm⟩ := clips_2 b h0 h1
    have hcc := clip_clip (k := 2) h0 h1
    have hcl := clip_any w HW.out 2 b h0 h1
    have hcl2 := clip_any w HW.out 2 (clipOf 2 b) hxr.1 hxr.2
    rw [hcc] at hcl2
    have hcp := fun W hW => compare_any W hW 2 (clipOf 2 b) 0 hxr.1 hxr.2 (by omega) (by omega)
    rw [hcc, clip_0] at hcp
    have hb1 := fun W hW => bytes_any W hW 2 (clipOf 2 b) hxr.1 hxr.2
    have hb2 := fun W hW => bytes_any W hW 2 b h0 h1
    rw [show (widthOf 2).toNat = 2 from rfl] at hb1 hb2
    rw [hle] at hb1
    have hsz : (leS b 2).size = 2 := leS_size b 2
    generalize leS b 2 = sv at *
    generalize clipOf 2 b = x at *
    generalize htbe : bits BinOp.and IntKind.u64 (b / 32768) 1 = tb at *
    generalize cmpC 2 x 0 = c at *
    have HSZ := Lib.hid hsz
    clear hle hcc hsz
    refine (width_any _ HW.out 2).mono ?_
    rintro e w1 ⟨rfl, rfl⟩
    rw [show widthOf 2 = 2 from rfl]
    go_wp2_with fail
    refine hcl.mono ?_
    rintro e w1 ⟨rfl, rfl⟩
    go_wp2_with fail
    refine (signed_any _ 2).mono ?_
    rintro e w1 ⟨rfl, rfl⟩
    rw [show signedOf 2 = false from rfl]
    have HCM := Lib.hid hcm
    clear hcm
    rcases htb with htb | htb
    all_goals
      subst htb
      go_wp2_with fail
      refine hcl2.mono ?_
      rintro e w1 ⟨rfl, rfl⟩
      go_wp2_with fail
      refine (hb1 _ HW.out).mono ?_
      rintro e w2 ⟨rfl, q2⟩
      have HW2 := Lib.hid (HW.out.below q2 (Nat.le_refl _))
      have z2 := q2.size
      go_wp2_with fail
      refine (hb2 _ HW2.out).mono ?_
      rintro e w3 ⟨rfl, q3⟩
      have HW3 := Lib.hid (HW2.out.below q3 (Nat.le_refl _))
      have q3 := q2.trans (q3.mono z2)
      have z3 := q3.size
      go_wp2_with fail
      refine (hb1 _ HW3.out).mono ?_
      rintro e w4 ⟨rfl, q4⟩
      have HW4 := Lib.hid (HW3.out.below q4 (Nat.le_refl _))
      have q4 := q3.trans (q4.mono z3)
      have hs4 := HSZ.out
      go_wp2_with fail
      refine (hcp _ HW4.out).mono ?_
      rintro e w5 ⟨rfl, rfl⟩
      first
        | (have hd : decide (c < 0) = false := by (have hz := HCM.out; try simp at hz); simp only [decide_eq_false_iff_not]; omega)
        | (have hd : decide (c < 0) = true := by (have hz := HCM.out; try simp at hz); simp only [decide_eq_true_eq]; omega)
      go_wp2_with fail
      go_ret
      exact ⟨rfl, q4⟩
  · have hxr := clipOf_range (k := 3) h0 h1
    obtain ⟨hle, htb, hcm⟩ := clips_3 b h0 h1
    have hcc := clip_clip (k := 3) h0 h1
    have hcl := clip_any w HW.out 3 b h0 h1
    have hcl2 := clip_any w HW.out 3 (clipOf 3 b) hxr.1 hxr.2
    rw [hcc] at hcl2
    have hcp := fun W hW => compare_any W hW 3 (clipOf 3 b) 0 hxr.1 hxr.2 (by omega) (by omega)
    rw [hcc, clip_0] at hcp
    have hb1 := fun W hW => bytes_any W hW 3 (clipOf 3 b) hxr.1 hxr.2
    have hb2 := fun W hW => bytes_any W hW 3 b h0 h1
    rw [show (widthOf 3).toNat = 4 from rfl] at hb1 hb2
    rw [hle] at hb1
    have hsz : (leS b 4).size = 4 := leS_size b 4
    generalize leS b 4 = sv at *
    generalize clipOf 3 b = x at *
    generalize htbe : bits BinOp.and IntKind.u64 (b / 2147483648) 1 = tb at *
    generalize cmpC 3 x 0 = c at *
    have HSZ := Lib.hid hsz
    clear hle hcc hsz
    refine (width_any _ HW.out 3).mono ?_
    rintro e w1 ⟨rfl, rfl⟩
    rw [show widthOf 3 = 4 from rfl]
    go_wp2_with fail
    refine hcl.mono ?_
    rintro e w1 ⟨rfl, rfl⟩
    go_wp2_with fail
    refine (signed_any _ 3).mono ?_
    rintro e w1 ⟨rfl, rfl⟩
    rw [show signedOf 3 = false from rfl]
    have HCM := Lib.hid hcm
    clear hcm
    rcases htb with htb | htb
    all_goals
      subst htb
      go_wp2_with fail
      refine hcl2.mono ?_
      rintro e w1 ⟨rfl, rfl⟩
      go_wp2_with fail
      refine (hb1 _ HW.out).mono ?_
      rintro e w2 ⟨rfl, q2⟩
      have HW2 := Lib.hid (HW.out.below q2 (Nat.le_refl _))
      have z2 := q2.size
      go_wp2_with fail
      refine (hb2 _ HW2.out).mono ?_
      rintro e w3 ⟨rfl, q3⟩
      have HW3 := Lib.hid (HW2.out.below q3 (Nat.le_refl _))
      have q3 := q2.trans (q3.mono z2)
      have z3 := q3.size
      go_wp2_with fail
      refine (hb1 _ HW3.out).mono ?_
      rintro e w4 ⟨rfl, q4⟩
      have HW4 := Lib.hid (HW3.out.below q4 (Nat.le_refl _))
      have q4 := q3.trans (q4.mono z3)
      have hs4 := HSZ.out
      go_wp2_with fail
      refine (hcp _ HW4.out).mono ?_
      rintro e w5 ⟨rfl, rfl⟩
      first
        | (have hd : decide (c < 0) = false := by (have hz := HCM.out; try simp at hz); simp only [decide_eq_false_iff_not]; omega)
        | (have hd : decide (c < 0) = true := by (have hz := HCM.out; try simp at hz); simp only [decide_eq_true_eq]; omega)
      go_wp2_with fail
      go_ret
      exact ⟨rfl, q4⟩
  · have hxr := clipOf_range (k := 4) h0 h1
    obtain ⟨hle, htb, hcm⟩ := clips_4 b h0 h1
    have hcc := clip_clip (k := 4) h0 h1
    have hcl := clip_any w HW.out 4 b h0 h1
    have hcl2 := clip_any w HW.out 4 (clipOf 4 b) hxr.1 hxr.2
    rw [hcc] at hcl2
    have hcp := fun W hW => compare_any W hW 4 (clipOf 4 b) 0 hxr.1 hxr.2 (by omega) (by omega)
    rw [hcc, clip_0] at hcp
    have hb1 := fun W hW => bytes_any W hW 4 (clipOf 4 b) hxr.1 hxr.2
    have hb2 := fun W hW => bytes_any W hW 4 b h0 h1
    rw [show (widthOf 4).toNat = 8 from rfl] at hb1 hb2
    rw [hle] at hb1
    have hsz : (leS b 8).size = 8 := leS_size b 8
    generalize leS b 8 = sv at *
    generalize clipOf 4 b = x at *
    generalize htbe : bits BinOp.and IntKind.u64 (b / 9223372036854775808) 1 = tb at *
    generalize cmpC 4 x 0 = c at *
    have HSZ := Lib.hid hsz
    clear hle hcc hsz
    refine (width_any _ HW.out 4).mono ?_
    rintro e w1 ⟨rfl, rfl⟩
    rw [show widthOf 4 = 8 from rfl]
    go_wp2_with fail
    refine hcl.mono ?_
    rintro e w1 ⟨rfl, rfl⟩
    go_wp2_with fail
    refine (signed_any _ 4).mono ?_
    rintro e w1 ⟨rfl, rfl⟩
    rw [show signedOf 4 = false from rfl]
    have HCM := Lib.hid hcm
    clear hcm
    rcases htb with htb | htb
    all_goals
      subst htb
      go_wp2_with fail
      refine hcl2.mono ?_
      rintro e w1 ⟨rfl, rfl⟩
      go_wp2_with fail
      refine (hb1 _ HW.out).mono ?_
      rintro e w2 ⟨rfl, q2⟩
      have HW2 := Lib.hid (HW.out.below q2 (Nat.le_refl _))
      have z2 := q2.size
      go_wp2_with fail
      refine (hb2 _ HW2.out).mono ?_
      rintro e w3 ⟨rfl, q3⟩
      have HW3 := Lib.hid (HW2.out.below q3 (Nat.le_refl _))
      have q3 := q2.trans (q3.mono z2)
      have z3 := q3.size
      go_wp2_with fail
      refine (hb1 _ HW3.out).mono ?_
      rintro e w4 ⟨rfl, q4⟩
      have HW4 := Lib.hid (HW3.out.below q4 (Nat.le_refl _))
      have q4 := q3.trans (q4.mono z3)
      have hs4 := HSZ.out
      go_wp2_with fail
      refine (hcp _ HW4.out).mono ?_
      rintro e w5 ⟨rfl, rfl⟩
      first
        | (have hd : decide (c < 0) = false := by (have hz := HCM.out; try simp at hz); simp only [decide_eq_false_iff_not]; omega)
        | (have hd : decide (c < 0) = true := by (have hz := HCM.out; try simp at hz); simp only [decide_eq_true_eq]; omega)
      go_wp2_with fail
      go_ret
      exact ⟨rfl, q4⟩
  · have hxr := clipOf_range (k := 5) h0 h1
    obtain ⟨hle, htb, hcm⟩ := clips_5 b h0 h1
    have hcc := clip_clip (k := 5) h0 h1
    have hcl := clip_any w HW.out 5 b h0 h1
    have hcl2 := clip_any w HW.out 5 (clipOf 5 b) hxr.1 hxr.2
    rw [hcc] at hcl2
    have hcp := fun W hW => compare_any W hW 5 (clipOf 5 b) 0 hxr.1 hxr.2 (by omega) (by omega)
    rw [hcc, clip_0] at hcp
    have hb1 := fun W hW => bytes_any W hW 5 (clipOf 5 b) hxr.1 hxr.2
    have hb2 := fun W hW => bytes_any W hW 5 b h0 h1
    rw [show (widthOf 5).toNat = 1 from rfl] at hb1 hb2
    rw [hle] at hb1
    have hsz : (leS b 1).size = 1 := leS_size b 1
    generalize leS b 1 = sv at *
    generalize clipOf 5 b = x at *
    generalize htbe : bits BinOp.and IntKind.u64 (b / 128) 1 = tb at *
    generalize cmpC 5 x 0 = c at *
    have HSZ := Lib.hid hsz
    clear hle hcc hsz
    refine (width_any _ HW.out 5).mono ?_
    rintro e w1 ⟨rfl, rfl⟩
    rw [show widthOf 5 = 1 from rfl]
    go_wp2_with fail
    refine hcl.mono ?_
    rintro e w1 ⟨rfl, rfl⟩
    go_wp2_with fail
    refine (signed_any _ 5).mono ?_
    rintro e w1 ⟨rfl, rfl⟩
    rw [show signedOf 5 = true from rfl]
    have HCM := Lib.hid hcm
    clear hcm
    rcases htb with htb | htb
    all_goals
      subst htb
      go_wp2_with fail
      refine hcl2.mono ?_
      rintro e w1 ⟨rfl, rfl⟩
      go_wp2_with fail
      refine (hb1 _ HW.out).mono ?_
      rintro e w2 ⟨rfl, q2⟩
      have HW2 := Lib.hid (HW.out.below q2 (Nat.le_refl _))
      have z2 := q2.size
      go_wp2_with fail
      refine (hb2 _ HW2.out).mono ?_
      rintro e w3 ⟨rfl, q3⟩
      have HW3 := Lib.hid (HW2.out.below q3 (Nat.le_refl _))
      have q3 := q2.trans (q3.mono z2)
      have z3 := q3.size
      go_wp2_with fail
      refine (hb1 _ HW3.out).mono ?_
      rintro e w4 ⟨rfl, q4⟩
      have HW4 := Lib.hid (HW3.out.below q4 (Nat.le_refl _))
      have q4 := q3.trans (q4.mono z3)
      have hs4 := HSZ.out
      go_wp2_with fail
      refine (hcp _ HW4.out).mono ?_
      rintro e w5 ⟨rfl, rfl⟩
      first
        | (have hd : decide (c < 0) = false := by (have hz := HCM.out; try simp at hz); simp only [decide_eq_false_iff_not]; omega)
        | (have hd : decide (c < 0) = true := by (have hz := HCM.out; try simp at hz); simp only [decide_eq_true_eq]; omega)
      go_wp2_with fail
      go_ret
      exact ⟨rfl, q4⟩
  · have hxr := clipOf_range (k := 6) h0 h1
    obtain ⟨hle, htb, hcm⟩ := clips_6 b h0 h1
    have hcc := clip_clip (k := 6) h0 h1
    have hcl := clip_any w HW.out 6 b h0 h1
    have hcl2 := clip_any w HW.out 6 (clipOf 6 b) hxr.1 hxr.2
    rw [hcc] at hcl2
    have hcp := fun W hW => compare_any W hW 6 (clipOf 6 b) 0 hxr.1 hxr.2 (by omega) (by omega)
    rw [hcc, clip_0] at hcp
    have hb1 := fun W hW => bytes_any W hW 6 (clipOf 6 b) hxr.1 hxr.2
    have hb2 := fun W hW => bytes_any W hW 6 b h0 h1
    rw [show (widthOf 6).toNat = 2 from rfl] at hb1 hb2
    rw [hle] at hb1
    have hsz : (leS b 2).size = 2 := leS_size b 2
    generalize leS b 2 = sv at *
    generalize clipOf 6 b = x at *
    generalize htbe : bits BinOp.and IntKind.u64 (b / 32768) 1 = tb at *
    generalize cmpC 6 x 0 = c at *
    have HSZ := Lib.hid hsz
    clear hle hcc hsz
    refine (width_any _ HW.out 6).mono ?_
    rintro e w1 ⟨rfl, rfl⟩
    rw [show widthOf 6 = 2 from rfl]
    go_wp2_with fail
    refine hcl.mono ?_
    rintro e w1 ⟨rfl, rfl⟩
    go_wp2_with fail
    refine (signed_any _ 6).mono ?_
    rintro e w1 ⟨rfl, rfl⟩
    rw [show signedOf 6 = true from rfl]
    have HCM := Lib.hid hcm
    clear hcm
    rcases htb with htb | htb
    all_goals
      subst htb
      go_wp2_with fail
      refine hcl2.mono ?_
      rintro e w1 ⟨rfl, rfl⟩
      go_wp2_with fail
      refine (hb1 _ HW.out).mono ?_
      rintro e w2 ⟨rfl, q2⟩
      have HW2 := Lib.hid (HW.out.below q2 (Nat.le_refl _))
      have z2 := q2.size
      go_wp2_with fail
      refine (hb2 _ HW2.out).mono ?_
      rintro e w3 ⟨rfl, q3⟩
      have HW3 := Lib.hid (HW2.out.below q3 (Nat.le_refl _))
      have q3 := q2.trans (q3.mono z2)
      have z3 := q3.size
      go_wp2_with fail
      refine (hb1 _ HW3.out).mono ?_
      rintro e w4 ⟨rfl, q4⟩
      have HW4 := Lib.hid (HW3.out.below q4 (Nat.le_refl _))
      have q4 := q3.trans (q4.mono z3)
      have hs4 := HSZ.out
      go_wp2_with fail
      refine (hcp _ HW4.out).mono ?_
      rintro e w5 ⟨rfl, rfl⟩
      first
        | (have hd : decide (c < 0) = false := by (have hz := HCM.out; try simp at hz); simp only [decide_eq_false_iff_not]; omega)
        | (have hd : decide (c < 0) = true := by (have hz := HCM.out; try simp at hz); simp only [decide_eq_true_eq]; omega)
      go_wp2_with fail
      go_ret
      exact ⟨rfl, q4⟩
  · have hxr := clipOf_range (k := 7) h0 h1
    obtain ⟨hle, htb, hcm⟩ := clips_7 b h0 h1
    have hcc := clip_clip (k := 7) h0 h1
    have hcl := clip_any w HW.out 7 b h0 h1
    have hcl2 := clip_any w HW.out 7 (clipOf 7 b) hxr.1 hxr.2
    rw [hcc] at hcl2
    have hcp := fun W hW => compare_any W hW 7 (clipOf 7 b) 0 hxr.1 hxr.2 (by omega) (by omega)
    rw [hcc, clip_0] at hcp
    have hb1 := fun W hW => bytes_any W hW 7 (clipOf 7 b) hxr.1 hxr.2
    have hb2 := fun W hW => bytes_any W hW 7 b h0 h1
    rw [show (widthOf 7).toNat = 4 from rfl] at hb1 hb2
    rw [hle] at hb1
    have hsz : (leS b 4).size = 4 := leS_size b 4
    generalize leS b 4 = sv at *
    generalize clipOf 7 b = x at *
    generalize htbe : bits BinOp.and IntKind.u64 (b / 2147483648) 1 = tb at *
    generalize cmpC 7 x 0 = c at *
    have HSZ := Lib.hid hsz
    clear hle hcc hsz
    refine (width_any _ HW.out 7).mono ?_
    rintro e w1 ⟨rfl, rfl⟩
    rw [show widthOf 7 = 4 from rfl]
    go_wp2_with fail
    refine hcl.mono ?_
    rintro e w1 ⟨rfl, rfl⟩
    go_wp2_with fail
    refine (signed_any _ 7).mono ?_
    rintro e w1 ⟨rfl, rfl⟩
    rw [show signedOf 7 = true from rfl]
    have HCM := Lib.hid hcm
    clear hcm
    rcases htb with htb | htb
    all_goals
      subst htb
      go_wp2_with fail
      refine hcl2.mono ?_
      rintro e w1 ⟨rfl, rfl⟩
      go_wp2_with fail
      refine (hb1 _ HW.out).mono ?_
      rintro e w2 ⟨rfl, q2⟩
      have HW2 := Lib.hid (HW.out.below q2 (Nat.le_refl _))
      have z2 := q2.size
      go_wp2_with fail
      refine (hb2 _ HW2.out).mono ?_
      rintro e w3 ⟨rfl, q3⟩
      have HW3 := Lib.hid (HW2.out.below q3 (Nat.le_refl _))
      have q3 := q2.trans (q3.mono z2)
      have z3 := q3.size
      go_wp2_with fail
      refine (hb1 _ HW3.out).mono ?_
      rintro e w4 ⟨rfl, q4⟩
      have HW4 := Lib.hid (HW3.out.below q4 (Nat.le_refl _))
      have q4 := q3.trans (q4.mono z3)
      have hs4 := HSZ.out
      go_wp2_with fail
      refine (hcp _ HW4.out).mono ?_
      rintro e w5 ⟨rfl, rfl⟩
      first
        | (have hd : decide (c < 0) = false := by (have hz := HCM.out; try simp at hz); simp only [decide_eq_false_iff_not]; omega)
        | (have hd : decide (c < 0) = true := by (have hz := HCM.out; try simp at hz); simp only [decide_eq_true_eq]; omega)
      go_wp2_with fail
      go_ret
      exact ⟨rfl, q4⟩
  · have hxr := clipOf_range (k := 8) h0 h1
    obtain ⟨hle, htb, hcm⟩ := clips_8 b h0 h1
    have hcc := clip_clip (k := 8) h0 h1
    have hcl := clip_any w HW.out 8 b h0 h1
    have hcl2 := clip_any w HW.out 8 (clipOf 8 b) hxr.1 hxr.2
    rw [hcc] at hcl2
    have hcp := fun W hW => compare_any W hW 8 (clipOf 8 b) 0 hxr.1 hxr.2 (by omega) (by omega)
    rw [hcc, clip_0] at hcp
    have hb1 := fun W hW => bytes_any W hW 8 (clipOf 8 b) hxr.1 hxr.2
    have hb2 := fun W hW => bytes_any W hW 8 b h0 h1
    rw [show (widthOf 8).toNat = 8 from rfl] at hb1 hb2
    rw [hle] at hb1
    have hsz : (leS b 8).size = 8 := leS_size b 8
    generalize leS b 8 = sv at *
    generalize clipOf 8 b = x at *
    generalize htbe : bits BinOp.and IntKind.u64 (b / 9223372036854775808) 1 = tb at *
    generalize cmpC 8 x 0 = c at *
    have HSZ := Lib.hid hsz
    clear hle hcc hsz
    refine (width_any _ HW.out 8).mono ?_
    rintro e w1 ⟨rfl, rfl⟩
    rw [show widthOf 8 = 8 from rfl]
    go_wp2_with fail
    refine hcl.mono ?_
    rintro e w1 ⟨rfl, rfl⟩
    go_wp2_with fail
    refine (signed_any _ 8).mono ?_
    rintro e w1 ⟨rfl, rfl⟩
    rw [show signedOf 8 = true from rfl]
    have HCM := Lib.hid hcm
    clear hcm
    rcases htb with htb | htb
    all_goals
      subst htb
      go_wp2_with fail
      refine hcl2.mono ?_
      rintro e w1 ⟨rfl, rfl⟩
      go_wp2_with fail
      refine (hb1 _ HW.out).mono ?_
      rintro e w2 ⟨rfl, q2⟩
      have HW2 := Lib.hid (HW.out.below q2 (Nat.le_refl _))
      have z2 := q2.size
      go_wp2_with fail
      refine (hb2 _ HW2.out).mono ?_
      rintro e w3 ⟨rfl, q3⟩
      have HW3 := Lib.hid (HW2.out.below q3 (Nat.le_refl _))
      have q3 := q2.trans (q3.mono z2)
      have z3 := q3.size
      go_wp2_with fail
      refine (hb1 _ HW3.out).mono ?_
      rintro e w4 ⟨rfl, q4⟩
      have HW4 := Lib.hid (HW3.out.below q4 (Nat.le_refl _))
      have q4 := q3.trans (q4.mono z3)
      have hs4 := HSZ.out
      go_wp2_with fail
      refine (hcp _ HW4.out).mono ?_
      rintro e w5 ⟨rfl, rfl⟩
      first
        | (have hd : decide (c < 0) = false := by (have hz := HCM.out; try simp at hz); simp only [decide_eq_false_iff_not]; omega)
        | (have hd : decide (c < 0) = true := by (have hz := HCM.out; try simp at hz); simp only [decide_eq_true_eq]; omega)
      go_wp2_with fail
      go_ret
      exact ⟨rfl, q4⟩
  · have hxr := clipOf_range (k := 9) h0 h1
    obtain ⟨hle, htb⟩ := clips_9 b h0 h1
    have hcc := clip_clip (k := 9) h0 h1
    have hcl := clip_any w HW.out 9 b h0 h1
    have hcl2 := clip_any w HW.out 9 (clipOf 9 b) hxr.1 hxr.2
    rw [hcc] at hcl2
    have hcp := fun W hW => compare_any W hW 9 (clipOf 9 b) 0 hxr.1 hxr.2 (by omega) (by omega)
    rw [hcc, clip_0] at hcp
    have hb1 := fun W hW => bytes_any W hW 9 (clipOf 9 b) hxr.1 hxr.2
    have hb2 := fun W hW => bytes_any W hW 9 b h0 h1
    rw [show (widthOf 9).toNat = 8 from rfl] at hb1 hb2
    rw [hle] at hb1
    have hsz : (leS b 8).size = 8 := leS_size b 8
    generalize leS b 8 = sv at *
    generalize clipOf 9 b = x at *
    generalize htbe : bits BinOp.and IntKind.u64 (b / 9223372036854775808) 1 = tb at *
    generalize cmpC 9 x 0 = c at *
    have HSZ := Lib.hid hsz
    clear hle hcc hsz
    refine (width_any _ HW.out 9).mono ?_
    rintro e w1 ⟨rfl, rfl⟩
    rw [show widthOf 9 = 8 from rfl]
    go_wp2_with fail
    refine hcl.mono ?_
    rintro e w1 ⟨rfl, rfl⟩
    go_wp2_with fail
    refine (signed_any _ 9).mono ?_
    rintro e w1 ⟨rfl, rfl⟩
    rw [show signedOf 9 = false from rfl]
    have HCM := Lib.hid htb
    skip
    rcases htb with htb | htb
    all_goals
      subst htb
      go_wp2_with fail
      refine hcl2.mono ?_
      rintro e w1 ⟨rfl, rfl⟩
      go_wp2_with fail
      refine (hb1 _ HW.out).mono ?_
      rintro e w2 ⟨rfl, q2⟩
      have HW2 := Lib.hid (HW.out.below q2 (Nat.le_refl _))
      have z2 := q2.size
      go_wp2_with fail
      refine (hb2 _ HW2.out).mono ?_
      rintro e w3 ⟨rfl, q3⟩
      have HW3 := Lib.hid (HW2.out.below q3 (Nat.le_refl _))
      have q3 := q2.trans (q3.mono z2)
      have z3 := q3.size
      go_wp2_with fail
      refine (hb1 _ HW3.out).mono ?_
      rintro e w4 ⟨rfl, q4⟩
      have HW4 := Lib.hid (HW3.out.below q4 (Nat.le_refl _))
      have q4 := q3.trans (q4.mono z3)
      have hs4 := HSZ.out
      go_wp2_with fail
      go_ret
      exact ⟨rfl, q4⟩
end Go.Proofs.YtlcconooojlhhaaDoor
