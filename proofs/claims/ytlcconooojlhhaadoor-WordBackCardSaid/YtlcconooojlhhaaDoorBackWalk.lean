/- The Go text of flyleaflaw02.WordBack returns true and writes nothing that was there. -/
import Derived.Test.YtlcconooojlhhaaDoorBackLaw
namespace Go.Proofs.YtlcconooojlhhaaDoor
open Go.RowKit
set_option linter.unusedVariables false
theorem xor_max (x : Int) (h0 : 0 ≤ x) (h1 : x < 18446744073709551616) : bits BinOp.xor IntKind.u64 IntKind.u64.max x = 18446744073709551615 - x := by
  have h4 : bits BinOp.xor IntKind.u64 IntKind.u64.max x = IntKind.u64.wrap ((BitVec.ofInt 64 IntKind.u64.max ^^^ BitVec.ofInt 64 x).toNat : Int) := rfl
  have h5 : BitVec.ofInt 64 IntKind.u64.max = BitVec.allOnes 64 := by decide
  rw [h4, h5, BitVec.allOnes_xor, BitVec.toNat_not, BitVec.toNat_ofInt, IntKind.wrap_u64]
  omega
theorem tmod8b (k0 : Int) : -8 < k0.tmod 8 ∧ k0.tmod 8 < 8 := by
  have := Int.natAbs_tmod k0 8
  have := Nat.mod_lt k0.natAbs (show 0 < (8 : Int).natAbs by decide)
  omega
set_option maxRecDepth 100000 in
set_option maxHeartbeats 8000000 in
theorem back_walk (w : World) (hw : Wd w) (k0 : Int) (hk0 : (Lit.int IntKind.i64 k0).wf = true) (t0 : Int) (ht0 : (Lit.int IntKind.i64 t0).wf = true) (b : Int) (h0 : 0 ≤ b) (h1 : b < 18446744073709551616) :
    Calls Tryd.prog 10 #[.int .i64 k0, .int .i64 t0, .int .u64 b] w fun e w' => e = .returned (.bool true) ∧ Below w.heap.size w w' := by
  obtain ⟨r, hr, hr0, hr1⟩ : ∃ r, k0.tmod 8 = r ∧ -8 < r ∧ r < 8 := ⟨_, rfl, (tmod8b k0).1, (tmod8b k0).2⟩
  obtain ⟨k, hk⟩ : ∃ k, k = 1 + r % 8 := ⟨_, rfl⟩
  have hk8 : 1 ≤ k ∧ k ≤ 8 := by omega
  obtain ⟨u, hu, hu0, hu1⟩ : ∃ u, bits BinOp.and IntKind.i64 t0 3 = u ∧ 0 ≤ u ∧ u ≤ 3 := ⟨_, and3 t0, by omega, by omega⟩
  obtain ⟨x, hx, hx0, hx1, hxx, hread, hback, hfl⟩ := back_law hk8 h0 h1
  have haw := awake02 w hw
  have hcl := clip_any w hw k b h0 h1
  have hcl2 := fun W hW => clip_any W hW k b h0 h1
  subst hx
  obtain ⟨T, hT, hTg⟩ : ∃ T, wrap64 (k + u % (4 - (k - 1) % 4)) = T ∧ ((1 ≤ k ∧ k ≤ T ∧ T ≤ 4) ∨ (5 ≤ k ∧ k ≤ T ∧ T ≤ 8)) := by
    refine ⟨_, rfl, ?_⟩
    clear hk
    have h8 : k = 1 ∨ k = 2 ∨ k = 3 ∨ k = 4 ∨ k = 5 ∨ k = 6 ∨ k = 7 ∨ k = 8 := by omega
    unfold wrap64
    clear hcl hcl2 haw hread hback hfl hxx hx0 hx1
    rcases h8 with rfl | rfl | rfl | rfl | rfl | rfl | rfl | rfl <;> simp <;> omega
  have hby := bytes_any w hw k b h0 h1
  have hrd := fun W hW => read_word W hW k (leS b (widthOf k).toNat)
  rw [hread] at hrd
  generalize leS b (widthOf k).toNat = sv at *
  obtain ⟨b1, b2, b3⟩ := hback T hTg
  have hnum : numOf k (clipOf k b) = if 5 ≤ k then s64 (clipOf k b) else clipOf k b := by
    rw [numOf]
    by_cases h5 : 5 ≤ k
    · rw [if_pos h5, if_pos (by simp [signedOf]; omega)]
    · rw [if_neg h5, if_neg (by simp [signedOf]; omega)]
  rw [hnum] at hfl
  generalize clipOf k b = x at *
  have HW := Lib.hid hw
  have HB := Lib.hid hback
  have HF := Lib.hid hfl
  have hkk := hk.symm
  clear hback hfl hw hread hk
  go_enter Tryd.func10, Tryd.ntmps10
  go_wp2_with fail
  refine haw.mono ?_
  rintro e w1 ⟨rfl, rfl⟩
  go_wp2_with fail
  refine hcl.mono ?_
  rintro e w1 ⟨rfl, rfl⟩
  go_wp2_with fail
  refine hby.mono ?_
  rintro e w2 ⟨rfl, q2⟩
  have HW2 := Lib.hid (HW.out.below q2 (Nat.le_refl _))
  go_wp2_with fail
  refine (hrd _ HW2.out).mono ?_
  rintro e w3 ⟨rfl, rfl⟩
  have c1 := convert_any w2 HW2.out k T x hx0 hx1
  have c2 := convert_any w2 HW2.out T k (convOf k T x) b1 b2
  rw [b3] at c2
  generalize convOf k T x = C at *
  have hcl3 := hcl2 w2 HW2.out
  clear b1 b2 b3 hcl hrd hby hcl2 hxx hnum
  have hns : IntKind.u64.signed = false := rfl
  have hxor := xor_max x hx0 hx1
  have hcs : (5 ≤ k ∧ 9223372036854775808 ≤ x) ∨ (5 ≤ k ∧ x < 9223372036854775808) ∨ k ≤ 4 := by omega
  rcases hcs with ⟨h5, hx63⟩ | ⟨h5, hx63⟩ | h5
  · have htop : (x / 9223372036854775808 == 1) = true := by simp; omega
    obtain ⟨M, hM⟩ : ∃ M, M = 18446744073709551616 - x := ⟨_, rfl⟩
    have hwrn : IntKind.u64.wrap (18446744073709551615 - x + 1) = M := by rw [IntKind.wrap_u64]; omega
    have hM0 : M ≤ 9223372036854775808 := by omega
    by_cases hM53 : M ≤ 9007199254740992
    · obtain ⟨f0, f1, f2⟩ := HF.out (by rw [if_pos h5]; unfold s64; split <;> omega)
      have d1 := convert_any w2 HW2.out k 9 x hx0 hx1
      have d2 := convert_any w2 HW2.out 9 k (convOf k 9 x) f0 f1
      rw [f2] at d2
      generalize convOf k 9 x = CF at *
      clear f0 f1 f2
      go_wp2_with fail
      refine c1.mono ?_
      rintro e w1 ⟨rfl, rfl⟩
      go_wp2_with fail
      refine c2.mono ?_
      rintro e w1 ⟨rfl, rfl⟩
      go_wp2_with fail
      refine hcl3.mono ?_
      rintro e w1 ⟨rfl, rfl⟩
      go_wp2_with fail
      refine d1.mono ?_
      rintro e w1 ⟨rfl, rfl⟩
      go_wp2_with fail
      refine d2.mono ?_
      rintro e w1 ⟨rfl, rfl⟩
      go_wp2_with fail
      go_ret
      exact ⟨rfl, q2⟩
    · clear hM
      go_wp2_with fail
      refine c1.mono ?_
      rintro e w1 ⟨rfl, rfl⟩
      go_wp2_with fail
      refine c2.mono ?_
      rintro e w1 ⟨rfl, rfl⟩
      go_wp2_with fail
      refine hcl3.mono ?_
      rintro e w1 ⟨rfl, rfl⟩
      go_wp2_with fail
      go_ret
      exact ⟨rfl, q2⟩
  · have htop : (x / 9223372036854775808 == 1) = false := by simp; omega
    by_cases hM53 : x ≤ 9007199254740992
    · obtain ⟨f0, f1, f2⟩ := HF.out (by rw [if_pos h5]; unfold s64; split <;> omega)
      have d1 := convert_any w2 HW2.out k 9 x hx0 hx1
      have d2 := convert_any w2 HW2.out 9 k (convOf k 9 x) f0 f1
      rw [f2] at d2
      generalize convOf k 9 x = CF at *
      clear f0 f1 f2
      go_wp2_with fail
      refine c1.mono ?_
      rintro e w1 ⟨rfl, rfl⟩
      go_wp2_with fail
      refine c2.mono ?_
      rintro e w1 ⟨rfl, rfl⟩
      go_wp2_with fail
      refine hcl3.mono ?_
      rintro e w1 ⟨rfl, rfl⟩
      go_wp2_with fail
      refine d1.mono ?_
      rintro e w1 ⟨rfl, rfl⟩
      go_wp2_with fail
      refine d2.mono ?_
      rintro e w1 ⟨rfl, rfl⟩
      go_wp2_with fail
      go_ret
      exact ⟨rfl, q2⟩
    · skip
      go_wp2_with fail
      refine c1.mono ?_
      rintro e w1 ⟨rfl, rfl⟩
      go_wp2_with fail
      refine c2.mono ?_
      rintro e w1 ⟨rfl, rfl⟩
      go_wp2_with fail
      refine hcl3.mono ?_
      rintro e w1 ⟨rfl, rfl⟩
      go_wp2_with fail
      go_ret
      exact ⟨rfl, q2⟩
  · by_cases hM53 : x ≤ 9007199254740992
    · obtain ⟨f0, f1, f2⟩ := HF.out (by rw [if_neg (by omega)]; omega)
      have d1 := convert_any w2 HW2.out k 9 x hx0 hx1
      have d2 := convert_any w2 HW2.out 9 k (convOf k 9 x) f0 f1
      rw [f2] at d2
      generalize convOf k 9 x = CF at *
      clear f0 f1 f2
      go_wp2_with fail
      refine c1.mono ?_
      rintro e w1 ⟨rfl, rfl⟩
      go_wp2_with fail
      refine c2.mono ?_
      rintro e w1 ⟨rfl, rfl⟩
      go_wp2_with fail
      refine hcl3.mono ?_
      rintro e w1 ⟨rfl, rfl⟩
      go_wp2_with fail
      refine d1.mono ?_
      rintro e w1 ⟨rfl, rfl⟩
      go_wp2_with fail
      refine d2.mono ?_
      rintro e w1 ⟨rfl, rfl⟩
      go_wp2_with fail
      go_ret
      exact ⟨rfl, q2⟩
    · skip
      go_wp2_with fail
      refine c1.mono ?_
      rintro e w1 ⟨rfl, rfl⟩
      go_wp2_with fail
      refine c2.mono ?_
      rintro e w1 ⟨rfl, rfl⟩
      go_wp2_with fail
      refine hcl3.mono ?_
      rintro e w1 ⟨rfl, rfl⟩
      go_wp2_with fail
      go_ret
      exact ⟨rfl, q2⟩
end Go.Proofs.YtlcconooojlhhaaDoor
