/- The Go text of flyleaflaw06.FramesTaken returns true and writes nothing that was there. -/
import Derived.Test.YtacpfkimjaihgaaDoorFLib
import Derived.Test.YtacpfkimjaihgaaDoorBits
namespace Go.Proofs.YtacpfkimjaihgaaDoor
open Go.RowKit
set_option linter.unusedVariables false
theorem bytes_set {S : List (List UInt8)} {H : List Int} {t : Nat} (ht : t < S.length) (ha : asked H t = 0) : FP.bytes ⟨S.set t zeroSec, H⟩ t = ⟨zeroSec.toArray⟩ := by
  rw [FP.bytes, if_pos ha]
  simp [ht]
set_option maxRecDepth 100000 in
set_option maxHeartbeats 2000000 in
theorem ftaken_walk (w : World) (hw : Wd w) (n : Int) (hn : (Lit.int IntKind.i64 n).wf = true) : Calls Tryd.prog 6 #[.int .i64 n] w fun e w' => e = .returned (.bool true) ∧ Below w.heap.size w w' := by
  obtain ⟨m, hm, hm1⟩ : ∃ k : Nat, bits BinOp.and IntKind.i64 n 63 = (k : Int) ∧ k ≤ 63 := ⟨(n % 64).toNat, by rw [and63]; omega, by omega⟩
  obtain ⟨N, hN⟩ : ∃ N : Nat, N = m + 1 := ⟨_, rfl⟩
  have hN1 : IntKind.i64.wrap (1 + (m : Int)) = (N : Int) := by rw [IntKind.wrap_i64]; omega
  have hN2 : 1 ≤ N ∧ N ≤ 64 := by omega
  have HFZ := Lib.hid fillB_none
  have hzs : (⟨zeroSec.toArray⟩ : ByteArray).size = 64 := by kernel_rfl
  have HBS := Lib.hid (show ∀ (S : List (List UInt8)) (H : List Int) (t : Nat), t < S.length → asked H t = 0 → FP.bytes ⟨S.set t zeroSec, H⟩ t = ⟨zeroSec.toArray⟩ from fun _ _ _ h1 h2 => bytes_set h1 h2)
  generalize (⟨zeroSec.toArray⟩ : ByteArray) = z at HFZ hzs HBS
  have haw := awake06 w hw
  have HW := Lib.hid hw
  clear hw hN
  go_enter Tryd.func6, Tryd.ntmps6
  go_wp2_with fail
  refine haw.mono ?_
  rintro e w1 ⟨rfl, hb1⟩
  clear haw
  go_wp2_with fail
  refine (new_at hb1 N (by omega) (by omega)).mono ?_
  rintro e w2 ⟨p, bb, hb, rfl, hA⟩
  rw [Int.toNat_natCast, newFP_heldT] at hA
  have HA := Lib.hid hA
  clear hA hb1
  go_wp2_with fail
  go_loopw [6, 7, 8, 9, 10] (fun i _ _ _ _ wx => ∃ (t : Nat) (S : List (List UInt8)), t ≤ N ∧ i = .int .i64 t ∧ Hid (At w wx p bb hb ⟨S, heldT t N⟩)) (fun i _ _ _ _ _ => N - (intOf i).toNat)
  case atStart => exact ⟨0, _, by omega, rfl, HA⟩
  case round =>
    clear HA
    obtain ⟨t, S, ht, rfl, HA⟩ := hrel
    by_cases hlt : t < N
    · have hS : t < S.length := by have := HA.out.len; simp only [heldT_length ht] at this; omega
      have hbs := HBS.out S (heldT (t + 1) N) t hS (asked_heldT (by omega) (by omega))
      have HBB := Lib.hid hbs
      have HAK := Lib.hid (asked_heldT (t := t + 1) (N := N) (j := t) (by omega) (by omega))
      have HFR := Lib.hid (show (frees (heldT (t + 1) N) : Int) = (N : Int) - t - 1 by rw [frees_heldT]; omega)
      clear hbs hS
      go_wp2_with fail
      refine (HA.out.taken hlt).mono ?_
      rintro e w3 ⟨rfl, hA⟩
      have HA := Lib.hid hA
      clear hA
      go_wp2_with fail
      refine (HA.out.bytes t).mono ?_
      rintro e w4 ⟨rfl, hA⟩
      rw [HBB.out, HAK.out]
      have HA := Lib.hid hA
      clear hA
      go_wp2_with fail
      refine (rfill_any _ ⟨#[]⟩ 64 (by decide) (by decide) (by decide)).mono ?_
      rintro e w5 ⟨rfl, hb5⟩
      rw [show fillB ⟨#[]⟩ (Int.toNat 64) = z from HFZ.out]
      have HA := Lib.hid (HA.out.stay hb5)
      clear hb5
      go_wp2_with fail
      refine (HA.out.free).mono ?_
      rintro e w6 ⟨rfl, rfl⟩
      rw [show (frees (FP.held ⟨S.set t zeroSec, heldT (t + 1) N⟩) : Int) = (N : Int) - t - 1 from HFR.out]
      go_wp2_with fail
      refine (HA.out.fill t _).mono ?_
      rintro e w7 ⟨rfl, hA⟩
      obtain ⟨S2, hS2⟩ := fill_held ⟨S.set t zeroSec, heldT (t + 1) N⟩ t (z.extract 0 63 ++ ⟨#[120]⟩)
      rw [hS2] at hA
      have HA := Lib.hid hA
      clear hA hS2
      go_wp2_with fail
      go_roundw
      case rel => exact ⟨t + 1, S2, by omega, by go_num, HA⟩
      case measure => simp [intOf]; omega
    · have htn : t = N := by omega
      subst htn
      go_wp2_with fail
      refine (HA.out.used).mono ?_
      rintro e w3 ⟨rfl, hA⟩
      have HA := Lib.hid hA
      clear hA
      go_wp2_with fail
      refine (HA.out.frames).mono ?_
      rintro e w4 ⟨rfl, rfl⟩
      rw [show ((FP.held ⟨S, heldT t t⟩).length : Int) = (t : Int) by rw [heldT_length (Nat.le_refl t)]]
      go_wp2_with fail
      go_ret
      exact ⟨rfl, HA.out.below⟩
end Go.Proofs.YtacpfkimjaihgaaDoor
