/- Package frames: Store of a word. -/
import Derived.Test.YtacpfkimjaihgaaDoorAt
namespace Go.Proofs.YtacpfkimjaihgaaDoor
open Go.RowKit

set_option maxRecDepth 100000 in
set_option maxHeartbeats 1000000 in
theorem store_ok (w : World) (p bb hb : Nat) (S : List (List UInt8)) (H : List Int) (fr : Int) (k a n : Nat) (kind x : Int) (hw : Wd w) (hx0 : 0 ≤ x) (hx1 : x < 18446744073709551616) (hk : k < H.length) (hS : k < S.length) (hz : H[k] ≠ 0) (hn0 : 0 < n) (hn8 : n ≤ 8) (hwd : widthOf kind = n) (hat : a + n ≤ 64) (h : PA w p bb hb S H fr) :
    Calls Tryd.prog 21 #[.pointer (some ⟨p, 0, none⟩), .int .i64 k, .int .i64 a, .int .i64 kind, .int .u64 x] w fun e w' => e = .returned (.int .i64 0) ∧ PA w' p bb hb (S.set k (splice S[k] a (leL x n))) H fr ∧ Mods [p, bb, hb] w w' := by
  have c1 := h.c1
  have ct := h.at hk
  have hsm := h.small
  obtain ⟨ha, hbb, hhb⟩ := h.lt
  have ⟨ha1, ha2, ha3, ha4, ha5⟩ := lt5 ha
  have ⟨hb1, hb2, hb3, hb4, hb5⟩ := lt5 hhb
  have HA := Lib.hid h
  have HW := Lib.hid hw
  have hne : (H[k] == 0) = false := by simp [hz]
  have hwn : ((n : Int) == 0) = false := by simp; omega
  have hwr : IntKind.i64.wrap ((a : Int) + n) = (a : Int) + n := by rw [IntKind.wrap_i64]; omega
  have hle0 : 0 ≤ (a : Int) + n := by omega
  have hle : (a : Int) + n ≤ ((H.length * 64 - k * 64 : Nat) : Int) := by omega
  have hle2 : ((a : Int) + n).toNat = a + n := by omega
  have hle3 : a ≤ a + n := by omega
  have hle4 : a + n - a = n := by omega
  have hna : ¬ H.length * 64 - k * 64 = a := by omega
  have hwi : withinB a n 64 = true := decide_eq_true ⟨by omega, by omega, by omega, by omega⟩
  have HX0 := Lib.hid hx0
  have HX1 := Lib.hid hx1
  have HSS := Lib.hid hS
  have HAT := Lib.hid hat
  have HL := Lib.hid (show leL x n = (leS x n).data.toList.take n by rw [List.take_of_length_le (by show ((leL x n).toArray).toList.length ≤ n; simp [leL_length])]; simp [leS])
  have HCL := Lib.hid (show k * 64 + a + (leL x n).length ≤ (bv S.flatten).length by rw [bv_length, flat_length _ h.each, h.len, leL_length]; omega)
  have HWDN := Lib.hid (show (widthOf kind).toNat = n by omega)
  clear hx0 hx1
  clear h hz hw
  obtain ⟨v, hv⟩ : ∃ v, v = H[k] := ⟨_, rfl⟩
  rw [← hv] at ct hne
  clear hv
  go_enter Tryd.func21, Tryd.ntmps21
  go_wp2_with (first | (go_at_call 62; refine (frame_any _ p bb hb S H fr k hk (HA.out.below (below5 w _ _ _ _ _) (Nat.le_refl _))).mono ?_; rintro e w1 ⟨rfl, rfl⟩) | (go_at_call 91; refine (width_any _ (HW.out.below (below5 w _ _ _ _ _) (Nat.le_refl _)) kind).mono ?_; rintro e w1 ⟨rfl, rfl⟩; rw [hwd]) | (go_at_call 92; refine (within_any _ a n 64 (by decide) (by decide)).mono ?_; rintro e w1 ⟨rfl, rfl⟩; rw [hwi]) | go_in)
  refine wp_region_still_tail 7 (by kernel_rfl) (by kernel_rfl) ?_
  simp only [List.take_succ_cons, List.take_zero, List.drop_succ_cons, List.drop_zero]
  change wpStill _ _ (World.drew _) (fun a' => wpList _ _ _ _ a' (World.drew _)) _ _
  still_step
  still_step
  still_step
  still_step
  still_step
  still_step
  still_step
  refine wpStill_nil ?_
  go_wp2_with (first | (go_at_call 67; refine (bytes_any _ (HW.out.below (below5 w _ _ _ _ _).drew (Nat.le_refl _)) kind x HX0.out HX1.out).mono ?_; rintro e w1 ⟨rfl, hbl⟩; rw [HWDN.out]; have HB1 := Lib.hid (((below5 w _ _ _ _ _).drew).trans (hbl.mono (by simp; omega))); clear hbl) | go_in | (refine wpList_copy_string (o := ⟨some 8, _, _, _, _, _⟩) _ rfl _ _ 64 9 rfl 5 Tryd.underlying64 Tryd.info5s bb (k * 64 + a) n _ (leS x n) rfl rfl (bv S.flatten) 5 (HA.out.below HB1.out (Nat.le_refl _)).row (leL x n) HL.out HCL.out ?_; intro w2 hrow hmod hsz; have HA2 := Lib.hid ((HA.out.below HB1.out (Nat.le_refl _)).part HSS.out (by rw [leL_length]; exact HAT.out) hrow hmod); have HM2 := Lib.hid ((Mods.of_below (S := [p, bb, hb]) HB1.out).trans (hmod.mono (by simp))); clear hrow hmod))
  go_end0
  simp only []
  go_wp2_with fail
  go_ret
  exact ⟨rfl, HA2.out, HM2.out⟩
end Go.Proofs.YtacpfkimjaihgaaDoor
