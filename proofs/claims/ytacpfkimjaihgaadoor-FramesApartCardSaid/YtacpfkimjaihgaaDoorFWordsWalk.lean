/- The Go text of flyleaflaw06.FramesWords returns true and writes nothing that was there. -/
import Derived.Test.YtacpfkimjaihgaaDoorFLaw
import Derived.Test.YtacpfkimjaihgaaDoorRef02
import Derived.Test.YtacpfkimjaihgaaDoorFOpen
namespace Go.Proofs.YtacpfkimjaihgaaDoor
open Go.RowKit
set_option linter.unusedVariables false
theorem tmod_bd (x m : Int) (hm : 0 < m) : -m < x.tmod m ∧ x.tmod m < m := by
  have h1 := Int.natAbs_tmod x m
  have h2 := Nat.mod_lt x.natAbs (show 0 < m.natAbs by omega)
  omega
theorem cut64 (s : ByteArray) (hs : s.size ≤ maxLen) : (s.extract 0 64).size ≤ maxLen := by
  simp [ByteArray.size_extract, maxLen]
  omega
set_option maxRecDepth 100000 in
set_option maxHeartbeats 4000000 in
theorem fwords_walk (w : World) (hw : Wd w) (s : ByteArray) (hs : s.size ≤ maxLen) (x y : Int) (hx : (Lit.int IntKind.i64 x).wf = true) (hy : (Lit.int IntKind.i64 y).wf = true) (b : Int) (h0 : 0 ≤ b) (h1 : b < 18446744073709551616) :
    Calls Tryd.prog 4 #[.string s, .agg #[.int .i64 x, .int .i64 y], .int .u64 b] w fun e w' => e = .returned (.bool true) ∧ Below w.heap.size w w' := by
  have HW := Lib.hid hw
  have hs63 : s.size ≤ 9223372036854775807 := by unfold maxLen at hs; omega
  obtain ⟨r, hr, hr0, hr1⟩ : ∃ r, x.tmod 9 = r ∧ -9 < r ∧ r < 9 := ⟨_, rfl, (tmod_bd x 9 (by omega)).1, (tmod_bd x 9 (by omega)).2⟩
  clear hw
  have HS := Lib.hid hs
  clear hs
  by_cases h64 : 64 < s.size
  all_goals
    go_enter Tryd.func4, Tryd.ntmps4
    go_wp2_with fail
    have HB0 := Lib.hid (below1 w (Obj.cells #[.int .i64 x, .int .i64 y] 38))
    have kk := heap_alloc_new w (Obj.cells [Value.int .i64 x, .int .i64 y].toArray 38)
    have HW0 := Lib.hid (HW.out.below HB0.out (Nat.le_refl _))
    have HLT : Hid (w.heap.size < (w.alloc (Obj.cells #[.int .i64 x, .int .i64 y] 38)).heap.size) := Lib.hid (by simp)
    generalize (w.alloc (Obj.cells #[.int .i64 x, .int .i64 y] 38)) = W0 at HB0 HW0 kk HLT ⊢
    have kx : W0.cell? ⟨w.heap.size, 0, none⟩ = some (.int .i64 x) := by rw [cell_of_row _ _ _ _ _ _ kk]; rfl
    have ky : W0.cell? ⟨w.heap.size, 1, none⟩ = some (.int .i64 y) := by rw [cell_of_row _ _ _ _ _ _ kk]; rfl
    have KX := Lib.hid kx
    have KY := Lib.hid ky
    clear kk kx ky
    refine (awake06 _ HW0.out).mono ?_
    rintro e w1 ⟨rfl, hb1⟩
    go_wp2_with fail
    refine (new_at hb1 1 (by decide) (by decide)).mono ?_
    rintro e w2 ⟨p, bb, hb, rfl, hP⟩
    have HA := Lib.hid (show At W0 w2 p bb hb (newFP 1) from hP)
    clear hP hb1
    go_wp2_with fail
    refine (HA.out.take).mono ?_
    rintro e w3 ⟨rfl, hP⟩
    rw [show (newFP 1).take = (0, 0, ⟨[zeroSec], [1]⟩) from by kernel_rfl] at hP
    rw [show (newFP 1).take = (0, 0, ⟨[zeroSec], [1]⟩) from by kernel_rfl]
    replace HA := Lib.hid hP
    clear hP
    go_wp2_with fail
    first
      | (have _hh : 64 < s.size := h64; refine (rfill_any _ (s.extract 0 64) 64 (by decide) (by decide) (cut64 s HS.out)).mono ?_)
      | refine (rfill_any _ s 64 (by decide) (by decide) HS.out).mono ?_
    rintro e w4 ⟨rfl, hb4⟩
    replace HA := Lib.hid (HA.out.stay hb4)
    clear hb4
    have hS : (fillB s (Int.toNat 64)).size = 64 := fillB_size
    have hS2 : (fillB (s.extract 0 64) (Int.toNat 64)).size = 64 := fillB_size
    first
      | (have _hh : 64 < s.size := h64; generalize fillB (s.extract 0 64) (Int.toNat 64) = S at hS2 ⊢; clear hS; have hS : S.size = 64 := hS2; clear hS2)
      | (generalize fillB s (Int.toNat 64) = S at hS ⊢; clear hS2)
    have HSS := Lib.hid hS
    clear hS h64
    have kx := (HA.out.below.cell (p := ⟨w.heap.size, 0, none⟩) HLT.out).trans KX.out
    go_wp2_with fail
    have hk : 1 ≤ 1 + r % 9 ∧ 1 + r % 9 ≤ 9 := by omega
    generalize 1 + r % 9 = k at hk ⊢
    clear hr hr0 hr1 kx
    refine (rwidth_any _ k).mono ?_
    rintro e w5 ⟨rfl, rfl⟩
    obtain ⟨hw1, hw8⟩ := width_pos hk
    obtain ⟨n, hn⟩ := Int.eq_ofNat_of_zero_le (show 0 ≤ widthOf k by omega)
    rw [hn] at hw1 hw8 ⊢
    have HN := Lib.hid hn
    have ky := (HA.out.below.cell (p := ⟨w.heap.size, 1, none⟩) HLT.out).trans KY.out
    obtain ⟨r2, hr2, hr20, hr21⟩ : ∃ r2, y.tmod (65 - (n : Int)) = r2 ∧ -(65 - (n : Int)) < r2 ∧ r2 < 65 - (n : Int) := ⟨_, rfl, (tmod_bd y (65 - n) (by omega)).1, (tmod_bd y (65 - n) (by omega)).2⟩
    have hm1 := Int.emod_nonneg (r2 + 65 - n) (show 65 - (n : Int) ≠ 0 by omega)
    have hm2 := Int.emod_lt_of_pos (r2 + 65 - n) (show 0 < 65 - (n : Int) by omega)
    obtain ⟨a, ha⟩ := Int.eq_ofNat_of_zero_le hm1
    rw [ha] at hm2
    clear hn
    go_wp2_with fail
    rw [ha]
    obtain ⟨T, t1, t2, t3, t4, t5, t6, t7, t8, t9, t10, t11, t12, t13⟩ := words_law (s := S) (a := a) (k := k) (x := b) HSS.out hk (by rw [HN.out]; omega) h0 h1
    rw [HN.out, Int.toNat_natCast] at t3
    rw [HN.out] at t13
    have hcl := rclip_any w4 k b h0 h1
    have HT3 := Lib.hid t3
    have HT4 := Lib.hid (And.intro t5 (And.intro t6 (And.intro t7 (And.intro t8 (And.intro t9 (And.intro t10 (And.intro t11 (And.intro t12 t13))))))))
    obtain ⟨v, hv⟩ : ∃ v, v = clipOf k b := ⟨_, rfl⟩
    rw [← hv] at HT4
    have HV := Lib.hid hv
    have HR := Lib.hid (And.intro h0 h1)
    clear t3 t4 t5 t6 t7 t8 t9 t10 t11 t12 t13 hv hm1 hr2 hr20 hr21 ky hcl ha h0 h1
    refine (HA.out.fill 0 S).mono ?_
    rintro e w5 ⟨rfl, hP⟩
    rw [HT4.out.1]
    rw [HT4.out.2.1] at hP
    replace HA := Lib.hid hP
    clear hP
    go_wp2_with fail
    refine (HA.out.store HW0.out 0 a k b HR.out.1 HR.out.2).mono ?_
    rintro e w6 ⟨rfl, hP⟩
    rw [HT4.out.2.2.1]
    rw [HT4.out.2.2.2.1] at hP
    replace HA := Lib.hid hP
    clear hP
    go_wp2_with fail
    refine (HA.out.load HW0.out 0 a k).mono ?_
    rintro e w7 ⟨rfl, hP⟩
    rw [HT4.out.2.2.2.2.1, HT4.out.2.2.2.2.2.1]
    replace HA := Lib.hid hP
    clear hP
    go_wp2_with fail
    refine (HA.out.bytes 0).mono ?_
    rintro e w8 ⟨rfl, hP⟩
    rw [HT4.out.2.2.2.2.2.2.1, HT4.out.2.2.2.2.2.2.2.1]
    replace HA := Lib.hid hP
    clear hP
    go_wp2_with fail
    refine (HA.out.load HW0.out 0 (65 - n) k).mono ?_
    rintro e w9 ⟨rfl, hP⟩
    rw [HT4.out.2.2.2.2.2.2.2.2]
    replace HA := Lib.hid hP
    clear hP
    go_wp2_with fail
    have hT := t1
    have hS := HSS.out
    have hc1 := cut_to S a (by omega)
    have hc2 := cut_from S (a + n) (by omega)
    have hc3 := cut_to T a (by omega)
    have hc4 := cut_from T (a + n) (by omega)
    rw [hS, Int.natCast_add] at hc2
    rw [hT, Int.natCast_add] at hc4
    rw [t2] at hc3
    rw [HT3.out] at hc4
    clear hS hT t1 t2
    generalize S.extract 0 a = P1 at hc1 hc3
    generalize S.extract (a + n) 64 = P2 at hc2 hc4
    have hwr : IntKind.i64.wrap ((a : Int) + n) = (a : Int) + n := by rw [IntKind.wrap_i64]; omega
    have hq := fun W => rclip_any W k b HR.out.1 HR.out.2
    rw [← HV.out] at hq
    go_quiet ((go_at_call 27; exact quiet_left (hq _)))
    go_wp2_with fail
    go_ret
    have z := HB0.out.size
    exact ⟨rfl, HB0.out.trans ((below_drewN HA.out.below _).mono z)⟩
end Go.Proofs.YtacpfkimjaihgaaDoor
