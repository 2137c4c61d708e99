/- The Go text of flyleaflaw06.FramesCopies returns true and writes nothing that was there. -/
import Derived.Test.YtacpfkimjaihgaaDoorFWordsWalk
import Derived.Test.YtacpfkimjaihgaaDoorBits
namespace Go.Proofs.YtacpfkimjaihgaaDoor
open Go.RowKit
set_option linter.unusedVariables false
theorem copies_law {s : ByteArray} {a : Nat} {x : Int} (hs : s.size = 64) (hat : a < 64) (h0 : 0 ≤ x) (h1 : x < 256) :
    ∃ t : List UInt8, (newFP 3).take = (0, 0, ⟨[zeroSec, zeroSec, zeroSec], [1, 0, 0]⟩) ∧ FP.fill ⟨[zeroSec, zeroSec, zeroSec], [1, 0, 0]⟩ 0 s = ⟨[s.data.toList, zeroSec, zeroSec], [1, 0, 0]⟩ ∧
      FP.hold ⟨[s.data.toList, zeroSec, zeroSec], [1, 0, 0]⟩ 0 = ⟨[s.data.toList, zeroSec, zeroSec], [2, 0, 0]⟩ ∧ FP.copy ⟨[s.data.toList, zeroSec, zeroSec], [2, 0, 0]⟩ 0 = (1, 0, ⟨[s.data.toList, s.data.toList, zeroSec], [2, 1, 0]⟩) ∧
      FP.bytes ⟨[s.data.toList, s.data.toList, zeroSec], [2, 1, 0]⟩ 1 = s ∧ FP.store ⟨[s.data.toList, s.data.toList, zeroSec], [2, 1, 0]⟩ 1 a 1 x = ⟨[s.data.toList, t, zeroSec], [2, 1, 0]⟩ ∧
      FP.bytes ⟨[s.data.toList, t, zeroSec], [2, 1, 0]⟩ 0 = s ∧ FP.load ⟨[s.data.toList, t, zeroSec], [2, 1, 0]⟩ 1 a 1 = x ∧ FP.copy ⟨[s.data.toList, t, zeroSec], [2, 1, 0]⟩ 2 = (0, 13, ⟨[s.data.toList, t, zeroSec], [2, 1, 0]⟩) := by
  have hl : s.data.toList.length = 64 := by rw [Array.length_toList]; exact hs
  have hfit : a + (leL x 1).length ≤ s.data.toList.length := by rw [leL_length, hl]; omega
  refine ⟨splice s.data.toList a (leL x 1), by kernel_rfl, ?_, by rfl, by rfl, by rfl, ?_, by rfl, ?_, by rfl⟩
  · exact (fill_at (F := ⟨[zeroSec, zeroSec, zeroSec], [1, 0, 0]⟩) (k := 0) (Nat.succ_pos _) Int.one_ne_zero hs).2
  · exact store_at (F := ⟨[s.data.toList, s.data.toList, zeroSec], [2, 1, 0]⟩) (k := 1) (n := 1) (Nat.succ_lt_succ (Nat.succ_pos _)) Int.one_ne_zero rfl (by omega) (by omega)
  · refine (load_at (F := ⟨[s.data.toList, splice s.data.toList a (leL x 1), zeroSec], [2, 1, 0]⟩) (k := 1) (n := 1) (Nat.succ_lt_succ (Nat.succ_pos _)) Int.one_ne_zero rfl (by omega) (by omega)).trans ?_
    have := take_splice s.data.toList (leL x 1) a hfit
    rw [leL_length] at this
    show clipOf 1 (leV (((splice s.data.toList a (leL x 1)).drop a).take 1)) = _
    rw [this]
    have := clip_leL (k := 1) (x := x) h0 (by omega)
    rw [show (widthOf 1).toNat = 1 from rfl] at this
    rw [this]
    simp [clipOf, modOf, widthOf, widths, signedOf]
    omega
set_option maxRecDepth 100000 in
set_option maxHeartbeats 4000000 in
theorem fcopies_walk (w : World) (hw : Wd w) (s : ByteArray) (hs : s.size ≤ maxLen) (x y : Int) (hx : (Lit.int IntKind.i64 x).wf = true) (hy : (Lit.int IntKind.i64 y).wf = true) :
    Calls Tryd.prog 7 #[.string s, .agg #[.int .i64 x, .int .i64 y]] w fun e w' => e = .returned (.bool true) ∧ Below w.heap.size w w' := by
  have HW := Lib.hid hw
  have hs63 : s.size ≤ 9223372036854775807 := by unfold maxLen at hs; omega
  obtain ⟨a, ha, ha1⟩ : ∃ k : Nat, bits BinOp.and IntKind.i64 x 63 = (k : Int) ∧ k < 64 := ⟨(x % 64).toNat, by rw [and63]; omega, by omega⟩
  obtain ⟨c, hc, hc0, hc1⟩ : ∃ k : Int, bits BinOp.and IntKind.i64 y 255 = k ∧ 0 ≤ k ∧ k < 256 := ⟨_, and255 y, by omega, by omega⟩
  have hcu : IntKind.u64.wrap c = c := by rw [IntKind.wrap_u64]; omega
  clear hw
  have HS := Lib.hid hs
  clear hs
  by_cases h64 : 64 < s.size
  all_goals
    go_enter Tryd.func7, Tryd.ntmps7
    go_wp2_with fail
    have HB0 := Lib.hid (below1 w (Obj.cells #[.int .i64 x, .int .i64 y] 38))
    have kk := heap_alloc_new w (Obj.cells [Value.int .i64 x, .int .i64 y].toArray 38)
    have HW0 := Lib.hid (HW.out.below HB0.out (Nat.le_refl _))
    have HLT : Hid (w.heap.size < (w.alloc (Obj.cells #[.int .i64 x, .int .i64 y] 38)).heap.size) := Lib.hid (by simp)
    generalize (w.alloc (Obj.cells #[.int .i64 x, .int .i64 y] 38)) = W0 at HB0 HW0 kk HLT ⊢
    have kx : W0.cell? ⟨w.heap.size, 0, none⟩ = some (.int .i64 x) := by rw [cell_of_row _ _ _ _ _ _ kk]; rfl
    have ky : W0.cell? ⟨w.heap.size, 1, none⟩ = some (.int .i64 y) := by rw [cell_of_row _ _ _ _ _ _ kk]; rfl
    have KX := Lib.hid kx
    have KY := Lib.hid ky
    clear kk kx ky
    refine (awake06 _ HW0.out).mono ?_
    rintro e w1 ⟨rfl, hb1⟩
    go_wp2_with fail
    refine (new_at hb1 3 (by decide) (by decide)).mono ?_
    rintro e w2 ⟨p, bb, hb, rfl, hP⟩
    have HA := Lib.hid (show At W0 w2 p bb hb (newFP 3) from hP)
    clear hP hb1
    go_wp2_with fail
    first
      | (have _hh : 64 < s.size := h64; refine (rfill_any _ (s.extract 0 64) 64 (by decide) (by decide) (cut64 s HS.out)).mono ?_)
      | refine (rfill_any _ s 64 (by decide) (by decide) HS.out).mono ?_
    rintro e w4 ⟨rfl, hb4⟩
    replace HA := Lib.hid (HA.out.stay hb4)
    clear hb4
    have hS : (fillB s (Int.toNat 64)).size = 64 := fillB_size
    have hS2 : (fillB (s.extract 0 64) (Int.toNat 64)).size = 64 := fillB_size
    first
      | (have _hh : 64 < s.size := h64; generalize fillB (s.extract 0 64) (Int.toNat 64) = S at hS2 ⊢; clear hS; have hS : S.size = 64 := hS2; clear hS2)
      | (generalize fillB s (Int.toNat 64) = S at hS ⊢; clear hS2)
    obtain ⟨t, t1, t2, t3, t4, t5, t6, t7, t8, t9⟩ := copies_law (s := S) (a := a) (x := c) hS ha1 hc0 hc1
    have HT := Lib.hid (And.intro t1 (And.intro t2 (And.intro t3 (And.intro t4 (And.intro t5 (And.intro t6 (And.intro t7 (And.intro t8 t9))))))))
    have HC := Lib.hid (And.intro hc0 (show c < 18446744073709551616 by omega))
    clear hS h64 t1 t2 t3 t4 t5 t6 t7 t8 t9 hc0 hc1
    go_wp2_with fail
    refine (HA.out.take).mono ?_
    rintro e w5 ⟨rfl, hP⟩
    rw [HT.out.1] at hP
    rw [HT.out.1]
    replace HA := Lib.hid hP
    clear hP
    go_wp2_with fail
    refine (HA.out.fill 0 S).mono ?_
    rintro e w6 ⟨rfl, hP⟩
    rw [HT.out.2.1] at hP
    replace HA := Lib.hid hP
    clear hP
    go_wp2_with fail
    refine (HA.out.hold 0 (by intro v hv; simp at hv; omega)).mono ?_
    rintro e w7 ⟨rfl, hP⟩
    rw [HT.out.2.2.1] at hP
    replace HA := Lib.hid hP
    clear hP
    go_wp2_with fail
    refine (HA.out.copy 0).mono ?_
    rintro e w8 ⟨rfl, hP⟩
    rw [HT.out.2.2.2.1] at hP
    rw [HT.out.2.2.2.1]
    replace HA := Lib.hid hP
    clear hP
    go_wp2_with fail
    refine (HA.out.bytes 1).mono ?_
    rintro e w9 ⟨rfl, hP⟩
    rw [HT.out.2.2.2.2.1, show asked (FP.held ⟨[S.data.toList, S.data.toList, zeroSec], [2, 1, 0]⟩) 1 = 0 from rfl]
    replace HA := Lib.hid hP
    clear hP
    go_wp2_with fail
    refine (HA.out.held 1).mono ?_
    rintro e w10 ⟨rfl, rfl⟩
    rw [show heldAt (FP.held ⟨[S.data.toList, S.data.toList, zeroSec], [2, 1, 0]⟩) 1 = 1 from rfl]
    go_wp2_with fail
    refine (HA.out.held 0).mono ?_
    rintro e w10 ⟨rfl, rfl⟩
    rw [show heldAt (FP.held ⟨[S.data.toList, S.data.toList, zeroSec], [2, 1, 0]⟩) 0 = 2 from rfl]
    have kx := (HA.out.below.cell (p := ⟨w.heap.size, 0, none⟩) HLT.out).trans KX.out
    have ky := (HA.out.below.cell (p := ⟨w.heap.size, 1, none⟩) HLT.out).trans KY.out
    go_wp2_with fail
    refine (HA.out.store HW0.out 1 a 1 c HC.out.1 HC.out.2).mono ?_
    rintro e w10 ⟨rfl, hP⟩
    rw [HT.out.2.2.2.2.2.1] at hP
    replace HA := Lib.hid hP
    clear hP kx ky
    go_wp2_with fail
    refine (HA.out.bytes 0).mono ?_
    rintro e w11 ⟨rfl, hP⟩
    rw [HT.out.2.2.2.2.2.2.1, show asked (FP.held ⟨[S.data.toList, t, zeroSec], [2, 1, 0]⟩) 0 = 0 from rfl]
    replace HA := Lib.hid hP
    clear hP
    go_wp2_with fail
    refine (HA.out.load HW0.out 1 a 1).mono ?_
    rintro e w12 ⟨rfl, hP⟩
    rw [HT.out.2.2.2.2.2.2.2.1]
    replace HA := Lib.hid hP
    clear hP
    go_wp2_with fail
    refine (HA.out.copy 2).mono ?_
    rintro e w13 ⟨rfl, hP⟩
    rw [HT.out.2.2.2.2.2.2.2.2] at hP
    rw [HT.out.2.2.2.2.2.2.2.2]
    replace HA := Lib.hid hP
    clear hP
    have ky := (HA.out.below.cell (p := ⟨w.heap.size, 1, none⟩) HLT.out).trans KY.out
    go_wp2_with fail
    go_ret
    have z := HB0.out.size
    exact ⟨rfl, HB0.out.trans (HA.out.below.mono z)⟩
end Go.Proofs.YtacpfkimjaihgaaDoor
