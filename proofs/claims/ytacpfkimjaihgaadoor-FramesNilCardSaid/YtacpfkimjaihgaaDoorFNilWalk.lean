/- The Go text of flyleaflaw06.FramesNil returns true and writes nothing that was there. -/
import Derived.Test.YtacpfkimjaihgaaDoorPoolAt
namespace Go.Proofs.YtacpfkimjaihgaaDoor
open Go.RowKit
set_option linter.unusedVariables false

/-- A zero pool. -/
structure Zat (w0 w : World) (z : Nat) : Prop where
  below : Below w0.heap.size w0 w
  c1 : w.cell? ⟨z, 1, none⟩ = some (.slice none 0 0)
  c2 : w.cell? ⟨z, 2, none⟩ = some (.int .i64 0)
theorem Zat.stay {w0 w w' : World} {z : Nat} (h : Zat w0 w z) (hb : Below w.heap.size w w') : Zat w0 w' z := by
  have h1 := World.block_lt_of_cell? w _ h.c1
  have h2 := World.block_lt_of_cell? w _ h.c2
  exact ⟨h.below.trans (hb.mono h.below.size), (hb.cell (p := ⟨z, 1, none⟩) h1).trans h.c1, (hb.cell (p := ⟨z, 2, none⟩) h2).trans h.c2⟩
theorem Zat.new (w : World) : Zat w (w.alloc (.cells #[.slice none 0 0, .slice none 0 0, .int .i64 0] 66)) w.heap.size := by
  have h := heap_alloc_new w (.cells [Value.slice none 0 0, .slice none 0 0, .int .i64 0].toArray 66)
  exact ⟨below1 w _, cell_of_row _ _ 1 _ _ _ h, cell_of_row _ _ 2 _ _ _ h⟩
set_option maxRecDepth 100000 in
set_option maxHeartbeats 2000000 in
theorem fnil_walk (w : World) (hw : Wd w) (f : Int) (hf : (Lit.int IntKind.i64 f).wf = true) : Calls Tryd.prog 9 #[.int .i64 f] w fun e w' => e = .returned (.bool true) ∧ Below w.heap.size w w' := by
  have HW := Lib.hid hw
  have hno : f < 0 ∨ (((0 : Nat) : Int)) ≤ f := by omega
  have HNO := Lib.hid hno
  clear hw hno
  go_enter Tryd.func9, Tryd.ntmps9
  go_wp2_with fail
  have HZ := Lib.hid (Zat.new w)
  refine ((take_nil _)).mono ?_
  rintro e w1 ⟨rfl, rfl⟩
  go_wp2_with fail
  refine ((take_full _ _ HZ.out.c2)).mono ?_
  rintro e w1 ⟨rfl, rfl⟩
  go_wp2_with fail
  refine ((fbytes_nil _ f)).mono ?_
  rintro e w1 ⟨rfl, hb⟩
  replace HZ := Lib.hid (HZ.out.stay hb)
  clear hb
  go_wp2_with fail
  refine ((copy_out _ w.heap.size 0 _ _ f HNO.out HZ.out.c1)).mono ?_
  rintro e w1 ⟨rfl, hb⟩
  replace HZ := Lib.hid (HZ.out.stay hb)
  clear hb
  go_wp2_with fail
  refine ((load_nil _ f 0 1)).mono ?_
  rintro e w1 ⟨rfl, hb⟩
  replace HZ := Lib.hid (HZ.out.stay hb)
  clear hb
  go_wp2_with fail
  refine ((awake06 _ (HW.out.below HZ.out.below (Nat.le_refl _)))).mono ?_
  rintro e w1 ⟨rfl, hb⟩
  replace HZ := Lib.hid (HZ.out.stay hb)
  clear hb
  go_wp2_with fail
  refine ((hold_nil _ f)).mono ?_
  rintro e w1 ⟨rfl, hb⟩
  replace HZ := Lib.hid (HZ.out.stay hb)
  clear hb
  go_wp2_with fail
  refine ((drop_out _ w.heap.size 0 _ _ f HNO.out HZ.out.c1)).mono ?_
  rintro e w1 ⟨rfl, hb⟩
  replace HZ := Lib.hid (HZ.out.stay hb)
  clear hb
  go_wp2_with fail
  refine ((fill_nil _ f _)).mono ?_
  rintro e w1 ⟨rfl, hb⟩
  replace HZ := Lib.hid (HZ.out.stay hb)
  clear hb
  go_wp2_with fail
  refine ((held_nil _ f)).mono ?_
  rintro e w1 ⟨rfl, rfl⟩
  go_wp2_with fail
  refine ((free_nil _)).mono ?_
  rintro e w1 ⟨rfl, rfl⟩
  go_wp2_with fail
  refine ((frames_nil _)).mono ?_
  rintro e w1 ⟨rfl, rfl⟩
  go_wp2_with fail
  refine ((free_any _ _ _ HZ.out.c2)).mono ?_
  rintro e w1 ⟨rfl, rfl⟩
  go_wp2_with fail
  refine ((frames_any _ _ 0 _ _ HZ.out.c1)).mono ?_
  rintro e w1 ⟨rfl, rfl⟩
  go_wp2_with fail
  go_ret
  exact ⟨rfl, HZ.out.below⟩
end Go.Proofs.YtacpfkimjaihgaaDoor
