/- The Go text of flyleaflaw07.RadixNil returns true and writes nothing that was there. -/
import Derived.Test.YtacpfkimjaihgaaDoorRNone
import Derived.Test.YtacpfkimjaihgaaDoorBits
namespace Go.Proofs.YtacpfkimjaihgaaDoor
open Go.RowKit
set_option linter.unusedVariables false

/-- A zero table. -/
structure Zt (w0 w : World) (z : Nat) : Prop where
  below : Below w0.heap.size w0 w
  c0 : w.cell? ⟨z, 0, none⟩ = some (.pointer none)
  c2 : w.cell? ⟨z, 2, none⟩ = some (.int .i64 0)
  lt : z < w.heap.size
theorem Zt.stay {w0 w w' : World} {z : Nat} (h : Zt w0 w z) (hb : Below w.heap.size w w') : Zt w0 w' z :=
  ⟨h.below.trans (hb.mono h.below.size), (hb.cell (p := ⟨z, 0, none⟩) h.lt).trans h.c0, (hb.cell (p := ⟨z, 2, none⟩) h.lt).trans h.c2, Nat.lt_of_lt_of_le h.lt hb.size⟩
theorem Zt.alloc {w0 w : World} {z : Nat} (h : Zt w0 w z) (o : Obj) : Zt w0 (w.alloc o) z := h.stay ((Below.refl _ _).alloc (Nat.le_refl _) _)
theorem Zt.not {w0 w : World} {z : Nat} (h : Zt w0 w z) : NoT w (some ⟨z, 0, none⟩) := .inr ⟨z, rfl, h.c0⟩
theorem Zt.new (w : World) : Zt w (w.alloc (.cells #[.pointer none, .int .i64 0, .int .i64 0] 102)) w.heap.size := by
  have h := heap_alloc_new w (.cells [Value.pointer none, .int .i64 0, .int .i64 0].toArray 102)
  exact ⟨below1 w _, cell_of_row _ _ 0 _ _ _ h, cell_of_row _ _ 2 _ _ _ h, by simp⟩
set_option maxRecDepth 100000 in
set_option maxHeartbeats 4000000 in
theorem rnil_walk (w : World) (hw : Wd w) (f : Int) (hf : (Lit.int IntKind.i64 f).wf = true) : Calls Tryd.prog 16 #[.int .i64 f] w fun e w' => e = .returned (.bool true) ∧ Below w.heap.size w w' := by
  have HW := Lib.hid hw
  obtain ⟨m, hm, hm1⟩ : ∃ k : Nat, bits BinOp.and IntKind.i64 f 4095 = (k : Int) ∧ k < 4096 := ⟨(f % 4096).toNat, by rw [and4095]; omega, by omega⟩
  clear hw
  go_enter Tryd.func16, Tryd.ntmps16
  go_wp2_with fail
  have HZ := Lib.hid (Zt.new w)
  refine (get_err _ none f 1 (by omega) (fun W _ => asked_nil_t W f)).mono ?_
  rintro e w1 ⟨rfl, hb⟩
  replace HZ := Lib.hid (HZ.out.stay hb)
  clear hb
  go_wp2_with fail
  replace HZ := Lib.hid (HZ.out.alloc (.cells #[.bool false, .bool false, .bool false, .bool false, .int .i64 0] 68))
  refine (get_err _ (some ⟨w.heap.size, 0, none⟩) m 13 (by omega) (fun W hW => asked_closed W _ m (by omega) (by omega) (HZ.out.stay hW).c0)).mono ?_
  rintro e w1 ⟨rfl, hb⟩
  replace HZ := Lib.hid (HZ.out.stay hb)
  clear hb
  go_wp2_with fail
  replace HZ := Lib.hid (HZ.out.alloc (.cells #[.bool false, .bool false, .bool false, .bool false, .int .i64 0] 68))
  refine (drop_err _ none f 1 (by omega) (fun W _ => asked_nil_t W f)).mono ?_
  rintro e w1 ⟨rfl, hb⟩
  replace HZ := Lib.hid (HZ.out.stay hb)
  clear hb
  go_wp2_with fail
  replace HZ := Lib.hid (HZ.out.alloc (.cells #[.bool false, .bool false, .bool false, .bool false, .int .i64 0] 68))
  refine (from_none _ none f (.inl rfl)).mono ?_
  rintro e w1 ⟨rfl, hb⟩
  replace HZ := Lib.hid (HZ.out.stay hb)
  clear hb
  simp only [firstV, spotL, Sl.zero]
  go_wp2_with fail
  replace HZ := Lib.hid (HZ.out.alloc (.cells #[.int .i64 0, .bool false, .bool false, .bool false, .bool false, .int .i64 0] 82))
  refine (from_none _ _ f HZ.out.not).mono ?_
  rintro e w1 ⟨rfl, hb⟩
  replace HZ := Lib.hid (HZ.out.stay hb)
  clear hb
  simp only [firstV, spotL, Sl.zero]
  go_wp2_with fail
  replace HZ := Lib.hid (HZ.out.alloc (.cells #[.int .i64 0, .bool false, .bool false, .bool false, .bool false, .int .i64 0] 82))
  refine (new_nil _).mono ?_
  rintro e w1 ⟨rfl, rfl⟩
  go_wp2_with fail
  refine (awake07 _ (HW.out.below HZ.out.below (Nat.le_refl _))).mono ?_
  rintro e w1 ⟨rfl, hb⟩
  replace HZ := Lib.hid (HZ.out.stay hb)
  clear hb
  go_wp2_with fail
  refine (set_closed _ w.heap.size m (by omega) (by omega) HZ.out.c0 HZ.out.lt ⟨true, false, false, false, 0⟩).mono ?_
  rintro e w1 ⟨rfl, hb⟩
  replace HZ := Lib.hid (HZ.out.stay hb)
  clear hb
  go_wp2_with fail
  refine (all_none _ none (.inl rfl)).mono ?_
  rintro e w1 ⟨x1, x2, rfl, hb⟩
  replace HZ := Lib.hid (HZ.out.stay hb)
  clear hb
  go_wp2_with fail
  refine (close_none _ none (.inl rfl)).mono ?_
  rintro e w1 ⟨x3, x4, rfl, hb⟩
  replace HZ := Lib.hid (HZ.out.stay hb)
  clear hb
  go_wp2_with fail
  refine (close_none _ _ HZ.out.not).mono ?_
  rintro e w1 ⟨x5, x6, rfl, hb⟩
  replace HZ := Lib.hid (HZ.out.stay hb)
  clear hb
  go_wp2_with fail
  refine (nodes_nil _).mono ?_
  rintro e w1 ⟨rfl, rfl⟩
  go_wp2_with fail
  refine (nodes_at _ _ 0 HZ.out.c2).mono ?_
  rintro e w1 ⟨rfl, rfl⟩
  go_wp2_with fail
  go_ret
  exact ⟨rfl, HZ.out.below⟩
end Go.Proofs.YtacpfkimjaihgaaDoor
