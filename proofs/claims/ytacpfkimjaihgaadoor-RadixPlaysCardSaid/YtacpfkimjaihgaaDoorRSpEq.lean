/- radix: equality of spots. No conditions. -/
import Derived.Test.YtacpfkimjaihgaaDoorRFrom
namespace Go.Proofs.YtacpfkimjaihgaaDoor
open Go.RowKit
set_option linter.unusedVariables false

def spEq (a b : Nat × Sl) : Bool := decide ((a.1 : Int) = b.1) && slEq a.2 b.2
theorem spEq_iff (a b : Nat × Sl) : spEq a b = decide (a = b) := by
  obtain ⟨a1, a2⟩ := a
  obtain ⟨b1, b2⟩ := b
  rw [spEq, slEq_iff, Bool.eq_iff_iff]
  simp only [Bool.and_eq_true, decide_eq_true_iff, Prod.mk.injEq]
  constructor
  · rintro ⟨h1, h2⟩
    exact ⟨by omega, h2⟩
  · rintro ⟨h1, h2⟩
    exact ⟨by omega, h2⟩
set_option maxHeartbeats 2000000 in
theorem eqInSp (a b : Nat × Sl) (w : World) : (Op.equalIn 10000 82 (.agg (spotL a).toArray) (.agg (spotL b).toArray)).run Tryd.prog w = .ok (spEq a b) w := by
  have u3 := Tryd.underlying3
  have a3 := Tryd.isAgg3
  have z3 := Tryd.sizeOf3
  have hS : Tryd.prog.underlying 82 = some (.struct (Tryd.prog.fieldsOf 82)) := by kernel_rfl
  have hp : Tryd.prog.stoodInHeld 82 = false := by kernel_rfl
  obtain ⟨p, a1, a2, a3, a4, a5⟩ := a
  obtain ⟨q, b1, b2, b3, b4, b5⟩ := b
  unfold spEq spotL
  simp only []
  rw [show (10000 : Nat) = 9999 + 1 from rfl, run_equalIn_agg w 9999 _ _ _ hS hp]
  simp only [Program.fieldsOf, Tryd.underlying82]
  go_simp
  unfold slEq
  by_cases h0 : (p : Int) = q <;> by_cases h1 : a1 = b1 <;> by_cases h2 : a2 = b2 <;> by_cases h3 : a3 = b3 <;> by_cases h4 : a4 = b4 <;> by_cases h5 : a5 = b5 <;> simp [h0, h1, h2, h3, h4, h5]
theorem neSp (a b : Nat × Sl) (w : World) : (binOp .neq 82 (.agg (spotL a).toArray) (.agg (spotL b).toArray)).run Tryd.prog w = .ok (.bool (!spEq a b)) w := by
  have hS : Tryd.prog.underlying 82 = some (.struct (Tryd.prog.fieldsOf 82)) := by kernel_rfl
  have hp : Tryd.prog.stoodInHeld 82 = false := by kernel_rfl
  rw [run_neq_struct, eqInSp]
  rfl
theorem eqSp (a b : Nat × Sl) (w : World) : (binOp .eql 82 (.agg (spotL a).toArray) (.agg (spotL b).toArray)).run Tryd.prog w = .ok (.bool (spEq a b)) w := by
  rw [run_eql_struct, eqInSp]
  rfl
end Go.Proofs.YtacpfkimjaihgaaDoor
