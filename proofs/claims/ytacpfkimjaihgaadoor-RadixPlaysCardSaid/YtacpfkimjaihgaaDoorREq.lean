/- radix: equality of entries; asked. No conditions. -/
import Derived.Test.YtacpfkimjaihgaaDoorRWay
import Derived.Laws.StructEq
namespace Go.Proofs.YtacpfkimjaihgaaDoor
open Go.RowKit
set_option linter.unusedVariables false

def slEq (a b : Sl) : Bool := a.here == b.here && (a.write == b.write && (a.copy == b.copy && (a.out == b.out && a.n == b.n)))
theorem slEq_iff (a b : Sl) : slEq a b = decide (a = b) := by
  obtain ⟨a1, a2, a3, a4, a5⟩ := a
  obtain ⟨b1, b2, b3, b4, b5⟩ := b
  rw [Bool.eq_iff_iff]
  simp [slEq]
set_option maxHeartbeats 2000000 in
theorem eqSl (a b : Sl) (w : World) : (binOp .eql 68 a.enc b.enc).run Tryd.prog w = .ok (.bool (slEq a b)) w := by
  have u4 := Tryd.underlying4
  have u3 := Tryd.underlying3
  have a4 := Tryd.isAgg4
  have a3 := Tryd.isAgg3
  have z4 := Tryd.sizeOf4
  have z3 := Tryd.sizeOf3
  have hS : Tryd.prog.underlying 68 = some (.struct (Tryd.prog.fieldsOf 68)) := by kernel_rfl
  have hp : Tryd.prog.stoodInHeld 68 = false := by kernel_rfl
  obtain ⟨a1, a2, a3, a4, a5⟩ := a
  obtain ⟨b1, b2, b3, b4, b5⟩ := b
  unfold Sl.enc slEq
  simp only []
  rw [run_eql_struct, show (10000 : Nat) = 9999 + 1 from rfl, run_equalIn_agg w 9999 _ _ _ hS hp]
  simp only [Program.fieldsOf, Tryd.underlying68]
  go_simp
  by_cases h1 : a1 = b1 <;> by_cases h2 : a2 = b2 <;> by_cases h3 : a3 = b3 <;> by_cases h4 : a4 = b4 <;> by_cases h5 : a5 = b5 <;> simp [h1, h2, h3, h4, h5]
set_option maxHeartbeats 2000000 in
theorem neSl (a b : Sl) (w : World) : (binOp .neq 68 a.enc b.enc).run Tryd.prog w = .ok (.bool (!slEq a b)) w := by
  have u4 := Tryd.underlying4
  have u3 := Tryd.underlying3
  have a4 := Tryd.isAgg4
  have a3 := Tryd.isAgg3
  have z4 := Tryd.sizeOf4
  have z3 := Tryd.sizeOf3
  have hS : Tryd.prog.underlying 68 = some (.struct (Tryd.prog.fieldsOf 68)) := by kernel_rfl
  have hp : Tryd.prog.stoodInHeld 68 = false := by kernel_rfl
  obtain ⟨a1, a2, a3, a4, a5⟩ := a
  obtain ⟨b1, b2, b3, b4, b5⟩ := b
  unfold Sl.enc slEq
  simp only []
  rw [run_neq_struct, show (10000 : Nat) = 9999 + 1 from rfl, run_equalIn_agg w 9999 _ _ _ hS hp]
  simp only [Program.fieldsOf, Tryd.underlying68]
  go_simp
  by_cases h1 : a1 = b1 <;> by_cases h2 : a2 = b2 <;> by_cases h3 : a3 = b3 <;> by_cases h4 : a4 = b4 <;> by_cases h5 : a5 = b5 <;> simp [h1, h2, h3, h4, h5]

section
variable {w0 w : World} {t p bb hb n root : Nat} {F : FP} {N : Nat → Nat → Option Nat} {C : Nat → Option Sl} {k : Int}
theorem asked_ok_t (h : Tb w0 w t p bb hb F root k) (page : Int) (h2 : 0 ≤ page) (h1 : page < 4096) : Calls Tryd.prog 82 #[.pointer (some ⟨t, 0, none⟩), .int .i64 page] w fun e w' => e = .returned (.int .i64 0) ∧ w = w' := by
  have c0 := h.c0
  have hlt := h.lt
  clear h
  go_enter Tryd.func82, Tryd.ntmps82
  go_wp2
  go_ret
  exact ⟨rfl, rfl⟩
theorem asked_range (w : World) (t : Nat) (page : Int) (hp : page < 0 ∨ 4096 ≤ page) : Calls Tryd.prog 82 #[.pointer (some ⟨t, 0, none⟩), .int .i64 page] w fun e w' => e = .returned (.int .i64 14) ∧ w = w' := by
  by_cases h1 : page < 0
  · go_enter Tryd.func82, Tryd.ntmps82
    go_wp2
    go_ret
    exact ⟨rfl, rfl⟩
  · have h2 : 4096 ≤ page := by omega
    go_enter Tryd.func82, Tryd.ntmps82
    go_wp2
    go_ret
    exact ⟨rfl, rfl⟩
theorem asked_nil_t (w : World) (page : Int) : Calls Tryd.prog 82 #[.pointer none, .int .i64 page] w fun e w' => e = .returned (.int .i64 1) ∧ w = w' := by
  go_enter Tryd.func82, Tryd.ntmps82
  go_wp2
  go_ret
  exact ⟨rfl, rfl⟩
theorem asked_closed (w : World) (t : Nat) (page : Int) (h2 : 0 ≤ page) (h1 : page < 4096) (c0 : w.cell? ⟨t, 0, none⟩ = some (.pointer none)) : Calls Tryd.prog 82 #[.pointer (some ⟨t, 0, none⟩), .int .i64 page] w fun e w' => e = .returned (.int .i64 13) ∧ w = w' := by
  go_enter Tryd.func82, Tryd.ntmps82
  go_wp2
  go_ret
  exact ⟨rfl, rfl⟩

end
end Go.Proofs.YtacpfkimjaihgaaDoor
