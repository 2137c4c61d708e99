/- radix: bare, Nodes, New. No conditions. -/
import Derived.Test.YtacpfkimjaihgaaDoorREq
namespace Go.Proofs.YtacpfkimjaihgaaDoor
open Go.RowKit
set_option linter.unusedVariables false
section
variable {w0 w : World} {t p bb hb n root : Nat} {F : FP} {N : Nat → Nat → Option Nat} {C : Nat → Option Sl} {k : Int}

theorem nodes_t (h : Tb w0 w t p bb hb F root k) : Calls Tryd.prog 52 #[.pointer (some ⟨t, 0, none⟩)] w fun e w' => e = .returned (.int .i64 k) ∧ w = w' := by
  have c2 := h.c2
  clear h
  go_enter Tryd.func52, Tryd.ntmps52
  go_wp2
  go_ret
  exact ⟨rfl, rfl⟩
theorem nodes_nil (w : World) : Calls Tryd.prog 52 #[.pointer none] w fun e w' => e = .returned (.int .i64 0) ∧ w = w' := by
  go_enter Tryd.func52, Tryd.ntmps52
  go_wp2
  go_ret
  exact ⟨rfl, rfl⟩

def bareB (F : FP) (f : Nat) : Bool := (List.range 8).all (fun i => decide (ent F f i = .zero))
theorem bareB_true {F : FP} {f : Nat} (h : bareB F f = true) : ∀ i, i < 8 → ent F f i = .zero := fun i hi => by
  unfold bareB at h
  rw [List.all_eq_true] at h
  simpa using h i (List.mem_range.2 hi)
theorem bareB_false {F : FP} {f : Nat} (h : bareB F f = false) : ∃ i, i < 8 ∧ ent F f i ≠ .zero := by
  unfold bareB at h
  rw [List.all_eq_false] at h
  obtain ⟨i, hi, h1⟩ := h
  exact ⟨i, List.mem_range.1 hi, by simpa using h1⟩
theorem bareB_no {F : FP} {f i : Nat} (hi : i < 8) (h : ent F f i ≠ .zero) : bareB F f = false := by
  cases hb : bareB F f with
  | false => rfl
  | true => exact absurd (bareB_true hb i hi) h
theorem bareB_yes {F : FP} {f : Nat} (h : ∀ i, i < 8 → ent F f i = .zero) : bareB F f = true := by
  unfold bareB
  rw [List.all_eq_true]
  intro i hi
  simpa using h i (List.mem_range.1 hi)

set_option maxHeartbeats 4000000 in
theorem Tb.bare (h : Tb w0 w t p bb hb F root k) (hw : Wd w0) (f : Nat) :
    Calls Tryd.prog 86 #[.pointer (some ⟨t, 0, none⟩), .int .i64 f] w fun e w' => e = .returned (.bool (bareB F f)) ∧ Below w.heap.size w w' := by
  have HT := Lib.hid h
  have HW := Lib.hid hw
  have hlt := h.lt
  obtain ⟨v, hv⟩ : ∃ v, bareB F f = v := ⟨_, rfl⟩
  rw [hv]
  have HV := Lib.hid hv
  clear h hw hv
  go_enter Tryd.func86, Tryd.ntmps86
  go_wp2_with fail
  go_loopw [6] (fun i wr => ∃ j : Nat, j ≤ 8 ∧ i = .int .i64 j ∧ Hid (∀ i, i < j → ent F f i = .zero) ∧ Below w.heap.size w wr) (fun i _ => (8 - intOf i).toNat)
  case atStart => exact ⟨0, by omega, rfl, Lib.hid (fun i hi => by omega), Below.refl _ _⟩
  case round =>
    obtain ⟨j, hj, rfl, HZ, hB⟩ := hrel
    by_cases hlt8 : j < 8
    · have HT2 := Lib.hid (HT.out.stay hB)
      obtain ⟨s, hs⟩ : ∃ s, ent F f j = s := ⟨_, rfl⟩
      obtain ⟨q1, q2, q3, q4, q5⟩ := s
      have hneq : ∀ W, (binOp .neq 68 (.agg #[.bool q1, .bool q2, .bool q3, .bool q4, .int .i64 q5]) (.agg #[.bool false, .bool false, .bool false, .bool false, .int .i64 0])).run Tryd.prog W = .ok (.bool (!slEq ⟨q1, q2, q3, q4, q5⟩ .zero)) W := fun W => neSl ⟨q1, q2, q3, q4, q5⟩ .zero W
      cases he : slEq ⟨q1, q2, q3, q4, q5⟩ .zero with
      | true =>
        have hz : (⟨q1, q2, q3, q4, q5⟩ : Sl) = .zero := by rw [slEq_iff] at he; simpa using he
        rw [he] at hneq
        have HZ2 := Lib.hid (show ∀ i, i < j + 1 → ent F f i = .zero from fun i hi => by
          by_cases e : i = j
          · rw [e, hs, hz]
          · exact HZ.out i (by omega))
        clear hz
        go_wp2_with (go_at_call 87; refine (entry_is HT2.out HW.out f j hlt8 q1 q2 q3 q4 q5 hs).mono ?_; rintro e w3 ⟨rfl, ht3, hb3⟩)
        go_roundw
        case rel => exact ⟨j + 1, by omega, by go_num, HZ2, hB.trans (hb3.mono hB.size)⟩
        case measure => simp [intOf]; omega
      | false =>
        have hz : ent F f j ≠ .zero := by
          rw [hs]
          rw [slEq_iff] at he
          simpa using he
        have hvf : v = false := by rw [← HV.out]; exact bareB_no hlt8 hz
        subst hvf
        rw [he] at hneq
        clear hz
        go_wp2_with (go_at_call 87; refine (entry_is HT2.out HW.out f j hlt8 q1 q2 q3 q4 q5 hs).mono ?_; rintro e w3 ⟨rfl, ht3, hb3⟩)
        go_ret
        exact ⟨rfl, hB.trans (hb3.mono hB.size)⟩
    · obtain rfl : j = 8 := by omega
      have hvt : v = true := by rw [← HV.out]; exact bareB_yes HZ.out
      subst hvt
      go_wp2_with fail
      go_ret
      exact ⟨rfl, hB⟩
end
end Go.Proofs.YtacpfkimjaihgaaDoor
