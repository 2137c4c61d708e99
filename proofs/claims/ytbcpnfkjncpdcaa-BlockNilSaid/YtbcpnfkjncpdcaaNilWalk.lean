/- The Go text of flyleaflaw03.BlockNil returns true and writes nothing that was there. -/
import Derived.Test.YtbcpnfkjncpdcaaLawLib
namespace Go.Proofs.Ytbcpnfkjncpdcaa
open Go.RowKit

set_option maxRecDepth 100000 in
set_option maxHeartbeats 2000000 in
theorem nil_walk (w : World) (at_ : Int) (_hw : (Lit.int IntKind.i64 at_).wf = true) : Calls Try.prog 7 #[.int .i64 at_] w fun e w' => e = .returned (.bool true) ∧ Below w.heap.size w w' := by
  have hz0 : (w.alloc (.cells #[.slice none 0 0, .int .i64 0, .int .i64 0, .int .i64 0] 53)).cell? ⟨w.heap.size, 0, none⟩ = some (.slice none (0 * 64) 0) := by
    rw [World.cell?_alloc_at _ _ _ _ rfl]; rfl
  have HZ0 := Lib.hid hz0
  clear hz0
  have hout : at_ < 0 ∨ ((0 : Nat) : Int) ≤ at_ := by omega
  go_enter Try.func7, Try.ntmps7
  go_wp2_with fail
  refine (read_nil _ at_).mono ?_
  rintro e w1 ⟨rfl, hb1⟩
  have HZ1 : Hid (w1.cell? ⟨w.heap.size, 0, none⟩ = some (.slice none (0 * 64) 0)) := (hb1.cell (p := ⟨w.heap.size, 0, none⟩) (by simp)).trans HZ0.out
  go_wp2_with fail
  refine (read_out _ _ 0 0 none at_ hout (by omega) HZ1.out).mono ?_
  rintro e w2 ⟨rfl, hb2⟩
  have hl1 : w.heap.size < w1.heap.size := by have := hb1.size; simp at this; omega
  have HZ2 : Hid (w2.cell? ⟨w.heap.size, 0, none⟩ = some (.slice none (0 * 64) 0)) := (hb2.cell (p := ⟨w.heap.size, 0, none⟩) hl1).trans HZ1.out
  go_wp2_with fail
  refine (seal_nil _ at_).mono ?_
  rintro e w3 ⟨rfl, rfl⟩
  go_wp2_with fail
  refine (awake_any _).mono ?_
  rintro e w3 ⟨rfl, hb3⟩
  have hl2 : w.heap.size < w2.heap.size := by have := hb2.size; omega
  have HZ3 : Hid (w3.cell? ⟨w.heap.size, 0, none⟩ = some (.slice none (0 * 64) 0)) := (hb3.cell (p := ⟨w.heap.size, 0, none⟩) hl2).trans HZ2.out
  have hl3 : w.heap.size < w3.heap.size := by have := hb3.size; omega
  go_wp2_with fail
  refine (write_nil _ at_ _).mono ?_
  rintro e w4 ⟨rfl, hb4⟩
  have HZ4 : Hid (w4.cell? ⟨w.heap.size, 0, none⟩ = some (.slice none (0 * 64) 0)) := (hb4.cell (p := ⟨w.heap.size, 0, none⟩) hl3).trans HZ3.out
  have hl4 : w.heap.size < w4.heap.size := by have := hb4.size; omega
  go_wp2_with fail
  refine (write_out _ _ 0 0 none at_ _ hout (by omega) HZ4.out).mono ?_
  rintro e w5 ⟨rfl, hb5⟩
  have HZ5 : Hid (w5.cell? ⟨w.heap.size, 0, none⟩ = some (.slice none (0 * 64) 0)) := (hb5.cell (p := ⟨w.heap.size, 0, none⟩) hl4).trans HZ4.out
  go_wp2_with fail
  refine (sectors_nil _).mono ?_
  rintro e w6 ⟨rfl, rfl⟩
  go_wp2_with fail
  refine (reads_nil _).mono ?_
  rintro e w6 ⟨rfl, rfl⟩
  go_wp2_with fail
  refine (writes_nil _).mono ?_
  rintro e w6 ⟨rfl, rfl⟩
  go_wp2_with fail
  refine (sectors_any _ _ 0 0 none (by omega) HZ5.out).mono ?_
  rintro e w6 ⟨rfl, rfl⟩
  go_wp2_with fail
  refine (of_none _ none 0).mono ?_
  rintro e w6 ⟨rfl, rfl⟩
  go_wp2_with fail
  refine (new_no _ 0 (by omega)).mono ?_
  rintro e w6 ⟨rfl, rfl⟩
  go_wp2
  go_ret
  refine ⟨rfl, ?_⟩
  have b1 : Below w.heap.size w w1 := ((Below.refl _ _).alloc (Nat.le_refl _) _).trans (hb1.mono (by simp))
  have b2 := b1.trans (hb2.mono b1.size)
  have b3 := b2.trans (hb3.mono b2.size)
  have b4 := b3.trans (hb4.mono b3.size)
  exact b4.trans (hb5.mono b4.size)
end Go.Proofs.Ytbcpnfkjncpdcaa
