/- The Go text of flyleaflaw05.SwapNil returns true and writes nothing that was there. -/
import Derived.Test.YtbcpnfkjncpdcaaSwapLib
namespace Go.Proofs.Ytbcpnfkjncpdcaa
open Go.RowKit

theorem used_cell (w : World) (a : Nat) (v : Int) (c3 : w.cell? ⟨a, 3, none⟩ = some (.int .i64 v)) : Calls Try.prog 36 #[.pointer (some ⟨a, 0, none⟩)] w fun e w' => e = .returned (.int .i64 v) ∧ w = w' := by
  go_enter Try.func36, Try.ntmps36
  go_wp2
  go_ret
  exact ⟨rfl, rfl⟩
theorem slots_cell (w : World) (a n c : Nat) (b : Option Addr) (_hs : n ≤ 4096) (c2 : w.cell? ⟨a, 2, none⟩ = some (.slice b n c)) : Calls Try.prog 33 #[.pointer (some ⟨a, 0, none⟩)] w fun e w' => e = .returned (.int .i64 n) ∧ w = w' := by
  go_enter Try.func33, Try.ntmps33
  go_wp2
  go_ret
  exact ⟨rfl, rfl⟩

def zeroRow : List Value := [.pointer none, .int .i64 0, .slice none 0 0, .int .i64 0]
set_option maxRecDepth 100000 in
set_option maxHeartbeats 1000000 in
theorem swapnil_walk (w : World) (s : Int) (_hs : (Lit.int IntKind.i64 s).wf = true) : Calls Try.prog 14 #[.int .i64 s] w fun e w' => e = .returned (.bool true) ∧ Below w.heap.size w w' := by
  have hso : s < 0 ∨ ((0 : Nat) : Int) ≤ s := by omega
  have HSO := Lib.hid hso
  clear hso
  go_enter Try.func14, Try.ntmps14
  go_wp2_with fail
  have r0 : (w.alloc (Obj.cells #[Value.pointer none, .int .i64 0, .slice none 0 0, .int .i64 0] 80)).heap[w.heap.size]? = some (.cells [Value.pointer none, .int .i64 0, .slice none 0 0, .int .i64 0].toArray 80 (0, 0)) := heap_alloc_new w _
  have b0 : Below w.heap.size w (w.alloc (Obj.cells #[Value.pointer none, .int .i64 0, .slice none 0 0, .int .i64 0] 80)) := (Below.refl _ _).alloc (Nat.le_refl _) _
  generalize (w.alloc (Obj.cells #[Value.pointer none, .int .i64 0, .slice none 0 0, .int .i64 0] 80)) = W at r0 b0 ⊢
  obtain ⟨q, hq⟩ : ∃ q, q = w.heap.size := ⟨_, rfl⟩
  rw [← hq] at r0 ⊢
  have z0 := b0.size
  clear hq
  have R0 := Lib.hid r0
  have B0 := Lib.hid b0
  clear r0 b0
  refine (page_any W 1).mono ?_
  rintro e w1 ⟨rfl, hb1⟩
  have R1 := Lib.hid ((hb1.block q (lt_of_block R0.out)).trans R0.out)
  have b1 := B0.out.trans (hb1.mono z0)
  have z1 := b1.size
  clear hb1
  have hp := pageB_size 1
  generalize pageB 1 = p at *
  have HP := Lib.hid hp
  clear hp
  go_wp2_with fail
  refine (aput_nil w1 p).mono ?_
  rintro e w2 ⟨rfl, rfl⟩
  go_wp2_with fail
  refine (page_any w1 1).mono ?_
  rintro e w2 ⟨rfl, hb2⟩
  have R2 := Lib.hid ((hb2.block q (lt_of_block R1.out)).trans R1.out)
  have b2 := b1.trans (hb2.mono z1)
  have z2 := b2.size
  clear hb2
  have hp2 := pageB_size 1
  generalize pageB 1 = p2 at *
  have HP2 := Lib.hid hp2
  clear hp2
  go_wp2_with fail
  refine (put_full w2 q none 0 0 p2 HP2.out (by omega) (cell_of_row w2 _ 2 _ _ _ R2.out) (fun k hk => absurd hk (by omega))).mono ?_
  rintro e w3 ⟨rfl, rfl⟩
  go_wp2_with fail
  refine (get_nil w2 s).mono ?_
  rintro e w3 ⟨rfl, hb3⟩
  have R3 := Lib.hid ((hb3.block q (lt_of_block R2.out)).trans R2.out)
  have b3 := b2.trans (hb3.mono z2)
  have z3 := b3.size
  clear hb3
  go_wp2_with fail
  refine (get_out w3 q 0 0 none s HSO.out (by omega) (cell_of_row w3 _ 2 _ _ _ R3.out)).mono ?_
  rintro e w4 ⟨rfl, hb4⟩
  have R4 := Lib.hid ((hb4.block q (lt_of_block R3.out)).trans R3.out)
  have b4 := b3.trans (hb4.mono z3)
  have z4 := b4.size
  clear hb4
  go_wp2_with fail
  refine (awake5 w4).mono ?_
  rintro e w5 ⟨rfl, hb5⟩
  have R5 := Lib.hid ((hb5.block q (lt_of_block R4.out)).trans R4.out)
  have b5 := b4.trans (hb5.mono z4)
  have z5 := b5.size
  clear hb5
  go_wp2_with fail
  refine (hold_nil w5 s).mono ?_
  rintro e w6 ⟨rfl, hb6⟩
  have R6 := Lib.hid ((hb6.block q (lt_of_block R5.out)).trans R5.out)
  have b6 := b5.trans (hb6.mono z5)
  have z6 := b6.size
  clear hb6
  go_wp2_with fail
  refine (free_out w6 q 0 0 none s HSO.out (by omega) (cell_of_row w6 _ 2 _ _ _ R6.out)).mono ?_
  rintro e w7 ⟨rfl, hb7⟩
  have R7 := Lib.hid ((hb7.block q (lt_of_block R6.out)).trans R6.out)
  have b7 := b6.trans (hb7.mono z6)
  have z7 := b7.size
  clear hb7
  go_wp2_with fail
  refine (held_nil w7 s).mono ?_
  rintro e w8 ⟨rfl, rfl⟩
  go_wp2_with fail
  refine (used_nil w7).mono ?_
  rintro e w8 ⟨rfl, rfl⟩
  go_wp2_with fail
  refine (slots_nil w7).mono ?_
  rintro e w8 ⟨rfl, rfl⟩
  go_wp2_with fail
  refine (used_cell w7 q 0 (cell_of_row w7 _ 3 _ _ _ R7.out)).mono ?_
  rintro e w8 ⟨rfl, rfl⟩
  go_wp2_with fail
  refine (slots_cell w7 q 0 0 none (by omega) (cell_of_row w7 _ 2 _ _ _ R7.out)).mono ?_
  rintro e w8 ⟨rfl, rfl⟩
  go_wp2_with fail
  go_ret
  exact ⟨rfl, b7⟩
end Go.Proofs.Ytbcpnfkjncpdcaa
