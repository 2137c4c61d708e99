/- block.New: a disk of zero sectors' bytes, or none. -/
import Derived.Test.YtbcpnfkjncpdcaaDisk
namespace Go.Proofs.Ytbcpnfkjncpdcaa
open Go.RowKit

theorem Try.info5 : (Try.prog.info? 5).map (fun i => (i.zero, i.size, i.bytes)) = some (some (.int .u8 0), 1, 1) := by kernel_rfl
def zeroSec : List UInt8 := List.replicate 64 0
def newDM (n : Nat) : DM := ⟨List.replicate n zeroSec, 0, 0, 0⟩

theorem flat_zero (n : Nat) : (List.replicate n zeroSec).flatten = List.replicate (n * 64) 0 := by
  induction n with
  | zero => rfl
  | succ n ih => rw [List.replicate_succ, List.flatten_cons, ih, zeroSec, List.replicate_append_replicate]; congr 1; omega
theorem made_bytes (m : Nat) : madeCells #[.int .u8 0] m = (bv (List.replicate m 0)).toArray := by
  apply Array.ext'
  simp only [madeCells, bv, List.map_replicate]
  rw [Array.toList_map, Array.toList_range]
  apply List.ext_getElem
  · simp
  · intro i h1 h2
    simp [Nat.mod_one]

set_option maxHeartbeats 400000 in
theorem new_ok (w : World) (s : Int) (h0 : 1 ≤ s) (h1 : s ≤ 16384) :
    Calls Try.prog 21 #[.int .i64 s] w fun e w' => ∃ d bb, e = .returned (.pointer (some ⟨d, 0, none⟩)) ∧ w.heap.size ≤ d ∧ w.heap.size ≤ bb ∧ IsDisk w' d bb (newDM s.toNat) ∧ Below w.heap.size w w' := by
  obtain ⟨n, rfl⟩ := Int.eq_ofNat_of_zero_le (show 0 ≤ s by omega)
  obtain ⟨i0, hi, hz0, hz1, hz2⟩ := info_parts Try.info5
  have hmk := fun W => run_make (P := Try.prog) W 51 5 i0 _ Try.underlying51 hi hz0 .i64 .i64 ((n : Int) * 64) ((n : Int) * 64) (by omega) (by omega) (by rw [hz2]; omega) (by omega)
  rw [hz1] at hmk
  clear hz0 hz1 hz2 hi
  go_enter Try.func21, Try.ntmps21
  go_wp2
  go_ret
  refine ⟨w.heap.size + 1, w.heap.size, rfl, by omega, Nat.le_refl _, ⟨?_, ?_, ?_, ?_⟩, ((Below.refl _ _).alloc (Nat.le_refl _) _).alloc (by simp) _⟩
  · have := heap_alloc_new (w.alloc (Obj.cells (madeCells #[Value.int IntKind.u8 0] (n * 64)) 5)) (.cells #[Value.slice (some ⟨w.heap.size, 0, none⟩) (n * 64) (n * 64), .int .i64 0, .int .i64 0, .int .i64 0] 53)
    rw [World.size_alloc] at this
    simpa [newDM] using this
  · rw [Below.heap_alloc _ _ _ (by simp), heap_alloc_new, made_bytes]
    simp only [newDM, Int.toNat_natCast, flat_zero]
  · intro x hx
    simp only [newDM, List.mem_replicate] at hx
    rw [hx.2]; rfl
  · simp [newDM]; omega
theorem new_no (w : World) (s : Int) (h : s < 1 ∨ 16384 < s) : Calls Try.prog 21 #[.int .i64 s] w fun e w' => e = .returned (.pointer none) ∧ w = w' := by
  rcases h with h | h
  all_goals
    go_enter Try.func21, Try.ntmps21
    go_wp2
    go_ret
    exact ⟨rfl, rfl⟩
end Go.Proofs.Ytbcpnfkjncpdcaa
