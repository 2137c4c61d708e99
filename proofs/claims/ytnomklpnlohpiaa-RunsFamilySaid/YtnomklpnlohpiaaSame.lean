/- flyleafref13.Same returns true of two slices that hold the same ints; flyleaflaw22.sameCalls of two rows that hold the same calls. -/
import Derived.Test.YtnomklpnlohpiaaBase
namespace Go.Proofs.Ytnomklpnlohpiaa
open Go.RowKit

theorem below_drewN {B : Nat} {a w : World} (h : Below B a w) (n : Nat) : Below B a (w.drewN n) := ⟨h.os, h.tape, h.output, h.size, h.block⟩

set_option maxHeartbeats 400000 in
theorem same_true (w : World) (a b : Option Addr) (n c1 c2 : Nat) (xs : List Int) (hl : xs.length = n) (hn : n ≤ 1000) (ha : IntsAt w a xs) (hb : IntsAt w b xs) :
    Calls Try.prog 13 #[.slice a n c1, .slice b n c2] w fun e w' => e = .returned (.bool true) ∧ Below w.heap.size w w' := by
  have HL := Lib.hid hl
  clear hl
  have hne : ((n : Int) != (n : Int)) = false := by simp
  go_enter Try.func13, Try.ntmps13
  go_wp2
  go_loopw [5] (fun i wr => ∃ k : Nat, k ≤ n ∧ i = .int .i64 k ∧ Below w.heap.size w wr) (fun i _ => n - (intOf i).toNat)
  case atStart => exact ⟨0, by omega, rfl, Below.refl _ _⟩
  case round =>
    obtain ⟨k, hk, rfl, hbel⟩ := hrel
    by_cases hlt : k < n
    · obtain ⟨b1, o1, rfl, h1⟩ := ha k (by rw [HL.out]; exact hlt)
      obtain ⟨b2, o2, rfl, h2⟩ := hb k (by rw [HL.out]; exact hlt)
      have g1 := (hbel.cell (p := ⟨b1, o1 + k, none⟩) (World.block_lt_of_cell? w _ h1)).trans h1
      have g2 := (hbel.cell (p := ⟨b2, o2 + k, none⟩) (World.block_lt_of_cell? w _ h2)).trans h2
      clear h1 h2 ha hb
      generalize xs[k]'(by rw [HL.out]; exact hlt) = x at g1 g2
      go_wp2
      go_quiet (fail)
      go_wp2
      go_roundw
      case rel => exact ⟨k + 1, by omega, by go_num, below_drewN hbel _⟩
      case measure => simp [intOf]; omega
    · go_wp2
      go_ret
      exact ⟨rfl, hbel⟩
end Go.Proofs.Ytnomklpnlohpiaa
