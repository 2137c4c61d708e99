/- flyleaflaw22.sameCalls returns true of two rows that hold the same calls. -/
import Derived.Test.YtnomklpnlohpiaaSame
namespace Go.Proofs.Ytnomklpnlohpiaa
open Go.RowKit

set_option maxRecDepth 100000 in
set_option maxHeartbeats 1000000 in
theorem sameCalls_true (w : World) (a b : Option Addr) (n c1 c2 : Nat) (cs : List CV) (hl : cs.length = n) (hn : n ≤ 1000) (ha : CallsAt w a cs) (hb : CallsAt w b cs) :
    Calls Try.prog 9 #[.slice a n c1, .slice b n c2] w fun e w' => e = .returned (.bool true) ∧ Below w.heap.size w w' := by
  have HL := Lib.hid hl
  clear hl
  have hne : ((n : Int) != (n : Int)) = false := by simp
  go_enter Try.func9, Try.ntmps9
  go_wp2
  go_loopw [5] (fun i wr => ∃ k : Nat, k ≤ n ∧ i = .int .i64 k ∧ Below w.heap.size w wr) (fun i _ => n - (intOf i).toNat)
  case atStart => exact ⟨0, by omega, rfl, Below.refl _ _⟩
  case round =>
    obtain ⟨k, hk, rfl, hbel⟩ := hrel
    by_cases hlt : k < n
    · obtain ⟨b1, o1, rfl, h1⟩ := ha k (by rw [HL.out]; exact hlt)
      obtain ⟨b2, o2, rfl, h2⟩ := hb k (by rw [HL.out]; exact hlt)
      have l1 := World.block_lt_of_cell? w _ (h1 0 (by omega))
      have l2 := World.block_lt_of_cell? w _ (h2 0 (by omega))
      generalize cs[k]'(by rw [HL.out]; exact hlt) = c at h1 h2
      have g0 := (hbel.cell (p := ⟨b1, o1 + k * 9, none⟩) l1).trans (h1 0 (by omega))
      have g1 := (hbel.cell (p := ⟨b1, o1 + k * 9 + 1, none⟩) l1).trans (h1 1 (by omega))
      have g2 := (hbel.cell (p := ⟨b1, o1 + k * 9 + 2, none⟩) l1).trans (h1 2 (by omega))
      have g3 := (hbel.cell (p := ⟨b1, o1 + k * 9 + 3, none⟩) l1).trans (h1 3 (by omega))
      have g4 := (hbel.cell (p := ⟨b1, o1 + k * 9 + 4, none⟩) l1).trans (h1 4 (by omega))
      have g5 := (hbel.cell (p := ⟨b1, o1 + k * 9 + 5, none⟩) l1).trans (h1 5 (by omega))
      have g8 := (hbel.cell (p := ⟨b1, o1 + k * 9 + 8, none⟩) l1).trans (h1 8 (by omega))
      have k0 := (hbel.cell (p := ⟨b2, o2 + k * 9, none⟩) l2).trans (h2 0 (by omega))
      have k1 := (hbel.cell (p := ⟨b2, o2 + k * 9 + 1, none⟩) l2).trans (h2 1 (by omega))
      have k2 := (hbel.cell (p := ⟨b2, o2 + k * 9 + 2, none⟩) l2).trans (h2 2 (by omega))
      have k3 := (hbel.cell (p := ⟨b2, o2 + k * 9 + 3, none⟩) l2).trans (h2 3 (by omega))
      have k4 := (hbel.cell (p := ⟨b2, o2 + k * 9 + 4, none⟩) l2).trans (h2 4 (by omega))
      have k5 := (hbel.cell (p := ⟨b2, o2 + k * 9 + 5, none⟩) l2).trans (h2 5 (by omega))
      have k8 := (hbel.cell (p := ⟨b2, o2 + k * 9 + 8, none⟩) l2).trans (h2 8 (by omega))
      simp only [CV.cell] at g0 g1 g2 g3 g4 g5 g8 k0 k1 k2 k3 k4 k5 k8
      clear h1 h2 ha hb
      go_wp2
      go_quiet (fail)
      go_wp2
      go_roundw
      case rel => exact ⟨k + 1, by omega, by go_num, below_drewN hbel _⟩
      case measure => simp [intOf]; omega
    · go_wp2
      go_ret
      exact ⟨rfl, hbel⟩
end Go.Proofs.Ytnomklpnlohpiaa
