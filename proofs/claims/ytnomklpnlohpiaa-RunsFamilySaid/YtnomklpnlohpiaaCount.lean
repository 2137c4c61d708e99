/- What runs.Count returns: the eleven counts, in a block of its own. For any row of at most 30 calls. -/
import Derived.Test.YtnomklpnlohpiaaBase
namespace Go.Proofs.Ytnomklpnlohpiaa
open Go.RowKit

set_option maxHeartbeats 400000 in
theorem count_any (w : World) (a : Option Addr) (n cap : Nat) (cs : List CV) (hl : cs.length = n) (hn : n ≤ 30) (hcs : CallsAt w a cs) :
    Calls Try.prog 8 #[.slice a n cap] w fun e w' => e = .returned (.slice (some ⟨w.heap.size, 0, none⟩) 11 11) ∧
      w'.heap[w.heap.size]? = some (.cells (cntL cs).toArray 43 (0,0)) ∧ Below w.heap.size w w' := by
  have HL := Lib.hid hl
  clear hl
  go_enter Try.func8, Try.ntmps8
  go_wp2
  go_loopw [8] (fun i wr => ∃ k : Nat, k ≤ n ∧ i = .int .i64 k ∧ wr.heap[w.heap.size]? = some (.cells (cntL (cs.take k)).toArray 43 (0,0)) ∧ Below w.heap.size w wr)
    (fun i _ => n - (intOf i).toNat)
  case atStart => exact ⟨0, by omega, rfl, heap_alloc_new _ _, (Below.refl _ _).alloc (Nat.le_refl _) _⟩
  case round =>
    obtain ⟨k, hk, rfl, hB, hbel⟩ := hrel
    by_cases hlt : k < n
    · have hks : k < cs.length := by rw [HL.out]; exact hlt
      obtain ⟨b, off, rfl, hc⟩ := hcs k hks
      have hb := World.block_lt_of_cell? w _ (hc 0 (by omega))
      simp only at hb
      obtain ⟨c, hcc⟩ : ∃ c, c = cs[k] := ⟨_, rfl⟩
      have hts : cs.take (k + 1) = cs.take k ++ [c] := by rw [hcc, List.take_succ_eq_append_getElem hks]
      rw [← hcc] at hc
      clear hcc
      have HTS := Lib.hid hts
      clear hts
      have g0 := (hbel.cell (p := ⟨b, off + k * 9, none⟩) hb).trans (hc 0 (by omega))
      have g1 := (hbel.cell (p := ⟨b, off + k * 9 + 1, none⟩) hb).trans (hc 1 (by omega))
      have g2 := (hbel.cell (p := ⟨b, off + k * 9 + 2, none⟩) hb).trans (hc 2 (by omega))
      have g3 := (hbel.cell (p := ⟨b, off + k * 9 + 3, none⟩) hb).trans (hc 3 (by omega))
      have g4 := (hbel.cell (p := ⟨b, off + k * 9 + 4, none⟩) hb).trans (hc 4 (by omega))
      have g5 := (hbel.cell (p := ⟨b, off + k * 9 + 5, none⟩) hb).trans (hc 5 (by omega))
      have g6 := (hbel.cell (p := ⟨b, off + k * 9 + 6, none⟩) hb).trans (hc 6 (by omega))
      have g7 := (hbel.cell (p := ⟨b, off + k * 9 + 7, none⟩) hb).trans (hc 7 (by omega))
      have g8 := (hbel.cell (p := ⟨b, off + k * 9 + 8, none⟩) hb).trans (hc 8 (by omega))
      simp only [CV.cell] at g0 g1 g2 g3 g4 g5 g6 g7 g8
      clear hc
      by_cases h1 : 1 ≤ c.op ∧ c.op ≤ 11
      · obtain ⟨h1, h2⟩ := h1
        have hcl := cnt_le (cs.take k) (c.op - 1).toNat
        have hcl2 : (cs.take k).length ≤ k := by simp; omega
        have e1 : (c.op - 1).toNat = c.op.toNat - 1 := by omega
        have hcl3 : cnt (cs.take k) (c.op.toNat - 1) ≤ 30 := by rw [← e1]; omega
        clear hcl hcl2
        have gc : wr.cell? ⟨w.heap.size, c.op.toNat - 1, none⟩ = some (.int .i64 (cnt (cs.take k) (c.op.toNat - 1))) := by
          rw [cell_of_row wr _ _ _ _ _ hB]; simpa using cntL_get (cs.take k) (c.op.toNat - 1) (by omega)
        have gf := frozen_of_row wr w.heap.size (c.op.toNat - 1) _ _ hB
        have hs := lt_of_block hB
        have HE := Lib.hid e1
        have HBB := Lib.hid hB
        clear e1 hB
        go_wp2
        go_roundw
        case rel =>
          refine ⟨k + 1, by omega, by go_num, ?_, ?_⟩
          · rw [HTS.out, cntL_hit _ _ h1 h2, HE.out]
            rw [Below.heap_alloc _ _ _ (by simpa using hs)]
            exact row_setCell HBB.out
          · exact (hbel.setCell (p := ⟨w.heap.size, c.op.toNat - 1, none⟩) (Nat.le_refl _) _).alloc (by simpa using hbel.size) _
        case measure => simp [intOf]; omega
      · have hmiss : cntL (cs.take (k + 1)) = cntL (cs.take k) := by rw [HTS.out, cntL_miss _ _ h1]
        have HM := Lib.hid hmiss
        clear hmiss
        have h1' : c.op < 1 ∨ 11 < c.op := by omega
        have hs := lt_of_block hB
        have HBB := Lib.hid hB
        clear hB
        rcases h1' with h1' | h1'
        all_goals
          go_wp2
          go_roundw
          case rel =>
            refine ⟨k + 1, by omega, by go_num, ?_, hbel.alloc hbel.size _⟩
            rw [HM.out, Below.heap_alloc _ _ _ hs]
            exact HBB.out
          case measure => simp [intOf]; omega
    · have hkn : cs.take k = cs := List.take_of_length_le (by rw [HL.out]; omega)
      rw [hkn] at hB
      clear hkn
      have HBB := Lib.hid hB
      clear hB
      go_wp2
      go_ret
      exact ⟨rfl, HBB.out, hbel⟩
/-- The same, the new block under a name. -/
theorem count_at (w : World) (a : Option Addr) (n cap : Nat) (cs : List CV) (hl : cs.length = n) (hn : n ≤ 30) (hcs : CallsAt w a cs) :
    Calls Try.prog 8 #[.slice a n cap] w fun e w' => ∃ g, w.heap.size ≤ g ∧ e = .returned (.slice (some ⟨g, 0, none⟩) 11 11) ∧
      w'.heap[g]? = some (.cells (cntL cs).toArray 43 (0,0)) ∧ Below w.heap.size w w' :=
  (count_any w a n cap cs hl hn hcs).mono fun _ _ ⟨h1, h2, h3⟩ => ⟨_, Nat.le_refl _, h1, h2, h3⟩
end Go.Proofs.Ytnomklpnlohpiaa
