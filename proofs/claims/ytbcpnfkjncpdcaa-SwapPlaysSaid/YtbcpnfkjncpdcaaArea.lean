/- Package swap: an area's slots, said of its blocks. -/
import Derived.Test.YtbcpnfkjncpdcaaAny
namespace Go.Proofs.Ytbcpnfkjncpdcaa
open Go.RowKit

/-- An area: its disk, the first sector, how often each slot is held, how many are. -/
structure SA where
  D : DM
  first : Int
  held : List Int
  used : Int

structure IsArea (w : World) (a hb d bb : Nat) (A : SA) : Prop where
  head : w.heap[a]? = some (.cells [Value.pointer (some ⟨d, 0, none⟩), .int .i64 A.first, .slice (some ⟨hb, 0, none⟩) A.held.length A.held.length, .int .i64 A.used].toArray 80 (0, 0))
  row : w.heap[hb]? = some (.cells (A.held.map (Value.int .i64)).toArray 3 (0, 0))
  disk : IsDisk w d bb A.D
  small : A.held.length ≤ 4096
  nah : a ≠ hb
  nad : a ≠ d
  nab : a ≠ bb
  nhd : hb ≠ d
  nhb : hb ≠ bb

theorem IsArea.mods {S : List Nat} {w w' : World} {a hb d bb : Nat} {A : SA} (h : IsArea w a hb d bb A) (hm : Mods S w w') (h1 : a ∉ S) (h2 : hb ∉ S) (h3 : d ∉ S) (h4 : bb ∉ S) : IsArea w' a hb d bb A :=
  ⟨(hm.block a (lt_of_block h.head) h1).trans h.head, (hm.block hb (lt_of_block h.row) h2).trans h.row, h.disk.mods hm h3 h4, h.small, h.nah, h.nad, h.nab, h.nhd, h.nhb⟩
theorem IsArea.below {B : Nat} {w w' : World} {a hb d bb : Nat} {A : SA} (h : IsArea w a hb d bb A) (hb' : Below B w w') (hB : w.heap.size ≤ B) : IsArea w' a hb d bb A :=
  ⟨(hb'.block a (Nat.lt_of_lt_of_le (lt_of_block h.head) hB)).trans h.head, (hb'.block hb (Nat.lt_of_lt_of_le (lt_of_block h.row) hB)).trans h.row, h.disk.below hb' hB, h.small, h.nah, h.nad, h.nab, h.nhd, h.nhb⟩
/-- Behind a change of the disk alone. -/
theorem IsArea.withDisk {w w' : World} {a hb d bb : Nat} {A : SA} {D2 : DM} (h : IsArea w a hb d bb A) (hm : Mods [d, bb] w w') (hd : IsDisk w' d bb D2) : IsArea w' a hb d bb { A with D := D2 } :=
  ⟨(hm.block a (lt_of_block h.head) (by simp; exact ⟨h.nad, h.nab⟩)).trans h.head, (hm.block hb (lt_of_block h.row) (by simp; exact ⟨h.nhd, h.nhb⟩)).trans h.row, hd, h.small, h.nah, h.nad, h.nab, h.nhd, h.nhb⟩
theorem IsArea.lt {w : World} {a hb d bb : Nat} {A : SA} (h : IsArea w a hb d bb A) : a < w.heap.size ∧ hb < w.heap.size ∧ d < w.heap.size ∧ bb < w.heap.size :=
  ⟨lt_of_block h.head, lt_of_block h.row, lt_of_block h.disk.head, lt_of_block h.disk.row⟩
section
variable {w : World} {a hb d bb : Nat} {A : SA}
theorem IsArea.c0 (h : IsArea w a hb d bb A) : w.cell? ⟨a, 0, none⟩ = some (.pointer (some ⟨d, 0, none⟩)) := by rw [cell_of_row w a 0 _ _ _ h.head]; rfl
theorem IsArea.c1 (h : IsArea w a hb d bb A) : w.cell? ⟨a, 1, none⟩ = some (.int .i64 A.first) := by rw [cell_of_row w a 1 _ _ _ h.head]; rfl
theorem IsArea.c2 (h : IsArea w a hb d bb A) : w.cell? ⟨a, 2, none⟩ = some (.slice (some ⟨hb, 0, none⟩) A.held.length A.held.length) := by rw [cell_of_row w a 2 _ _ _ h.head]; rfl
theorem IsArea.c3 (h : IsArea w a hb d bb A) : w.cell? ⟨a, 3, none⟩ = some (.int .i64 A.used) := by rw [cell_of_row w a 3 _ _ _ h.head]; rfl
theorem IsArea.at (h : IsArea w a hb d bb A) {k : Nat} (hk : k < A.held.length) : w.cell? ⟨hb, k, none⟩ = some (.int .i64 A.held[k]) := by
  rw [cell_of_row w _ _ _ _ _ h.row]
  simp [hk]
/-- Behind a store of a slot's count, and new blocks. -/
theorem IsArea.storeHeld (h : IsArea w a hb d bb A) {w' : World} {k : Nat} {v : Int} (hm : ∀ j, j < w.heap.size → w'.heap[j]? = (w.setCell ⟨hb, k, none⟩ (.int .i64 v)).heap[j]?) : IsArea w' a hb d bb { A with held := A.held.set k v } := by
  refine ⟨?_, ?_, ?_, by simpa using h.small, h.nah, h.nad, h.nab, h.nhd, h.nhb⟩
  · rw [hm a (lt_of_block h.head), Below.heap_setCell _ _ _ _ h.nah, h.head]
    simp
  · rw [hm hb (lt_of_block h.row), row_setCell h.row, List.map_set]
  · exact ⟨by rw [hm d (lt_of_block h.disk.head), Below.heap_setCell _ _ _ _ (Ne.symm h.nhd), h.disk.head], by rw [hm bb (lt_of_block h.disk.row), Below.heap_setCell _ _ _ _ (Ne.symm h.nhb), h.disk.row], h.disk.each, h.disk.small⟩
theorem IsArea.storeUsed (h : IsArea w a hb d bb A) {w' : World} {v : Int} (hm : ∀ j, j < w.heap.size → w'.heap[j]? = (w.setCell ⟨a, 3, none⟩ (.int .i64 v)).heap[j]?) : IsArea w' a hb d bb { A with used := v } := by
  refine ⟨?_, ?_, ?_, h.small, h.nah, h.nad, h.nab, h.nhd, h.nhb⟩
  · rw [hm a (lt_of_block h.head), row_setCell h.head]
    rfl
  · rw [hm hb (lt_of_block h.row), Below.heap_setCell _ _ _ _ (Ne.symm h.nah), h.row]
  · exact ⟨by rw [hm d (lt_of_block h.disk.head), Below.heap_setCell _ _ _ _ (Ne.symm h.nad), h.disk.head], by rw [hm bb (lt_of_block h.disk.row), Below.heap_setCell _ _ _ _ (Ne.symm h.nab), h.disk.row], h.disk.each, h.disk.small⟩
end

theorem Try.info3 : (Try.prog.info? 3).map (fun i => (i.zero, i.size, i.bytes)) = some (some (.int .i64 0), 1, 8) := by kernel_rfl
theorem made_ints (m : Nat) : madeCells #[.int .i64 0] m = ((List.replicate m (0 : Int)).map (Value.int .i64)).toArray := by
  apply Array.ext'
  simp only [madeCells, List.map_replicate]
  rw [Array.toList_map, Array.toList_range]
  apply List.ext_getElem
  · simp
  · intro i h1 h2
    simp [Nat.mod_one]

/-! ## New -/
set_option maxHeartbeats 800000 in
theorem area_new (w : World) (d bb : Nat) (D : DM) (first : Int) (n : Nat) (hn : n ≤ 4096) (h0 : 0 ≤ first) (h1 : first + n ≤ D.secs.length) (h : IsDisk w d bb D) :
    Calls Try.prog 32 #[.pointer (some ⟨d, 0, none⟩), .int .i64 first, .int .i64 n] w fun e w' => ∃ a hb, e = .returned (.tuple #[.pointer (some ⟨a, 0, none⟩), .int .i64 0]) ∧ w.heap.size ≤ a ∧ w.heap.size ≤ hb ∧
      IsArea w' a hb d bb ⟨D, first, List.replicate n 0, 0⟩ ∧ Below w.heap.size w w' := by
  obtain ⟨i0, hi, hz0, hz1, hz2⟩ := info_parts Try.info3
  have hmk := fun W => run_make (P := Try.prog) W 36 3 i0 _ Try.underlying36 hi hz0 .i64 .i64 (n : Int) (n : Int) (by omega) (by omega) (by rw [hz2]; omega) (by omega)
  rw [hz1] at hmk
  have hc0 := h.c0
  have hs := h.small
  have HD := Lib.hid h
  clear hz0 hz1 hz2 hi h
  go_enter Try.func32, Try.ntmps32
  go_wp2_with (go_at_call 20; refine (sectors_any _ d _ _ _ hs hc0).mono ?_; rintro e w1 ⟨rfl, rfl⟩)
  go_ret2
  have hdl := lt_of_block HD.out.head
  have hbl := lt_of_block HD.out.row
  have hbel : Below w.heap.size w ((w.alloc (Obj.cells (madeCells #[Value.int IntKind.i64 0] n) 3)).alloc (Obj.cells #[Value.pointer (some ⟨d, 0, none⟩), .int .i64 first, .slice (some ⟨w.heap.size, 0, none⟩) n n, .int .i64 0] 80)) := ((Below.refl _ _).alloc (Nat.le_refl _) _).alloc (by simp) _
  refine ⟨w.heap.size + 1, w.heap.size, rfl, by omega, Nat.le_refl _, ⟨?_, ?_, HD.out.below hbel (Nat.le_refl _), by simpa using hn, by omega, by omega, by omega, by omega, by omega⟩, hbel⟩
  · have := heap_alloc_new (w.alloc (Obj.cells (madeCells #[Value.int IntKind.i64 0] n) 3)) (Obj.cells #[Value.pointer (some ⟨d, 0, none⟩), .int .i64 first, .slice (some ⟨w.heap.size, 0, none⟩) n n, .int .i64 0] 80)
    rw [World.size_alloc] at this
    simpa using this
  · rw [Below.heap_alloc _ _ _ (by simp), heap_alloc_new, made_ints]
theorem area_new_no (w : World) (d n c : Nat) (b : Option Addr) (first slots : Int) (hs : n ≤ 16384) (hf : slots < 0 ∨ 4096 < slots ∨ first < 0 ∨ (n : Int) - slots < first) (h : w.cell? ⟨d, 0, none⟩ = some (.slice b (n * 64) c)) :
    Calls Try.prog 32 #[.pointer (some ⟨d, 0, none⟩), .int .i64 first, .int .i64 slots] w fun e w' => e = .returned (.tuple #[.pointer none, .int .i64 1]) ∧ w = w' := by
  by_cases h1 : slots < 0
  · go_enter Try.func32, Try.ntmps32
    go_wp2
    go_ret2
    exact ⟨rfl, rfl⟩
  · by_cases h2 : 4096 < slots
    · go_enter Try.func32, Try.ntmps32
      go_wp2
      go_ret2
      exact ⟨rfl, rfl⟩
    · by_cases h3 : first < 0
      · go_enter Try.func32, Try.ntmps32
        go_wp2
        go_ret2
        exact ⟨rfl, rfl⟩
      · have h4 : (n : Int) - slots < first := by omega
        clear hf
        go_enter Try.func32, Try.ntmps32
        go_wp2_with (go_at_call 20; refine (sectors_any _ d _ _ _ hs h).mono ?_; rintro e w1 ⟨rfl, rfl⟩)
        go_ret2
        exact ⟨rfl, rfl⟩
theorem area_new_nil (w : World) (first slots : Int) : Calls Try.prog 32 #[.pointer none, .int .i64 first, .int .i64 slots] w fun e w' => e = .returned (.tuple #[.pointer none, .int .i64 1]) ∧ w = w' := by
  go_enter Try.func32, Try.ntmps32
  go_wp2
  go_ret2
  exact ⟨rfl, rfl⟩

/-! ## The small ones -/
theorem slots_any (w : World) (a hb d bb : Nat) (A : SA) (h : IsArea w a hb d bb A) : Calls Try.prog 33 #[.pointer (some ⟨a, 0, none⟩)] w fun e w' => e = .returned (.int .i64 A.held.length) ∧ w = w' := by
  have c2 := h.c2
  have hs := h.small
  clear h
  go_enter Try.func33, Try.ntmps33
  go_wp2
  go_ret
  exact ⟨rfl, rfl⟩
theorem slots_nil (w : World) : Calls Try.prog 33 #[.pointer none] w fun e w' => e = .returned (.int .i64 0) ∧ w = w' := by
  go_enter Try.func33, Try.ntmps33
  go_wp2
  go_ret
  exact ⟨rfl, rfl⟩
theorem used_any (w : World) (a hb d bb : Nat) (A : SA) (h : IsArea w a hb d bb A) : Calls Try.prog 36 #[.pointer (some ⟨a, 0, none⟩)] w fun e w' => e = .returned (.int .i64 A.used) ∧ w = w' := by
  have c3 := h.c3
  clear h
  go_enter Try.func36, Try.ntmps36
  go_wp2
  go_ret
  exact ⟨rfl, rfl⟩
theorem used_nil (w : World) : Calls Try.prog 36 #[.pointer none] w fun e w' => e = .returned (.int .i64 0) ∧ w = w' := by
  go_enter Try.func36, Try.ntmps36
  go_wp2
  go_ret
  exact ⟨rfl, rfl⟩
/-- How often a slot is held: of none, never. -/
def SA.heldAt (A : SA) (s : Int) : Int := if s < 0 ∨ (A.held.length : Int) ≤ s then 0 else A.held.getD s.toNat 0
theorem held_any (w : World) (a hb d bb : Nat) (A : SA) (s : Int) (h : IsArea w a hb d bb A) : Calls Try.prog 41 #[.pointer (some ⟨a, 0, none⟩), .int .i64 s] w fun e w' => e = .returned (.int .i64 (A.heldAt s)) ∧ w = w' := by
  have c2 := h.c2
  have hs := h.small
  by_cases h1 : s < 0
  · have : A.heldAt s = 0 := by simp [SA.heldAt, h1]
    rw [this]
    clear h
    go_enter Try.func41, Try.ntmps41
    go_wp2
    go_ret
    exact ⟨rfl, rfl⟩
  · by_cases h2 : (A.held.length : Int) ≤ s
    · have : A.heldAt s = 0 := by simp [SA.heldAt, h2]
      rw [this]
      clear h
      go_enter Try.func41, Try.ntmps41
      go_wp2
      go_ret
      exact ⟨rfl, rfl⟩
    · obtain ⟨k, rfl⟩ := Int.eq_ofNat_of_zero_le (show 0 ≤ s by omega)
      have hk : k < A.held.length := by omega
      have : A.heldAt k = A.held[k] := by simp [SA.heldAt, hk]; omega
      rw [this]
      have hc := h.at hk
      clear h
      generalize A.held[k] = v at *
      go_enter Try.func41, Try.ntmps41
      go_wp2
      go_ret
      exact ⟨rfl, rfl⟩
theorem held_nil (w : World) (s : Int) : Calls Try.prog 41 #[.pointer none, .int .i64 s] w fun e w' => e = .returned (.int .i64 0) ∧ w = w' := by
  go_enter Try.func41, Try.ntmps41
  go_wp2
  go_ret
  exact ⟨rfl, rfl⟩

end Go.Proofs.Ytbcpnfkjncpdcaa
