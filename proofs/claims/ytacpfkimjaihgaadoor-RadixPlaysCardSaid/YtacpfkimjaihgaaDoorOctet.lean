/- octet.Put and flyleafref01.Put: the lowest bytes of a number, the least first. -/
import Derived.Test.YtacpfkimjaihgaaDoorLib
namespace Go.Proofs.YtacpfkimjaihgaaDoor
open Go.RowKit
set_option linter.unusedVariables false

def leB (n : Int) (i : Nat) : UInt8 := UInt8.ofNat ((n / 256 ^ i) % 256).toNat
def leL (n : Int) (w : Nat) : List UInt8 := (List.range w).map (leB n)
theorem leL_length (n : Int) (w : Nat) : (leL n w).length = w := by simp [leL]
theorem leL_succ (n : Int) (w : Nat) : leL n (w + 1) = leL n w ++ [leB n w] := by simp [leL, List.range_succ]
theorem leB_toNat (n : Int) (i : Nat) : ((leB n i).toNat : Int) = (n / 256 ^ i) % 256 := by
  simp only [leB, UInt8.toNat_ofNat']
  have : 0 ≤ (n / 256 ^ i) % 256 ∧ (n / 256 ^ i) % 256 < 256 := by omega
  generalize (n / 256 ^ i) % 256 = z at *
  omega
def leS (n : Int) (w : Nat) : ByteArray := ⟨(leL n w).toArray⟩
theorem leS_size (n : Int) (w : Nat) : (leS n w).size = w := by simp [leS, ByteArray.size, leL_length]

def partL (n : Int) (w t : Nat) : List UInt8 := leL n t ++ List.replicate (w - t) 0
theorem partL_length {n : Int} {w t : Nat} (h : t ≤ w) : (partL n w t).length = w := by simp [partL, leL_length]; omega
theorem partL_all (n : Int) (w : Nat) : partL n w w = leL n w := by simp [partL]
theorem partL_set {n : Int} {w t : Nat} (h : t < w) : (bv (partL n w t)).set t (.int .u8 (n / 256 ^ t % 256)) = bv (partL n w (t + 1)) := by
  have h1 : w - t = (w - (t + 1)) + 1 := by omega
  rw [← leB_toNat]
  simp only [partL, bv_append]
  rw [List.set_append, bv_length, leL_length, if_neg (by omega), Nat.sub_self, h1, List.replicate_succ, leL_succ, bv_append]
  simp [bv]
theorem Tryd.infoU8 : (Tryd.prog.info? 5).map (fun i => (i.zero, i.size, i.bytes)) = some (some (.int .u8 0), 1, 1) := by kernel_rfl
theorem made_bytes (m : Nat) : madeCells #[.int .u8 0] m = (bv (List.replicate m 0)).toArray := by
  apply Array.ext'
  simp only [madeCells, bv, List.map_replicate]
  rw [Array.toList_map, Array.toList_range]
  apply List.ext_getElem
  · simp
  · intro i h1 h2
    simp [Nat.mod_one]
set_option maxRecDepth 100000 in
set_option maxHeartbeats 1000000 in
theorem oput_any (w : World) (n : Int) (k : Nat) (hk : k ≤ 8) (h0 : 0 ≤ n) (h1 : n < 18446744073709551616) :
    Calls Tryd.prog 93 #[.int .u64 n, .int .i64 k] w fun e w' => e = .returned (.string (leS n k)) ∧ Below w.heap.size w w' := by
  obtain ⟨i0, hi, hz0, hz1, hz2⟩ := info_parts Tryd.infoU8
  have hmk := fun W => run_make (P := Tryd.prog) W 64 5 i0 _ Tryd.underlying64 hi hz0 .i64 .i64 (k : Int) (k : Int) (by omega) (by omega) (by rw [hz2]; omega) (by omega)
  rw [hz1] at hmk
  clear hz0 hz1 hz2 hi
  have hmx : max (k : Int) 0 = k := by omega
  have hmn : min (k : Int) 8 = k := by omega
  go_enter Tryd.func93, Tryd.ntmps93
  go_wp2_with fail
  have hrow : (w.alloc (Obj.cells (madeCells #[Value.int IntKind.u8 0] k) 5)).heap[w.heap.size]? = some (.cells (bv (partL n k 0)).toArray 5 (0, 0)) := by
    rw [heap_alloc_new, made_bytes]
    rfl
  have bA : Below w.heap.size w (w.alloc (Obj.cells (madeCells #[Value.int IntKind.u8 0] k) 5)) := (Below.refl _ _).alloc (Nat.le_refl _) _
  have HR := Lib.hid hrow
  clear hrow hmk hmx hmn
  generalize (w.alloc (Obj.cells (madeCells #[Value.int IntKind.u8 0] k) 5)) = w1 at *
  obtain ⟨b, hb⟩ : ∃ b, b = w.heap.size := ⟨_, rfl⟩
  rw [← hb] at HR ⊢
  have HB := Lib.hid hb
  clear hb
  go_loopw [6, 13] (fun _ i wx => ∃ (t : Nat), t ≤ k ∧ i = .int .i64 t ∧ Hid (wx.heap[b]? = some (.cells (bv (partL n k t)).toArray 5 (0, 0))) ∧ Below w.heap.size w wx) (fun _ i _ => k - (intOf i).toNat)
  case atStart => exact ⟨0, by omega, rfl, HR, bA⟩
  case round =>
    clear HR bA
    obtain ⟨t, ht, rfl, HR, hbel⟩ := hrel
    by_cases hlt : t < k
    · have hc : wr.cell? ⟨b, t, none⟩ = some (.int .u8 (((partL n k t)[t]'(by rw [partL_length ht]; exact hlt)).toNat : Int)) := by
        rw [cell_of_row _ _ _ _ _ _ HR.out]
        simp [bv, partL_length ht, hlt]
      have fz := frozen_of_row wr b t _ _ HR.out
      generalize ((partL n k t)[t]'(by rw [partL_length ht]; exact hlt)).toNat = old at hc
      have h8 : t = 0 ∨ t = 1 ∨ t = 2 ∨ t = 3 ∨ t = 4 ∨ t = 5 ∨ t = 6 ∨ t = 7 := by omega
      have HS := Lib.hid (show Hid (∀ z : Int, z = n / 256 ^ t % 256 → (wr.setCell ⟨b, t, none⟩ (.int .u8 z)).heap[b]? = some (.cells (bv (partL n k (t + 1))).toArray 5 (0, 0))) from Lib.hid (fun z hz => by
        rw [hz, row_setCell HR.out, partL_set hlt]))
      have HL := Lib.hid hlt
      have hbb : w.heap.size ≤ b := by rw [HB.out]; exact Nat.le_refl _
      clear ht HR
      rcases h8 with rfl | rfl | rfl | rfl | rfl | rfl | rfl | rfl
      all_goals
        go_wp2_with fail
        go_roundw
        case rel => exact ⟨_ + 1, HL.out, by go_num, Lib.hid (HS.out.out _ (by simp; try omega)), hbel.setCell (p := ⟨b, _, none⟩) hbb _⟩
        case measure => simp [intOf]; have := HL.out; omega
    · have htk : t = k := by omega
      subst htk
      have hcv := run_string_of (P := Tryd.prog) Tryd.underlying64 Tryd.underlying5 Tryd.underlying9 wr b 0 t t (leL n t) (leL_length n t) (fun j hj => by
        rw [cell_of_row _ _ _ _ _ _ HR.out, partL_all]
        simp [bv, hj])
      go_wp2_with fail
      go_ret
      exact ⟨rfl, hbel⟩
end Go.Proofs.YtacpfkimjaihgaaDoor
