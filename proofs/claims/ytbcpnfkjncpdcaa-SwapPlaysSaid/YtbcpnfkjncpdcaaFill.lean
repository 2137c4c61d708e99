/- flyleafref01.Fill: a text cut, or with bytes 0 behind. -/
import Derived.Test.YtbcpnfkjncpdcaaLawLib
namespace Go.Proofs.Ytbcpnfkjncpdcaa
open Go.RowKit

def fillB (s : ByteArray) (n : Nat) : ByteArray := if n ≤ s.size then s.extract 0 n else s ++ ⟨(List.replicate (n - s.size) (0 : UInt8)).toArray⟩
theorem fillB_64 (s : ByteArray) : fillB s 64 = ⟨(fill64 s).toArray⟩ := by
  unfold fillB
  split
  · rename_i h
    apply ByteArray.ext
    rw [ByteArray.data_extract]
    apply Array.ext'
    simp [fill64, zeroSec, List.length_take]
    omega
  · rename_i h
    apply ByteArray.ext
    apply Array.ext'
    have hl : s.data.toList.length < 64 := by rw [Array.length_toList]; exact Nat.not_le.1 h
    have hl2 : s.data.toList.length = s.size := Array.length_toList
    simp only [fill64, zeroSec, List.take_of_length_le (Nat.le_of_lt hl), List.drop_replicate]
    simp [hl2]

set_option maxHeartbeats 400000 in
theorem fill_any (w : World) (s : ByteArray) (n : Int) (h0 : 0 ≤ n) (h1 : n ≤ 65536) (_hs : s.size ≤ maxLen) : Calls Try.prog 39 #[.string s, .int .i64 n] w fun e w' => e = .returned (.string (fillB s n.toNat)) ∧ Below w.heap.size w w' := by
  obtain ⟨n, rfl⟩ := Int.eq_ofNat_of_zero_le h0
  rw [Int.toNat_natCast]
  unfold maxLen at _hs
  by_cases h : n ≤ s.size
  · have hf : fillB s n = s.extract 0 n := by simp [fillB, h]
    rw [hf]
    clear hf
    go_enter Try.func39, Try.ntmps39
    go_wp2
    go_ret
    exact ⟨rfl, Below.refl _ _⟩
  · have hf : fillB s n = s ++ ⟨(List.replicate (n - s.size) (0 : UInt8)).toArray⟩ := by simp [fillB, h]
    rw [hf]
    obtain ⟨m, hm⟩ : ∃ m, m = n - s.size := ⟨_, rfl⟩
    have hmi : (n : Int) - (s.size : Int) = (m : Int) := by omega
    have hm2 : m ≤ 65536 := by omega
    rw [← hm]
    obtain ⟨z, hz⟩ : ∃ z, z = (⟨(List.replicate m (0 : UInt8)).toArray⟩ : ByteArray) := ⟨_, rfl⟩
    have hzs : z.size = m := by rw [hz]; simp [ByteArray.size]
    have hcv : ∀ W : World, (convert 51 9 (.slice (some ⟨W.heap.size, 0, none⟩) m m)).run Try.prog (W.alloc (.cells (madeCells #[.int .u8 0] m) 5)) = .ok (.string z) (W.alloc (.cells (madeCells #[.int .u8 0] m) 5)) := fun W => by rw [hz]; exact run_string_new W m
    obtain ⟨i0, hi, hz0, hz1, hz2⟩ := info_parts Try.info5
    have hmk := fun W => run_make (P := Try.prog) W 51 5 i0 _ Try.underlying51 hi hz0 .i64 .i64 (m : Int) (m : Int) (by omega) (by omega) (by rw [hz2]; omega) (by omega)
    rw [hz1] at hmk
    have hzs2 : z.size ≤ 65536 := by omega
    have hsum : s.size + z.size ≤ 9223372036854775807 := by omega
    rw [← hz]
    clear hf hm hz hzs hz0 hz1 hz2 hi
    go_enter Try.func39, Try.ntmps39
    go_wp2
    go_ret
    exact ⟨rfl, (Below.refl _ _).alloc (Nat.le_refl _) _⟩
end Go.Proofs.Ytbcpnfkjncpdcaa
