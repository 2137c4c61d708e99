/- flyleafref01.Put of eight bytes, and law 05's page by a number. -/
import Derived.Test.YtbcpnfkjncpdcaaFill
import Derived.Test.YtbcpnfkjncpdcaaBits
namespace Go.Proofs.Ytbcpnfkjncpdcaa
open Go.RowKit

def dv (v : Int) : Nat → Int
  | 0 => v
  | t + 1 => dv v t / 256
def putL (v : Int) : Nat → List UInt8
  | 0 => []
  | t + 1 => putL v t ++ [UInt8.ofNat ((dv v t).toNat % 256)]
theorem putL_length (v : Int) : ∀ t, (putL v t).length = t
  | 0 => rfl
  | t + 1 => by simp [putL, putL_length v t]
theorem app_bytes (a b : List UInt8) : (⟨a.toArray⟩ : ByteArray) ++ ⟨b.toArray⟩ = ⟨(a ++ b).toArray⟩ := by
  apply ByteArray.ext
  simp

set_option maxRecDepth 100000 in
set_option maxHeartbeats 800000 in
theorem put_any (w : World) (v : Int) (h0 : 0 ≤ v) (h1 : v < 2 ^ 64) : Calls Try.prog 51 #[.int .u64 v, .int .i64 8] w fun e w' => e = .returned (.string ⟨(putL v 8).toArray⟩) ∧ Below w.heap.size w w' := by
  go_enter Try.func51, Try.ntmps51
  go_wp2_with fail
  go_loopw [0, 5, 6] (fun v' s i wx => ∃ (t : Nat) (x : Int) (S : ByteArray), t ≤ 8 ∧ i = .int .i64 t ∧ v' = .int .u64 x ∧ 0 ≤ x ∧ x < 2 ^ 64 ∧ x = dv v t ∧ s = .string S ∧ S = ⟨(putL v t).toArray⟩ ∧ Below w.heap.size w wx) (fun _ _ i _ => 8 - (intOf i).toNat)
  case atStart => exact ⟨0, v, _, by omega, rfl, rfl, h0, h1, rfl, rfl, rfl, Below.refl _ _⟩
  case round =>
    obtain ⟨t, x, S, ht, rfl, rfl, hx0, hx1, hxv, rfl, hS, hbel⟩ := hrel
    have HX := Lib.hid hxv
    have HS := Lib.hid hS
    have hsz : S.size = t := by rw [hS]; simp [ByteArray.size, putL_length]
    clear hxv hS
    have zr := hbel.size
    by_cases hlt : t < 8
    · have hby : ((UInt8.ofNat (x.toNat % 256)).toNat : Int) = x % 256 := by simp; omega
      have hcv := run_string_of (P := Try.prog) Try.underlying51 Try.underlying5 Try.underlying9 (wr.alloc (.cells #[.int .u8 (x % 256)] 5)) wr.heap.size 0 1 1 [UInt8.ofNat (x.toNat % 256)] rfl (fun j hj => by
        have hj0 : j = 0 := by simpa using hj
        subst hj0
        rw [cell_of_row _ _ _ _ _ _ (heap_alloc_new _ _)]
        simp only [List.getElem_cons_zero, hby]
        rfl)
      have hq0 : 0 ≤ x / 256 := by omega
      have hq1 : x / 256 < 2 ^ 64 := by omega
      clear hby
      go_wp2_with fail
      go_roundw
      case rel =>
        refine ⟨t + 1, x / 256, _, by omega, by go_num, rfl, hq0, hq1, by rw [dv, ← HX.out], rfl, ?_, hbel.alloc zr _⟩
        rw [HS.out, app_bytes, putL, ← HX.out]
      case measure => simp [intOf]; omega
    · have ht8 : t = 8 := by omega
      subst ht8
      go_wp2_with fail
      go_ret
      rw [HS.out]
      exact ⟨rfl, hbel⟩

/-- The page of a number. -/
def pageB (n : Int) : ByteArray := fillB ⟨(putL (IntKind.u64.wrap n) 8).toArray⟩ 64
theorem pageB_size (n : Int) : (pageB n).size = 64 := by
  simp [pageB, fillB, ByteArray.size, putL_length]
set_option maxRecDepth 100000 in
set_option maxHeartbeats 800000 in
theorem page_any (w : World) (n : Int) : Calls Try.prog 35 #[.int .i64 n] w fun e w' => e = .returned (.string (pageB n)) ∧ Below w.heap.size w w' := by
  go_enter Try.func35, Try.ntmps35
  go_wp2_with fail

  refine (put_any _ _ (by rw [IntKind.wrap_u64]; omega) (by rw [IntKind.wrap_u64]; omega)).mono ?_
  rintro e w1 ⟨rfl, hb1⟩
  go_wp2_with fail
  refine (fill_any _ _ 64 (by omega) (by omega) (by simp [ByteArray.size, putL_length, maxLen])).mono ?_
  rintro e w2 ⟨rfl, hb2⟩
  go_wp2_with fail
  go_ret
  exact ⟨rfl, hb1.trans (hb2.mono hb1.size)⟩
end Go.Proofs.Ytbcpnfkjncpdcaa
