/- flyleaflaw03.sector, short, awake. -/
import Derived.Test.YtbcpnfkjncpdcaaOf
namespace Go.Proofs.Ytbcpnfkjncpdcaa
open Go.RowKit

def secOf (c : Int) : List UInt8 := List.replicate 64 (UInt8.ofNat c.toNat)
def secB (c : Int) : ByteArray := ⟨(secOf c).toArray⟩
def part (c : Int) (k : Nat) : List UInt8 := List.replicate k (UInt8.ofNat c.toNat) ++ List.replicate (64 - k) 0
theorem part_succ (c : Int) (h0 : 0 ≤ c) (h1 : c < 256) (k : Nat) (h : k < 64) : (bv (part c k)).set k (.int .u8 c) = bv (part c (k + 1)) := by
  have e : Value.int .u8 c = .int .u8 ((UInt8.ofNat c.toNat).toNat : Int) := by
    congr 1
    simp
    omega
  rw [e]
  simp only [bv, part, List.map_append, List.map_replicate]
  rw [List.set_append_right _ _ (by simp)]
  simp only [List.length_replicate, Nat.sub_self]
  rw [show 64 - k = (64 - (k + 1)) + 1 from by omega, List.replicate_succ, List.set_cons_zero, List.replicate_succ', List.append_assoc]
  rfl

set_option maxHeartbeats 1000000 in
theorem sector_any (w : World) (c : Int) (h0 : 0 ≤ c) (h1 : c < 256) : Calls Try.prog 24 #[.int .u8 c] w fun e w' => e = .returned (.string (secB c)) ∧ Below w.heap.size w w' := by
  obtain ⟨i0, hi, hz0, hz1, hz2⟩ := info_parts Try.info5
  have hmk := fun W => run_make (P := Try.prog) W 51 5 i0 _ Try.underlying51 hi hz0 .i64 .i64 64 64 (by omega) (by omega) (by rw [hz2]; omega) (by omega)
  rw [hz1] at hmk
  clear hz0 hz1 hz2 hi
  go_enter Try.func24, Try.ntmps24
  go_wp2
  go_loopw [4] (fun i wr => ∃ k : Nat, k ≤ 64 ∧ i = .int .i64 k ∧ wr.heap[w.heap.size]? = some (.cells (bv (part c k)).toArray 5 (0, 0)) ∧ Below w.heap.size w wr) (fun i _ => 64 - (intOf i).toNat)
  case atStart =>
    refine ⟨0, by omega, rfl, ?_, (Below.refl _ _).alloc (Nat.le_refl _) _⟩
    have := made_bytes 64
    rw [heap_alloc_new]
    exact congrArg some (congrArg (fun c => Obj.cells c 5 (0, 0)) this)
  case round =>
    obtain ⟨k, hk, rfl, hrow, hbel⟩ := hrel
    have hlt := lt_of_block hrow
    by_cases hk64 : k < 64
    · have hl : (bv (part c k)).length = 64 := by rw [bv_length]; simp [part]; omega
      have gc : (wr.cell? ⟨w.heap.size, k, none⟩).isSome = true := by
        rw [cell_of_row wr _ _ _ _ _ hrow]
        simp [hl, hk64]
      obtain ⟨v, hv⟩ := Option.isSome_iff_exists.1 gc
      have gf := frozen_of_row wr w.heap.size k _ _ hrow
      have HR := Lib.hid hrow
      clear hrow gc hl
      go_wp2
      go_roundw
      case rel =>
        refine ⟨k + 1, by omega, by go_num, ?_, hbel.setCell (p := ⟨w.heap.size, k, none⟩) (Nat.le_refl _) _⟩
        rw [row_setCell HR.out, part_succ c h0 h1 k hk64]
      case measure => simp [intOf]; omega
    · have e : k = 64 := by omega
      subst e
      have hpart : part c 64 = secOf c := by simp [part, secOf]
      rw [hpart] at hrow
      have hcv := run_string_of (P := Try.prog) Try.underlying51 Try.underlying5 Try.underlying9 wr w.heap.size 0 64 64 (secOf c) (by simp [secOf]) (fun j hj => by
        rw [cell_of_row wr _ _ _ _ _ hrow, Nat.zero_add]
        simpa using bv_get (secOf c) j hj)
      clear hrow hpart
      go_wp2
      go_ret
      exact ⟨rfl, hbel⟩

theorem short_any (w : World) (s : ByteArray) (n : Int) (h0 : 0 ≤ n) (_hs : s.size ≤ maxLen) : Calls Try.prog 16 #[.string s, .int .i64 n] w fun e w' => e = .returned (.string (s.extract 0 n.toNat)) ∧ w = w' := by
  obtain ⟨n, rfl⟩ := Int.eq_ofNat_of_zero_le h0
  unfold maxLen at _hs
  by_cases h : n < s.size
  · go_enter Try.func16, Try.ntmps16
    go_wp2
    go_ret
    exact ⟨rfl, rfl⟩
  · have he : s.extract 0 n = s := by
      apply ByteArray.ext
      rw [ByteArray.data_extract, Array.extract_eq_self_of_le (show s.data.size ≤ n from Nat.not_lt.1 h)]
    have HE := Lib.hid he
    clear he
    go_enter Try.func16, Try.ntmps16
    go_wp2
    go_ret
    refine ⟨?_, rfl⟩
    rw [Int.toNat_natCast, HE.out]
    rfl

theorem StrsAt.of_row {w : World} {b : Nat} {xs : List ByteArray} {t : TypeId} {fr : Nat × Nat} (h : w.heap[b]? = some (.cells (xs.map Value.string).toArray t fr)) : StrsAt w (some ⟨b, 0, none⟩) xs := by
  intro i hi
  refine ⟨b, 0, rfl, ?_⟩
  rw [cell_of_row w _ _ _ _ _ h]
  simp [hi]
/-- string(make([]byte, n)) of a block that was just made. -/
theorem run_string_new (W : World) (n : Nat) : (convert 51 9 (.slice (some ⟨W.heap.size, 0, none⟩) n n)).run Try.prog (W.alloc (.cells (madeCells #[.int .u8 0] n) 5)) = .ok (.string ⟨(List.replicate n (0 : UInt8)).toArray⟩) (W.alloc (.cells (madeCells #[.int .u8 0] n) 5)) := by
  refine run_string_of (P := Try.prog) Try.underlying51 Try.underlying5 Try.underlying9 _ W.heap.size 0 n n (List.replicate n 0) (by simp) (fun j hj => ?_)
  rw [World.cell?_alloc_at _ _ _ _ rfl, made_bytes, Nat.zero_add]
  simpa using bv_get (List.replicate n 0) j hj
theorem fill_a : (⟨(fill64 ⟨#[97]⟩).toArray⟩ : ByteArray) = (⟨#[97]⟩ : ByteArray) ++ (⟨(List.replicate 63 (0 : UInt8)).toArray⟩ : ByteArray) := by kernel_rfl

set_option maxHeartbeats 1000000 in
theorem awake_any (w : World) : Calls Try.prog 15 #[] w fun e w' => e = .returned (.bool true) ∧ Below w.heap.size w w' := by
  obtain ⟨i0, hi, hz0, hz1, hz2⟩ := info_parts Try.info5
  have hmk := fun W => run_make (P := Try.prog) W 51 5 i0 _ Try.underlying51 hi hz0 .i64 .i64 63 63 (by omega) (by omega) (by rw [hz2]; omega) (by omega)
  rw [hz1] at hmk
  clear hz0 hz1 hz2 hi
  obtain ⟨z, hz⟩ : ∃ z, z = (⟨(List.replicate 63 (0 : UInt8)).toArray⟩ : ByteArray) := ⟨_, rfl⟩
  have hcv : ∀ W : World, (convert 51 9 (.slice (some ⟨W.heap.size, 0, none⟩) 63 63)).run Try.prog (W.alloc (.cells (madeCells #[.int .u8 0] 63) 5)) = .ok (.string z) (W.alloc (.cells (madeCells #[.int .u8 0] 63) 5)) := fun W => by rw [hz]; exact run_string_new W 63
  have hzs : z.size ≤ 100 := by rw [hz]; decide
  have hread : (⟨(([⟨#[97]⟩].map fill64).getD (Int.toNat 0) []).toArray⟩ : ByteArray) = ⟨#[97]⟩ ++ z := by rw [hz]; exact fill_a
  have HRD := Lib.hid hread
  clear hread hz
  go_enter Try.func15, Try.ntmps15
  go_wp2_with fail
  refine (of_ok _ _ 1 1 [⟨#[97]⟩] rfl (by omega) (by omega) (StrsAt.of_row (heap_alloc_new _ _))).mono ?_
  rintro e w1 ⟨d, bb, rfl, hd, hbb, hD, hb1⟩
  have HD := Lib.hid hD
  clear hD
  go_wp2_with fail
  refine (read_in _ d bb _ 0 (by omega) (by simp) (by simp) HD.out).mono ?_
  rintro e w2 ⟨rfl, hD2, hm2⟩
  simp only [HRD.out]
  have HD2 := Lib.hid hD2
  clear hD2
  go_wp2_with fail
  refine (seal_any _ d bb _ 1 HD2.out).mono ?_
  rintro e w3 ⟨rfl, hD3, hm3⟩
  have HD3 := Lib.hid hD3
  clear hD3
  go_wp2_with fail
  refine (sector_any _ 98 (by omega) (by omega)).mono ?_
  rintro e w4 ⟨rfl, hb4⟩
  have h34 : Below w3.heap.size w3 w4 := ((Below.refl w3.heap.size w3).alloc (Nat.le_refl _) _).trans (hb4.mono (by simp))
  have HD4 := Lib.hid (HD3.out.below h34 (Nat.le_refl _))
  clear hb4
  go_wp2_with fail
  refine (write_sealed _ d bb _ 0 _ (by omega) (by simp) (by simp; omega) (by simp [secB, secOf, ByteArray.size]) HD4.out).mono ?_
  rintro e w5 ⟨rfl, hb5⟩
  go_wp2
  go_ret
  refine ⟨rfl, ?_⟩
  simp only [World.size_alloc] at hd hbb hb1
  have b1 : Below w.heap.size w w1 := ((Below.refl _ _).alloc (Nat.le_refl _) _).trans (hb1.mono (by omega))
  have b2 := below_after b1 hm2 b1.size (by simp; omega)
  have b3 := below_after b2 hm3 b2.size (by simp; omega)
  have b4 := b3.trans (h34.mono b3.size)
  exact b4.trans (hb5.mono b4.size)
end Go.Proofs.Ytbcpnfkjncpdcaa
