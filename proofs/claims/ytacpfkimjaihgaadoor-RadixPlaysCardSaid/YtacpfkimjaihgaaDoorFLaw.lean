/- Words in frames: what is stored is loaded; plain laws. No conditions. -/
import Derived.Test.YtacpfkimjaihgaaDoorFLib
namespace Go.Proofs.YtacpfkimjaihgaaDoor
open Go.RowKit
set_option linter.unusedVariables false

theorem emod_mul256 (n p : Int) (h0 : 0 ≤ n) (hp : 0 < p) : n % (p * 256) = n % p + p * (n / p % 256) := by
  obtain ⟨m, rfl⟩ := Int.eq_ofNat_of_zero_le h0
  obtain ⟨q, rfl⟩ := Int.eq_ofNat_of_zero_le (Int.le_of_lt hp)
  have h := @Nat.mod_mul q 256 m
  have h' : ((m % (q * 256) : Nat) : Int) = ((m % q + q * (m / q % 256) : Nat) : Int) := by rw [h]
  simp only [Int.natCast_emod, Int.natCast_mul, Int.natCast_add, Int.natCast_ediv] at h'
  exact h'
theorem leV_leL (n : Int) (h0 : 0 ≤ n) : ∀ w, leV (leL n w) = n % 256 ^ w
  | 0 => by simp [leL, leV]
  | w + 1 => by
    rw [leL_succ, leV_snoc, leV_leL n h0 w, leL_length, leB_toNat, Int.pow_succ]
    have hp : (0 : Int) < 256 ^ w := Int.pow_pos (by decide)
    generalize (256 : Int) ^ w = p at *
    rw [emod_mul256 n p h0 hp, Int.mul_comm p]
theorem clip_leL {k x : Int} (h0 : 0 ≤ x) (h1 : x < 18446744073709551616) : clipOf k (leV (leL x (widthOf k).toNat)) = clipOf k x := by
  by_cases hk : k < 1 ∨ 10 ≤ k
  · rw [clipOf_out hk, clipOf_out hk]
  · rw [leV_leL x h0]
    rcases nine hk with rfl | rfl | rfl | rfl | rfl | rfl | rfl | rfl | rfl <;> simp [clipOf, modOf, widthOf, widths, signedOf] <;> omega
theorem width_pos {k : Int} (hk : 1 ≤ k ∧ k ≤ 9) : 1 ≤ widthOf k ∧ widthOf k ≤ 8 := by
  have h0 : ¬ (k < 1 ∨ 10 ≤ k) := by omega
  rcases nine h0 with rfl | rfl | rfl | rfl | rfl | rfl | rfl | rfl | rfl <;> decide

theorem take_splice {α : Type} (a x : List α) (o : Nat) (h : o + x.length ≤ a.length) : ((splice a o x).drop o).take x.length = x := by
  have h1 : (a.take o).length = o := by rw [List.length_take]; omega
  rw [splice, List.drop_append, h1, Nat.sub_self, List.drop_zero, List.drop_of_length_le (by omega), List.nil_append, List.take_left]
theorem take_before {α : Type} (a x : List α) (o k n : Nat) (h : o + x.length ≤ a.length) (hk : k + n ≤ o) : ((splice a o x).drop k).take n = (a.drop k).take n := by
  apply List.ext_getElem?
  intro i
  simp only [splice, List.getElem?_take, List.getElem?_drop]
  by_cases hi : i < n
  · rw [if_pos hi, if_pos hi, List.getElem?_append_left (by rw [List.length_take]; omega), List.getElem?_take, if_pos (by omega)]
  · rw [if_neg hi, if_neg hi]
theorem take_behind {α : Type} (a x : List α) (o k n : Nat) (h : o + x.length ≤ a.length) (hk : o + x.length ≤ k) : ((splice a o x).drop k).take n = (a.drop k).take n := by
  apply List.ext_getElem?
  intro i
  simp only [splice, List.getElem?_take, List.getElem?_drop]
  by_cases hi : i < n
  · rw [if_pos hi, if_pos hi, List.getElem?_append_right (by rw [List.length_take]; omega), List.length_take, List.getElem?_append_right (by omega), List.getElem?_drop]
    congr 1
    omega
  · rw [if_neg hi, if_neg hi]
theorem cut_to (s : ByteArray) (a : Nat) (h : a ≤ s.size) (w : World) : (Instr.slice 9 (.string s) none (some (.int .i64 (a : Int))) none).run Tryd.prog w = .ok (.string (s.extract 0 a)) w := by
  simp [Instr.slice, Instr.sliceBounds, Instr.sliceBound, asIntOf, run_underlying Tryd.underlying9, h]
theorem cut_from (s : ByteArray) (a : Nat) (h : a ≤ s.size) (w : World) : (Instr.slice 9 (.string s) (some (.int .i64 (a : Int))) none none).run Tryd.prog w = .ok (.string (s.extract a s.size)) w := by
  simp [Instr.slice, Instr.sliceBounds, Instr.sliceBound, asIntOf, run_underlying Tryd.underlying9, h]
theorem bytes_extract (l : List UInt8) (i j : Nat) : (⟨l.toArray⟩ : ByteArray).extract i j = ⟨((l.drop i).take (j - i)).toArray⟩ := by
  apply ByteArray.ext
  rw [ByteArray.data_extract]
  simp

section
variable {F : FP}
theorem loadE_at {k a n : Nat} {kind : Int} (hk : k < F.held.length) (hz : F.held[k] ≠ 0) (hw : widthOf kind = n) (hn : 0 < n) (hat : a + n ≤ 64) : F.loadE k a kind = 0 := by
  rw [FP.loadE, asked_nat hk, if_neg hz, if_pos rfl, hw, if_neg (by omega), if_pos (show withinB a n 64 = true from decide_eq_true ⟨by omega, by omega, by omega, by omega⟩)]
theorem load_at {k a n : Nat} {kind : Int} (hk : k < F.held.length) (hz : F.held[k] ≠ 0) (hw : widthOf kind = n) (hn : 0 < n) (hat : a + n ≤ 64) : F.load k a kind = clipOf kind (leV (((F.sec k).drop a).take n)) := by
  rw [FP.load, if_pos (loadE_at hk hz hw hn hat), hw, Int.toNat_natCast, Int.toNat_natCast]
theorem store_at {k a n : Nat} {kind x : Int} (hk : k < F.held.length) (hz : F.held[k] ≠ 0) (hw : widthOf kind = n) (hn : 0 < n) (hat : a + n ≤ 64) : F.store k a kind x = ⟨F.secs.set k (splice (F.sec k) a (leL x n)), F.held⟩ := by
  rw [FP.store, if_pos (loadE_at hk hz hw hn hat), hw, Int.toNat_natCast, Int.toNat_natCast, Int.toNat_natCast]
theorem bytes_at {k : Nat} (hk : k < F.held.length) (hz : F.held[k] ≠ 0) : F.bytes k = ⟨(F.sec k).toArray⟩ := by
  rw [FP.bytes, asked_nat hk, if_neg hz, if_pos rfl]; rfl
theorem fill_at {k : Nat} {s : ByteArray} (hk : k < F.held.length) (hz : F.held[k] ≠ 0) (hs : s.size = 64) : F.fillE k s = 0 ∧ F.fill k s = ⟨F.secs.set k s.data.toList, F.held⟩ := by
  have h1 : F.fillE k s = 0 := by rw [FP.fillE, asked_nat hk, if_neg hz, if_pos rfl, if_pos hs]
  exact ⟨h1, by rw [FP.fill, if_pos h1, Int.toNat_natCast]⟩
end
theorem bytes_again (s : ByteArray) : (⟨s.data.toList.toArray⟩ : ByteArray) = s := rfl
/-- One frame, held once: other bytes, a word stored and loaded. -/
theorem words_law {s : ByteArray} {a : Nat} {k x : Int} (hs : s.size = 64) (hk : 1 ≤ k ∧ k ≤ 9) (hat : (a : Int) + widthOf k ≤ 64) (h0 : 0 ≤ x) (h1 : x < 18446744073709551616) :
    ∃ T : ByteArray, T.size = 64 ∧ T.extract 0 a = s.extract 0 a ∧ T.extract (a + (widthOf k).toNat) 64 = s.extract (a + (widthOf k).toNat) 64 ∧
      (newFP 1).take = (0, 0, ⟨[zeroSec], [1]⟩) ∧ FP.fillE ⟨[zeroSec], [1]⟩ 0 s = 0 ∧ FP.fill ⟨[zeroSec], [1]⟩ 0 s = ⟨[s.data.toList], [1]⟩ ∧
      FP.loadE ⟨[s.data.toList], [1]⟩ 0 a k = 0 ∧ FP.store ⟨[s.data.toList], [1]⟩ 0 a k x = ⟨[T.data.toList], [1]⟩ ∧
      FP.loadE ⟨[T.data.toList], [1]⟩ 0 a k = 0 ∧ FP.load ⟨[T.data.toList], [1]⟩ 0 a k = clipOf k x ∧ FP.bytes ⟨[T.data.toList], [1]⟩ 0 = T ∧ asked [1] 0 = 0 ∧
      FP.loadE ⟨[T.data.toList], [1]⟩ 0 (65 - widthOf k) k = 14 := by
  obtain ⟨hw1, hw8⟩ := width_pos hk
  obtain ⟨n, hn⟩ := Int.eq_ofNat_of_zero_le (show 0 ≤ widthOf k by omega)
  have hl : s.data.toList.length = 64 := by rw [Array.length_toList]; exact hs
  have hfit : a + (leL x n).length ≤ s.data.toList.length := by rw [leL_length, hl]; omega
  have hlen : (splice s.data.toList a (leL x n)).length = 64 := by rw [length_splice _ _ _ hfit]; exact hl
  have hse : s = ⟨s.data.toList.toArray⟩ := rfl
  refine ⟨⟨(splice s.data.toList a (leL x n)).toArray⟩, by simpa [ByteArray.size] using hlen, ?_, ?_, by kernel_rfl, ?_, ?_, ?_, ?_, ?_, ?_, ?_, by decide, ?_⟩
  · rw [bytes_extract]
    conv => rhs; rw [hse, bytes_extract]
    have := take_before s.data.toList (leL x n) a 0 a hfit (by omega)
    simp only [Nat.sub_zero, this]
  · rw [bytes_extract]
    conv => rhs; rw [hse, bytes_extract]
    have := take_behind s.data.toList (leL x n) a (a + n) (64 - (a + n)) hfit (by rw [leL_length]; omega)
    rw [hn, Int.toNat_natCast, this]
  · exact (fill_at (F := ⟨[zeroSec], [1]⟩) (k := 0) (Nat.zero_lt_one) Int.one_ne_zero hs).1
  · exact (fill_at (F := ⟨[zeroSec], [1]⟩) (k := 0) (Nat.zero_lt_one) Int.one_ne_zero hs).2
  · exact loadE_at (F := ⟨[s.data.toList], [1]⟩) (k := 0) (Nat.zero_lt_one) Int.one_ne_zero hn (by omega) (by omega)
  · exact store_at (F := ⟨[s.data.toList], [1]⟩) (k := 0) (Nat.zero_lt_one) Int.one_ne_zero hn (by omega) (by omega)
  · exact loadE_at (F := ⟨[_], [1]⟩) (k := 0) (Nat.zero_lt_one) Int.one_ne_zero hn (by omega) (by omega)
  · refine (load_at (F := ⟨[_], [1]⟩) (k := 0) (Nat.zero_lt_one) Int.one_ne_zero hn (by omega) (by omega)).trans ?_
    have := take_splice s.data.toList (leL x n) a hfit
    rw [leL_length] at this
    show clipOf k (leV (((splice s.data.toList a (leL x n)).drop a).take n)) = _
    rw [this, ← clip_leL (k := k) h0 h1, hn, Int.toNat_natCast]
  · exact bytes_at (F := ⟨[_], [1]⟩) (k := 0) (Nat.zero_lt_one) Int.one_ne_zero
  · rw [FP.loadE, show asked [1] 0 = 0 from by decide, if_pos rfl, hn, if_neg (by omega), if_neg]
    intro h
    have := of_decide_eq_true h
    omega
end Go.Proofs.YtacpfkimjaihgaaDoor
