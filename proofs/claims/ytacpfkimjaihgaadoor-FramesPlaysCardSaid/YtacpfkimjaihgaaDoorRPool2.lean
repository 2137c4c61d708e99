/- flyleafref06: the document's pool: Bytes, Fill, Copy, Load, Store. No conditions. -/
import Derived.Test.YtacpfkimjaihgaaDoorRPool
import Derived.Test.YtacpfkimjaihgaaDoorFLaw
namespace Go.Proofs.YtacpfkimjaihgaaDoor
open Go.RowKit
set_option linter.unusedVariables false

theorem rbytes_ok (w : World) (r hb sb : Nat) (held : List Int) (S : List ByteArray) (k : Nat) (hk : k < S.length) (hz : asked held k = 0) (h : IsRP w r hb sb held S) :
    Calls Tryd.prog 36 #[.pointer (some ⟨r, 0, none⟩), .int .i64 k] w fun e w' => e = .returned (.tuple #[.string S[k], .int .i64 0]) ∧ w = w' := by
  have hc := h.strAt hk
  have c1 := h.c1
  have hn := h.small
  have hl := h.len
  have hk2 : k < held.length := by omega
  have HR := Lib.hid h
  generalize S[k] = sv at *
  have HZ := Lib.hid hz
  clear h hz hl
  go_enter Tryd.func36, Tryd.ntmps36
  go_wp2_with fail
  refine (rasked_any _ r hb sb held S k HR.out).mono ?_
  rintro e w1 ⟨rfl, rfl⟩
  rw [HZ.out]
  go_wp2_with fail
  go_ret2
  exact ⟨rfl, rfl⟩
theorem rbytes_bad (w : World) (r hb sb : Nat) (held : List Int) (S : List ByteArray) (f : Int) (hz : asked held f ≠ 0) (h : IsRP w r hb sb held S) :
    Calls Tryd.prog 36 #[.pointer (some ⟨r, 0, none⟩), .int .i64 f] w fun e w' => e = .returned (.tuple #[.string ⟨#[]⟩, .int .i64 (asked held f)]) ∧ w = w' := by
  have HR := Lib.hid h
  obtain ⟨q, hq⟩ : ∃ q, q = asked held f := ⟨_, rfl⟩
  rw [← hq] at hz ⊢
  have hz' : (q != 0) = true := by simp [hz]
  have HQ := Lib.hid hq
  clear h hz hq
  go_enter Tryd.func36, Tryd.ntmps36
  go_wp2_with fail
  refine (rasked_any _ r hb sb held S f HR.out).mono ?_
  rintro e w1 ⟨rfl, rfl⟩
  rw [← HQ.out]
  go_wp2_with fail
  go_ret2
  exact ⟨rfl, rfl⟩
set_option maxHeartbeats 800000 in
theorem rfill_ok (w : World) (r hb sb : Nat) (held : List Int) (S : List ByteArray) (k : Nat) (s : ByteArray) (hk : k < S.length) (hz : asked held k = 0) (hs : s.size = 64) (h : IsRP w r hb sb held S) :
    Calls Tryd.prog 37 #[.pointer (some ⟨r, 0, none⟩), .int .i64 k, .string s] w fun e w' => e = .returned (.int .i64 0) ∧ IsRP w' r hb sb held (S.set k s) ∧ Mods [r, hb, sb] w w' := by
  have hc := h.strAt hk
  have c1 := h.c1
  have hn := h.small
  have hl := h.len
  have hk2 : k < held.length := by omega
  have fs := frozen_of_row w sb k _ _ h.str
  have hse : ((s.size : Int) != 64) = false := by simp; omega
  have HR := Lib.hid h
  generalize S[k] = sv at *
  have HZ := Lib.hid hz
  clear h hz hl hs
  go_enter Tryd.func37, Tryd.ntmps37
  go_wp2_with fail
  refine (rasked_any _ r hb sb held S k HR.out).mono ?_
  rintro e w1 ⟨rfl, rfl⟩
  rw [HZ.out]
  go_wp2_with fail
  go_ret
  exact ⟨rfl, HR.out.storeStr (fun _ _ => rfl), (Mods.refl _ _).setCell (.inl (by simp)) _⟩
theorem rfill_short (w : World) (r hb sb : Nat) (held : List Int) (S : List ByteArray) (f : Int) (s : ByteArray) (hz : asked held f = 0) (hs : s.size ≠ 64) (h : IsRP w r hb sb held S) :
    Calls Tryd.prog 37 #[.pointer (some ⟨r, 0, none⟩), .int .i64 f, .string s] w fun e w' => e = .returned (.int .i64 1) ∧ w = w' := by
  have hse : ((s.size : Int) != 64) = true := by simp; omega
  have HR := Lib.hid h
  have HZ := Lib.hid hz
  clear h hz hs
  go_enter Tryd.func37, Tryd.ntmps37
  go_wp2_with fail
  refine (rasked_any _ r hb sb held S f HR.out).mono ?_
  rintro e w1 ⟨rfl, rfl⟩
  rw [HZ.out]
  go_wp2_with fail
  go_ret
  exact ⟨rfl, rfl⟩
theorem rfill_bad (w : World) (r hb sb : Nat) (held : List Int) (S : List ByteArray) (f : Int) (s : ByteArray) (hz : asked held f ≠ 0) (h : IsRP w r hb sb held S) :
    Calls Tryd.prog 37 #[.pointer (some ⟨r, 0, none⟩), .int .i64 f, .string s] w fun e w' => e = .returned (.int .i64 (asked held f)) ∧ w = w' := by
  have HR := Lib.hid h
  obtain ⟨q, hq⟩ : ∃ q, q = asked held f := ⟨_, rfl⟩
  rw [← hq] at hz ⊢
  have hz' : (q != 0) = true := by simp [hz]
  have HQ := Lib.hid hq
  clear h hz hq
  go_enter Tryd.func37, Tryd.ntmps37
  go_wp2_with fail
  refine (rasked_any _ r hb sb held S f HR.out).mono ?_
  rintro e w1 ⟨rfl, rfl⟩
  rw [← HQ.out]
  go_wp2_with fail
  go_ret
  exact ⟨rfl, rfl⟩
/-! ## Copy -/
set_option maxHeartbeats 800000 in
theorem rcopy_ok (w : World) (r hb sb : Nat) (held : List Int) (S : List ByteArray) (k j : Nat) (hk : k < S.length) (hz : asked held k = 0) (hj : j < held.length) (hjz : held[j] = 0) (hall : ∀ i (h : i < j), held[i] ≠ 0) (h : IsRP w r hb sb held S) :
    Calls Tryd.prog 38 #[.pointer (some ⟨r, 0, none⟩), .int .i64 k] w fun e w' => e = .returned (.tuple #[.int .i64 j, .int .i64 0]) ∧ IsRP w' r hb sb (held.set j 1) (S.set j S[k]) ∧ Mods [r, hb, sb] w w' := by
  have hn := h.small
  have hl := h.len
  have hjS : j < S.length := by omega
  have HR := Lib.hid h
  have HZ := Lib.hid hz
  have HJ := Lib.hid (And.intro hjz hall)
  have HT := Lib.hid (rbytes_ok w r hb sb held S k hk hz h)
  obtain ⟨sv, hsv⟩ : ∃ sv, sv = S[k] := ⟨_, rfl⟩
  rw [← hsv] at HT ⊢
  clear h hz hl hjz hall hsv
  go_enter Tryd.func38, Tryd.ntmps38
  go_wp2_with fail
  refine HT.out.mono ?_
  rintro e w1 ⟨rfl, rfl⟩
  go_wp2_with fail
  refine (rtake_at _ r hb sb held S j hj HJ.out.1 HJ.out.2 HR.out).mono ?_
  rintro e w1 ⟨rfl, hT⟩
  have HP := Lib.hid hT.pool
  have HM := Lib.hid hT.mods
  clear hT
  have c1 := HP.out.c1
  rw [List.length_set] at c1
  have hs1 := HP.out.strAt (k := j) (by simpa using hjS)
  have fs := frozen_of_row w1 sb j _ _ HP.out.str
  go_wp2_with fail
  go_ret2
  have h1 := HP.out.storeStr (k := j) (v := sv) (w' := w1.setCell ⟨sb, j, none⟩ (.string sv)) (fun _ _ => rfl)
  rw [set_set] at h1
  exact ⟨rfl, h1, HM.out.setCell (.inl (by simp)) _⟩
theorem rcopy_full (w : World) (r hb sb : Nat) (held : List Int) (S : List ByteArray) (k : Nat) (hk : k < S.length) (hz : asked held k = 0) (hall : ∀ i (h : i < held.length), held[i] ≠ 0) (h : IsRP w r hb sb held S) :
    Calls Tryd.prog 38 #[.pointer (some ⟨r, 0, none⟩), .int .i64 k] w fun e w' => e = .returned (.tuple #[.int .i64 0, .int .i64 18]) ∧ w = w' := by
  have HR := Lib.hid h
  have HJ := Lib.hid hall
  have HT := Lib.hid (rbytes_ok w r hb sb held S k hk hz h)
  clear h hz hall
  go_enter Tryd.func38, Tryd.ntmps38
  go_wp2_with fail
  refine HT.out.mono ?_
  rintro e w1 ⟨rfl, rfl⟩
  go_wp2_with fail
  refine (rtake_full _ r hb sb held S HJ.out HR.out).mono ?_
  rintro e w1 ⟨rfl, rfl⟩
  go_wp2_with fail
  go_ret2
  exact ⟨rfl, rfl⟩
theorem rcopy_bad (w : World) (r hb sb : Nat) (held : List Int) (S : List ByteArray) (f : Int) (hz : asked held f ≠ 0) (h : IsRP w r hb sb held S) :
    Calls Tryd.prog 38 #[.pointer (some ⟨r, 0, none⟩), .int .i64 f] w fun e w' => e = .returned (.tuple #[.int .i64 0, .int .i64 (asked held f)]) ∧ w = w' := by
  have HT := Lib.hid (rbytes_bad w r hb sb held S f hz h)
  obtain ⟨q, hq⟩ : ∃ q, q = asked held f := ⟨_, rfl⟩
  rw [← hq] at hz HT ⊢
  have hz' : (q != 0) = true := by simp [hz]
  clear h hz hq
  go_enter Tryd.func38, Tryd.ntmps38
  go_wp2_with fail
  refine HT.out.mono ?_
  rintro e w1 ⟨rfl, rfl⟩
  go_wp2_with fail
  go_ret2
  exact ⟨rfl, rfl⟩
/-! ## Load, Store -/
theorem rpart_yes (w : World) (s : ByteArray) (a n : Nat) (hs : s.size = 64) (hn : a + n ≤ 64) : Calls Tryd.prog 76 #[.string s, .int .i64 a, .int .i64 n] w fun e w' => e = .returned (.tuple #[.string (s.extract a (a + n)), .bool true]) ∧ w = w' := by
  have hw : withinB a n s.size = true := decide_eq_true ⟨by omega, by omega, by omega, by omega⟩
  have HW := Lib.hid hw
  have e1 : a + n ≤ s.size := by omega
  have hsm : s.size < 9223372036854775808 := by omega
  clear hw hs
  go_enter Tryd.func76, Tryd.ntmps76
  go_wp2_with fail
  refine (rwithin_any _ a n s.size (by omega) (by omega)).mono ?_
  rintro e w1 ⟨rfl, rfl⟩
  rw [HW.out]
  go_wp2_with fail
  go_ret2
  exact ⟨rfl, rfl⟩
theorem rpart_no (w : World) (s : ByteArray) (a n : Int) (hs : s.size = 64) (hn : withinB a n 64 = false) : Calls Tryd.prog 76 #[.string s, .int .i64 a, .int .i64 n] w fun e w' => e = .returned (.tuple #[.string ⟨#[]⟩, .bool false]) ∧ w = w' := by
  have hw : withinB a n s.size = false := by rw [hs]; exact hn
  have HW := Lib.hid hw
  have hsm : s.size < 9223372036854775808 := by omega
  clear hw hs hn
  go_enter Tryd.func76, Tryd.ntmps76
  go_wp2_with fail
  refine (rwithin_any _ a n s.size (by omega) (by omega)).mono ?_
  rintro e w1 ⟨rfl, rfl⟩
  rw [HW.out]
  go_wp2_with fail
  go_ret2
  exact ⟨rfl, rfl⟩
set_option maxHeartbeats 1600000 in
theorem rset_any (w : World) (s : ByteArray) (a n : Nat) (v : Int) (hs : s.size = 64) (hn : a + n ≤ 64) (hn0 : 0 < n) (hn8 : n ≤ 8) (h0 : 0 ≤ v) (h1 : v < 18446744073709551616) :
    Calls Tryd.prog 78 #[.string s, .int .i64 a, .int .i64 n, .int .u64 v] w fun e w' => e = .returned (.tuple #[.string (s.extract 0 a ++ leS v n ++ s.extract (a + n) 64), .bool true]) ∧ Below w.heap.size w w' := by
  have hw : withinB a n 64 = true := decide_eq_true ⟨by omega, by omega, by omega, by omega⟩
  have HW := Lib.hid hw
  have HV := Lib.hid (And.intro h0 h1)
  have hLS : (leS v n).size = n := leS_size v n
  have hc1 := cut_to s a (by omega)
  have hc2 := cut_from s (a + n) (by omega)
  rw [hs] at hc2
  rw [Int.natCast_add] at hc2
  have hp1 : (s.extract 0 a).size = a := by rw [ByteArray.size_extract]; omega
  have hp2 : (s.extract (a + n) 64).size = 64 - (a + n) := by rw [ByteArray.size_extract]; omega
  generalize s.extract 0 a = P1 at hc1 hp1 ⊢
  generalize s.extract (a + n) 64 = P2 at hc2 hp2 ⊢
  have hb1 : a + n ≤ 9223372036854775807 := by omega
  have hb2 : a + n + (64 - (a + n)) ≤ 9223372036854775807 := by omega
  generalize hL : leS v n = L at hLS ⊢
  have HL := Lib.hid hL
  clear hw h0 h1 hL
  go_enter Tryd.func78, Tryd.ntmps78
  go_wp2_with fail
  refine (rwithin_any _ a n 64 (by omega) (by omega)).mono ?_
  rintro e w1 ⟨rfl, rfl⟩
  rw [HW.out]
  go_wp2_with fail
  have hwr : IntKind.i64.wrap ((a : Int) + n) = (a : Int) + n := by rw [IntKind.wrap_i64]; omega
  go_region_with (go_at_call 98; go_must (refine (rput_any8 _ v n hn8 HV.out.1 HV.out.2).mono ?_); rintro e w5 ⟨rfl, hb5⟩; rw [HL.out]; have HB5 : Hid (Below w.heap.size w w5) := Lib.hid ⟨hb5.os, hb5.tape, hb5.output, hb5.size, hb5.block⟩; clear hb5)
  all_goals
    go_wp2_with fail
    go_ret2
    exact ⟨rfl, HB5.out⟩
end Go.Proofs.YtacpfkimjaihgaaDoor
