/- octet.Within, octet.Get: the number that some bytes are, the least first. -/
import Derived.Test.YtacpfkimjaihgaaDoorOctet
import Derived.Lib.EndianBits
namespace Go.Proofs.YtacpfkimjaihgaaDoor
open Go.RowKit
set_option linter.unusedVariables false

def withinB (at_ n all : Int) : Bool := decide (0 ≤ at_ ∧ 0 ≤ n ∧ at_ ≤ all ∧ n ≤ all - at_)
theorem within_any (w : World) (at_ n all : Int) (h0 : 0 ≤ all) (h1 : all < 9223372036854775808) : Calls Tryd.prog 92 #[.int .i64 at_, .int .i64 n, .int .i64 all] w fun e w' => e = .returned (.bool (withinB at_ n all)) ∧ w = w' := by
  by_cases a1 : 0 ≤ at_
  · by_cases a2 : 0 ≤ n
    · by_cases a3 : at_ ≤ all
      · by_cases a4 : n ≤ all - at_
        · rw [show withinB at_ n all = true from decide_eq_true ⟨a1, a2, a3, a4⟩]
          go_enter Tryd.func92, Tryd.ntmps92
          go_wp2
          go_ret
          exact ⟨rfl, rfl⟩
        · rw [show withinB at_ n all = false from decide_eq_false (fun h => a4 h.2.2.2)]
          go_enter Tryd.func92, Tryd.ntmps92
          go_wp2
          go_ret
          exact ⟨rfl, rfl⟩
      · rw [show withinB at_ n all = false from decide_eq_false (fun h => a3 h.2.2.1)]
        go_enter Tryd.func92, Tryd.ntmps92
        go_wp2
        go_ret
        exact ⟨rfl, rfl⟩
    · rw [show withinB at_ n all = false from decide_eq_false (fun h => a2 h.2.1)]
      go_enter Tryd.func92, Tryd.ntmps92
      go_wp2
      go_ret
      exact ⟨rfl, rfl⟩
  · rw [show withinB at_ n all = false from decide_eq_false (fun h => a1 h.1)]
    go_enter Tryd.func92, Tryd.ntmps92
    go_wp2
    go_ret
    exact ⟨rfl, rfl⟩
set_option maxHeartbeats 1000000 in
theorem onumber_yes (w : World) (s : ByteArray) (k : Nat) (hk1 : 1 ≤ k) (hk : k ≤ 8) (hs : s.size = k) : Calls Tryd.prog 101 #[.string s, .int .i64 0, .int .i64 k] w fun e w' => e = .returned (.bool true) ∧ w = w' := by
  have hw := within_any w 0 k s.size (by omega) (by omega)
  rw [show withinB 0 k s.size = true from decide_eq_true ⟨by omega, by omega, by omega, by omega⟩] at hw
  clear hs
  go_enter Tryd.func101, Tryd.ntmps101
  go_wp2_with fail
  refine hw.mono ?_
  rintro e w1 ⟨rfl, rfl⟩
  go_wp2_with fail
  go_ret
  exact ⟨rfl, rfl⟩

def leV : List UInt8 → Int
  | [] => 0
  | c :: l => (c.toNat : Int) + 256 * leV l
theorem leV_range : ∀ l : List UInt8, 0 ≤ leV l ∧ leV l < 256 ^ l.length
  | [] => by simp [leV]
  | c :: l => by
    have h := leV_range l
    have hc : (c.toNat : Int) < 256 := by have := c.toNat_lt; omega
    simp only [leV, List.length_cons, Int.pow_succ]
    generalize (256 : Int) ^ l.length = p at *
    omega
theorem leV_snoc : ∀ (l : List UInt8) (c : UInt8), leV (l ++ [c]) = leV l + (c.toNat : Int) * 256 ^ l.length
  | [], c => by simp [leV]
  | d :: l, c => by
    simp only [List.cons_append, leV, leV_snoc l c, List.length_cons, Int.pow_succ]
    generalize (256 : Int) ^ l.length = p
    grind
theorem leV_take {l : List UInt8} {t : Nat} (h : t < l.length) : leV (l.take (t + 1)) = leV (l.take t) + (l[t].toNat : Int) * 256 ^ t := by
  rw [List.take_succ_eq_append_getElem h, leV_snoc, List.length_take, Nat.min_eq_left (by omega)]
theorem leV_take_lt {l : List UInt8} {t : Nat} (h : t ≤ l.length) : 0 ≤ leV (l.take t) ∧ leV (l.take t) < 256 ^ t := by
  have := leV_range (l.take t)
  rwa [List.length_take, Nat.min_eq_left h] at this

theorem or_zero_u64 (x : Int) (h0 : 0 ≤ x) (h1 : x < 18446744073709551616) : bits BinOp.or IntKind.u64 0 x = x := by
  have h4 : bits BinOp.or IntKind.u64 0 x = IntKind.u64.wrap ((BitVec.ofInt 64 0 ||| BitVec.ofInt 64 x).toNat : Int) := rfl
  rw [h4, show BitVec.ofInt 64 0 = 0#64 from rfl, BitVec.zero_or, BitVec.toNat_ofInt, IntKind.wrap_u64]
  omega
theorem or_step0 (x : Int) (c : Nat) (h0 : 0 ≤ x) (h1 : x < 1) (hc : c < 256) : bits BinOp.or IntKind.u64 x (IntKind.u64.wrap (IntKind.u64.wrap (c : Int))) = x + (c : Int) * 256 ^ 0 := by
  obtain rfl : x = 0 := by omega
  rw [IntKind.wrap_u64, IntKind.wrap_u64, or_zero_u64 _ (by omega) (by omega)]
  simp
  omega
theorem or_step1 (x : Int) (c : Nat) (h0 : 0 ≤ x) (h1 : x < 256) (hc : c < 256) : bits BinOp.or IntKind.u64 x (IntKind.u64.wrap (IntKind.u64.wrap (c : Int) * 256)) = x + (c : Int) * 256 ^ 1 := by
  rw [IntKind.wrap_u64, IntKind.wrap_u64, show ((256 : Int) ^ 1) = 256 from rfl, show (((c : Int) % 18446744073709551616 * 256) % 18446744073709551616) = (c : Int) * 256 by omega]
  exact u64_or8 _ _ h0 h1 (by omega) (by omega) (by omega)
theorem or_step2 (x : Int) (c : Nat) (h0 : 0 ≤ x) (h1 : x < 65536) (hc : c < 256) : bits BinOp.or IntKind.u64 x (IntKind.u64.wrap (IntKind.u64.wrap (c : Int) * 65536)) = x + (c : Int) * 256 ^ 2 := by
  rw [IntKind.wrap_u64, IntKind.wrap_u64, show ((256 : Int) ^ 2) = 65536 from rfl, show (((c : Int) % 18446744073709551616 * 65536) % 18446744073709551616) = (c : Int) * 65536 by omega]
  exact u64_or16 _ _ h0 h1 (by omega) (by omega) (by omega)
theorem or_step3 (x : Int) (c : Nat) (h0 : 0 ≤ x) (h1 : x < 16777216) (hc : c < 256) : bits BinOp.or IntKind.u64 x (IntKind.u64.wrap (IntKind.u64.wrap (c : Int) * 16777216)) = x + (c : Int) * 256 ^ 3 := by
  rw [IntKind.wrap_u64, IntKind.wrap_u64, show ((256 : Int) ^ 3) = 16777216 from rfl, show (((c : Int) % 18446744073709551616 * 16777216) % 18446744073709551616) = (c : Int) * 16777216 by omega]
  exact u64_or24 _ _ h0 h1 (by omega) (by omega) (by omega)
theorem or_step4 (x : Int) (c : Nat) (h0 : 0 ≤ x) (h1 : x < 4294967296) (hc : c < 256) : bits BinOp.or IntKind.u64 x (IntKind.u64.wrap (IntKind.u64.wrap (c : Int) * 4294967296)) = x + (c : Int) * 256 ^ 4 := by
  rw [IntKind.wrap_u64, IntKind.wrap_u64, show ((256 : Int) ^ 4) = 4294967296 from rfl, show (((c : Int) % 18446744073709551616 * 4294967296) % 18446744073709551616) = (c : Int) * 4294967296 by omega]
  exact u64_or32 _ _ h0 h1 (by omega) (by omega) (by omega)
theorem or_step5 (x : Int) (c : Nat) (h0 : 0 ≤ x) (h1 : x < 1099511627776) (hc : c < 256) : bits BinOp.or IntKind.u64 x (IntKind.u64.wrap (IntKind.u64.wrap (c : Int) * 1099511627776)) = x + (c : Int) * 256 ^ 5 := by
  rw [IntKind.wrap_u64, IntKind.wrap_u64, show ((256 : Int) ^ 5) = 1099511627776 from rfl, show (((c : Int) % 18446744073709551616 * 1099511627776) % 18446744073709551616) = (c : Int) * 1099511627776 by omega]
  exact u64_or40 _ _ h0 h1 (by omega) (by omega) (by omega)
theorem or_step6 (x : Int) (c : Nat) (h0 : 0 ≤ x) (h1 : x < 281474976710656) (hc : c < 256) : bits BinOp.or IntKind.u64 x (IntKind.u64.wrap (IntKind.u64.wrap (c : Int) * 281474976710656)) = x + (c : Int) * 256 ^ 6 := by
  rw [IntKind.wrap_u64, IntKind.wrap_u64, show ((256 : Int) ^ 6) = 281474976710656 from rfl, show (((c : Int) % 18446744073709551616 * 281474976710656) % 18446744073709551616) = (c : Int) * 281474976710656 by omega]
  exact u64_or48 _ _ h0 h1 (by omega) (by omega) (by omega)
theorem or_step7 (x : Int) (c : Nat) (h0 : 0 ≤ x) (h1 : x < 72057594037927936) (hc : c < 256) : bits BinOp.or IntKind.u64 x (IntKind.u64.wrap (IntKind.u64.wrap (c : Int) * 72057594037927936)) = x + (c : Int) * 256 ^ 7 := by
  rw [IntKind.wrap_u64, IntKind.wrap_u64, show ((256 : Int) ^ 7) = 72057594037927936 from rfl, show (((c : Int) % 18446744073709551616 * 72057594037927936) % 18446744073709551616) = (c : Int) * 72057594037927936 by omega]
  exact u64_or56 _ _ h0 h1 (by omega) (by omega) (by omega)
set_option maxRecDepth 100000 in
set_option maxHeartbeats 2000000 in
theorem oget_any (w : World) (s : ByteArray) (k : Nat) (hk1 : 1 ≤ k) (hk : k ≤ 8) (hs : s.size = k) : Calls Tryd.prog 94 #[.string s, .int .i64 0, .int .i64 k] w fun e w' => e = .returned (.tuple #[.int .u64 (leV s.data.toList), .bool true]) ∧ w = w' := by
  have hl : s.data.toList.length = k := by rw [Array.length_toList]; exact hs
  have HL := Lib.hid hl
  clear hl
  go_enter Tryd.func94, Tryd.ntmps94
  go_wp2_with fail
  refine (onumber_yes _ s k hk1 hk hs).mono ?_
  rintro e w1 ⟨rfl, rfl⟩
  go_wp2_with fail
  go_loopw [8, 9, 16] (fun v _ i wx => ∃ (t : Nat) (x : Int), t ≤ k ∧ i = .int .i64 t ∧ v = .int .u64 x ∧ Hid (x = leV (s.data.toList.take t)) ∧ wx = w) (fun _ _ i _ => k - (intOf i).toNat)
  case atStart => exact ⟨0, 0, by omega, rfl, rfl, Lib.hid rfl, rfl⟩
  case round =>
    obtain ⟨t, x, ht, rfl, rfl, HX, rfl⟩ := hrel
    by_cases hlt : t < k
    · have hr := leV_take_lt (l := s.data.toList) (t := t) (by rw [HL.out]; omega)
      have hst := leV_take (l := s.data.toList) (t := t) (by rw [HL.out]; omega)
      rw [← HX.out] at hr hst
      have h8 : t = 0 ∨ t = 1 ∨ t = 2 ∨ t = 3 ∨ t = 4 ∨ t = 5 ∨ t = 6 ∨ t = 7 := by omega
      have HST := Lib.hid hst
      have HLT := Lib.hid hlt
      clear hst ht
      rcases h8 with rfl | rfl | rfl | rfl | rfl | rfl | rfl | rfl
      · go_wp2_with fail
        go_roundw
        case rel =>
          refine ⟨0 + 1, _, HLT.out, by go_num, rfl, Lib.hid ?_, by trivial⟩
          rw [HST.out]
          exact or_step0 x _ hr.1 (by simpa using hr.2) (UInt8.toNat_lt _)
        case measure => simp [intOf]; have := HLT.out; omega
      · go_wp2_with fail
        go_roundw
        case rel =>
          refine ⟨1 + 1, _, HLT.out, by go_num, rfl, Lib.hid ?_, by trivial⟩
          rw [HST.out]
          exact or_step1 x _ hr.1 (by simpa using hr.2) (UInt8.toNat_lt _)
        case measure => simp [intOf]; have := HLT.out; omega
      · go_wp2_with fail
        go_roundw
        case rel =>
          refine ⟨2 + 1, _, HLT.out, by go_num, rfl, Lib.hid ?_, by trivial⟩
          rw [HST.out]
          exact or_step2 x _ hr.1 (by simpa using hr.2) (UInt8.toNat_lt _)
        case measure => simp [intOf]; have := HLT.out; omega
      · go_wp2_with fail
        go_roundw
        case rel =>
          refine ⟨3 + 1, _, HLT.out, by go_num, rfl, Lib.hid ?_, by trivial⟩
          rw [HST.out]
          exact or_step3 x _ hr.1 (by simpa using hr.2) (UInt8.toNat_lt _)
        case measure => simp [intOf]; have := HLT.out; omega
      · go_wp2_with fail
        go_roundw
        case rel =>
          refine ⟨4 + 1, _, HLT.out, by go_num, rfl, Lib.hid ?_, by trivial⟩
          rw [HST.out]
          exact or_step4 x _ hr.1 (by simpa using hr.2) (UInt8.toNat_lt _)
        case measure => simp [intOf]; have := HLT.out; omega
      · go_wp2_with fail
        go_roundw
        case rel =>
          refine ⟨5 + 1, _, HLT.out, by go_num, rfl, Lib.hid ?_, by trivial⟩
          rw [HST.out]
          exact or_step5 x _ hr.1 (by simpa using hr.2) (UInt8.toNat_lt _)
        case measure => simp [intOf]; have := HLT.out; omega
      · go_wp2_with fail
        go_roundw
        case rel =>
          refine ⟨6 + 1, _, HLT.out, by go_num, rfl, Lib.hid ?_, by trivial⟩
          rw [HST.out]
          exact or_step6 x _ hr.1 (by simpa using hr.2) (UInt8.toNat_lt _)
        case measure => simp [intOf]; have := HLT.out; omega
      · go_wp2_with fail
        go_roundw
        case rel =>
          refine ⟨7 + 1, _, HLT.out, by go_num, rfl, Lib.hid ?_, by trivial⟩
          rw [HST.out]
          exact or_step7 x _ hr.1 (by simpa using hr.2) (UInt8.toNat_lt _)
        case measure => simp [intOf]; have := HLT.out; omega
    · have htk : t = k := by omega
      subst htk
      go_wp2_with fail
      go_ret2
      have := HX.out
      rw [List.take_of_length_le (by rw [HL.out]; exact Nat.le_refl _)] at this
      rw [← this]
      exact ⟨rfl, rfl⟩
end Go.Proofs.YtacpfkimjaihgaaDoor
