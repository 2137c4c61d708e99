/- The document's layer 1: Put, Get; layer 2: Read. -/
import Derived.Test.YtacpfkimjaihgaaDoorRef02
import Derived.Test.YtacpfkimjaihgaaDoorRead
namespace Go.Proofs.YtacpfkimjaihgaaDoor
open Go.RowKit
set_option linter.unusedVariables false

theorem app_bytesO (a b : List UInt8) : (⟨a.toArray⟩ : ByteArray) ++ ⟨b.toArray⟩ = ⟨(a ++ b).toArray⟩ := by
  apply ByteArray.ext
  simp
theorem leS_succ (n : Int) (t : Nat) : leS n t ++ ⟨[leB n t].toArray⟩ = leS n (t + 1) := by
  rw [leS, app_bytesO, ← leL_succ]
  rfl
theorem div_div256 (n : Int) (h0 : 0 ≤ n) (t : Nat) : n / 256 ^ t / 256 = n / 256 ^ (t + 1) := by
  obtain ⟨m, rfl⟩ := Int.eq_ofNat_of_zero_le h0
  have := Nat.div_div_eq_div_mul m (256 ^ t) 256
  have h2 : ((m / 256 ^ t / 256 : Nat) : Int) = ((m / (256 ^ t * 256) : Nat) : Int) := by rw [this]
  rw [Int.pow_succ]
  simp only [Int.natCast_ediv, Int.natCast_mul, Int.natCast_pow] at h2
  exact h2
set_option maxRecDepth 100000 in
set_option maxHeartbeats 1000000 in
theorem rput_any8 (w : World) (v : Int) (k : Nat) (hk : k ≤ 8) (h0 : 0 ≤ v) (h1 : v < 18446744073709551616) : Calls Tryd.prog 98 #[.int .u64 v, .int .i64 k] w fun e w' => e = .returned (.string (leS v k)) ∧ Below w.heap.size w w' := by
  go_enter Tryd.func98, Tryd.ntmps98
  go_wp2_with fail
  go_loopw [0, 5, 6] (fun v' s i wx => ∃ (t : Nat) (x : Int) (S : ByteArray), t ≤ k ∧ i = .int .i64 t ∧ v' = .int .u64 x ∧ 0 ≤ x ∧ x < 18446744073709551616 ∧ Hid (x = v / 256 ^ t) ∧ s = .string S ∧ Hid (S = leS v t) ∧ S.size = t ∧ Below w.heap.size w wx) (fun _ _ i _ => k - (intOf i).toNat)
  case atStart => exact ⟨0, v, _, by omega, rfl, rfl, h0, h1, Lib.hid (by simp), rfl, Lib.hid rfl, rfl, Below.refl _ _⟩
  case round =>
    obtain ⟨t, x, S, ht, rfl, rfl, hx0, hx1, HX, rfl, HS, hsz, hbel⟩ := hrel
    have zr := hbel.size
    by_cases hlt : t < k
    · have hby : ((leB v t).toNat : Int) = x % 256 := by rw [leB_toNat, ← HX.out]
      have hcv := run_string_of (P := Tryd.prog) Tryd.underlying64 Tryd.underlying5 Tryd.underlying9 (wr.alloc (.cells #[.int .u8 (x % 256)] 5)) wr.heap.size 0 1 1 [leB v t] rfl (fun j hj => by
        have hj0 : j = 0 := by simpa using hj
        subst hj0
        rw [cell_of_row _ _ _ _ _ _ (heap_alloc_new _ _)]
        simp only [List.getElem_cons_zero, hby]
        rfl)
      have hq0 : 0 ≤ x / 256 := by omega
      have hq1 : x / 256 < 18446744073709551616 := by omega
      clear hby
      go_wp2_with fail
      go_roundw
      case rel =>
        refine ⟨t + 1, x / 256, _, by omega, by go_num, rfl, hq0, hq1, Lib.hid (by rw [HX.out, div_div256 v h0]), rfl, ?_, ?_, hbel.alloc zr _⟩
        · exact Lib.hid (by rw [HS.out, ← leS_succ])
        · rw [HS.out, leS_succ, leS_size]
      case measure => simp [intOf]; omega
    · have htk : t = k := by omega
      subst htk
      go_wp2_with fail
      go_ret
      rw [HS.out]
      exact ⟨rfl, hbel⟩
theorem rwithin_any (w : World) (at_ n all : Int) (h0 : 0 ≤ all) (h1 : all < 9223372036854775808) : Calls Tryd.prog 96 #[.int .i64 at_, .int .i64 n, .int .i64 all] w fun e w' => e = .returned (.bool (withinB at_ n all)) ∧ w = w' := by
  by_cases a1 : 0 ≤ at_
  · by_cases a2 : 0 ≤ n
    · by_cases a3 : at_ ≤ all
      · by_cases a4 : n ≤ all - at_
        · rw [show withinB at_ n all = true from decide_eq_true ⟨a1, a2, a3, a4⟩]
          go_enter Tryd.func96, Tryd.ntmps96
          go_wp2
          go_ret
          exact ⟨rfl, rfl⟩
        · rw [show withinB at_ n all = false from decide_eq_false (fun h => a4 h.2.2.2)]
          go_enter Tryd.func96, Tryd.ntmps96
          go_wp2
          go_ret
          exact ⟨rfl, rfl⟩
      · rw [show withinB at_ n all = false from decide_eq_false (fun h => a3 h.2.2.1)]
        go_enter Tryd.func96, Tryd.ntmps96
        go_wp2
        go_ret
        exact ⟨rfl, rfl⟩
    · rw [show withinB at_ n all = false from decide_eq_false (fun h => a2 h.2.1)]
      go_enter Tryd.func96, Tryd.ntmps96
      go_wp2
      go_ret
      exact ⟨rfl, rfl⟩
  · rw [show withinB at_ n all = false from decide_eq_false (fun h => a1 h.1)]
    go_enter Tryd.func96, Tryd.ntmps96
    go_wp2
    go_ret
    exact ⟨rfl, rfl⟩

theorem leV_drop {l : List UInt8} {t : Nat} (h : t < l.length) : leV (l.drop t) = (l[t].toNat : Int) + 256 * leV (l.drop (t + 1)) := by
  rw [List.drop_eq_getElem_cons h]
  rfl
theorem pow256 {n : Nat} (h : n ≤ 8) : (256 : Int) ^ n ≤ 18446744073709551616 := by
  have h8 : n = 0 ∨ n = 1 ∨ n = 2 ∨ n = 3 ∨ n = 4 ∨ n = 5 ∨ n = 6 ∨ n = 7 ∨ n = 8 := by omega
  rcases h8 with rfl | rfl | rfl | rfl | rfl | rfl | rfl | rfl | rfl <;> simp
theorem leV_lt {l : List UInt8} (h : l.length ≤ 8) : 0 ≤ leV l ∧ leV l < 18446744073709551616 := by
  have h1 := leV_range l
  have h2 := pow256 h
  omega
set_option maxRecDepth 100000 in
set_option maxHeartbeats 2000000 in
theorem rget_any8 (w : World) (s : ByteArray) (k : Nat) (hk1 : 1 ≤ k) (hk : k ≤ 8) (hs : k ≤ s.size) (hsm : s.size < 9223372036854775808) : Calls Tryd.prog 97 #[.string s, .int .i64 0, .int .i64 k] w fun e w' => e = .returned (.tuple #[.int .u64 (leV (s.data.toList.take k)), .bool true]) ∧ w = w' := by
  obtain ⟨l, hl⟩ : ∃ l, l = s.data.toList.take k := ⟨_, rfl⟩
  have hll : l.length = k := by rw [hl, List.length_take, Array.length_toList]; exact Nat.min_eq_left hs
  have hget : ∀ t (h : t < k) (h' : t < s.size), s[t] = l.getD t 0 := by
    intro t h h'
    rw [List.getD_eq_getElem?_getD, List.getElem?_eq_getElem (by rw [hll]; exact h)]
    simp only [hl, List.getElem_take]
    rfl
  rw [← hl]
  have HL := Lib.hid hll
  have HG := Lib.hid hget
  clear hl hll hget
  have hw := rwithin_any w 0 k s.size (by omega) (by omega)
  rw [show withinB 0 k s.size = true from decide_eq_true ⟨by omega, by omega, by omega, by omega⟩] at hw
  go_enter Tryd.func97, Tryd.ntmps97
  go_wp2_with fail
  refine hw.mono ?_
  rintro e w1 ⟨rfl, rfl⟩
  clear hw
  go_wp2_with fail
  go_loopw [9, 10] (fun v i wx => ∃ (t : Nat) (x : Int), t ≤ k ∧ i = .int .i64 ((t : Int) - 1) ∧ v = .int .u64 x ∧ 0 ≤ x ∧ x < 256 ^ (k - t) ∧ Hid (x = leV (l.drop t)) ∧ wx = w) (fun _ i _ => (intOf i + 1).toNat)
  case atStart =>
    refine ⟨k, 0, by omega, rfl, rfl, by omega, by simp, Lib.hid ?_, rfl⟩
    rw [List.drop_of_length_le (by rw [HL.out]; exact Nat.le_refl _)]
    rfl
  case round =>
    obtain ⟨t, x, ht, rfl, rfl, hx0, hx1, HX, rfl⟩ := hrel
    cases t with
    | zero =>
      rw [show (((0 : Nat) : Int) - 1) = -1 from rfl]
      go_wp2_with fail
      go_ret2
      have := HX.out
      rw [List.drop_zero] at this
      rw [this]
      exact ⟨rfl, rfl⟩
    | succ t =>
      rw [show (((t + 1 : Nat) : Int) - 1) = (t : Int) by omega]
      have hp : (256 : Int) ^ (k - (t + 1)) * 256 = 256 ^ (k - t) := by
        rw [← Int.pow_succ]
        congr 1
        omega
      have hp8 := pow256 (n := k - t) (by omega)
      have hts : t < s.size := by omega
      have hb : (s[t].toNat : Int) < 256 := by have := s[t].toNat_lt; omega
      have hst := leV_drop (l := l) (t := t) (by rw [HL.out]; omega)
      have hgt := HG.out t (by omega) hts
      rw [List.getD_eq_getElem?_getD, List.getElem?_eq_getElem (show t < l.length by rw [HL.out]; omega)] at hgt
      simp only [Option.getD_some] at hgt
      rw [← HX.out, ← hgt] at hst
      clear hgt
      have HST := Lib.hid hst
      have hwr : IntKind.u64.wrap (IntKind.u64.wrap (x * 256) + (s[t].toNat : Int)) = (s[t].toNat : Int) + 256 * x := by
        rw [IntKind.wrap_u64, IntKind.wrap_u64]
        generalize (256 : Int) ^ (k - (t + 1)) = p at *
        omega
      have hr0 : 0 ≤ (s[t].toNat : Int) + 256 * x := by omega
      have hr1 : (s[t].toNat : Int) + 256 * x < 256 ^ (k - t) := by
        rw [← hp]
        generalize (256 : Int) ^ (k - (t + 1)) = p at *
        omega
      clear hst hp hp8 hx1
      go_wp2_with fail
      go_roundw
      case rel => exact ⟨t, (s[t].toNat : Int) + 256 * x, by omega, rfl, rfl, hr0, hr1, Lib.hid HST.out.symm, by trivial⟩
      case measure => simp [intOf]
theorem rget_short (w : World) (s : ByteArray) (k : Nat) (hk1 : 1 ≤ k) (hk : k ≤ 8) (hs : s.size < k) : Calls Tryd.prog 97 #[.string s, .int .i64 0, .int .i64 k] w fun e w' => e = .returned (.tuple #[.int .u64 0, .bool false]) ∧ w = w' := by
  have hw := rwithin_any w 0 k s.size (by omega) (by omega)
  rw [show withinB 0 k s.size = false from decide_eq_false (fun h => by have := h.2.2.2; omega)] at hw
  clear hs
  go_enter Tryd.func97, Tryd.ntmps97
  go_wp2_with fail
  refine hw.mono ?_
  rintro e w1 ⟨rfl, rfl⟩
  clear hw
  go_wp2_with fail
  go_ret2
  exact ⟨rfl, rfl⟩
set_option maxHeartbeats 1000000 in
theorem rread_any (w : World) (k : Int) (s : ByteArray) (hsm : s.size < 9223372036854775808) : Calls Tryd.prog 77 #[.int .i64 k, .string s] w fun e w' => e = .returned (.tuple #[.int .u64 (readOf k s).1, .int .i64 (readOf k s).2]) ∧ w = w' := by
  by_cases hz : widthOf k = 0
  · have hr : readOf k s = (0, 1) := by rw [readOf, if_pos hz]
    rw [hr]
    have hwd := rwidth_any w k
    rw [hz] at hwd
    clear hz hr
    go_enter Tryd.func77, Tryd.ntmps77
    go_wp2_with fail
    refine hwd.mono ?_
    rintro e w1 ⟨rfl, rfl⟩
    go_wp2_with fail
    go_ret2
    exact ⟨rfl, rfl⟩
  · have hrg := widthOf_range k
    obtain ⟨m, hm⟩ := Int.eq_ofNat_of_zero_le hrg.1
    have hm8 : 1 ≤ m ∧ m ≤ 8 := by omega
    have hwd := rwidth_any w k
    rw [hm] at hwd
    have hmz : ((m : Int) == 0) = false := by simp; omega
    by_cases hs : s.size = m
    · have hr : readOf k s = (clipOf k (leV s.data.toList), 0) := by rw [readOf, if_neg hz, if_neg (by omega)]
      rw [hr]
      have hlen : s.data.toList.length = m := by rw [Array.length_toList]; exact hs
      have hl := leV_lt (l := s.data.toList) (by omega)
      have hg := rget_any8 w s m hm8.1 hm8.2 (by omega) hsm
      rw [List.take_of_length_le (by omega)] at hg
      have hc := rclip_any w k (leV s.data.toList) hl.1 hl.2
      generalize clipOf k (leV s.data.toList) = cv at *
      generalize leV s.data.toList = lv at *
      have hne : ((s.size : Int) != (m : Int)) = false := by simp; omega
      clear hs hm hz hr hrg hlen
      go_enter Tryd.func77, Tryd.ntmps77
      go_wp2_with fail
      refine hwd.mono ?_
      rintro e w1 ⟨rfl, rfl⟩
      go_wp2_with fail
      refine hg.mono ?_
      rintro e w1 ⟨rfl, rfl⟩
      go_wp2_with fail
      refine hc.mono ?_
      rintro e w1 ⟨rfl, rfl⟩
      go_wp2_with fail
      go_ret2
      exact ⟨rfl, rfl⟩
    · have hr : readOf k s = (0, 10) := by rw [readOf, if_neg hz, if_pos (by omega)]
      rw [hr]
      have hne : ((s.size : Int) != (m : Int)) = true := by simp; omega
      by_cases hlt : s.size < m
      · have hg := rget_short w s m hm8.1 hm8.2 hlt
        clear hs hm hz hr hrg hlt
        go_enter Tryd.func77, Tryd.ntmps77
        go_wp2_with fail
        refine hwd.mono ?_
        rintro e w1 ⟨rfl, rfl⟩
        go_wp2_with fail
        refine hg.mono ?_
        rintro e w1 ⟨rfl, rfl⟩
        go_wp2_with fail
        go_ret2
        exact ⟨rfl, rfl⟩
      · have hg := rget_any8 w s m hm8.1 hm8.2 (by omega) hsm
        generalize leV (s.data.toList.take m) = lv at *
        clear hs hm hz hr hrg hlt
        go_enter Tryd.func77, Tryd.ntmps77
        go_wp2_with fail
        refine hwd.mono ?_
        rintro e w1 ⟨rfl, rfl⟩
        go_wp2_with fail
        refine hg.mono ?_
        rintro e w1 ⟨rfl, rfl⟩
        go_wp2_with fail
        go_ret2
        exact ⟨rfl, rfl⟩
end Go.Proofs.YtacpfkimjaihgaaDoor
