/- The document's layer 2: float (the bits of the nearest number with a point). -/
import Derived.Test.YtlcconooojlhhaaDoorRWhole
import Derived.Test.YtlcconooojlhhaaDoorGet
namespace Go.Proofs.YtlcconooojlhhaaDoor
open Go.RowKit
set_option linter.unusedVariables false

def floatRef (m : Bool) (n : Int) : Int := if n = 0 then 0 else (if m = true then 9223372036854775808 else 0) + (nearR n.toNat : Int)
theorem or_parts {S E X : Int} (hS : S = 0 ∨ S = 9223372036854775808) (hE0 : 0 ≤ E) (hE1 : E ≤ 2047) (hX0 : 0 ≤ X) (hX1 : X < 4503599627370496) :
    bits BinOp.or IntKind.u64 S (E * 4503599627370496) = S + E * 4503599627370496 ∧ bits BinOp.or IntKind.u64 (S + E * 4503599627370496) X = S + E * 4503599627370496 + X := by
  constructor
  · exact bits_join IntKind.u64 64 (by decide) (fun n h h' => wraps_u64 n h h') 63 S (E * 4503599627370496) (by omega) (by omega) (by omega) (by omega) (by omega) (by omega)
  · exact bits_join IntKind.u64 64 (by decide) (fun n h h' => wraps_u64 n h h') 52 (S + E * 4503599627370496) X (by omega) (by omega) (by omega) (by omega) (by omega) (by omega)
theorem near_small {n : Int} {t : Nat} (h0 : 0 < n) (h1 : (2 : Int) ^ t ≤ n) (h2 : n < 2 ^ (t + 1)) (ht : t ≤ 52) : ∃ Q : Int, IntKind.u64.wrap (n * 2 ^ (52 - t)) = Q ∧ 4503599627370496 ≤ Q ∧ Q < 9007199254740992 ∧ (nearR n.toNat : Int) = ((t : Int) + 1023) * 4503599627370496 + (Q - 4503599627370496) := by
  obtain ⟨N, rfl⟩ := Int.eq_ofNat_of_zero_le (Int.le_of_lt h0)
  have hN : N ≠ 0 := by omega
  have hl : N.log2 = t := (Nat.log2_eq_iff hN).2 ⟨by exact_mod_cast h1, by exact_mod_cast h2⟩
  obtain ⟨e, q1, q2⟩ := near_exact hN (by omega)
  rw [hl] at e q1 q2
  refine ⟨((N * 2 ^ (52 - t) : Nat) : Int), ?_, by omega, by omega, ?_⟩
  · have : (N : Int) * 2 ^ (52 - t) = ((N * 2 ^ (52 - t) : Nat) : Int) := by rw [Int.natCast_mul, Int.natCast_pow]; rfl
    rw [this, IntKind.wrap_u64]
    generalize N * 2 ^ (52 - t) = q at *
    omega
  · rw [Int.toNat_natCast, e]
    generalize N * 2 ^ (52 - t) = q at *
    omega
theorem near_great {n : Int} {t : Nat} (h0 : 0 < n) (h1 : (2 : Int) ^ t ≤ n) (h2 : n < 2 ^ (t + 1)) (ht : 52 < t) (ht2 : t ≤ 63) : ∃ P H R Q u : Int, IntKind.u64.wrap (2 ^ (t - 52)) = P ∧ IntKind.u64.wrap (2 ^ (t - 52 - 1)) = H ∧ IntKind.u64.wrap (P - 1) = P - 1 ∧
    bits BinOp.and IntKind.u64 n (P - 1) = R ∧ n / 2 ^ (t - 52) = Q ∧ 4503599627370496 ≤ Q ∧ Q < 9007199254740992 ∧ (u = if H < R ∨ (R = H ∧ Q % 2 = 1) then 1 else 0) ∧ (nearR n.toNat : Int) = ((t : Int) + 1023) * 4503599627370496 + (Q + u - 4503599627370496) := by
  obtain ⟨N, rfl⟩ := Int.eq_ofNat_of_zero_le (Int.le_of_lt h0)
  have hN : N ≠ 0 := by omega
  have g1 : 2 ^ t ≤ N := by exact_mod_cast h1
  have g2 : N < 2 ^ (t + 1) := by exact_mod_cast h2
  have hl : N.log2 = t := (Nat.log2_eq_iff hN).2 ⟨g1, g2⟩
  obtain ⟨c, hc⟩ : ∃ c, t = c + 1 + 52 := ⟨t - 53, by omega⟩
  have hc11 : c + 1 ≤ 11 := by omega
  have e52 : t - 52 = c + 1 := by omega
  have e521 : t - 52 - 1 = c := by omega
  have hP : 2 ^ (c + 1) = 2 * 2 ^ c := by rw [Nat.pow_succ, Nat.mul_comm]
  have hPle : 2 ^ (c + 1) ≤ 2048 := Nat.pow_le_pow_right (n := 2) (by omega) hc11
  have hPpos := Nat.two_pow_pos c
  have q1 : 2 ^ 52 ≤ N / 2 ^ (c + 1) := (Nat.le_div_iff_mul_le (Nat.two_pow_pos _)).2 (by rw [← Nat.pow_add, show 52 + (c + 1) = t by omega]; exact g1)
  have q2 : N / 2 ^ (c + 1) < 2 ^ 53 := (Nat.div_lt_iff_lt_mul (Nat.two_pow_pos _)).2 (by rw [← Nat.pow_add, show 53 + (c + 1) = t + 1 by omega]; exact g2)
  have hnr : nearR N = (t + 1022) * 2 ^ 52 + (N / 2 ^ (c + 1) + (if 2 ^ (c + 1) < 2 * (N % 2 ^ (c + 1)) ∨ (2 ^ (c + 1) = 2 * (N % 2 ^ (c + 1)) ∧ N / 2 ^ (c + 1) % 2 = 1) then 1 else 0)) := by
    unfold nearR
    rw [hl, if_neg (by omega), e52]
  have hand := and_mask_u64 (N : Int) (c + 1) (by omega) (by omega) (by
    have : N < 2 ^ 64 := Nat.lt_of_lt_of_le g2 (Nat.pow_le_pow_right (by omega) (by omega))
    omega)
  rw [e52, Nat.add_sub_cancel]
  have p1 : (2 : Int) ^ (c + 1) = ((2 ^ (c + 1) : Nat) : Int) := by rw [Int.natCast_pow]; rfl
  have p2 : (2 : Int) ^ c = ((2 ^ c : Nat) : Int) := by rw [Int.natCast_pow]; rfl
  rw [p1, p2]
  rw [Int.toNat_natCast, hnr]
  clear p1 p2 hnr g1 g2 h1 h2 hl e52 e521
  have hdiv : (N : Int) / ((2 ^ (c + 1) : Nat) : Int) = ((N / 2 ^ (c + 1) : Nat) : Int) := (Int.natCast_ediv _ _).symm
  have hmod : (N : Int) % ((2 ^ (c + 1) : Nat) : Int) = ((N % 2 ^ (c + 1) : Nat) : Int) := (Int.natCast_emod _ _).symm
  rw [hdiv]
  rw [hmod] at hand
  clear hdiv hmod
  rw [hP] at *
  generalize 2 ^ c = p at *
  generalize N / (2 * p) = q at *
  generalize N % (2 * p) = r at *
  refine ⟨((2 * p : Nat) : Int), (p : Int), (r : Int), (q : Int), _, ?_, ?_, ?_, ?_, rfl, by omega, by omega, rfl, ?_⟩
  · rw [IntKind.wrap_u64]; omega
  · rw [IntKind.wrap_u64]; omega
  · rw [IntKind.wrap_u64]; omega
  · rw [← hand]
    congr 1
    omega
  · by_cases hu : 2 * p < 2 * r ∨ (2 * p = 2 * r ∧ q % 2 = 1)
    · rw [if_pos hu, if_pos (by omega)]
      omega
    · rw [if_neg hu, if_neg (by omega)]
      omega
theorem pow_div_zero {n : Int} {t : Nat} (h0 : 0 ≤ n) : (n < 2 ^ t → (n / 2 ^ t == 0) = true) ∧ ((2 : Int) ^ t ≤ n → (n / 2 ^ t == 0) = false) := by
  have hp : (0 : Int) < 2 ^ t := Int.pow_pos (by decide)
  constructor
  · intro h
    rw [Int.ediv_eq_zero_of_lt h0 h]
    rfl
  · intro h
    have : 1 ≤ n / 2 ^ t := (Int.le_ediv_iff_mul_le hp).2 (by omega)
    simp
    omega
set_option maxRecDepth 100000 in
set_option maxHeartbeats 16000000 in
theorem rfloat_pos (w : World) (m : Bool) (n : Int) (h0 : 0 < n) (h1 : n < 18446744073709551616) : Calls Tryd.prog 34 #[.agg #[.bool m, .int .u64 n]] w fun e w' => e = .returned (.int .u64 (floatRef m n)) ∧ Below w.heap.size w w' := by
  have hz : (n == 0) = false := by simp; omega
  obtain ⟨W, hW⟩ : ∃ W, W = w.alloc (Obj.cells #[.bool m, .int .u64 n] 51) := ⟨_, rfl⟩
  have hbW : Below w.heap.size w W := by rw [hW]; exact (Below.refl _ _).alloc (Nat.le_refl _) _
  have kk : W.heap[w.heap.size]? = some (.cells [Value.bool m, .int .u64 n].toArray 51 (0, 0)) := by rw [hW]; exact heap_alloc_new w _
  have c0 : W.cell? ⟨w.heap.size, 0, none⟩ = some (.bool m) := by rw [cell_of_row _ _ _ _ _ _ kk]; rfl
  have c1 : W.cell? ⟨w.heap.size, 1, none⟩ = some (.int .u64 n) := by rw [cell_of_row _ _ _ _ _ _ kk]; rfl
  clear kk
  have hS : ∃ S : Int, (if m = true then (9223372036854775808 : Int) else 0) = S ∧ (S = 0 ∨ S = 9223372036854775808) := ⟨_, rfl, by cases m <;> simp⟩
  obtain ⟨S, hS1, hS2⟩ := hS
  have hfr : floatRef m n = S + (nearR n.toNat : Int) := by rw [floatRef, if_neg (by omega), hS1]
  rw [hfr]
  go_enter Tryd.func34, Tryd.ntmps34
  go_upto_region 1 with (fail)
  rw [← hW]
  obtain ⟨b, hb⟩ : ∃ b, b = w.heap.size := ⟨_, rfl⟩
  rw [← hb] at c0 c1 ⊢
  clear hb hW hfr
  cases m
  all_goals
    simp only [Bool.false_eq_true, if_false, if_true] at hS1
    subst hS1
    clear hS2
    go_wp2_with fail
    go_loopw [4] (fun i wx => ∃ (t : Nat), t ≤ 63 ∧ i = .int .i64 t ∧ Hid (n < 2 ^ (t + 1)) ∧ wx = W) (fun i _ => (intOf i).toNat)
    case atStart => exact ⟨63, by omega, rfl, Lib.hid (by omega), rfl⟩
    case round =>
      obtain ⟨t, ht, rfl, HLT, rfl⟩ := hrel
      by_cases hlt : n < 2 ^ t
      · have hq := (pow_div_zero (n := n) (t := t) (by omega)).1 hlt
        have htp : 1 ≤ t := by
          cases t with
          | zero => simp at hlt; omega
          | succ t => omega
        have HLT2 := Lib.hid hlt
        clear hlt HLT
        go_wp2_with fail
        go_roundw
        case rel => exact ⟨t - 1, by omega, by go_num, Lib.hid (by rw [show t - 1 + 1 = t by omega]; exact HLT2.out), by trivial⟩
        case measure => simp [intOf]; omega
      · have hge : (2 : Int) ^ t ≤ n := by omega
        have hq := (pow_div_zero (n := n) (t := t) (by omega)).2 hge
        by_cases h52 : t ≤ 52
        · obtain ⟨Q, e1, e2, e3, e4⟩ := near_small h0 hge HLT.out h52
          have hand : bits BinOp.and IntKind.u64 Q 4503599627370495 = Q - 4503599627370496 := by
            have := and_mask_u64 Q 52 (by omega) (by omega) (by omega)
            have e : bits BinOp.and IntKind.u64 Q 4503599627370495 = Q % 4503599627370496 := this
            rw [e]; omega
          have hor := fun S hS => or_parts (S := S) (E := 1023 + (t : Int)) (X := Q - 4503599627370496) hS (by omega) (by omega) (by omega) (by omega)
          have ho0 := hor 0 (.inl rfl)
          have ho1 := hor 9223372036854775808 (.inr rfl)
          have HE := Lib.hid e4
          clear hlt hge HLT hor e4
          go_wp2_with fail
          go_ret
          refine ⟨congrArg (fun z => Ending.returned (Value.int IntKind.u64 z)) ?_, hbW⟩
          have := HE.out
          first
            | (rw [this]; omega)
            | (simp only [Int.zero_add] at ho0; rw [this]; omega)
        · obtain ⟨P, H, R, Q, u, e1, e2, e3, e4, e5, e6, e7, e8, e9⟩ := near_great h0 hge HLT.out (by omega) ht
          have hodd : bits BinOp.and IntKind.u64 Q 1 = Q % 2 := and_mask_u64 Q 1 (by omega) (by omega) (by omega)
          have hup : (u = 1 ∧ (H < R ∨ (R = H ∧ Q % 2 = 1))) ∨ (u = 0 ∧ ((R = H ∧ Q % 2 = 0) ∨ R < H)) := by
            rw [e8]
            by_cases hc : H < R ∨ (R = H ∧ Q % 2 = 1)
            · rw [if_pos hc]; exact .inl ⟨rfl, hc⟩
            · rw [if_neg hc]; exact .inr ⟨rfl, by omega⟩
          have HE := Lib.hid e9
          have h52' : (52 : Int) < t := by omega
          clear e8 e9 hlt hge HLT h52
          rcases hup with ⟨rfl, hup⟩ | ⟨rfl, hup⟩
          · by_cases hcar : Q = 9007199254740991
            · have hw1 : IntKind.u64.wrap (Q + 1) = 9007199254740992 := by rw [IntKind.wrap_u64]; omega
              have hand : bits BinOp.and IntKind.u64 4503599627370496 4503599627370495 = 0 := by decide
              have hor := fun S hS => or_parts (S := S) (E := 1023 + (t : Int) + 1) (X := 0) hS (by omega) (by omega) (by omega) (by omega)
              have ho0 := hor 0 (.inl rfl)
              have ho1 := hor 9223372036854775808 (.inr rfl)
              have HC := Lib.hid hcar
              clear hor hcar
              rcases hup with hup | ⟨hup, hq2⟩
              · go_wp2_with fail
                go_ret
                refine ⟨congrArg (fun z => Ending.returned (Value.int IntKind.u64 z)) ?_, hbW⟩
                have h1 := HE.out
                have h2 := HC.out
                first | (rw [h1]; omega) | (simp only [Int.zero_add] at ho0; rw [h1]; omega)
              · rw [hq2] at hodd
                go_wp2_with fail
                go_ret
                refine ⟨congrArg (fun z => Ending.returned (Value.int IntKind.u64 z)) ?_, hbW⟩
                have h1 := HE.out
                have h2 := HC.out
                first | (rw [h1]; omega) | (simp only [Int.zero_add] at ho0; rw [h1]; omega)
            · have hw1 : IntKind.u64.wrap (Q + 1) = Q + 1 := by rw [IntKind.wrap_u64]; omega
              have hne : (Q + 1 == 9007199254740992) = false := by simp; omega
              have hand : bits BinOp.and IntKind.u64 (Q + 1) 4503599627370495 = Q + 1 - 4503599627370496 := by
                have e : bits BinOp.and IntKind.u64 (Q + 1) 4503599627370495 = (Q + 1) % 4503599627370496 := and_mask_u64 (Q + 1) 52 (by omega) (by omega) (by omega)
                rw [e]; omega
              have hor := fun S hS => or_parts (S := S) (E := 1023 + (t : Int)) (X := Q + 1 - 4503599627370496) hS (by omega) (by omega) (by omega) (by omega)
              have ho0 := hor 0 (.inl rfl)
              have ho1 := hor 9223372036854775808 (.inr rfl)
              clear hor hcar
              rcases hup with hup | ⟨hup, hq2⟩
              · go_wp2_with fail
                go_ret
                refine ⟨congrArg (fun z => Ending.returned (Value.int IntKind.u64 z)) ?_, hbW⟩
                have h1 := HE.out
                first | (rw [h1]; omega) | (simp only [Int.zero_add] at ho0; rw [h1]; omega)
              · rw [hq2] at hodd
                go_wp2_with fail
                go_ret
                refine ⟨congrArg (fun z => Ending.returned (Value.int IntKind.u64 z)) ?_, hbW⟩
                have h1 := HE.out
                first | (rw [h1]; omega) | (simp only [Int.zero_add] at ho0; rw [h1]; omega)
          · have hne : (Q == 9007199254740992) = false := by simp; omega
            have hand : bits BinOp.and IntKind.u64 Q 4503599627370495 = Q - 4503599627370496 := by
              have e : bits BinOp.and IntKind.u64 Q 4503599627370495 = Q % 4503599627370496 := and_mask_u64 Q 52 (by omega) (by omega) (by omega)
              rw [e]; omega
            have hor := fun S hS => or_parts (S := S) (E := 1023 + (t : Int)) (X := Q - 4503599627370496) hS (by omega) (by omega) (by omega) (by omega)
            have ho0 := hor 0 (.inl rfl)
            have ho1 := hor 9223372036854775808 (.inr rfl)
            clear hor
            rcases hup with ⟨hup, hq2⟩ | hup
            · rw [hq2] at hodd
              go_wp2_with fail
              go_ret
              refine ⟨congrArg (fun z => Ending.returned (Value.int IntKind.u64 z)) ?_, hbW⟩
              have h1 := HE.out
              first | (rw [h1]; omega) | (simp only [Int.zero_add] at ho0; rw [h1]; omega)
            · go_wp2_with fail
              go_ret
              refine ⟨congrArg (fun z => Ending.returned (Value.int IntKind.u64 z)) ?_, hbW⟩
              have h1 := HE.out
              first | (rw [h1]; omega) | (simp only [Int.zero_add] at ho0; rw [h1]; omega)
end Go.Proofs.YtlcconooojlhhaaDoor
