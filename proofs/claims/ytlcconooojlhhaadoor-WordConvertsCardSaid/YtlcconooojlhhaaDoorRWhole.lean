/- The document's layer 2: whole (the number without what is behind the point). -/
import Derived.Test.YtlcconooojlhhaaDoorInto
namespace Go.Proofs.YtlcconooojlhhaaDoor
open Go.RowKit
set_option linter.unusedVariables false

def wholeRef (x : Int) : Bool × Int :=
  if nan64 x.toNat = true ∨ rungF x.toNat < 1023 * 2 ^ 52 then (false, 0) else
  if 1087 * 2 ^ 52 ≤ rungF x.toNat then (decide (9223372036854775808 ≤ x), 18446744073709551615) else (decide (9223372036854775808 ≤ x), (wholeF (rungF x.toNat) : Int))
theorem top_bit {x : Int} (h0 : 0 ≤ x) (h1 : x < 18446744073709551616) : (x / 9223372036854775808 == 1) = decide (9223372036854775808 ≤ x) := by
  by_cases h : 9223372036854775808 ≤ x
  · rw [decide_eq_true h]; simp; omega
  · rw [decide_eq_false h]; simp; omega
set_option maxRecDepth 100000 in
set_option maxHeartbeats 4000000 in
theorem rwhole_any (w : World) (x : Int) (h0 : 0 ≤ x) (h1 : x < 18446744073709551616) : Calls Tryd.prog 38 #[.int .u64 x] w fun e w' => e = .returned (numV (wholeRef x)) ∧ Below w.heap.size w w' := by
  obtain ⟨n, rfl⟩ := Int.eq_ofNat_of_zero_le h0
  have hnn := fun W => rnan_any W n h0 h1
  have htop := top_bit h0 h1
  rw [Int.toNat_natCast] at hnn
  unfold wholeRef
  rw [Int.toNat_natCast]
  generalize decide ((9223372036854775808 : Int) ≤ n) = sg at *
  obtain ⟨E, hE⟩ : ∃ E, E = rungF n / 2 ^ 52 := ⟨_, rfl⟩
  obtain ⟨q, hq⟩ : ∃ q, q = rungF n % 2 ^ 52 := ⟨_, rfl⟩
  have hr := Nat.div_add_mod (rungF n) (2 ^ 52)
  rw [← hE, ← hq] at hr
  have hq1 : q < 2 ^ 52 := by rw [hq]; exact Nat.mod_lt _ (Nat.two_pow_pos 52)
  have hrl := rungF_lt n
  have hE1 : E ≤ 2047 := by omega
  have ha : bits BinOp.and IntKind.u64 ((n : Int) / 4503599627370496) 2047 = (E : Int) := by
    have e1 : bits BinOp.and IntKind.u64 ((n : Int) / 4503599627370496) 2047 = (n : Int) / 4503599627370496 % 2048 := and_mask_u64 _ 11 (by omega) (by omega) (by omega)
    rw [e1, hE]
    unfold rungF
    omega
  have hb : bits BinOp.and IntKind.u64 (n : Int) 4503599627370495 = (q : Int) := by
    have e1 : bits BinOp.and IntKind.u64 (n : Int) 4503599627370495 = (n : Int) % 4503599627370496 := and_mask_u64 _ 52 (by omega) (by omega) (by omega)
    rw [e1, hq]
    unfold rungF
    omega
  have ho : bits BinOp.or IntKind.u64 (q : Int) 4503599627370496 = (q : Int) + 4503599627370496 :=
    bits_join_low IntKind.u64 64 (by decide) (fun n h h' => wraps_u64 n h h') 52 (q : Int) 4503599627370496 (by omega) (by omega) (by omega) (by omega) (by omega) (by omega)
  by_cases hn : nan64 n = true
  · rw [if_pos (.inl hn)]
    rw [hn] at hnn
    clear hr hE hq hrl hq1
    go_enter Tryd.func38, Tryd.ntmps38
    go_wp2_with fail
    refine (hnn _).mono ?_
    rintro e w1 ⟨rfl, rfl⟩
    go_wp2_with fail
    go_returns
    exact ⟨rfl, (Below.refl _ _).alloc (Nat.le_refl _) _⟩
  · have hn' : nan64 n = false := by simpa using hn
    rw [hn'] at hnn
    by_cases h23 : E < 1023
    · rw [if_pos (.inr (by omega))]
      have hd : decide ((E : Int) < 1023) = true := decide_eq_true (by omega)
      clear hr hE hq hrl hq1 hn hn'
      go_enter Tryd.func38, Tryd.ntmps38
      go_wp2_with fail
      refine (hnn _).mono ?_
      rintro e w1 ⟨rfl, rfl⟩
      go_wp2_with fail
      go_returns
      exact ⟨rfl, (Below.refl _ _).alloc (Nat.le_refl _) _⟩
    · rw [if_neg (by intro c; rcases c with c | c; exact hn c; omega)]
      by_cases h87 : 1087 ≤ E
      · rw [if_pos (by omega)]
        have i0 : (1087 : Int) ≤ E := by omega
        have i1 : (E : Int) ≤ 2047 := by omega
        clear hr hE hq hrl hq1 hn hn' h23 h87 hE1
        generalize (E : Int) = e at *
        generalize (q : Int) = qq at *
        generalize (n : Int) = x at *
        go_enter Tryd.func38, Tryd.ntmps38
        go_wp2_with fail
        refine (hnn _).mono ?_
        rintro e w1 ⟨rfl, rfl⟩
        go_wp2_with fail
        go_returns
        exact ⟨rfl, (Below.refl _ _).alloc (Nat.le_refl _) _⟩
      · rw [if_neg (by omega)]
        have hA : rungF n = (E - 1) * 2 ^ 52 + (q + 2 ^ 52) := by
          obtain ⟨j, hj⟩ : ∃ j, E = j + 1 := ⟨E - 1, by omega⟩
          rw [← hr, hj, Nat.add_sub_cancel, Nat.mul_comm, Nat.succ_mul, Nat.add_assoc, Nat.add_comm q]
        by_cases h75 : E ≤ 1075
        · have hw : wholeF (rungF n) = (q + 2 ^ 52) / 2 ^ (1074 - (E - 1)) := by
            rw [hA]
            exact wholeF_small (by omega) (by omega) (by omega)
          have hv : ((wholeF (rungF n) : Nat) : Int) = ((q : Int) + 4503599627370496) / 2 ^ (52 - ((E : Int) - 1023)).toNat := by
            rw [hw, show (52 - ((E : Int) - 1023)).toNat = 1074 - (E - 1) by omega, Int.natCast_ediv, Int.natCast_add, Int.natCast_pow]
            rfl
          rw [hv]
          have i0 : (1023 : Int) ≤ E := by omega
          have i1 : (E : Int) ≤ 1075 := by omega
          have i2 : (E : Int) - 1023 ≤ 52 := by omega
          clear hr hE hq hrl hn hn' hA hw hv h23 h87 hE1 h75
          have q0 : (0 : Int) ≤ q := by omega
          have q1 : (q : Int) < 4503599627370496 := by omega
          clear hq1
          generalize (E : Int) = e at *
          generalize (q : Int) = qq at *
          generalize (n : Int) = x at *
          go_enter Tryd.func38, Tryd.ntmps38
          go_wp2_with fail
          refine (hnn _).mono ?_
          rintro e w1 ⟨rfl, rfl⟩
          go_wp2_with fail
          go_returns
          exact ⟨rfl, (Below.refl _ _).alloc (Nat.le_refl _) _⟩
        · have hw : wholeF (rungF n) = (q + 2 ^ 52) * 2 ^ (E - 1 - 1074) := by
            rw [hA]
            exact wholeF_great (by omega) (by omega) (by omega)
          have hlt : wholeF (rungF n) < 2 ^ 64 := by
            have := whole_pos_lt (r := rungF n) (by omega)
            omega
          have hv : IntKind.u64.wrap (((q : Int) + 4503599627370496) * 2 ^ ((E : Int) - 1023 - 52).toNat) = ((wholeF (rungF n) : Nat) : Int) := by
            have e1 : ((q : Int) + 4503599627370496) * 2 ^ ((E : Int) - 1023 - 52).toNat = ((wholeF (rungF n) : Nat) : Int) := by
              rw [hw, show ((E : Int) - 1023 - 52).toNat = E - 1 - 1074 by omega, Int.natCast_mul, Int.natCast_add, Int.natCast_pow]
              rfl
            rw [e1, IntKind.wrap_u64]
            omega
          generalize ((wholeF (rungF n) : Nat) : Int) = V at *
          have i0 : (1076 : Int) ≤ E := by omega
          have i1 : (E : Int) ≤ 1086 := by omega
          have i2 : (52 : Int) < (E : Int) - 1023 := by omega
          have i3 : (E : Int) - 1023 ≤ 63 := by omega
          have q0 : (0 : Int) ≤ q := by omega
          have q1 : (q : Int) < 4503599627370496 := by omega
          clear hr hE hq hrl hq1 hn hn' hA hw hlt h23 h87 hE1 h75
          generalize (E : Int) = e at *
          generalize (q : Int) = qq at *
          generalize (n : Int) = x at *
          go_enter Tryd.func38, Tryd.ntmps38
          go_wp2_with fail
          refine (hnn _).mono ?_
          rintro e w1 ⟨rfl, rfl⟩
          go_wp2_with fail
          go_returns
          exact ⟨rfl, (Below.refl _ _).alloc (Nat.le_refl _) _⟩
/-- What the document's cut gives is what the program's gives. -/
theorem into_whole {k x : Int} (hk : 1 ≤ k ∧ k ≤ 8) (h0 : 0 ≤ x) (h1 : x < 18446744073709551616) (hn : nan64 x.toNat = false) : intoOf k (wholeRef x) = cutOf k x.toNat ∧ ((wholeRef x).1 = true → 0 < (wholeRef x).2) ∧ 0 ≤ (wholeRef x).2 ∧ (wholeRef x).2 < 18446744073709551616 := by
  have hm := mostOf_sig hk
  obtain ⟨n, rfl⟩ := Int.eq_ofNat_of_zero_le h0
  rw [Int.toNat_natCast] at *
  have hnr : rungF n ≤ 2047 * 2 ^ 52 := by
    rw [nan64_eq] at hn
    simpa using hn
  have hkey : (9223372036854775808 ≤ (n : Int) ∧ keyF n = -(rungF n : Int)) ∨ (¬ 9223372036854775808 ≤ (n : Int) ∧ keyF n = (rungF n : Int)) := by
    by_cases h : 9223372036854775808 ≤ (n : Int)
    · obtain ⟨r, hr⟩ : ∃ r, n = r + 2 ^ 63 := ⟨n - 2 ^ 63, by omega⟩
      have h2 := neg_parts (r := r) (by omega)
      refine .inl ⟨h, ?_⟩
      rw [hr, key_neg (by omega), h2.2.1]
    · have h2 := neg_parts (r := n) (by omega)
      refine .inr ⟨h, ?_⟩
      rw [key_pos (by omega), h2.2.2.2]
  have hcut := cutOf_eq k n
  rw [hn, if_neg (by decide)] at hcut
  unfold wholeRef
  rw [Int.toNat_natCast, hn]
  by_cases a1 : rungF n < 1023 * 2 ^ 52
  · rw [if_neg (by omega), if_neg (by omega), if_pos (by omega)] at hcut
    rw [hcut, if_pos (.inr a1)]
    refine ⟨?_, by simp, by simp, by simp⟩
    simp only [intoOf, Bool.false_eq_true, if_false]
    split <;> omega
  · rw [if_neg (by intro c; rcases c with c | c; exact absurd c (by decide); exact a1 c)]
    have w1 : 1 ≤ wholeF (rungF n) := by
      have := wholeF_mono (r := 1023 * 2 ^ 52) (s := rungF n) (by omega)
      rw [whole_one] at this
      exact this
    by_cases a2 : 1087 * 2 ^ 52 ≤ rungF n
    · rw [if_pos a2]
      refine ⟨?_, by simp, by simp, by simp⟩
      rcases hkey with ⟨h, hk2⟩ | ⟨h, hk2⟩
      · rw [if_pos (by omega)] at hcut
        rw [hcut, decide_eq_true h]
        simp only [intoOf, belowOf, if_true]
        cases hs : signedOf k
        · simp
        · have h3 := hm.1 hs
          simp only [if_true]
          omega
      · rw [if_neg (by omega), if_neg (by omega), if_neg (by omega), if_pos (by omega)] at hcut
        rw [hcut, decide_eq_false h]
        simp only [intoOf, aboveOf, Bool.false_eq_true, if_false]
        split <;> rfl
    · rw [if_neg a2]
      have w2 := whole_pos_lt (r := rungF n) (by omega)
      refine ⟨?_, fun _ => by simp only []; omega, by simp, by simp only []; omega⟩
      rcases hkey with ⟨h, hk2⟩ | ⟨h, hk2⟩
      · by_cases a3 : 1086 * 2 ^ 52 ≤ rungF n
        · rw [if_pos (by omega)] at hcut
          rw [hcut, decide_eq_true h]
          have w3 : 9223372036854775808 ≤ wholeF (rungF n) := by
            have := wholeF_mono (r := 1086 * 2 ^ 52) (s := rungF n) a3
            have e : wholeF (1086 * 2 ^ 52) = 9223372036854775808 := by decide +kernel
            omega
          simp only [intoOf, belowOf, if_true]
          cases hs : signedOf k
          · simp
          · have h3 := hm.1 hs
            simp only [if_true]
            omega
        · rw [if_neg (by omega), if_pos (by omega)] at hcut
          rw [hcut, decide_eq_true h]
          simp only [intoOf, belowOf, if_true]
          cases hs : signedOf k
          · simp
          · have h3 := hm.1 hs
            simp only [if_true]
            omega
      · rw [if_neg (by omega), if_neg (by omega), if_neg (by omega), if_neg (by omega)] at hcut
        rw [hcut, decide_eq_false h]
        simp only [intoOf, aboveOf, Bool.false_eq_true, if_false]
        split <;> rfl
end Go.Proofs.YtlcconooojlhhaaDoor
