/- The document's layer 2: number, rank, nan, order. -/
import Derived.Test.YtlcconooojlhhaaDoorRef02
import Derived.Test.YtlcconooojlhhaaDoorRank
import Derived.Test.YtlcconooojlhhaaDoorWhole
import Derived.Laws.StructEq
import Derived.Handy
namespace Go.Proofs.YtlcconooojlhhaaDoor
open Go.RowKit
set_option linter.unusedVariables false

def numV (p : Bool × Int) : Value := .agg #[.bool p.1, .int .u64 p.2]
def numRef (k x : Int) : Bool × Int := if signedOf k = true ∧ 9223372036854775808 ≤ x then (true, 18446744073709551616 - x) else (false, x)
def rankRef (x : Int) : Bool × Int := if x = 0 ∨ x = 9223372036854775808 then (false, 0) else (decide (9223372036854775808 ≤ x), x % 9223372036854775808)
theorem xor_maxR (x : Int) (h0 : 0 ≤ x) (h1 : x < 18446744073709551616) : bits BinOp.xor IntKind.u64 IntKind.u64.max x = 18446744073709551615 - x := by
  have h4 : bits BinOp.xor IntKind.u64 IntKind.u64.max x = IntKind.u64.wrap ((BitVec.ofInt 64 IntKind.u64.max ^^^ BitVec.ofInt 64 x).toNat : Int) := rfl
  have h5 : BitVec.ofInt 64 IntKind.u64.max = BitVec.allOnes 64 := by decide
  rw [h4, h5, BitVec.allOnes_xor, BitVec.toNat_not, BitVec.toNat_ofInt, IntKind.wrap_u64]
  omega
theorem rnan_any (w : World) (x : Int) (h0 : 0 ≤ x) (h1 : x < 18446744073709551616) : Calls Tryd.prog 36 #[.int .u64 x] w fun e w' => e = .returned (.bool (nan64 x.toNat)) ∧ w = w' := by
  have hn : nan64 x.toNat = decide (9218868437227405312 < x % 9223372036854775808) := by
    rw [nan64_eq, rungF]
    exact decide_eq_decide.2 (by omega)
  have ha1 : bits BinOp.and IntKind.u64 (x / 4503599627370496) 2047 = x / 4503599627370496 % 2048 := and_mask_u64 _ 11 (by omega) (by omega) (by omega)
  have ha2 : bits BinOp.and IntKind.u64 x 4503599627370495 = x % 4503599627370496 := and_mask_u64 _ 52 (by omega) h0 h1
  rw [hn]
  obtain ⟨p, hp⟩ : ∃ p, p = x / 4503599627370496 % 2048 := ⟨_, rfl⟩
  obtain ⟨q, hq⟩ : ∃ q, q = x % 4503599627370496 := ⟨_, rfl⟩
  rw [← hp] at ha1
  rw [← hq] at ha2
  by_cases h2 : p = 2047
  · by_cases h3 : q = 0
    · rw [show decide (9218868437227405312 < x % 9223372036854775808) = false from decide_eq_false (by omega)]
      rw [h2] at ha1
      rw [h3] at ha2
      clear hp hq h2 h3 hn
      go_enter Tryd.func36, Tryd.ntmps36
      go_wp2
      go_ret
      exact ⟨rfl, rfl⟩
    · rw [show decide (9218868437227405312 < x % 9223372036854775808) = true from decide_eq_true (by omega)]
      have hz : (q != 0) = true := by simpa using h3
      rw [h2] at ha1
      clear hp hq h2 h3 hn
      go_enter Tryd.func36, Tryd.ntmps36
      go_wp2
      go_ret
      exact ⟨rfl, rfl⟩
  · rw [show decide (9218868437227405312 < x % 9223372036854775808) = false from decide_eq_false (by omega)]
    have hz : (p == 2047) = false := by simpa using h2
    clear hp hq h2 hn
    go_enter Tryd.func36, Tryd.ntmps36
    go_wp2
    go_ret
    exact ⟨rfl, rfl⟩
set_option maxHeartbeats 1000000 in
theorem rnumber_any (w : World) (k x : Int) (h0 : 0 ≤ x) (h1 : x < 18446744073709551616) : Calls Tryd.prog 35 #[.int .i64 k, .int .u64 x] w fun e w' => e = .returned (numV (numRef k x)) ∧ Below w.heap.size w w' := by
  have hxor := xor_maxR x h0 h1
  have hns : IntKind.u64.signed = false := rfl
  have hsg := fun W => rsigned_any W k
  unfold numRef
  cases hs : signedOf k
  · rw [hs] at hsg
    rw [if_neg (by simp)]
    clear hs
    go_enter Tryd.func35, Tryd.ntmps35
    go_wp2_with fail
    refine (hsg _).mono ?_
    rintro e w1 ⟨rfl, rfl⟩
    go_wp2_with fail
    go_returns
    exact ⟨rfl, (Below.refl _ _).alloc (Nat.le_refl _) _⟩
  · rw [hs] at hsg
    by_cases hx : 9223372036854775808 ≤ x
    · rw [if_pos ⟨rfl, hx⟩]
      have htop : (x / 9223372036854775808 == 1) = true := by simp; omega
      have hwr : IntKind.u64.wrap (18446744073709551615 - x + 1) = 18446744073709551616 - x := by rw [IntKind.wrap_u64]; omega
      clear hs
      go_enter Tryd.func35, Tryd.ntmps35
      go_wp2_with fail
      refine (hsg _).mono ?_
      rintro e w1 ⟨rfl, rfl⟩
      go_wp2_with fail
      go_returns
      exact ⟨rfl, (Below.refl _ _).alloc (Nat.le_refl _) _⟩
    · rw [if_neg (fun c => hx c.2)]
      have htop : (x / 9223372036854775808 == 1) = false := by simp; omega
      clear hs
      go_enter Tryd.func35, Tryd.ntmps35
      go_wp2_with fail
      refine (hsg _).mono ?_
      rintro e w1 ⟨rfl, rfl⟩
      go_wp2_with fail
      go_returns
      exact ⟨rfl, (Below.refl _ _).alloc (Nat.le_refl _) _⟩
set_option maxHeartbeats 1000000 in
theorem rrank_any (w : World) (x : Int) (h0 : 0 ≤ x) (h1 : x < 18446744073709551616) : Calls Tryd.prog 44 #[.int .u64 x] w fun e w' => e = .returned (numV (rankRef x)) ∧ Below w.heap.size w w' := by
  have hand : bits BinOp.and IntKind.u64 x 9223372036854775807 = x % 9223372036854775808 := and_mask_u64 _ 63 (by omega) h0 h1
  unfold rankRef
  by_cases hz : x = 0 ∨ x = 9223372036854775808
  · rw [if_pos hz]
    have hw : (IntKind.u64.wrap (x * 2) == 0) = true := by rw [IntKind.wrap_u64]; simp; omega
    clear hz
    go_enter Tryd.func44, Tryd.ntmps44
    go_wp2_with fail
    go_returns
    exact ⟨rfl, (Below.refl _ _).alloc (Nat.le_refl _) _⟩
  · rw [if_neg hz]
    have hw : (IntKind.u64.wrap (x * 2) == 0) = false := by rw [IntKind.wrap_u64]; simp; omega
    obtain ⟨t, ht⟩ : ∃ t : Bool, t = decide (9223372036854775808 ≤ x) := ⟨_, rfl⟩
    have htop : (x / 9223372036854775808 == 1) = t := by
      rw [ht]
      by_cases hx : 9223372036854775808 ≤ x
      · rw [decide_eq_true hx]; simp; omega
      · rw [decide_eq_false hx]; simp; omega
    rw [← ht]
    clear hz ht
    go_enter Tryd.func44, Tryd.ntmps44
    go_wp2_with fail
    go_returns
    exact ⟨rfl, (Below.refl _ _).alloc (Nat.le_refl _) _⟩
theorem Tryd.eqNum (a b : Bool × Int) (w : World) : (binOp .eql 51 (numV a) (numV b)).run Tryd.prog w = .ok (.bool (a.1 == b.1 && a.2 == b.2)) w := by
  have u4 := Tryd.underlying4
  have u22 := Tryd.underlying22
  have a4 := Tryd.isAgg4
  have a22 := Tryd.isAgg22
  have z4 := Tryd.sizeOf4
  have z22 := Tryd.sizeOf22
  have hS : Tryd.prog.underlying 51 = some (.struct (Tryd.prog.fieldsOf 51)) := by kernel_rfl
  have hp : Tryd.prog.stoodInHeld 51 = false := by kernel_rfl
  unfold numV
  rw [run_eql_struct, show (10000 : Nat) = 9999 + 1 from rfl, run_equalIn_agg w 9999 _ _ _ hS hp]
  simp only [Program.fieldsOf, Tryd.underlying51]
  go_simp
  by_cases h1 : a.1 = b.1 <;> by_cases h2 : a.2 = b.2 <;> simp [h1, h2]
def ordOf (p q : Bool × Int) : Int := if p = q then 0 else if p.1 ≠ q.1 then (if p.1 = true then -1 else 1) else if decide (p.2 < q.2) ≠ p.1 then -1 else 1
set_option maxHeartbeats 2000000 in
theorem rorder_any (w : World) (m1 m2 : Bool) (n1 n2 : Int) : Calls Tryd.prog 43 #[.agg #[.bool m1, .int .u64 n1], .agg #[.bool m2, .int .u64 n2]] w fun e w' => e = .returned (.int .i64 (ordOf (m1, n1) (m2, n2))) ∧ Below w.heap.size w w' := by
  have heq : ∀ W, (binOp .eql 51 (.agg #[.bool m1, .int .u64 n1]) (.agg #[.bool m2, .int .u64 n2])).run Tryd.prog W = .ok (.bool (m1 == m2 && n1 == n2)) W := fun W => Tryd.eqNum (m1, n1) (m2, n2) W
  have n3 : w.heap.size ≠ w.heap.size + 1 := by omega
  by_cases hn : n1 = n2
  · subst hn
    cases m1 <;> cases m2
    all_goals
      simp only [beq_self_eq_true, Bool.and_true] at heq
      first
        | rw [show ordOf (false, n1) (false, n1) = 0 by simp [ordOf]]
        | rw [show ordOf (false, n1) (true, n1) = 1 by simp [ordOf]]
        | rw [show ordOf (true, n1) (false, n1) = -1 by simp [ordOf]]
        | rw [show ordOf (true, n1) (true, n1) = 0 by simp [ordOf]]
      go_enter Tryd.func43, Tryd.ntmps43
      go_wp2_with fail
      go_returns
      exact ⟨rfl, ((Below.refl _ _).alloc (Nat.le_refl _) _).alloc (by simp) _⟩
  · have hne : (n1 == n2) = false := by simpa using hn
    rw [hne] at heq
    have hno : ∀ a b : Bool, ((a, n1) : Bool × Int) ≠ (b, n2) := fun a b c => hn (by cases c; rfl)
    by_cases hlt : n1 < n2
    · have hd : decide (n1 < n2) = true := decide_eq_true hlt
      cases m1 <;> cases m2
      all_goals
        rw [ordOf, if_neg (hno _ _)]
        simp only [hd]
        clear hno hn hlt
        go_enter Tryd.func43, Tryd.ntmps43
        go_wp2_with fail
        go_returns
        exact ⟨rfl, ((Below.refl _ _).alloc (Nat.le_refl _) _).alloc (by simp) _⟩
    · have hd : decide (n1 < n2) = false := decide_eq_false hlt
      cases m1 <;> cases m2
      all_goals
        rw [ordOf, if_neg (hno _ _)]
        simp only [hd]
        clear hno hn hlt
        go_enter Tryd.func43, Tryd.ntmps43
        go_wp2_with fail
        go_returns
        exact ⟨rfl, ((Below.refl _ _).alloc (Nat.le_refl _) _).alloc (by simp) _⟩

/-- The place of a number in the order. -/
def numZ (p : Bool × Int) : Int := if p.1 = true then -p.2 else p.2
theorem ordOf_cmp {p q : Bool × Int} (hp : p.1 = true → 0 < p.2) (hq : q.1 = true → 0 < q.2) (hp0 : 0 ≤ p.2) (hq0 : 0 ≤ q.2) : ordOf p q = cmpOf (numZ p) (numZ q) := by
  obtain ⟨m1, n1⟩ := p
  obtain ⟨m2, n2⟩ := q
  simp only [ordOf, cmpOf, numZ, Prod.mk.injEq] at *
  rcases Int.lt_trichotomy n1 n2 with h | h | h
  · have e1 : ¬ n1 = n2 := by omega
    have e2 : ¬ n2 < n1 := by omega
    cases m1 <;> cases m2 <;> simp [h, e1] at hp hq ⊢ <;> (try (split <;> (try split) <;> omega)) <;> omega
  · subst h
    cases m1 <;> cases m2 <;> simp at hp hq ⊢ <;> (try (split <;> (try split) <;> omega)) <;> omega
  · have e1 : ¬ n1 = n2 := by omega
    have e2 : ¬ n1 < n2 := by omega
    cases m1 <;> cases m2 <;> simp [e1, e2] at hp hq ⊢ <;> (try (split <;> (try split) <;> omega)) <;> omega
theorem rank_z {x : Int} (h0 : 0 ≤ x) (h1 : x < 18446744073709551616) : numZ (rankRef x) = keyF x.toNat ∧ ((rankRef x).1 = true → 0 < (rankRef x).2) ∧ 0 ≤ (rankRef x).2 := by
  obtain ⟨n, rfl⟩ := Int.eq_ofNat_of_zero_le h0
  rw [Int.toNat_natCast]
  unfold rankRef
  by_cases hz : (n : Int) = 0 ∨ (n : Int) = 9223372036854775808
  · rw [if_pos hz]
    refine ⟨?_, by simp, by simp⟩
    have : n = 0 ∨ n = 0 + 2 ^ 63 := by omega
    rcases this with rfl | rfl
    · rw [key_pos (by decide)]; rfl
    · rw [key_neg (by decide)]; rfl
  · rw [if_neg hz]
    by_cases hx : (9223372036854775808 : Int) ≤ n
    · obtain ⟨r, hr⟩ : ∃ r, n = r + 2 ^ 63 := ⟨n - 2 ^ 63, by omega⟩
      have hk : keyF n = -(r : Int) := by rw [hr]; exact key_neg (by omega)
      rw [hk, decide_eq_true hx]
      simp only [numZ, if_true]
      refine ⟨by omega, fun _ => by omega, by omega⟩
    · have hk : keyF n = n := key_pos (by omega)
      rw [hk, decide_eq_false hx]
      simp only [numZ, Bool.false_eq_true, if_false]
      exact ⟨by omega, ⟨fun h => h.elim, by omega⟩⟩
theorem number_z {k x : Int} (h0 : 0 ≤ x) (h1 : x < 18446744073709551616) : numZ (numRef k x) = (if signedOf k = true then s64 x else x) ∧ ((numRef k x).1 = true → 0 < (numRef k x).2) ∧ 0 ≤ (numRef k x).2 := by
  unfold numRef s64
  cases hs : signedOf k
  · simp [numZ]; omega
  · by_cases hx : 9223372036854775808 ≤ x
    · simp [hx, numZ]; omega
    · simp [hx, numZ]; omega
end Go.Proofs.YtlcconooojlhhaaDoor
