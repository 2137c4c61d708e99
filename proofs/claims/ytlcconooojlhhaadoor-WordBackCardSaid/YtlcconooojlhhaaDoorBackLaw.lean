/- Nothing is lost into a wider kind and back; whole numbers come back from F64; read is what was written. Plain laws. -/
import Derived.Test.YtlcconooojlhhaaDoorConvLaw
import Derived.Test.YtlcconooojlhhaaDoorRead
import Derived.Test.YtlcconooojlhhaaDoorBits
namespace Go.Proofs.YtlcconooojlhhaaDoor
open Go.RowKit

theorem emod_mul256 (n p : Int) (h0 : 0 ≤ n) (hp : 0 < p) : n % (p * 256) = n % p + p * (n / p % 256) := by
  obtain ⟨m, rfl⟩ := Int.eq_ofNat_of_zero_le h0
  obtain ⟨q, rfl⟩ := Int.eq_ofNat_of_zero_le (Int.le_of_lt hp)
  have h := @Nat.mod_mul q 256 m
  have h' : ((m % (q * 256) : Nat) : Int) = ((m % q + q * (m / q % 256) : Nat) : Int) := by rw [h]
  simp only [Int.natCast_emod, Int.natCast_mul, Int.natCast_add, Int.natCast_ediv] at h'
  exact h'
theorem leV_leL (n : Int) (h0 : 0 ≤ n) : ∀ w, leV (leL n w) = n % 256 ^ w
  | 0 => by simp [leL, leV]
  | w + 1 => by
    rw [leL_succ, leV_snoc, leV_leL n h0 w, leL_length, leB_toNat, Int.pow_succ]
    have hp : (0 : Int) < 256 ^ w := Int.pow_pos (by decide)
    generalize (256 : Int) ^ w = p at *
    rw [emod_mul256 n p h0 hp, Int.mul_comm p]
theorem read_back {k b : Int} (hk : 1 ≤ k ∧ k ≤ 8) (h0 : 0 ≤ b) (_h1 : b < 18446744073709551616) : readOf k (leS b (widthOf k).toNat) = (clipOf k b, 0) := by
  have hsz : (leS b (widthOf k).toNat).data.toList = leL b (widthOf k).toNat := by simp [leS]
  rw [readOf, leS_size, hsz, leV_leL b h0]
  have : k = 1 ∨ k = 2 ∨ k = 3 ∨ k = 4 ∨ k = 5 ∨ k = 6 ∨ k = 7 ∨ k = 8 := by omega
  rcases this with rfl | rfl | rfl | rfl | rfl | rfl | rfl | rfl <;> simp [clipOf, modOf, widthOf, widths, signedOf] <;> omega
theorem numOf_inj {k x y : Int} (hx0 : 0 ≤ x) (hx1 : x < 18446744073709551616) (hy0 : 0 ≤ y) (hy1 : y < 18446744073709551616) (h : numOf k x = numOf k y) : x = y := by
  unfold numOf s64 at h
  split at h
  · split at h <;> split at h <;> omega
  · exact h
theorem clamp_wider {k t z : Int} (h : (1 ≤ k ∧ k ≤ t ∧ t ≤ 4) ∨ (5 ≤ k ∧ k ≤ t ∧ t ≤ 8)) (hz : clampOf k z = z) : clampOf t z = z := by
  rcases h with ⟨h1, h2, h3⟩ | ⟨h1, h2, h3⟩
  · have hkk : k = 1 ∨ k = 2 ∨ k = 3 ∨ k = 4 := by omega
    have htt : t = 1 ∨ t = 2 ∨ t = 3 ∨ t = 4 := by omega
    rcases hkk with rfl | rfl | rfl | rfl <;> rcases htt with rfl | rfl | rfl | rfl <;> simp [clampOf, mostOf, modOf, signedOf] at hz ⊢ <;> omega
  · have hkk : k = 5 ∨ k = 6 ∨ k = 7 ∨ k = 8 := by omega
    have htt : t = 5 ∨ t = 6 ∨ t = 7 ∨ t = 8 := by omega
    rcases hkk with rfl | rfl | rfl | rfl <;> rcases htt with rfl | rfl | rfl | rfl <;> simp [clampOf, mostOf, modOf, signedOf] at hz ⊢ <;> omega
theorem near_53 : nearR (2 ^ 53) = 1076 * 2 ^ 52 ∧ wholeF (1076 * 2 ^ 52) = 2 ^ 53 := by decide +kernel
/-- A whole number of at most 2^53: its word of F64 has just it. -/
theorem near_back {z : Int} (h0 : z ≠ 0) (h : z.natAbs ≤ 2 ^ 53) : FloatKind.f64.nearest z < 2 ^ 64 ∧ nan64 (FloatKind.f64.nearest z) = false ∧ wz (FloatKind.f64.nearest z) = z := by
  have hn : z.natAbs ≠ 0 := by omega
  have hb := nearR_bounds hn (by omega)
  have hwhole : wholeF (nearR z.natAbs) = z.natAbs := by
    by_cases he : z.natAbs = 2 ^ 53
    · rw [he, near_53.1, near_53.2]
    · refine whole_near hn ?_
      have := (Nat.log2_lt hn).2 (show z.natAbs < 2 ^ 53 by omega)
      omega
  have hl : z.natAbs.log2 ≤ 53 := by
    have := (Nat.log2_lt hn).2 (show z.natAbs < 2 ^ 54 by omega)
    omega
  have hr1 : 1023 * 2 ^ 52 ≤ nearR z.natAbs := Nat.le_trans (Nat.mul_le_mul_right _ (by omega)) hb.1
  have hr2 : nearR z.natAbs ≤ 1077 * 2 ^ 52 := Nat.le_trans hb.2.1 (Nat.mul_le_mul_right _ (by omega))
  rw [nearest_eq z h0 (by omega)]
  generalize nearR z.natAbs = r at *
  have hnn := nan_pos (r := r) (by omega)
  obtain ⟨_, p2, _, p4⟩ := neg_parts (r := r) (by omega)
  by_cases hz : z < 0
  · rw [if_pos hz, Nat.add_comm]
    refine ⟨by omega, hnn.2, ?_⟩
    unfold wz
    rw [key_neg (by omega), p2, if_neg (by omega), if_pos (by omega), hwhole]
    omega
  · rw [if_neg hz, Nat.zero_add]
    refine ⟨by omega, hnn.1, ?_⟩
    unfold wz
    rw [key_pos (by omega), p4, if_neg (by omega), if_neg (by omega), if_neg (by omega), if_neg (by omega), hwhole]
    omega
theorem conv_to9 {k x : Int} (hk : 1 ≤ k ∧ k ≤ 8) : convOf k 9 x = (FloatKind.f64.nearest (numOf k (clipOf k x)) : Nat) := by
  have hw : ¬ (widthOf k = 0 ∨ widthOf 9 = 0) := by
    rw [widthOf_zero, widthOf_zero]
    omega
  rw [convOf, if_neg hw, if_neg (by omega), if_neg (by omega), if_pos rfl]
  rfl
theorem back_law {k b : Int} (hk : 1 ≤ k ∧ k ≤ 8) (h0 : 0 ≤ b) (h1 : b < 18446744073709551616) : ∃ x, x = clipOf k b ∧ 0 ≤ x ∧ x < 18446744073709551616 ∧ clipOf k x = x ∧ readOf k (leS b (widthOf k).toNat) = (x, 0) ∧
    (∀ t, ((1 ≤ k ∧ k ≤ t ∧ t ≤ 4) ∨ (5 ≤ k ∧ k ≤ t ∧ t ≤ 8)) → 0 ≤ convOf k t x ∧ convOf k t x < 18446744073709551616 ∧ convOf t k (convOf k t x) = x) ∧
    ((numOf k x).natAbs ≤ 2 ^ 53 → 0 ≤ convOf k 9 x ∧ convOf k 9 x < 18446744073709551616 ∧ convOf 9 k (convOf k 9 x) = x) := by
  have hr := clipOf_range (k := k) h0 h1
  have hxx := clip_clip (k := k) h0 h1
  refine ⟨_, rfl, hr.1, hr.2, hxx, read_back hk h0 h1, fun t ht => ?_, fun hz => ?_⟩
  · have ht8 : 1 ≤ t ∧ t ≤ 8 := by omega
    have hid := clip_num hk h0 h1
    obtain ⟨e1, e2, e3, e4⟩ := conv_num (f := k) (t := t) (x := clipOf k b) (by omega) ht8 hr.1 hr.2 (isNum_int hk)
    rw [hxx, valOf, if_neg (by omega)] at e1
    rw [clamp_wider ht hid.symm] at e1
    obtain ⟨f1, f2, f3, f4⟩ := conv_num (f := t) (t := k) (x := convOf k t (clipOf k b)) (by omega) hk e2 e3 (isNum_int ht8)
    rw [e4, valOf, if_neg (by omega), e1, ← hid] at f1
    exact ⟨e2, e3, numOf_inj f2 f3 hr.1 hr.2 f1⟩
  · have hid := clip_num hk h0 h1
    rw [conv_to9 hk, hxx]
    by_cases hzz : numOf k (clipOf k b) = 0
    · rw [hzz, nearest_zero]
      have hx0 : clipOf k b = 0 := numOf_inj (k := k) hr.1 hr.2 (by omega) (by omega) (by rw [hzz]; rw [numOf]; split <;> rfl)
      rw [hx0]
      refine ⟨by decide, by decide, ?_⟩
      have hw : ¬ (widthOf 9 = 0 ∨ widthOf k = 0) := by
        rw [widthOf_zero, widthOf_zero]
        omega
      rw [convOf, if_neg hw, if_neg (by omega), if_pos rfl]
      exact (cut_small (k := k) (r := 0) (by decide)).1
    · obtain ⟨e1, e2, e3⟩ := near_back hzz hz
      generalize FloatKind.f64.nearest (numOf k (clipOf k b)) = f at *
      have hc9 : clipOf 9 (f : Int) = f := clip9 (by omega) (by omega)
      obtain ⟨f1, f2, f3, f4⟩ := conv_num (f := 9) (t := k) (x := (f : Int)) (by omega) hk (by omega) (by omega) (fun _ => by rw [hc9]; exact e2)
      rw [hc9, valOf, if_pos rfl, Int.toNat_natCast, e3, ← hid] at f1
      exact ⟨by omega, by omega, numOf_inj f2 f3 hr.1 hr.2 f1⟩
end Go.Proofs.YtlcconooojlhhaaDoor
