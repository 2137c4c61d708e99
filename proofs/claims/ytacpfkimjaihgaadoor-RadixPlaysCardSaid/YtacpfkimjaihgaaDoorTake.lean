/- Package frames: Take. -/
import Derived.Test.YtacpfkimjaihgaaDoorPool
namespace Go.Proofs.YtacpfkimjaihgaaDoor
open Go.RowKit

theorem take_nil (w : World) : Calls Tryd.prog 19 #[.pointer none] w fun e w' => e = .returned (.tuple #[.int .i64 0, .int .i64 1]) ∧ w = w' := by
  go_enter Tryd.func19, Tryd.ntmps19
  go_wp2_with fail
  go_step3
  go_wp2_with fail
  rw [Exit.noGoto_ret]
  go_ret2
  exact ⟨rfl, rfl⟩
theorem take_full (w : World) (p : Nat) (h : w.cell? ⟨p, 2, none⟩ = some (.int .i64 0)) : Calls Tryd.prog 19 #[.pointer (some ⟨p, 0, none⟩)] w fun e w' => e = .returned (.tuple #[.int .i64 0, .int .i64 18]) ∧ w = w' := by
  go_enter Tryd.func19, Tryd.ntmps19
  go_wp2_with fail
  go_step3
  go_wp2_with fail
  rw [Exit.noGoto_ret]
  go_ret2
  exact ⟨rfl, rfl⟩
set_option maxRecDepth 100000 in
set_option maxHeartbeats 1000000 in
theorem take_at (w : World) (p bb hb : Nat) (S : List (List UInt8)) (H : List Int) (fr : Int) (k : Nat) (hk : k < H.length) (hz : H[k] = 0) (hall : ∀ j (h : j < k), H[j] ≠ 0) (hf : 0 < fr ∧ fr ≤ 1000000) (h : PA w p bb hb S H fr) :
    Calls Tryd.prog 19 #[.pointer (some ⟨p, 0, none⟩)] w fun e w' => e = .returned (.tuple #[.int .i64 k, .int .i64 0]) ∧ PA w' p bb hb (S.set k zeroSec) (H.set k 1) (fr - 1) ∧ Mods [p, bb, hb] w w' := by
  have c1 := h.c1
  have c2 := h.c2
  have hn := h.small
  have hS : k < S.length := by rw [h.len]; exact hk
  have HS := Lib.hid hS
  have HA := Lib.hid h
  have HZ := Lib.hid hz
  have HN := Lib.hid hall
  obtain ⟨hf0, hf1⟩ := hf
  have hf2 : (fr == 0) = false := by simp; omega
  have HCL := Lib.hid (show k * 64 + 64 ≤ (bv S.flatten).length by rw [bv_length, flat_length _ h.each, h.len]; omega)
  clear h hz hall hS
  go_enter Tryd.func19, Tryd.ntmps19
  go_wp2_with fail
  go_step3
  go_wp2_with fail
  go_step3
  go_wp2_with fail
  go_loopw [4, 5, 6, 19] (fun f _ _ i wx => ∃ (t : Nat), t ≤ k ∧ f = .int .i64 0 ∧ i = .int .i64 t ∧ wx = w) (fun _ _ _ i _ => k - (intOf i).toNat)
  case atStart => exact ⟨0, by omega, rfl, rfl, rfl⟩
  case round =>
    obtain ⟨t, ht, rfl, rfl, rfl⟩ := hrel
    have htn : t < H.length := by omega
    by_cases hlt : t < k
    · have hc := HA.out.at htn
      have hv' : (H[t] == 0) = false := by simp [HN.out t hlt]
      generalize H[t] = v at hc hv'
      go_wp2_with fail
      go_roundw
      case rel => exact ⟨t + 1, by omega, rfl, by go_num, by trivial⟩
      case measure => simp [intOf]; omega
    · have htk : t = k := by omega
      subst htk
      have hc := HA.out.at htn
      rw [HZ.out] at hc
      go_wp2_with (first | (go_at_call 62; refine (frame_any _ p bb hb S H fr t htn HA.out).mono ?_; rintro e w1 ⟨rfl, rfl⟩) | (refine wpList_clear (o := ⟨none, _, _, _, _, _⟩) _ rfl _ _ rfl 5 (.int .u8 0) Tryd.underlying64 zero5 rfl rfl bb (t * 64) 64 (H.length * 64 - t * 64) rfl (by omega) (bv S.flatten) 5 HA.out.row (HCL.out) ?_; intro w2 hrow hmod hsz; have HA2 := Lib.hid (HA.out.whole (x := zeroSec) HS.out rfl hrow hmod); have HM2 := Lib.hid (hmod.mono (T := [p, bb, hb]) (by simp)); clear hrow hmod; have k1 := HA2.out.c1; have k2 := HA2.out.c2; have kt := HA2.out.at htn; have kf := frozen_of_row w2 hb t _ _ HA2.out.hrow; have kf2 := frozen_of_row w2 p 2 _ _ HA2.out.head; have kn := HA2.out.nph; have kn2 := Ne.symm kn; rw [HZ.out] at kt; clear c1 c2 hc))
      rw [Exit.noGoto_ret]
      go_ret2
      have HA3 := HA2.out.storeHeld (k := t) (v := 1) (w' := w2.setCell ⟨hb, t, none⟩ (.int .i64 1)) (fun _ _ => rfl)
      exact ⟨rfl, HA3.storeFree (fun _ _ => rfl), (HM2.out.setCell (.inl (by simp)) _).setCell (.inl (by simp)) _⟩
/-- The first frame that no one holds. -/
def firstFree (H : List Int) : Nat := H.findIdx (· == 0)
/-- What Take tells of a pool, and the pool behind it. -/
def FP.take (F : FP) : Int × Int × FP := if firstFree F.held < F.held.length then (firstFree F.held, 0, ⟨F.secs.set (firstFree F.held) zeroSec, F.held.set (firstFree F.held) 1⟩) else (0, 18, F)
theorem frees_pos {H : List Int} : 0 < frees H ↔ firstFree H < H.length := by
  rw [frees, List.countP_pos_iff, firstFree, List.findIdx_lt_length]
theorem frees_le (H : List Int) : frees H ≤ H.length := List.countP_le_length
theorem frees_set {H : List Int} {k : Nat} (hk : k < H.length) (v : Int) : (frees (H.set k v) : Int) = frees H - (if H[k] = 0 then 1 else 0) + (if v = 0 then 1 else 0) := by
  have h1 := List.countP_set (p := fun x : Int => x == 0) (a := v) hk
  rw [frees, frees, h1]
  have : H[k] = 0 → 0 < List.countP (fun x : Int => x == 0) H := fun h => List.countP_pos_iff.2 ⟨H[k], List.getElem_mem _, by simp [h]⟩
  by_cases a : H[k] = 0
  · have := this a
    by_cases b : v = 0 <;> simp [a, b] <;> omega
  · by_cases b : v = 0 <;> simp [a, b]
theorem take_any (w : World) (p bb hb : Nat) (F : FP) (h : IsPool w p bb hb F) :
    Calls Tryd.prog 19 #[.pointer (some ⟨p, 0, none⟩)] w fun e w' => e = .returned (.tuple #[.int .i64 F.take.1, .int .i64 F.take.2.1]) ∧ IsPool w' p bb hb F.take.2.2 ∧ Mods [p, bb, hb] w w' := by
  by_cases hf : firstFree F.held < F.held.length
  · have hz : F.held[firstFree F.held] = 0 := by
      exact eq_of_beq (List.findIdx_getElem (p := fun x : Int => x == 0) (xs := F.held) (w := hf))
    have hall : ∀ j (hj : j < firstFree F.held), F.held[j] ≠ 0 := fun j hj => by
      intro e
      have := List.not_of_lt_findIdx (p := fun x : Int => x == 0) (xs := F.held) hj
      simp [e] at this
    have h1 := frees_pos.2 hf
    have h2 := frees_le F.held
    have h3 := h.small
    have h4 := frees_set hf 1
    rw [if_pos hz, if_neg (by omega)] at h4
    refine (take_at w p bb hb F.secs F.held _ _ hf hz hall (by omega) h).mono ?_
    rintro e w' ⟨he, hp, hm⟩
    rw [FP.take, if_pos hf]
    refine ⟨he, ?_, hm⟩
    show PA _ _ _ _ _ _ _
    rw [h4]
    simpa using hp
  · have h1 : frees F.held = 0 := by
      have := frees_pos (H := F.held)
      omega
    have hc := h.c2
    rw [h1] at hc
    refine (take_full w p hc).mono ?_
    rintro e w' ⟨he, rfl⟩
    rw [FP.take, if_neg hf]
    exact ⟨he, h, Mods.refl _ _⟩
end Go.Proofs.YtacpfkimjaihgaaDoor
