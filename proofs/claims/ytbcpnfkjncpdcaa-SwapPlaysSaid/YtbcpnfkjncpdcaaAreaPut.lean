/- Package swap: Put. -/
import Derived.Test.YtbcpnfkjncpdcaaArea
namespace Go.Proofs.Ytbcpnfkjncpdcaa
open Go.RowKit

theorem write_er (w : World) (d bb : Nat) (D : DM) (at_ : Int) (str : ByteArray) (hw : 0 ≤ D.writes ∧ D.writes ≤ 1000000) (h : IsDisk w d bb D) :
    Calls Try.prog 23 #[.pointer (some ⟨d, 0, none⟩), .int .i64 at_, .string str] w fun e w' => ∃ (er : Int) (D2 : DM), Hid (D.wr at_ str = (er, D2)) ∧ e = .returned (.int .i64 er) ∧ IsDisk w' d bb D2 ∧ Mods [d, bb] w w' :=
  (write_any w d bb D at_ str hw h).mono fun _ _ ⟨he, h1, h2⟩ => ⟨_, _, Lib.hid rfl, he, h1, h2⟩

/-! ## Put -/
set_option maxRecDepth 100000 in
set_option maxHeartbeats 800000 in
theorem put_bad (w : World) (a hb d bb : Nat) (A : SA) (p : ByteArray) (hp : p.size ≠ 64) (_h : IsArea w a hb d bb A) :
    Calls Try.prog 34 #[.pointer (some ⟨a, 0, none⟩), .string p] w fun e w' => e = .returned (.tuple #[.int .i64 0, .int .i64 1]) ∧ w = w' := by
  have hne : ((p.size : Int) != 64) = true := by simp; omega
  go_enter Try.func34, Try.ntmps34
  go_wp2_with fail
  go_step3
  go_wp2_with fail
  rw [Exit.noGoto_ret]
  go_ret2
  exact ⟨rfl, rfl⟩
theorem aput_nil (w : World) (p : ByteArray) : Calls Try.prog 34 #[.pointer none, .string p] w fun e w' => e = .returned (.tuple #[.int .i64 0, .int .i64 1]) ∧ w = w' := by
  go_enter Try.func34, Try.ntmps34
  go_wp2_with fail
  go_step3
  go_wp2_with fail
  rw [Exit.noGoto_ret]
  go_ret2
  exact ⟨rfl, rfl⟩
set_option maxRecDepth 100000 in
set_option maxHeartbeats 800000 in
theorem put_full (w : World) (a : Nat) (b : Option Addr) (n c : Nat) (p : ByteArray) (hp : p.size = 64) (hn : n ≤ 4096) (c2 : w.cell? ⟨a, 2, none⟩ = some (.slice b n c)) (hall : ∀ k, k < n → ∃ hb v, b = some ⟨hb, 0, none⟩ ∧ v ≠ 0 ∧ w.cell? ⟨hb, k, none⟩ = some (.int .i64 v)) :
    Calls Try.prog 34 #[.pointer (some ⟨a, 0, none⟩), .string p] w fun e w' => e = .returned (.tuple #[.int .i64 0, .int .i64 15]) ∧ w = w' := by
  have hne : ((p.size : Int) != 64) = false := by simp; omega
  have HP := Lib.hid hp
  clear hp
  go_enter Try.func34, Try.ntmps34
  go_wp2_with fail
  go_step3
  go_wp2_with fail
  go_step3
  go_wp2_with fail
  go_loopw [6, 7, 8, 27] (fun s _ _ i wx => ∃ (t : Nat), t ≤ n ∧ s = .int .i64 n ∧ i = .int .i64 t ∧ wx = w) (fun _ _ _ i _ => n - (intOf i).toNat)
  case atStart => exact ⟨0, by omega, rfl, rfl, rfl⟩
  case round =>
    obtain ⟨t, ht, rfl, rfl, rfl⟩ := hrel
    by_cases hlt : t < n
    · obtain ⟨hb, v, rfl, hv, hc⟩ := hall t hlt
      have hv' : (v == 0) = false := by simp [hv]
      clear hv hall
      go_wp2_with fail
      go_roundw
      case rel => exact ⟨t + 1, by omega, rfl, by go_num, by trivial⟩
      case measure => simp [intOf]; omega
    · have htn : t = n := by omega
      subst htn
      go_wp2_with fail
      rw [Exit.noGoto_ret]
      go_ret2
      exact ⟨rfl, rfl⟩

set_option maxRecDepth 100000 in
set_option maxHeartbeats 1000000 in
theorem put_at (w : World) (a hb d bb : Nat) (A : SA) (p : ByteArray) (k : Nat) (hp : p.size = 64) (hk : k < A.held.length) (hz : A.held[k] = 0) (hall : ∀ j (h : j < k), A.held[j] ≠ 0) (hf : 0 ≤ A.first ∧ A.first + k ≤ 100000)
    (hw : 0 ≤ A.D.writes ∧ A.D.writes ≤ 1000000) (hu : 0 ≤ A.used ∧ A.used ≤ 1000000) (h : IsArea w a hb d bb A) :
    Calls Try.prog 34 #[.pointer (some ⟨a, 0, none⟩), .string p] w fun e w' => ∃ er D2, Hid (A.D.wr (A.first + k) p = (er, D2)) ∧ 
      e = .returned (.tuple #[.int .i64 (if er = 0 then k else 0), .int .i64 er]) ∧ IsArea w' a hb d bb (if er = 0 then ⟨D2, A.first, A.held.set k 1, A.used + 1⟩ else ⟨D2, A.first, A.held, A.used⟩) ∧ Mods [a, hb, d, bb] w w' := by
  have hne : ((p.size : Int) != 64) = false := by simp; omega
  have c0 := h.c0
  have c1 := h.c1
  have c2 := h.c2
  have hn := h.small
  have HP := Lib.hid hp
  have HA := Lib.hid h
  have HW := Lib.hid hw
  have HZ := Lib.hid hz
  have HN := Lib.hid hall
  obtain ⟨hf0, hf1⟩ := hf
  obtain ⟨hu0, hu1⟩ := hu
  clear hp h hw hz hall
  go_enter Try.func34, Try.ntmps34
  go_wp2_with fail
  go_step3
  go_wp2_with fail
  go_step3
  go_wp2_with fail
  go_loopw [6, 7, 8, 27] (fun s _ _ i wx => ∃ (t : Nat), t ≤ k ∧ s = .int .i64 A.held.length ∧ i = .int .i64 t ∧ wx = w) (fun _ _ _ i _ => k - (intOf i).toNat)
  case atStart => exact ⟨0, by omega, rfl, rfl, rfl⟩
  case round =>
    obtain ⟨t, ht, rfl, rfl, rfl⟩ := hrel
    have htn : t < A.held.length := by omega
    by_cases hlt : t < k
    · have hc := HA.out.at htn
      have hv' : (A.held[t] == 0) = false := by simp [HN.out t hlt]
      generalize A.held[t] = v at hc hv'
      go_wp2_with fail
      go_roundw
      case rel => exact ⟨t + 1, by omega, rfl, by go_num, by trivial⟩
      case measure => simp [intOf]; omega
    · have htk : t = k := by omega
      subst htk
      have hc := HA.out.at htn
      rw [HZ.out] at hc
      go_upto_region 12 with (fail)
      obtain ⟨z, hz⟩ : ∃ z, z = A.first + (t : Int) := ⟨_, rfl⟩
      have hwr : IntKind.i64.wrap (A.first + (t : Int)) = z := by rw [IntKind.wrap_i64, hz]; omega
      have HZZ := Lib.hid hz
      clear hz
      go_region_with (first | (go_at_call 23; (try rw [hwr]); go_must (refine (write_er _ d bb A.D z _ HW.out (HA.out.disk.below (Below.refl _ _).drew (Nat.le_refl _))).mono ?_); rintro e w2 ⟨er, D2, HQ, rfl, hD2, hm2⟩; have hm2 : Mods [d, bb] wr w2 := ⟨hm2.os, hm2.tape, hm2.output, hm2.size, hm2.block⟩; have HA2 := Lib.hid (HA.out.withDisk hm2 hD2); have HM2 := Lib.hid (hm2.mono (T := [a, hb, d, bb]) (by simp)); clear hm2 hD2 hwr))
      all_goals
        by_cases her : er = 0
        · subst her
          have k2 := HA2.out.c2
          have k3 := HA2.out.c3
          have k2f := frozen_of_row w2 hb t _ _ HA2.out.row
          have k3f := frozen_of_row w2 a 3 _ _ HA2.out.head
          have hnn := HA2.out.nah
          have hnn2 := Ne.symm hnn
          have kt := HA2.out.at (k := t) htn
          simp only at k2 k3 kt
          rw [HZ.out] at kt
          go_wp2_with fail
          rw [Exit.noGoto_ret]
          go_ret2
          have HA3 := HA2.out.storeHeld (k := t) (v := 1) (w' := w2.setCell ⟨hb, t, none⟩ (.int .i64 1)) (fun _ _ => rfl)
          have HA4 := HA3.storeUsed (v := A.used + 1) (w' := (w2.setCell ⟨hb, t, none⟩ (.int .i64 1)).setCell ⟨a, 3, none⟩ (.int .i64 (A.used + 1))) (fun _ _ => rfl)
          exact ⟨0, D2, by rw [← HZZ.out]; exact HQ, by rw [if_pos rfl]; rfl, by rw [if_pos rfl]; exact HA4, (HM2.out.setCell (.inl (by simp)) _).setCell (.inl (by simp)) _⟩
        · have her' : (er != 0) = true := by simp [her]
          have HE := Lib.hid her
          clear her
          go_wp2_with fail
          rw [Exit.noGoto_ret]
          go_ret2
          exact ⟨er, D2, by rw [← HZZ.out]; exact HQ, by rw [if_neg HE.out]; rfl, by rw [if_neg HE.out]; exact HA2.out, HM2.out⟩
end Go.Proofs.Ytbcpnfkjncpdcaa
