/- The Go text of flyleaflaw03.BlockSeals returns true and writes nothing that was there. -/
import Derived.Test.YtbcpnfkjncpdcaaLawLib
import Derived.Test.YtbcpnfkjncpdcaaOpen
namespace Go.Proofs.Ytbcpnfkjncpdcaa
open Go.RowKit

theorem tmod20 (x : Int) : -20 < x.tmod 20 ∧ x.tmod 20 < 20 := by
  have h1 := Int.natAbs_tmod x 20
  have h2 := Nat.mod_lt x.natAbs (show 0 < (20 : Int).natAbs by decide)
  omega
theorem secB_size (c : Int) : (secB c).size = 64 := by simp [secB, secOf, ByteArray.size]

set_option maxRecDepth 100000 in
set_option maxHeartbeats 2000000 in
theorem seals_walk (w : World) (a : Option Addr) (N cap : Nat) (_h1 : N ≤ cap) (_h2 : cap ≤ maxLen) (xs : List Int) (hl : xs.length = N) (hxs : IntsAt w a xs) :
    Calls Try.prog 4 #[.slice a N cap] w fun e w' => e = .returned (.bool true) ∧ Below w.heap.size w w' := by
  have HL := Lib.hid hl
  clear hl
  go_enter Try.func4, Try.ntmps4
  go_wp2_with fail
  refine (awake_any _).mono ?_
  rintro e w1 ⟨rfl, hb1⟩
  go_wp2_with fail
  refine (new_ok _ 16 (by omega) (by omega)).mono ?_
  rintro e w2 ⟨d, bb, rfl, hd, hbb, hD, hb2⟩
  have HD0 := Lib.hid hD
  have z1 := hb1.size
  have b2 : Below w.heap.size w w2 := hb1.trans (hb2.mono z1)
  clear hD hb1 hb2
  go_wp2_with fail
  go_loopw [5, 6] (fun m i wr => ∃ (t : Nat) (M : Int) (D : DM), t ≤ 10 ∧ i = .int .i64 t ∧ m = .int .i64 M ∧ 0 ≤ M ∧ M ≤ 19 ∧ D.secs.length = 16 ∧ D.sealed_ = M ∧ 0 ≤ D.writes ∧ D.writes ≤ 16 * t ∧ IsDisk wr d bb D ∧ Below w.heap.size w wr)
    (fun _ i _ => 10 - (intOf i).toNat)
  case atStart => exact ⟨0, 0, _, by omega, rfl, rfl, by omega, by omega, by simp [newDM], rfl, by simp [newDM], by simp [newDM], HD0.out, b2⟩
  case round =>
    clear HD0 b2
    obtain ⟨t, M, D, ht, rfl, rfl, hM0, hM1, hD16, hDs, hDw0, hDw, hD, hbel⟩ := hrel
    have HD := Lib.hid hD
    have H16 := Lib.hid hD16
    have HDs := Lib.hid hDs
    clear hD hD16 hDs
    by_cases hlt : t < N ∧ t < 10
    · obtain ⟨hlt, hlt10⟩ := hlt
      obtain ⟨b1, o1, rfl, hc, _, _⟩ := hxs t (by rw [HL.out]; exact hlt)
      have g1 := (hbel.cell (p := ⟨b1, o1 + t, none⟩) (World.block_lt_of_cell? w _ hc)).trans hc
      clear hc hxs
      generalize xs[t]'(by rw [HL.out]; exact hlt) = x at g1
      have hn := tmod20 x
      generalize hnn : x.tmod 20 = n at hn
      have HNN := Lib.hid hnn
      clear hnn
      obtain ⟨hn0, hn1⟩ := hn
      go_wp2_with fail
      rw [HNN.out]
      refine (seal_any _ d bb D n HD.out).mono ?_
      rintro e w3 ⟨rfl, hD3, hm3⟩
      rw [HDs.out] at hD3
      have hb3 : Below w.heap.size w w3 := below_after hbel hm3 hbel.size (by simp; omega)
      have HD3 := Lib.hid hD3
      clear hD3 hm3 HD HNN g1
      have hcase : (M < n ∧ max M n = n) ∨ (¬ M < n ∧ max M n = M) := by omega
      rcases hcase with ⟨hlt3, hmx⟩ | ⟨hlt3, hmx⟩
      all_goals
        rw [hmx] at HD3
        clear hmx
        first
          | (obtain ⟨Q, rfl⟩ : ∃ Q, Q = n := ⟨_, rfl⟩; have hQ0 : 0 ≤ Q := (by omega); have hQ1 : Q ≤ 19 := (by omega); go_wp2_with fail; clear hlt3)
          | (obtain ⟨Q, rfl⟩ : ∃ Q, Q = M := ⟨_, rfl⟩; have hQ0 : 0 ≤ Q := (by omega); have hQ1 : Q ≤ 19 := (by omega); go_wp2_with fail; clear hlt3)
        obtain ⟨wo, rfl⟩ : ∃ wo : World, wo = wr := ⟨_, rfl⟩
        go_loopw [8] (fun i wx => ∃ (u : Nat) (E : DM), u ≤ 16 ∧ i = .int .i64 u ∧ E.secs.length = 16 ∧ E.sealed_ = Q ∧ 0 ≤ E.writes ∧ E.writes ≤ 16 * t + u ∧ IsDisk wx d bb E ∧ Below w.heap.size w wx)
          (fun i _ => 16 - (intOf i).toNat)
        case atStart => exact ⟨0, ⟨D.secs, Q, D.reads, D.writes⟩, by omega, rfl, H16.out, rfl, hDw0, by simp only []; omega, HD3.out, hb3⟩
        case round =>
          clear HD3 hb3
          obtain ⟨u, E, hu, rfl, hE16, hEs, hEw0, hEw, hE, hbx⟩ := hrel
          have HE := Lib.hid hE
          have HE16 := Lib.hid hE16
          have HEs := Lib.hid hEs
          clear hE hE16 hEs
          have hwx := hbx.size
          by_cases hu16 : u < 16
          · go_wp2_with fail
            refine (sector_any _ _ (by omega) (by omega)).mono ?_
            rintro e w4 ⟨rfl, hb4⟩
            have HE4 := Lib.hid (HE.out.below hb4 (Nat.le_refl _))
            have hb5 : Below w.heap.size w w4 := hbx.trans (hb4.mono hwx)
            clear hb4
            have hw4 := hb5.size
            go_wp2_with fail
            by_cases hse : (u : Int) < Q
            · refine (write_sealed _ d bb _ u _ (by omega) (by rw [HE16.out]; omega) (by rw [HEs.out]; exact hse) (secB_size _) HE4.out).mono ?_
              rintro e w5 ⟨rfl, hb6⟩
              have HE5 := Lib.hid (HE4.out.below hb6 (Nat.le_refl _))
              have hb7 : Below w.heap.size w w5 := hb5.trans (hb6.mono hw4)
              clear hb6
              go_wp2_with fail
              go_roundw
              case rel => exact ⟨u + 1, E, by omega, by go_num, HE16.out, HEs.out, hEw0, by omega, HE5.out, hb7⟩
              case measure => simp [intOf]; omega
            · refine (write_ok _ d bb _ u _ (by omega) (by rw [HE16.out]; omega) (by rw [HEs.out]; omega) (secB_size _) ⟨hEw0, by omega⟩ HE4.out).mono ?_
              rintro e w5 ⟨rfl, hE5, hm6⟩
              have HE5 := Lib.hid hE5
              have hb7 : Below w.heap.size w w5 := below_after hb5 hm6 hw4 (by simp; omega)
              clear hm6 hE5
              go_wp2_with fail
              go_roundw
              case rel => exact ⟨u + 1, ⟨E.secs.set (u : Int).toNat (secB t).data.toList, E.sealed_, E.reads, E.writes + 1⟩, by omega, by go_num, by simp [HE16.out], HEs.out, by simp only []; omega, by simp only []; omega, HE5.out, hb7⟩
              case measure => simp [intOf]; omega
          · go_wp2_with fail
            go_roundw
            case rel => exact ⟨t + 1, Q, E, by omega, by go_num, rfl, hQ0, hQ1, HE16.out, HEs.out, hEw0, by omega, HE.out, hbx⟩
            case measure => simp [intOf]; omega
    · go_wp2_with fail
      all_goals
        go_ret
        exact ⟨rfl, hbel⟩
end Go.Proofs.Ytbcpnfkjncpdcaa
