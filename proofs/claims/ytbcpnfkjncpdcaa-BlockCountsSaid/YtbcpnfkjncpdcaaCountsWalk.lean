/- The Go text of flyleaflaw03.BlockCounts returns true and writes nothing that was there. -/
import Derived.Test.YtbcpnfkjncpdcaaLawLib
import Derived.Test.YtbcpnfkjncpdcaaOpen
import Derived.Test.YtbcpnfkjncpdcaaBits
import Derived.Deep.RegionWith
namespace Go.Proofs.Ytbcpnfkjncpdcaa
open Go.RowKit

theorem wrapE (x : Int) (h0 : -9223372036854775808 ≤ x) (h1 : x ≤ 9223372036854775807) : wrap64 x = x := by unfold wrap64; omega
theorem secB_size (c : Int) : (secB c).size = 64 := by simp [secB, secOf, ByteArray.size]

set_option maxRecDepth 100000 in
set_option maxHeartbeats 2000000 in
theorem counts_walk (w : World) (n0 : Int) (_hn0 : (Lit.int IntKind.i64 n0).wf = true) (a : Option Addr) (N cap : Nat) (_h1 : N ≤ cap) (_h2 : cap ≤ maxLen) (xs : List Int) (hl : xs.length = N) (hxs : IntsAt w a xs) :
    Calls Try.prog 8 #[.int .i64 n0, .slice a N cap] w fun e w' => e = .returned (.bool true) ∧ Below w.heap.size w w' := by
  have HL := Lib.hid hl
  clear hl
  have hm1 : 1 ≤ 1 + n0 % 16 := by omega
  have hm2 : 1 + n0 % 16 ≤ 16 := by omega
  have hme : wrap64 (1 + bits BinOp.and IntKind.i64 n0 15) = 1 + n0 % 16 := by rw [and15]; exact wrapE _ (by omega) (by omega)
  have HME := Lib.hid hme
  clear hme
  go_enter Try.func8, Try.ntmps8
  go_wp2_with fail
  refine (awake_any _).mono ?_
  rintro e w1 ⟨rfl, hb1⟩
  go_wp2_with fail
  rw [HME.out]
  generalize hmm : 1 + n0 % 16 = m at *
  clear hmm HME
  refine (new_ok _ m hm1 (by omega)).mono ?_
  rintro e w2 ⟨d, bb, rfl, hd, hbb, hD, hb2⟩
  have HD0 := Lib.hid hD
  have z1 := hb1.size
  have b2 : Below w.heap.size w w2 := hb1.trans (hb2.mono z1)
  clear hD hb1 hb2
  go_wp2_with fail
  go_loopw [8, 9, 10] (fun r s i wr => ∃ (t : Nat) (D : DM), t ≤ 30 ∧ i = .int .i64 t ∧ r = .int .i64 D.reads ∧ s = .int .i64 D.writes ∧ (D.secs.length : Int) = m ∧ D.sealed_ = 0 ∧ 0 ≤ D.reads ∧ D.reads ≤ t ∧ 0 ≤ D.writes ∧ D.writes ≤ t ∧ IsDisk wr d bb D ∧ Below w.heap.size w wr)
    (fun _ _ i _ => 30 - (intOf i).toNat)
  case atStart => exact ⟨0, _, by omega, rfl, rfl, rfl, by simp [newDM]; omega, rfl, by simp [newDM], by simp [newDM], by simp [newDM], by simp [newDM], HD0.out, b2⟩
  case round =>
    clear HD0 b2
    obtain ⟨t, D, ht, rfl, rfl, rfl, hDm, hDs, hr0, hr1, hw0, hw1, hD, hbel⟩ := hrel
    have HD := Lib.hid hD
    have HDm := Lib.hid hDm
    have HDs := Lib.hid hDs
    have zr := hbel.size
    clear hD hDm hDs
    by_cases hlt : t < N ∧ t < 30
    · obtain ⟨hlt, hlt10⟩ := hlt
      obtain ⟨b1, o1, rfl, hc, hx0, hx1⟩ := hxs t (by rw [HL.out]; exact hlt)
      have l1 := World.block_lt_of_cell? w _ hc
      have g1 := (hbel.cell (p := ⟨b1, o1 + t, none⟩) l1).trans hc
      clear hxs
      generalize xs[t]'(by rw [HL.out]; exact hlt) = x at g1 hc hx0 hx1
      by_cases hpar : t % 2 = 0
      · have hp1 : ((t : Int).tmod 2 == 0) = true := by rw [Int.tmod_eq_emod_of_nonneg (by omega)]; simp; omega
        by_cases hin : 0 ≤ x ∧ x < m
        · obtain ⟨hi0, hi1⟩ := hin
          go_wp2_with fail
          refine (read_in _ d bb D x hi0 (by rw [HDm.out]; exact hi1) ⟨hr0, by omega⟩ HD.out).mono ?_
          rintro e w3 ⟨rfl, hD3, hm3⟩
          have HD3 := Lib.hid hD3
          have hb3 : Below w.heap.size w w3 := below_after hbel hm3 zr (by simp; omega)
          clear hD3 hm3 HD
          go_wp2_with fail
          go_roundw
          case rel => exact ⟨t + 1, ⟨D.secs, D.sealed_, D.reads + 1, D.writes⟩, by omega, by go_num, rfl, rfl, HDm.out, HDs.out, by simp only []; omega, by simp only []; omega, hw0, by simp only []; omega, HD3.out, hb3⟩
          case measure => simp [intOf]; omega
        · have hout : x < 0 ∨ m ≤ x := by omega
          have hout2 : x < 0 ∨ (D.secs.length : Int) ≤ x := by rw [HDm.out]; exact hout
          have HO := Lib.hid hout2
          have hln : D.secs.length ≤ 16384 := HD.out.small
          clear hin hout2
          rcases hout with hx | hx
          all_goals
            go_wp2_with fail
            refine (read_out _ d D.secs.length _ _ x HO.out hln HD.out.c0).mono ?_
            rintro e w3 ⟨rfl, hb3⟩
            have HD3 := Lib.hid (HD.out.below hb3 (Nat.le_refl _))
            have hb4 : Below w.heap.size w w3 := hbel.trans (hb3.mono zr)
            clear hb3 HD
            go_wp2_with fail
            go_roundw
            case rel => exact ⟨t + 1, D, by omega, by go_num, rfl, rfl, HDm.out, HDs.out, hr0, by omega, hw0, by omega, HD3.out, hb4⟩
            case measure => simp [intOf]; omega
      · have hp1 : ((t : Int).tmod 2 == 0) = false := by rw [Int.tmod_eq_emod_of_nonneg (by omega)]; simp; omega
        by_cases hin : 0 ≤ x ∧ x < m
        · obtain ⟨hi0, hi1⟩ := hin
          go_wp2_with fail
          go_region_with (first | (go_at_call 24; refine (sector_any _ _ (by omega) (by omega)).mono ?_; rintro e w3 ⟨rfl, hb3⟩; have g3 := (hb3.cell (p := ⟨b1, o1 + t, none⟩) (Nat.lt_of_lt_of_le l1 zr)).trans g1; have HD3 := Lib.hid ((show IsDisk wr.drew d bb D from ⟨HD.out.head, HD.out.row, HD.out.each, HD.out.small⟩).below hb3 (Nat.le_refl _)); have hb4 : Below w.heap.size w w3 := (hbel.drew).trans (hb3.mono zr); clear hb3) | (go_at_call 23; refine (write_ok _ d bb D x _ hi0 (by rw [HDm.out]; exact hi1) (by rw [HDs.out]; exact hi0) (secB_size _) ⟨hw0, by omega⟩ HD3.out).mono ?_; rintro e w4 ⟨rfl, hD4, hm4⟩; have HD4 := Lib.hid hD4; have hb5 : Below w.heap.size w w4 := below_after hb4 hm4 hb4.size (by simp; omega); clear hD4 hm4))
          all_goals
            go_wp2_with fail
            go_roundw
            case rel => exact ⟨t + 1, ⟨D.secs.set x.toNat (secB 119).data.toList, D.sealed_, D.reads, D.writes + 1⟩, by omega, by go_num, rfl, rfl, by simp only [List.length_set]; exact HDm.out, HDs.out, hr0, by simp only []; omega, by simp only []; omega, by simp only []; omega, HD4.out, hb5⟩
            case measure => simp [intOf]; omega
        · have hout : x < 0 ∨ m ≤ x := by omega
          have hout2 : x < 0 ∨ (D.secs.length : Int) ≤ x := by rw [HDm.out]; exact hout
          have HO := Lib.hid hout2
          have hln : D.secs.length ≤ 16384 := HD.out.small
          clear hin hout2
          rcases hout with hx | hx
          all_goals
            go_wp2_with fail
            go_region_with (first | (go_at_call 24; refine (sector_any _ _ (by omega) (by omega)).mono ?_; rintro e w3 ⟨rfl, hb3⟩; have g3 := (hb3.cell (p := ⟨b1, o1 + t, none⟩) (Nat.lt_of_lt_of_le l1 zr)).trans g1; have HD3 := Lib.hid ((show IsDisk wr.drew d bb D from ⟨HD.out.head, HD.out.row, HD.out.each, HD.out.small⟩).below hb3 (Nat.le_refl _)); have hb4 : Below w.heap.size w w3 := (hbel.drew).trans (hb3.mono zr); clear hb3) | (go_at_call 23; refine (write_out _ d D.secs.length _ _ x _ HO.out hln HD3.out.c0).mono ?_; rintro e w4 ⟨rfl, hb6⟩; have HD4 := Lib.hid (HD3.out.below hb6 (Nat.le_refl _)); have hb5 : Below w.heap.size w w4 := hb4.trans (hb6.mono hb4.size); clear hb6))
            all_goals
              go_wp2_with fail
              go_roundw
              case rel => exact ⟨t + 1, D, by omega, by go_num, rfl, rfl, HDm.out, HDs.out, hr0, by omega, hw0, by omega, HD4.out, hb5⟩
              case measure => simp [intOf]; omega
    · go_wp2_with fail
      all_goals
        refine (reads_any _ d _ HD.out.c2).mono ?_
        rintro e w3 ⟨rfl, rfl⟩
        go_wp2_with fail
        refine (writes_any _ d _ HD.out.c3).mono ?_
        rintro e w3 ⟨rfl, rfl⟩
        go_wp2_with fail
        refine (sectors_any _ d D.secs.length _ _ HD.out.small HD.out.c0).mono ?_
        rintro e w3 ⟨rfl, rfl⟩
        rw [HDm.out]
        go_wp2
        go_ret
        exact ⟨rfl, hbel⟩
end Go.Proofs.Ytbcpnfkjncpdcaa
