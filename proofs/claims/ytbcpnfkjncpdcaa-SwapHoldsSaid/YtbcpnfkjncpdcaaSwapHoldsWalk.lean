/- The Go text of flyleaflaw05.SwapHolds returns true and writes nothing that was there. -/
import Derived.Test.YtbcpnfkjncpdcaaSwapLib
namespace Go.Proofs.Ytbcpnfkjncpdcaa
open Go.RowKit

set_option maxRecDepth 100000 in
set_option maxHeartbeats 1000000 in
theorem holds_walk (w : World) (n : Int) (_hn : (Lit.int IntKind.i64 n).wf = true) : Calls Try.prog 12 #[.int .i64 n] w fun e w' => e = .returned (.bool true) ∧ Below w.heap.size w w' := by
  obtain ⟨k, hk, hk1⟩ : ∃ k : Nat, bits BinOp.and IntKind.i64 n 15 = (k : Int) ∧ k ≤ 15 := ⟨(n % 16).toNat, by rw [and15]; omega, by omega⟩
  go_enter Try.func12, Try.ntmps12
  go_wp2_with fail
  refine (awake5 _).mono ?_
  rintro e w1 ⟨rfl, hb1⟩
  have z1 := hb1.size
  go_wp2_with fail
  refine (new_ok _ 4 (by omega) (by omega)).mono ?_
  rintro e w2 ⟨d, bb, rfl, hd, hbb, hD, hb2⟩
  have HD := Lib.hid hD
  have b2 : Below w.heap.size w w2 := hb1.trans (hb2.mono z1)
  have z2 := b2.size
  clear hD hb2
  go_wp2_with fail
  refine (area_new w2 d bb _ 0 2 (by omega) (by omega) (by simp [newDM]) HD.out).mono ?_
  rintro e w3 ⟨a, hb, rfl, ha, hhb, hA3, hb3⟩
  have HA3 := Lib.hid hA3
  have b3 : Below w.heap.size w w3 := b2.trans (hb3.mono z2)
  have z3 := b3.size
  clear hA3 hb3 HD
  go_wp2_with fail
  refine (page_any w3 9).mono ?_
  rintro e w4 ⟨rfl, hb4⟩
  have HA4 := Lib.hid (HA3.out.below hb4 (Nat.le_refl _))
  have b4 := b3.trans (hb4.mono z3)
  clear HA3 hb4
  obtain ⟨p, hpe⟩ : ∃ p, p = pageB 9 := ⟨_, rfl⟩
  have hp : p.size = 64 := by rw [hpe]; exact pageB_size 9
  rw [← hpe]
  have HPE := Lib.hid hpe
  clear hpe
  go_wp2_with fail
  refine (put_good w4 a hb d bb _ p 0 hp (by simp) (by simp) (fun j h => absurd h (by omega)) (by simp [newDM]) (by simp [newDM]) (by simp [newDM]) (by simp) HA4.out).mono ?_
  rintro e w5 ⟨rfl, hA5, hm5⟩
  have hA5' : IsArea w5 a hb d bb ⟨(newDM 4).put 0 p, 0, [1, 0], 1⟩ := hA5
  have HA5 := Lib.hid hA5'
  have b5 : Below w.heap.size w w5 := below_after b4 hm5 b4.size (by simp; omega)
  have HP := Lib.hid hp
  clear hA5 hA5' hm5 HA4 hp
  go_wp2_with fail
  obtain ⟨w0, hw0⟩ : ∃ w0 : World, w0 = w5 := ⟨_, rfl⟩
  go_loopw [9] (fun i wx => ∃ (t : Nat), t ≤ k ∧ i = .int .i64 t ∧ IsArea wx a hb d bb ⟨(newDM 4).put 0 p, 0, [((t + 1 : Nat) : Int), 0], 1⟩ ∧ Below w.heap.size w wx) (fun i _ => k - (intOf i).toNat)
  case atStart => exact ⟨0, by omega, rfl, HA5.out, b5⟩
  case round =>
    clear HA5 b5 b4 b3 b2
    obtain ⟨t, ht, rfl, hA, hbel⟩ := hrel
    have HA := Lib.hid hA
    clear hA
    by_cases hlt : t < k
    · go_wp2_with fail
      refine (hold_ok wr a hb d bb _ 0 (by simp) (by simp; omega) HA.out).mono ?_
      rintro e w6 ⟨rfl, hA6, hm6⟩
      have hA6' : IsArea w6 a hb d bb ⟨(newDM 4).put 0 p, 0, [((t + 1 + 1 : Nat) : Int), 0], 1⟩ := hA6
      have HA6 := Lib.hid hA6'
      have b6 : Below w.heap.size w w6 := below_after hbel hm6 hbel.size (by simp; omega)
      clear hA6 hA6' hm6 HA
      go_wp2_with fail
      refine (held_any w6 a hb d bb _ 0 HA6.out).mono ?_
      rintro e w7 ⟨rfl, rfl⟩
      have hh : (⟨(newDM 4).put 0 p, 0, [((t + 1 + 1 : Nat) : Int), 0], 1⟩ : SA).heldAt 0 = t + 2 := by simp [SA.heldAt]; omega
      rw [hh]
      clear hh
      go_wp2_with fail
      go_roundw
      case rel => exact ⟨t + 1, by omega, by go_num, HA6.out, b6⟩
      case measure => simp [intOf]; omega
    · have htk : t = k := by omega
      subst htk
      go_wp2_with fail
      obtain ⟨wo, rfl⟩ : ∃ wo : World, wo = wr := ⟨_, rfl⟩
      go_loopw [10, 11, 12] (fun i _ _ wx => ∃ (j : Nat) (D : DM) (h0 u : Int), j ≤ t + 1 ∧ i = .int .i64 j ∧ Hid (D.secs = ((newDM 4).put 0 p).secs) ∧ 0 ≤ D.reads ∧ D.reads ≤ j ∧ Hid (h0 = (t : Int) + 1 - j) ∧ Hid (u = if j = t + 1 then 0 else 1) ∧ IsArea wx a hb d bb ⟨D, 0, [h0, 0], u⟩ ∧ Below w.heap.size w wx) (fun i _ _ _ => t + 1 - (intOf i).toNat)
      case atStart => exact ⟨0, _, _, _, by omega, rfl, Lib.hid rfl, by simp [newDM, DM.put], by simp [newDM, DM.put], Lib.hid (by simp), Lib.hid (by simp), HA.out, hbel⟩
      case round =>
        clear HA hbel
        obtain ⟨j, D, h0, u, hj, rfl, HS, hr0, hr1, HH, HU, hA, hbel⟩ := hrel
        have HA := Lib.hid hA
        clear hA
        have hsl : 0 < D.secs.length := by rw [HS.out]; simp [DM.put, newDM]
        have hstr : (⟨(D.secs[0]).toArray⟩ : ByteArray) = p := by
          have : D.secs[0] = p.data.toList := by simp [HS.out, DM.put, newDM]
          rw [this]
        have HSTR := Lib.hid hstr
        clear hstr
        by_cases hlt : j < t + 1
        · have hj' : j ≤ t := by omega
          go_wp2_with fail
          have hne : h0 ≠ 0 := by have := HH.out; omega
          refine (get_good wr a hb d bb _ 0 0 (by simp) (by simpa using hne) (by simp) (by simp) hsl ⟨hr0, show D.reads ≤ 1000000 by omega⟩ HA.out).mono ?_
          rintro e w6 ⟨he, hA6, hm6⟩
          rw [HSTR.out] at he
          subst he
          have HA6 := Lib.hid hA6
          have b6 : Below w.heap.size w w6 := below_after hbel hm6 hbel.size (by simp; omega)
          have z6 := b6.size
          clear hA6 hm6 HA hne
          go_wp2_with fail
          refine (page_any w6 9).mono ?_
          rintro e w7 ⟨rfl, hb7⟩
          rw [← HPE.out]
          have HA7 := Lib.hid (HA6.out.below hb7 (Nat.le_refl _))
          have b7 := b6.trans (hb7.mono z6)
          have z7 := b7.size
          clear hb7 HA6
          go_wp2_with fail
          refine (used_any w7 a hb d bb _ HA7.out).mono ?_
          rintro e w8 ⟨rfl, rfl⟩
          have hu1 : u = 1 := by rw [HU.out, if_neg (by omega)]
          have HU1 := Lib.hid hu1
          rw [show (SA.mk D.got 0 [h0, 0] u).used = 1 from hu1]
          clear hu1
          go_wp2_with fail
          refine (free_ok w7 a hb d bb _ 0 (by simp) (by have := HH.out; simp; omega) (by have := HU1.out; simp; omega) HA7.out).mono ?_
          rintro e w8 ⟨rfl, hA8, hm8⟩
          have hA8' : IsArea w8 a hb d bb ⟨D.got, 0, [h0 - 1, 0], if h0 = 1 then u - 1 else u⟩ := hA8
          have HA8 := Lib.hid hA8'
          have b8 : Below w.heap.size w w8 := below_after b7 hm8 z7 (by simp; omega)
          clear hA8 hA8' hm8 HA7
          go_wp2_with fail
          go_roundw
          case rel =>
            exact ⟨j + 1, D.got, h0 - 1, _, by omega, by go_num, Lib.hid HS.out, by simp [DM.got]; omega, by simp [DM.got]; omega, Lib.hid (by rw [HH.out]; omega), Lib.hid (by rw [HU1.out, HH.out]; by_cases he : j = t <;> simp [he] <;> omega), HA8.out, b8⟩
          case measure => simp [intOf]; omega
        · have hjt : j = t + 1 := by omega
          subst hjt
          have hh0 : h0 = 0 := by rw [HH.out]; omega
          have hu0 : u = 0 := by rw [HU.out, if_pos rfl]
          subst hh0 hu0
          go_wp2_with fail
          refine (get_zero wr a hb d bb _ 0 (by simp) (by simp) HA.out).mono ?_
          rintro e w6 ⟨rfl, hb6⟩
          have HA6 := Lib.hid (HA.out.below hb6 (Nat.le_refl _))
          have b6 := hbel.trans (hb6.mono hbel.size)
          clear hb6 HA
          go_wp2_with fail
          refine (used_any w6 a hb d bb _ HA6.out).mono ?_
          rintro e w7 ⟨rfl, rfl⟩
          go_wp2_with fail
          refine (held_any w6 a hb d bb _ 0 HA6.out).mono ?_
          rintro e w7 ⟨rfl, rfl⟩
          rw [show (SA.mk D 0 [0, 0] 0).heldAt 0 = 0 by simp [SA.heldAt]]
          go_wp2_with fail
          go_ret
          exact ⟨rfl, b6⟩
end Go.Proofs.Ytbcpnfkjncpdcaa
