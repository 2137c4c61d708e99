/- The Go text of flyleaflaw03.BlockLast returns true and writes nothing that was there. -/
import Derived.Test.YtbcpnfkjncpdcaaLawLib
import Derived.Test.YtbcpnfkjncpdcaaOpens
import Derived.Test.YtbcpnfkjncpdcaaBits
namespace Go.Proofs.Ytbcpnfkjncpdcaa
open Go.RowKit

theorem u8_wf {x : Int} (h : (Lit.int .u8 x).wf = true) : 0 ≤ x ∧ x < 256 := by
  simp [Lit.wf, IntKind.min, IntKind.max, IntKind.signed, IntKind.bits] at h
  omega
theorem secOf_length (c : Int) : (secOf c).length = 64 := by simp [secOf]
theorem secB_size (c : Int) : (secB c).size = 64 := by simp [secB, secOf, ByteArray.size]
theorem secOf_zero : secOf 0 = zeroSec := rfl

set_option maxRecDepth 100000 in
set_option maxHeartbeats 2000000 in
theorem last_walk (w : World) (a : Option Addr) (N cap : Nat) (_h1 : N ≤ cap) (_h2 : cap ≤ maxLen) (rows : List (List Int)) (hl : rows.length = N) (hrows : ArrsAt .u8 2 w a rows) (sl : Int) (_hs : (Lit.int IntKind.i64 sl).wf = true) (be : Int) (_hb : (Lit.int IntKind.i64 be).wf = true) :
    Calls Try.prog 5 #[.slice a N cap, .int .i64 sl, .int .i64 be] w fun e w' => e = .returned (.bool true) ∧ Below w.heap.size w w' := by
  have HL := Lib.hid hl
  clear hl
  go_enter Try.func5, Try.ntmps5
  go_wp2_with fail
  refine (awake_any _).mono ?_
  rintro e w1 ⟨rfl, hb1⟩
  go_wp2_with fail
  refine (new_ok _ 8 (by omega) (by omega)).mono ?_
  rintro e w2 ⟨d, bb, rfl, hd, hbb, hD, hb2⟩
  have HD0 := Lib.hid hD
  have z1 := hb1.size
  have b2 : Below w.heap.size w w2 := hb1.trans (hb2.mono z1)
  have hdw := lt_of_block hD.head
  have hbw := lt_of_block hD.row
  clear hD hb1 hb2
  obtain ⟨wb, hwb⟩ : ∃ wb, wb = w2.heap.size := ⟨_, rfl⟩
  have hne1 : wb ≠ d := by omega
  have hne2 : wb ≠ bb := by omega
  have hwbw : w.heap.size ≤ wb := by have := b2.size; omega
  go_wp2_with fail
  rw [← hwb]
  obtain ⟨B, hB31⟩ : ∃ B, bits BinOp.and IntKind.i64 be 31 = B := ⟨_, rfl⟩
  obtain ⟨s, hS7, hs0, hs1⟩ : ∃ s, bits BinOp.and IntKind.i64 sl 7 = s ∧ 0 ≤ s ∧ s ≤ 7 := ⟨_, and7 sl, by omega, by omega⟩
  have hwant : (w2.alloc (Obj.cells #[Value.int IntKind.u8 0, Value.int IntKind.u8 0, Value.int IntKind.u8 0, Value.int IntKind.u8 0, Value.int IntKind.u8 0, Value.int IntKind.u8 0, Value.int IntKind.u8 0, Value.int IntKind.u8 0] 43)).heap[wb]? = some (.cells ((List.replicate 8 (0 : Int)).map (Value.int .u8)).toArray 43 (0, 0)) := by rw [hwb]; exact heap_alloc_new _ _
  have HW0 := Lib.hid hwant
  have hb3 : Below w.heap.size w (w2.alloc (Obj.cells #[Value.int IntKind.u8 0, Value.int IntKind.u8 0, Value.int IntKind.u8 0, Value.int IntKind.u8 0, Value.int IntKind.u8 0, Value.int IntKind.u8 0, Value.int IntKind.u8 0, Value.int IntKind.u8 0] 43)) := b2.alloc b2.size _
  have HD1 := Lib.hid (HD0.out.below ((Below.refl w2.heap.size w2).alloc (Nat.le_refl _) (Obj.cells #[Value.int IntKind.u8 0, Value.int IntKind.u8 0, Value.int IntKind.u8 0, Value.int IntKind.u8 0, Value.int IntKind.u8 0, Value.int IntKind.u8 0, Value.int IntKind.u8 0, Value.int IntKind.u8 0] 43)) (Nat.le_refl _))
  have HB3 := Lib.hid hb3
  clear hwant hb3 hwb
  go_loopw [10, 11] (fun m i wr => ∃ (t : Nat) (M : Int) (D : DM) (W : List Int), t ≤ 30 ∧ i = .int .i64 t ∧ m = .int .i64 M ∧ 0 ≤ M ∧ M ≤ 7 ∧ (t ≤ B → M = 0) ∧ W.length = 8 ∧ (∀ x ∈ W, 0 ≤ x ∧ x < 256) ∧ D.secs = W.map secOf ∧ D.sealed_ = M ∧ D.reads = 0 ∧ 0 ≤ D.writes ∧ D.writes ≤ t ∧ IsDisk wr d bb D ∧ wr.heap[wb]? = some (.cells (W.map (Value.int .u8)).toArray 43 (0, 0)) ∧ Below w.heap.size w wr)
    (fun _ i _ => 30 - (intOf i).toNat)
  case atStart => exact ⟨0, 0, _, List.replicate 8 0, by omega, rfl, rfl, by omega, by omega, fun _ => rfl, rfl, by simp, rfl, rfl, rfl, by simp [newDM], by simp [newDM], HD1.out, HW0.out, HB3.out⟩
  case round =>
    clear HD0 HD1 HB3 HW0 b2
    obtain ⟨t, M, D, W, ht, rfl, rfl, hM0, hM1, hMB, hW8, hWb, hDs, hDM, hDr, hDw0, hDw, hD, hwant, hbel⟩ := hrel
    have HD := Lib.hid hD
    have HW8 := Lib.hid hW8
    have HWb := Lib.hid hWb
    have HDs := Lib.hid hDs
    have HDM := Lib.hid hDM
    have HDr := Lib.hid hDr
    have HMB := Lib.hid hMB
    have HWT := Lib.hid hwant
    have zr := hbel.size
    clear hD hW8 hWb hDs hDM hDr hMB hwant
    by_cases hlt : t < N ∧ t < 30
    · obtain ⟨hlt, hlt10⟩ := hlt
      obtain ⟨hr2, b1, o1, rfl, hc⟩ := hrows t (by rw [HL.out]; exact hlt)
      have hc0 := hc 0 (by omega)
      have hc1 := hc 1 (by omega)
      clear hrows hc
      generalize (rows[t]'(by rw [HL.out]; exact hlt))[0]'(by omega) = x at hc0
      generalize (rows[t]'(by rw [HL.out]; exact hlt))[1]'(by omega) = y at hc1
      obtain ⟨hc0, hwx⟩ := hc0
      obtain ⟨hc1, hwy⟩ := hc1
      obtain ⟨hx0, hx1⟩ := u8_wf hwx
      obtain ⟨hy0, hy1⟩ := u8_wf hwy
      clear hwx hwy
      have l1 := World.block_lt_of_cell? w _ hc0
      simp only at l1
      go_upto_if 34 with (fail)
      go_cut [10] (fun nv wx => ∃ (M : Int) (D : DM), nv = .int .i64 M ∧ 0 ≤ M ∧ M ≤ 7 ∧ (((t + 1 : Nat) : Int) ≤ B → M = 0) ∧ D.secs = W.map secOf ∧ D.sealed_ = M ∧ D.reads = 0 ∧ 0 ≤ D.writes ∧ D.writes ≤ t ∧ IsDisk wx d bb D ∧ wx.heap[wb]? = some (.cells (W.map (Value.int .u8)).toArray 43 (0, 0)) ∧ Below w.heap.size w wx)
      case first =>
        by_cases hev : (t : Int) = B
        · have he : ((t : Int) == B) = true := by simp [hev]
          have hM : M = 0 := HMB.out (by omega)
          have hev1 : ¬ (((t + 1 : Nat) : Int) ≤ B) := by omega
          have HEV := Lib.hid hev
          clear hev
          go_wp2_with fail
          refine (seal_any _ d bb D s HD.out).mono ?_
          rintro e w3 ⟨rfl, hD3, hm3⟩
          have HD3 := Lib.hid hD3
          have HM3 := Lib.hid hm3
          clear hD3 hm3
          go_wp2_with fail
          refine (seal_any _ d bb _ (s - 1) HD3.out).mono ?_
          rintro e w4 ⟨rfl, hD4, hm4⟩
          have hmx : max (max D.sealed_ s) (s - 1) = s := by rw [HDM.out, hM]; omega
          simp only [hmx] at hD4
          have HD4 := Lib.hid hD4
          have hm := HM3.out.trans hm4
          go_wp2_with fail
          go_meet
          exact ⟨s, ⟨D.secs, s, D.reads, D.writes⟩, rfl, hs0, hs1, fun h => by omega, HDs.out, rfl, HDr.out, hDw0, hDw, HD4.out, (hm.block wb (lt_of_block HWT.out) (by simp; exact hne1)).trans HWT.out, below_after hbel hm zr (by simp; omega)⟩
        · have he : ((t : Int) == B) = false := by simp [hev]
          have HEV := Lib.hid hev
          clear hev
          go_wp2_with fail
          go_meet
          exact ⟨M, D, rfl, hM0, hM1, fun h => HMB.out (by omega), HDs.out, HDM.out, HDr.out, hDw0, hDw, HD.out, HWT.out, hbel⟩
      case rest =>
        clear HD HDs HDM HDr HMB HWT
        obtain ⟨M', D', rfl, hM0', hM1', hMB', hDs', hDM', hDr', hDw0', hDw', hD', hwant', hbel'⟩ := hcut
        have HD := Lib.hid hD'
        have HDs := Lib.hid hDs'
        have HDM := Lib.hid hDM'
        have HDr := Lib.hid hDr'
        have HMB := Lib.hid hMB'
        have HWT := Lib.hid hwant'
        clear hD' hDs' hDM' hDr' hMB' hwant'
        obtain ⟨w3, rfl⟩ : ∃ w3 : World, w3 = wc := ⟨_, rfl⟩
        have g0 := (hbel'.cell (p := ⟨b1, o1 + t * 2, none⟩) l1).trans hc0
        have g1 := (hbel'.cell (p := ⟨b1, o1 + t * 2 + 1, none⟩) l1).trans hc1
        obtain ⟨q, hq7, hq0, hq1⟩ : ∃ q, bits BinOp.and IntKind.u8 x 7 = q ∧ 0 ≤ q ∧ q ≤ 7 := ⟨_, and7_u8 x, by omega, by omega⟩
        clear hc0 hc1
        have hlt' : (t : Int) < 30 := by omega
        go_wp2_with fail
        refine (sector_any _ y hy0 hy1).mono ?_
        rintro e w4 ⟨rfl, hb4⟩
        have z3 := hbel'.size
        have HD4 := Lib.hid (HD.out.below hb4 (Nat.le_refl _))
        have HW4 := Lib.hid ((hb4.block wb (lt_of_block HWT.out)).trans HWT.out)
        have b4 : Below w.heap.size w w4 := hbel'.trans (hb4.mono z3)
        have z4 := b4.size
        have gy4 := (hb4.cell (p := ⟨b1, o1 + t * 2 + 1, none⟩) (by simp; omega)).trans g1
        clear hb4 g0 g1 HD HWT
        have hsl : D'.secs.length = 8 := by rw [HDs.out, List.length_map, HW8.out]
        have HSL := Lib.hid hsl
        clear hsl
        go_wp2_with fail
        by_cases hse : q < M'
        · refine (write_sealed _ d bb _ q _ hq0 (by rw [HSL.out]; omega) (by rw [HDM.out]; exact hse) (secB_size _) HD4.out).mono ?_
          rintro e w5 ⟨rfl, hb5⟩
          have HD5 := Lib.hid (HD4.out.below hb5 (Nat.le_refl _))
          have HW5 := Lib.hid ((hb5.block wb (lt_of_block HW4.out)).trans HW4.out)
          have b5 : Below w.heap.size w w5 := b4.trans (hb5.mono z4)
          clear hb5 gy4
          go_wp2_with fail
          go_roundw
          case rel => exact ⟨t + 1, M', D', W, by omega, by go_num, rfl, hM0', hM1', HMB.out, HW8.out, HWb.out, HDs.out, HDM.out, HDr.out, hDw0', by omega, HD5.out, HW5.out, b5⟩
          case measure => simp [intOf]; omega
        · refine (write_ok _ d bb _ q _ hq0 (by rw [HSL.out]; omega) (by rw [HDM.out]; omega) (secB_size _) ⟨hDw0', by omega⟩ HD4.out).mono ?_
          rintro e w5 ⟨rfl, hD5, hm5⟩
          have HD5 := Lib.hid hD5
          have HW5 := Lib.hid ((hm5.block wb (lt_of_block HW4.out) (by simp; exact ⟨hne1, hne2⟩)).trans HW4.out)
          have b5 : Below w.heap.size w w5 := below_after b4 hm5 z4 (by simp; omega)
          have gy5 := (hm5.below (B := w.heap.size) z4 (by simp; omega)).cell (p := ⟨b1, o1 + t * 2 + 1, none⟩) l1
          rw [gy4] at gy5
          have z5 := b5.size
          clear hm5 hD5 gy4
          have hqW : q.toNat < W.length := by rw [HW8.out]; omega
          have gc : w5.cell? ⟨wb, q.toNat, none⟩ = some (.int .u8 (W[q.toNat])) := by
            rw [cell_of_row w5 _ _ _ _ _ HW5.out]; simp [hqW]
          have gf := frozen_of_row w5 wb q.toNat _ _ HW5.out
          go_wp2_with fail
          go_roundw
          case rel =>
            refine ⟨t + 1, M', ⟨D'.secs.set q.toNat (secB y).data.toList, D'.sealed_, D'.reads, D'.writes + 1⟩, W.set q.toNat y, by omega, by go_num, rfl, hM0', hM1', HMB.out, by simp [HW8.out], ?_, ?_, HDM.out, HDr.out, by simp only []; omega, by simp only []; omega, ?_, ?_, b5.setCell (p := ⟨wb, q.toNat, none⟩) hwbw _⟩
            · intro z hz
              rcases List.mem_or_eq_of_mem_set hz with hz | hz
              · exact HWb.out z hz
              · rw [hz]; exact ⟨hy0, hy1⟩
            · simp only [HDs.out, List.map_set]; rfl
            · exact HD5.out.mods ((Mods.refl [wb] w5).setCell (.inl (by simp)) _) (by simp; exact Ne.symm hne1) (by simp; exact Ne.symm hne2)
            · rw [row_setCell HW5.out, List.map_set]
          case measure => simp [intOf]; omega
    · go_wp2_with fail
      all_goals
        obtain ⟨wo, rfl⟩ : ∃ wo : World, wo = wr := ⟨_, rfl⟩
        go_loopw [14] (fun i wx => ∃ (u : Nat) (E : DM), u ≤ 8 ∧ i = .int .i64 u ∧ E.secs = W.map secOf ∧ E.reads = u ∧ IsDisk wx d bb E ∧ wx.heap[wb]? = some (.cells (W.map (Value.int .u8)).toArray 43 (0, 0)) ∧ Below w.heap.size w wx)
          (fun i _ => 8 - (intOf i).toNat)
        case atStart => exact ⟨0, D, by omega, rfl, HDs.out, HDr.out, HD.out, HWT.out, hbel⟩
        case round =>
          clear HD HWT hbel
          obtain ⟨u, E, hu, rfl, hEs, hEr, hE, hwant, hbx⟩ := hrel
          have HE := Lib.hid hE
          have HEs := Lib.hid hEs
          have HEr := Lib.hid hEr
          have HWE := Lib.hid hwant
          have zx := hbx.size
          clear hE hEs hEr hwant
          by_cases hu8 : u < 8
          · have hEl : E.secs.length = 8 := by rw [HEs.out, List.length_map, HW8.out]
            have HEL := Lib.hid hEl
            clear hEl
            have huW : u < W.length := by rw [HW8.out]; exact hu8
            obtain ⟨v, hv⟩ : ∃ v, v = W[u] := ⟨_, rfl⟩
            have hvb : 0 ≤ v ∧ v < 256 := by rw [hv]; exact HWb.out _ (List.getElem_mem _)
            obtain ⟨hv0, hv1⟩ := hvb
            have hread : (⟨(E.secs.getD (Int.toNat (u : Int)) []).toArray⟩ : ByteArray) = secB v := by
              rw [HEs.out, Int.toNat_natCast, hv]
              simp [secB, List.getD, huW]
            have hcell : ∀ W' : World, W'.heap[wb]? = some (.cells (W.map (Value.int .u8)).toArray 43 (0, 0)) → W'.cell? ⟨wb, u, none⟩ = some (.int .u8 v) := by
              intro W' h
              rw [cell_of_row W' _ _ _ _ _ h, hv]; simp [huW]
            have HRD := Lib.hid hread
            have HCL := Lib.hid hcell
            clear hread hcell hv
            go_wp2_with fail
            refine (read_in _ d bb E u (by omega) (by rw [HEL.out]; omega) ⟨by rw [HEr.out]; omega, by rw [HEr.out]; omega⟩ HE.out).mono ?_
            rintro e w3 ⟨rfl, hE3, hm3⟩
            have HE3 := Lib.hid hE3
            have HW3 := Lib.hid ((hm3.block wb (lt_of_block HWE.out) (by simp; exact hne1)).trans HWE.out)
            have b3 : Below w.heap.size w w3 := below_after hbx hm3 zx (by simp; omega)
            have gv := HCL.out w3 HW3.out
            rw [HRD.out]
            clear hE3 hm3 HE HWE hbx HRD
            go_wp2_with fail
            refine (sector_any _ v hv0 hv1).mono ?_
            rintro e w4 ⟨rfl, hb4⟩
            have HE4 := Lib.hid (HE3.out.below hb4 (Nat.le_refl _))
            have HW4 := Lib.hid ((hb4.block wb (lt_of_block HW3.out)).trans HW3.out)
            have b4 : Below w.heap.size w w4 := b3.trans (hb4.mono b3.size)
            clear hb4 gv
            go_wp2_with fail
            go_roundw
            case rel => exact ⟨u + 1, ⟨E.secs, E.sealed_, E.reads + 1, E.writes⟩, by omega, by go_num, HEs.out, by simp only [HEr.out]; omega, HE4.out, HW4.out, b4⟩
            case measure => simp [intOf]; omega
          · have hue : u = 8 := by omega
            subst hue
            have hc2 := HE.out.c2
            rw [HEr.out] at hc2
            have h88 : ((((8 : Nat) : Int)) == 8) = true := rfl
            go_wp2_with fail
            refine (reads_any _ d _ hc2).mono ?_
            rintro e w3 ⟨rfl, rfl⟩
            go_wp2
            go_ret
            exact ⟨rfl, hbx⟩
end Go.Proofs.Ytbcpnfkjncpdcaa
