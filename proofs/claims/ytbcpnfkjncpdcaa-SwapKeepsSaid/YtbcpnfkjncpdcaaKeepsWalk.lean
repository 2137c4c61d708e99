/- The Go text of flyleaflaw05.SwapKeeps returns true and writes nothing that was there. -/
import Derived.Test.YtbcpnfkjncpdcaaKeepsCalls
import Derived.Test.YtbcpnfkjncpdcaaBits
import Derived.Test.YtbcpnfkjncpdcaaOpen
namespace Go.Proofs.Ytbcpnfkjncpdcaa
open Go.RowKit

set_option maxRecDepth 100000 in
set_option maxHeartbeats 4000000 in
theorem keeps_walk (w : World) (a : Option Addr) (N cap : Nat) (_h1 : N ≤ cap) (_h2 : cap ≤ maxLen) (xs : List Int) (hl : xs.length = N) (hxs : IntsAt w a xs) :
    Calls Try.prog 10 #[.slice a N cap] w fun e w' => e = .returned (.bool true) ∧ Below w.heap.size w w' := by
  have HL := Lib.hid hl
  clear hl
  go_enter Try.func10, Try.ntmps10
  go_wp2_with fail
  refine (awake5 _).mono ?_
  rintro e w1 ⟨rfl, hb1⟩
  have z1 := hb1.size
  go_wp2_with fail
  refine (new_ok _ 8 (by omega) (by omega)).mono ?_
  rintro e w2 ⟨d, bb, rfl, hd, hbb, hD, hb2⟩
  have HD := Lib.hid hD
  have b2 := hb1.trans (hb2.mono z1)
  have z2 := b2.size
  clear hD hb2
  go_wp2_with fail
  refine (area_new w2 d bb _ 0 8 (by omega) (by omega) (by simp [newDM]) HD.out).mono ?_
  rintro e w3 ⟨ar, hb, rfl, ha, hhb, hA3, hb3⟩
  have b3 : Below w.heap.size w w3 := b2.trans (hb3.mono z2)
  have z3 := b3.size
  clear hb3 HD
  go_wp2_with fail
  obtain ⟨rT, rW, bA⟩ := two_new w3 (Obj.cells #[Value.bool false, Value.bool false, Value.bool false, Value.bool false, Value.bool false, Value.bool false, Value.bool false, Value.bool false] 64)
    (Obj.cells #[Value.int IntKind.i64 0, Value.int IntKind.i64 0, Value.int IntKind.i64 0, Value.int IntKind.i64 0, Value.int IntKind.i64 0, Value.int IntKind.i64 0, Value.int IntKind.i64 0, Value.int IntKind.i64 0] 65)
  have hA4 := hA3.below bA (Nat.le_refl _)
  have b4 := b3.trans (bA.mono z3)
  obtain ⟨l1, l2, l3, l4⟩ := hA3.lt
  have hdd : w.heap.size ≤ d ∧ w.heap.size ≤ bb ∧ w.heap.size ≤ ar ∧ w.heap.size ≤ hb := by omega
  obtain ⟨hd', hbb', har', hhb'⟩ := hdd
  clear hA3 bA ha hhb hd hbb z2 b2 b3
  generalize ((w3.alloc (Obj.cells #[Value.bool false, Value.bool false, Value.bool false, Value.bool false, Value.bool false, Value.bool false, Value.bool false, Value.bool false] 64)).alloc
    (Obj.cells #[Value.int IntKind.i64 0, Value.int IntKind.i64 0, Value.int IntKind.i64 0, Value.int IntKind.i64 0, Value.int IntKind.i64 0, Value.int IntKind.i64 0, Value.int IntKind.i64 0, Value.int IntKind.i64 0] 65)) = w4 at rT rW hA4 b4 ⊢
  obtain ⟨ob, hob⟩ : ∃ ob, ob = w3.heap.size + 1 := ⟨_, rfl⟩
  rw [← hob] at rW ⊢
  generalize w3.heap.size = tb at *
  have HA4 := Lib.hid hA4
  have HT4 : Hid (w4.heap[tb]? = some (.cells ((List.replicate 8 false).map Value.bool).toArray 64 (0, 0))) := Lib.hid rT
  have HW4 : Hid (w4.heap[ob]? = some (.cells ((List.replicate 8 (0 : Int)).map (Value.int .i64)).toArray 65 (0, 0))) := Lib.hid rW
  have hne : (tb ≠ ar ∧ tb ≠ hb ∧ tb ≠ d ∧ tb ≠ bb) ∧ (ob ≠ ar ∧ ob ≠ hb ∧ ob ≠ d ∧ ob ≠ bb) ∧ tb ≠ ob ∧ w.heap.size ≤ tb ∧ w.heap.size ≤ ob := by omega
  obtain ⟨⟨hn1, hn2, hn3, hn4⟩, ⟨hn5, hn6, hn7, hn8⟩, hn9, hn10, hn11⟩ := hne
  have hn12 := Ne.symm hn9
  clear rT rW hA4 hob
  go_loopw [8, 9, 10, 11, 12, 13, 14, 15, 16, 17] (fun i _ _ _ _ _ _ _ _ _ wx => ∃ (t : Nat) (D : DM) (T : List Bool) (Wh : List Int), t ≤ 40 ∧ i = .int .i64 t ∧ Hid (KeptAll D T Wh) ∧ 0 ≤ D.reads ∧ D.reads ≤ 8 * t ∧ 0 ≤ D.writes ∧ D.writes ≤ t ∧ IsArea wx ar hb d bb ⟨D, 0, heldB T, usedB T⟩ ∧
      Hid (wx.heap[tb]? = some (.cells (T.map Value.bool).toArray 64 (0, 0))) ∧ Hid (wx.heap[ob]? = some (.cells (Wh.map (Value.int .i64)).toArray 65 (0, 0))) ∧ Below w.heap.size w wx) (fun i _ _ _ _ _ _ _ _ _ _ => 40 - (intOf i).toNat)
  case atStart => exact ⟨0, newDM 8, List.replicate 8 false, List.replicate 8 0, by omega, rfl, Lib.hid keptAll_zero, by simp [newDM], by simp [newDM], by simp [newDM], by simp [newDM], HA4.out, HT4, HW4, b4⟩
  case round =>
    clear HA4 HT4 HW4 b4
    obtain ⟨t, D, T, Wh, ht, rfl, HK, hr0, hr1, hw0, hw1, hA, HT, HW, hbel⟩ := hrel
    have HA := Lib.hid hA
    have zr := hbel.size
    have HT8 := Lib.hid HK.out.2.1
    have HW8 := Lib.hid HK.out.2.2.1
    clear hA
    by_cases hlt : t < N ∧ t < 40
    · obtain ⟨hlt, hlt40⟩ := hlt
      obtain ⟨b1, o1, rfl, hc, _, _⟩ := hxs t (by rw [HL.out]; exact hlt)
      have g1 := (hbel.cell (p := ⟨b1, o1 + t, none⟩) (World.block_lt_of_cell? w _ hc)).trans hc
      clear hc hxs
      generalize xs[t]'(by rw [HL.out]; exact hlt) = x at g1
      by_cases hev : x % 2 = 0
      · have he : bits BinOp.and IntKind.i64 x 1 = 0 := by rw [and1]; exact hev
        clear hev
        go_wp2_with fail
        refine (page_any wr t).mono ?_
        rintro e w4 ⟨rfl, hb4⟩
        have HA4 := Lib.hid (HA.out.below hb4 (Nat.le_refl _))
        have HT4 := Lib.hid ((hb4.block tb (lt_of_block HT.out)).trans HT.out)
        have HW4 := Lib.hid ((hb4.block ob (lt_of_block HW.out)).trans HW.out)
        have b4 := hbel.trans (hb4.mono zr)
        have z4 := b4.size
        clear hb4 HA HT HW g1
        obtain ⟨p, hpe⟩ : ∃ p, p = pageB t := ⟨_, rfl⟩
        have hp : p.size = 64 := by rw [hpe]; exact pageB_size t
        rw [← hpe]
        have HPE := Lib.hid hpe
        have HP := Lib.hid hp
        clear hpe hp
        have hcs := freeB_cases T
        have HCS := Lib.hid hcs
        clear hcs
        rcases HCS.out with ⟨k, hk, hT, hall⟩ | hall
        · have HAL := Lib.hid hall
          have hk8 : k < 8 := by rw [HT8.out] at hk; exact hk
          clear hall
          go_wp2_with fail
          refine (putB w4 ar hb d bb D T p k HP.out hk hT HAL.out (by rw [HT8.out, HK.out.1]; exact Nat.le_refl 8) HK.out.2.2.2.1 ⟨hw0, by omega⟩ HA4.out).mono ?_
          rintro e w5 ⟨rfl, hA5, hm5⟩
          have hT5 := (hm5.block tb (lt_of_block HT4.out) (by simp; omega)).trans HT4.out
          have hW5 := (hm5.block ob (lt_of_block HW4.out) (by simp; omega)).trans HW4.out
          have cT : w5.cell? ⟨tb, k, none⟩ = some (.bool false) := by
            rw [cell_of_row _ _ _ _ _ _ hT5]
            simp [hk, hT]
          have cW : w5.cell? ⟨ob, k, none⟩ = some (.int .i64 (Wh[k]'(by rw [HW8.out]; exact hk8))) := by
            rw [cell_of_row _ _ _ _ _ _ hW5]
            simp [HW8.out, hk8]
          have fT := frozen_of_row w5 tb k _ _ hT5
          have fW := frozen_of_row w5 ob k _ _ hW5
          have b5 : Below w.heap.size w w5 := below_after b4 hm5 z4 (by simp; omega)
          have HA5' := Lib.hid (((hA5.mods ((Mods.refl [tb, ob] w5).setCell (p := ⟨tb, k, none⟩) (.inl (by simp)) (.bool true)) (by simp; omega) (by simp; omega) (by simp; omega) (by simp; omega))).mods ((Mods.refl [tb, ob] (w5.setCell ⟨tb, k, none⟩ (.bool true))).setCell (p := ⟨ob, k, none⟩) (.inl (by simp)) (.int .i64 t)) (by simp; omega) (by simp; omega) (by simp; omega) (by simp; omega))
          have HT5' : Hid (((w5.setCell ⟨tb, k, none⟩ (.bool true)).setCell ⟨ob, k, none⟩ (.int .i64 t)).heap[tb]? = some (.cells ((T.set k true).map Value.bool).toArray 64 (0, 0))) := Lib.hid (by
            rw [Below.heap_setCell _ _ _ _ hn9, row_setCell hT5, List.map_set])
          have HW5' : Hid (((w5.setCell ⟨tb, k, none⟩ (.bool true)).setCell ⟨ob, k, none⟩ (.int .i64 t)).heap[ob]? = some (.cells ((Wh.set k t).map (Value.int .i64)).toArray 65 (0, 0))) := Lib.hid (by
            rw [row_setCell (by rw [Below.heap_setCell _ _ _ _ hn12]; exact hW5), List.map_set])
          have b5' : Below w.heap.size w ((w5.setCell ⟨tb, k, none⟩ (.bool true)).setCell ⟨ob, k, none⟩ (.int .i64 t)) := (b5.setCell (p := ⟨tb, k, none⟩) hn10 _).setCell (p := ⟨ob, k, none⟩) hn11 _
          have HK2 : Hid (KeptAll (D.put (0 + (k : Int)) p) (T.set k true) (Wh.set k t)) := Lib.hid (by rw [HPE.out]; exact keptAll_put HK.out hk8 t (by omega))
          have hr0' : 0 ≤ (D.put (0 + (k : Int)) p).reads := hr0
          have hr1' : (D.put (0 + (k : Int)) p).reads ≤ 8 * t := hr1
          have hw0' : 0 ≤ (D.put (0 + (k : Int)) p).writes := by simp only [DM.put]; omega
          have hw1' : (D.put (0 + (k : Int)) p).writes ≤ t + 1 := by simp only [DM.put]; omega
          clear hA5 hT5 hW5 hm5 HA4 HT4 HW4 HAL b4 z4 b5
          generalize Wh[k]'(by rw [HW8.out]; exact hk8) = vW at cW
          go_wp2_with fail
          obtain ⟨T2, hT2⟩ : ∃ T2, T2 = T.set k true := ⟨_, rfl⟩
          obtain ⟨W2, hW2⟩ : ∃ W2, W2 = Wh.set k (t : Int) := ⟨_, rfl⟩
          rw [← hT2] at HA5' HT5' HK2
          rw [← hW2] at HW5' HK2
          generalize D.put (0 + (k : Int)) p = D2 at *
          have HA5 := HA5'
          have HT5 := HT5'
          have HW5 := HW5'
          have b5 := b5'
          clear HA5' HT5' HW5' b5' hT2 hW2 cT cW fT fW
          generalize ((w5.setCell ⟨tb, k, none⟩ (.bool true)).setCell ⟨ob, k, none⟩ (.int .i64 t)) = w5 at *

          obtain ⟨wo, rfl⟩ : ∃ wo : World, wo = w5 := ⟨_, rfl⟩
          go_loopw [15, 16, 17] (fun i _ _ wx => ∃ (n : Nat) (E : DM), n ≤ 8 ∧ i = .int .i64 n ∧ Hid (KeptAll E T2 W2) ∧ 0 ≤ E.reads ∧ E.reads ≤ 8 * t + n ∧ 0 ≤ E.writes ∧ E.writes ≤ t + 1 ∧ IsArea wx ar hb d bb ⟨E, 0, heldB T2, usedB T2⟩ ∧ Hid (wx.heap[tb]? = some (.cells (T2.map Value.bool).toArray 64 (0, 0))) ∧ Hid (wx.heap[ob]? = some (.cells (W2.map (Value.int .i64)).toArray 65 (0, 0))) ∧ Below w.heap.size w wx) (fun i _ _ _ => 8 - (intOf i).toNat)
          case atStart => exact ⟨0, D2, by omega, rfl, HK2, hr0', by omega, hw0', by omega, HA5.out, HT5, HW5, b5⟩
          case round =>
            clear HA5 HT5 HW5 b5 HK2
            obtain ⟨n, E, hn, rfl, HK, hE0, hE1, hE2, hE3, hA, HT, HW, hbel⟩ := hrel
            have HA := Lib.hid hA
            have zr := hbel.size
            clear hA
            by_cases hlt : n < 8
            · go_wp2_with fail
              refine (getB wr ar hb d bb E T2 W2 n hlt HK.out ⟨hE0, by omega⟩ HA.out).mono ?_
              rintro e w6 ⟨s, er, E2, rfl, hor, hK6, hr6, hA6, hm6⟩
              have HA6 := Lib.hid hA6
              have HK6 := Lib.hid hK6
              have HT6 := Lib.hid ((hm6.block tb (lt_of_block HT.out) (by simp; omega)).trans HT.out)
              have HW6 := Lib.hid ((hm6.block ob (lt_of_block HW.out) (by simp; omega)).trans HW.out)
              have b6 : Below w.heap.size w w6 := below_after hbel hm6 zr (by simp; omega)
              have z6 := b6.size
              have cT : w6.cell? ⟨tb, n, none⟩ = some (.bool (T2[n]'(by rw [HK.out.2.1]; exact hlt))) := by
                rw [cell_of_row _ _ _ _ _ _ HT6.out]
                simp [HK.out.2.1, hlt]
              have cW : w6.cell? ⟨ob, n, none⟩ = some (.int .i64 (W2[n]'(by rw [HK.out.2.2.1]; exact hlt))) := by
                rw [cell_of_row _ _ _ _ _ _ HW6.out]
                simp [HK.out.2.2.1, hlt]
              obtain ⟨hq0, hq1, hq2⟩ := hr6
              generalize T2[n]'(by rw [HK.out.2.1]; exact hlt) = bT at cT hor
              generalize W2[n]'(by rw [HK.out.2.2.1]; exact hlt) = vW at cW hor
              clear hA6 hK6 hm6 HA HK HT HW
              rcases hor with ⟨rfl, rfl, hs⟩ | ⟨rfl, rfl, rfl⟩
              · have HS := Lib.hid hs
                clear hs
                go_wp2_with fail
                refine (page_any w6 vW).mono ?_
                rintro e w7 ⟨rfl, hb7⟩
                rw [← HS.out]
                have HA7 := Lib.hid (HA6.out.below hb7 (Nat.le_refl _))
                have HT7 := Lib.hid ((hb7.block tb (lt_of_block HT6.out)).trans HT6.out)
                have HW7 := Lib.hid ((hb7.block ob (lt_of_block HW6.out)).trans HW6.out)
                have b7 := b6.trans (hb7.mono z6)
                clear hb7 HA6 HT6 HW6
                go_wp2_with fail
                go_roundw
                case rel => exact ⟨n + 1, E2, by omega, by go_num, HK6, by omega, by omega, by omega, by omega, HA7.out, HT7, HW7, b7⟩
                case measure => simp [intOf]; omega
              · go_wp2_with fail
                go_roundw
                case rel => exact ⟨n + 1, E2, by omega, by go_num, HK6, by omega, by omega, by omega, by omega, HA6.out, HT6, HW6, b6⟩
                case measure => simp [intOf]; omega
            · go_wp2_with fail
              go_roundw
              case rel => exact ⟨t + 1, E, T2, W2, by omega, by go_num, HK, by omega, by omega, by omega, by omega, HA.out, HT, HW, hbel⟩
              case measure => simp [intOf]; omega
        · have HAL := Lib.hid hall
          clear hall
          go_wp2_with fail
          refine (putB_full w4 ar hb d bb D T p HP.out HAL.out (by rw [HT8.out]; decide) HA4.out).mono ?_
          rintro e w5 ⟨rfl, rfl⟩
          go_wp2_with fail
          obtain ⟨wo, rfl⟩ : ∃ wo : World, wo = w4 := ⟨_, rfl⟩
          go_loopw [12] (fun i wx => ∃ (n : Nat), n ≤ 8 ∧ i = .int .i64 n ∧ wx = wo) (fun i _ => 8 - (intOf i).toNat)
          case atStart => exact ⟨0, by omega, rfl, rfl⟩
          case round =>
            obtain ⟨n, hn, rfl, rfl⟩ := hrel
            by_cases hlt : n < 8
            · have cT : wr.cell? ⟨tb, n, none⟩ = some (.bool true) := by
                rw [cell_of_row _ _ _ _ _ _ HT4.out]
                simp [HT8.out, hlt, HAL.out]
              go_wp2_with fail
              go_roundw
              case rel => exact ⟨n + 1, by omega, by go_num, by trivial⟩
              case measure => simp [intOf]; omega
            · go_wp2_with fail
              go_roundw
              case rel => exact ⟨t + 1, D, T, Wh, by omega, by go_num, HK, by omega, by omega, by omega, by omega, HA4.out, HT4, HW4, b4⟩
              case measure => simp [intOf]; omega
      · have he : bits BinOp.and IntKind.i64 x 1 = 1 := by rw [and1]; omega
        clear hev
        obtain ⟨s, hs, hs8⟩ : ∃ s : Nat, bits BinOp.and IntKind.i64 (x / 2) 7 = (s : Int) ∧ s < 8 := ⟨((x / 2) % 8).toNat, by rw [and7]; omega, by omega⟩
        go_wp2_with fail
        refine (freeB wr ar hb d bb D T s (by rw [HT8.out]; exact hs8) (by rw [HT8.out]; decide) HA.out).mono ?_
        rintro e w5 ⟨er, rfl, hor, hA5, hm5⟩
        have hT5 := (hm5.block tb (lt_of_block HT.out) (by simp; omega)).trans HT.out
        have hW5 := (hm5.block ob (lt_of_block HW.out) (by simp; omega)).trans HW.out
        have cT : w5.cell? ⟨tb, s, none⟩ = some (.bool (T[s]'(by rw [HT8.out]; exact hs8))) := by
          rw [cell_of_row _ _ _ _ _ _ hT5]
          simp [HT8.out, hs8]
        have fT := frozen_of_row w5 tb s _ _ hT5
        have b5 : Below w.heap.size w w5 := below_after hbel hm5 zr (by simp; omega)
        have HA5' := Lib.hid (hA5.mods ((Mods.refl [tb] w5).setCell (p := ⟨tb, s, none⟩) (.inl (by simp)) (.bool false)) (by simp; omega) (by simp; omega) (by simp; omega) (by simp; omega))
        have HT5' : Hid ((w5.setCell ⟨tb, s, none⟩ (.bool false)).heap[tb]? = some (.cells ((T.set s false).map Value.bool).toArray 64 (0, 0))) := Lib.hid (by
          rw [row_setCell hT5, List.map_set])
        have HW5' : Hid ((w5.setCell ⟨tb, s, none⟩ (.bool false)).heap[ob]? = some (.cells (Wh.map (Value.int .i64)).toArray 65 (0, 0))) := Lib.hid (by
          rw [Below.heap_setCell _ _ _ _ hn12]; exact hW5)
        have b5' : Below w.heap.size w (w5.setCell ⟨tb, s, none⟩ (.bool false)) := b5.setCell (p := ⟨tb, s, none⟩) hn10 _
        have HK2 : Hid (KeptAll D (T.set s false) Wh) := Lib.hid (keptAll_free HK.out s)
        have hr0' := hr0
        have hw0' := hw0
        clear hA5 hT5 hW5 hm5 HA HT HW hbel b5
        generalize T[s]'(by rw [HT8.out]; exact hs8) = bT at cT hor
        rcases hor with ⟨rfl, rfl⟩ | ⟨rfl, rfl⟩
        all_goals
          go_wp2_with fail
          obtain ⟨T2, hT2⟩ : ∃ T2, T2 = T.set s false := ⟨_, rfl⟩
          obtain ⟨W2, hW2⟩ : ∃ W2, W2 = Wh := ⟨_, rfl⟩
          rw [← hT2] at HA5' HT5' HK2
          rw [← hW2] at HW5' HK2
          obtain ⟨D2, hD2⟩ : ∃ D2, D2 = D := ⟨_, rfl⟩
          rw [← hD2] at HA5' HK2 hr0' hw0'
          have hr1' : D2.reads ≤ 8 * t := by rw [hD2]; exact hr1
          have hw1' : D2.writes ≤ t + 1 := by rw [hD2]; omega
          have HA5 := HA5'
          have HT5 := HT5'
          have HW5 := HW5'
          have b5 := b5'
          clear HA5' HT5' HW5' b5' hT2 hW2 hD2 cT fT HK
          generalize (w5.setCell ⟨tb, s, none⟩ (.bool false)) = w5 at *

          obtain ⟨wo, rfl⟩ : ∃ wo : World, wo = w5 := ⟨_, rfl⟩
          go_loopw [15, 16, 17] (fun i _ _ wx => ∃ (n : Nat) (E : DM), n ≤ 8 ∧ i = .int .i64 n ∧ Hid (KeptAll E T2 W2) ∧ 0 ≤ E.reads ∧ E.reads ≤ 8 * t + n ∧ 0 ≤ E.writes ∧ E.writes ≤ t + 1 ∧ IsArea wx ar hb d bb ⟨E, 0, heldB T2, usedB T2⟩ ∧ Hid (wx.heap[tb]? = some (.cells (T2.map Value.bool).toArray 64 (0, 0))) ∧ Hid (wx.heap[ob]? = some (.cells (W2.map (Value.int .i64)).toArray 65 (0, 0))) ∧ Below w.heap.size w wx) (fun i _ _ _ => 8 - (intOf i).toNat)
          case atStart => exact ⟨0, D2, by omega, rfl, HK2, hr0', by omega, hw0', by omega, HA5.out, HT5, HW5, b5⟩
          case round =>
            clear HA5 HT5 HW5 b5 HK2
            obtain ⟨n, E, hn, rfl, HK, hE0, hE1, hE2, hE3, hA, HT, HW, hbel⟩ := hrel
            have HA := Lib.hid hA
            have zr := hbel.size
            clear hA
            by_cases hlt : n < 8
            · go_wp2_with fail
              refine (getB wr ar hb d bb E T2 W2 n hlt HK.out ⟨hE0, by omega⟩ HA.out).mono ?_
              rintro e w6 ⟨s, er, E2, rfl, hor, hK6, hr6, hA6, hm6⟩
              have HA6 := Lib.hid hA6
              have HK6 := Lib.hid hK6
              have HT6 := Lib.hid ((hm6.block tb (lt_of_block HT.out) (by simp; omega)).trans HT.out)
              have HW6 := Lib.hid ((hm6.block ob (lt_of_block HW.out) (by simp; omega)).trans HW.out)
              have b6 : Below w.heap.size w w6 := below_after hbel hm6 zr (by simp; omega)
              have z6 := b6.size
              have cT : w6.cell? ⟨tb, n, none⟩ = some (.bool (T2[n]'(by rw [HK.out.2.1]; exact hlt))) := by
                rw [cell_of_row _ _ _ _ _ _ HT6.out]
                simp [HK.out.2.1, hlt]
              have cW : w6.cell? ⟨ob, n, none⟩ = some (.int .i64 (W2[n]'(by rw [HK.out.2.2.1]; exact hlt))) := by
                rw [cell_of_row _ _ _ _ _ _ HW6.out]
                simp [HK.out.2.2.1, hlt]
              obtain ⟨hq0, hq1, hq2⟩ := hr6
              generalize T2[n]'(by rw [HK.out.2.1]; exact hlt) = bT at cT hor
              generalize W2[n]'(by rw [HK.out.2.2.1]; exact hlt) = vW at cW hor
              clear hA6 hK6 hm6 HA HK HT HW
              rcases hor with ⟨rfl, rfl, hs⟩ | ⟨rfl, rfl, rfl⟩
              · have HS := Lib.hid hs
                clear hs
                go_wp2_with fail
                refine (page_any w6 vW).mono ?_
                rintro e w7 ⟨rfl, hb7⟩
                rw [← HS.out]
                have HA7 := Lib.hid (HA6.out.below hb7 (Nat.le_refl _))
                have HT7 := Lib.hid ((hb7.block tb (lt_of_block HT6.out)).trans HT6.out)
                have HW7 := Lib.hid ((hb7.block ob (lt_of_block HW6.out)).trans HW6.out)
                have b7 := b6.trans (hb7.mono z6)
                clear hb7 HA6 HT6 HW6
                go_wp2_with fail
                go_roundw
                case rel => exact ⟨n + 1, E2, by omega, by go_num, HK6, by omega, by omega, by omega, by omega, HA7.out, HT7, HW7, b7⟩
                case measure => simp [intOf]; omega
              · go_wp2_with fail
                go_roundw
                case rel => exact ⟨n + 1, E2, by omega, by go_num, HK6, by omega, by omega, by omega, by omega, HA6.out, HT6, HW6, b6⟩
                case measure => simp [intOf]; omega
            · go_wp2_with fail
              go_roundw
              case rel => exact ⟨t + 1, E, T2, W2, by omega, by go_num, HK, by omega, by omega, by omega, by omega, HA.out, HT, HW, hbel⟩
              case measure => simp [intOf]; omega
    · go_wp2_with fail
      all_goals
        go_ret
        exact ⟨rfl, hbel⟩
end Go.Proofs.Ytbcpnfkjncpdcaa
