/- The Go text of flyleaflaw07.RadixLast returns true and writes nothing that was there. -/
import Derived.BigQuiet
import Derived.Deep.DeepCutAuto
import Derived.Deep.CutBlock
import Derived.Test.YtacpfkimjaihgaaDoorRLastLib
import Derived.Test.YtacpfkimjaihgaaDoorRFullWalk
namespace Go.Proofs.YtacpfkimjaihgaaDoor
open Go.RowKit
set_option linter.unusedVariables false

/-- The slice's elements are these bools. -/
def BoolsAt (w : World) (a : Option Addr) (xs : List Bool) : Prop :=
  ∀ i (h : i < xs.length), ∃ b off, a = some ⟨b, off, none⟩ ∧ w.cell? ⟨b, off + i, none⟩ = some (.bool xs[i])
theorem and20 (x : Int) : bits BinOp.and IntKind.i64 x 1048575 = x % 1048576 := and_mask_i64 x 20 (by omega)

theorem slW_may {Y : Int} (h0 : 0 ≤ Y) (h1 : Y ≤ 1048575) : may (slW Y) = true := by
  have h2 : Y ≤ 1048576 := by omega
  unfold may slW
  simp [h0, h2]
section
variable {w0 w : World} {t p bb hb n root : Nat} {F : FP} {N : Nat → Nat → Option Nat} {C : Nat → Option Sl}
/-- Drop of a page that is there; the nodes grow no more. -/
theorem Rst.drop_few (h : Rst w0 w t p bb hb n F root N C) (hw : Wd w0) (hti : Tight N C) (page : Nat) (hp : page < 4096) (q1 q2 q3 q4 : Bool) (q5 : Int) (hC : C page = some ⟨q1, q2, q3, q4, q5⟩) :
    Calls Tryd.prog 54 #[.pointer (some ⟨t, 0, none⟩), .int .i64 page] w fun e w' => e = .returned (.tuple #[.agg #[.bool q1, .bool q2, .bool q3, .bool q4, .int .i64 q5], .int .i64 0]) ∧ Mods [t, p, bb, hb] w w' ∧
      ∃ F' N', Rst w0 w' t p bb hb n F' root N' (updC C page none) ∧ Tight N' (updC C page none) ∧ cnt N' ≤ cnt N := by
  refine (h.drop_some hw hti page hp q1 q2 q3 q4 q5 hC).mono ?_
  rintro e w' ⟨rfl, hm, F', N', hR, hT⟩
  refine ⟨rfl, hm, F', N', hR, hT, ?_⟩
  rw [cnt_nodes hR.tr hT, cnt_nodes h.tr hti]
  exact nodes_drop C page
end

set_option maxRecDepth 100000 in
set_option maxHeartbeats 16000000 in
theorem rlast_walk (w : World) (hw : Wd w) (a : Option Addr) (len cap : Nat) (hle : len ≤ cap) (hmx : cap ≤ maxLen) (rows : List (List Int)) (hrl : rows.length = len) (hrows : ArrsAt .i64 2 w a rows)
    (b : Option Addr) (len2 cap2 : Nat) (hle2 : len2 ≤ cap2) (hmx2 : cap2 ≤ maxLen) (ds : List Bool) (hdl : ds.length = len2) (hds : BoolsAt w b ds) :
    Calls Tryd.prog 14 #[.slice a len cap, .slice b len2 cap2] w fun e w' => e = .returned (.bool true) ∧ Below w.heap.size w w' := by
  have HW := Lib.hid hw
  have HRO := Lib.hid hrows
  have HRL := Lib.hid hrl
  have HDS := Lib.hid hds
  have HDL := Lib.hid hdl
  have hlen : len ≤ 9223372036854775807 ∧ len2 ≤ 9223372036854775807 := by unfold maxLen at hmx hmx2; omega
  obtain ⟨hlen, hlen2⟩ := hlen
  have haw := awake07 w hw
  clear hw hrows hrl hmx hmx2 hds hdl
  go_enter Tryd.func14, Tryd.ntmps14
  go_wp2_with fail
  refine haw.mono ?_
  rintro e w1 ⟨rfl, hb1⟩
  clear haw
  go_wp2_with fail
  refine (new_at hb1 200 (by omega) (by omega)).mono ?_
  rintro e w2 ⟨p, bb, hb, rfl, hA⟩
  go_wp2_with fail
  refine (new_table hA (by decide) (by decide)).mono ?_
  rintro e w3 ⟨t, root, F1, rfl, ht0, hR⟩
  have HR := Lib.hid hR
  clear hR hA hb1 ht0
  obtain ⟨B0, hB0⟩ : ∃ B0, w3.heap.size = B0 := ⟨_, rfl⟩
  have HBA := Lib.hid (show t < B0 ∧ p < B0 ∧ bb < B0 ∧ hb < B0 ∧ w.heap.size ≤ B0 from hB0 ▸ ⟨HR.out.tb.lt, HR.out.tb.lts.1, HR.out.tb.lts.2.1, HR.out.tb.lts.2.2, HR.out.tb.at_.below.size⟩)
  have HB3 := Lib.hid (show B0 ≤ w3.heap.size by omega)
  clear hB0
  go_wp2_with fail
  go_loopw [9, 10, 11] (fun pv wv iv wx => ∃ (j m : Nat) (F' : FP) (N' : Nat → Nat → Option Nat) (C' : Nat → Option Sl) (ap : Option Addr) (cp : Nat) (aw : Option Addr) (cw : Nat) (pl wl : List Int), j ≤ 30 ∧ m ≤ j ∧ pv = .slice ap m cp ∧ wv = .slice aw m cw ∧ iv = .int .i64 j ∧
    Hid (Rst w wx t p bb hb 200 F' root N' C') ∧ Hid (Tight N' C') ∧ cnt N' ≤ 1 + 3 * j ∧ Hid (Two wx B0 ap cp m pl aw cw m wl) ∧ Hid (Wants C' pl wl) ∧ Hid (B0 ≤ wx.heap.size)) (fun _ _ i _ => 30 - (intOf i).toNat)
  case atStart => exact ⟨0, 0, F1, _, _, none, 0, none, 0, [], [], by omega, by omega, rfl, rfl, rfl, HR, Lib.hid (tight0 _), by rw [cnt_N0]; omega, Lib.hid (Two.nil _ _), Lib.hid (wants_nil _), HB3⟩
  case round => as_aux_lemma =>
    clear HR HB3
    obtain ⟨j, m, F', N', C', ap, cp, aw, cw, pl, wl, hj, hmj, rfl, rfl, rfl, HRr, HT, hc, HTW, HWN, HBr⟩ := hrel
    by_cases hlt : j < len ∧ j < 30
    · obtain ⟨hl1, hl2⟩ := hlt
      obtain ⟨hr2, b1, o1, rfl, hcl⟩ := HRO.out j (by rw [HRL.out]; exact hl1)
      have c0 := (hcl 0 (by omega)).1
      have c1 := (hcl 1 (by omega)).1
      rw [Nat.add_zero] at c0
      have l0 := World.block_lt_of_cell? w _ c0
      simp only at l0
      have d0 := (HRr.out.tb.at_.below.cell (p := ⟨b1, o1 + j * 2, none⟩) l0).trans c0
      have d1 := (HRr.out.tb.at_.below.cell (p := ⟨b1, o1 + j * 2 + 1, none⟩) l0).trans c1
      obtain ⟨x, hx⟩ : ∃ x, (rows[j]'(by rw [HRL.out]; exact hl1))[0]'(by omega) = x := ⟨_, rfl⟩
      obtain ⟨y, hy⟩ : ∃ y, (rows[j]'(by rw [HRL.out]; exact hl1))[1]'(by omega) = y := ⟨_, rfl⟩
      rw [hx] at d0
      rw [hy] at d1
      clear hx hy c0 c1 hcl hr2
      obtain ⟨P, hP, hP1⟩ : ∃ k : Nat, bits BinOp.and IntKind.i64 x 4095 = (k : Int) ∧ k < 4096 := ⟨(x % 4096).toNat, by rw [and4095]; omega, by omega⟩
      obtain ⟨Y, hY, hY0, hY1⟩ : ∃ k : Int, bits BinOp.and IntKind.i64 y 1048575 = k ∧ 0 ≤ k ∧ k ≤ 1048575 := ⟨y % 1048576, by rw [and20], by omega, by omega⟩
      have hYb := and1 Y
      have hmay : may (slW Y) = true := slW_may hY0 hY1
      have hfr := HRr.out.fr
      have hf3 : 3 ≤ frees F'.held := by omega
      have HY := Lib.hid (And.intro hY0 hY1)
      clear hfr hY0 hY1
      go_wp2_with fail
      refine (HRr.out.set_room HW.out HT.out P hP1 (slW Y) _ rfl hmay hf3).mono ?_
      rintro e w5 ⟨rfl, hm5, F2, N2, hR2, hT2, hc2⟩
      have HR2 := Lib.hid hR2
      have HT2 := Lib.hid hT2
      have HTW2 := Lib.hid (HTW.out.mods hm5 (by have := HBA.out; simp; omega))
      have HB5 := Lib.hid (Nat.le_trans HBr.out hm5.size)
      have hc5 : cnt N2 ≤ 4 + 3 * j := by omega
      clear hR2 hT2 hm5 HRr HT HTW HBr hc2 hmay hf3 d0 d1 l0 hP hY hc
      go_wp2_with fail
      go_loopw [14, 15] (fun tv iv wx => ∃ i : Nat, i ≤ m ∧ iv = .int .i64 i ∧ tv = .bool ((pl.take i).any (fun z => z == (P : Int))) ∧ Hid (Rst w wx t p bb hb 200 F2 root N2 (updC C' P (some (slW Y)))) ∧ Hid (Two wx B0 ap cp m pl aw cw m (wset pl P Y wl i)) ∧ Hid (B0 ≤ wx.heap.size)) (fun _ i _ => m - (intOf i).toNat)
      case atStart => exact ⟨0, by omega, rfl, rfl, HR2, HTW2, HB5⟩
      case round =>
        clear HR2 HTW2 HB5
        obtain ⟨i, hi, rfl, rfl, HR2, HTW, HBr⟩ := hrel
        by_cases hil : i < m
        · obtain ⟨g1, g2, zx, zy, rfl, rfl, e1, e2, k1, k2, k3, k4, k5, k6, k7, k8, k9, k10⟩ := HTW.out.at_ hil hil
          have hb : B0 ≤ wr.heap.size := HBr.out
          have hws : wset pl P Y wl (i + 1) = if zx = (P : Int) then (wset pl P Y wl i).set i Y else wset pl P Y wl i := by
            rw [wset, e1]
            simp
          have hany : (pl.take (i + 1)).any (fun z => z == (P : Int)) = ((pl.take i).any (fun z => z == (P : Int)) || (zx == (P : Int))) := by
            obtain ⟨h1, h2⟩ := List.getElem?_eq_some_iff.1 e1
            rw [List.take_succ_eq_append_getElem h1, List.any_append, h2]
            simp
          by_cases hz : zx = (P : Int)
          · rw [if_pos hz] at hws
            rw [hz] at k8
            have hany' : true = (pl.take (i + 1)).any (fun z => z == (P : Int)) := by rw [hany, hz]; simp
            have HTW2 := Lib.hid (HTW.out.setw hil Y)
            rw [← hws] at HTW2
            have hba := HBA.out
            have HR3 := Lib.hid (HR2.out.mods (S := [g2]) ((Mods.refl _ _).setCell (p := ⟨g2, i, none⟩) (.inl (by simp)) (.int .i64 Y)) (fun k hk => by
              simp at hk
              subst hk
              refine ⟨by omega, by omega, ?_⟩
              simp
              omega))
            have HB6 := Lib.hid (show B0 ≤ (wr.setCell ⟨g2, i, none⟩ (.int .i64 Y)).heap.size by simpa [World.setCell] using hb)
            have HAN := Lib.hid hany'
            clear hws hany hany' HR2 HTW e1 e2 hba hb HBr hz
            go_wp2_with fail
            go_roundw
            case rel => exact ⟨i + 1, by omega, by go_num, by rw [HAN.out], HR3, HTW2, HB6⟩
            case measure => simp [intOf]; omega
          · rw [if_neg hz] at hws
            have hany' : (pl.take i).any (fun z => z == (P : Int)) = (pl.take (i + 1)).any (fun z => z == (P : Int)) := by rw [hany]; simp [hz]
            have HTW2 := HTW
            rw [← hws] at HTW2
            have HAN := Lib.hid hany'
            clear hws hany hany' HTW e1 e2
            go_wp2_with fail
            go_roundw
            case rel => exact ⟨i + 1, by omega, by go_num, by rw [HAN.out], HR2, HTW2, HBr⟩
            case measure => simp [intOf]; omega
        · obtain rfl : i = m := by omega
          have hl := HTW.out.len
          rw [wset_len] at hl
          have HWS := Lib.hid (wants_set HWN.out P hP1 Y (some (slW Y)) HY.out.2 (fun h => by have := HY.out.1; omega) (fun _ => rfl))
          rw [hl.1] at HWS
          obtain ⟨wl2, hwl2⟩ : ∃ wl2, wset pl P Y wl i = wl2 := ⟨_, rfl⟩
          rw [hwl2] at HWS HTW
          obtain ⟨th, hth⟩ : ∃ th, (pl.take i).any (fun z => z == (P : Int)) = th := ⟨_, rfl⟩
          rw [hth]
          clear hl hwl2 hth
          go_upto_if 83 with (fail)
          go_cut [9, 10] (fun pv wv wx => ∃ (m2 : Nat) (ap2 : Option Addr) (cp2 : Nat) (aw2 : Option Addr) (cw2 : Nat) (pl2 wl3 : List Int), m2 ≤ j + 1 ∧ pv = .slice ap2 m2 cp2 ∧ wv = .slice aw2 m2 cw2 ∧
            Hid (Rst w wx t p bb hb 200 F2 root N2 (updC C' P (some (slW Y)))) ∧ Hid (Two wx B0 ap2 cp2 m2 pl2 aw2 cw2 m2 wl3) ∧ Hid (Wants (updC C' P (some (slW Y))) pl2 wl3) ∧ Hid (B0 ≤ wx.heap.size))
          case first => as_aux_lemma =>
            cases th with
            | true =>
              go_wp2_with fail
              go_meet
              exact ⟨i, ap, cp, aw, cw, pl, wl2, by omega, rfl, rfl, HR2, HTW, HWS, HBr⟩
            | false =>
              go_wp2_with (at_builtin; first
                | (refine app_num rfl _ _ rfl HTW.out.own1 (P : Int) rfl rfl rfl (by omega) HBr.out ?_
                   intro ap2 cp2 w6 h61 h62 h63
                   obtain ⟨h64, S6, h65, h66⟩ := HTW.out.app1 h61 h62 h63
                   have hba := HBA.out
                   have HR6 := Lib.hid (HR2.out.mods h65 (fun k hk => by have := h66 k hk; refine ⟨by omega, by omega, ?_⟩; simp; omega))
                   have HTW6 := Lib.hid h64
                   have HB6 := Lib.hid (Nat.le_trans HBr.out h65.size)
                   clear h61 h62 h63 h64 h65 h66 hba HR2 HTW HBr)
                | (refine app_num rfl _ _ rfl HTW6.out.own2 Y rfl rfl rfl (by omega) HB6.out ?_
                   intro aw2 cw2 w7 h71 h72 h73
                   obtain ⟨h74, S7, h75, h76⟩ := HTW6.out.app2 h71 h72 h73
                   have hba := HBA.out
                   have HR7 := Lib.hid (HR6.out.mods h75 (fun k hk => by have := h76 k hk; refine ⟨by omega, by omega, ?_⟩; simp; omega))
                   have HTW7 := Lib.hid h74
                   have HB7 := Lib.hid (Nat.le_trans HB6.out h75.size)
                   clear h71 h72 h73 h74 h75 h76 hba HR6 HTW6 HB6))
              go_meet
              exact ⟨i + 1, ap2, cp2, aw2, cw2, pl ++ [(P : Int)], wl2 ++ [Y], by omega, by simp, by simp, HR7, HTW7, Lib.hid (wants_snoc HWS.out P hP1 Y HY.out.1 HY.out.2 (by simp [updC])), HB7⟩
          case rest => as_aux_lemma =>
            clear HR2 HTW HBr HWS HWN
            obtain ⟨m2, ap2, cp2, aw2, cw2, pl2, wl3, hm2, rfl, rfl, HR2, HTW, HWN, HBr⟩ := hcut
            obtain ⟨dv, hdv⟩ : ∃ dv : Bool, (decide (j < len2) && ds.getD j false) = dv := ⟨_, rfl⟩
            go_upto_region 25 with (fail)
            go_cut [101] (fun bv wx => bv = .bool dv ∧ wc = wx)
            case first => as_aux_lemma =>
              by_cases hd : j < len2
              · obtain ⟨b2, o2, rfl, hc2⟩ := HDS.out j (by rw [HDL.out]; exact hd)
                have l2 := World.block_lt_of_cell? w _ hc2
                simp only at l2
                have d2 := (HR2.out.tb.at_.below.cell (p := ⟨b2, o2 + j, none⟩) l2).trans hc2
                have e2 : ds[j]'(by rw [HDL.out]; exact hd) = dv := by
                  rw [← hdv]
                  simp [hd, List.getD, HDL.out]
                rw [e2] at d2
                clear hc2 e2 hdv
                go_wp2_with fail
                go_meet
                exact ⟨rfl, rfl⟩
              · have e2 : false = dv := by
                  rw [← hdv]
                  simp [hd]
                subst e2
                clear hdv
                go_wp2_with fail
                go_meet
                exact ⟨rfl, rfl⟩
            case rest => as_aux_lemma =>
              obtain ⟨rfl, rfl⟩ := hcut
              obtain ⟨wo, hwo⟩ : ∃ wo : World, wo = wc := ⟨_, rfl⟩
              have HCP := Lib.hid (show updC C' P (some (slW Y)) P = some ⟨true, Y % 2 == 1, false, false, Y⟩ by simp [updC, slW])
              obtain ⟨C2, hC2⟩ : ∃ C2, updC C' P (some (slW Y)) = C2 := ⟨_, rfl⟩
              rw [hC2] at HR2 HT2 HWN HCP
              clear hwo hC2
              go_upto_if 101 with (fail)
              go_cut [16, 17, 18] (fun v1 v2 v3 wx => ∃ (F3 : FP) (N3 : Nat → Nat → Option Nat) (C3 : Nat → Option Sl) (wl4 : List Int), cnt N3 ≤ 4 + 3 * j ∧ Hid (Rst w wx t p bb hb 200 F3 root N3 C3) ∧ Hid (Tight N3 C3) ∧ Hid (Two wx B0 ap2 cp2 m2 pl2 aw2 cw2 m2 wl4) ∧ Hid (Wants C3 pl2 wl4) ∧ Hid (B0 ≤ wx.heap.size))
              case first => as_aux_lemma =>
                cases dv with
                | false =>
                  go_wp2_with fail
                  go_meet
                  exact ⟨F2, N2, C2, wl3, hc5, HR2, HT2, HTW, HWN, HBr⟩
                | true =>
                  go_wp2_with fail
                  refine (HR2.out.drop_few HW.out HT2.out P hP1 _ _ _ _ _ HCP.out).mono ?_
                  rintro e w6 ⟨rfl, hm6, F3, N3, hR6, hT6, hc6⟩
                  have HR6 := Lib.hid (hR6.stay (below1 _ (.cells #[.bool true, .bool (Y % 2 == 1), .bool false, .bool false, .int .i64 Y] 68)))
                  have HT6 := Lib.hid hT6
                  have HTW6 := Lib.hid ((HTW.out.mods hm6 (by have := HBA.out; simp; omega)).below (below1 _ (.cells #[.bool true, .bool (Y % 2 == 1), .bool false, .bool false, .int .i64 Y] 68)))
                  have HB6 := Lib.hid (show B0 ≤ (w6.alloc (.cells #[.bool true, .bool (Y % 2 == 1), .bool false, .bool false, .int .i64 Y] 68)).heap.size by have := HBr.out; have := hm6.size; simp; omega)
                  have hc7 : cnt N3 ≤ 4 + 3 * j := by omega
                  clear hR6 hT6 hm6 HR2 HT2 HTW HBr hc6 hc5
                  go_wp2_with fail
                  generalize w6.alloc (.cells #[.bool true, .bool (Y % 2 == 1), .bool false, .bool false, .int .i64 Y] 68) = W6 at HR6 HTW6 HB6 ⊢
                  go_loopw [18] (fun iv wx => ∃ i : Nat, i ≤ m2 ∧ iv = .int .i64 i ∧ Hid (Rst w wx t p bb hb 200 F3 root N3 (updC C2 P none)) ∧ Hid (Two wx B0 ap2 cp2 m2 pl2 aw2 cw2 m2 (wset pl2 P (-1) wl3 i)) ∧ Hid (B0 ≤ wx.heap.size)) (fun i _ => m2 - (intOf i).toNat)
                  case atStart => exact ⟨0, by omega, rfl, HR6, HTW6, HB6⟩
                  case round =>
                    clear HR6 HTW6 HB6
                    obtain ⟨i, hi, rfl, HR6, HTW, HBr⟩ := hrel
                    by_cases hil : i < m2
                    · obtain ⟨g1, g2, zx, zy, rfl, rfl, e1, e2, k1, k2, k3, k4, k5, k6, k7, k8, k9, k10⟩ := HTW.out.at_ hil hil
                      have hb : B0 ≤ wr.heap.size := HBr.out
                      have hws : wset pl2 P (-1) wl3 (i + 1) = if zx = (P : Int) then (wset pl2 P (-1) wl3 i).set i (-1) else wset pl2 P (-1) wl3 i := by
                        rw [wset, e1]
                        simp
                      by_cases hz : zx = (P : Int)
                      · rw [if_pos hz] at hws
                        rw [hz] at k8
                        have HTW2 := Lib.hid (HTW.out.setw hil (-1))
                        rw [← hws] at HTW2
                        have hba := HBA.out
                        have HR3 := Lib.hid (HR6.out.mods (S := [g2]) ((Mods.refl _ _).setCell (p := ⟨g2, i, none⟩) (.inl (by simp)) (.int .i64 (-1))) (fun k hk => by
                          simp at hk
                          subst hk
                          refine ⟨by omega, by omega, ?_⟩
                          simp
                          omega))
                        have HB7 := Lib.hid (show B0 ≤ (wr.setCell ⟨g2, i, none⟩ (.int .i64 (-1))).heap.size by simpa [World.setCell] using hb)
                        clear hws HR6 HTW e1 e2 hba hb HBr hz
                        go_wp2_with fail
                        go_roundw
                        case rel => exact ⟨i + 1, by omega, by go_num, HR3, HTW2, HB7⟩
                        case measure => simp [intOf]; omega
                      · rw [if_neg hz] at hws
                        have HTW2 := HTW
                        rw [← hws] at HTW2
                        clear hws HTW e1 e2
                        go_wp2_with fail
                        go_roundw
                        case rel => exact ⟨i + 1, by omega, by go_num, HR6, HTW2, HBr⟩
                        case measure => simp [intOf]; omega
                    · obtain rfl : i = m2 := by omega
                      have hl := HTW.out.len
                      rw [wset_len] at hl
                      have HWS := Lib.hid (wants_set HWN.out P hP1 (-1) none (by omega) (fun _ => rfl) (fun h => by omega))
                      rw [hl.1] at HWS
                      clear hl
                      go_wp2_with fail
                      go_meet
                      exact ⟨F3, N3, _, _, hc7, HR6, HT6, HTW, HWS, HBr⟩
              case rest => as_aux_lemma =>
                clear HR2 HT2 HTW HWN HBr HCP hc5
                obtain ⟨F3, N3, C3, wl4, hc5, HR2, HT2, HTW, HWN, HBr⟩ := hcut
                go_wp2_with fail
                go_loopw [19] (fun iv wx => ∃ i : Nat, i ≤ m2 ∧ iv = .int .i64 i ∧ Hid (Rst w wx t p bb hb 200 F3 root N3 C3) ∧ Hid (Two wx B0 ap2 cp2 m2 pl2 aw2 cw2 m2 wl4) ∧ Hid (B0 ≤ wx.heap.size)) (fun i _ => m2 - (intOf i).toNat)
                case atStart => exact ⟨0, by omega, rfl, HR2, HTW, HBr⟩
                case round =>
                  clear HR2 HTW HBr
                  obtain ⟨i, hi, rfl, HR2, HTW, HBr⟩ := hrel
                  by_cases hil : i < m2
                  · obtain ⟨g1, g2, zx, zy, rfl, rfl, e1, e2, k1, k2, k3, k4, k5, k6, k7, k8, k9, k10⟩ := HTW.out.at_ hil hil
                    obtain ⟨pg, rfl, hp4, hz1, hz2, hz3⟩ := HWN.out.2 i zx zy e1 e2
                    by_cases hz : zy < 0
                    · have HC := Lib.hid (hz2 hz)
                      clear hz2 hz3 e1 e2
                      go_wp2_with fail
                      refine (HR2.out.get_none HW.out pg hp4 HC.out).mono ?_
                      rintro e w6 ⟨rfl, hb6⟩
                      have hb7 := hb6.trans ((below1 w6 (.cells #[.bool false, .bool false, .bool false, .bool false, .int .i64 0] 68)).mono hb6.size)
                      have nB := heap_alloc_new w6 (.cells #[.bool false, .bool false, .bool false, .bool false, .int .i64 0] 68)
                      clear hb6
                      go_wp2_with fail
                      generalize w6.alloc (.cells #[.bool false, .bool false, .bool false, .bool false, .int .i64 0] 68) = W6 at hb7 nB ⊢
                      generalize w6.heap.size = B at nB ⊢
                      have j8 := (hb7.cell (p := ⟨g1, i, none⟩) k5).trans k8
                      have j9 := (hb7.cell (p := ⟨g2, i, none⟩) k6).trans k9
                      have HR6 := Lib.hid (HR2.out.stay hb7)
                      have HTW6 := Lib.hid (HTW.out.below hb7)
                      have HB6 := Lib.hid (Nat.le_trans HBr.out hb7.size)
                      have z1 : W6.cell? ⟨B, 1, none⟩ = some (.bool false) := by rw [cell_of_row _ _ _ _ _ _ nB]; rfl
                      have z4 : W6.cell? ⟨B, 4, none⟩ = some (.int .i64 0) := by rw [cell_of_row _ _ _ _ _ _ nB]; rfl
                      have hd1 : decide (zy < 0) = true := decide_eq_true hz
                      have hd2 : decide (0 ≤ zy) = false := decide_eq_false (by omega)
                      clear nB hb7 HR2 HTW HBr k8 k9 k10 HC
                      go_quiet (fail)
                      go_wp2_with fail
                      refine ⟨⟨i + 1, by omega, by simp, Lib.hid (HR6.out.stay ((Below.refl _ _).drewN' _)), Lib.hid (HTW6.out.below ((Below.refl _ _).drewN' _)), HB6⟩, by simp [intOf]; omega⟩
                    · have HC := Lib.hid (show C3 pg = some ⟨true, zy % 2 == 1, false, false, zy⟩ from hz3 (by omega))
                      have hpar := and1 zy
                      have hge : 0 ≤ zy := by omega
                      clear hz2 hz3 e1 e2
                      go_wp2_with fail
                      refine (HR2.out.get_some HW.out pg hp4 _ _ _ _ _ HC.out).mono ?_
                      rintro e w6 ⟨rfl, hb6⟩
                      have hb7 := hb6.trans ((below1 w6 (.cells #[.bool true, .bool (zy % 2 == 1), .bool false, .bool false, .int .i64 zy] 68)).mono hb6.size)
                      have nB := heap_alloc_new w6 (.cells #[.bool true, .bool (zy % 2 == 1), .bool false, .bool false, .int .i64 zy] 68)
                      clear hb6
                      go_wp2_with fail
                      generalize w6.alloc (.cells #[.bool true, .bool (zy % 2 == 1), .bool false, .bool false, .int .i64 zy] 68) = W6 at hb7 nB ⊢
                      generalize w6.heap.size = B at nB ⊢
                      have j8 := (hb7.cell (p := ⟨g1, i, none⟩) k5).trans k8
                      have j9 := (hb7.cell (p := ⟨g2, i, none⟩) k6).trans k9
                      have HR6 := Lib.hid (HR2.out.stay hb7)
                      have HTW6 := Lib.hid (HTW.out.below hb7)
                      have HB6 := Lib.hid (Nat.le_trans HBr.out hb7.size)
                      have z1 : W6.cell? ⟨B, 1, none⟩ = some (.bool (zy % 2 == 1)) := by rw [cell_of_row _ _ _ _ _ _ nB]; rfl
                      have z4 : W6.cell? ⟨B, 4, none⟩ = some (.int .i64 zy) := by rw [cell_of_row _ _ _ _ _ _ nB]; rfl
                      have hne : ∀ W, (binOp .neq 4 (.bool (zy % 2 == 1)) (.bool (zy % 2 == 1))).run Tryd.prog W = .ok (.bool false) W := fun W => by cases (zy % 2 == 1) <;> rfl
                      have hd1 : decide (zy < 0) = false := decide_eq_false (by omega)
                      have hd2 : decide (0 ≤ zy) = true := decide_eq_true hge
                      clear nB hb7 HR2 HTW HBr k8 k9 k10 HC
                      go_quiet (fail)
                      go_wp2_with fail
                      refine ⟨⟨i + 1, by omega, by simp, Lib.hid (HR6.out.stay ((Below.refl _ _).drewN' _)), Lib.hid (HTW6.out.below ((Below.refl _ _).drewN' _)), HB6⟩, by simp [intOf]; omega⟩
                  · obtain rfl : i = m2 := by omega
                    go_wp2_with fail
                    go_roundw
                    case rel => exact ⟨j + 1, i, F3, N3, C3, _, _, _, _, pl2, wl4, by omega, by omega, rfl, rfl, by go_num, HR2, HT2, by omega, HTW, HWN, HBr⟩
                    case measure => simp [intOf]; omega
    · go_wp2_with fail
      all_goals
        refine (HRr.out.close HW.out HT.out).mono ?_
        rintro e w6 ⟨v, ac, cc, F6, rfl, hsp, hm6, ht6, hA6, hf6⟩
        have HA6 := Lib.hid hA6
        have HF6 := Lib.hid (show (frees F6.held : Int) = 200 by rw [hf6]; rfl)
        clear hsp hm6 ht6 hA6 hf6
        go_wp2_with fail
        refine (HA6.out.free).mono ?_
        rintro e w7 ⟨rfl, rfl⟩
        rw [HF6.out]
        go_wp2_with fail
        go_ret
        exact ⟨rfl, HA6.out.below⟩
end Go.Proofs.YtacpfkimjaihgaaDoor
