/- The Go text of flyleaflaw06.FramesFree returns true and writes nothing that was there. -/
import Derived.Test.YtacpfkimjaihgaaDoorFArr
import Derived.Test.YtacpfkimjaihgaaDoorFOpen
import Derived.Test.YtacpfkimjaihgaaDoorRPool4
import Derived.Test.YtacpfkimjaihgaaDoorBits
import Derived.Deep.RegionWith
import Derived.Deep.CutBlock
namespace Go.Proofs.YtacpfkimjaihgaaDoor
open Go.RowKit
set_option linter.unusedVariables false
set_option maxRecDepth 100000 in
set_option maxHeartbeats 8000000 in
theorem ffree_walk (w : World) (hw : Wd w) (a : Option Addr) (N cap : Nat) (h1 : N ≤ cap) (h2 : cap ≤ maxLen) (xs : List Int) (hl : xs.length = N) (hxs : IntsAt w a xs) :
    Calls Tryd.prog 5 #[.slice a N cap] w fun e w' => e = .returned (.bool true) ∧ Below w.heap.size w w' := by
  have HW := Lib.hid hw
  have HL := Lib.hid hl
  have haw := awake06 w hw
  clear hl hw
  go_enter Tryd.func5, Tryd.ntmps5
  go_wp2_with fail
  refine haw.mono ?_
  rintro e w1 ⟨rfl, hb1⟩
  clear haw
  go_wp2_with fail
  refine (new_at hb1 4 (by decide) (by decide)).mono ?_
  rintro e w2 ⟨p, bb, hb, rfl, hA⟩
  have HA := Lib.hid (AtA.make (show At w w2 p bb hb (newFP 4) from hA) 47 (iv [0, 0, 0, 0]))
  clear hA hb1
  go_wp2_with fail
  rw [show (w2.alloc (Obj.cells (iv [0, 0, 0, 0]).toArray 47)) = w2.alloc (Obj.cells #[.int .i64 0, .int .i64 0, .int .i64 0, .int .i64 0] 47) from rfl] at HA
  generalize w2.alloc (Obj.cells #[.int .i64 0, .int .i64 0, .int .i64 0, .int .i64 0] 47) = w3 at HA ⊢
  generalize w2.heap.size = A at HA ⊢
  go_loopw [6] (fun i wx => ∃ (t : Nat) (F : FP), t ≤ 40 ∧ i = .int .i64 t ∧ Hid (Four F t) ∧ Hid (AtA w wx p bb hb F A 47 (iv F.held))) (fun i _ => 40 - (intOf i).toNat)
  case atStart => exact ⟨0, newFP 4, by omega, rfl, Lib.hid ⟨by decide, by decide, by decide⟩, HA⟩
  case round =>
    clear HA
    obtain ⟨t, F, ht, rfl, H4, HA⟩ := hrel
    by_cases hlt : t < N ∧ t < 40
    · obtain ⟨hlt, hlt40⟩ := hlt
      obtain ⟨b1, o1, rfl, hc, _, _⟩ := hxs t (by rw [HL.out]; exact hlt)
      have g1 := (HA.out.at_.below.cell (p := ⟨b1, o1 + t, none⟩) (World.block_lt_of_cell? w _ hc)).trans hc
      clear hc hxs
      generalize xs[t]'(by rw [HL.out]; exact hlt) = x at g1
      obtain ⟨q, hq, hq0, hq1⟩ : ∃ q, bits BinOp.and IntKind.i64 x 3 = q ∧ 0 ≤ q ∧ q ≤ 3 := ⟨_, and3 x, by omega, by omega⟩
      obtain ⟨k, hk, hk4⟩ : ∃ k : Nat, bits BinOp.and IntKind.i64 (x / 4) 3 = (k : Int) ∧ k < 4 := ⟨(x / 4 % 4).toNat, by rw [and3]; omega, by omega⟩
      go_upto_block 2 with (fail)
      have hlen := H4.out.1
      have ht1 : t + 1 ≤ 40 := by omega
      have hkl : k < F.held.length := by omega
      go_cut [] (fun wx => ∃ F' : FP, Hid (Four F' (t + 1)) ∧ Hid (AtA w wx p bb hb F' A 47 (iv F'.held)))
      case first =>
        by_cases hc0 : q = 0
        · subst hc0
          clear hkl hk hk4
          rcases four_take H4.out with ⟨j, hj, hj4, hz, e1, e2, e3, e4, e5, h6, h7⟩ | ⟨hall, hE⟩
          · have hn3 : bits BinOp.and IntKind.i64 (j : Int) 3 = (j : Int) := by rw [and3]; omega
            have HE := Lib.hid (And.intro e1 (And.intro e2 (And.intro e4 e5)))
            have HH := Lib.hid (And.intro e3 (And.intro h6 h7))
            have HJ := Lib.hid hj
            have HZ := Lib.hid hz
            clear e1 e2 e3 e4 e5 h6 h7 hz hlen
            go_wp2_with fail
            refine (HA.out.take).mono ?_
            rintro e w4 ⟨rfl, hP⟩
            rw [HE.out.1, HE.out.2.1]
            have HP := Lib.hid hP
            clear hP HA
            go_wp2_with fail
            refine (HP.out.load HW.out j 0 4).mono ?_
            rintro e w5 ⟨rfl, hP⟩
            rw [HE.out.2.2.1, HE.out.2.2.2]
            replace HP := Lib.hid hP
            clear hP
            have cj := HP.out.cell (iv_get HJ.out)
            rw [HZ.out] at cj
            have fz := HP.out.free_ j
            go_wp2_with fail
            refine ((HP.out.set j (.int .i64 1)).store HW.out j 0 4 18446744073709551615 (by decide) (by decide)).mono ?_
            rintro e w6 ⟨rfl, hP⟩
            have h8 := HH.out.2.2 18446744073709551615
            rw [iv_set, ← h8.1] at hP
            replace HP := Lib.hid hP
            have H8 := Lib.hid h8.2
            clear hP cj fz h8
            go_wp2_with fail
            go_meet
            exact ⟨_, H8, HP⟩
          · have hE := Lib.hid hE
            have hl0 : 0 < F.held.length := by omega
            have hl1 : 1 < F.held.length := by omega
            have hl2 : 2 < F.held.length := by omega
            have hl3 : 3 < F.held.length := by omega
            have n0 : (F.held[0] == 0) = false := by simp [hall 0 hl0]
            have n1 : (F.held[1] == 0) = false := by simp [hall 1 hl1]
            have n2 : (F.held[2] == 0) = false := by simp [hall 2 hl2]
            have n3 : (F.held[3] == 0) = false := by simp [hall 3 hl3]
            have i0 := iv_get hl0
            have i1 := iv_get hl1
            have i2 := iv_get hl2
            have i3 := iv_get hl3
            generalize F.held[0] = v0 at n0 i0
            generalize F.held[1] = v1 at n1 i1
            generalize F.held[2] = v2 at n2 i2
            generalize F.held[3] = v3 at n3 i3
            have HI := Lib.hid (And.intro i0 (And.intro i1 (And.intro i2 i3)))
            clear hall hl0 hl1 hl2 hl3 i0 i1 i2 i3 hlen
            go_wp2_with fail
            refine (HA.out.take).mono ?_
            rintro e w4 ⟨rfl, hP⟩
            rw [hE.out] at hP ⊢
            have HP := Lib.hid hP
            clear hP HA
            have c0 := HP.out.cell HI.out.1
            have c1 := HP.out.cell HI.out.2.1
            have c2 := HP.out.cell HI.out.2.2.1
            have c3 := HP.out.cell HI.out.2.2.2
            go_wp2_with fail
            go_meet
            exact ⟨_, Lib.hid H4.out.later, HP⟩
        · by_cases hc1 : q = 1
          · subst hc1
            have HB := Lib.hid (H4.out.few (by omega))
            have cj := HA.out.cell (iv_get hkl)
            have hi := iv_get hkl
            rcases four_hold H4.out hkl with ⟨hz, ha, he⟩ | ⟨hz, ha, he, hf⟩
            · rw [hz] at cj hi
              have HE := Lib.hid (And.intro ha (And.intro he hi))
              clear hz ha he hlen hi
              go_upto_region 26 with (fail)
              go_region_with (go_at_call 28; go_must (refine ((HA.out.drew).hold k HB.out).mono ?_); rintro e w5 ⟨rfl, hP⟩; rw [HE.out.1]; rw [HE.out.2.1] at hP; have HP := Lib.hid hP; clear hP; have c5 := HP.out.cell HE.out.2.2)
              all_goals
                go_wp2_with fail
                go_meet
                exact ⟨_, Lib.hid H4.out.later, HP⟩
            · have hv1 : F.held[k] ≤ 40 := by have := H4.out.2.2 _ (List.getElem_mem hkl); omega
              generalize hv : F.held[k] = v at cj hz he hv1 hi
              have HE := Lib.hid (And.intro ha (And.intro he (And.intro hf hi)))
              have hz' : decide (0 < v) = true := by simpa using hz
              clear ha he hf hlen hi hv
              go_upto_region 26 with (fail)
              go_region_with (go_at_call 28; go_must (refine ((HA.out.drew).hold k HB.out).mono ?_); rintro e w5 ⟨rfl, hP⟩; rw [HE.out.1]; have HP := Lib.hid hP; clear hP; have c5 := HP.out.cell HE.out.2.2.2; have f5 := HP.out.free_ k)
              all_goals
                go_wp2_with fail
                go_meet
                have h9 := HP.out.set k (.int .i64 (v + 1))
                rw [iv_set, ← HE.out.2.1] at h9
                exact ⟨_, Lib.hid HE.out.2.2.1, Lib.hid h9⟩
          · have hq2 : (q == 0) = false := by simp [hc0]
            have hq3 : (q == 1) = false := by simp [hc1]
            have HB := Lib.hid (H4.out.few (by omega))
            have cj := HA.out.cell (iv_get hkl)
            have hi := iv_get hkl
            rcases four_drop H4.out hkl with ⟨hz, ha, he⟩ | ⟨hz, ha, he, hf⟩
            · rw [hz] at cj hi
              have HE := Lib.hid (And.intro ha (And.intro he hi))
              clear hz ha he hlen hi
              go_upto_region 11 with (fail)
              go_region_with (go_at_call 29; go_must (refine ((HA.out.drew).drop k HB.out).mono ?_); rintro e w5 ⟨rfl, hP⟩; rw [HE.out.1]; rw [HE.out.2.1] at hP; have HP := Lib.hid hP; clear hP; have c5 := HP.out.cell HE.out.2.2)
              all_goals
                go_wp2_with fail
                go_meet
                exact ⟨_, Lib.hid H4.out.later, HP⟩
            · have hv1 : F.held[k] ≤ 40 := by have := H4.out.2.2 _ (List.getElem_mem hkl); omega
              generalize hv : F.held[k] = v at cj hz he hv1 hi
              have HE := Lib.hid (And.intro ha (And.intro he (And.intro hf hi)))
              have hz' : decide (0 < v) = true := by simpa using hz
              clear ha he hf hlen hi hv
              go_upto_region 11 with (fail)
              go_region_with (go_at_call 29; go_must (refine ((HA.out.drew).drop k HB.out).mono ?_); rintro e w5 ⟨rfl, hP⟩; rw [HE.out.1]; have HP := Lib.hid hP; clear hP; have c5 := HP.out.cell HE.out.2.2.2; have f5 := HP.out.free_ k)
              all_goals
                go_wp2_with fail
                go_meet
                have h9 := HP.out.set k (.int .i64 (v - 1))
                rw [iv_set, ← HE.out.2.1] at h9
                exact ⟨_, Lib.hid HE.out.2.2.1, Lib.hid h9⟩
      case rest =>
        clear HA H4 hkl hk hk4 hlen g1 hq hq0 hq1
        obtain ⟨F, H4, HA⟩ := hcut
        have hlen := H4.out.1
        have HLN := Lib.hid hlen
        go_wp2_with fail
        obtain ⟨wo, rfl⟩ : ∃ wo : World, wo = wr := ⟨_, rfl⟩
        go_loopw [12, 13] (fun c i wx => ∃ (j m : Nat), j ≤ 4 ∧ i = .int .i64 j ∧ c = .int .i64 m ∧ m ≤ j ∧ Hid (m = frees (F.held.take j)) ∧ Hid (AtA w wx p bb hb F A 47 (iv F.held))) (fun _ i _ => 4 - (intOf i).toNat)
        case atStart => exact ⟨0, 0, by omega, rfl, rfl, by omega, Lib.hid rfl, HA⟩
        case round =>
          clear HA hlen
          obtain ⟨j, m, hj, rfl, rfl, hm, HM, HA⟩ := hrel
          by_cases hlj : j < 4
          · have hjl : j < F.held.length := by rw [HLN.out]; exact hlj
            have hs := countP_take_succ hjl (· == 0)
            have HHA := Lib.hid (heldAt_nat hjl)
            have hi := iv_get hjl
            generalize F.held[j] = v at hs HHA hi
            have HI := Lib.hid hi
            have cj := HA.out.cell hi
            have HS := Lib.hid hs
            clear hs hi
            by_cases hv : v = 0
            · subst hv
              go_wp2_with fail
              have hq := fun q => (HA.out.drewN q).at_.held (j : Int)
              rw [HHA.out] at hq
              go_quiet ((go_at_call 30; exact quiet_left (hq _)))
              go_wp2_with fail
              go_roundw
              case rel => exact ⟨j + 1, m + 1, by omega, by go_num, by go_num, by omega, Lib.hid (by rw [frees, HS.out, ← frees, ← HM.out]; simp), Lib.hid (HA.out.drewN _)⟩
              case measure => simp [intOf]; omega
            · have hv' : (v == 0) = false := by simp [hv]
              clear hv
              go_wp2_with fail
              have hq := fun q => (HA.out.drewN q).at_.held (j : Int)
              rw [HHA.out] at hq
              go_quiet ((go_at_call 30; exact quiet_left (hq _)))
              go_wp2_with fail
              go_roundw
              case rel => exact ⟨j + 1, m, by omega, by go_num, rfl, by omega, Lib.hid (by rw [frees, HS.out, ← frees, ← HM.out, hv']; simp), Lib.hid (HA.out.drewN _)⟩
              case measure => simp [intOf]; omega
          · have hj4 : j = 4 := by omega
            have hmf : (frees F.held : Int) = m := by rw [HM.out, hj4, ← HLN.out, List.take_length]
            have HMF := Lib.hid hmf
            clear hmf
            go_wp2_with fail
            refine (HA.out.at_.free).mono ?_
            rintro e w7 ⟨rfl, rfl⟩
            rw [HMF.out]
            go_wp2_with fail
            go_roundw
            case rel => exact ⟨t + 1, F, by omega, by go_num, H4, HA⟩
            case measure => simp [intOf]; omega
    · go_wp2_with fail
      all_goals
        go_ret
        exact ⟨rfl, HA.out.at_.below⟩
end Go.Proofs.YtacpfkimjaihgaaDoor
