/- The Go text of flyleaflaw07.RadixFrom returns true and writes nothing that was there. -/
import Derived.BigQuiet
import Derived.Test.YtacpfkimjaihgaaDoorRSpEq
import Derived.Test.YtacpfkimjaihgaaDoorRClose
import Derived.Test.YtacpfkimjaihgaaDoorFOpen
import Derived.Test.YtacpfkimjaihgaaDoorBits
namespace Go.Proofs.YtacpfkimjaihgaaDoor
open Go.RowKit
set_option linter.unusedVariables false

theorem take_cut {l : List (Nat × Sl)} (h : Rise l) {j A : Nat} (h1 : ∀ k x, l[k]? = some x → (k < j → x.1 < A) ∧ (j ≤ k → A ≤ x.1)) : l.filter (fun x => decide ((A : Int) ≤ (x.1 : Int))) = l.drop j := by
  refine rise_ext (List.Pairwise.filter _ h) (List.Pairwise.drop h) fun x => ?_
  rw [List.mem_filter, decide_eq_true_iff]
  constructor
  · rintro ⟨hm, ha⟩
    obtain ⟨k, hk, rfl⟩ := List.getElem_of_mem hm
    have := h1 k _ (List.getElem?_eq_getElem hk)
    have hj : j ≤ k := Nat.le_of_not_lt fun hl => by have := this.1 hl; omega
    rw [List.mem_iff_getElem?]
    exact ⟨k - j, by rw [List.getElem?_drop, Nat.add_sub_cancel' hj, List.getElem?_eq_getElem hk]⟩
  · intro hm
    obtain ⟨k, hk⟩ := List.mem_iff_getElem?.1 hm
    rw [List.getElem?_drop] at hk
    have := (h1 _ _ hk).2 (by omega)
    exact ⟨List.mem_of_getElem? hk, by omega⟩
theorem from_drop (C : Nat → Option Sl) {j A : Nat} (h1 : ∀ k x, (pages C)[k]? = some x → (k < j → x.1 < A) ∧ (j ≤ k → A ≤ x.1)) : pgL C (A : Int) 4 0 = (pages C).drop j := by
  rw [from_eq]
  exact take_cut (rise_pages C) h1
theorem rise_at {l : List (Nat × Sl)} (h : Rise l) {i j : Nat} {x y : Nat × Sl} (hi : l[i]? = some x) (hj : l[j]? = some y) (hij : i < j) : x.1 < y.1 := by
  obtain ⟨hi', rfl⟩ := List.getElem?_eq_some_iff.1 hi
  obtain ⟨hj', rfl⟩ := List.getElem?_eq_some_iff.1 hj
  exact List.pairwise_iff_getElem.1 h i j hi' hj' hij
theorem drop_cons {l : List (Nat × Sl)} {j : Nat} {x : Nat × Sl} (h : l[j]? = some x) : l.drop j = x :: l.drop (j + 1) := by
  obtain ⟨hi, rfl⟩ := List.getElem?_eq_some_iff.1 h
  exact List.drop_eq_getElem_cons hi
set_option maxRecDepth 100000 in
set_option maxHeartbeats 4000000 in
theorem rfrom_walk (w : World) (hw : Wd w) (a : Option Addr) (len cap : Nat) (hle : len ≤ cap) (hmx : cap ≤ maxLen) (xs : List Int) (hxl : xs.length = len) (hxs : IntsAt w a xs) (f : Int) (hf : (Lit.int IntKind.i64 f).wf = true) :
    Calls Tryd.prog 13 #[.slice a len cap, .int .i64 f] w fun e w' => e = .returned (.bool true) ∧ Below w.heap.size w w' := by
  obtain ⟨K, hK, hK1⟩ : ∃ k : Nat, bits BinOp.and IntKind.i64 f 4095 = (k : Int) ∧ k < 4096 := ⟨(f % 4096).toNat, by rw [and4095]; omega, by omega⟩
  have HW := Lib.hid hw
  have HXS := Lib.hid hxs
  have HXL := Lib.hid hxl
  have hlen : len ≤ 9223372036854775807 := by unfold maxLen at hmx; omega
  have haw := awake07 w hw
  clear hw hxs hxl hmx hf
  go_enter Tryd.func13, Tryd.ntmps13
  go_wp2_with fail
  refine haw.mono ?_
  rintro e w1 ⟨rfl, hb1⟩
  clear haw
  go_wp2_with fail
  refine (new_at hb1 200 (by omega) (by omega)).mono ?_
  rintro e w2 ⟨p, bb, hb, rfl, hA⟩
  go_wp2_with fail
  refine (new_table hA (by decide) (by decide)).mono ?_
  rintro e w3 ⟨t, root, F1, rfl, ht0, hR⟩
  have HR := Lib.hid hR
  clear hR hA hb1 ht0
  go_upto_block 0 with (fail)
  go_cut [8] from 31 to 50 (fun v wx => ∃ (F' : FP) (N' : Nat → Nat → Option Nat) (C' : Nat → Option Sl), Hid (Rst w wx t p bb hb 200 F' root N' C') ∧ Hid (Tight N' C'))
  case first => as_aux_lemma =>
    go_wp2_with fail
    go_loopw [8] (fun i wr => ∃ (j : Nat) (F' : FP) (N' : Nat → Nat → Option Nat) (C' : Nat → Option Sl), j ≤ 20 ∧ i = .int .i64 j ∧ Hid (Rst w wr t p bb hb 200 F' root N' C') ∧ Hid (Tight N' C') ∧ cnt N' ≤ 1 + 3 * j) (fun i _ => 20 - (intOf i).toNat)
    case atStart => exact ⟨0, F1, _, _, by omega, rfl, HR, Lib.hid (tight0 _), by rw [cnt_N0]; omega⟩
    case round =>
      clear HR
      obtain ⟨j, F', N', C', hj, rfl, HRr, HT, hc⟩ := hrel
      by_cases hlt : j < len ∧ j < 20
      · obtain ⟨hl1, hl2⟩ := hlt
        obtain ⟨b, off, rfl, hcell, hlo, hhi⟩ := HXS.out j (by rw [HXL.out]; exact hl1)
        have hb0 := World.block_lt_of_cell? w _ hcell
        simp only at hb0
        have hcw := (HRr.out.tb.at_.below.cell (p := ⟨b, off + j, none⟩) hb0).trans hcell
        obtain ⟨x, hx⟩ : ∃ x, xs[j]'(by rw [HXL.out]; exact hl1) = x := ⟨_, rfl⟩
        rw [hx] at hcw
        obtain ⟨P, hP, hP1⟩ : ∃ k : Nat, bits BinOp.and IntKind.i64 x 4095 = (k : Int) ∧ k < 4096 := ⟨(x % 4096).toNat, by rw [and4095]; omega, by omega⟩
        have hfr := HRr.out.fr
        have hf3 : 3 ≤ frees F'.held := by omega
        have hmay : may ⟨false, false, false, true, (j : Int)⟩ = true := by simp [may]; omega
        clear hx hcell hlo hhi hfr
        go_wp2_with fail
        refine (HRr.out.set_room HW.out HT.out P hP1 ⟨false, false, false, true, (j : Int)⟩ _ rfl hmay hf3).mono ?_
        rintro e w5 ⟨rfl, hm5, F2, N2, hR2, hT2, hc2⟩
        have HR2 := Lib.hid hR2
        have HT2 := Lib.hid hT2
        clear hR2 hT2 hm5
        go_wp2_with fail
        go_roundw
        case rel => exact ⟨j + 1, F2, N2, _, by omega, by go_num, HR2, HT2, by omega⟩
        case measure => simp [intOf]; omega
      · go_wp2_with fail
        all_goals
          go_meet
          exact ⟨F', N', C', HRr, HT⟩
  case rest =>
    clear HR HXS HXL
    obtain ⟨F2, N2, C2, HR, HT⟩ := hcut
    go_wp2_with fail
    refine (all_t HW.out HR.out.tr HR.out.tb).mono ?_
    rintro e w4 ⟨v, rfl, ho, hb4⟩
    obtain ⟨ao, co, hsp⟩ := own_spots ho
    obtain rfl := hsp.val
    have HSP := Lib.hid hsp
    have HR4 := Lib.hid (HR.out.stay hb4)
    have hcap := hsp.cap
    have hlen2 := pgL_len C2 0 4 0
    obtain ⟨Ln, hLn⟩ : ∃ Ln, (pgL C2 0 4 0).length = Ln := ⟨_, rfl⟩
    rw [hLn] at HSP hcap hlen2 ⊢
    have HLn := Lib.hid (show (pages C2).length = Ln from hLn)
    clear hLn hsp ho hb4 HR
    go_wp2_with fail
    go_loopw [10, 11] (fun av iv wr => ∃ (j A : Nat), j ≤ Ln ∧ av = .int .i64 A ∧ iv = .int .i64 j ∧ Hid (∀ k x, (pages C2)[k]? = some x → (k < j → x.1 < A) ∧ (j ≤ k → A ≤ x.1)) ∧ A ≤ 4096 ∧ Hid (Rst w wr t p bb hb 200 F2 root N2 C2) ∧ Hid (SpAt wr wc.heap.size (.slice ao Ln co) (pages C2) ao co)) (fun _ i _ => Ln - (intOf i).toNat)
    case atStart => exact ⟨0, 0, by omega, rfl, rfl, Lib.hid (fun k x _ => ⟨fun h => by omega, fun _ => by omega⟩), by omega, HR4, HSP⟩
    case round =>
      clear HR4 HSP
      obtain ⟨j, A, hj, rfl, rfl, HA, hA4, HRr, HSP⟩ := hrel
      by_cases hlt : j < Ln
      · obtain ⟨x, hx⟩ : ∃ x, (pages C2)[j]? = some x := ⟨_, List.getElem?_eq_getElem (by rw [HLn.out]; exact hlt)⟩
        have hv : firstV (pgL C2 (A : Int) 4 0) = .tuple #[.agg (spotL x).toArray, .bool true] := by
          rw [from_drop C2 HA.out, drop_cons hx]
          rfl
        have hAx := (HA.out j x hx).2 (Nat.le_refl _)
        have hx4 := ((mem_pages C2 x).1 (List.mem_of_getElem? hx)).2
        have HA2 := Lib.hid (show ∀ k y, (pages C2)[k]? = some y → (k < j + 1 → y.1 < x.1 + 1) ∧ (j + 1 ≤ k → x.1 + 1 ≤ y.1) from fun k y hk => ⟨fun h => by
          by_cases e : k = j
          · subst e
            rw [hx] at hk
            cases hk
            omega
          · have := rise_at (rise_pages C2) hk hx (by omega)
            omega, fun h => rise_at (rise_pages C2) hx hk (by omega)⟩)
        have hne := neSp x x
        rw [spEq_iff, decide_eq_true rfl] at hne
        have HSIX := Lib.hid (fun W (h : SpAt W wc.heap.size (.slice ao Ln co) (pages C2) ao co) => h.six j x hx)
        obtain ⟨P, q1, q2, q3, q4, q5⟩ := x
        simp only [spotL, Bool.not_true] at hv hAx hx4 HA2 hne HSIX
        have HV := Lib.hid hv
        have hd : decide ((P : Int) < A) = false := decide_eq_false (by omega)
        clear hx hv
        go_wp2_with fail
        refine (from_t HW.out HRr.out.tr HRr.out.tb A).mono ?_
        rintro e w5 ⟨rfl, hb5⟩
        rw [HV.out]
        have HR5 := Lib.hid ((HRr.out.stay hb5).stay (below1 _ (.cells #[.int .i64 P, .bool q1, .bool q2, .bool q3, .bool q4, .int .i64 q5] 82)))
        have HSP5 := Lib.hid ((HSP.out.below hb5).below (below1 _ (.cells #[.int .i64 P, .bool q1, .bool q2, .bool q3, .bool q4, .int .i64 q5] 82)))
        obtain ⟨g, rfl, g1, g2, g3, g4, g5, g6, g7, g8⟩ := HSIX.out _ HSP5.out
        clear HSP HRr hb5
        have nB := heap_alloc_new w5 (.cells #[.int .i64 P, .bool q1, .bool q2, .bool q3, .bool q4, .int .i64 q5] 82)
        go_wp2_with fail
        generalize w5.alloc (.cells #[.int .i64 P, .bool q1, .bool q2, .bool q3, .bool q4, .int .i64 q5] 82) = W6 at HR5 HSP5 g2 g3 g4 g5 g6 g7 g8 nB ⊢
        generalize w5.heap.size = B at nB ⊢
        have z0 : W6.cell? ⟨B, 0, none⟩ = some (.int .i64 P) := by rw [cell_of_row _ _ _ _ _ _ nB]; rfl
        have z1 : W6.cell? ⟨B, 1, none⟩ = some (.bool q1) := by rw [cell_of_row _ _ _ _ _ _ nB]; rfl
        have z2 : W6.cell? ⟨B, 2, none⟩ = some (.bool q2) := by rw [cell_of_row _ _ _ _ _ _ nB]; rfl
        have z3 : W6.cell? ⟨B, 3, none⟩ = some (.bool q3) := by rw [cell_of_row _ _ _ _ _ _ nB]; rfl
        have z4 : W6.cell? ⟨B, 4, none⟩ = some (.bool q4) := by rw [cell_of_row _ _ _ _ _ _ nB]; rfl
        have z5 : W6.cell? ⟨B, 5, none⟩ = some (.int .i64 q5) := by rw [cell_of_row _ _ _ _ _ _ nB]; rfl
        have HNB := Lib.hid nB
        clear nB HSIX HV
        go_quiet (fail)
        go_wp2_with fail
        refine ⟨⟨j + 1, P + 1, by omega, by simp, by simp, HA2, by omega, Lib.hid (HR5.out.stay ((Below.refl _ _).drewN' _)), Lib.hid (HSP5.out.below ((Below.refl _ _).drewN' _))⟩, by simp [intOf]; omega⟩
      · obtain rfl : j = Ln := by omega
        have hv : firstV (pgL C2 (A : Int) 4 0) = .tuple #[.agg #[.int .i64 0, .bool false, .bool false, .bool false, .bool false, .int .i64 0], .bool false] := by
          rw [from_drop C2 HA.out, List.drop_of_length_le (by rw [HLn.out]; exact Nat.le_refl _)]
          rfl
        have HV := Lib.hid hv
        clear hv
        go_wp2_with fail
        refine (from_t HW.out HRr.out.tr HRr.out.tb A).mono ?_
        rintro e w5 ⟨rfl, hb5⟩
        rw [HV.out]
        have HR5 := Lib.hid ((HRr.out.stay hb5).stay (below1 _ (.cells #[.int .i64 0, .bool false, .bool false, .bool false, .bool false, .int .i64 0] 82)))
        have HSP5 := Lib.hid ((HSP.out.below hb5).below (below1 _ (.cells #[.int .i64 0, .bool false, .bool false, .bool false, .bool false, .int .i64 0] 82)))
        clear HSP HRr hb5 HV HA
        go_wp2_with fail
        refine (from_t HW.out HR5.out.tr HR5.out.tb K).mono ?_
        rintro e w6 ⟨rfl, hb6⟩
        obtain ⟨M, hM⟩ : ∃ M, pgL C2 (K : Int) 4 0 = M := ⟨_, rfl⟩
        have hmem := fun x => mem_from C2 (K : Int) x
        rw [hM] at hmem ⊢
        have HME := Lib.hid hmem
        have HM := Lib.hid hM
        clear hmem hM
        cases M with
        | nil =>
          simp only [firstV, spotL, Sl.zero]
          have HR6 := Lib.hid ((HR5.out.stay hb6).stay (below1 _ (.cells #[.int .i64 0, .bool false, .bool false, .bool false, .bool false, .int .i64 0] 82)))
          have HSP6 := Lib.hid ((HSP5.out.below hb6).below (below1 _ (.cells #[.int .i64 0, .bool false, .bool false, .bool false, .bool false, .int .i64 0] 82)))
          clear HR5 HSP5 hb6
          go_wp2_with fail
          go_loopw [18] (fun iv wr => ∃ (k : Nat), k ≤ j ∧ iv = .int .i64 k ∧ Hid (Rst w wr t p bb hb 200 F2 root N2 C2) ∧ Hid (SpAt wr wc.heap.size (.slice ao j co) (pages C2) ao co)) (fun i _ => j - (intOf i).toNat)
          case atStart => exact ⟨0, by omega, rfl, HR6, HSP6⟩
          case round =>
            clear HR6 HSP6
            obtain ⟨k, hk, rfl, HRr, HSP⟩ := hrel
            by_cases hlt : k < j
            · obtain ⟨x, hx⟩ : ∃ x, (pages C2)[k]? = some x := ⟨_, List.getElem?_eq_getElem (by rw [HLn.out]; exact hlt)⟩
              have hxm := List.mem_of_getElem? hx
              have hPK : (x.1 : Int) < K := Int.not_le.1 fun hle => absurd ((HME.out x).2 ⟨hxm, hle⟩) List.not_mem_nil
              obtain ⟨g, rfl, g1, g2, g3, g4, g5, g6, g7, g8⟩ := HSP.out.six k x hx
              obtain ⟨P, q1, q2, q3, q4, q5⟩ := x
              simp only at g3 g4 g5 g6 g7 g8 hPK
              clear hx hxm
              go_wp2_with fail
              go_roundw
              case rel => exact ⟨k + 1, by omega, by go_num, HRr, HSP⟩
              case measure => simp [intOf]; omega
            · obtain rfl : k = j := by omega
              go_wp2_with fail
              go_ret
              exact ⟨rfl, HRr.out.tb.at_.below⟩
        | cons y M' =>
          have hy := (HME.out y).1 (by simp)
          obtain ⟨ky, hky, hkyx⟩ := List.getElem_of_mem hy.1
          rw [HLn.out] at hky
          have hkyy : (pages C2)[ky]? = some y := by rw [← hkyx]; exact List.getElem?_eq_getElem _
          have HY := Lib.hid (And.intro hkyy hy.2)
          clear hkyx hkyy hy
          obtain ⟨Py, y1, y2, y3, y4, y5⟩ := y
          simp only [firstV, spotL]
          have HR6 := Lib.hid ((HR5.out.stay hb6).stay (below1 _ (.cells #[.int .i64 Py, .bool y1, .bool y2, .bool y3, .bool y4, .int .i64 y5] 82)))
          have HSP6 := Lib.hid ((HSP5.out.below hb6).below (below1 _ (.cells #[.int .i64 Py, .bool y1, .bool y2, .bool y3, .bool y4, .int .i64 y5] 82)))
          have nB := heap_alloc_new w6 (.cells #[.int .i64 Py, .bool y1, .bool y2, .bool y3, .bool y4, .int .i64 y5] 82)
          clear HR5 HSP5 hb6
          go_wp2_with fail
          generalize w6.alloc (.cells #[.int .i64 Py, .bool y1, .bool y2, .bool y3, .bool y4, .int .i64 y5] 82) = W6 at HR6 HSP6 nB ⊢
          generalize w6.heap.size = B at nB ⊢
          go_loopw [18] (fun iv wr => ∃ (k : Nat), k ≤ j ∧ iv = .int .i64 k ∧ Hid (∀ i x, i < k → (pages C2)[i]? = some x → (x.1 : Int) < K) ∧ W6 = wr) (fun i _ => j - (intOf i).toNat)
          case atStart => exact ⟨0, by omega, rfl, Lib.hid (fun i x h => by omega), rfl⟩
          case round =>
            obtain ⟨k, hk, rfl, HB, rfl⟩ := hrel
            by_cases hlt : k < j
            · obtain ⟨x, hx⟩ : ∃ x, (pages C2)[k]? = some x := ⟨_, List.getElem?_eq_getElem (by rw [HLn.out]; exact hlt)⟩
              obtain ⟨g, rfl, g1, g2, g3, g4, g5, g6, g7, g8⟩ := HSP6.out.six k x hx
              by_cases hPK : (x.1 : Int) < K
              · have HB2 := Lib.hid (show ∀ i z, i < k + 1 → (pages C2)[i]? = some z → (z.1 : Int) < K from fun i z hi hz => by
                  by_cases e : i = k
                  · subst e
                    rw [hx] at hz
                    cases hz
                    exact hPK
                  · exact HB.out i z (by omega) hz)
                obtain ⟨P, q1, q2, q3, q4, q5⟩ := x
                simp only at g3 g4 g5 g6 g7 g8 hPK
                clear hx nB
                go_wp2_with fail
                go_roundw
                case rel => exact ⟨k + 1, by omega, by go_num, HB2, trivial⟩
                case measure => simp [intOf]; omega
              · have hM := HM.out
                rw [from_drop C2 (A := K) (j := k) (fun i z hz => ⟨fun hi => by have := HB.out i z hi hz; omega, fun hi => by
                  by_cases e : i = k
                  · subst e
                    rw [hx] at hz
                    cases hz
                    omega
                  · have := rise_at (rise_pages C2) hx hz (by omega)
                    omega⟩), drop_cons hx] at hM
                injection hM with hM _
                have he := eqSp x x
                rw [spEq_iff, decide_eq_true rfl] at he
                subst hM
                simp only [spotL] at g3 g4 g5 g6 g7 g8 hPK he
                have hge : (K : Int) ≤ Py := by omega
                have z0 : W6.cell? ⟨B, 0, none⟩ = some (.int .i64 Py) := by rw [cell_of_row _ _ _ _ _ _ nB]; rfl
                have z1 : W6.cell? ⟨B, 1, none⟩ = some (.bool y1) := by rw [cell_of_row _ _ _ _ _ _ nB]; rfl
                have z2 : W6.cell? ⟨B, 2, none⟩ = some (.bool y2) := by rw [cell_of_row _ _ _ _ _ _ nB]; rfl
                have z3 : W6.cell? ⟨B, 3, none⟩ = some (.bool y3) := by rw [cell_of_row _ _ _ _ _ _ nB]; rfl
                have z4 : W6.cell? ⟨B, 4, none⟩ = some (.bool y4) := by rw [cell_of_row _ _ _ _ _ _ nB]; rfl
                have z5 : W6.cell? ⟨B, 5, none⟩ = some (.int .i64 y5) := by rw [cell_of_row _ _ _ _ _ _ nB]; rfl
                clear hx nB HY hPK
                go_wp2_with fail
                go_quiet (fail)
                go_wp2_with fail
                go_ret
                exact ⟨rfl, HR6.out.tb.at_.below.trans (((Below.refl _ _).drewN' _).mono HR6.out.tb.at_.below.size)⟩
            · obtain rfl : k = j := by omega
              exfalso
              have h1 := HB.out ky _ hky HY.out.1
              have h2 := HY.out.2
              omega
end Go.Proofs.YtacpfkimjaihgaaDoor
