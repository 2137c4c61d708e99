/- The Go text of flyleaflaw06.FramesPlays returns true and writes nothing that was there. -/
import Derived.Test.YtacpfkimjaihgaaDoorFPlaysLib
import Derived.Test.YtacpfkimjaihgaaDoorBits
import Derived.Deep.RegionWith
import Derived.Deep.RegionHeld3
import Derived.Deep.CutBlock
namespace Go.Proofs.YtacpfkimjaihgaaDoor
open Go.RowKit
set_option linter.unusedVariables false
set_option maxRecDepth 100000 in
set_option maxHeartbeats 16000000 in
theorem fplays_walk (w : World) (hw : Wd w) (n : Int) (hnw : (Lit.int IntKind.i64 n).wf = true) (a : Option Addr) (N cap : Nat) (h1 : N ≤ cap) (h2 : cap ≤ maxLen) (L : List Op6) (hl : L.length = N) (hops : Ops6At w a L) :
    Calls Tryd.prog 8 #[.int .i64 n, .slice a N cap] w fun e w' => e = .returned (.bool true) ∧ Below w.heap.size w w' := by
  have HW := Lib.hid hw
  have HL := Lib.hid hl
  have haw := awake06 w hw
  clear hl hw
  by_cases hr : n < 1 ∨ 4096 < n
  · go_enter Tryd.func8, Tryd.ntmps8
    go_wp2_with fail
    refine haw.mono ?_
    rintro e w1 ⟨rfl, hb1⟩
    have HB1 := Lib.hid hb1
    clear haw hb1
    go_wp2_with fail
    refine (new_no w1 n hr).mono ?_
    rintro e w2 ⟨rfl, rfl⟩
    go_wp2_with fail
    refine (rp_new_nil w1 n hr).mono ?_
    rintro e w2 ⟨rfl, rfl⟩
    go_wp2_with fail
    go_ret
    exact ⟨rfl, HB1.out⟩
  · obtain ⟨m, rfl⟩ := Int.eq_ofNat_of_zero_le (show 0 ≤ n by omega)
    have hm1 : 1 ≤ m := by omega
    have hm2 : m ≤ 4096 := by omega
    clear hr
    go_enter Tryd.func8, Tryd.ntmps8
    go_wp2_with fail
    refine haw.mono ?_
    rintro e w1 ⟨rfl, hb1⟩
    clear haw
    go_wp2_with fail
    refine (new_at hb1 m (by omega) (by omega)).mono ?_
    rintro e w2 ⟨p, bb, hb, rfl, hA⟩
    rw [Int.toNat_natCast] at hA
    have HA := Lib.hid hA
    clear hA hb1
    go_wp2_with fail
    refine (d_new w2 m hm1 hm2).mono ?_
    rintro e w3 ⟨r, hq, sb, rfl, e1, e2, e3, hD, hB⟩
    have l0 := HA.out.below.size
    obtain ⟨l1, l2, l3⟩ := HA.out.pool.lt
    have HB : Hid (Both w w3 p bb hb r hq sb (newFP m) (newFP m)) := Lib.hid ⟨HA.out.stay hB, hD, by omega, ⟨by simp; omega, by simp; omega, by simp; omega⟩, ⟨by simp; omega, by simp; omega, by simp; omega⟩⟩
    clear l0 l1 l2 l3 e1 e2 e3 hD hB HA
    go_wp2_with fail
    go_loopw [8] (fun i wx => ∃ (t : Nat) (F : FP), t ≤ 50 ∧ i = .int .i64 t ∧ Hid (Kept F m t) ∧ Hid (Both w wx p bb hb r hq sb F F)) (fun i _ => 50 - (intOf i).toNat)
    case atStart => exact ⟨0, newFP m, by omega, rfl, Lib.hid (kept_new m), HB⟩
    case round => as_aux_lemma =>
      clear HB
      obtain ⟨t, F, ht, rfl, HK, HB⟩ := hrel
      by_cases hlt : t < N ∧ t < 50
      · obtain ⟨hlt, hlt50⟩ := hlt
        obtain ⟨⟨ob0, ob1, ob2⟩, b1, o1, rfl, hc⟩ := hops t (by rw [HL.out]; exact hlt)
        obtain ⟨o, ho⟩ : ∃ o, o = L[t]'(by rw [HL.out]; exact hlt) := ⟨_, rfl⟩
        rw [← ho] at ob0 ob1 ob2 hc
        have c0 := hc 0 _ rfl
        have l1 := World.block_lt_of_cell? w _ c0
        simp only at l1
        have g0 := (HB.out.at_.below.cell (p := ⟨b1, o1 + t * 7 + 0, none⟩) l1).trans c0
        have g1 := (HB.out.at_.below.cell (p := ⟨b1, o1 + t * 7 + 1, none⟩) l1).trans (hc 1 _ rfl)
        have g2 := (HB.out.at_.below.cell (p := ⟨b1, o1 + t * 7 + 2, none⟩) l1).trans (hc 2 _ rfl)
        have g3 := (HB.out.at_.below.cell (p := ⟨b1, o1 + t * 7 + 3, none⟩) l1).trans (hc 3 _ rfl)
        have g4 := (HB.out.at_.below.cell (p := ⟨b1, o1 + t * 7 + 4, none⟩) l1).trans (hc 4 _ rfl)
        have g5 := (HB.out.at_.below.cell (p := ⟨b1, o1 + t * 7 + 5, none⟩) l1).trans (hc 5 _ rfl)
        have g6 := (HB.out.at_.below.cell (p := ⟨b1, o1 + t * 7 + 6, none⟩) l1).trans (hc 6 _ rfl)
        rw [Nat.add_zero] at g0
        clear c0 hc l1 ho hops
        have HBT := Lib.hid (And.intro ob0 ob1)
        have HSZ := Lib.hid ob2
        have hs63 : o.s.size ≤ 9223372036854775807 := by unfold maxLen at ob2; omega
        have HF := Lib.hid (HK.out.few (by omega))
        clear ob0 ob1 ob2
        obtain ⟨q, hqq, hq0, hq1⟩ : ∃ q, bits BinOp.and IntKind.i64 o.kind 7 = q ∧ 0 ≤ q ∧ q ≤ 7 := ⟨_, and7 o.kind, by omega, by omega⟩
        have HQ := Lib.hid (And.intro hqq (And.intro hq0 hq1))
        clear hqq hq0 hq1
        go_upto_if 60 with (fail)
        have HO : Hid (BothB w (wr.alloc (Obj.cells #[Value.int IntKind.i64 o.kind, Value.int IntKind.i64 o.frame, Value.int IntKind.i64 o.at_, Value.int IntKind.i64 o.word, Value.int IntKind.u64 o.bits, Value.string o.s, Value.bool o.short] 58)) p bb hb r hq sb F F wr.heap.size o.cells) := Lib.hid (HB.out.make o.cells)
        generalize (wr.alloc (Obj.cells #[Value.int IntKind.i64 o.kind, Value.int IntKind.i64 o.frame, Value.int IntKind.i64 o.at_, Value.int IntKind.i64 o.word, Value.int IntKind.u64 o.bits, Value.string o.s, Value.bool o.short] 58)) = A at HO ⊢
        generalize wr.heap.size = ob at HO ⊢
        clear HB g0 g1 g2 g3 g4 g5 g6
        go_cut [10] (fun sv wx => ∃ s1 : ByteArray, sv = .string s1 ∧ Hid (s1.size ≤ maxLen) ∧ Hid (BothB w wx p bb hb r hq sb F F ob o.cells))
        case first => as_aux_lemma =>
          by_cases h70 : 70 < o.s.size
          · go_wp2_with fail
            go_meet
            exact ⟨_, rfl, Lib.hid (by simp [ByteArray.size_extract, maxLen]; omega), HO⟩
          · go_wp2_with fail
            go_meet
            exact ⟨_, rfl, HSZ, HO⟩
        case rest => as_aux_lemma =>
          clear HO
          obtain ⟨s1, rfl, HS1, HO⟩ := hcut
          have k6 := HO.out.k6
          obtain ⟨sh, hsh⟩ : ∃ sh, sh = o.short := ⟨_, rfl⟩
          rw [← hsh] at k6
          clear hsh
          go_upto_if 65 with (fail)
          go_cut [10] (fun sv wx => ∃ s1 : ByteArray, sv = .string s1 ∧ Hid (BothB w wx p bb hb r hq sb F F ob o.cells))
          case first => as_aux_lemma =>
            cases sh
            · go_wp2_with fail
              refine (rfill_any _ s1 64 (by decide) (by decide) HS1.out).mono ?_
              rintro e w5 ⟨rfl, hb5⟩
              have HO5 := Lib.hid (HO.out.stay hb5)
              clear hb5
              go_wp2_with fail
              go_meet
              exact ⟨_, rfl, HO5⟩
            · go_wp2_with fail
              go_meet
              exact ⟨_, rfl, HO⟩
          case rest => as_aux_lemma =>
            clear HO HS1 k6
            obtain ⟨s2, rfl, HO⟩ := hcut
            have k0 := HO.out.k0
            have k1 := HO.out.k1
            have k2 := HO.out.k2
            have k3 := HO.out.k3
            have k4 := HO.out.k4
            obtain ⟨hqq, hq0, hq1⟩ := HQ.out
            go_upto_block 2 with (fail)
            clear k0 hqq
            go_cut [11] (fun okv wx => ∃ F' : FP, okv = .bool true ∧ Hid (Kept F' m (t + 1)) ∧ Hid (BothB w wx p bb hb r hq sb F' F' ob o.cells))
            case first =>
              have hcase : q = 0 ∨ q = 1 ∨ q = 2 ∨ q = 3 ∨ q = 4 ∨ q = 5 ∨ q = 6 ∨ q = 7 := by omega
              clear hq0 hq1
              rcases hcase with rfl | rfl | rfl | rfl | rfl | rfl | rfl | rfl
              · as_aux_lemma =>
                go_wp2_with fail
                refine (HO.out.take).mono ?_
                rintro e w5 ⟨rfl, hP⟩
                have HO5 := Lib.hid hP
                have k15 := HO5.out.k1
                have k25 := HO5.out.k2
                have k35 := HO5.out.k3
                clear hP
                go_wp2_with fail
                refine (HO5.out.dtake).mono ?_
                rintro e w6 ⟨rfl, hP⟩
                have HO6 := Lib.hid hP
                clear hP
                go_wp2_with fail
                go_meet
                exact ⟨_, rfl, Lib.hid (HK.out.take), HO6⟩
              · as_aux_lemma =>
                go_upto_region 25 with (fail)
                go_region_held3 (fun w' => w'.cell? ⟨ob, 1, none⟩ = some (.int .i64 o.frame)) (first | exact k1 | exact k15 | exact k16 | go_keep) ((first | (go_at_call 28; refine ((HO.out.drew).hold o.frame HF.out).mono ?_; rintro e w5 ⟨rfl, hP⟩; have HO5 := Lib.hid hP; have k15 := HO5.out.k1; clear hP) | (go_at_call 35; refine (HO5.out.dhold o.frame HF.out).mono ?_; rintro e w6 ⟨rfl, hP⟩; have HO6 := Lib.hid hP; have k16 := HO6.out.k1; clear hP)))
                all_goals
                  go_wp2_with fail
                  go_meet
                  exact ⟨_, rfl, Lib.hid (HK.out.hold _), HO6⟩
              · as_aux_lemma =>
                go_upto_region 27 with (fail)
                go_region_held3 (fun w' => w'.cell? ⟨ob, 1, none⟩ = some (.int .i64 o.frame)) (first | exact k1 | exact k15 | exact k16 | go_keep) ((first | (go_at_call 29; refine ((HO.out.drew).drop o.frame HF.out).mono ?_; rintro e w5 ⟨rfl, hP⟩; have HO5 := Lib.hid hP; have k15 := HO5.out.k1; clear hP) | (go_at_call 35; refine (HO5.out.ddrop o.frame HF.out).mono ?_; rintro e w6 ⟨rfl, hP⟩; have HO6 := Lib.hid hP; have k16 := HO6.out.k1; clear hP)))
                all_goals
                  go_wp2_with fail
                  go_meet
                  exact ⟨_, rfl, Lib.hid (HK.out.drop _), HO6⟩
              · as_aux_lemma =>
                go_wp2_with fail
                refine (HO.out.bytes o.frame).mono ?_
                rintro e w5 ⟨rfl, hP⟩
                have HO5 := Lib.hid hP
                have k15 := HO5.out.k1
                have k25 := HO5.out.k2
                have k35 := HO5.out.k3
                clear hP
                go_wp2_with fail
                refine (HO5.out.dbytes o.frame).mono ?_
                rintro e w6 ⟨rfl, rfl⟩
                go_wp2_with fail
                go_meet
                exact ⟨_, rfl, Lib.hid (HK.out.later), HO5⟩
              · as_aux_lemma =>
                go_upto_region 33 with (fail)
                go_region_held3 (fun w' => w'.cell? ⟨ob, 1, none⟩ = some (.int .i64 o.frame)) (first | exact k1 | exact k15 | exact k16 | go_keep) ((first | (go_at_call 25; refine ((HO.out.drew).fill o.frame s2).mono ?_; rintro e w5 ⟨rfl, hP⟩; have HO5 := Lib.hid hP; have k15 := HO5.out.k1; clear hP) | (go_at_call 37; refine (HO5.out.dfill o.frame s2).mono ?_; rintro e w6 ⟨rfl, hP⟩; have HO6 := Lib.hid hP; have k16 := HO6.out.k1; clear hP)))
                all_goals
                  go_wp2_with fail
                  go_meet
                  exact ⟨_, rfl, Lib.hid (HK.out.fill _ _), HO6⟩
              · as_aux_lemma =>
                go_wp2_with fail
                refine (HO.out.copy o.frame).mono ?_
                rintro e w5 ⟨rfl, hP⟩
                have HO5 := Lib.hid hP
                have k15 := HO5.out.k1
                have k25 := HO5.out.k2
                have k35 := HO5.out.k3
                clear hP
                go_wp2_with fail
                refine (HO5.out.dcopy o.frame).mono ?_
                rintro e w6 ⟨rfl, hP⟩
                have HO6 := Lib.hid hP
                clear hP
                go_wp2_with fail
                go_meet
                exact ⟨_, rfl, Lib.hid (HK.out.copy _), HO6⟩
              · as_aux_lemma =>
                go_wp2_with fail
                refine (HO.out.load HW.out o.frame o.at_ o.word).mono ?_
                rintro e w5 ⟨rfl, hP⟩
                have HO5 := Lib.hid hP
                have k15 := HO5.out.k1
                have k25 := HO5.out.k2
                have k35 := HO5.out.k3
                clear hP
                go_wp2_with fail
                refine (HO5.out.dload o.frame o.at_ o.word).mono ?_
                rintro e w6 ⟨rfl, rfl⟩
                go_wp2_with fail
                go_meet
                exact ⟨_, rfl, Lib.hid (HK.out.later), HO5⟩
              · as_aux_lemma =>
                go_upto_region 19 with (fail)
                go_region_held3 (fun w' => w'.cell? ⟨ob, 1, none⟩ = some (.int .i64 o.frame) ∧ w'.cell? ⟨ob, 2, none⟩ = some (.int .i64 o.at_) ∧ w'.cell? ⟨ob, 3, none⟩ = some (.int .i64 o.word) ∧ w'.cell? ⟨ob, 4, none⟩ = some (.int .u64 o.bits)) (first | exact ⟨k1, k2, k3, k4⟩ | exact ⟨k15, k25, k35, k45⟩ | exact ⟨k16, k26, k36, k46⟩ | go_keep) ((first | (go_at_call 21; refine ((HO.out.drew).store HW.out o.frame o.at_ o.word o.bits HBT.out.1 HBT.out.2).mono ?_; rintro e w5 ⟨rfl, hP⟩; have HO5 := Lib.hid hP; have k15 := HO5.out.k1; have k25 := HO5.out.k2; have k35 := HO5.out.k3; have k45 := HO5.out.k4; clear hP) | (go_at_call 40; refine (HO5.out.dstore o.frame o.at_ o.word o.bits HBT.out.1 HBT.out.2).mono ?_; rintro e w6 ⟨rfl, hP⟩; have HO6 := Lib.hid hP; have k16 := HO6.out.k1; have k26 := HO6.out.k2; have k36 := HO6.out.k3; have k46 := HO6.out.k4; clear hP)))
                all_goals
                  go_wp2_with fail
                  go_meet
                  exact ⟨_, rfl, Lib.hid (HK.out.store _ _ _ _), HO6⟩
            case rest => as_aux_lemma =>
              clear HO HK HF k1 k2 k3 k4
              obtain ⟨F, rfl, HK, HO⟩ := hcut
              have k1 := HO.out.k1
              have d0 := HO.out.both.doc.c0
              rw [HK.out.1] at d0
              have HLN := Lib.hid HK.out.1
              by_cases hs : o.frame < 0 ∨ (m : Int) ≤ o.frame
              · have HHA := Lib.hid (heldAt_out (H := F.held) (s := o.frame) (by rw [HLN.out]; exact hs))
                rcases hs with hs | hs
                · have hd : decide ((0 : Int) ≤ o.frame) = false := by simpa using hs
                  go_wp2_with fail
                  go_quiet (fail)
                  have HOQ := Lib.hid (HO.out.drewN nq)
                  generalize wc.drewN nq = W at HOQ ⊢
                  clear k1 d0 nq
                  have k1 := HOQ.out.k1
                  have d0 := HOQ.out.both.doc.c0
                  rw [HLN.out] at d0
                  go_wp2_with fail
                  have hheld := fun q => (HOQ.out.drewN q).both.at_.held o.frame
                  rw [HHA.out] at hheld
                  have hframes := fun q => (HOQ.out.drewN q).both.at_.frames
                  rw [HLN.out] at hframes
                  go_quiet ((first | (go_at_call 31; exact quiet_left ((HOQ.out.drewN _).both.at_.free)) | (go_at_call 41; exact quiet_left (d_free (HOQ.out.drewN _).both.doc)) | (go_at_call 30; exact quiet_left (hheld _)) | (go_at_call 32; exact quiet_left (hframes _))))
                  clear hheld hframes
                  go_wp2_with fail
                  go_roundw
                  case rel => exact ⟨t + 1, F, by omega, by go_num, HK, Lib.hid (HOQ.out.drewN nq).both⟩
                  case measure => simp [intOf]; omega
                · have hd : decide ((0 : Int) ≤ o.frame) = true := by simp; omega
                  have hd2 : decide (o.frame < (m : Int)) = false := by simp; omega
                  go_wp2_with fail
                  go_quiet (fail)
                  have HOQ := Lib.hid (HO.out.drewN nq)
                  generalize wc.drewN nq = W at HOQ ⊢
                  clear k1 d0 nq
                  have k1 := HOQ.out.k1
                  have d0 := HOQ.out.both.doc.c0
                  rw [HLN.out] at d0
                  go_wp2_with fail
                  have hheld := fun q => (HOQ.out.drewN q).both.at_.held o.frame
                  rw [HHA.out] at hheld
                  have hframes := fun q => (HOQ.out.drewN q).both.at_.frames
                  rw [HLN.out] at hframes
                  go_quiet ((first | (go_at_call 31; exact quiet_left ((HOQ.out.drewN _).both.at_.free)) | (go_at_call 41; exact quiet_left (d_free (HOQ.out.drewN _).both.doc)) | (go_at_call 30; exact quiet_left (hheld _)) | (go_at_call 32; exact quiet_left (hframes _))))
                  clear hheld hframes
                  go_wp2_with fail
                  go_roundw
                  case rel => exact ⟨t + 1, F, by omega, by go_num, HK, Lib.hid (HOQ.out.drewN nq).both⟩
                  case measure => simp [intOf]; omega
              · obtain ⟨k, hk⟩ := Int.eq_ofNat_of_zero_le (show 0 ≤ o.frame by omega)
                have hkm : k < m := by omega
                have hkl : k < F.held.length := by rw [HLN.out]; exact hkm
                have HHA := Lib.hid (heldAt_nat hkl)
                have hdk := HO.out.both.doc.at hkl
                have HDK := Lib.hid (fun W (h : BothB w W p bb hb r hq sb F F ob o.cells) => h.both.doc.at hkl)
                obtain ⟨v, hv⟩ : ∃ v, v = F.held[k] := ⟨_, rfl⟩
                rw [← hv] at HHA hdk HDK
                have HKK := Lib.hid hk
                rw [hk] at k1
                have hd : decide ((0 : Int) ≤ (k : Int)) = true := by simp
                have hd2 : decide (k < m) = true := by simpa using hkm
                clear hs hv hk
                go_wp2_with fail
                go_quiet (fail)
                have HOQ := Lib.hid (HO.out.drewN nq)
                generalize wc.drewN nq = W at HOQ ⊢
                clear k1 d0 nq
                have k1 := HOQ.out.k1
                have d0 := HOQ.out.both.doc.c0
                rw [HLN.out] at d0
                rw [HKK.out] at k1
                have hdk := HDK.out W HOQ.out
                go_wp2_with fail
                go_quiet (fail)
                have HOR := Lib.hid (HOQ.out.drewN nq)
                generalize W.drewN nq = W2 at HOR ⊢
                clear k1 d0 hdk HOQ nq
                have HOQ := HOR
                have k1 := HOQ.out.k1
                rw [HKK.out] at k1
                have d0 := HOQ.out.both.doc.c0
                rw [HLN.out] at d0
                go_wp2_with fail
                have hheld := fun q => (HOQ.out.drewN q).both.at_.held (k : Int)
                rw [HHA.out] at hheld
                have hframes := fun q => (HOQ.out.drewN q).both.at_.frames
                rw [HLN.out] at hframes
                go_quiet ((first | (go_at_call 31; exact quiet_left ((HOQ.out.drewN _).both.at_.free)) | (go_at_call 41; exact quiet_left (d_free (HOQ.out.drewN _).both.doc)) | (go_at_call 30; exact quiet_left (hheld _)) | (go_at_call 32; exact quiet_left (hframes _))))
                clear hheld hframes
                go_wp2_with fail
                go_roundw
                case rel => exact ⟨t + 1, F, by omega, by go_num, HK, Lib.hid (HOQ.out.drewN nq).both⟩
                case measure => simp [intOf]; omega
      · go_wp2_with fail
        all_goals
          go_ret
          exact ⟨rfl, HB.out.at_.below⟩
end Go.Proofs.YtacpfkimjaihgaaDoor
