/- The Go text of flyleaflaw03.BlockPlays returns true and writes nothing that was there. -/
import Derived.Test.YtbcpnfkjncpdcaaAny
import Derived.Test.YtbcpnfkjncpdcaaPlaysOpen
import Derived.Test.YtbcpnfkjncpdcaaBits
import Derived.Deep.CutBlock
import Derived.Deep.QuietTactic
namespace Go.Proofs.Ytbcpnfkjncpdcaa
open Go.RowKit

theorem quiet_left {P : Program} {f : FuncId} {args : Array Value} {w : World} {n : Nat} {v : Value}
    (h : Calls P f args (w.drewN n) fun e w' => e = .returned v ∧ w.drewN n = w') : Calls P f args (w.drewN n) fun e w'' => e = .returned v ∧ ∃ m, w'' = w.drewN m :=
  h.mono fun _ _ ⟨he, hm⟩ => ⟨he, n, hm.symm⟩

theorem write_pl (w : World) (d bb : Nat) (D : DM) (at_ : Int) (str : ByteArray) (hw : 0 ≤ D.writes ∧ D.writes ≤ 1000000) (h : IsDisk w d bb D) :
    Calls Try.prog 23 #[.pointer (some ⟨d, 0, none⟩), .int .i64 at_, .string str] w fun e w' => ∃ (er : Int) (D2 : DM), Hid (D.wr at_ str = (er, D2)) ∧ e = .returned (.int .i64 er) ∧ IsDisk w' d bb D2 ∧ Mods [d, bb] w w' :=
  (write_any w d bb D at_ str hw h).mono fun _ _ ⟨he, h1, h2⟩ => ⟨_, _, Lib.hid rfl, he, h1, h2⟩
theorem rwrite_pl (w : World) (r rb cap : Nat) (D : DM) (at_ : Int) (str : ByteArray) (er : Int) (D2 : DM) (hq : Hid (D.wr at_ str = (er, D2))) (hw : 0 ≤ D.writes ∧ D.writes ≤ 1000000) (h : IsRef w r rb cap D) :
    Calls Try.prog 29 #[.pointer (some ⟨r, 0, none⟩), .int .i64 at_, .string str] w fun e w' => e = .returned (.int .i64 er) ∧ IsRef w' r rb cap D2 ∧ Mods [r, rb] w w' :=
  (rwrite_any w r rb cap D at_ str hw h).mono fun e w' ⟨he, h1, h2⟩ => by
    have := hq.out
    simp only [this] at he h1
    exact ⟨he, h1, h2⟩
theorem wr_lens {D D2 : DM} {at_ er : Int} {str : ByteArray} (hq : Hid (D.wr at_ str = (er, D2))) : D2.secs.length = D.secs.length ∧ D2.reads = D.reads ∧ D.writes ≤ D2.writes ∧ D2.writes ≤ D.writes + 1 := by
  have := D.wr_len at_ str
  rw [hq.out] at this
  exact this

set_option maxRecDepth 100000 in
set_option maxHeartbeats 2000000 in
theorem plays_walk (w : World) (sec : Int) (_hsec : (Lit.int IntKind.i64 sec).wf = true) (a : Option Addr) (N cap : Nat) (_h1 : N ≤ cap) (_h2 : cap ≤ maxLen) (L : List OpV) (hl : L.length = N) (hops : OpsAt w a L) :
    Calls Try.prog 6 #[.int .i64 sec, .slice a N cap] w fun e w' => e = .returned (.bool true) ∧ Below w.heap.size w w' := by
  have HL := Lib.hid hl
  clear hl
  by_cases hsr : 1 ≤ sec ∧ sec ≤ 16384
  · obtain ⟨hs1, hs2⟩ := hsr
    obtain ⟨n, rfl⟩ := Int.eq_ofNat_of_zero_le (show 0 ≤ sec by omega)
    go_enter Try.func6, Try.ntmps6
    go_wp2_with fail
    refine (awake_any _).mono ?_
    rintro e w1 ⟨rfl, hb1⟩
    go_wp2_with fail
    refine (new_ok _ n hs1 hs2).mono ?_
    rintro e w2 ⟨d, bb, rfl, hd, hbb, hD, hb2⟩
    rw [Int.toNat_natCast] at hD
    have HD := Lib.hid hD
    have z1 := hb1.size
    have b2 : Below w.heap.size w w2 := hb1.trans (hb2.mono z1)
    have z2 := b2.size
    clear hD hb2
    go_wp2_with fail
    refine (rnew_ok _ n hs1 hs2).mono ?_
    rintro e w3 ⟨r, rb, rc, rfl, hr, hrb, hR, hb3⟩
    rw [Int.toNat_natCast] at hR
    have HR := Lib.hid hR
    have HD3 := Lib.hid (HD.out.below hb3 (Nat.le_refl _))
    have b3 : Below w.heap.size w w3 := b2.trans (hb3.mono z2)
    have hne : r ≠ d ∧ r ≠ bb ∧ rb ≠ d ∧ rb ≠ bb := by have := lt_of_block HD.out.head; have := lt_of_block HD.out.row; omega
    obtain ⟨hne1, hne2, hne3, hne4⟩ := hne
    clear hR hb3 HD
    go_wp2_with fail
    go_loopw [8] (fun i wx => ∃ (t : Nat) (D : DM), t ≤ 40 ∧ i = .int .i64 t ∧ D.secs.length = n ∧ 0 ≤ D.reads ∧ D.reads ≤ t ∧ 0 ≤ D.writes ∧ D.writes ≤ t ∧ IsDisk wx d bb D ∧ IsRef wx r rb rc D ∧ Below w.heap.size w wx)
      (fun i _ => 40 - (intOf i).toNat)
    case atStart => exact ⟨0, newDM n, by omega, rfl, by simp [newDM], by simp [newDM], by simp [newDM], by simp [newDM], by simp [newDM], HD3.out, HR.out, b3⟩
    case round =>
      clear HD3 HR b3 b2
      obtain ⟨t, D, ht, rfl, hDn, hr0, hr1, hw0, hw1, hD, hR, hbel⟩ := hrel
      have HD := Lib.hid hD
      have HR := Lib.hid hR
      have HDn := Lib.hid hDn
      have zr := hbel.size
      clear hD hR hDn
      by_cases hlt : t < N ∧ t < 40
      · obtain ⟨hlt, hlt40⟩ := hlt
        obtain ⟨⟨hb0, hb1'⟩, b1, o1, rfl, c0, c1, c2, c3⟩ := hops t (by rw [HL.out]; exact hlt)
        have l1 := World.block_lt_of_cell? w _ c0
        simp only at l1
        have g0 := (hbel.cell (p := ⟨b1, o1 + t * 4, none⟩) l1).trans c0
        have g1 := (hbel.cell (p := ⟨b1, o1 + t * 4 + 1, none⟩) l1).trans c1
        have g2 := (hbel.cell (p := ⟨b1, o1 + t * 4 + 2, none⟩) l1).trans c2
        have g3 := (hbel.cell (p := ⟨b1, o1 + t * 4 + 3, none⟩) l1).trans c3
        obtain ⟨o, ho⟩ : ∃ o, o = L[t]'(by rw [HL.out]; exact hlt) := ⟨_, rfl⟩
        rw [← ho] at hb0 hb1' g0 g1 g2 g3
        clear ho c0 c1 c2 c3 hops
        obtain ⟨q, hq, hq0, hq1⟩ : ∃ q, bits BinOp.and IntKind.i64 o.kind 3 = q ∧ 0 ≤ q ∧ q ≤ 3 := ⟨_, and3 o.kind, by omega, by omega⟩
        go_upto_block 2 with (fail)
        have HDA := Lib.hid (HD.out.below ((Below.refl wr.heap.size wr).alloc (Nat.le_refl _) (Obj.cells #[Value.int IntKind.i64 o.kind, Value.int IntKind.i64 o.at_, Value.int IntKind.u8 o.byte, Value.bool o.short] 49)) (Nat.le_refl _))
        have HRA := Lib.hid (HR.out.below ((Below.refl wr.heap.size wr).alloc (Nat.le_refl _) (Obj.cells #[Value.int IntKind.i64 o.kind, Value.int IntKind.i64 o.at_, Value.int IntKind.u8 o.byte, Value.bool o.short] 49)) (Nat.le_refl _))
        have bA : Below w.heap.size w (wr.alloc (Obj.cells #[Value.int IntKind.i64 o.kind, Value.int IntKind.i64 o.at_, Value.int IntKind.u8 o.byte, Value.bool o.short] 49)) := hbel.alloc zr _
        have kk := heap_alloc_new wr (Obj.cells #[Value.int IntKind.i64 o.kind, Value.int IntKind.i64 o.at_, Value.int IntKind.u8 o.byte, Value.bool o.short] 49)
        have hn1 : wr.heap.size ≠ d ∧ wr.heap.size ≠ bb ∧ wr.heap.size ≠ r ∧ wr.heap.size ≠ rb := by have := lt_of_block HD.out.head; have := lt_of_block HD.out.row; have := HR.out.lt; omega
        clear HD HR hbel
        generalize (wr.alloc (Obj.cells #[Value.int IntKind.i64 o.kind, Value.int IntKind.i64 o.at_, Value.int IntKind.u8 o.byte, Value.bool o.short] 49)) = A at HDA HRA bA kk ⊢
        generalize wr.heap.size = ob at zr kk hn1 ⊢
        have k1 : A.cell? ⟨ob, 1, none⟩ = some (.int .i64 o.at_) := by rw [cell_of_row _ _ _ _ _ _ kk]; rfl
        have k2 : A.cell? ⟨ob, 2, none⟩ = some (.int .u8 o.byte) := by rw [cell_of_row _ _ _ _ _ _ kk]; rfl
        have k3 : A.cell? ⟨ob, 3, none⟩ = some (.bool o.short) := by rw [cell_of_row _ _ _ _ _ _ kk]; rfl
        obtain ⟨hn1, hn2, hn3, hn4⟩ := hn1
        have zA := bA.size
        have lob := lt_of_block kk
        clear kk g0 g1 g2 g3 hq
        have hrr : w.heap.size ≤ d ∧ w.heap.size ≤ bb ∧ w.heap.size ≤ r ∧ w.heap.size ≤ rb := by omega
        obtain ⟨hd', hbb', hr', hrb'⟩ := hrr
        go_cut [10] (fun okv wx => ∃ D' : DM, okv = .bool true ∧ D'.secs.length = n ∧ 0 ≤ D'.reads ∧ D'.reads ≤ t + 1 ∧ 0 ≤ D'.writes ∧ D'.writes ≤ t + 1 ∧ IsDisk wx d bb D' ∧ IsRef wx r rb rc D' ∧ Below w.heap.size w wx)
        case first =>
          by_cases hc0 : q = 0
          · subst hc0
            go_wp2_with fail
            refine (read_any A d bb D o.at_ ⟨hr0, by omega⟩ HDA.out).mono ?_
            rintro e w4 ⟨rfl, hD4, hm4⟩
            have HD4 := Lib.hid hD4
            have HR4 := Lib.hid (HRA.out.mods hm4 (by simp; exact hne1) (by simp; exact hne3))
            have b4 : Below w.heap.size w w4 := below_after bA hm4 zA (by simp; omega)
            have z4 := b4.size
            have k14 := (World.cell?_of_block (w := A) (a := ⟨ob, 1, none⟩) (hm4.block ob lob (by simp; exact hn1))).trans k1
            clear hD4 hm4
            go_wp2_with fail
            refine (rread_any w4 r rb rc D o.at_ ⟨hr0, by omega⟩ HR4.out).mono ?_
            rintro e w5 ⟨rfl, hR5, hm5⟩
            have HR5 := Lib.hid hR5
            have HD5 := Lib.hid (HD4.out.mods hm5 (by simp; omega) (by simp; omega))
            have b5 : Below w.heap.size w w5 := below_after b4 hm5 z4 (by simp; omega)
            have hlen := D.rd_len o.at_
            rw [HDn.out] at hlen
            generalize (D.rd o.at_).1 = s1 at *
            generalize (D.rd o.at_).2.1 = s2 at *
            generalize (D.rd o.at_).2.2 = D2 at *
            have HL5 := Lib.hid hlen
            clear hR5 hm5 hlen
            go_wp2_with fail
            go_meet
            exact ⟨D2, rfl, HL5.out.1, by have := HL5.out; omega, by have := HL5.out; omega, by have := HL5.out; omega, by have := HL5.out; omega, HD5.out, HR5.out, b5⟩
          · by_cases hc3 : q = 3
            · subst hc3
              go_wp2_with fail
              refine (seal_any A d bb D o.at_ HDA.out).mono ?_
              rintro e w4 ⟨rfl, hD4, hm4⟩
              have HD4 := Lib.hid hD4
              have HR4 := Lib.hid (HRA.out.mods hm4 (by simp; exact hne1) (by simp; exact hne3))
              have b4 : Below w.heap.size w w4 := below_after bA hm4 zA (by simp; omega)
              have z4 := b4.size
              have k14 := (World.cell?_of_block (w := A) (a := ⟨ob, 1, none⟩) (hm4.block ob lob (by simp; exact hn1))).trans k1
              clear hD4 hm4
              go_wp2_with fail
              refine (rseal_any w4 r rb rc D o.at_ HR4.out).mono ?_
              rintro e w5 ⟨rfl, hR5, hm5⟩
              have HR5 := Lib.hid hR5
              have HD5 := Lib.hid (HD4.out.mods hm5 (by simp; omega) (by simp; omega))
              have b5 : Below w.heap.size w w5 := below_after b4 hm5 z4 (by simp; omega)
              clear hR5 hm5
              go_wp2_with fail
              go_meet
              exact ⟨⟨D.secs, max D.sealed_ o.at_, D.reads, D.writes⟩, rfl, HDn.out, hr0, by simp only []; omega, hw0, by simp only []; omega, HD5.out, HR5.out, b5⟩
            · have hq12 : (q == 0) = false ∧ (q == 3) = false := by simp [hc0, hc3]
              obtain ⟨hqa, hqb⟩ := hq12
              clear hc0 hc3
              go_wp2_with fail
              refine (sector_any A o.byte hb0 hb1').mono ?_
              rintro e w4 ⟨rfl, hb4⟩
              have HD4 := Lib.hid (HDA.out.below hb4 (Nat.le_refl _))
              have HR4 := Lib.hid (HRA.out.below hb4 (Nat.le_refl _))
              have b4 : Below w.heap.size w w4 := bA.trans (hb4.mono zA)
              have k14 := (hb4.cell (p := ⟨ob, 1, none⟩) lob).trans k1
              have k34 := (hb4.cell (p := ⟨ob, 3, none⟩) lob).trans k3
              have lob4 : ob < w4.heap.size := Nat.lt_of_lt_of_le lob hb4.size
              have hsz : (secB o.byte).size = 64 := by simp [secB, secOf, ByteArray.size]
              clear hb4 k1 k2 k3 HDA HRA bA zA
              generalize secB o.byte = s at *
              go_upto_region 17 with (fail)
              all_goals
                go_region_with (first | (go_at_call 23; go_must (refine (write_pl _ d bb D o.at_ _ ⟨hw0, by omega⟩ (HD4.out.below ((Below.refl _ w4).drew) (Nat.le_refl _))).mono ?_); rintro e w5 ⟨er, D2, HQ, rfl, hD5, hm5⟩; have hm5 : Mods [d, bb] w4 w5 := ⟨hm5.os, hm5.tape, hm5.output, hm5.size, hm5.block⟩; have HD5 := Lib.hid hD5; have HR5 := Lib.hid (HR4.out.mods hm5 (by simp; omega) (by simp; omega)); have b5 : Below w.heap.size w w5 := below_after b4 hm5 b4.size (by simp; omega); have k15 := (World.cell?_of_block (w := w4) (a := ⟨ob, 1, none⟩) (hm5.block ob lob4 (by simp; omega))).trans k14; clear hD5 hm5) | (go_at_call 29; go_must (refine (rwrite_pl _ r rb rc D o.at_ _ er D2 HQ ⟨hw0, by omega⟩ HR5.out).mono ?_); rintro e w6 ⟨rfl, hR6, hm6⟩; have HR6 := Lib.hid hR6; have HD6 := Lib.hid (HD5.out.mods hm6 (by simp; omega) (by simp; omega)); have b6 : Below w.heap.size w w6 := below_after b5 hm6 b5.size (by simp; omega); clear hR6 hm6))
                all_goals
                  go_wp2_with fail
                  go_meet
                  have hl := wr_lens HQ
                  exact ⟨D2, rfl, hl.1.trans HDn.out, by omega, by omega, by omega, by omega, HD6.out, HR6.out, b6⟩
        case rest =>
          clear HDA HRA bA HDn hr0 hr1 hw0 hw1
          obtain ⟨D', rfl, hDn, hr0, hr1, hw0, hw1, hD, hR, hbel⟩ := hcut
          have HD := Lib.hid hD
          have HR := Lib.hid hR
          have HDn := Lib.hid hDn
          clear hD hR hDn
          have d0 := HD.out.c0
          have d2 := HD.out.c2
          have d3 := HD.out.c3
          have r0 := HR.out.c0
          have r2 := HR.out.c2
          have r3 := HR.out.c3
          rw [HDn.out] at d0 r0
          go_wp2_with fail
          go_quiet (first | (go_at_call 20; exact quiet_left (sectors_any _ d n _ _ (by omega) (by assumption))) | (go_at_call 25; exact quiet_left (reads_any _ d _ (by assumption))) | (go_at_call 30; exact quiet_left (writes_any _ d _ (by assumption))))
          go_wp2_with fail
          go_roundw
          case rel => exact ⟨t + 1, D', by omega, by go_num, HDn.out, hr0, by omega, hw0, by omega, HD.out.below (below_drewN (Below.refl _ _) _) (Nat.le_refl _), HR.out.below (below_drewN (Below.refl _ _) _) (Nat.le_refl _), below_drewN hbel _⟩
          case measure => simp [intOf]; omega
      · go_wp2_with fail
        all_goals
          go_ret
          exact ⟨rfl, hbel⟩
  · have hsr' : sec < 1 ∨ 16384 < sec := by omega
    have HS := Lib.hid hsr'
    clear hsr hsr'
    go_enter Try.func6, Try.ntmps6
    go_wp2_with fail
    refine (awake_any _).mono ?_
    rintro e w1 ⟨rfl, hb1⟩
    go_wp2_with fail
    refine (new_no _ sec HS.out).mono ?_
    rintro e w2 ⟨rfl, rfl⟩
    go_wp2_with fail
    refine (rnew_no _ sec HS.out).mono ?_
    rintro e w2 ⟨rfl, rfl⟩
    go_wp2_with fail
    go_ret
    exact ⟨rfl, hb1⟩
end Go.Proofs.Ytbcpnfkjncpdcaa
