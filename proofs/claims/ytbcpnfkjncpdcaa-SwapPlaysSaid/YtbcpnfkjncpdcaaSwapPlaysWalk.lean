/- The Go text of flyleaflaw05.SwapPlays returns true and writes nothing that was there. -/
import Derived.Test.YtbcpnfkjncpdcaaPlaysCalls
import Derived.Test.YtbcpnfkjncpdcaaBits
import Derived.Deep.CutBlock
namespace Go.Proofs.Ytbcpnfkjncpdcaa
open Go.RowKit

theorem heldAt_out {A : SA} {s : Int} (h : s < 0 ∨ (A.held.length : Int) ≤ s) : A.heldAt s = 0 := by rw [SA.heldAt, if_pos h]
theorem heldAt_at {A : SA} {k : Nat} (hk : k < A.held.length) : A.heldAt k = A.held[k] := by
  rw [SA.heldAt, if_neg (by omega), Int.toNat_natCast, List.getD_eq_getElem?_getD, List.getElem?_eq_getElem hk]
  rfl
set_option maxRecDepth 100000 in
set_option maxHeartbeats 12000000 in
theorem swap_plays_walk (w : World) (sl : Int) (_hsl : (Lit.int IntKind.i64 sl).wf = true) (a : Option Addr) (N cap : Nat) (_h1 : N ≤ cap) (_h2 : cap ≤ maxLen) (L : List OpS) (hl : L.length = N) (hops : OpsSAt w a L) :
    Calls Try.prog 13 #[.int .i64 sl, .slice a N cap] w fun e w' => e = .returned (.bool true) ∧ Below w.heap.size w w' := by
  have HL := Lib.hid hl
  clear hl
  obtain ⟨n, hn, hn15⟩ : ∃ k : Nat, bits BinOp.and IntKind.i64 sl 15 = (k : Int) ∧ k ≤ 15 := ⟨(sl % 16).toNat, by rw [and15]; omega, by omega⟩
  go_enter Try.func13, Try.ntmps13
  go_wp2_with fail
  refine (awake5 _).mono ?_
  rintro e w1 ⟨rfl, hb1⟩
  have z1 := hb1.size
  go_wp2_with fail
  refine (new_ok _ 20 (by omega) (by omega)).mono ?_
  rintro e w2 ⟨d, bb, rfl, hd, hbb, hD, hb2⟩
  have HD := Lib.hid hD
  have b2 := hb1.trans (hb2.mono z1)
  have z2 := b2.size
  clear hD hb2
  go_wp2_with fail
  refine (area_new w2 d bb _ 3 n (by omega) (by omega) (by simp [newDM]; omega) HD.out).mono ?_
  rintro e w3 ⟨ar, hb, rfl, ha, hhb, hA3, hb3⟩
  have b3 : Below w.heap.size w w3 := b2.trans (hb3.mono z2)
  have z3 := b3.size
  have HA3 := Lib.hid hA3
  clear hb3 HD hA3
  go_wp2_with fail
  refine (ra_new w3 n (by omega)).mono ?_
  rintro e w4 ⟨r, rh, rs, rfl, hr, hrh, hrs, hR4, hb4⟩
  have HA4 := Lib.hid (HA3.out.below hb4 (Nat.le_refl _))
  have HR4 := Lib.hid hR4
  have b4 : Below w.heap.size w w4 := b3.trans (hb4.mono z3)
  obtain ⟨l1, l2, l3, l4⟩ := HA3.out.lt
  have hdd : w.heap.size ≤ d ∧ w.heap.size ≤ bb ∧ w.heap.size ≤ ar ∧ w.heap.size ≤ hb ∧ w.heap.size ≤ r ∧ w.heap.size ≤ rh ∧ w.heap.size ≤ rs := by omega
  obtain ⟨hd', hbb', har', hhb', hr', hrh', hrs'⟩ := hdd
  have HB : Hid ((∀ i ∈ [ar, hb, d, bb], w.heap.size ≤ i) ∧ ∀ i ∈ [r, rh, rs], w.heap.size ≤ i) := Lib.hid ⟨by simp; exact ⟨har', hhb', hd', hbb'⟩, by simp; exact ⟨hr', hrh', hrs'⟩⟩
  have HM : Hid (r ∉ [ar, hb, d, bb] ∧ rh ∉ [ar, hb, d, bb] ∧ rs ∉ [ar, hb, d, bb]) := Lib.hid ⟨by simp; omega, by simp; omega, by simp; omega⟩
  have HMr : Hid (ar ∉ [r, rh, rs] ∧ hb ∉ [r, rh, rs] ∧ d ∉ [r, rh, rs] ∧ bb ∉ [r, rh, rs]) := Lib.hid ⟨by simp; omega, by simp; omega, by simp; omega, by simp; omega⟩
  clear hd' hbb' har' hhb' hr' hrh' hrs' hR4 hb4 HA3 ha hhb hd hbb hr hrh hrs l1 l2 l3 l4 z2 b2 b3
  go_wp2_with fail
  go_loopw [10] (fun i wx => ∃ (t : Nat) (D : DM) (held : List Int) (S : List ByteArray), t ≤ 50 ∧ i = .int .i64 t ∧ Hid (KeptP D held S n t) ∧ 0 ≤ D.reads ∧ D.reads ≤ t ∧ 0 ≤ D.writes ∧ D.writes ≤ t ∧ IsArea wx ar hb d bb ⟨D, 3, held, usedOf held⟩ ∧ IsRA wx r rh rs held S ∧ Below w.heap.size w wx)
    (fun i _ => 50 - (intOf i).toNat)
  case atStart => exact ⟨0, newDM 20, _, _, by omega, rfl, Lib.hid (keptP_zero n), by simp [newDM], by simp [newDM], by simp [newDM], by simp [newDM], by rw [usedOf_zero]; exact HA4.out, HR4.out, b4⟩
  case round =>
    clear HA4 HR4 b4
    obtain ⟨t, D, held, S, ht, rfl, HK, hr0, hr1, hw0, hw1, hA, hR, hbel⟩ := hrel
    have HA := Lib.hid hA
    have HR := Lib.hid hR
    have zr := hbel.size
    clear hA hR
    by_cases hlt : t < N ∧ t < 50
    · obtain ⟨hlt, hlt50⟩ := hlt
      obtain ⟨b1, o1, rfl, c0, c1, c2, c3⟩ := hops t (by rw [HL.out]; exact hlt)
      have l1 := World.block_lt_of_cell? w _ c0
      simp only at l1
      have g0 := (hbel.cell (p := ⟨b1, o1 + t * 4, none⟩) l1).trans c0
      have g1 := (hbel.cell (p := ⟨b1, o1 + t * 4 + 1, none⟩) l1).trans c1
      have g2 := (hbel.cell (p := ⟨b1, o1 + t * 4 + 2, none⟩) l1).trans c2
      have g3 := (hbel.cell (p := ⟨b1, o1 + t * 4 + 3, none⟩) l1).trans c3
      obtain ⟨o, ho⟩ : ∃ o, o = L[t]'(by rw [HL.out]; exact hlt) := ⟨_, rfl⟩
      rw [← ho] at g0 g1 g2 g3
      clear ho c0 c1 c2 c3 hops
      obtain ⟨q, hq, hq0, hq1⟩ : ∃ q, bits BinOp.and IntKind.i64 o.kind 3 = q ∧ 0 ≤ q ∧ q ≤ 3 := ⟨_, and3 o.kind, by omega, by omega⟩
      go_upto_block 2 with (fail)
      have HAA := Lib.hid (HA.out.below ((Below.refl wr.heap.size wr).alloc (Nat.le_refl _) (Obj.cells #[Value.int IntKind.i64 o.kind, Value.int IntKind.i64 o.n, Value.int IntKind.i64 o.slot, Value.bool o.short] 74)) (Nat.le_refl _))
      have HRA := Lib.hid (HR.out.below ((Below.refl wr.heap.size wr).alloc (Nat.le_refl _) (Obj.cells #[Value.int IntKind.i64 o.kind, Value.int IntKind.i64 o.n, Value.int IntKind.i64 o.slot, Value.bool o.short] 74)) (Nat.le_refl _))
      have bA : Below w.heap.size w (wr.alloc (Obj.cells #[Value.int IntKind.i64 o.kind, Value.int IntKind.i64 o.n, Value.int IntKind.i64 o.slot, Value.bool o.short] 74)) := hbel.alloc zr _
      have kk := heap_alloc_new wr (Obj.cells #[Value.int IntKind.i64 o.kind, Value.int IntKind.i64 o.n, Value.int IntKind.i64 o.slot, Value.bool o.short] 74)
      have HO : Hid (wr.heap.size ∉ [ar, hb, d, bb] ∧ wr.heap.size ∉ [r, rh, rs]) := Lib.hid ⟨by have := HA.out.lt; simp; omega, by have := HR.out.lt; simp; omega⟩
      clear HA HR hbel
      generalize (wr.alloc (Obj.cells #[Value.int IntKind.i64 o.kind, Value.int IntKind.i64 o.n, Value.int IntKind.i64 o.slot, Value.bool o.short] 74)) = A at HAA HRA bA kk ⊢
      generalize wr.heap.size = ob at zr kk HO ⊢
      have k1 : A.cell? ⟨ob, 1, none⟩ = some (.int .i64 o.n) := by rw [cell_of_row _ _ _ _ _ _ kk]; rfl
      have k2 : A.cell? ⟨ob, 2, none⟩ = some (.int .i64 o.slot) := by rw [cell_of_row _ _ _ _ _ _ kk]; rfl
      have k3 : A.cell? ⟨ob, 3, none⟩ = some (.bool o.short) := by rw [cell_of_row _ _ _ _ _ _ kk]; rfl
      have zA := bA.size
      have lob := lt_of_block kk
      clear kk g0 g1 g2 g3 hq
      go_cut [12] (fun okv wx => ∃ (D' : DM) (held' : List Int) (S' : List ByteArray), okv = .bool true ∧ Hid (KeptP D' held' S' n (t + 1)) ∧ 0 ≤ D'.reads ∧ D'.reads ≤ t + 1 ∧ 0 ≤ D'.writes ∧ D'.writes ≤ t + 1 ∧ IsArea wx ar hb d bb ⟨D', 3, held', usedOf held'⟩ ∧ IsRA wx r rh rs held' S' ∧ wx.cell? ⟨ob, 2, none⟩ = some (.int .i64 o.slot) ∧ Below w.heap.size w wx)
      case first =>
        by_cases hc0 : q = 0
        · subst hc0
          go_wp2_with fail
          refine (page_any A o.n).mono ?_
          rintro e w5 ⟨rfl, hb5⟩
          have HA5 := Lib.hid (HAA.out.below hb5 (Nat.le_refl _))
          have HR5 := Lib.hid (HRA.out.below hb5 (Nat.le_refl _))
          have b5 := bA.trans (hb5.mono zA)
          have z5 := b5.size
          have k25 := (hb5.cell (p := ⟨ob, 2, none⟩) lob).trans k2
          have k35 := (hb5.cell (p := ⟨ob, 3, none⟩) lob).trans k3
          have lob5 : ob < w5.heap.size := Nat.lt_of_lt_of_le lob hb5.size
          have hp := pageB_size o.n
          generalize pageB o.n = p at *
          clear hb5 HAA HRA k1 k2 k3 bA zA
          obtain ⟨sh, hsh⟩ : ∃ sh, sh = o.short := ⟨_, rfl⟩
          rw [← hsh] at k35
          clear hsh
          cases sh
          · have HP := Lib.hid hp
            clear hp
            rcases free_cases held with ⟨k, hk, hz, hall⟩ | hall
            · have HZ := Lib.hid (And.intro hz hall)
              have hkn : k < n := by rw [← HK.out.2.1]; exact hk
              clear hz hall
              go_wp2_with fail
              refine (putP w5 ar hb d bb D held S n t p k HP.out hk HZ.out.1 HZ.out.2 HK.out hn15 ⟨hw0, by omega⟩ HA5.out).mono ?_
              rintro e w6 ⟨rfl, hA6, hm6⟩
              have HA6 := Lib.hid hA6
              have HR6 := Lib.hid (HR5.out.mods hm6 HM.out.1 HM.out.2.1 HM.out.2.2)
              have b6 : Below w.heap.size w w6 := below_after b5 hm6 z5 HB.out.1
              have z6 := b6.size
              have k26 := (World.cell?_of_block (w := w5) (a := ⟨ob, 2, none⟩) (hm6.block ob lob5 HO.out.1)).trans k25
              have lob6 : ob < w6.heap.size := Nat.lt_of_lt_of_le lob5 hm6.size
              clear hA6 hm6 HA5 HR5 k25 k35
              go_wp2_with fail
              refine (rput_at w6 r rh rs held S p k HP.out hk HZ.out.1 HZ.out.2 HR6.out).mono ?_
              rintro e w7 ⟨rfl, hR7, hm7⟩
              have HR7 := Lib.hid hR7
              have HA7 := Lib.hid (HA6.out.mods hm7 HMr.out.1 HMr.out.2.1 HMr.out.2.2.1 HMr.out.2.2.2)
              have b7 : Below w.heap.size w w7 := below_after b6 hm7 z6 HB.out.2
              have k27 := (World.cell?_of_block (w := w6) (a := ⟨ob, 2, none⟩) (hm7.block ob lob6 HO.out.2)).trans k26
              have HK2 := Lib.hid (keptP_put HK.out hk (by omega) p (z := 3 + (k : Int)) rfl)
              clear hR7 hm7 HA6 HR6 k26
              go_wp2_with fail
              go_meet
              exact ⟨_, _, _, rfl, HK2, by simp only [DM.put]; omega, by simp only [DM.put]; omega, by simp only [DM.put]; omega, by simp only [DM.put]; omega, HA7.out, HR7.out, k27, b7⟩
            · have HZ := Lib.hid hall
              clear hall
              go_wp2_with fail
              refine (putP_full w5 ar hb d bb D held p HP.out HZ.out HA5.out).mono ?_
              rintro e w6 ⟨rfl, rfl⟩
              go_wp2_with fail
              refine (rput_full w5 r rh rs held S p HP.out HZ.out HR5.out).mono ?_
              rintro e w6 ⟨rfl, rfl⟩
              go_wp2_with fail
              go_meet
              exact ⟨D, held, S, rfl, Lib.hid (keptP_later HK.out), by omega, by omega, by omega, by omega, HA5.out, HR5.out, k25, b5⟩
          · have hp2 : (p.extract 0 63).size ≠ 64 := by simp [ByteArray.size_extract]; omega
            have HP := Lib.hid hp2
            clear hp2
            go_wp2_with fail
            refine (put_bad w5 ar hb d bb _ (p.extract 0 63) HP.out HA5.out).mono ?_
            rintro e w6 ⟨rfl, rfl⟩
            go_wp2_with fail
            refine (rput_bad w5 r (p.extract 0 63) HP.out).mono ?_
            rintro e w6 ⟨rfl, rfl⟩
            go_wp2_with fail
            go_meet
            exact ⟨D, held, S, rfl, Lib.hid (keptP_later HK.out), by omega, by omega, by omega, by omega, HA5.out, HR5.out, k25, b5⟩
        · by_cases hc1 : q = 1
          · subst hc1
            go_wp2_with fail
            refine (getP A ar hb d bb D held S n t o.slot HK.out hn15 ⟨hr0, by omega⟩ HAA.out).mono ?_
            rintro e w5 ⟨E, rfl, hK5, hE, hA5, hm5⟩
            have HK5 := Lib.hid (keptP_later hK5)
            have HA5 := Lib.hid hA5
            have HR5 := Lib.hid (HRA.out.mods hm5 HM.out.1 HM.out.2.1 HM.out.2.2)
            have b5 : Below w.heap.size w w5 := below_after bA hm5 zA HB.out.1
            have z5 := b5.size
            have k25 := (World.cell?_of_block (w := A) (a := ⟨ob, 2, none⟩) (hm5.block ob lob HO.out.1)).trans k2
            obtain ⟨he1, he2, he3⟩ := hE
            clear hK5 hA5 hm5 HAA HRA k1 k2 k3
            have hget := rget_any w5 r rh rs held S o.slot HR5.out
            generalize (if askedOf held o.slot = 0 then S.getD o.slot.toNat ⟨#[]⟩ else ⟨#[]⟩) = sv at *
            generalize askedOf held o.slot = qe at *
            go_wp2_with fail
            refine hget.mono ?_
            rintro e w6 ⟨rfl, rfl⟩
            clear hget
            go_wp2_with fail
            go_meet
            exact ⟨E, held, S, rfl, HK5, by omega, by omega, by omega, by omega, HA5.out, HR5.out, k25, b5⟩
          · by_cases hc2 : q = 2
            · subst hc2
              by_cases hz : askedOf held o.slot = 0
              · obtain ⟨k, hk, hsk, hne⟩ := askedOf_zero hz
                have hr5 := HK.out.2.2.2.2.1 k hk
                have h0k : 0 < held[k] ∧ held[k] ≤ 1000000 := by omega
                have h1k : 0 ≤ held[k] ∧ held[k] ≤ 1000000 := by omega
                have HK2 : Hid (KeptP D (held.set k (held[k] + 1)) S n (t + 1)) := Lib.hid (keptP_set HK.out hk _ hne (by omega))
                have HH := Lib.hid (And.intro h0k (And.intro h1k hne))
                have hsk0 := hsk
                rw [hsk] at k2
                clear hz h0k h1k hr5 hne
                go_upto_region 26 with (fail)
                go_region_with (first | (go_at_call 40; go_must (refine (holdP_ok _ ar hb d bb D held k hk HH.out.1 (HAA.out.below ((Below.refl _ A).drew) (Nat.le_refl _))).mono ?_); rintro e w5 ⟨rfl, hA5, hm5⟩; have hm5 : Mods [ar, hb, d, bb] A w5 := ⟨hm5.os, hm5.tape, hm5.output, hm5.size, hm5.block⟩; have HA5 := Lib.hid hA5; have HR5 := Lib.hid (HRA.out.mods hm5 HM.out.1 HM.out.2.1 HM.out.2.2); have b5 : Below w.heap.size w w5 := below_after bA hm5 zA HB.out.1; have k25 := (World.cell?_of_block (w := A) (a := ⟨ob, 2, none⟩) (hm5.block ob lob HO.out.1)).trans k2; have lob5 : ob < w5.heap.size := Nat.lt_of_lt_of_le lob hm5.size; clear hA5 hm5) | (go_at_call 45; go_must (refine (add_ok _ r rh rs held S k (1) hk HH.out.2.2 HH.out.2.1 (by simp) HR5.out).mono ?_); rintro e w6 ⟨rfl, hR6, hm6⟩; have HR6 := Lib.hid hR6; have HA6 := Lib.hid (HA5.out.mods hm6 HMr.out.1 HMr.out.2.1 HMr.out.2.2.1 HMr.out.2.2.2); have b6 : Below w.heap.size w w6 := below_after b5 hm6 b5.size HB.out.2; have k26 := (World.cell?_of_block (w := w5) (a := ⟨ob, 2, none⟩) (hm6.block ob lob5 HO.out.2)).trans k25; clear hR6 hm6))
                all_goals
                  go_wp2_with fail
                  go_meet
                  exact ⟨D, _, S, rfl, HK2, by omega, by omega, by omega, by omega, HA6.out, HR6.out, by rw [hsk0]; exact k26, b6⟩
              · have HZ := Lib.hid hz
                have hadd := fun W h => add_no W r rh rs held S o.slot (1) HZ.out h
                generalize hq : askedOf held o.slot = qe at hadd
                have HQ := Lib.hid hq
                clear hz hq
                go_upto_region 26 with (fail)
                go_region_with (first | (go_at_call 40; go_must (refine (holdP_no _ ar hb d bb D held o.slot HZ.out (HAA.out.below ((Below.refl _ A).drew) (Nat.le_refl _))).mono ?_); rintro e w5 ⟨he, hm5⟩; rw [HQ.out] at he; subst he; have hm5 : Below A.heap.size A w5 := ⟨hm5.os, hm5.tape, hm5.output, hm5.size, hm5.block⟩; have HA5 := Lib.hid (HAA.out.below hm5 (Nat.le_refl _)); have HR5 := Lib.hid (HRA.out.below hm5 (Nat.le_refl _)); have b5 : Below w.heap.size w w5 := bA.trans (hm5.mono zA); have k25 := (hm5.cell (p := ⟨ob, 2, none⟩) lob).trans k2; clear hm5) | (go_at_call 45; go_must (refine (hadd _ HR5.out).mono ?_); rintro e w6 ⟨rfl, rfl⟩))
                all_goals
                  go_wp2_with fail
                  go_meet
                  exact ⟨D, held, S, rfl, Lib.hid (keptP_later HK.out), by omega, by omega, by omega, by omega, HA5.out, HR5.out, k25, b5⟩
            · obtain rfl : q = 3 := by omega
              by_cases hz : askedOf held o.slot = 0
              · obtain ⟨k, hk, hsk, hne⟩ := askedOf_zero hz
                have hr5 := HK.out.2.2.2.2.1 k hk
                have h0k : 0 < held[k] ∧ held[k] ≤ 1000000 := by omega
                have h1k : 0 ≤ held[k] ∧ held[k] ≤ 1000000 := by omega
                have HK2 : Hid (KeptP D (held.set k (held[k] + -1)) S n (t + 1)) := Lib.hid (keptP_set HK.out hk _ hne (by omega))
                have HH := Lib.hid (And.intro h0k (And.intro h1k hne))
                have hsk0 := hsk
                rw [hsk] at k2
                clear hz h0k h1k hr5 hne
                go_upto_region 13 with (fail)
                go_region_with (first | (go_at_call 37; go_must (refine (freeP_ok _ ar hb d bb D held k hk HH.out.1 (HAA.out.below ((Below.refl _ A).drew) (Nat.le_refl _))).mono ?_); rintro e w5 ⟨rfl, hA5, hm5⟩; have hm5 : Mods [ar, hb, d, bb] A w5 := ⟨hm5.os, hm5.tape, hm5.output, hm5.size, hm5.block⟩; have HA5 := Lib.hid hA5; have HR5 := Lib.hid (HRA.out.mods hm5 HM.out.1 HM.out.2.1 HM.out.2.2); have b5 : Below w.heap.size w w5 := below_after bA hm5 zA HB.out.1; have k25 := (World.cell?_of_block (w := A) (a := ⟨ob, 2, none⟩) (hm5.block ob lob HO.out.1)).trans k2; have lob5 : ob < w5.heap.size := Nat.lt_of_lt_of_le lob hm5.size; clear hA5 hm5) | (go_at_call 45; go_must (refine (add_ok _ r rh rs held S k (-1) hk HH.out.2.2 HH.out.2.1 (by simp) HR5.out).mono ?_); rintro e w6 ⟨rfl, hR6, hm6⟩; have HR6 := Lib.hid hR6; have HA6 := Lib.hid (HA5.out.mods hm6 HMr.out.1 HMr.out.2.1 HMr.out.2.2.1 HMr.out.2.2.2); have b6 : Below w.heap.size w w6 := below_after b5 hm6 b5.size HB.out.2; have k26 := (World.cell?_of_block (w := w5) (a := ⟨ob, 2, none⟩) (hm6.block ob lob5 HO.out.2)).trans k25; clear hR6 hm6))
                all_goals
                  go_wp2_with fail
                  go_meet
                  exact ⟨D, _, S, rfl, HK2, by omega, by omega, by omega, by omega, HA6.out, HR6.out, by rw [hsk0]; exact k26, b6⟩
              · have HZ := Lib.hid hz
                have hadd := fun W h => add_no W r rh rs held S o.slot (-1) HZ.out h
                generalize hq : askedOf held o.slot = qe at hadd
                have HQ := Lib.hid hq
                clear hz hq
                go_upto_region 13 with (fail)
                go_region_with (first | (go_at_call 37; go_must (refine (freeP_no _ ar hb d bb D held o.slot HZ.out (HAA.out.below ((Below.refl _ A).drew) (Nat.le_refl _))).mono ?_); rintro e w5 ⟨he, hm5⟩; rw [HQ.out] at he; subst he; have hm5 : Below A.heap.size A w5 := ⟨hm5.os, hm5.tape, hm5.output, hm5.size, hm5.block⟩; have HA5 := Lib.hid (HAA.out.below hm5 (Nat.le_refl _)); have HR5 := Lib.hid (HRA.out.below hm5 (Nat.le_refl _)); have b5 : Below w.heap.size w w5 := bA.trans (hm5.mono zA); have k25 := (hm5.cell (p := ⟨ob, 2, none⟩) lob).trans k2; clear hm5) | (go_at_call 45; go_must (refine (hadd _ HR5.out).mono ?_); rintro e w6 ⟨rfl, rfl⟩))
                all_goals
                  go_wp2_with fail
                  go_meet
                  exact ⟨D, held, S, rfl, Lib.hid (keptP_later HK.out), by omega, by omega, by omega, by omega, HA5.out, HR5.out, k25, b5⟩
      case rest =>
        clear HAA HRA bA HK k1 k2 k3 lob zA
        obtain ⟨D', held', S', rfl, HK, hr0, hr1, hw0, hw1, hA, hR, k2, hbel⟩ := hcut
        have HA := Lib.hid hA
        have HR := Lib.hid hR
        have hlen := HK.out.2.1
        have HLN := Lib.hid hlen
        clear hA hR
        by_cases hs : o.slot < 0 ∨ (n : Int) ≤ o.slot
        · have hha : (SA.mk D' 3 held' (usedOf held')).heldAt o.slot = 0 := heldAt_out (by rw [HLN.out]; exact hs)
          have HHA := Lib.hid hha
          clear hha hlen
          rcases hs with hs | hs
          all_goals
            go_wp2_with fail
            refine (used_any _ ar hb d bb _ HA.out).mono ?_
            rintro e w7 ⟨rfl, rfl⟩
            rw [show (SA.mk D' 3 held' (usedOf held')).used = usedOf held' from rfl]
            go_wp2_with fail
            refine (rused_any _ r rh rs held' S' HR.out).mono ?_
            rintro e w7 ⟨rfl, rfl⟩
            go_wp2_with fail
            refine (held_any _ ar hb d bb _ o.slot HA.out).mono ?_
            rintro e w7 ⟨rfl, rfl⟩
            rw [HHA.out]
            go_wp2_with fail
            refine (slots_any _ ar hb d bb _ HA.out).mono ?_
            rintro e w7 ⟨rfl, rfl⟩
            rw [show (SA.mk D' 3 held' (usedOf held')).held.length = n from HLN.out]
            go_wp2_with fail
            go_roundw
            case rel => exact ⟨t + 1, D', held', S', by omega, by go_num, HK, by omega, by omega, by omega, by omega, HA.out, HR.out, hbel⟩
            case measure => simp [intOf]; omega
        · obtain ⟨k, hsk⟩ := Int.eq_ofNat_of_zero_le (show 0 ≤ o.slot by omega)
          have hkn : k < n := by omega
          have hk : k < held'.length := by rw [HLN.out]; exact hkn
          rw [hsk] at k2
          have hha : (SA.mk D' 3 held' (usedOf held')).heldAt k = held'[k] := heldAt_at hk
          have r0 := HR.out.c0
          rw [HLN.out] at r0
          have rk := HR.out.at hk
          generalize held'[k] = v at rk hha
          have HHA := Lib.hid hha
          clear hha hlen hs
          go_wp2_with fail
          go_quiet (fail)
          have HAQ := fun q => HA.out.below (below_drewN (Below.refl _ _) q) (Nat.le_refl _)
          have HRQ := fun q => HR.out.below (below_drewN (Below.refl _ _) q) (Nat.le_refl _)
          go_wp2_with fail
          refine (used_any _ ar hb d bb _ (HAQ _)).mono ?_
          rintro e w7 ⟨rfl, rfl⟩
          rw [show (SA.mk D' 3 held' (usedOf held')).used = usedOf held' from rfl]
          go_wp2_with fail
          refine (rused_any _ r rh rs held' S' (HRQ _)).mono ?_
          rintro e w7 ⟨rfl, rfl⟩
          go_wp2_with fail
          refine (held_any _ ar hb d bb _ k (HAQ _)).mono ?_
          rintro e w7 ⟨rfl, rfl⟩
          rw [HHA.out]
          go_wp2_with fail
          refine (slots_any _ ar hb d bb _ (HAQ _)).mono ?_
          rintro e w7 ⟨rfl, rfl⟩
          rw [show (SA.mk D' 3 held' (usedOf held')).held.length = n from HLN.out]
          go_wp2_with fail
          go_roundw
          case rel => exact ⟨t + 1, D', held', S', by omega, by go_num, HK, by omega, by omega, by omega, by omega, HAQ _, HRQ _, below_drewN hbel _⟩
          case measure => simp [intOf]; omega
    · go_wp2_with fail
      all_goals
        go_ret
        exact ⟨rfl, hbel⟩
end Go.Proofs.Ytbcpnfkjncpdcaa
