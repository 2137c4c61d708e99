/- The Go text of flyleaflaw07.RadixFull returns true and writes nothing that was there. -/
import Derived.BigQuiet
import Derived.Test.YtacpfkimjaihgaaDoorRSame
import Derived.Test.YtacpfkimjaihgaaDoorFOpen
import Derived.Test.YtacpfkimjaihgaaDoorBits
namespace Go.Proofs.YtacpfkimjaihgaaDoor
open Go.RowKit
set_option linter.unusedVariables false

section
variable {w0 w : World} {t p bb hb n root : Nat} {F : FP} {N : Nat → Nat → Option Nat} {C : Nat → Option Sl}
/-- Set, with room or without. -/
theorem Rst.set_any (h : Rst w0 w t p bb hb n F root N C) (hw : Wd w0) (hti : Tight N C) (page : Nat) (hp : page < 4096) (s : Sl) (v : Value) (hv : s.enc = v) (hs : may s = true) :
    Calls Tryd.prog 50 #[.pointer (some ⟨t, 0, none⟩), .int .i64 page, v] w fun e w' => ∃ (a : Nat → Nat) (m : Nat), Way N page a m ∧
      ((frees F.held < 4 - m ∧ e = .returned (.int .i64 18) ∧ Rst w0 w' t p bb hb n F root N C ∧ Mods [t, p, bb, hb] w w') ∨
       (4 - m ≤ frees F.held ∧ e = .returned (.int .i64 0) ∧ Mods [t, p, bb, hb] w w' ∧ ∃ F' N', Rst w0 w' t p bb hb n F' root N' (updC C page (some s)) ∧ Tight N' (updC C page (some s)) ∧ cnt N' = cnt N + (4 - m))) := by
  subst hv
  refine (h.set_ok hw page hp s hs).mono ?_
  rintro e w' ⟨a, m, hW, ⟨h1, rfl, hb⟩ | ⟨h1, rfl, hm, F', N', hR, hc, hch⟩⟩
  · exact ⟨a, m, hW, .inl ⟨h1, rfl, h.stay hb, Mods.of_below hb⟩⟩
  · exact ⟨a, m, hW, .inr ⟨h1, rfl, hm, F', N', hR, tight_set hti hch, hc⟩⟩
theorem free_is (h : Rst w0 w t p bb hb n F root N C) (x : Int) (hx : (frees F.held : Int) = x) : Calls Tryd.prog 31 #[.pointer (some ⟨p, 0, none⟩)] w fun e w' => e = .returned (.int .i64 x) ∧ w = w' := by
  subst hx
  exact h.tb.at_.free
theorem all_is (hw : Wd w0) (h : Rst w0 w t p bb hb n F root N C) (L : List (Nat × Sl)) (hL : pages C = L) :
    Calls Tryd.prog 49 #[.pointer (some ⟨t, 0, none⟩)] w fun e w' => ∃ a c, e = .returned (.slice a L.length c) ∧ SpAt w' w.heap.size (.slice a L.length c) L a c ∧ Rst w0 w' t p bb hb n F root N C ∧ Below w.heap.size w w' := by
  subst hL
  refine (all_t hw h.tr h.tb).mono ?_
  rintro e w' ⟨v, rfl, ho, hb⟩
  obtain ⟨a, c, hs⟩ := own_spots ho
  obtain rfl := hs.val
  exact ⟨a, c, rfl, hs, h.stay hb, hb⟩
end

set_option maxRecDepth 100000 in
set_option maxHeartbeats 4000000 in
theorem rfull_walk (w : World) (hw : Wd w) (n : Int) (hn : (Lit.int IntKind.i64 n).wf = true) (a : Option Addr) (len cap : Nat) (hle : len ≤ cap) (hmx : cap ≤ maxLen) (xs : List Int) (hxl : xs.length = len) (hxs : IntsAt w a xs) :
    Calls Tryd.prog 11 #[.int .i64 n, .slice a len cap] w fun e w' => e = .returned (.bool true) ∧ Below w.heap.size w w' := by
  obtain ⟨M, hM, hM1⟩ : ∃ k : Nat, bits BinOp.and IntKind.i64 n 15 = (k : Int) ∧ k < 16 := ⟨(n % 16).toNat, by rw [and15]; omega, by omega⟩
  have HW := Lib.hid hw
  have HXS := Lib.hid hxs
  have HXL := Lib.hid hxl
  have hlen : len ≤ 9223372036854775807 := by unfold maxLen at hmx; omega
  have haw := awake07 w hw
  clear hw hxs hxl hmx hn
  go_enter Tryd.func11, Tryd.ntmps11
  go_wp2_with fail
  refine haw.mono ?_
  rintro e w1 ⟨rfl, hb1⟩
  clear haw
  go_wp2_with fail
  obtain ⟨mm, hmm, hmm1⟩ : ∃ mm : Nat, (4 : Int) + M = mm ∧ (4 ≤ mm ∧ mm ≤ 19) := ⟨4 + M, by omega, by omega⟩
  refine (new_at hb1 (4 + (M : Int)) (by omega) (by omega)).mono ?_
  rintro e w2 ⟨p, bb, hb, rfl, hA⟩
  rw [show ((4 : Int) + M).toNat = mm from by omega] at hA
  go_wp2_with fail
  refine (new_table hA (by omega) (by omega)).mono ?_
  rintro e w3 ⟨t, root, F1, rfl, ht0, hR⟩
  have HR := Lib.hid hR
  clear hR hA hb1 ht0
  go_wp2_with fail
  go_loopw [10] (fun i wr => ∃ (j : Nat) (F' : FP) (N' : Nat → Nat → Option Nat) (C' : Nat → Option Sl), j ≤ 20 ∧ i = .int .i64 j ∧ Hid (Rst w wr t p bb hb mm F' root N' C') ∧ Hid (Tight N' C')) (fun i _ => 20 - (intOf i).toNat)
  case atStart => exact ⟨0, F1, _, _, by omega, rfl, HR, Lib.hid (tight0 _)⟩
  case round =>
    clear HR
    obtain ⟨j, F', N', C', hj, rfl, HRr, HT⟩ := hrel
    by_cases hlt : j < len ∧ j < 20
    · obtain ⟨hl1, hl2⟩ := hlt
      obtain ⟨b, off, rfl, hcell, hlo, hhi⟩ := HXS.out j (by rw [HXL.out]; exact hl1)
      have hb0 := World.block_lt_of_cell? w _ hcell
      simp only at hb0
      obtain ⟨x, hx⟩ : ∃ x, xs[j]'(by rw [HXL.out]; exact hl1) = x := ⟨_, rfl⟩
      rw [hx] at hcell
      obtain ⟨P, hP, hP1⟩ : ∃ k : Nat, bits BinOp.and IntKind.i64 x 4095 = (k : Int) ∧ k < 4096 := ⟨(x % 4096).toNat, by rw [and4095]; omega, by omega⟩
      have hmay : may ⟨false, false, false, true, (j : Int)⟩ = true := by simp [may]; omega
      have HMAY := Lib.hid hmay
      have HC := Lib.hid hcell
      have hfr := HRr.out.fr
      obtain ⟨f0, hf0⟩ : ∃ f0 : Nat, frees F'.held = f0 := ⟨_, rfl⟩
      have HF0 := Lib.hid (show (frees F'.held : Int) = f0 by rw [hf0])
      rw [hf0] at hfr
      obtain ⟨k0, hk0⟩ : ∃ k0, cnt N' = k0 := ⟨_, rfl⟩
      rw [hk0] at hfr
      have hlP := pgL_len C' 0 4 0
      obtain ⟨L, hL⟩ : ∃ L, pages C' = L := ⟨_, rfl⟩
      rw [show pgL C' 0 4 0 = L from hL] at hlP
      have HL := Lib.hid hL
      have HK0 := Lib.hid hk0
      clear hx hcell hlo hhi hmay hL hk0
      go_wp2_with fail
      refine (all_is HW.out HRr.out L HL.out).mono ?_
      rintro e w4 ⟨ao, co, rfl, hsp, hR4, hb4⟩
      obtain ⟨ln, hln⟩ : ∃ ln, L.length = ln := ⟨_, rfl⟩
      rw [hln] at hsp hlP ⊢
      have HLN := Lib.hid hln
      have HSP := Lib.hid hsp
      have HR4 := Lib.hid hR4
      have hbase : t < wr.heap.size ∧ p < wr.heap.size ∧ bb < wr.heap.size ∧ hb < wr.heap.size := ⟨HRr.out.tb.lt, HRr.out.tb.lts⟩
      have HBA := Lib.hid hbase
      clear hsp hR4 hb4 hln hbase HRr
      go_wp2_with fail
      refine (free_is HR4.out f0 HF0.out).mono ?_
      rintro e w5 ⟨rfl, rfl⟩
      have hcw := (HR4.out.tb.at_.below.cell (p := ⟨b, off + j, none⟩) hb0).trans HC.out
      go_wp2_with fail
      refine (HR4.out.set_any HW.out HT.out P hP1 ⟨false, false, false, true, (j : Int)⟩ _ rfl HMAY.out).mono ?_
      rintro e w6 ⟨aw, m, hWy, ⟨h1, rfl, hR6, hm6⟩ | ⟨h1, rfl, hm6, F2, N2, hR6, hT6, hc6⟩⟩
      · have hm1 := hWy.one
        have hf3 : f0 < 3 := by omega
        have HR6 := Lib.hid hR6
        have HSP6 := Lib.hid (HSP.out.mods hm6 (by simp; have := HBA.out; omega))
        clear hR6 hm6 hWy h1 hm1 HR4 HSP hcw
        go_wp2_with fail
        refine (all_is HW.out HR6.out L HL.out).mono ?_
        rintro e w7 ⟨a2, c2, rfl, hsp7, hR7, hb7⟩
        rw [HLN.out] at hsp7 ⊢
        have HR7 := Lib.hid hR7
        have HSP7 := Lib.hid hsp7
        have HSP8 := Lib.hid (HSP6.out.below hb7)
        clear hsp7 hR7 hb7 HR6 HSP6
        go_wp2_with fail
        refine (same_any _ _ _ ln ln c2 co a2 ao L L HLN.out HLN.out (by omega) (by omega) HSP7.out HSP8.out).mono ?_
        rintro e w8 ⟨rfl, hb8⟩
        rw [decide_eq_true rfl]
        have HR8 := Lib.hid (HR7.out.stay hb8)
        clear hb8 HR7 HSP7 HSP8
        go_wp2_with fail
        refine (free_is HR8.out f0 HF0.out).mono ?_
        rintro e w9 ⟨rfl, rfl⟩
        go_wp2_with fail
        go_roundw
        case rel => exact ⟨j + 1, F', N', C', by omega, by go_num, HR8, HT⟩
        case measure => simp [intOf]; omega
      · have hm1 := hWy.one
        have hm4 := hWy.four
        have hfr6 := hR6.fr
        have hk0 := HK0.out
        have HR6 := Lib.hid hR6
        have HT6 := Lib.hid hT6
        obtain ⟨f2, hf2⟩ : ∃ f2 : Nat, frees F2.held = f2 := ⟨_, rfl⟩
        obtain ⟨k2, hk2⟩ : ∃ k2 : Nat, cnt N2 = k2 := ⟨_, rfl⟩
        have HF2 := Lib.hid (show (frees F2.held : Int) = f2 by rw [hf2])
        have HK2 := Lib.hid (show ((cnt N2 : Nat) : Int) = k2 by rw [hk2])
        rw [hf2, hk2] at hfr6
        have hd1 : ¬ ((3 : Int) < (f0 : Int) - f2) := by omega
        have hd2 : (f2 : Int) = (mm : Int) - k2 := by omega
        have hd3 : k2 ≤ mm ∧ f2 ≤ mm ∧ f0 ≤ mm := by omega
        obtain ⟨hd3, hd4, hd5⟩ := hd3
        clear hR6 hT6 hm6 hWy h1 hm1 hm4 HR4 HSP hcw hfr6 hk0 hf2 hk2 hc6
        go_wp2_with fail
        refine (free_is HR6.out f2 HF2.out).mono ?_
        rintro e w7 ⟨rfl, rfl⟩
        go_wp2_with fail
        refine (free_is HR6.out f2 HF2.out).mono ?_
        rintro e w7 ⟨rfl, rfl⟩
        go_wp2_with fail
        refine (nodes_is HR6.out.tb k2 HK2.out).mono ?_
        rintro e w7 ⟨rfl, rfl⟩
        go_wp2_with fail
        go_roundw
        case rel => exact ⟨j + 1, F2, N2, _, by omega, by go_num, HR6, HT6⟩
        case measure => simp [intOf]; omega
    · go_wp2_with fail
      all_goals
        go_ret
        exact ⟨rfl, HRr.out.tb.at_.below⟩
end Go.Proofs.YtacpfkimjaihgaaDoor
