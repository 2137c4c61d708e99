/- The Go text of flyleaflaw07.RadixNodes returns true and writes nothing that was there. -/
import Derived.BigQuiet
import Derived.Test.YtacpfkimjaihgaaDoorRCount
import Derived.Test.YtacpfkimjaihgaaDoorRFullWalk
import Derived.Test.YtacpfkimjaihgaaDoorRClose
import Derived.Test.YtacpfkimjaihgaaDoorBits
namespace Go.Proofs.YtacpfkimjaihgaaDoor
open Go.RowKit
set_option linter.unusedVariables false

def slP (p : Nat) : Sl := ⟨true, false, false, false, (p : Int)⟩
set_option maxRecDepth 100000 in
set_option maxHeartbeats 4000000 in
theorem rnodes_walk (w : World) (hw : Wd w) (page : Int) (hpg : (Lit.int IntKind.i64 page).wf = true) (n : Int) (hn : (Lit.int IntKind.i64 n).wf = true) :
    Calls Tryd.prog 12 #[.int .i64 page, .int .i64 n] w fun e w' => e = .returned (.bool true) ∧ Below w.heap.size w w' := by
  obtain ⟨r, hr⟩ : ∃ r, page.tmod 4001 = r := ⟨_, rfl⟩
  have hr0 : -4001 < r ∧ r < 4001 := by
    rw [← hr]
    have h1 := Int.lt_tmod_of_pos page (b := 4001) (by omega)
    have h2 := Int.tmod_lt_of_pos page (b := 4001) (by omega)
    omega
  obtain ⟨A, hA, hA1⟩ : ∃ k : Nat, (r + 4001).tmod 4001 = (k : Int) ∧ k < 4001 := ⟨((r + 4001) % 4001).toNat, by rw [Int.tmod_eq_emod_of_nonneg (by omega)]; omega, by omega⟩
  obtain ⟨M, hM, hM1⟩ : ∃ k : Nat, bits BinOp.and IntKind.i64 n 63 = (k : Int) ∧ k < 64 := ⟨(n % 64).toNat, by rw [and63]; omega, by omega⟩
  obtain ⟨hi, hhi, hhi1⟩ : ∃ hi : Nat, (hi = A + 1 + M ∧ A + 1 + M ≤ 4096 ∨ hi = 4096 ∧ 4096 < A + 1 + M) ∧ A < hi := by
    by_cases h : A + 1 + M ≤ 4096
    · exact ⟨A + 1 + M, .inl ⟨rfl, h⟩, by omega⟩
    · exact ⟨4096, .inr ⟨rfl, by omega⟩, by omega⟩
  have hhi2 : hi ≤ 4096 ∧ hi ≤ A + 64 := by omega
  have HW := Lib.hid hw
  have haw := awake07 w hw
  clear hw hpg hn
  go_enter Tryd.func12, Tryd.ntmps12
  go_wp2_with fail
  refine haw.mono ?_
  rintro e w1 ⟨rfl, hb1⟩
  clear haw
  go_wp2_with fail
  refine (new_at hb1 300 (by omega) (by omega)).mono ?_
  rintro e w2 ⟨p, bb, hb, rfl, hAt⟩
  go_wp2_with fail
  refine (new_table hAt (by decide) (by decide)).mono ?_
  rintro e w3 ⟨t, root, F1, rfl, ht0, hR⟩
  have HR := Lib.hid hR
  clear hR hAt hb1 ht0
  go_wp2_with fail
  go_loopw [11] (fun i wr => ∃ (j : Nat) (F' : FP) (N' : Nat → Nat → Option Nat), A ≤ j ∧ j ≤ hi ∧ i = .int .i64 j ∧ Hid (Rst w wr t p bb hb 300 F' root N' (rowC slP A j)) ∧ Hid (Tight N' (rowC slP A j)) ∧ cnt N' + 3 * A ≤ 1 + 3 * j) (fun i _ => 4096 - (intOf i).toNat)
  case atStart => exact ⟨A, F1, _, by omega, by omega, rfl, Lib.hid (by rw [rowC_zero]; exact HR.out), Lib.hid (by rw [rowC_zero]; exact tight0 _), by rw [cnt_N0]; omega⟩
  case round =>
    clear HR
    obtain ⟨j, F', N', hj0, hj1, rfl, HRr, HT, hc⟩ := hrel
    by_cases hlt : j < hi
    · have h1 : j < A + 1 + M ∧ j < 4096 := by omega
      obtain ⟨h1, h2⟩ := h1
      have hfr := HRr.out.fr
      have hf3 : 3 ≤ frees F'.held := by omega
      have hmay : may (slP j) = true := may_node (by omega) (by omega)
      have hsu := rowC_succ slP hj0
      have HSU := Lib.hid hsu
      clear hfr hsu hhi
      go_wp2_with fail
      refine (HRr.out.set_room HW.out HT.out j h2 (slP j) _ rfl hmay hf3).mono ?_
      rintro e w5 ⟨rfl, hm5, F2, N2, hR2, hT2, hc2⟩
      rw [HSU.out] at hR2 hT2
      have HR2 := Lib.hid hR2
      have HT2 := Lib.hid hT2
      clear hR2 hT2 hm5
      go_wp2_with fail
      go_roundw
      case rel => exact ⟨j + 1, F2, N2, by omega, by omega, by go_num, HR2, HT2, by omega⟩
      case measure => simp [intOf]; omega
    · obtain rfl : j = hi := by omega
      have hcn := (cnt_nodes HRr.out.tr HT.out).trans (rowC_nodes slP hhi1 hhi2.1)
      have hpg := rowC_pages slP (a := A) hhi2.1
      obtain ⟨L, hL, hL1⟩ : ∃ L : Nat, j = L + 1 ∧ A ≤ L := ⟨j - 1, by omega, by omega⟩
      rw [hL, show L + 1 - 1 = L from rfl] at hcn
      have td : ∀ (P k : Nat), ((P : Int)).tdiv ((k : Nat) : Int) = ((P / k : Nat) : Int) := fun P k => by rw [Int.tdiv_eq_ediv_of_nonneg (by omega)]; rfl
      have hd8 := Nat.div_le_div_right (c := 8) hL1
      have hd64 := Nat.div_le_div_right (c := 64) hL1
      have hd512 := Nat.div_le_div_right (c := 512) hL1
      have a8 : (((A : Nat) : Int)).tdiv 8 = ((A / 8 : Nat) : Int) := td A 8
      have a64 : (((A : Nat) : Int)).tdiv 64 = ((A / 64 : Nat) : Int) := td A 64
      have a512 : (((A : Nat) : Int)).tdiv 512 = ((A / 512 : Nat) : Int) := td A 512
      have l8 : (((L : Nat) : Int)).tdiv 8 = ((L / 8 : Nat) : Int) := td L 8
      have l64 : (((L : Nat) : Int)).tdiv 64 = ((L / 64 : Nat) : Int) := td L 64
      have l512 : (((L : Nat) : Int)).tdiv 512 = ((L / 512 : Nat) : Int) := td L 512
      have b8 : L / 8 < 512 := by omega
      have b64 : L / 64 < 64 := by omega
      have b512 : L / 512 < 8 := by omega
      generalize A / 8 = xa8 at *
      generalize A / 64 = xa64 at *
      generalize A / 512 = xa512 at *
      generalize L / 8 = xl8 at *
      generalize L / 64 = xl64 at *
      generalize L / 512 = xl512 at *
      have HCN := Lib.hid hcn
      have HPG := Lib.hid hpg
      clear hcn hpg td hc hr hA hM
      subst hL
      have hfin : ∀ X : Nat, 1 + (xl512 - xa512 + 1) + (xl64 - xa64 + 1) + (xl8 - xa8 + 1) = X → (X : Int) = 1 + (xl8 - xa8 + 1) + (xl64 - xa64 + 1) + (xl512 - xa512 + 1) := fun X h => by omega
      have hsix := fun (W : World) (a : Option Addr) (c : Nat) (B : Nat) (h : SpAt W B (.slice a (L + 1 - A) c) (pages (rowC slP A (L + 1))) a c) => h.six 0 (A, slP A) (by rw [HPG.out]; simp [List.getElem?_map, List.getElem?_range (show 0 < L + 1 - A by omega)])
      have HSIX := Lib.hid hsix
      have hle : (pages (rowC slP A (L + 1))).length = L + 1 - A := by rw [HPG.out, List.length_map, List.length_range]
      have HLE := Lib.hid hle
      clear hsix hle
      have hh : L + 1 = A + 1 + M := by omega
      have hb1 : ¬ (((L : Int) + 1) < (A : Int) + (1 + M)) := by omega
      have hb2 : (A : Int) + (1 + M) - 1 = L := by omega
      clear hhi hhi2
      go_wp2_with fail
      clear hb1 hb2 hh hM1 hr0
      go_loopw [13, 14] (fun wv bv wx => ((wv = .int .i64 1 ∧ bv = .int .i64 8) ∨ (wv = .int .i64 (1 + (xl8 : Int) - xa8 + 1) ∧ bv = .int .i64 64) ∨ (wv = .int .i64 (1 + (xl8 : Int) - xa8 + 1 + xl64 - xa64 + 1) ∧ bv = .int .i64 512) ∨ (wv = .int .i64 (1 + (xl8 : Int) - xa8 + 1 + xl64 - xa64 + 1 + xl512 - xa512 + 1) ∧ bv = .int .i64 4096)) ∧
        Hid (Rst w wx t p bb hb 300 F' root N' (rowC slP A (L + 1)))) (fun _ i _ => 4096 - (intOf i).toNat)
      case atStart => exact ⟨.inl ⟨rfl, rfl⟩, HRr⟩
      case round =>
        clear HRr
        obtain ⟨⟨rfl, rfl⟩ | ⟨rfl, rfl⟩ | ⟨rfl, rfl⟩ | ⟨rfl, rfl⟩, HRr⟩ := hrel
        · go_wp2_with fail
          go_quiet (fail)
          go_wp2_with fail
          refine ⟨⟨.inr (.inl ⟨rfl, rfl⟩), Lib.hid (HRr.out.stay ((Below.refl _ _).drewN' _))⟩, by simp [intOf]⟩
        · go_wp2_with fail
          go_quiet (fail)
          go_wp2_with fail
          refine ⟨⟨.inr (.inr (.inl ⟨rfl, rfl⟩)), Lib.hid (HRr.out.stay ((Below.refl _ _).drewN' _))⟩, by simp [intOf]⟩
        · go_wp2_with fail
          go_quiet (fail)
          go_wp2_with fail
          refine ⟨⟨.inr (.inr (.inr ⟨rfl, rfl⟩)), Lib.hid (HRr.out.stay ((Below.refl _ _).drewN' _))⟩, by simp [intOf]⟩
        · have hcX := hfin _ HCN.out.symm
          go_wp2_with fail
          refine (all_is HW.out HRr.out _ rfl).mono ?_
          rintro e w5 ⟨ao, co, rfl, hsp, hR5, hb5⟩
          rw [HLE.out] at hsp ⊢
          obtain ⟨g, rfl, g1, g2, g3, g4, g5, g6, g7, g8⟩ := HSIX.out _ _ _ _ hsp
          have hcap := hsp.cap
          rw [HLE.out] at hcap
          rw [Nat.zero_mul] at g3
          have HR5 := Lib.hid hR5
          clear HRr HSIX HLE HPG HCN hsp hR5 hb5 g4 g5 g6 g7 g8
          go_wp2_with fail
          refine (nodes_is HR5.out.tb _ hcX).mono ?_
          rintro e w6 ⟨rfl, rfl⟩
          go_wp2_with fail
          go_ret
          exact ⟨rfl, HR5.out.tb.at_.below⟩
end Go.Proofs.YtacpfkimjaihgaaDoor
