/- The Go text of flyleaflaw02.WordKeeps returns true and writes nothing that was there. -/
import Derived.Test.YtlcconooojlhhaaDoorConvLaw
import Derived.OpenShut
import Derived.WalkKit
import Derived.ProofKit
import Derived.Deep.Slices
import Derived.ChangeOld
namespace Go.Proofs.YtlcconooojlhhaaDoor
open Go.RowKit
set_option linter.unusedVariables false
theorem tmod9k (k0 : Int) : -9 < k0.tmod 9 ∧ k0.tmod 9 < 9 := by
  have := Int.natAbs_tmod k0 9
  have := Nat.mod_lt k0.natAbs (show 0 < (9 : Int).natAbs by decide)
  omega
theorem tmod8k (k0 : Int) : -8 < k0.tmod 8 ∧ k0.tmod 8 < 8 := by
  have := Int.natAbs_tmod k0 8
  have := Nat.mod_lt k0.natAbs (show 0 < (8 : Int).natAbs by decide)
  omega
section
open Go.ChangeShapes Go.WideShapes Go.ChangeAt Go.RowKit Go.Deep
theorem cellsOf26 : Tryd.prog.cellsOf 26 = 2 := by kernel_rfl
theorem cellsOf22 : Tryd.prog.cellsOf 22 = 1 := by kernel_rfl
theorem open_twoU {H : Type} {enc : TypeId × Value → H} {w : World} {base : Nat} {spare : Nat → Bool} {held : Bool} {r : Reach} {b0 : Nat} {v : Value} {d : DataW H} {ps : List MemPlace}
    (hval : Value.okWide Tryd.prog w r b0 26 v) (hd : DataW.Trod enc Tryd.prog w base spare held 26 v d ps) : ∃ x y : Int, v = .agg #[.int .u64 x, .int .u64 y] ∧ (Lit.int .u64 x).wf = true ∧ (Lit.int .u64 y).wf = true := by
  have hv : ∃ cs : Array Value, v = .agg cs ∧ cs.size = 2 := by
    simp only [Value.okWide, Tryd.underlying26] at hval
    obtain ⟨cs, h1, h2, _⟩ := hval
    exact ⟨cs, h1, by rw [h2, cellsOf26]⟩
  obtain ⟨cs, rfl, hcs⟩ := hv
  obtain ⟨fuel, hf⟩ := hd
  obtain ⟨xs, m, _, _, _, hl, hi⟩ := DataW.trod_array Tryd.underlying26 hf
  have h0 := hi 0 (by omega)
  have h1 := hi 1 (by omega)
  rw [cellsOf22, List.getElem?_eq_getElem (by omega)] at h0 h1
  obtain ⟨x, e0, _, w0⟩ := DataW.trod_int Tryd.underlying22 h0
  obtain ⟨y, e1, _, w1⟩ := DataW.trod_int Tryd.underlying22 h1
  refine ⟨x, y, ?_, w0, w1⟩
  obtain ⟨l⟩ := cs
  simp [Value.cells] at e0 e1 hcs
  match l, hcs with
  | [p, q], _ =>
    simp at e0 e1
    rw [e0, e1]
end
set_option maxRecDepth 100000 in
set_option maxHeartbeats 8000000 in
theorem keeps_walk (w : World) (hw : Wd w) (k0 : Int) (hk0 : (Lit.int IntKind.i64 k0).wf = true) (t0 : Int) (ht0 : (Lit.int IntKind.i64 t0).wf = true) (x y : Int) (wx : (Lit.int IntKind.u64 x).wf = true) (wy : (Lit.int IntKind.u64 y).wf = true) :
    Calls Tryd.prog 4 #[.int .i64 k0, .int .i64 t0, .agg #[.int .u64 x, .int .u64 y]] w fun e w' => e = .returned (.bool true) ∧ Below w.heap.size w w' := by
  obtain ⟨hx0, hx1⟩ := u64_of_wf wx
  obtain ⟨hy0, hy1⟩ := u64_of_wf wy
  obtain ⟨r, hr, hr0, hr1⟩ : ∃ r, k0.tmod 9 = r ∧ -9 < r ∧ r < 9 := ⟨_, rfl, (tmod9k k0).1, (tmod9k k0).2⟩
  obtain ⟨s, hs, hs0, hs1⟩ : ∃ s, t0.tmod 8 = s ∧ -8 < s ∧ s < 8 := ⟨_, rfl, (tmod8k t0).1, (tmod8k t0).2⟩
  obtain ⟨k, hk⟩ : ∃ k, k = 1 + r % 9 := ⟨_, rfl⟩
  obtain ⟨t, ht⟩ : ∃ t, t = 1 + s % 8 := ⟨_, rfl⟩
  have hk9 : 1 ≤ k ∧ k ≤ 9 := by omega
  have ht8 : 1 ≤ t ∧ t ≤ 8 := by omega
  obtain ⟨W, hW⟩ : ∃ W, W = w.alloc (Obj.cells #[.int .u64 x, .int .u64 y] 26) := ⟨_, rfl⟩
  have bA : Below w.heap.size w W := by rw [hW]; exact (Below.refl _ _).alloc (Nat.le_refl _) _
  have hww := hw.below bA (Nat.le_refl _)
  have kk : W.heap[w.heap.size]? = some (.cells [Value.int .u64 x, .int .u64 y].toArray 26 (0, 0)) := by rw [hW]; exact heap_alloc_new w _
  have g0 : W.cell? ⟨w.heap.size, 0, none⟩ = some (.int .u64 x) := by rw [cell_of_row _ _ _ _ _ _ kk]; rfl
  have g1 : W.cell? ⟨w.heap.size, 1, none⟩ = some (.int .u64 y) := by rw [cell_of_row _ _ _ _ _ _ kk]; rfl
  have haw := awake02 W hww
  have hc := compare_any W hww k x y hx0 hx1 hy0 hy1
  have hX := convert_any W hww k t x hx0 hx1
  have hY := convert_any W hww k t y hy0 hy1
  have lawX : isNum k (clipOf k x) → _ := conv_num hk9 ht8 hx0 hx1
  have lawY : isNum k (clipOf k y) → _ := conv_num hk9 ht8 hy0 hy1
  have nanX : ¬ isNum k (clipOf k x) → convOf k t x = 0 := by
    intro hn
    have h9 : k = 9 := Decidable.byContradiction fun c => hn (fun h => absurd h c)
    subst h9
    have hb : nan64 (clipOf 9 x).toNat = true := by
      cases h : nan64 (clipOf 9 x).toNat
      · exact absurd (fun _ => h) hn
      · rfl
    rw [convOf, if_neg (by rw [widthOf_zero, widthOf_zero]; omega), if_neg (by omega), if_pos rfl, cutOf, if_pos hb]
  have nanY : ¬ isNum k (clipOf k y) → convOf k t y = 0 := by
    intro hn
    have h9 : k = 9 := Decidable.byContradiction fun c => hn (fun h => absurd h c)
    subst h9
    have hb : nan64 (clipOf 9 y).toNat = true := by
      cases h : nan64 (clipOf 9 y).toNat
      · exact absurd (fun _ => h) hn
      · rfl
    rw [convOf, if_neg (by rw [widthOf_zero, widthOf_zero]; omega), if_neg (by omega), if_pos rfl, cutOf, if_pos hb]
  have rX : 0 ≤ convOf k t x ∧ convOf k t x < 18446744073709551616 ∧ clipOf t (convOf k t x) = convOf k t x := by
    by_cases hn : isNum k (clipOf k x)
    · exact (lawX hn).2
    · rw [nanX hn]; exact ⟨by omega, by omega, (zero_word ht8).2⟩
  have rY : 0 ≤ convOf k t y ∧ convOf k t y < 18446744073709551616 ∧ clipOf t (convOf k t y) = convOf k t y := by
    by_cases hn : isNum k (clipOf k y)
    · exact (lawY hn).2
    · rw [nanY hn]; exact ⟨by omega, by omega, (zero_word ht8).2⟩
  have hd := compare_any W hww t (convOf k t x) (convOf k t y) rX.1 rX.2.1 rY.1 rY.2.1
  have hcl := clip_any W hww t (convOf k t x) rX.1 rX.2.1
  rw [rX.2.2, rY.2.2] at hd
  rw [rX.2.2] at hcl
  have key : cmpC k (clipOf k x) (clipOf k y) = 2 ∨ (cmpC k (clipOf k x) (clipOf k y) ≤ 0 ∧ cmpC t (convOf k t x) (convOf k t y) ≤ 0) ∨ (cmpC k (clipOf k x) (clipOf k y) = 1 ∧ 0 ≤ cmpC t (convOf k t x) (convOf k t y)) := by
    by_cases hn : isNum k (clipOf k x) ∧ isNum k (clipOf k y)
    · right
      rw [cmpC_rank, if_pos hn, cmpC_rank t, if_pos ⟨isNum_int ht8, isNum_int ht8⟩, rank_num ht8, rank_num ht8, (lawX hn.1).1, (lawY hn.2).1]
      have v1 := cmpOf_vals (rankOf k (clipOf k x)) (rankOf k (clipOf k y))
      have v2 := cmpOf_vals (clampOf t (valOf k (clipOf k x))) (clampOf t (valOf k (clipOf k y)))
      by_cases hle : rankOf k (clipOf k x) ≤ rankOf k (clipOf k y)
      · have := clamp_mono (t := t) (val_mono hle)
        omega
      · have := clamp_mono (t := t) (val_mono (show rankOf k (clipOf k y) ≤ rankOf k (clipOf k x) by omega))
        omega
    · left
      exact cmpC_2.2 hn
  generalize cmpC k (clipOf k x) (clipOf k y) = c at *
  generalize cmpC t (convOf k t x) (convOf k t y) = d at *
  generalize convOf k t x = X at *
  generalize convOf k t y = Y at *
  have hkk := hk.symm
  have htt := ht.symm
  have HKK := Lib.hid kk
  clear hw hww lawX lawY nanX nanY rX rY hk ht hx0 hx1 hy0 hy1 wx wy hk0 ht0 kk
  go_enter Tryd.func4, Tryd.ntmps4
  go_upto_region 1 with (fail)
  rw [← hW]
  obtain ⟨b, hb⟩ : ∃ b, b = w.heap.size := ⟨_, rfl⟩
  rw [← hb] at g0 g1 ⊢
  clear hb
  clear hW HKK
  have bb := World.block_lt_of_cell? W _ g0
  rcases key with rfl | ⟨h1, h2⟩ | ⟨rfl, h2⟩
  · clear hk9 ht8
    go_wp2_with fail
    refine haw.mono ?_
    rintro e w1 ⟨rfl, rfl⟩
    go_wp2_with fail
    refine hc.mono ?_
    rintro e w1 ⟨rfl, rfl⟩
    go_wp2_with fail
    refine hX.mono ?_
    rintro e w1 ⟨rfl, rfl⟩
    go_wp2_with fail
    refine hY.mono ?_
    rintro e w1 ⟨rfl, rfl⟩
    go_wp2_with fail
    refine hd.mono ?_
    rintro e w1 ⟨rfl, rfl⟩
    go_wp2_with fail
    refine hcl.mono ?_
    rintro e w1 ⟨rfl, rfl⟩
    go_wp2_with fail
    go_ret
    exact ⟨rfl, bA⟩
  · have n1 : decide (c ≤ 0) = true := decide_eq_true h1
    have n2 : decide (d ≤ 0) = true := decide_eq_true h2
    have n3 : (c == 2) = false := by simp; omega
    clear hk9 ht8
    go_wp2_with fail
    refine haw.mono ?_
    rintro e w1 ⟨rfl, rfl⟩
    go_wp2_with fail
    refine hc.mono ?_
    rintro e w1 ⟨rfl, rfl⟩
    go_wp2_with fail
    refine hX.mono ?_
    rintro e w1 ⟨rfl, rfl⟩
    go_wp2_with fail
    refine hY.mono ?_
    rintro e w1 ⟨rfl, rfl⟩
    go_wp2_with fail
    refine hd.mono ?_
    rintro e w1 ⟨rfl, rfl⟩
    go_wp2_with fail
    refine hcl.mono ?_
    rintro e w1 ⟨rfl, rfl⟩
    go_wp2_with fail
    go_ret
    exact ⟨rfl, bA⟩
  · have n2 : decide (0 ≤ d) = true := decide_eq_true h2
    clear hk9 ht8
    go_wp2_with fail
    refine haw.mono ?_
    rintro e w1 ⟨rfl, rfl⟩
    go_wp2_with fail
    refine hc.mono ?_
    rintro e w1 ⟨rfl, rfl⟩
    go_wp2_with fail
    refine hX.mono ?_
    rintro e w1 ⟨rfl, rfl⟩
    go_wp2_with fail
    refine hY.mono ?_
    rintro e w1 ⟨rfl, rfl⟩
    go_wp2_with fail
    refine hd.mono ?_
    rintro e w1 ⟨rfl, rfl⟩
    go_wp2_with fail
    refine hcl.mono ?_
    rintro e w1 ⟨rfl, rfl⟩
    go_wp2_with fail
    go_ret
    exact ⟨rfl, bA⟩
end Go.Proofs.YtlcconooojlhhaaDoor
