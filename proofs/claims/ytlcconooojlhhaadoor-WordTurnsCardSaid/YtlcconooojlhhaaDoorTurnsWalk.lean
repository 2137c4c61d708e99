/- The Go text of flyleaflaw02.WordTurns returns true and writes nothing that was there. -/
import Derived.Test.YtlcconooojlhhaaDoorRank
import Derived.Test.YtlcconooojlhhaaDoorClipsLaw
namespace Go.Proofs.YtlcconooojlhhaaDoor
open Go.RowKit
set_option linter.unusedVariables false
theorem tmod9t (k0 : Int) : -9 < k0.tmod 9 ∧ k0.tmod 9 < 9 := by
  have := Int.natAbs_tmod k0 9
  have := Nat.mod_lt k0.natAbs (show 0 < (9 : Int).natAbs by decide)
  omega
theorem pick_nan {k x y z : Int} {f : Int → Bool} (h : cmpC k x y = 2) : pickOf k x y z f = 9221120237041090561 := by rw [pickOf, if_pos h]
set_option maxRecDepth 100000 in
set_option maxHeartbeats 8000000 in
theorem turns_walk (w : World) (hw : Wd w) (k0 : Int) (hk0 : (Lit.int IntKind.i64 k0).wf = true) (a : Int) (ha0 : 0 ≤ a) (ha1 : a < 18446744073709551616) (b : Int) (hb0 : 0 ≤ b) (hb1 : b < 18446744073709551616) :
    Calls Tryd.prog 8 #[.int .i64 k0, .int .u64 a, .int .u64 b] w fun e w' => e = .returned (.bool true) ∧ Below w.heap.size w w' := by
  obtain ⟨r, hr, hr0, hr1⟩ : ∃ r, k0.tmod 9 = r ∧ -9 < r ∧ r < 9 := ⟨_, rfl, (tmod9t k0).1, (tmod9t k0).2⟩
  have haw := awake02 w hw
  obtain ⟨k, hk⟩ : ∃ k, k = 1 + r % 9 := ⟨_, rfl⟩
  have hc := compare_any w hw k a b ha0 ha1 hb0 hb1
  have hd := compare_any w hw k b a hb0 hb1 ha0 ha1
  have hl := least_any w hw k a b ha0 ha1 hb0 hb1
  have hg := greatest_any w hw k a b ha0 ha1 hb0 hb1
  have hl2 := least_any w hw k b a hb0 hb1 ha0 ha1
  have hg2 := greatest_any w hw k b a hb0 hb1 ha0 ha1
  have hx := clip_any w hw k a ha0 ha1
  have hy := clip_any w hw k b hb0 hb1
  have hxr := clipOf_range (k := k) ha0 ha1
  have hyr := clipOf_range (k := k) hb0 hb1
  have hxx := clip_clip (k := k) ha0 ha1
  have hyy := clip_clip (k := k) hb0 hb1
  generalize clipOf k a = x at *
  generalize clipOf k b = y at *
  by_cases h2 : cmpC k x y = 2
  · have h2' : cmpC k y x = 2 := cmpC_2.2 (fun c => cmpC_2.1 h2 ⟨c.2, c.1⟩)
    have hk9 : k = 9 := Decidable.byContradiction fun h9 => cmpC_2.1 h2 ⟨fun h => absurd h h9, fun h => absurd h h9⟩
    rw [pick_nan h2] at hl hg
    rw [pick_nan h2'] at hl2 hg2
    rw [h2] at hc
    rw [h2'] at hd
    have hll := compare_any w hw k 9221120237041090561 9221120237041090561 (by omega) (by omega) (by omega) (by omega)
    rw [show cmpC k (clipOf k 9221120237041090561) (clipOf k 9221120237041090561) = 2 by rw [hk9]; decide +kernel] at hll
    have hk' : 1 + r % 9 = 9 := by omega
    rw [hk9] at hc hd hl hg hl2 hg2 hll
    clear h2 h2' hx hy hxx hyy hw hk hk9
    go_enter Tryd.func8, Tryd.ntmps8
    go_wp2_with fail
    refine haw.mono ?_
    rintro e w1 ⟨rfl, rfl⟩
    go_wp2_with fail
    refine hc.mono ?_
    rintro e w1 ⟨rfl, rfl⟩
    go_wp2_with fail
    refine hd.mono ?_
    rintro e w1 ⟨rfl, rfl⟩
    go_wp2_with fail
    refine hl.mono ?_
    rintro e w1 ⟨rfl, rfl⟩
    go_wp2_with fail
    refine hg.mono ?_
    rintro e w1 ⟨rfl, rfl⟩
    go_wp2_with fail
    refine hl2.mono ?_
    rintro e w1 ⟨rfl, rfl⟩
    go_wp2_with fail
    refine hg2.mono ?_
    rintro e w1 ⟨rfl, rfl⟩
    go_wp2_with fail
    refine hll.mono ?_
    rintro e w1 ⟨rfl, rfl⟩
    go_wp2_with fail
    go_ret
    exact ⟨rfl, Below.refl _ _⟩
  · have hn : isNum k x ∧ isNum k y := Decidable.byContradiction fun c => h2 (cmpC_2.2 c)
    have hsw := cmpC_swap h2
    have hvals : cmpC k x y = -1 ∨ cmpC k x y = 0 ∨ cmpC k x y = 1 := by
      rw [cmpC_rank, if_pos hn]
      have := cmpOf_vals (rankOf k x) (rankOf k y)
      omega
    have hp1 := picks_num hxr.1 hxr.2 hyr.1 hyr.2 hn
    have hp2 := picks_num hyr.1 hyr.2 hxr.1 hxr.2 ⟨hn.2, hn.1⟩
    have hlg : leastOf k y x = leastOf k x y ∧ greatestOf k y x = greatestOf k x y ∧ ((leastOf k x y = x ∧ greatestOf k x y = y) ∨ (leastOf k x y = y ∧ greatestOf k x y = x)) ∧ rankOf k (leastOf k x y) ≤ rankOf k (greatestOf k x y) := by
      rcases hp1 with ⟨h1, e1, e2⟩ | ⟨h1, e1, e2⟩ | ⟨h1, h3, e1, e2⟩ | ⟨h1, h3, h9, h4, e1, e2⟩
      · rcases hp2 with ⟨q1, f1, f2⟩ | ⟨q1, f1, f2⟩ | ⟨q1, q3, f1, f2⟩ | ⟨q1, q3, q9, q4, f1, f2⟩ <;> first | (exfalso; omega) | (rw [e1, e2, f1, f2]; exact ⟨rfl, rfl, .inl ⟨rfl, rfl⟩, by omega⟩)
      · rcases hp2 with ⟨q1, f1, f2⟩ | ⟨q1, f1, f2⟩ | ⟨q1, q3, f1, f2⟩ | ⟨q1, q3, q9, q4, f1, f2⟩ <;> first | (exfalso; omega) | (rw [e1, e2, f1, f2]; exact ⟨rfl, rfl, .inr ⟨rfl, rfl⟩, by omega⟩)
      · subst h3
        rw [e1, e2]
        exact ⟨rfl, rfl, .inl ⟨rfl, rfl⟩, Int.le_refl _⟩
      · rcases hp2 with ⟨q1, f1, f2⟩ | ⟨q1, f1, f2⟩ | ⟨q1, q3, f1, f2⟩ | ⟨q1, q3, q9, q4, f1, f2⟩ <;> first | (exfalso; omega) | skip
        rw [e1, e2, f1, f2, h9, rank9_0, rank9_m0]
        refine ⟨rfl, rfl, ?_, Int.le_refl _⟩
        omega
    obtain ⟨e1, e2, e3, e4⟩ := hlg
    have hlg2 : clipOf k (leastOf k x y) = leastOf k x y ∧ clipOf k (greatestOf k x y) = greatestOf k x y ∧ (0 ≤ leastOf k x y ∧ leastOf k x y < 18446744073709551616) ∧ (0 ≤ greatestOf k x y ∧ greatestOf k x y < 18446744073709551616) ∧ (isNum k (leastOf k x y) ∧ isNum k (greatestOf k x y)) := by
      rcases e3 with ⟨f1, f2⟩ | ⟨f1, f2⟩ <;> rw [f1, f2]
      · exact ⟨hxx, hyy, hxr, hyr, hn⟩
      · exact ⟨hyy, hxx, hyr, hxr, hn.2, hn.1⟩
    obtain ⟨c1, c2, c3, c4, c5⟩ := hlg2
    have hll := compare_any w hw k (leastOf k x y) (greatestOf k x y) c3.1 c3.2 c4.1 c4.2
    rw [c1, c2, cmpC_rank, if_pos c5] at hll
    have hle : cmpOf (rankOf k (leastOf k x y)) (rankOf k (greatestOf k x y)) ≤ 0 := by
      have := cmpOf_vals (rankOf k (leastOf k x y)) (rankOf k (greatestOf k x y))
      omega
    generalize cmpOf (rankOf k (leastOf k x y)) (rankOf k (greatestOf k x y)) = ee at *
    change Calls Tryd.prog 21 _ w (fun e w' => e = .returned (.int .u64 (leastOf k x y)) ∧ w = w') at hl
    change Calls Tryd.prog 23 _ w (fun e w' => e = .returned (.int .u64 (greatestOf k x y)) ∧ w = w') at hg
    change Calls Tryd.prog 21 _ w (fun e w' => e = .returned (.int .u64 (leastOf k y x)) ∧ w = w') at hl2
    change Calls Tryd.prog 23 _ w (fun e w' => e = .returned (.int .u64 (greatestOf k y x)) ∧ w = w') at hg2
    rw [e1] at hl2
    rw [e2] at hg2
    rw [hsw] at hd
    generalize cmpC k x y = c at *
    generalize leastOf k x y = l at *
    generalize greatestOf k x y = g at *
    clear e1 e2 e4 c1 c2 c3 c4 c5 hp1 hp2 hn hsw h2 hxx hyy hxr hyr hw
    have hkk := hk.symm
    clear hk
    have e5 : (l = x ∧ g = y) ∨ (l = y ∧ g = x ∧ x ≠ y) := by omega
    have hdn : ∃ dd : Int, dd = -c := ⟨_, rfl⟩
    obtain ⟨dd, hdd⟩ := hdn
    rw [← hdd] at hd
    rcases e5 with ⟨rfl, rfl⟩ | ⟨rfl, rfl, hxy⟩
    · clear e3
      rcases hvals with rfl | rfl | rfl <;> (try simp only [Int.neg_neg, Int.neg_zero] at hdd) <;> subst hdd
      all_goals
        go_enter Tryd.func8, Tryd.ntmps8
        go_wp2_with fail
        refine haw.mono ?_
        rintro e w1 ⟨rfl, rfl⟩
        go_wp2_with fail
        refine hc.mono ?_
        rintro e w1 ⟨rfl, rfl⟩
        go_wp2_with fail
        refine hd.mono ?_
        rintro e w1 ⟨rfl, rfl⟩
        go_wp2_with fail
        refine hl.mono ?_
        rintro e w1 ⟨rfl, rfl⟩
        go_wp2_with fail
        refine hg.mono ?_
        rintro e w1 ⟨rfl, rfl⟩
        go_wp2_with fail
        refine hl2.mono ?_
        rintro e w1 ⟨rfl, rfl⟩
        go_wp2_with fail
        refine hg2.mono ?_
        rintro e w1 ⟨rfl, rfl⟩
        go_wp2_with fail
        refine hx.mono ?_
        rintro e w1 ⟨rfl, rfl⟩
        go_wp2_with fail
        refine hy.mono ?_
        rintro e w1 ⟨rfl, rfl⟩
        go_wp2_with fail
        refine hll.mono ?_
        rintro e w1 ⟨rfl, rfl⟩
        go_wp2_with fail
        go_ret
        exact ⟨rfl, Below.refl _ _⟩
    · have n1 : (l == g) = false := by simp; omega
      have n2 : (g == l) = false := by simp; omega
      clear e3 hxy
      rcases hvals with rfl | rfl | rfl <;> (try simp only [Int.neg_neg, Int.neg_zero] at hdd) <;> subst hdd
      all_goals
        go_enter Tryd.func8, Tryd.ntmps8
        go_wp2_with fail
        refine haw.mono ?_
        rintro e w1 ⟨rfl, rfl⟩
        go_wp2_with fail
        refine hc.mono ?_
        rintro e w1 ⟨rfl, rfl⟩
        go_wp2_with fail
        refine hd.mono ?_
        rintro e w1 ⟨rfl, rfl⟩
        go_wp2_with fail
        refine hl.mono ?_
        rintro e w1 ⟨rfl, rfl⟩
        go_wp2_with fail
        refine hg.mono ?_
        rintro e w1 ⟨rfl, rfl⟩
        go_wp2_with fail
        refine hl2.mono ?_
        rintro e w1 ⟨rfl, rfl⟩
        go_wp2_with fail
        refine hg2.mono ?_
        rintro e w1 ⟨rfl, rfl⟩
        go_wp2_with fail
        refine hx.mono ?_
        rintro e w1 ⟨rfl, rfl⟩
        go_wp2_with fail
        refine hy.mono ?_
        rintro e w1 ⟨rfl, rfl⟩
        go_wp2_with fail
        refine hll.mono ?_
        rintro e w1 ⟨rfl, rfl⟩
        go_wp2_with fail
        go_ret
        exact ⟨rfl, Below.refl _ _⟩
end Go.Proofs.YtlcconooojlhhaaDoor
