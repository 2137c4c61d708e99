/- The document's layer 2: Compare and Pick. -/
import Derived.Test.YtlcconooojlhhaaDoorRefOrd
namespace Go.Proofs.YtlcconooojlhhaaDoor
open Go.RowKit
set_option linter.unusedVariables false
set_option maxHeartbeats 2000000

theorem rcompare_any (w : World) (k a b : Int) (hk : 1 ≤ k ∧ k ≤ 9) (ha0 : 0 ≤ a) (ha1 : a < 18446744073709551616) (hb0 : 0 ≤ b) (hb1 : b < 18446744073709551616) :
    Calls Tryd.prog 20 #[.int .i64 k, .int .u64 a, .int .u64 b] w fun e w' => e = .returned (.int .i64 (cmpC k (clipOf k a) (clipOf k b))) ∧ Below w.heap.size w w' := by
  have hz : (widthOf k == 0) = false := by simp only [beq_eq_false_iff_ne, ne_eq, widthOf_zero]; omega
  have hwd := rwidth_any w k
  have hcx := rclip_any w k a ha0 ha1
  have hcy := rclip_any w k b hb0 hb1
  have hxr := clipOf_range (k := k) ha0 ha1
  have hyr := clipOf_range (k := k) hb0 hb1
  generalize widthOf k = wk at *
  generalize clipOf k a = x at *
  generalize clipOf k b = y at *
  by_cases h9 : k = 9
  · subst h9
    have hnx := rnan_any w x hxr.1 hxr.2
    have hny := rnan_any w y hyr.1 hyr.2
    rw [cmpC, if_pos rfl]
    cases e1 : nan64 x.toNat
    · cases e2 : nan64 y.toNat
      · rw [cmpF_key e1 e2]
        have rx := rank_z hxr.1 hxr.2
        have ry := rank_z hyr.1 hyr.2
        have ho := ordOf_cmp rx.2.1 ry.2.1 rx.2.2 ry.2.2
        rw [rx.1, ry.1] at ho
        rw [← ho]
        rw [e1] at hnx
        rw [e2] at hny
        have hr1 := fun W => rrank_any W x hxr.1 hxr.2
        have hr2 := fun W => rrank_any W y hyr.1 hyr.2
        generalize rankRef x = p1 at *
        generalize rankRef y = p2 at *
        obtain ⟨m1, n1⟩ := p1
        obtain ⟨m2, n2⟩ := p2
        have hor := fun W => rorder_any W m1 m2 n1 n2
        simp only [numV] at hr1 hr2
        generalize ordOf (m1, n1) (m2, n2) = z at *
        clear ho rx ry e1 e2 hk
        go_enter Tryd.func20, Tryd.ntmps20
        go_wp2_with fail
        refine hwd.mono ?_
        rintro e w1 ⟨rfl, rfl⟩
        go_wp2_with fail
        refine hcx.mono ?_
        rintro e w1 ⟨rfl, rfl⟩
        go_wp2_with fail
        refine hcy.mono ?_
        rintro e w1 ⟨rfl, rfl⟩
        go_wp2_with fail
        refine hnx.mono ?_
        rintro e w1 ⟨rfl, rfl⟩
        go_wp2_with fail
        refine hny.mono ?_
        rintro e w1 ⟨rfl, rfl⟩
        go_wp2_with fail
        refine (hr1 w).mono ?_
        rintro e w2 ⟨rfl, q2⟩
        have b2 := q2
        have z2 := b2.size
        go_wp2_with fail
        refine (hr2 w2).mono ?_
        rintro e w3 ⟨rfl, q3⟩
        have b3 := b2.trans (q3.mono z2)
        have z3 := b3.size
        go_wp2_with fail
        refine (hor w3).mono ?_
        rintro e w4 ⟨rfl, q4⟩
        have b4 := b3.trans (q4.mono z3)
        have z4 := b4.size
        go_wp2_with fail
        all_goals (go_ret; exact ⟨rfl, b4⟩)
      · rw [cmpF, if_pos (.inr e2)]
        rw [e1] at hnx
        rw [e2] at hny
        clear e1 e2 hk
        go_enter Tryd.func20, Tryd.ntmps20
        go_wp2_with fail
        refine hwd.mono ?_
        rintro e w1 ⟨rfl, rfl⟩
        go_wp2_with fail
        refine hcx.mono ?_
        rintro e w1 ⟨rfl, rfl⟩
        go_wp2_with fail
        refine hcy.mono ?_
        rintro e w1 ⟨rfl, rfl⟩
        go_wp2_with fail
        refine hnx.mono ?_
        rintro e w1 ⟨rfl, rfl⟩
        go_wp2_with fail
        refine hny.mono ?_
        rintro e w1 ⟨rfl, rfl⟩
        go_wp2_with fail
        all_goals (go_ret; exact ⟨rfl, Below.refl _ _⟩)
    · rw [cmpF, if_pos (.inl e1)]
      rw [e1] at hnx
      clear e1 hny hk
      go_enter Tryd.func20, Tryd.ntmps20
      go_wp2_with fail
      refine hwd.mono ?_
      rintro e w1 ⟨rfl, rfl⟩
      go_wp2_with fail
      refine hcx.mono ?_
      rintro e w1 ⟨rfl, rfl⟩
      go_wp2_with fail
      refine hcy.mono ?_
      rintro e w1 ⟨rfl, rfl⟩
      go_wp2_with fail
      refine hnx.mono ?_
      rintro e w1 ⟨rfl, rfl⟩
      go_wp2_with fail
      all_goals (go_ret; exact ⟨rfl, Below.refl _ _⟩)
  · have hne : (k == (9 : Int)) = false := by simpa using h9
    have rx := number_z (k := k) hxr.1 hxr.2
    have ry := number_z (k := k) hyr.1 hyr.2
    have ho := ordOf_cmp rx.2.1 ry.2.1 rx.2.2 ry.2.2
    have hcc : cmpC k x y = ordOf (numRef k x) (numRef k y) := by
      rw [ho, rx.1, ry.1, cmpC, if_neg h9]
      split <;> rfl
    rw [hcc]
    have hr1 := fun W => rnumber_any W k x hxr.1 hxr.2
    have hr2 := fun W => rnumber_any W k y hyr.1 hyr.2
    generalize numRef k x = p1 at *
    generalize numRef k y = p2 at *
    obtain ⟨m1, n1⟩ := p1
    obtain ⟨m2, n2⟩ := p2
    have hor := fun W => rorder_any W m1 m2 n1 n2
    simp only [numV] at hr1 hr2
    generalize ordOf (m1, n1) (m2, n2) = z at *
    clear ho hcc rx ry h9 hk
    go_enter Tryd.func20, Tryd.ntmps20
    go_wp2_with fail
    refine hwd.mono ?_
    rintro e w1 ⟨rfl, rfl⟩
    go_wp2_with fail
    refine hcx.mono ?_
    rintro e w1 ⟨rfl, rfl⟩
    go_wp2_with fail
    refine hcy.mono ?_
    rintro e w1 ⟨rfl, rfl⟩
    go_wp2_with fail
    refine (hr1 w).mono ?_
    rintro e w2 ⟨rfl, q2⟩
    have b2 := q2
    have z2 := b2.size
    go_wp2_with fail
    refine (hr2 w2).mono ?_
    rintro e w3 ⟨rfl, q3⟩
    have b3 := b2.trans (q3.mono z2)
    have z3 := b3.size
    go_wp2_with fail
    refine (hor w3).mono ?_
    rintro e w4 ⟨rfl, q4⟩
    have b4 := b3.trans (q4.mono z3)
    have z4 := b4.size
    go_wp2_with fail
    all_goals (go_ret; exact ⟨rfl, b4⟩)
theorem rpick_any (w : World) (k a b : Int) (least : Bool) (hk : 1 ≤ k ∧ k ≤ 9) (ha0 : 0 ≤ a) (ha1 : a < 18446744073709551616) (hb0 : 0 ≤ b) (hb1 : b < 18446744073709551616) :
    Calls Tryd.prog 22 #[.int .i64 k, .int .u64 a, .int .u64 b, .bool least] w fun e w' => e = .returned (.int .u64 (if least = true then leastOf k (clipOf k a) (clipOf k b) else greatestOf k (clipOf k a) (clipOf k b))) ∧ Below w.heap.size w w' := by
  have hcm := rcompare_any w k a b hk ha0 ha1 hb0 hb1
  have hcx := fun W => rclip_any W k a ha0 ha1
  have hcy := fun W => rclip_any W k b hb0 hb1
  have hxr := clipOf_range (k := k) ha0 ha1
  have hyr := clipOf_range (k := k) hb0 hb1
  generalize clipOf k a = x at *
  generalize clipOf k b = y at *
  have hv : cmpC k x y = 2 ∨ cmpC k x y = -1 ∨ (cmpC k x y = 0 ∧ (x = y ∨ (x ≠ y ∧ k = 9))) ∨ cmpC k x y = 1 := by
    rw [cmpC_rank]
    by_cases hn : isNum k x ∧ isNum k y
    · rw [if_pos hn]
      rcases cmpOf_vals (rankOf k x) (rankOf k y) with ⟨h1, h2⟩ | ⟨h1, h2⟩ | ⟨h1, h2⟩
      · exact .inr (.inl h2)
      · refine .inr (.inr (.inl ⟨h2, ?_⟩))
        by_cases hxy : x = y
        · exact .inl hxy
        · rcases rankOf_inj hxr.1 hxr.2 hyr.1 hyr.2 h1 with h3 | h3
          · exact absurd h3 hxy
          · exact .inr ⟨hxy, h3.1⟩
      · exact .inr (.inr (.inr h2))
    · rw [if_neg hn]; exact .inl rfl
  unfold leastOf greatestOf pickOf
  dsimp only
  generalize cmpC k x y = c at *
  clear hxr hyr
  rcases hv with rfl | rfl | ⟨rfl, rfl | ⟨hxy, rfl⟩⟩ | rfl
  · cases least
    all_goals
      simp only [if_true, ite_self]
      go_enter Tryd.func22, Tryd.ntmps22
      go_wp2_with fail
      refine hcm.mono ?_
      rintro e w2 ⟨rfl, q2⟩
      have b2 := q2
      have z2 := b2.size
      go_wp2_with fail
      refine (hcx _).mono ?_
      rintro e w1 ⟨rfl, rfl⟩
      go_wp2_with fail
      refine (hcy _).mono ?_
      rintro e w1 ⟨rfl, rfl⟩
      go_wp2_with fail
      all_goals (go_ret; exact ⟨rfl, b2⟩)
  · cases least
    all_goals
      simp
      go_enter Tryd.func22, Tryd.ntmps22
      go_wp2_with fail
      refine hcm.mono ?_
      rintro e w2 ⟨rfl, q2⟩
      have b2 := q2
      have z2 := b2.size
      go_wp2_with fail
      refine (hcx _).mono ?_
      rintro e w1 ⟨rfl, rfl⟩
      go_wp2_with fail
      refine (hcy _).mono ?_
      rintro e w1 ⟨rfl, rfl⟩
      go_wp2_with fail
      all_goals (go_ret; exact ⟨rfl, b2⟩)
  · cases least
    all_goals
      simp
      go_enter Tryd.func22, Tryd.ntmps22
      go_wp2_with fail
      refine hcm.mono ?_
      rintro e w2 ⟨rfl, q2⟩
      have b2 := q2
      have z2 := b2.size
      go_wp2_with fail
      refine (hcx _).mono ?_
      rintro e w1 ⟨rfl, rfl⟩
      go_wp2_with fail
      refine (hcy _).mono ?_
      rintro e w1 ⟨rfl, rfl⟩
      go_wp2_with fail
      all_goals (go_ret; exact ⟨rfl, b2⟩)
  · have hne : (x != y) = true := by simpa using hxy
    cases least
    all_goals
      simp [hxy]
      go_enter Tryd.func22, Tryd.ntmps22
      go_wp2_with fail
      refine hcm.mono ?_
      rintro e w2 ⟨rfl, q2⟩
      have b2 := q2
      have z2 := b2.size
      go_wp2_with fail
      refine (hcx _).mono ?_
      rintro e w1 ⟨rfl, rfl⟩
      go_wp2_with fail
      refine (hcy _).mono ?_
      rintro e w1 ⟨rfl, rfl⟩
      go_wp2_with fail
      all_goals (go_ret; exact ⟨rfl, b2⟩)
  · cases least
    all_goals
      simp
      go_enter Tryd.func22, Tryd.ntmps22
      go_wp2_with fail
      refine hcm.mono ?_
      rintro e w2 ⟨rfl, q2⟩
      have b2 := q2
      have z2 := b2.size
      go_wp2_with fail
      refine (hcx _).mono ?_
      rintro e w1 ⟨rfl, rfl⟩
      go_wp2_with fail
      refine (hcy _).mono ?_
      rintro e w1 ⟨rfl, rfl⟩
      go_wp2_with fail
      all_goals (go_ret; exact ⟨rfl, b2⟩)
end Go.Proofs.YtlcconooojlhhaaDoor
