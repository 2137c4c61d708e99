/- The document's Same, of two rows of pages. No conditions. -/
import Derived.BigQuiet
import Derived.Test.YtacpfkimjaihgaaDoorRSpEq
import Derived.Test.YtacpfkimjaihgaaDoorRClose
namespace Go.Proofs.YtacpfkimjaihgaaDoor
open Go.RowKit
set_option linter.unusedVariables false

theorem take_same {l1 l2 : List (Nat × Sl)} {j : Nat} {x y : Nat × Sl} (h : l1.take j = l2.take j) (hx : l1[j]? = some x) (hy : l2[j]? = some y) : (x = y → l1.take (j + 1) = l2.take (j + 1)) ∧ (x ≠ y → l1 ≠ l2) := by
  obtain ⟨h1, rfl⟩ := List.getElem?_eq_some_iff.1 hx
  obtain ⟨h2, rfl⟩ := List.getElem?_eq_some_iff.1 hy
  refine ⟨fun e => ?_, fun e he => ?_⟩
  · rw [List.take_succ_eq_append_getElem h1, List.take_succ_eq_append_getElem h2, h, e]
  · subst he
    exact e rfl
set_option maxRecDepth 100000 in
set_option maxHeartbeats 4000000 in
theorem same_any (w : World) (b1 b2 n1 n2 c1 c2 : Nat) (a1 a2 : Option Addr) (l1 l2 : List (Nat × Sl)) (e1 : l1.length = n1) (e2 : l2.length = n2) (m1 : n1 ≤ 4096) (m2 : n2 ≤ 4096)
    (h1 : SpAt w b1 (.slice a1 n1 c1) l1 a1 c1) (h2 : SpAt w b2 (.slice a2 n2 c2) l2 a2 c2) :
    Calls Tryd.prog 51 #[.slice a1 n1 c1, .slice a2 n2 c2] w fun e w' => e = .returned (.bool (decide (l1 = l2))) ∧ Below w.heap.size w w' := by
  obtain ⟨v, hv⟩ : ∃ v, decide (l1 = l2) = v := ⟨_, rfl⟩
  rw [hv]
  have HV := Lib.hid hv
  have H1 := Lib.hid h1
  have H2 := Lib.hid h2
  have HE1 := Lib.hid e1
  have HE2 := Lib.hid e2
  by_cases hn : n1 = n2
  · subst hn
    clear h1 h2 e1 e2 hv
    go_enter Tryd.func51, Tryd.ntmps51
    go_wp2_with fail
    go_loopw [5] (fun i wr => ∃ j : Nat, j ≤ n1 ∧ i = .int .i64 j ∧ Hid (l1.take j = l2.take j) ∧ Hid (Below w.heap.size w wr)) (fun i _ => n1 - (intOf i).toNat)
    case atStart => exact ⟨0, by omega, rfl, Lib.hid (by simp), Lib.hid (Below.refl _ _)⟩
    case round =>
      obtain ⟨j, hj, rfl, HT, HB⟩ := hrel
      by_cases hlt : j < n1
      · obtain ⟨x, hx⟩ : ∃ x, l1[j]? = some x := ⟨_, List.getElem?_eq_getElem (by rw [HE1.out]; exact hlt)⟩
        obtain ⟨y, hy⟩ : ∃ y, l2[j]? = some y := ⟨_, List.getElem?_eq_getElem (by rw [HE2.out]; exact hlt)⟩
        obtain ⟨t1, t2⟩ := take_same HT.out hx hy
        have hne := neSp x y
        obtain ⟨g, rfl, g1, g2, g3, g4, g5, g6, g7, g8⟩ := (H1.out.mods (S := []) (Mods.of_below HB.out) (fun k hk => by simp at hk)).six j x hx
        obtain ⟨k, rfl, k1, k2, k3, k4, k5, k6, k7, k8⟩ := (H2.out.mods (S := []) (Mods.of_below HB.out) (fun k hk => by simp at hk)).six j y hy
        rw [spEq_iff] at hne
        have hc1 := H1.out.cap
        have hc2 := H2.out.cap
        rw [HE1.out] at hc1
        rw [HE2.out] at hc2
        by_cases hxy : x = y
        · have HT2 := Lib.hid (t1 hxy)
          rw [decide_eq_true hxy] at hne
          clear t1 t2 hxy hx hy
          obtain ⟨P, q1, q2, q3, q4, q5⟩ := x
          obtain ⟨R, r1, r2, r3, r4, r5⟩ := y
          simp only [spotL, Bool.not_true] at hne
          simp only at g3 g4 g5 g6 g7 g8 k3 k4 k5 k6 k7 k8
          go_wp2_with fail
          go_quiet (fail)
          go_wp2_with fail
          refine ⟨⟨j + 1, by omega, by simp, HT2, Lib.hid (HB.out.drewN' _)⟩, by simp [intOf]; omega⟩
        · have hvf : false = v := by
            rw [← HV.out]
            exact (decide_eq_false (t2 hxy)).symm
          subst hvf
          rw [decide_eq_false hxy] at hne
          clear t1 t2 hxy hx hy
          obtain ⟨P, q1, q2, q3, q4, q5⟩ := x
          obtain ⟨R, r1, r2, r3, r4, r5⟩ := y
          simp only [spotL, Bool.not_false] at hne
          simp only at g3 g4 g5 g6 g7 g8 k3 k4 k5 k6 k7 k8
          go_wp2_with fail
          go_quiet (fail)
          go_wp2_with fail
          go_ret
          exact ⟨rfl, HB.out.drewN' _⟩
      · obtain rfl : j = n1 := by omega
        have hvt : true = v := by
          rw [← HV.out]
          have := HT.out
          rw [List.take_of_length_le (by rw [HE1.out]; exact Nat.le_refl _), List.take_of_length_le (by rw [HE2.out]; exact Nat.le_refl _)] at this
          exact (decide_eq_true this).symm
        subst hvt
        go_wp2_with fail
        go_ret
        exact ⟨rfl, HB.out⟩
  · have hvf : false = v := by
      rw [← hv]
      refine (decide_eq_false fun e => hn ?_).symm
      rw [← e1, ← e2, e]
    subst hvf
    have hn' : ¬ ((n1 : Int) = n2) := by omega
    clear h1 h2 e1 e2 hv
    go_enter Tryd.func51, Tryd.ntmps51
    go_wp2_with fail
    go_ret
    exact ⟨rfl, Below.refl _ _⟩
end Go.Proofs.YtacpfkimjaihgaaDoor
