/- children, of a table. Nothing here is conditional. -/
import Derived.Test.YtjhggfpnafhonaaDelWalk
namespace Go.Proofs.Ytjhggfpnafhonaa
open Go.RowKit Go.Maps

theorem all_ne (w : World) (t b : Nat) (T : List Pr) (hT : Tab w t b T) (hl : T.length ≤ 100) (hwf : Wf T) (hne : T ≠ []) :
    Calls Try.prog 13 #[.pointer (some ⟨t, 0, none⟩)] w fun e w' => ∃ g cap cur, e = .returned (.slice (some ⟨g, 0, none⟩) T.length cap) ∧ w.heap.size ≤ g ∧ w'.heap[g]? = some (.cells cur 39 (0, 0)) ∧ T.length ≤ cap ∧ cur.size = cap * 4 ∧ cur.toList.take (T.length * 4) = cellsOf T ∧ Below w.heap.size w w' := by
  refine (all_any w t b T hT hl hwf).mono ?_
  rintro e w1 ⟨v, rfl, hrow, hb⟩
  rcases hrow.2 with ⟨rfl, hn⟩ | ⟨g, cap, cur, rfl, hbg, hg, hcap, _, hs, htk⟩
  · exact absurd (List.length_eq_zero_iff.1 hn) hne
  · exact ⟨g, cap, cur, rfl, hbg, hg, hcap, hs, htk, hb⟩

set_option maxHeartbeats 1000000 in
theorem children_any (w : World) (t b : Nat) (T : List Pr) (hT : Tab w t b T) (hl : T.length ≤ 100) (hwf : Wf T) (hne : T ≠ []) (k : Int) :
    Calls Try.prog 18 #[.pointer (some ⟨t, 0, none⟩), .int .i64 k] w fun e w' => ∃ g c, e = .returned (.slice (some ⟨g, 0, none⟩) (T.filter (keepP k)).length c) ∧ w.heap.size ≤ g ∧ g < w'.heap.size ∧ PrsAt w' g (T.filter (keepP k)) ∧ Below w.heap.size w w' := by
  have ht := hT.lt
  have hbl := hT.2.1.lt
  have hT1 : Tab (w.alloc (.cells #[.int .i64 k] 3)) t b T := hT.below ((Below.refl _ w).alloc (Nat.le_refl _) _) ht hbl
  have hn0 := cell_of_row (w.alloc (.cells #[.int .i64 k] 3)) w.heap.size 0 _ _ _ (heap_alloc_new _ _)
  go_enter Try.func18, Try.ntmps18
  go_wp2_with (first
    | (
      go_at_call 13; refine (all_ne _ t b T hT1 hl hwf hne).mono ?_; rintro e w1 ⟨g, cap, cur, rfl, hbg, hg, hcap, hs, htk, hb⟩;
      have s1 := hb.size;
      simp only [World.size_alloc] at s1 hbg;
      have hB := (hb.cell (p := ⟨w.heap.size, 0, none⟩) (by simp)).trans hn0)
    | (
      go_at_call 25; refine (delete_any _ g cap T hl hcap cur hg hs htk w.heap.size k hB (by omega)).mono ?_; rintro e w2 ⟨rfl, hp, hm⟩))
  go_ret
  have hgl := lt_of_block hg
  have s2 := hm.size
  refine ⟨g, cap, rfl, by omega, by omega, hp, ?_⟩
  have h1 : Below w.heap.size w w1 := ((Below.refl _ w).alloc (Nat.le_refl _) _).trans (hb.mono (by simp))
  exact h1.trans (hm.below (by omega) (fun j hj => by simp at hj; omega))
end Go.Proofs.Ytjhggfpnafhonaa
