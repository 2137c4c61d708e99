/- The sorted numbers of a table's processes: slices.Sorted(maps.Keys(t.procs)). Nothing here is conditional. -/
import Derived.Test.YtjhggfpnafhonaaBase
import Derived.Shelf.SlIterI.Nil
import Derived.Shelf.SortM.Plain
import Derived.Shelf.SortM.SortNone
import Derived.Ground.GgzProg
import Derived.Ground.SlgmProg
namespace Go.Proofs.Ytjhggfpnafhonaa
open Go.RowKit Go.Maps Go.Sort Go.Shelf

shelf_lay_g SlLaysZI.n7 Ggz 7 at Try 22 as Try.keysA
shelf_lay_g SlLaysZI.n6 Ggz 6 at Try 21 as Try.sortedA
shelf_lay_g SlLaysM.n5 Slgm 5 at Try 28 as Try.sortA

theorem Try.sortsA (m : Nat) : AnyZI.SortsIn Try.prog Try.sortedA_ren Fence.wide m :=
  ⟨fun blk off cap ss W hH hblk hsz => callsIn_wide.2 (AnyM.slices_Sort_int Try.sortA blk off cap ss W hH hblk hsz),
   fun p cap W => callsIn_wide.2 (AnyM.slices_Sort_int_none Try.sortA p cap W)⟩

theorem keys_call (mb : Option Nat) (W : World) : Calls Try.prog 22 #[.map mb] W fun e w' => e = .returned (.func (.func 29) #[] #[.pointer (some ⟨W.heap.size, 0, none⟩)]) ∧ w' = W.alloc (.cells #[.map mb] 35) :=
  (callsIn_wide (n := 5)).1 (AnyZI.keys_in Try.keysA Fence.wide 5 trivial rfl mb W)

theorem up_sorted {T : List Pr} (h : Up T) : (T.map (·.pid)).mergeSort leI = T.map (·.pid) := by
  apply List.mergeSort_of_pairwise
  refine List.pairwise_map.2 (h.imp ?_)
  intro a b hab
  simp only [leI, decide_eq_true_eq]
  omega

theorem sorted_call (w : World) (b : Nat) (T : List Pr) (h : TMap w b T) (hl : T.length ≤ 100) :
    Calls Try.prog 21 #[.func (.func 29) #[] #[.pointer (some ⟨w.heap.size, 0, none⟩)]] (w.alloc (.cells #[.map (some b)] 35)) fun e w' => ∃ v, e = .returned v ∧
      w'.ownsRow (w.heap.size + 1) 3 1 v T.length (T.map (fun p => encZ p.pid)) ∧ (v = .slice none 0 0 ↔ T = []) ∧ Below (w.heap.size + 1) (w.alloc (.cells #[.map (some b)] 35)) w' := by
  obtain ⟨hown, hup⟩ := h
  have hbl := hown.lt
  have hsz : Maps.size (DataW.map (rows T)) = T.length := rows_size T
  have hseq : SeqGives Fence.wide 2 Try.prog 29 #[.pointer (some ⟨w.heap.size, 0, none⟩)] encZ (fun ss => ss.Perm (intKeys (DataW.map (rows T)))) (Maps.size (DataW.map (rows T))) (w.alloc (.cells #[.map (some b)] 35)) :=
    AnyZI.keys_gives (ρ := Try.keysA_ren) { Try.keysA with } Fence.wide _ trivial rfl (by omega) w.heap.size b T.length _ _ (by simp) (by simp) (by
      obtain ⟨es, clock, hb, Ft, hs, hD⟩ := hown
      exact ⟨es, clock, (Below.heap_alloc _ _ b hbl).trans hb, Ft, hs, hD⟩)
  have cS := AnyZI.sorted_in Try.sortedA Fence.wide 5 trivial trivial trivial trivial rfl (by omega) (Try.sortsA _) (enters_of Try.func28 (by kernel_rfl) rfl) 29 #[.pointer (some ⟨w.heap.size, 0, none⟩)] trivial (enters_of Try.func29 (by kernel_rfl) rfl) _ _ (by rw [hsz]; unfold maxLen; omega) (by rw [hsz]; omega) _ hseq
  change CallsIn _ _ Try.prog 21 _ _ _ at cS
  refine (callsIn_wide.1 cS).mono ?_
  rintro e w' ⟨v, ss, rfl, hS, hrow, hnil, hb⟩
  have hlen : ss.length = T.length := by rw [hS.length_eq, rows_keys]; simp
  refine ⟨v, rfl, ?_, ?_, by simpa using hb⟩
  · have e1 : ss.mergeSort (fun x y => decide (x ≤ y)) = T.map (·.pid) := by
      have := mergeSort_of_perm_i hS
      rw [rows_keys, up_sorted hup] at this
      exact this
    rw [e1, hlen] at hrow
    change World.ownsRow _ _ 3 _ _ _ _ at hrow
    simpa [Function.comp_def] using hrow
  · rw [hnil]
    constructor
    · rintro rfl
      exact List.length_eq_zero_iff.1 hlen.symm
    · rintro rfl
      exact List.length_eq_zero_iff.1 hlen

theorem sorted_call_nil (w : World) : Calls Try.prog 21 #[.func (.func 29) #[] #[.pointer (some ⟨w.heap.size, 0, none⟩)]] (w.alloc (.cells #[.map none] 35)) fun e w' => e = .returned (.slice none 0 0) ∧ Below (w.heap.size + 1) (w.alloc (.cells #[.map none] 35)) w' := by
  have hseq : SeqGives Fence.wide 2 Try.prog 29 #[.pointer (some ⟨w.heap.size, 0, none⟩)] encZ (fun ss : List Int => ss = []) 0 (w.alloc (.cells #[.map none] 35)) :=
    AnyZI.keys_gives_nil (ρ := Try.keysA_ren) { Try.keysA with } Fence.wide _ trivial rfl w.heap.size _ (by simp) (by simp)
  have cS := AnyZI.sorted_in Try.sortedA Fence.wide 5 trivial trivial trivial trivial rfl (by omega) (Try.sortsA _) (enters_of Try.func28 (by kernel_rfl) rfl) 29 #[.pointer (some ⟨w.heap.size, 0, none⟩)] trivial (enters_of Try.func29 (by kernel_rfl) rfl) _ 0 (Nat.zero_le _) (by omega) _ hseq
  change CallsIn _ _ Try.prog 21 _ _ _ at cS
  refine (callsIn_wide.1 cS).mono ?_
  rintro e w' ⟨v, ss, rfl, rfl, hrow, hnil, hb⟩
  exact ⟨by rw [hnil.2 rfl], by simpa using hb⟩
end Go.Proofs.Ytjhggfpnafhonaa
