/- The sorted numbers of a table's processes: slices.Sorted(maps.Keys(t.procs)). Nothing here is conditional. -/
import Derived.Test.YtjhggfpnafhonaaBase
import Derived.Shelf.SlIterI.Nil
import Derived.Shelf.SortM.Plain
import Derived.Shelf.SortM.SortNone
namespace Go.Proofs.Ytjhggfpnafhonaa
open Go.RowKit Go.Maps Go.Sort Go.Shelf

def Try.keysA_ren : Go.Shelf.Ren := ⟨fun | 7 => 22 | 10 => 29 | n => n, fun | 23 => 35 | 26 => 3 | 3 => 39 | 28 => 58 | 0 => 0 | 27 => 57 | 33 => 44 | 4 => 4 | n => n, fun | n => n⟩
theorem Try.keysA : Go.Proofs.SlLaysZI.n7 Try.prog Try.keysA_ren := {
  mixed := by kernel_rfl
  f7 := ⟨Try.f22.name, by decide, Try.func22.trans (congrArg some (by kernel_rfl))⟩
  f10 := ⟨Try.f29.name, by decide, Try.func29.trans (congrArg some (by kernel_rfl))⟩
  t0 := Try.underlying0
  a0 := Try.isAgg0
  z0 := Try.sizeOf0
  v0 := Try.zeroValue0
  t4 := Try.underlying4
  a4 := Try.isAgg4
  z4 := Try.sizeOf4
  v4 := Try.zeroValue4
  t23 := Try.underlying35
  a23 := Try.isAgg35
  z23 := Try.sizeOf35
  v23 := Try.zeroValue35
  t26 := Try.underlying3
  a26 := Try.isAgg3
  z26 := Try.sizeOf3
  v26 := Try.zeroValue3
  t27 := Try.underlying57
  a27 := Try.isAgg57
  z27 := Try.sizeOf57
  v27 := Try.zeroValue57
  t28 := Try.underlying58
  a28 := Try.isAgg58
  z28 := Try.sizeOf58
  v28 := Try.zeroValue58
  t33 := Try.underlying44
  a33 := Try.isAgg44
  z33 := Try.sizeOf44
  v33 := Try.zeroValue44 }

def Try.sortedA_ren : Go.Shelf.Ren := ⟨fun | 6 => 21 | 8 => 27 | 9 => 28 | 11 => 31 | 13 => 33 | 12 => 32 | 23 => 43 | 24 => 44 | 14 => 34 | 15 => 35 | 16 => 36 | 17 => 37 | 18 => 38 | 19 => 39 | 20 => 40 | 21 => 41 | 22 => 42 | 25 => 45 | 26 => 46 | 27 => 47 | 28 => 48 | 29 => 49 | 30 => 50 | 31 => 51 | n => n, fun | 26 => 3 | 28 => 58 | 24 => 42 | 0 => 0 | 3 => 3 | 37 => 50 | 48 => 78 | 50 => 80 | 4 => 4 | 40 => 70 | 39 => 69 | 45 => 75 | 5 => 5 | 9 => 9 | 51 => 81 | 55 => 85 | 57 => 87 | 58 => 88 | 33 => 44 | n => n, fun | n => n⟩
theorem Try.sortedA : Go.Proofs.SlLaysZI.n6 Try.prog Try.sortedA_ren := {
  mixed := by kernel_rfl
  f6 := ⟨Try.f21.name, by decide, Try.func21.trans (congrArg some (by kernel_rfl))⟩
  f8 := ⟨Try.f27.name, by decide, Try.func27.trans (congrArg some (by kernel_rfl))⟩
  f11 := ⟨Try.f31.name, by decide, Try.func31.trans (congrArg some (by kernel_rfl))⟩
  t0 := Try.underlying0
  a0 := Try.isAgg0
  z0 := Try.sizeOf0
  v0 := Try.zeroValue0
  t24 := Try.underlying42
  a24 := Try.isAgg42
  z24 := Try.sizeOf42
  v24 := Try.zeroValue42
  t26 := Try.underlying3
  a26 := Try.isAgg3
  z26 := Try.sizeOf3
  v26 := Try.zeroValue3
  t28 := Try.underlying58
  a28 := Try.isAgg58
  z28 := Try.sizeOf58
  v28 := Try.zeroValue58
  i26 := by kernel_rfl }

def Try.sortA_ren : Go.Shelf.Ren := ⟨fun | 5 => 28 | 8 => 33 | 7 => 32 | 19 => 43 | 20 => 44 | 10 => 34 | 11 => 35 | 12 => 36 | 13 => 37 | 14 => 38 | 15 => 39 | 16 => 40 | 17 => 41 | 18 => 42 | 30 => 45 | 31 => 46 | 32 => 47 | 33 => 48 | 34 => 49 | 35 => 50 | 40 => 51 | n => n, fun | 23 => 42 | 25 => 3 | 3 => 3 | 32 => 50 | 22 => 42 | 0 => 0 | 44 => 78 | 46 => 80 | 4 => 4 | 36 => 70 | 35 => 69 | 41 => 75 | 5 => 5 | 9 => 9 | 53 => 81 | 57 => 85 | 63 => 87 | 64 => 88 | n => n, fun | n => n⟩
theorem Try.sortA : Go.Proofs.SlLaysM.n5 Try.prog Try.sortA_ren := {
  mixed := by kernel_rfl
  f5 := ⟨Try.f28.name, by decide, Try.func28.trans (congrArg some (by kernel_rfl))⟩
  f7 := ⟨Try.f32.name, by decide, Try.func32.trans (congrArg some (by kernel_rfl))⟩
  f8 := Try.func33.trans (congrArg some (by kernel_rfl))
  f10 := ⟨Try.f34.name, by decide, Try.func34.trans (congrArg some (by kernel_rfl))⟩
  f11 := ⟨Try.f35.name, by decide, Try.func35.trans (congrArg some (by kernel_rfl))⟩
  f12 := ⟨Try.f36.name, by decide, Try.func36.trans (congrArg some (by kernel_rfl))⟩
  f13 := ⟨Try.f37.name, by decide, Try.func37.trans (congrArg some (by kernel_rfl))⟩
  f14 := ⟨Try.f38.name, by decide, Try.func38.trans (congrArg some (by kernel_rfl))⟩
  f15 := ⟨Try.f39.name, by decide, Try.func39.trans (congrArg some (by kernel_rfl))⟩
  f16 := ⟨Try.f40.name, by decide, Try.func40.trans (congrArg some (by kernel_rfl))⟩
  f17 := ⟨Try.f41.name, by decide, Try.func41.trans (congrArg some (by kernel_rfl))⟩
  f18 := ⟨Try.f42.name, by decide, Try.func42.trans (congrArg some (by kernel_rfl))⟩
  f19 := Try.func43.trans (congrArg some (by kernel_rfl))
  f20 := Try.func44.trans (congrArg some (by kernel_rfl))
  f30 := ⟨Try.f45.name, by decide, Try.func45.trans (congrArg some (by kernel_rfl))⟩
  f31 := Try.func46.trans (congrArg some (by kernel_rfl))
  f32 := Try.func47.trans (congrArg some (by kernel_rfl))
  f33 := ⟨Try.f48.name, by decide, Try.func48.trans (congrArg some (by kernel_rfl))⟩
  f34 := ⟨Try.f49.name, by decide, Try.func49.trans (congrArg some (by kernel_rfl))⟩
  f35 := ⟨Try.f50.name, by decide, Try.func50.trans (congrArg some (by kernel_rfl))⟩
  f40 := ⟨Try.f51.name, by decide, Try.func51.trans (congrArg some (by kernel_rfl))⟩
  t0 := Try.underlying0
  a0 := Try.isAgg0
  z0 := Try.sizeOf0
  v0 := Try.zeroValue0
  t3 := Try.underlying3
  a3 := Try.isAgg3
  z3 := Try.sizeOf3
  v3 := Try.zeroValue3
  t4 := Try.underlying4
  a4 := Try.isAgg4
  z4 := Try.sizeOf4
  v4 := Try.zeroValue4
  t5 := Try.underlying5
  a5 := Try.isAgg5
  z5 := Try.sizeOf5
  v5 := Try.zeroValue5
  t9 := Try.underlying9
  a9 := Try.isAgg9
  z9 := Try.sizeOf9
  v9 := Try.zeroValue9
  t22 := Try.underlying42
  a22 := Try.isAgg42
  z22 := Try.sizeOf42
  v22 := Try.zeroValue42
  t23 := Try.underlying42
  a23 := Try.isAgg42
  z23 := Try.sizeOf42
  v23 := Try.zeroValue42
  t25 := Try.underlying3
  a25 := Try.isAgg3
  z25 := Try.sizeOf3
  v25 := Try.zeroValue3
  t32 := Try.underlying50
  a32 := Try.isAgg50
  z32 := Try.sizeOf50
  v32 := Try.zeroValue50
  t35 := Try.underlying69
  a35 := Try.isAgg69
  z35 := Try.sizeOf69
  v35 := Try.zeroValue69
  t36 := Try.underlying70
  a36 := Try.isAgg70
  z36 := Try.sizeOf70
  v36 := Try.zeroValue70
  t41 := Try.underlying75
  a41 := Try.isAgg75
  z41 := Try.sizeOf75
  v41 := Try.zeroValue75
  t44 := Try.underlying78
  a44 := Try.isAgg78
  z44 := Try.sizeOf78
  v44 := Try.zeroValue78
  t46 := Try.underlying80
  a46 := Try.isAgg80
  z46 := Try.sizeOf80
  v46 := Try.zeroValue80
  t53 := Try.underlying81
  a53 := Try.isAgg81
  z53 := Try.sizeOf81
  v53 := Try.zeroValue81
  t57 := Try.underlying85
  a57 := Try.isAgg85
  z57 := Try.sizeOf85
  v57 := Try.zeroValue85
  t63 := Try.underlying87
  a63 := Try.isAgg87
  z63 := Try.sizeOf87
  v63 := Try.zeroValue87
  t64 := Try.underlying88
  a64 := Try.isAgg88
  z64 := Try.sizeOf88
  v64 := Try.zeroValue88 }


theorem Try.sortsA (m : Nat) : AnyZI.SortsIn Try.prog Try.sortedA_ren Fence.wide m :=
  ⟨fun blk off cap ss W hH hblk hsz => callsIn_wide.2 (AnyM.slices_Sort_int Try.sortA blk off cap ss W hH hblk hsz),
   fun p cap W => callsIn_wide.2 (AnyM.slices_Sort_int_none Try.sortA p cap W)⟩

theorem keys_call (mb : Option Nat) (W : World) : Calls Try.prog 22 #[.map mb] W fun e w' => e = .returned (.func (.func 29) #[] #[.pointer (some ⟨W.heap.size, 0, none⟩)]) ∧ w' = W.alloc (.cells #[.map mb] 35) :=
  (callsIn_wide (n := 5)).1 (AnyZI.keys_in Try.keysA Fence.wide 5 trivial rfl mb W)

theorem up_sorted {T : List Pr} (h : Up T) : (T.map (·.pid)).mergeSort leI = T.map (·.pid) := by
  apply List.mergeSort_of_pairwise
  refine List.pairwise_map.2 (h.imp ?_)
  intro a b hab
  simp only [leI, decide_eq_true_eq]
  omega

theorem sorted_call (w : World) (b : Nat) (T : List Pr) (h : TMap w b T) (hl : T.length ≤ 100) :
    Calls Try.prog 21 #[.func (.func 29) #[] #[.pointer (some ⟨w.heap.size, 0, none⟩)]] (w.alloc (.cells #[.map (some b)] 35)) fun e w' => ∃ v, e = .returned v ∧
      w'.ownsRow (w.heap.size + 1) 3 1 v T.length (T.map (fun p => encZ p.pid)) ∧ (v = .slice none 0 0 ↔ T = []) ∧ Below (w.heap.size + 1) (w.alloc (.cells #[.map (some b)] 35)) w' := by
  obtain ⟨hown, hup⟩ := h
  have hbl := hown.lt
  have hsz : Maps.size (DataW.map (rows T)) = T.length := rows_size T
  have hseq : SeqGives Fence.wide 2 Try.prog 29 #[.pointer (some ⟨w.heap.size, 0, none⟩)] encZ (fun ss => ss.Perm (intKeys (DataW.map (rows T)))) (Maps.size (DataW.map (rows T))) (w.alloc (.cells #[.map (some b)] 35)) :=
    AnyZI.keys_gives (ρ := Try.keysA_ren) { Try.keysA with } Fence.wide _ trivial rfl (by omega) w.heap.size b T.length _ _ (by simp) (by simp) (by
      obtain ⟨es, clock, hb, Ft, hs, hD⟩ := hown
      exact ⟨es, clock, (Below.heap_alloc _ _ b hbl).trans hb, Ft, hs, hD⟩)
  have cS := AnyZI.sorted_in Try.sortedA Fence.wide 5 trivial trivial trivial trivial rfl (by omega) (Try.sortsA _) (enters_of Try.func28 (by kernel_rfl) rfl) 29 #[.pointer (some ⟨w.heap.size, 0, none⟩)] trivial (enters_of Try.func29 (by kernel_rfl) rfl) _ _ (by rw [hsz]; unfold maxLen; omega) (by rw [hsz]; omega) _ hseq
  change CallsIn _ _ Try.prog 21 _ _ _ at cS
  refine (callsIn_wide.1 cS).mono ?_
  rintro e w' ⟨v, ss, rfl, hS, hrow, hnil, hb⟩
  have hlen : ss.length = T.length := by rw [hS.length_eq, rows_keys]; simp
  refine ⟨v, rfl, ?_, ?_, by simpa using hb⟩
  · have e1 : ss.mergeSort (fun x y => decide (x ≤ y)) = T.map (·.pid) := by
      have := mergeSort_of_perm_i hS
      rw [rows_keys, up_sorted hup] at this
      exact this
    rw [e1, hlen] at hrow
    change World.ownsRow _ _ 3 _ _ _ _ at hrow
    simpa [Function.comp_def] using hrow
  · rw [hnil]
    constructor
    · rintro rfl
      exact List.length_eq_zero_iff.1 hlen.symm
    · rintro rfl
      exact List.length_eq_zero_iff.1 hlen

theorem sorted_call_nil (w : World) : Calls Try.prog 21 #[.func (.func 29) #[] #[.pointer (some ⟨w.heap.size, 0, none⟩)]] (w.alloc (.cells #[.map none] 35)) fun e w' => e = .returned (.slice none 0 0) ∧ Below (w.heap.size + 1) (w.alloc (.cells #[.map none] 35)) w' := by
  have hseq : SeqGives Fence.wide 2 Try.prog 29 #[.pointer (some ⟨w.heap.size, 0, none⟩)] encZ (fun ss : List Int => ss = []) 0 (w.alloc (.cells #[.map none] 35)) :=
    AnyZI.keys_gives_nil (ρ := Try.keysA_ren) { Try.keysA with } Fence.wide _ trivial rfl w.heap.size _ (by simp) (by simp)
  have cS := AnyZI.sorted_in Try.sortedA Fence.wide 5 trivial trivial trivial trivial rfl (by omega) (Try.sortsA _) (enters_of Try.func28 (by kernel_rfl) rfl) 29 #[.pointer (some ⟨w.heap.size, 0, none⟩)] trivial (enters_of Try.func29 (by kernel_rfl) rfl) _ 0 (Nat.zero_le _) (by omega) _ hseq
  change CallsIn _ _ Try.prog 21 _ _ _ at cS
  refine (callsIn_wide.1 cS).mono ?_
  rintro e w' ⟨v, ss, rfl, rfl, hrow, hnil, hb⟩
  exact ⟨by rw [hnil.2 rfl], by simpa using hb⟩
end Go.Proofs.Ytjhggfpnafhonaa
