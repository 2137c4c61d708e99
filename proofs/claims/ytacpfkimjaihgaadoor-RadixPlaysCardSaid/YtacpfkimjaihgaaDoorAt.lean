/- Package frames: Load, Store. -/
import Derived.Test.YtacpfkimjaihgaaDoorHeld
import Derived.StillTailTactics
namespace Go.Proofs.YtacpfkimjaihgaaDoor
open Go.RowKit

theorem below4 (w : World) (A B C D : Obj) : Below w.heap.size w ((((w.alloc A).alloc B).alloc C).alloc D) := (((below2 w A B).alloc (by simp; omega) C).alloc (by simp; omega) D)
theorem below5 (w : World) (A B C D E : Obj) : Below w.heap.size w (((((w.alloc A).alloc B).alloc C).alloc D).alloc E) := (below4 w A B C D).alloc (by simp; omega) E
theorem lt5 {p n : Nat} (h : p < n) : p < n + 1 ∧ p < n + 1 + 1 ∧ p < n + 1 + 1 + 1 ∧ p < n + 1 + 1 + 1 + 1 ∧ p < n + 1 + 1 + 1 + 1 + 1 := by omega
theorem part_length {s : List UInt8} {a n : Nat} (h : s.length = 64) (ha : a + n ≤ 64) : ((s.drop a).take n).length = n := by simp [h]; omega
theorem load_nil (w : World) (f a k : Int) : Calls Tryd.prog 22 #[.pointer none, .int .i64 f, .int .i64 a, .int .i64 k] w fun e w' => e = .returned (.tuple #[.int .u64 0, .int .i64 1]) ∧ Below w.heap.size w w' := by
  go_enter Tryd.func22, Tryd.ntmps22
  go_wp2_with (first | (go_at_call 63; refine (with_nil _ f _).mono ?_; rintro e w1 ⟨rfl, rfl⟩) | go_in)
  go_ret2
  exact ⟨rfl, below5 w _ _ _ _ _⟩
theorem load_bad (w : World) (p bb hb : Nat) (S : List (List UInt8)) (H : List Int) (fr : Int) (f a k : Int) (hf : asked H f ≠ 0) (h : PA w p bb hb S H fr) : Calls Tryd.prog 22 #[.pointer (some ⟨p, 0, none⟩), .int .i64 f, .int .i64 a, .int .i64 k] w fun e w' => e = .returned (.tuple #[.int .u64 0, .int .i64 (asked H f)]) ∧ Below w.heap.size w w' := by
  go_enter Tryd.func22, Tryd.ntmps22
  go_wp2_with (first | (go_at_call 63; refine (with_bad _ p bb hb S H fr f _ hf (h.below (below5 w _ _ _ _ _) (Nat.le_refl _))).mono ?_; rintro e w1 ⟨rfl, rfl⟩) | go_in)
  go_ret2
  exact ⟨rfl, below5 w _ _ _ _ _⟩
set_option maxRecDepth 100000 in
set_option maxHeartbeats 1000000 in
theorem load_ok (w : World) (p bb hb : Nat) (S : List (List UInt8)) (H : List Int) (fr : Int) (k a n : Nat) (kind : Int) (hw : Wd w) (hk : k < H.length) (hS : k < S.length) (hz : H[k] ≠ 0) (hn0 : 0 < n) (hn8 : n ≤ 8) (hwd : widthOf kind = n) (hat : a + n ≤ 64) (h : PA w p bb hb S H fr) :
    Calls Tryd.prog 22 #[.pointer (some ⟨p, 0, none⟩), .int .i64 k, .int .i64 a, .int .i64 kind] w fun e w' => e = .returned (.tuple #[.int .u64 (clipOf kind (leV ((S[k].drop a).take n))), .int .i64 0]) ∧ Below w.heap.size w w' := by
  have c1 := h.c1
  have ct := h.at hk
  have hsm := h.small
  obtain ⟨ha, hbb, hhb⟩ := h.lt
  have ⟨ha1, ha2, ha3, ha4, ha5⟩ := lt5 ha
  have ⟨hb1, hb2, hb3, hb4, hb5⟩ := lt5 hhb
  have HA := Lib.hid h
  have HW := Lib.hid hw
  have h64 : (S[k]).length = 64 := h.each _ (List.getElem_mem hS)
  have hne : (H[k] == 0) = false := by simp [hz]
  have hwn : ((n : Int) == 0) = false := by simp; omega
  have hwr : IntKind.i64.wrap ((a : Int) + n) = (a : Int) + n := by rw [IntKind.wrap_i64]; omega
  have hle0 : 0 ≤ (a : Int) + n := by omega
  have hle : (a : Int) + n ≤ ((H.length * 64 - k * 64 : Nat) : Int) := by omega
  have hle2 : ((a : Int) + n).toNat = a + n := by omega
  have hle3 : a ≤ a + n := by omega
  have hle4 : a + n - a = n := by omega
  have hna : ¬ H.length * 64 - k * 64 = a := by omega
  have hwi : withinB a n 64 = true := decide_eq_true ⟨by omega, by omega, by omega, by omega⟩
  have hcv := run_string_of (P := Tryd.prog) Tryd.underlying64 Tryd.underlying5 Tryd.underlying9 (((((w.alloc (Obj.cells #[Value.int IntKind.i64 kind] 3)).alloc (Obj.cells #[Value.int IntKind.u64 0] 26)).alloc (Obj.cells #[Value.int IntKind.i64 a] 3)).alloc (Obj.cells #[Value.int IntKind.i64 kind] 3)).alloc (Obj.cells #[Value.func (Fn.func 68) #[] #[Value.pointer (some ⟨w.heap.size, 0, none⟩), Value.pointer (some ⟨w.heap.size + 1, 0, none⟩)]] 108)).drew bb (k * 64 + a) n (H.length * 64 - k * 64 - a) ((S[k].drop a).take n) (part_length h64 hat) (fun j hj => by
    rw [((below5 w _ _ _ _ _).drew).cell (p := ⟨bb, k * 64 + a + j, none⟩) hbb]
    have hj2 : j < n := by rwa [part_length h64 hat] at hj
    rw [show k * 64 + a + j = k * 64 + (a + j) from by omega, h.cell hS (show a + j < S[k].length by omega)]
    simp)
  have hrd : readOf kind ⟨((S[k].drop a).take n).toArray⟩ = (clipOf kind (leV ((S[k].drop a).take n)), 0) := by
    rw [readOf, if_neg (by omega), if_neg (by rw [hwd, show ByteArray.size ⟨((S[k].drop a).take n).toArray⟩ = ((S[k].drop a).take n).length from by simp [ByteArray.size], part_length h64 hat]; simp)]
  generalize ((S[k].drop a).take n) = part at hcv hrd ⊢
  clear h hz hw h64
  obtain ⟨v, hv⟩ : ∃ v, v = H[k] := ⟨_, rfl⟩
  rw [← hv] at ct hne
  clear hv
  go_enter Tryd.func22, Tryd.ntmps22
  go_wp2_with (first | (go_at_call 62; refine (frame_any _ p bb hb S H fr k hk (HA.out.below (below5 w _ _ _ _ _) (Nat.le_refl _))).mono ?_; rintro e w1 ⟨rfl, rfl⟩) | (go_at_call 91; refine (width_any _ (HW.out.below (below5 w _ _ _ _ _) (Nat.le_refl _)) kind).mono ?_; rintro e w1 ⟨rfl, rfl⟩; rw [hwd]) | (go_at_call 92; refine (within_any _ a n 64 (by decide) (by decide)).mono ?_; rintro e w1 ⟨rfl, rfl⟩; rw [hwi]) | go_in)
  refine wp_region_still_tail 7 (by kernel_rfl) (by kernel_rfl) ?_
  simp only [List.take_succ_cons, List.take_zero, List.drop_succ_cons, List.drop_zero]
  change wpStill _ _ (World.drew _) (fun a' => wpList _ _ _ _ a' (World.drew _)) _ _
  refine wpStill_step (fun K hK => ?_)
  go_simp
  refine hK _ ?_
  clear hK K
  still_step
  still_step
  still_step
  still_step
  still_step
  refine wpStill_step (fun K hK => ?_)
  go_simp
  refine hK _ ?_
  clear hK K
  refine wpStill_nil ?_
  go_wp2_with (first | (go_at_call 69; refine (read_word _ (HW.out.below (below5 w _ _ _ _ _).drew (Nat.le_refl _)) kind _).mono ?_; rintro e w1 ⟨rfl, rfl⟩; rw [hrd]; dsimp only) | go_in)
  go_end0
  simp only []
  go_wp2_with fail
  go_ret2
  exact ⟨rfl, (below5 w _ _ _ _ _).drew⟩

set_option maxRecDepth 100000 in
set_option maxHeartbeats 1000000 in
theorem load_kind (w : World) (p bb hb : Nat) (S : List (List UInt8)) (H : List Int) (fr : Int) (k : Nat) (a kind : Int) (hw : Wd w) (hk : k < H.length) (hz : H[k] ≠ 0) (hwd : widthOf kind = 0) (h : PA w p bb hb S H fr) :
    Calls Tryd.prog 22 #[.pointer (some ⟨p, 0, none⟩), .int .i64 k, .int .i64 a, .int .i64 kind] w fun e w' => e = .returned (.tuple #[.int .u64 0, .int .i64 1]) ∧ Below w.heap.size w w' := by
  have c1 := h.c1
  have ct := h.at hk
  have hsm := h.small
  obtain ⟨ha, hbb, hhb⟩ := h.lt
  have ⟨ha1, ha2, ha3, ha4, ha5⟩ := lt5 ha
  have ⟨hb1, hb2, hb3, hb4, hb5⟩ := lt5 hhb
  have HA := Lib.hid h
  have HW := Lib.hid hw
  have hne : (H[k] == 0) = false := by simp [hz]
  clear h hz hw
  obtain ⟨v, hv⟩ : ∃ v, v = H[k] := ⟨_, rfl⟩
  rw [← hv] at ct hne
  clear hv
  go_enter Tryd.func22, Tryd.ntmps22
  go_wp2_with (first | (go_at_call 62; refine (frame_any _ p bb hb S H fr k hk (HA.out.below (below5 w _ _ _ _ _) (Nat.le_refl _))).mono ?_; rintro e w1 ⟨rfl, rfl⟩) | (go_at_call 91; refine (width_any _ (HW.out.below (below5 w _ _ _ _ _) (Nat.le_refl _)) kind).mono ?_; rintro e w1 ⟨rfl, rfl⟩; rw [hwd]) | go_in)
  go_ret2
  exact ⟨rfl, below5 w _ _ _ _ _⟩
set_option maxRecDepth 100000 in
set_option maxHeartbeats 1000000 in
theorem load_far (w : World) (p bb hb : Nat) (S : List (List UInt8)) (H : List Int) (fr : Int) (k : Nat) (a n kind : Int) (hw : Wd w) (hk : k < H.length) (hz : H[k] ≠ 0) (hn : n ≠ 0) (hwd : widthOf kind = n) (hwi : withinB a n 64 = false) (h : PA w p bb hb S H fr) :
    Calls Tryd.prog 22 #[.pointer (some ⟨p, 0, none⟩), .int .i64 k, .int .i64 a, .int .i64 kind] w fun e w' => e = .returned (.tuple #[.int .u64 0, .int .i64 14]) ∧ Below w.heap.size w w' := by
  have c1 := h.c1
  have ct := h.at hk
  have hsm := h.small
  obtain ⟨ha, hbb, hhb⟩ := h.lt
  have ⟨ha1, ha2, ha3, ha4, ha5⟩ := lt5 ha
  have ⟨hb1, hb2, hb3, hb4, hb5⟩ := lt5 hhb
  have HA := Lib.hid h
  have HW := Lib.hid hw
  have hne : (H[k] == 0) = false := by simp [hz]
  have hwn : (n == 0) = false := by simp [hn]
  clear h hz hw
  obtain ⟨v, hv⟩ : ∃ v, v = H[k] := ⟨_, rfl⟩
  rw [← hv] at ct hne
  clear hv
  go_enter Tryd.func22, Tryd.ntmps22
  go_wp2_with (first | (go_at_call 62; refine (frame_any _ p bb hb S H fr k hk (HA.out.below (below5 w _ _ _ _ _) (Nat.le_refl _))).mono ?_; rintro e w1 ⟨rfl, rfl⟩) | (go_at_call 91; refine (width_any _ (HW.out.below (below5 w _ _ _ _ _) (Nat.le_refl _)) kind).mono ?_; rintro e w1 ⟨rfl, rfl⟩; rw [hwd]) | (go_at_call 92; refine (within_any _ a n 64 (by decide) (by decide)).mono ?_; rintro e w1 ⟨rfl, rfl⟩; rw [hwi]) | go_in)
  go_ret2
  exact ⟨rfl, below5 w _ _ _ _ _⟩

theorem store_nil (w : World) (f a k x : Int) : Calls Tryd.prog 21 #[.pointer none, .int .i64 f, .int .i64 a, .int .i64 k, .int .u64 x] w fun e w' => e = .returned (.int .i64 1) ∧ Below w.heap.size w w' := by
  go_enter Tryd.func21, Tryd.ntmps21
  go_wp2_with (first | (go_at_call 63; refine (with_nil _ f _).mono ?_; rintro e w1 ⟨rfl, rfl⟩) | go_in)
  go_ret
  exact ⟨rfl, below5 w _ _ _ _ _⟩
theorem store_bad (w : World) (p bb hb : Nat) (S : List (List UInt8)) (H : List Int) (fr : Int) (f a k x : Int) (hf : asked H f ≠ 0) (h : PA w p bb hb S H fr) : Calls Tryd.prog 21 #[.pointer (some ⟨p, 0, none⟩), .int .i64 f, .int .i64 a, .int .i64 k, .int .u64 x] w fun e w' => e = .returned (.int .i64 (asked H f)) ∧ Below w.heap.size w w' := by
  go_enter Tryd.func21, Tryd.ntmps21
  go_wp2_with (first | (go_at_call 63; refine (with_bad _ p bb hb S H fr f _ hf (h.below (below5 w _ _ _ _ _) (Nat.le_refl _))).mono ?_; rintro e w1 ⟨rfl, rfl⟩) | go_in)
  go_ret
  exact ⟨rfl, below5 w _ _ _ _ _⟩

set_option maxRecDepth 100000 in
set_option maxHeartbeats 1000000 in
theorem store_kind (w : World) (p bb hb : Nat) (S : List (List UInt8)) (H : List Int) (fr : Int) (k : Nat) (a kind : Int) (x : Int) (hw : Wd w) (hk : k < H.length) (hz : H[k] ≠ 0) (hwd : widthOf kind = 0) (h : PA w p bb hb S H fr) :
    Calls Tryd.prog 21 #[.pointer (some ⟨p, 0, none⟩), .int .i64 k, .int .i64 a, .int .i64 kind, .int .u64 x] w fun e w' => e = .returned (.int .i64 1) ∧ Below w.heap.size w w' := by
  have c1 := h.c1
  have ct := h.at hk
  have hsm := h.small
  obtain ⟨ha, hbb, hhb⟩ := h.lt
  have ⟨ha1, ha2, ha3, ha4, ha5⟩ := lt5 ha
  have ⟨hb1, hb2, hb3, hb4, hb5⟩ := lt5 hhb
  have HA := Lib.hid h
  have HW := Lib.hid hw
  have hne : (H[k] == 0) = false := by simp [hz]
  clear h hz hw
  obtain ⟨v, hv⟩ : ∃ v, v = H[k] := ⟨_, rfl⟩
  rw [← hv] at ct hne
  clear hv
  go_enter Tryd.func21, Tryd.ntmps21
  go_wp2_with (first | (go_at_call 62; refine (frame_any _ p bb hb S H fr k hk (HA.out.below (below5 w _ _ _ _ _) (Nat.le_refl _))).mono ?_; rintro e w1 ⟨rfl, rfl⟩) | (go_at_call 91; refine (width_any _ (HW.out.below (below5 w _ _ _ _ _) (Nat.le_refl _)) kind).mono ?_; rintro e w1 ⟨rfl, rfl⟩; rw [hwd]) | go_in)
  go_ret
  exact ⟨rfl, below5 w _ _ _ _ _⟩
set_option maxRecDepth 100000 in
set_option maxHeartbeats 1000000 in
theorem store_far (w : World) (p bb hb : Nat) (S : List (List UInt8)) (H : List Int) (fr : Int) (k : Nat) (a n kind : Int) (x : Int) (hw : Wd w) (hk : k < H.length) (hz : H[k] ≠ 0) (hn : n ≠ 0) (hwd : widthOf kind = n) (hwi : withinB a n 64 = false) (h : PA w p bb hb S H fr) :
    Calls Tryd.prog 21 #[.pointer (some ⟨p, 0, none⟩), .int .i64 k, .int .i64 a, .int .i64 kind, .int .u64 x] w fun e w' => e = .returned (.int .i64 14) ∧ Below w.heap.size w w' := by
  have c1 := h.c1
  have ct := h.at hk
  have hsm := h.small
  obtain ⟨ha, hbb, hhb⟩ := h.lt
  have ⟨ha1, ha2, ha3, ha4, ha5⟩ := lt5 ha
  have ⟨hb1, hb2, hb3, hb4, hb5⟩ := lt5 hhb
  have HA := Lib.hid h
  have HW := Lib.hid hw
  have hne : (H[k] == 0) = false := by simp [hz]
  have hwn : (n == 0) = false := by simp [hn]
  clear h hz hw
  obtain ⟨v, hv⟩ : ∃ v, v = H[k] := ⟨_, rfl⟩
  rw [← hv] at ct hne
  clear hv
  go_enter Tryd.func21, Tryd.ntmps21
  go_wp2_with (first | (go_at_call 62; refine (frame_any _ p bb hb S H fr k hk (HA.out.below (below5 w _ _ _ _ _) (Nat.le_refl _))).mono ?_; rintro e w1 ⟨rfl, rfl⟩) | (go_at_call 91; refine (width_any _ (HW.out.below (below5 w _ _ _ _ _) (Nat.le_refl _)) kind).mono ?_; rintro e w1 ⟨rfl, rfl⟩; rw [hwd]) | (go_at_call 92; refine (within_any _ a n 64 (by decide) (by decide)).mono ?_; rintro e w1 ⟨rfl, rfl⟩; rw [hwi]) | go_in)
  go_ret
  exact ⟨rfl, below5 w _ _ _ _ _⟩
end Go.Proofs.YtacpfkimjaihgaaDoor
