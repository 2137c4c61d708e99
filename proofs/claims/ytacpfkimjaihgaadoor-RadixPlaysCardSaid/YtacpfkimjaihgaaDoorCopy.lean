/- Package frames: Copy. -/
import Derived.Test.YtacpfkimjaihgaaDoorStore
namespace Go.Proofs.YtacpfkimjaihgaaDoor
open Go.RowKit

/-! ## Copy -/
theorem heap2 (w : World) (A B : Obj) : ((w.alloc A).alloc B).heap[w.heap.size]? = some A ∧ ((w.alloc A).alloc B).heap[w.heap.size + 1]? = some B := by
  refine ⟨?_, ?_⟩
  · rw [Below.heap_alloc _ _ _ (by simp)]
    exact heap_alloc_new w _
  · have := heap_alloc_new (w.alloc A) B
    rwa [World.size_alloc] at this
theorem copy_nil (w : World) (f : Int) : Calls Tryd.prog 20 #[.pointer none, .int .i64 f] w fun e w' => e = .returned (.tuple #[.int .i64 0, .int .i64 1]) ∧ Below w.heap.size w w' := by
  go_enter Tryd.func20, Tryd.ntmps20
  go_wp2_with (first | (go_at_call 63; refine (with_nil _ f _).mono ?_; rintro e w1 ⟨rfl, rfl⟩))
  go_ret2
  exact ⟨rfl, below2 w _ _⟩
theorem copy_out (w : World) (p n c : Nat) (a : Option Addr) (f : Int) (hf : f < 0 ∨ (n : Int) ≤ f) (h : w.cell? ⟨p, 1, none⟩ = some (.slice a n c)) : Calls Tryd.prog 20 #[.pointer (some ⟨p, 0, none⟩), .int .i64 f] w fun e w' => e = .returned (.tuple #[.int .i64 0, .int .i64 14]) ∧ Below w.heap.size w w' := by
  have hp := World.block_lt_of_cell? w _ h
  simp only at hp
  go_enter Tryd.func20, Tryd.ntmps20
  go_wp2_with (first | (go_at_call 63; refine (with_out _ p n c a f _ hf (((below2 w _ _).cell (p := ⟨p, 1, none⟩) hp).trans h)).mono ?_; rintro e w1 ⟨rfl, rfl⟩))
  go_ret2
  exact ⟨rfl, below2 w _ _⟩
theorem copy_bad (w : World) (p bb hb : Nat) (S : List (List UInt8)) (H : List Int) (fr : Int) (f : Int) (hf : asked H f ≠ 0) (h : PA w p bb hb S H fr) : Calls Tryd.prog 20 #[.pointer (some ⟨p, 0, none⟩), .int .i64 f] w fun e w' => e = .returned (.tuple #[.int .i64 0, .int .i64 (asked H f)]) ∧ Below w.heap.size w w' := by
  go_enter Tryd.func20, Tryd.ntmps20
  go_wp2_with (first | (go_at_call 63; refine (with_bad _ p bb hb S H fr f _ hf (h.below (below2 w _ _) (Nat.le_refl _))).mono ?_; rintro e w1 ⟨rfl, rfl⟩))
  go_ret2
  exact ⟨rfl, below2 w _ _⟩
set_option maxRecDepth 100000 in
set_option maxHeartbeats 1000000 in
theorem copy_full (w : World) (p bb hb : Nat) (S : List (List UInt8)) (H : List Int) (k : Nat) (hk : k < H.length) (hz : H[k] ≠ 0) (h : PA w p bb hb S H 0) :
    Calls Tryd.prog 20 #[.pointer (some ⟨p, 0, none⟩), .int .i64 k] w fun e w' => e = .returned (.tuple #[.int .i64 0, .int .i64 18]) ∧ Below w.heap.size w w' := by
  have c1 := h.c1
  have ct := h.at hk
  have hn := h.small
  obtain ⟨ha, hbb, hhb⟩ := h.lt
  have ⟨ha1, ha2, ha3, ha4, ha5⟩ := lt5 ha
  have ⟨hb1, hb2, hb3, hb4, hb5⟩ := lt5 hhb
  have HA := Lib.hid h
  have hne : (H[k] == 0) = false := by simp [hz]
  clear h hz
  obtain ⟨v, hv⟩ : ∃ v, v = H[k] := ⟨_, rfl⟩
  rw [← hv] at ct hne
  clear hv
  go_enter Tryd.func20, Tryd.ntmps20
  go_wp2_with (first | (go_at_call 62; refine (frame_any _ p bb hb S H 0 k hk (HA.out.below (below2 w _ _) (Nat.le_refl _))).mono ?_; rintro e w1 ⟨rfl, rfl⟩) | (go_at_call 19; refine (take_full _ p (HA.out.below (below2 w _ _) (Nat.le_refl _)).c2).mono ?_; rintro e w1 ⟨rfl, rfl⟩) | go_in)
  go_ret2
  exact ⟨rfl, below2 w _ _⟩
theorem copy_src {w : World} {p bb hb : Nat} {S : List (List UInt8)} {H : List Int} {fr : Int} (h : PA w p bb hb S H fr) {k : Nat} (hk : k < S.length) {X : List UInt8} (hX : S[k] = X) :
    ∀ i v, (bv X)[i]? = some v → w.cell? ((⟨bb, k * 64, none⟩ : Addr).add i) = some v := by
  subst hX
  intro i v hv
  have hi : i < S[k].length := by
    have := (List.getElem?_eq_some_iff.1 hv).1
    simpa [bv] using this
  have e0 : (⟨bb, k * 64, none⟩ : Addr).add i = ⟨bb, k * 64 + i, none⟩ := by unfold Addr.add; split <;> simp_all
  rw [e0, h.cell hk hi]
  rw [bv_get _ i hi] at hv
  exact hv
theorem set_set {α : Type} (l : List α) (j : Nat) (a b : α) : (l.set j a).set j b = l.set j b := by simp
set_option maxRecDepth 100000 in
set_option maxHeartbeats 1000000 in
theorem copy_ok (w : World) (p bb hb : Nat) (S : List (List UInt8)) (H : List Int) (fr : Int) (k j : Nat) (hk : k < H.length) (hS : k < S.length) (hz : H[k] ≠ 0) (hj : j < H.length) (hjz : H[j] = 0) (hall : ∀ i (h : i < j), H[i] ≠ 0) (hf : 0 < fr ∧ fr ≤ 1000000) (h : PA w p bb hb S H fr) :
    Calls Tryd.prog 20 #[.pointer (some ⟨p, 0, none⟩), .int .i64 k] w fun e w' => e = .returned (.tuple #[.int .i64 j, .int .i64 0]) ∧ PA w' p bb hb (S.set j S[k]) (H.set j 1) (fr - 1) ∧ Mods [p, bb, hb] w w' := by
  have c1 := h.c1
  have ct := h.at hk
  have hn := h.small
  obtain ⟨ha, hbb, hhb⟩ := h.lt
  have ⟨ha1, ha2, ha3, ha4, ha5⟩ := lt5 ha
  have ⟨hb1, hb2, hb3, hb4, hb5⟩ := lt5 hhb
  have HA := Lib.hid h
  have HHB := Lib.hid (show p < w.heap.size ∧ bb < w.heap.size ∧ hb < w.heap.size from ⟨ha, hbb, hhb⟩)
  have HF := Lib.hid hf
  have HJZ := Lib.hid hjz
  have HALL := Lib.hid hall
  have h64 : (S[k]).length = 64 := h.each _ (List.getElem_mem hS)
  have hjk : j ≠ k := by
    rintro rfl
    exact hz hjz
  have HJ1 := Lib.hid (show j < (H.set j 1).length by simpa using hj)
  have HJS := Lib.hid (show j < (S.set j zeroSec).length by rw [List.length_set, h.len]; exact hj)
  have HKS := Lib.hid (show k < (S.set j zeroSec).length by simpa using hS)
  have HEQ := Lib.hid (show ∀ q : k < (S.set j zeroSec).length, (S.set j zeroSec)[k] = S[k] from fun q => List.getElem_set_ne hjk q)
  have HCL := Lib.hid (show j * 64 + (bv S[k]).length ≤ (bv (S.set j zeroSec).flatten).length by
    rw [bv_length, bv_length, flat_length _ (fun s hs => by
      rcases List.mem_or_eq_of_mem_set hs with hs | rfl
      · exact h.each s hs
      · rfl), h64, List.length_set, h.len]
    omega)
  have hne : (H[k] == 0) = false := by simp [hz]
  obtain ⟨X, hX⟩ : ∃ X, X = S[k] := ⟨_, rfl⟩
  rw [← hX] at HCL h64 HEQ ⊢
  have H64 := Lib.hid h64
  have HLN := Lib.hid (show (bv X).length = Nat.min 64 64 by rw [bv_length, h64]; rfl)
  have HSS := Lib.hid hS
  clear h hz hjz hall hf h64 hX hS
  obtain ⟨v, hv⟩ : ∃ v, v = H[k] := ⟨_, rfl⟩
  rw [← hv] at ct hne
  clear hv
  have hjj : j < H.length := hj
  go_enter Tryd.func20, Tryd.ntmps20
  go_wp2_with (first | (go_at_call 62; refine (frame_any w2 p bb hb _ _ _ j HJ1.out HA2.out).mono ?_; rintro e w1 ⟨rfl, rfl⟩) | (go_at_call 62; refine (frame_any _ p bb hb S H fr k hk (HA.out.below (below2 w _ _) (Nat.le_refl _))).mono ?_; rintro e w1 ⟨rfl, rfl⟩) | (go_at_call 19; refine (take_at _ p bb hb S H fr j hj HJZ.out HALL.out HF.out (HA.out.below (below2 w _ _) (Nat.le_refl _))).mono ?_; rintro e w2 ⟨rfl, hA2, hM2⟩; have HA2 := Lib.hid hA2; have HM2 := Lib.hid hM2; have HQ1 := Lib.hid ((hM2.block w.heap.size (by simp; omega) (by simp; omega)).trans (heap2 w _ _).1); have HQ2 := Lib.hid ((hM2.block (w.heap.size + 1) (by simp) (by simp; omega)).trans (heap2 w _ _).2); have kp := cell_of_row w2 _ 0 _ _ _ (show w2.heap[w.heap.size]? = some (.cells [Value.pointer (some ⟨p, 0, none⟩)].toArray 24 (0, 0)) from HQ1.out); clear hA2 hM2) | (refine wpList_copy_slice (o := ⟨some 18, _, _, _, _, _⟩) _ rfl _ _ 64 64 rfl 5 Tryd.underlying64 Tryd.info5s bb (j * 64) 64 _ ⟨bb, k * 64, none⟩ 64 _ rfl rfl (bv (S.set j zeroSec).flatten) 5 HA2.out.row (bv X) HLN.out (copy_src HA2.out HKS.out (HEQ.out _)) HCL.out (bv_one X) ?_; intro w3 hrow hmod hsz; have HA3 := Lib.hid (HA2.out.whole (x := X) HJS.out H64.out hrow hmod); have HM3 := Lib.hid hmod; have HQ3 := Lib.hid ((hmod.block (w.heap.size + 1) (lt_of_block HQ2.out) (by simp; omega)).trans HQ2.out); have kn := cell_of_row w3 _ 0 _ _ _ (show w3.heap[w.heap.size + 1]? = some (.cells [Value.int .i64 0].toArray 3 (0, 0)) from HQ3.out); have kf := frozen_of_row w3 _ 0 _ _ (show w3.heap[w.heap.size + 1]? = some (.cells [Value.int .i64 0].toArray 3 (0, 0)) from HQ3.out); clear hrow hmod) | go_in)
  go_ret2
  rw [set_set] at HA3
  refine ⟨rfl, HA3.out.mods ((Mods.refl [w.heap.size + 1] w3).setCell (.inl (by simp)) _) (by have := HHB.out; simp; omega) (by have := HHB.out; simp; omega) (by have := HHB.out; simp; omega), ?_⟩
  have m1 := (Mods.of_below (S := [p, bb, hb]) (below2 w (Obj.cells #[Value.pointer (some ⟨p, 0, none⟩)] 24) (Obj.cells #[Value.int .i64 0] 3))).trans HM2.out
  exact (m1.trans (HM3.out.mono (by simp))).setCell (.inr (by simp)) _
end Go.Proofs.YtacpfkimjaihgaaDoor
