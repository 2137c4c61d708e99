/- Package frames: with, Hold, Drop, Bytes, Fill. -/
import Derived.Test.YtacpfkimjaihgaaDoorTake
namespace Go.Proofs.YtacpfkimjaihgaaDoor
open Go.RowKit

/-- The error of a frame. -/
def asked (H : List Int) (f : Int) : Int := if f < 0 ∨ (H.length : Int) ≤ f then 14 else if H.getD f.toNat 0 = 0 then 13 else 0
theorem asked_out {H : List Int} {f : Int} (h : f < 0 ∨ (H.length : Int) ≤ f) : asked H f = 14 := by simp [asked, h]
theorem asked_nat {H : List Int} {k : Nat} (hk : k < H.length) : asked H k = if H[k] = 0 then 13 else 0 := by
  rw [asked, if_neg (by omega)]
  simp [hk]

theorem with_nil (w : World) (f : Int) (d : Value) : Calls Tryd.prog 63 #[.pointer none, .int .i64 f, d] w fun e w' => e = .returned (.int .i64 1) ∧ w = w' := by
  go_enter Tryd.func63, Tryd.ntmps63
  go_wp2
  go_ret
  exact ⟨rfl, rfl⟩
theorem with_out (w : World) (p n c : Nat) (a : Option Addr) (f : Int) (d : Value) (hf : f < 0 ∨ (n : Int) ≤ f) (h : w.cell? ⟨p, 1, none⟩ = some (.slice a n c)) :
    Calls Tryd.prog 63 #[.pointer (some ⟨p, 0, none⟩), .int .i64 f, d] w fun e w' => e = .returned (.int .i64 14) ∧ w = w' := by
  rcases hf with hf | hf
  all_goals
    go_enter Tryd.func63, Tryd.ntmps63
    go_wp2
    go_ret
    exact ⟨rfl, rfl⟩
theorem with_zero (w : World) (p bb hb : Nat) (S : List (List UInt8)) (H : List Int) (fr : Int) (k : Nat) (d : Value) (hk : k < H.length) (hz : H[k] = 0) (h : PA w p bb hb S H fr) :
    Calls Tryd.prog 63 #[.pointer (some ⟨p, 0, none⟩), .int .i64 k, d] w fun e w' => e = .returned (.int .i64 13) ∧ w = w' := by
  have c1 := h.c1
  have ct := h.at hk
  have hn := h.small
  rw [hz] at ct
  clear h hz
  go_enter Tryd.func63, Tryd.ntmps63
  go_wp2
  go_ret
  exact ⟨rfl, rfl⟩
theorem with_bad (w : World) (p bb hb : Nat) (S : List (List UInt8)) (H : List Int) (fr : Int) (f : Int) (d : Value) (hf : asked H f ≠ 0) (h : PA w p bb hb S H fr) :
    Calls Tryd.prog 63 #[.pointer (some ⟨p, 0, none⟩), .int .i64 f, d] w fun e w' => e = .returned (.int .i64 (asked H f)) ∧ w = w' := by
  by_cases h1 : f < 0 ∨ (H.length : Int) ≤ f
  · rw [asked_out h1]
    exact with_out w p _ _ _ f d h1 h.c1
  · obtain ⟨k, rfl⟩ := Int.eq_ofNat_of_zero_le (show 0 ≤ f by omega)
    have hk : k < H.length := by omega
    have hz : H[k] = 0 := by
      by_cases hz : H[k] = 0
      · exact hz
      · rw [asked_nat hk, if_neg hz] at hf
        exact absurd rfl hf
    rw [asked_nat hk, if_pos hz]
    exact with_zero w p bb hb S H fr k d hk hz h
theorem asked_ok {H : List Int} {f : Int} (h : asked H f = 0) : ∃ k : Nat, f = k ∧ ∃ hk : k < H.length, H[k] ≠ 0 := by
  by_cases h1 : f < 0 ∨ (H.length : Int) ≤ f
  · rw [asked_out h1] at h
    exact absurd h (by decide)
  · obtain ⟨k, rfl⟩ := Int.eq_ofNat_of_zero_le (show 0 ≤ f by omega)
    have hk : k < H.length := by omega
    refine ⟨k, rfl, hk, fun hz => ?_⟩
    rw [asked_nat hk, if_pos hz] at h
    exact absurd h (by decide)

theorem below2 (w : World) (A B : Obj) : Below w.heap.size w ((w.alloc A).alloc B) := (((Below.refl _ w).alloc (Nat.le_refl _) A).alloc (by simp) B)
/-! ## Hold -/
theorem hold_nil (w : World) (f : Int) : Calls Tryd.prog 28 #[.pointer none, .int .i64 f] w fun e w' => e = .returned (.int .i64 1) ∧ Below w.heap.size w w' := by
  go_enter Tryd.func28, Tryd.ntmps28
  go_wp2_with (first | (go_at_call 63; refine (with_nil _ f _).mono ?_; rintro e w1 ⟨rfl, rfl⟩))
  go_ret
  exact ⟨rfl, below2 w _ _⟩
theorem hold_bad (w : World) (p bb hb : Nat) (S : List (List UInt8)) (H : List Int) (fr : Int) (f : Int) (hf : asked H f ≠ 0) (h : PA w p bb hb S H fr) : Calls Tryd.prog 28 #[.pointer (some ⟨p, 0, none⟩), .int .i64 f] w fun e w' => e = .returned (.int .i64 (asked H f)) ∧ Below w.heap.size w w' := by
  go_enter Tryd.func28, Tryd.ntmps28
  go_wp2_with (first | (go_at_call 63; refine (with_bad _ p bb hb S H fr f _ hf (h.below (below2 w _ _) (Nat.le_refl _))).mono ?_; rintro e w1 ⟨rfl, rfl⟩))
  go_ret
  exact ⟨rfl, below2 w _ _⟩
set_option maxRecDepth 100000 in
set_option maxHeartbeats 1000000 in
theorem hold_ok (w : World) (p bb hb : Nat) (S : List (List UInt8)) (H : List Int) (fr : Int) (k : Nat) (hk : k < H.length) (hz : 0 < H[k] ∧ H[k] ≤ 1000000) (h : PA w p bb hb S H fr) :
    Calls Tryd.prog 28 #[.pointer (some ⟨p, 0, none⟩), .int .i64 k] w fun e w' => e = .returned (.int .i64 0) ∧ PA w' p bb hb S (H.set k (H[k] + 1)) fr ∧ Mods [p, bb, hb] w w' := by
  have c1 := h.c1
  have c0 := h.c0
  have ct := h.at hk
  have hn := h.small
  have fz := frozen_of_row w hb k _ _ h.hrow
  obtain ⟨ha, hbb, hhb⟩ := h.lt
  have ha1 : p < w.heap.size + 1 := by omega
  have ha2 : p < w.heap.size + 2 := by omega
  have hb1 : hb < w.heap.size + 1 := by omega
  have hb2 : hb < w.heap.size + 2 := by omega
  have HA := Lib.hid h
  have hne : (H[k] == 0) = false := by simp; omega
  obtain ⟨hz0, hz1⟩ := hz
  clear h
  obtain ⟨v, hv⟩ : ∃ v, v = H[k] := ⟨_, rfl⟩
  rw [← hv] at ct hne hz0 hz1 ⊢
  clear hv
  go_enter Tryd.func28, Tryd.ntmps28
  go_wp2_with (first | (go_at_call 62; refine (frame_any _ p bb hb S H fr k hk (HA.out.below (below2 w _ _) (Nat.le_refl _))).mono ?_; rintro e w1 ⟨rfl, rfl⟩) | go_in)
  go_region
  all_goals
    go_wp2
    go_ret
    have HA2 := HA.out.storeHeld (k := k) (v := v + 1) (w' := w.setCell ⟨hb, k, none⟩ (.int .i64 (v + 1))) (fun _ _ => rfl)
    exact ⟨rfl, HA2.below ((((Below.refl _ _).alloc (Nat.le_refl _) _).alloc (by simp) _).drew) (Nat.le_refl _), ((((Mods.refl _ w).setCell (.inl (by simp)) _).alloc _).alloc _).drew⟩

/-! ## Drop -/
theorem drop_out (w : World) (p n c : Nat) (a : Option Addr) (f : Int) (hf : f < 0 ∨ (n : Int) ≤ f) (h : w.cell? ⟨p, 1, none⟩ = some (.slice a n c)) : Calls Tryd.prog 29 #[.pointer (some ⟨p, 0, none⟩), .int .i64 f] w fun e w' => e = .returned (.int .i64 14) ∧ Below w.heap.size w w' := by
  have hp := World.block_lt_of_cell? w _ h
  simp only at hp
  go_enter Tryd.func29, Tryd.ntmps29
  go_wp2_with (first | (go_at_call 63; refine (with_out _ p n c a f _ hf (((below2 w _ _).cell (p := ⟨p, 1, none⟩) hp).trans h)).mono ?_; rintro e w1 ⟨rfl, rfl⟩))
  go_ret
  exact ⟨rfl, below2 w _ _⟩
theorem drop_nil (w : World) (f : Int) : Calls Tryd.prog 29 #[.pointer none, .int .i64 f] w fun e w' => e = .returned (.int .i64 1) ∧ Below w.heap.size w w' := by
  go_enter Tryd.func29, Tryd.ntmps29
  go_wp2_with (first | (go_at_call 63; refine (with_nil _ f _).mono ?_; rintro e w1 ⟨rfl, rfl⟩))
  go_ret
  exact ⟨rfl, below2 w _ _⟩
theorem drop_bad (w : World) (p bb hb : Nat) (S : List (List UInt8)) (H : List Int) (fr : Int) (f : Int) (hf : asked H f ≠ 0) (h : PA w p bb hb S H fr) : Calls Tryd.prog 29 #[.pointer (some ⟨p, 0, none⟩), .int .i64 f] w fun e w' => e = .returned (.int .i64 (asked H f)) ∧ Below w.heap.size w w' := by
  go_enter Tryd.func29, Tryd.ntmps29
  go_wp2_with (first | (go_at_call 63; refine (with_bad _ p bb hb S H fr f _ hf (h.below (below2 w _ _) (Nat.le_refl _))).mono ?_; rintro e w1 ⟨rfl, rfl⟩))
  go_ret
  exact ⟨rfl, below2 w _ _⟩
set_option maxRecDepth 100000 in
set_option maxHeartbeats 1000000 in
theorem drop_ok (w : World) (p bb hb : Nat) (S : List (List UInt8)) (H : List Int) (fr : Int) (k : Nat) (hk : k < H.length) (hz : 0 < H[k] ∧ H[k] ≤ 1000000) (hu : 0 ≤ fr ∧ fr ≤ 1000000) (h : PA w p bb hb S H fr) :
    Calls Tryd.prog 29 #[.pointer (some ⟨p, 0, none⟩), .int .i64 k] w fun e w' => e = .returned (.int .i64 0) ∧ PA w' p bb hb S (H.set k (H[k] - 1)) (if H[k] = 1 then fr + 1 else fr) ∧ Mods [p, bb, hb] w w' := by
  have c1 := h.c1
  have c0 := h.c0
  have c2 := h.c2
  have ct := h.at hk
  have hn := h.small
  have fz := frozen_of_row w hb k _ _ h.hrow
  have f2 := frozen_of_row w p 2 _ _ h.head
  obtain ⟨ha, hbb, hhb⟩ := h.lt
  have ha1 : p < w.heap.size + 1 := by omega
  have ha2 : p < w.heap.size + 2 := by omega
  have hb1 : hb < w.heap.size + 1 := by omega
  have hb2 : hb < w.heap.size + 2 := by omega
  have hnn := h.nph
  have hnn2 := Ne.symm hnn
  have HA := Lib.hid h
  have hne : (H[k] == 0) = false := by simp; omega
  obtain ⟨hz0, hz1⟩ := hz
  obtain ⟨hu0, hu1⟩ := hu
  clear h
  obtain ⟨v, hv⟩ : ∃ v, v = H[k] := ⟨_, rfl⟩
  rw [← hv] at ct hne hz0 hz1 ⊢
  clear hv
  go_enter Tryd.func29, Tryd.ntmps29
  go_wp2_with (first | (go_at_call 62; refine (frame_any _ p bb hb S H fr k hk (HA.out.below (below2 w _ _) (Nat.le_refl _))).mono ?_; rintro e w1 ⟨rfl, rfl⟩) | go_in)
  go_region
  all_goals
    go_wp2
    by_cases hv1 : v = 1
    · subst hv1
      go_quiet (fail)
      go_wp2
      go_ret
      have HA2 := HA.out.storeHeld (k := k) (v := 0) (w' := w.setCell ⟨hb, k, none⟩ (.int .i64 0)) (fun _ _ => rfl)
      have HM2 := (Mods.refl [p, bb, hb] w).setCell (p := ⟨hb, k, none⟩) (.inl (by simp)) (.int .i64 0)
      have HA3 := HA2.below (below_drewN ((((Below.refl _ (w.setCell ⟨hb, k, none⟩ (.int .i64 0))).alloc (Nat.le_refl _) (Obj.cells #[Value.pointer (some ⟨p, 0, none⟩)] 24)).alloc (by simp) (Obj.cells #[Value.int .i64 k] 3))) (1 + nq)) (Nat.le_refl _)
      have HM3 := ((HM2.alloc (Obj.cells #[Value.pointer (some ⟨p, 0, none⟩)] 24)).alloc (Obj.cells #[Value.int .i64 k] 3)).drewN (1 + nq)
      exact ⟨rfl, HA3.storeFree (fun _ _ => rfl), HM3.setCell (.inl (by simp)) _⟩
    · have hv2 : (v - 1 == 0) = false := by simp; omega
      go_quiet (fail)
      go_wp2
      go_ret
      have HA2 := HA.out.storeHeld (k := k) (v := v - 1) (w' := w.setCell ⟨hb, k, none⟩ (.int .i64 (v - 1))) (fun _ _ => rfl)
      have HM2 := (Mods.refl [p, bb, hb] w).setCell (p := ⟨hb, k, none⟩) (.inl (by simp)) (.int .i64 (v - 1))
      have HA3 := HA2.below (below_drewN ((((Below.refl _ (w.setCell ⟨hb, k, none⟩ (.int .i64 (v - 1)))).alloc (Nat.le_refl _) (Obj.cells #[Value.pointer (some ⟨p, 0, none⟩)] 24)).alloc (by simp) (Obj.cells #[Value.int .i64 k] 3))) (1 + nq)) (Nat.le_refl _)
      have HM3 := ((HM2.alloc (Obj.cells #[Value.pointer (some ⟨p, 0, none⟩)] 24)).alloc (Obj.cells #[Value.int .i64 k] 3)).drewN (1 + nq)
      exact ⟨rfl, HA3, HM3⟩

/-! ## Bytes -/
theorem below1 (w : World) (A : Obj) : Below w.heap.size w (w.alloc A) := (Below.refl _ w).alloc (Nat.le_refl _) A
theorem fbytes_nil (w : World) (f : Int) : Calls Tryd.prog 26 #[.pointer none, .int .i64 f] w fun e w' => e = .returned (.tuple #[.string ⟨#[]⟩, .int .i64 1]) ∧ Below w.heap.size w w' := by
  go_enter Tryd.func26, Tryd.ntmps26
  go_wp2_with (first | (go_at_call 63; refine (with_nil _ f _).mono ?_; rintro e w1 ⟨rfl, rfl⟩))
  go_ret2
  exact ⟨rfl, below1 w _⟩
theorem fbytes_bad (w : World) (p bb hb : Nat) (S : List (List UInt8)) (H : List Int) (fr : Int) (f : Int) (hf : asked H f ≠ 0) (h : PA w p bb hb S H fr) : Calls Tryd.prog 26 #[.pointer (some ⟨p, 0, none⟩), .int .i64 f] w fun e w' => e = .returned (.tuple #[.string ⟨#[]⟩, .int .i64 (asked H f)]) ∧ Below w.heap.size w w' := by
  go_enter Tryd.func26, Tryd.ntmps26
  go_wp2_with (first | (go_at_call 63; refine (with_bad _ p bb hb S H fr f _ hf (h.below (below1 w _) (Nat.le_refl _))).mono ?_; rintro e w1 ⟨rfl, rfl⟩))
  go_ret2
  exact ⟨rfl, below1 w _⟩
set_option maxRecDepth 100000 in
set_option maxHeartbeats 1000000 in
theorem fbytes_ok (w : World) (p bb hb : Nat) (S : List (List UInt8)) (H : List Int) (fr : Int) (k : Nat) (hk : k < H.length) (hS : k < S.length) (hz : H[k] ≠ 0) (h : PA w p bb hb S H fr) :
    Calls Tryd.prog 26 #[.pointer (some ⟨p, 0, none⟩), .int .i64 k] w fun e w' => e = .returned (.tuple #[.string ⟨S[k].toArray⟩, .int .i64 0]) ∧ Below w.heap.size w w' := by
  have c1 := h.c1
  have ct := h.at hk
  have hn := h.small
  obtain ⟨ha, hbb, hhb⟩ := h.lt
  have ha1 : p < w.heap.size + 1 := by omega
  have hb1 : hb < w.heap.size + 1 := by omega
  have HA := Lib.hid h
  have hne : (H[k] == 0) = false := by simp [hz]
  have h64 : (S[k]).length = 64 := h.each _ (List.getElem_mem hS)
  have hcv := run_string_of (P := Tryd.prog) Tryd.underlying64 Tryd.underlying5 Tryd.underlying9 (w.alloc (.cells #[.string ⟨#[]⟩] 9)) bb (k * 64) 64 (H.length * 64 - k * 64) (S[k]) h64 (fun j hj => by
    rw [World.cell?_alloc_past _ _ _ (by simpa using hbb)]
    exact h.cell hS hj)
  clear h hz h64
  obtain ⟨v, hv⟩ : ∃ v, v = H[k] := ⟨_, rfl⟩
  rw [← hv] at ct hne
  clear hv
  go_enter Tryd.func26, Tryd.ntmps26
  go_wp2_with (first | (go_at_call 62; refine (frame_any _ p bb hb S H fr k hk (HA.out.below (below1 w _) (Nat.le_refl _))).mono ?_; rintro e w1 ⟨rfl, rfl⟩) | go_in)
  go_ret2
  exact ⟨rfl, below1 w _⟩

/-! ## Fill -/
theorem fill_nil (w : World) (f : Int) (s : ByteArray) : Calls Tryd.prog 25 #[.pointer none, .int .i64 f, .string s] w fun e w' => e = .returned (.int .i64 1) ∧ Below w.heap.size w w' := by
  go_enter Tryd.func25, Tryd.ntmps25
  go_wp2_with (first | (go_at_call 63; refine (with_nil _ f _).mono ?_; rintro e w1 ⟨rfl, rfl⟩))
  go_ret
  exact ⟨rfl, below1 w _⟩
theorem fill_bad (w : World) (p bb hb : Nat) (S : List (List UInt8)) (H : List Int) (fr : Int) (f : Int) (s : ByteArray) (hf : asked H f ≠ 0) (h : PA w p bb hb S H fr) : Calls Tryd.prog 25 #[.pointer (some ⟨p, 0, none⟩), .int .i64 f, .string s] w fun e w' => e = .returned (.int .i64 (asked H f)) ∧ Below w.heap.size w w' := by
  go_enter Tryd.func25, Tryd.ntmps25
  go_wp2_with (first | (go_at_call 63; refine (with_bad _ p bb hb S H fr f _ hf (h.below (below1 w _) (Nat.le_refl _))).mono ?_; rintro e w1 ⟨rfl, rfl⟩))
  go_ret
  exact ⟨rfl, below1 w _⟩
set_option maxRecDepth 100000 in
set_option maxHeartbeats 1000000 in
theorem fill_short (w : World) (p bb hb : Nat) (S : List (List UInt8)) (H : List Int) (fr : Int) (k : Nat) (s : ByteArray) (hk : k < H.length) (hz : H[k] ≠ 0) (hs : s.size ≠ 64) (h : PA w p bb hb S H fr) :
    Calls Tryd.prog 25 #[.pointer (some ⟨p, 0, none⟩), .int .i64 k, .string s] w fun e w' => e = .returned (.int .i64 1) ∧ Below w.heap.size w w' := by
  have c1 := h.c1
  have ct := h.at hk
  have hn := h.small
  obtain ⟨ha, hbb, hhb⟩ := h.lt
  have ha1 : p < w.heap.size + 1 := by omega
  have hb1 : hb < w.heap.size + 1 := by omega
  have HA := Lib.hid h
  have hne : (H[k] == 0) = false := by simp [hz]
  have hse : ((s.size : Int) != 64) = true := by simp; omega
  clear h hz
  obtain ⟨v, hv⟩ : ∃ v, v = H[k] := ⟨_, rfl⟩
  rw [← hv] at ct hne
  clear hv
  go_enter Tryd.func25, Tryd.ntmps25
  go_wp2_with (first | (go_at_call 62; refine (frame_any _ p bb hb S H fr k hk (HA.out.below (below1 w _) (Nat.le_refl _))).mono ?_; rintro e w1 ⟨rfl, rfl⟩) | go_in)
  go_ret
  exact ⟨rfl, below1 w _⟩
set_option maxRecDepth 100000 in
set_option maxHeartbeats 1000000 in
theorem fill_ok (w : World) (p bb hb : Nat) (S : List (List UInt8)) (H : List Int) (fr : Int) (k : Nat) (s : ByteArray) (hk : k < H.length) (hS : k < S.length) (hz : H[k] ≠ 0) (hs : s.size = 64) (h : PA w p bb hb S H fr) :
    Calls Tryd.prog 25 #[.pointer (some ⟨p, 0, none⟩), .int .i64 k, .string s] w fun e w' => e = .returned (.int .i64 0) ∧ PA w' p bb hb (S.set k s.data.toList) H fr ∧ Mods [p, bb, hb] w w' := by
  have c1 := h.c1
  have ct := h.at hk
  have hn := h.small
  obtain ⟨ha, hbb, hhb⟩ := h.lt
  have ha1 : p < w.heap.size + 1 := by omega
  have hb1 : hb < w.heap.size + 1 := by omega
  have HA := Lib.hid h
  have hne : (H[k] == 0) = false := by simp [hz]
  have hse : ((s.size : Int) != 64) = false := by simp; omega
  have hl64 : s.data.toList.length = 64 := by rw [Array.length_toList]; exact hs
  have hl : s.data.toList = s.data.toList.take 64 := by rw [List.take_of_length_le (by omega)]
  have HL := Lib.hid hl
  have HL64 := Lib.hid hl64
  have HCL := Lib.hid (show k * 64 + s.data.toList.length ≤ (bv S.flatten).length by rw [bv_length, flat_length _ h.each, h.len, hl64]; omega)
  have HSS := Lib.hid hS
  clear h hz hs hl hl64 hS
  obtain ⟨v, hv⟩ : ∃ v, v = H[k] := ⟨_, rfl⟩
  rw [← hv] at ct hne
  clear hv
  go_enter Tryd.func25, Tryd.ntmps25
  go_wp2_with (first | (go_at_call 62; refine (frame_any _ p bb hb S H fr k hk (HA.out.below (below1 w _) (Nat.le_refl _))).mono ?_; rintro e w1 ⟨rfl, rfl⟩) | go_in | (refine wpList_copy_string (o := ⟨some 9, _, _, _, _, _⟩) _ rfl _ _ 64 9 rfl 5 Tryd.underlying64 Tryd.info5s bb (k * 64) 64 _ s rfl rfl (bv S.flatten) 5 (HA.out.below (below1 w _) (Nat.le_refl _)).row s.data.toList HL.out HCL.out ?_; intro w2 hrow hmod hsz; have HA2 := Lib.hid ((HA.out.below (below1 w _) (Nat.le_refl _)).whole HSS.out HL64.out hrow hmod); have HM2 := Lib.hid ((Mods.of_below (S := [p, bb, hb]) (below1 w _)).trans (hmod.mono (by simp))); clear hrow hmod))
  go_ret
  exact ⟨rfl, HA2.out, HM2.out⟩

/-! ## The same, said of the pool -/
def FP.hold (F : FP) (f : Int) : FP := if asked F.held f = 0 then ⟨F.secs, F.held.set f.toNat (heldAt F.held f + 1)⟩ else F
def FP.drop (F : FP) (f : Int) : FP := if asked F.held f = 0 then ⟨F.secs, F.held.set f.toNat (heldAt F.held f - 1)⟩ else F
def FP.bytes (F : FP) (f : Int) : ByteArray := if asked F.held f = 0 then ⟨(F.secs.getD f.toNat []).toArray⟩ else ⟨#[]⟩
def FP.fillE (F : FP) (f : Int) (s : ByteArray) : Int := if asked F.held f = 0 then (if s.size = 64 then 0 else 1) else asked F.held f
def FP.fill (F : FP) (f : Int) (s : ByteArray) : FP := if F.fillE f s = 0 then ⟨F.secs.set f.toNat s.data.toList, F.held⟩ else F
/-- No frame is held too often. -/
def Few (H : List Int) : Prop := ∀ v ∈ H, 0 ≤ v ∧ v ≤ 1000000

theorem hold_any (w : World) (p bb hb : Nat) (F : FP) (f : Int) (hB : Few F.held) (h : IsPool w p bb hb F) :
    Calls Tryd.prog 28 #[.pointer (some ⟨p, 0, none⟩), .int .i64 f] w fun e w' => e = .returned (.int .i64 (asked F.held f)) ∧ IsPool w' p bb hb (F.hold f) ∧ Mods [p, bb, hb] w w' := by
  by_cases ha : asked F.held f = 0
  · obtain ⟨k, rfl, hk, hz⟩ := asked_ok ha
    have hv := hB _ (List.getElem_mem hk)
    refine (hold_ok w p bb hb F.secs F.held _ k hk (by omega) h).mono ?_
    rintro e w' ⟨he, hp, hm⟩
    rw [FP.hold, if_pos ha, ha, Int.toNat_natCast, heldAt_nat hk]
    refine ⟨he, ?_, hm⟩
    show PA _ _ _ _ _ _ _
    rw [frees_set hk, if_neg hz, if_neg (by omega)]
    simpa using hp
  · refine (hold_bad w p bb hb F.secs F.held _ f ha h).mono ?_
    rintro e w' ⟨he, hm⟩
    rw [FP.hold, if_neg ha]
    exact ⟨he, h.below hm (Nat.le_refl _), Mods.of_below hm⟩
theorem drop_any (w : World) (p bb hb : Nat) (F : FP) (f : Int) (hB : Few F.held) (h : IsPool w p bb hb F) :
    Calls Tryd.prog 29 #[.pointer (some ⟨p, 0, none⟩), .int .i64 f] w fun e w' => e = .returned (.int .i64 (asked F.held f)) ∧ IsPool w' p bb hb (F.drop f) ∧ Mods [p, bb, hb] w w' := by
  by_cases ha : asked F.held f = 0
  · obtain ⟨k, rfl, hk, hz⟩ := asked_ok ha
    have hv := hB _ (List.getElem_mem hk)
    have h2 := frees_le F.held
    have h3 := h.small
    refine (drop_ok w p bb hb F.secs F.held _ k hk (by omega) (by omega) h).mono ?_
    rintro e w' ⟨he, hp, hm⟩
    rw [FP.drop, if_pos ha, ha, Int.toNat_natCast, heldAt_nat hk]
    refine ⟨he, ?_, hm⟩
    show PA _ _ _ _ _ _ _
    rw [frees_set hk, if_neg hz]
    by_cases h1 : F.held[k] = 1
    · rw [if_pos h1] at hp
      rw [if_pos (by omega)]
      simpa using hp
    · rw [if_neg h1] at hp
      rw [if_neg (by omega)]
      simpa using hp
  · refine (drop_bad w p bb hb F.secs F.held _ f ha h).mono ?_
    rintro e w' ⟨he, hm⟩
    rw [FP.drop, if_neg ha]
    exact ⟨he, h.below hm (Nat.le_refl _), Mods.of_below hm⟩
theorem fbytes_any (w : World) (p bb hb : Nat) (F : FP) (f : Int) (h : IsPool w p bb hb F) :
    Calls Tryd.prog 26 #[.pointer (some ⟨p, 0, none⟩), .int .i64 f] w fun e w' => e = .returned (.tuple #[.string (F.bytes f), .int .i64 (asked F.held f)]) ∧ Below w.heap.size w w' := by
  by_cases ha : asked F.held f = 0
  · obtain ⟨k, rfl, hk, hz⟩ := asked_ok ha
    have hS : k < F.secs.length := by rw [h.len]; exact hk
    rw [FP.bytes, if_pos ha, ha, Int.toNat_natCast, show F.secs.getD k [] = F.secs[k] by simp [hS]]
    exact fbytes_ok w p bb hb F.secs F.held _ k hk hS hz h
  · rw [FP.bytes, if_neg ha]
    exact fbytes_bad w p bb hb F.secs F.held _ f ha h
theorem fill_any (w : World) (p bb hb : Nat) (F : FP) (f : Int) (s : ByteArray) (h : IsPool w p bb hb F) :
    Calls Tryd.prog 25 #[.pointer (some ⟨p, 0, none⟩), .int .i64 f, .string s] w fun e w' => e = .returned (.int .i64 (F.fillE f s)) ∧ IsPool w' p bb hb (F.fill f s) ∧ Mods [p, bb, hb] w w' := by
  by_cases ha : asked F.held f = 0
  · obtain ⟨k, rfl, hk, hz⟩ := asked_ok ha
    have hS : k < F.secs.length := by rw [h.len]; exact hk
    by_cases hs : s.size = 64
    · have e1 : F.fillE k s = 0 := by rw [FP.fillE, if_pos ha, if_pos hs]
      rw [FP.fill, if_pos e1, e1, Int.toNat_natCast]
      exact fill_ok w p bb hb F.secs F.held _ k s hk hS hz hs h
    · have e1 : F.fillE k s = 1 := by rw [FP.fillE, if_pos ha, if_neg hs]
      rw [FP.fill, if_neg (by rw [e1]; decide), e1]
      refine (fill_short w p bb hb F.secs F.held _ k s hk hz hs h).mono ?_
      rintro e w' ⟨he, hm⟩
      exact ⟨he, h.below hm (Nat.le_refl _), Mods.of_below hm⟩
  · have e1 : F.fillE f s = asked F.held f := by rw [FP.fillE, if_neg ha]
    rw [FP.fill, if_neg (by rw [e1]; exact ha), e1]
    refine (fill_bad w p bb hb F.secs F.held _ f s ha h).mono ?_
    rintro e w' ⟨he, hm⟩
    exact ⟨he, h.below hm (Nat.le_refl _), Mods.of_below hm⟩
end Go.Proofs.YtacpfkimjaihgaaDoor
