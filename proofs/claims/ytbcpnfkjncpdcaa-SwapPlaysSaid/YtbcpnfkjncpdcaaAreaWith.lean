/- Package swap: Get, Hold, Free. -/
import Derived.Test.YtbcpnfkjncpdcaaArea
namespace Go.Proofs.Ytbcpnfkjncpdcaa
open Go.RowKit

theorem get_nil (w : World) (s : Int) : Calls Try.prog 38 #[.pointer none, .int .i64 s] w fun e w' => e = .returned (.tuple #[.string ⟨#[]⟩, .int .i64 1]) ∧ Below w.heap.size w w' := by
  go_enter Try.func38, Try.ntmps38
  go_wp2_with (first | go_in)
  go_ret2
  exact ⟨rfl, (((Below.refl _ _).alloc (Nat.le_refl _) _).alloc (by simp) _).alloc (by simp; omega) _⟩
theorem hold_nil (w : World) (s : Int) : Calls Try.prog 40 #[.pointer none, .int .i64 s] w fun e w' => e = .returned (.int .i64 1) ∧ Below w.heap.size w w' := by
  go_enter Try.func40, Try.ntmps40
  go_wp2_with (first | go_in)
  go_ret
  exact ⟨rfl, ((Below.refl _ _).alloc (Nat.le_refl _) _).alloc (by simp) _⟩
theorem free_nil (w : World) (s : Int) : Calls Try.prog 37 #[.pointer none, .int .i64 s] w fun e w' => e = .returned (.int .i64 1) ∧ Below w.heap.size w w' := by
  go_enter Try.func37, Try.ntmps37
  go_wp2_with (first | go_in)
  go_ret
  exact ⟨rfl, ((Below.refl _ _).alloc (Nat.le_refl _) _).alloc (by simp) _⟩
theorem get_out (w : World) (a n c : Nat) (b : Option Addr) (s : Int) (hs : s < 0 ∨ n ≤ s) (hn : n ≤ 4096) (c2 : w.cell? ⟨a, 2, none⟩ = some (.slice b n c)) :
    Calls Try.prog 38 #[.pointer (some ⟨a, 0, none⟩), .int .i64 s] w fun e w' => e = .returned (.tuple #[.string ⟨#[]⟩, .int .i64 14]) ∧ Below w.heap.size w w' := by
  have ha := World.block_lt_of_cell? w _ c2
  simp only at ha
  have ha1 : a < w.heap.size + 1 := by omega
  have ha2 : a < w.heap.size + 2 := by omega
  have ha3 : a < w.heap.size + 1 + 1 := by omega
  rcases hs with hs | hs
  all_goals
    go_enter Try.func38, Try.ntmps38
    go_wp2_with (first | go_in)
    go_ret2
    exact ⟨rfl, (((Below.refl _ _).alloc (Nat.le_refl _) _).alloc (by simp) _).alloc (by simp; omega) _⟩
theorem hold_out (w : World) (a n c : Nat) (b : Option Addr) (s : Int) (hs : s < 0 ∨ n ≤ s) (hn : n ≤ 4096) (c2 : w.cell? ⟨a, 2, none⟩ = some (.slice b n c)) :
    Calls Try.prog 40 #[.pointer (some ⟨a, 0, none⟩), .int .i64 s] w fun e w' => e = .returned (.int .i64 14) ∧ Below w.heap.size w w' := by
  have ha := World.block_lt_of_cell? w _ c2
  simp only at ha
  have ha1 : a < w.heap.size + 1 := by omega
  have ha2 : a < w.heap.size + 2 := by omega
  rcases hs with hs | hs
  all_goals
    go_enter Try.func40, Try.ntmps40
    go_wp2_with (first | go_in)
    go_ret
    exact ⟨rfl, ((Below.refl _ _).alloc (Nat.le_refl _) _).alloc (by simp) _⟩
theorem free_out (w : World) (a n c : Nat) (b : Option Addr) (s : Int) (hs : s < 0 ∨ n ≤ s) (hn : n ≤ 4096) (c2 : w.cell? ⟨a, 2, none⟩ = some (.slice b n c)) :
    Calls Try.prog 37 #[.pointer (some ⟨a, 0, none⟩), .int .i64 s] w fun e w' => e = .returned (.int .i64 14) ∧ Below w.heap.size w w' := by
  have ha := World.block_lt_of_cell? w _ c2
  simp only at ha
  have ha1 : a < w.heap.size + 1 := by omega
  have ha2 : a < w.heap.size + 2 := by omega
  rcases hs with hs | hs
  all_goals
    go_enter Try.func37, Try.ntmps37
    go_wp2_with (first | go_in)
    go_ret
    exact ⟨rfl, ((Below.refl _ _).alloc (Nat.le_refl _) _).alloc (by simp) _⟩

theorem get_zero (w : World) (a hb d bb : Nat) (A : SA) (k : Nat) (hk : k < A.held.length) (hz : A.held[k] = 0) (h : IsArea w a hb d bb A) :
    Calls Try.prog 38 #[.pointer (some ⟨a, 0, none⟩), .int .i64 k] w fun e w' => e = .returned (.tuple #[.string ⟨#[]⟩, .int .i64 13]) ∧ Below w.heap.size w w' := by
  have c2 := h.c2
  have ct := h.at hk
  rw [hz] at ct
  have hn := h.small
  obtain ⟨ha, hhb, _, _⟩ := h.lt
  have ha1 : a < w.heap.size + 1 := by omega
  have ha2 : a < w.heap.size + 2 := by omega
  have ha3 : a < w.heap.size + 1 + 1 := by omega
  have hb1 : hb < w.heap.size + 1 := by omega
  have hb2 : hb < w.heap.size + 2 := by omega
  have hb3 : hb < w.heap.size + 1 + 1 := by omega
  clear h hz
  go_enter Try.func38, Try.ntmps38
  go_wp2_with (first | go_in)
  go_ret2
  exact ⟨rfl, (((Below.refl _ _).alloc (Nat.le_refl _) _).alloc (by simp) _).alloc (by simp; omega) _⟩
theorem hold_zero (w : World) (a hb d bb : Nat) (A : SA) (k : Nat) (hk : k < A.held.length) (hz : A.held[k] = 0) (h : IsArea w a hb d bb A) :
    Calls Try.prog 40 #[.pointer (some ⟨a, 0, none⟩), .int .i64 k] w fun e w' => e = .returned (.int .i64 13) ∧ Below w.heap.size w w' := by
  have c2 := h.c2
  have ct := h.at hk
  rw [hz] at ct
  have hn := h.small
  obtain ⟨ha, hhb, _, _⟩ := h.lt
  have ha1 : a < w.heap.size + 1 := by omega
  have ha2 : a < w.heap.size + 2 := by omega
  have hb1 : hb < w.heap.size + 1 := by omega
  have hb2 : hb < w.heap.size + 2 := by omega
  clear h hz
  go_enter Try.func40, Try.ntmps40
  go_wp2_with (first | go_in)
  go_ret
  exact ⟨rfl, ((Below.refl _ _).alloc (Nat.le_refl _) _).alloc (by simp) _⟩
theorem free_zero (w : World) (a hb d bb : Nat) (A : SA) (k : Nat) (hk : k < A.held.length) (hz : A.held[k] = 0) (h : IsArea w a hb d bb A) :
    Calls Try.prog 37 #[.pointer (some ⟨a, 0, none⟩), .int .i64 k] w fun e w' => e = .returned (.int .i64 13) ∧ Below w.heap.size w w' := by
  have c2 := h.c2
  have ct := h.at hk
  rw [hz] at ct
  have hn := h.small
  obtain ⟨ha, hhb, _, _⟩ := h.lt
  have ha1 : a < w.heap.size + 1 := by omega
  have ha2 : a < w.heap.size + 2 := by omega
  have hb1 : hb < w.heap.size + 1 := by omega
  have hb2 : hb < w.heap.size + 2 := by omega
  clear h hz
  go_enter Try.func37, Try.ntmps37
  go_wp2_with (first | go_in)
  go_ret
  exact ⟨rfl, ((Below.refl _ _).alloc (Nat.le_refl _) _).alloc (by simp) _⟩

theorem hold_ok (w : World) (a hb d bb : Nat) (A : SA) (k : Nat) (hk : k < A.held.length) (hz : 0 < A.held[k] ∧ A.held[k] ≤ 1000000) (h : IsArea w a hb d bb A) :
    Calls Try.prog 40 #[.pointer (some ⟨a, 0, none⟩), .int .i64 k] w fun e w' => e = .returned (.int .i64 0) ∧ IsArea w' a hb d bb { A with held := A.held.set k (A.held[k] + 1) } ∧ Mods [a, hb, d, bb] w w' := by
  have c2 := h.c2
  have ct := h.at hk
  have hn := h.small
  have fz := frozen_of_row w hb k _ _ h.row
  obtain ⟨ha, hhb, _, _⟩ := h.lt
  have ha1 : a < w.heap.size + 1 := by omega
  have ha2 : a < w.heap.size + 2 := by omega
  have hb1 : hb < w.heap.size + 1 := by omega
  have hb2 : hb < w.heap.size + 2 := by omega
  have HA := Lib.hid h
  have hne : (A.held[k] == 0) = false := by simp; omega
  obtain ⟨hz0, hz1⟩ := hz
  clear h
  obtain ⟨v, hv⟩ : ∃ v, v = A.held[k] := ⟨_, rfl⟩
  rw [← hv] at ct hne hz0 hz1 ⊢
  clear hv
  go_enter Try.func40, Try.ntmps40
  go_wp2_with (first | go_in)
  go_region
  all_goals
    go_wp2
    go_ret
    have HA2 := HA.out.storeHeld (k := k) (v := v + 1) (w' := w.setCell ⟨hb, k, none⟩ (.int .i64 (v + 1))) (fun _ _ => rfl)
    exact ⟨rfl, HA2.below ((((Below.refl _ _).alloc (Nat.le_refl _) _).alloc (by simp) _).drew) (Nat.le_refl _), ((((Mods.refl _ w).setCell (.inl (by simp)) _).alloc _).alloc _).drew⟩
theorem free_ok (w : World) (a hb d bb : Nat) (A : SA) (k : Nat) (hk : k < A.held.length) (hz : 0 < A.held[k] ∧ A.held[k] ≤ 1000000) (hu : 0 ≤ A.used ∧ A.used ≤ 1000000) (h : IsArea w a hb d bb A) :
    Calls Try.prog 37 #[.pointer (some ⟨a, 0, none⟩), .int .i64 k] w fun e w' => e = .returned (.int .i64 0) ∧ IsArea w' a hb d bb { A with held := A.held.set k (A.held[k] - 1), used := if A.held[k] = 1 then A.used - 1 else A.used } ∧ Mods [a, hb, d, bb] w w' := by
  have c2 := h.c2
  have c3 := h.c3
  have ct := h.at hk
  have hn := h.small
  have fz := frozen_of_row w hb k _ _ h.row
  have f3 := frozen_of_row w a 3 _ _ h.head
  obtain ⟨ha, hhb, _, _⟩ := h.lt
  have ha1 : a < w.heap.size + 1 := by omega
  have ha2 : a < w.heap.size + 2 := by omega
  have hb1 : hb < w.heap.size + 1 := by omega
  have hb2 : hb < w.heap.size + 2 := by omega
  have hnn := h.nah
  have hnn2 := Ne.symm hnn
  have HA := Lib.hid h
  have hne : (A.held[k] == 0) = false := by simp; omega
  obtain ⟨hz0, hz1⟩ := hz
  obtain ⟨hu0, hu1⟩ := hu
  clear h
  obtain ⟨v, hv⟩ : ∃ v, v = A.held[k] := ⟨_, rfl⟩
  rw [← hv] at ct hne hz0 hz1 ⊢
  clear hv
  go_enter Try.func37, Try.ntmps37
  go_wp2_with (first | go_in)
  go_region
  all_goals
    go_wp2
    by_cases hv1 : v = 1
    · subst hv1
      go_quiet (fail)
      go_wp2
      go_ret
      have HA2 := HA.out.storeHeld (k := k) (v := 0) (w' := w.setCell ⟨hb, k, none⟩ (.int .i64 0)) (fun _ _ => rfl)
      have HM2 := (Mods.refl [a, hb, d, bb] w).setCell (p := ⟨hb, k, none⟩) (.inl (by simp)) (.int .i64 0)
      have HA3 := HA2.below (below_drewN ((((Below.refl _ (w.setCell ⟨hb, k, none⟩ (.int .i64 0))).alloc (Nat.le_refl _) (Obj.cells #[Value.pointer (some ⟨a, 0, none⟩)] 57)).alloc (by simp) (Obj.cells #[Value.int .i64 k] 3))) (1 + nq)) (Nat.le_refl _)
      have HM3 := ((HM2.alloc (Obj.cells #[Value.pointer (some ⟨a, 0, none⟩)] 57)).alloc (Obj.cells #[Value.int .i64 k] 3)).drewN (1 + nq)
      exact ⟨rfl, HA3.storeUsed (fun _ _ => rfl), HM3.setCell (.inl (by simp)) _⟩
    · have hv2 : (v - 1 == 0) = false := by simp; omega
      go_quiet (fail)
      go_wp2
      go_ret
      have HA2 := HA.out.storeHeld (k := k) (v := v - 1) (w' := w.setCell ⟨hb, k, none⟩ (.int .i64 (v - 1))) (fun _ _ => rfl)
      have HM2 := (Mods.refl [a, hb, d, bb] w).setCell (p := ⟨hb, k, none⟩) (.inl (by simp)) (.int .i64 (v - 1))
      have HA3 := HA2.below (below_drewN ((((Below.refl _ (w.setCell ⟨hb, k, none⟩ (.int .i64 (v - 1)))).alloc (Nat.le_refl _) (Obj.cells #[Value.pointer (some ⟨a, 0, none⟩)] 57)).alloc (by simp) (Obj.cells #[Value.int .i64 k] 3))) (1 + nq)) (Nat.le_refl _)
      have HM3 := ((HM2.alloc (Obj.cells #[Value.pointer (some ⟨a, 0, none⟩)] 57)).alloc (Obj.cells #[Value.int .i64 k] 3)).drewN (1 + nq)
      exact ⟨rfl, HA3, HM3⟩
end Go.Proofs.Ytbcpnfkjncpdcaa
