/- ProcFull: the walk. Nothing here is conditional. -/
import Derived.Test.YtjhggfpnafhonaaFull
namespace Go.Proofs.Ytjhggfpnafhonaa
open Go.RowKit Go.Maps

theorem fork_err (w : World) (t b : Nat) (T : List Pr) (hT : Tab w t b T) (k : Int) (hk : (Lit.int .i64 k).wf = true) (h0 : askedV T k = 0) (hl : T.length = 32) :
    Calls Try.prog 10 #[.pointer (some ⟨t, 0, none⟩), .int .i64 k] w fun e w' => e = .returned (.tuple #[.int .i64 0, .int .i64 15]) ∧ Tab w' t b T ∧ Mods [b] w w' := by
  refine (fork_full w t b T hT k hk h0 (by omega)).mono ?_
  rintro e w' ⟨rfl, hb⟩
  exact ⟨rfl, hT.below hb hT.lt hT.2.1.lt, Mods.of_below hb⟩

theorem tm31 (n : Int) : ∃ j : Nat, j < 31 ∧ wrap64 (2 + (wrap64 (n.tmod 31 + 31)).tmod 31) = (j : Int) + 2 := by
  have h1 := Int.tmod_lt_of_pos n (show (0 : Int) < 31 by decide)
  have h2 := Int.tmod_lt_of_pos (-n) (show (0 : Int) < 31 by decide)
  rw [Int.neg_tmod] at h2
  have e1 : wrap64 (n.tmod 31 + 31) = n.tmod 31 + 31 := by
    unfold wrap64
    go_num
  rw [e1]
  have h3 : 0 ≤ (n.tmod 31 + 31).tmod 31 := Int.tmod_nonneg _ (by omega)
  have h4 := Int.tmod_lt_of_pos (n.tmod 31 + 31) (show (0 : Int) < 31 by decide)
  refine ⟨((n.tmod 31 + 31).tmod 31).toNat, by omega, ?_⟩
  have e2 : wrap64 (2 + (n.tmod 31 + 31).tmod 31) = 2 + (n.tmod 31 + 31).tmod 31 := by
    unfold wrap64
    go_num
  rw [e2]
  omega

theorem running_is (w : World) (t b : Nat) (T : List Pr) (hT : Tab w t b T) (hi : Inv T) (r : Nat) (hr : running T = r) (x : Int) (hx : (r : Int) = x) :
    Calls Try.prog 14 #[.pointer (some ⟨t, 0, none⟩)] w fun e w' => e = .returned (.int .i64 x) ∧ Below w.heap.size w w' := by
  subst hr hx
  exact running_any w t b T hT (by have := hi.len; omega) hi.wf

set_option maxHeartbeats 4000000 in
theorem procFull_any (w : World) (n : Int) (_ : (Lit.int .i64 n).wf = true) : Calls Try.prog 7 #[.int .i64 n] w fun e w' => e = .returned (.bool true) ∧ Below w.heap.size w w' := by
  have hw1 : (Lit.int .i64 1).wf = true := by decide
  go_enter Try.func7, Try.ntmps7
  go_wp2_with (first
    | (go_at_call 8; refine (awake_any _).mono ?_; rintro e w0 ⟨rfl, hb0⟩)
    | (go_at_call 9; refine (new_any _).mono ?_; rintro e w1 ⟨t, b, rfl, ht, hb, H1, hb1⟩))
  have M1 : Below w.heap.size w w1 := hb0.trans (hb1.mono hb0.size)
  have s0 := hb0.size
  have I1 : T0 = kids 0 := rfl
  rw [I1] at H1
  have H1 := Lib.hid H1
  clear hb0 hb1
  go_loopw [5] (fun i wr => ∃ m : Nat, m ≤ 31 ∧ i = .int .i64 ((m : Int) + 2) ∧ Tab wr t b (kids m) ∧ Mods [b] w1 wr)
    (fun i _ => (33 - numV i).toNat)
  case atStart => exact ⟨0, by omega, by go_num, H1.out, Mods.refl _ _⟩
  case round =>
    obtain ⟨m, hm, rfl, hT, hmods⟩ := hrel
    have HT := Lib.hid hT
    clear hT
    by_cases hlt : m < 31
    · have hf := kids_free m
      have hi := kids_ins m
      have hI := kids_inv hm
      have hlen := kids_length m
      have ha := kids_asked m
      obtain ⟨x, hx⟩ : ∃ x : Int, (m : Int) + 2 = x := ⟨_, rfl⟩
      rw [hx] at hf hi ⊢
      go_wp2_with (go_at_call 10; refine (fork_is _ t b _ _ HT.out hI 1 x hw1 ha (by omega) hf hi).mono ?_; rintro e w2 ⟨rfl, h2, _, m2⟩)
      go_roundw
      case rel => exact ⟨m + 1, by omega, by go_num, h2, hmods.trans m2⟩
      case measure => simp [numV]; omega
    · obtain rfl : m = 31 := by omega
      have hlen := kids_length 31
      have ha := kids_asked 31
      go_wp2_with (go_at_call 10; refine (fork_err _ t b _ HT.out 1 hw1 ha (by omega)).mono ?_; rintro e w2 ⟨rfl, h2, m2⟩)
      obtain ⟨j, hj, hx⟩ := tm31 n
      rw [hx]
      clear hx
      obtain ⟨k1, k2, k3, k4, k5, k6, k7, k8⟩ := kids_exit hj
      have k9 : (exitT (kids 31) ((j : Int) + 2) 5).length = 32 := by rw [exitT, List.length_map, kids_length]
      have kx := kids_ended 31
      have ky : (if (kids 31).filter (keepP 1) = [] then (20 : Int) else 13) = 13 := by rw [if_neg (kids_some (by omega))]
      have hI := kids_inv (m := 31) (by omega)
      have kr := kids_running 31
      have hwx : (Lit.int .i64 ((j : Int) + 2)).wf = true := wf_small _ (by omega) (by omega)
      obtain ⟨E, hE⟩ : ∃ E, exitT (kids 31) ((j : Int) + 2) 5 = E := ⟨_, rfl⟩
      rw [hE] at k1 k3 k4 k5 k6 k7 k8 k9
      obtain ⟨D, hD⟩ : ∃ D, del E ((j : Int) + 2) = D := ⟨_, rfl⟩
      rw [hD] at k5 k6 k7 k8
      obtain ⟨x, hx⟩ : ∃ x : Int, (j : Int) + 2 = x := ⟨_, rfl⟩
      rw [hx] at k2 k4 k6 k7 hE hD hwx ⊢
      go_wp2_with (first
        | (go_at_call 12; refine (wait_err _ t b _ h2 hI 1 hw1 ha 13 kx ky).mono ?_; rintro e w3 ⟨rfl, h3, m3⟩; clear h2)
        | (go_at_call 11; refine (exit_is _ t b _ _ h3 hI x 5 hwx k2 hE).mono ?_; rintro e w4 ⟨rfl, h4, hI4, m4⟩; clear h3))
      go_wp2_with (first
        | (go_at_call 10; refine (fork_err _ t b _ h4 1 hw1 k3 k9).mono ?_; rintro e w5 ⟨rfl, h5, m5⟩; clear h4)
        | (go_at_call 12; refine (wait_is _ t b _ _ h5 hI4 1 hw1 k3 _ _ _ _ k4 hD).mono ?_; rintro e w6 ⟨rfl, h6, hI6, m6⟩; clear h5 hI4))
      go_wp2_with (first
        | (go_at_call 10; refine (fork_is _ t b _ _ h6 hI6 1 x hw1 k5 (by omega) k6 k7).mono ?_; rintro e w7 ⟨rfl, h7, _, m7⟩; clear h6 hI6)
        | (go_at_call 14; refine (running_is _ t b _ h7 hI 32 kr 32 rfl).mono ?_; rintro e w8 ⟨rfl, hb8⟩))
      go_ret
      have M : Mods [b] w1 w8 := (((((((hmods.trans m2).trans m3).trans m4).trans m5).trans m6).trans m7).trans (Mods.of_below hb8))
      exact ⟨rfl, M1.trans (M.below M1.size (fun k hk => by simp at hk; omega))⟩
end Go.Proofs.Ytjhggfpnafhonaa
