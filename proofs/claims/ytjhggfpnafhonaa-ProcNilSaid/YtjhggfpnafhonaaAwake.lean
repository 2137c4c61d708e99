/- The calls with plain answers, and the chapter's example. Nothing here is conditional. -/
import Derived.Test.YtjhggfpnafhonaaCalls
namespace Go.Proofs.Ytjhggfpnafhonaa
open Go.RowKit Go.Maps

theorem fork_is (w : World) (t b : Nat) (T T' : List Pr) (hT : Tab w t b T) (hi : Inv T) (k n : Int) (hk : (Lit.int .i64 k).wf = true) (h0 : askedV T k = 0) (hl : T.length < 32) (hn : free T n) (hT' : ins T ⟨n, k, 1, 0⟩ = T') :
    Calls Try.prog 10 #[.pointer (some ⟨t, 0, none⟩), .int .i64 k] w fun e w' => e = .returned (.tuple #[.int .i64 n, .int .i64 0]) ∧ Tab w' t b T' ∧ Inv T' ∧ Mods [b] w w' := by
  subst hT'
  refine (fork_ok w t b T hT k hk h0 hl n hn).mono ?_
  rintro e w' ⟨rfl, h1, h2⟩
  have hr : ForkR T k n 0 (ins T ⟨n, k, 1, 0⟩) := .inr (.inr ⟨h0, hl, rfl, hn, rfl⟩)
  exact ⟨rfl, h1, hr.inv hi, h2⟩
theorem exit_is (w : World) (t b : Nat) (T T' : List Pr) (hT : Tab w t b T) (hi : Inv T) (k code : Int) (hk : (Lit.int .i64 k).wf = true) (h0 : askedV T k = 0) (hT' : exitT T k code = T') :
    Calls Try.prog 11 #[.pointer (some ⟨t, 0, none⟩), .int .i64 k, .int .i64 code] w fun e w' => e = .returned (.int .i64 0) ∧ Tab w' t b T' ∧ Inv T' ∧ Mods [b] w w' := by
  subst hT'
  refine (exit_ok w t b T hT (by have := hi.len; omega) hi.wf k code hk h0).mono ?_
  rintro e w' ⟨rfl, h1, h2⟩
  have hr : ExitR T k code 0 (exitT T k code) := .inr ⟨h0, rfl, rfl⟩
  exact ⟨rfl, h1, hr.inv hi, h2⟩
theorem wait_is (w : World) (t b : Nat) (T T' : List Pr) (hT : Tab w t b T) (hi : Inv T) (k : Int) (hk : (Lit.int .i64 k).wf = true) (h0 : askedV T k = 0) (p1 p2 p3 p4 : Int) (hp : endedOf T k = some ⟨p1, p2, p3, p4⟩) (hT' : del T p1 = T') :
    Calls Try.prog 12 #[.pointer (some ⟨t, 0, none⟩), .int .i64 k] w fun e w' => e = .returned (.tuple #[.int .i64 p1, .int .i64 p4, .int .i64 0]) ∧ Tab w' t b T' ∧ Inv T' ∧ Mods [b] w w' := by
  subst hT'
  refine (wait_any w t b T hT hi k hk).mono ?_
  rintro e w' ⟨a, c, er, T', rfl, hr, h1, h2, h3⟩
  rcases hr with ⟨hn, _⟩ | ⟨_, hn, _⟩ | ⟨_, rfl, ⟨p, he, rfl, rfl⟩, rfl⟩
  · exact absurd h0 hn
  · rw [hp] at hn; cases hn
  · rw [hp] at he
    cases he
    exact ⟨rfl, h1, h2, h3⟩
theorem wait_err (w : World) (t b : Nat) (T : List Pr) (hT : Tab w t b T) (hi : Inv T) (k : Int) (hk : (Lit.int .i64 k).wf = true) (h0 : askedV T k = 0) (er : Int) (hp : endedOf T k = none) (he : (if T.filter (keepP k) = [] then 20 else 13) = er) :
    Calls Try.prog 12 #[.pointer (some ⟨t, 0, none⟩), .int .i64 k] w fun e w' => e = .returned (.tuple #[.int .i64 0, .int .i64 0, .int .i64 er]) ∧ Tab w' t b T ∧ Mods [b] w w' := by
  subst he
  refine (wait_any w t b T hT hi k hk).mono ?_
  rintro e w' ⟨a, c, er, T', rfl, hr, h1, h2, h3⟩
  rcases hr with ⟨hn, _⟩ | ⟨_, _, rfl, rfl, rfl, rfl⟩ | ⟨_, _, ⟨p, he, _⟩, _⟩
  · exact absurd h0 hn
  · exact ⟨rfl, h1, h3⟩
  · rw [hp] at he; cases he

set_option maxHeartbeats 2000000 in
theorem awake_any (w : World) : Calls Try.prog 8 #[] w fun e w' => e = .returned (.bool true) ∧ Below w.heap.size w w' := by
  have hw1 : (Lit.int .i64 1).wf = true := by decide
  have hw2 : (Lit.int .i64 2).wf = true := by decide
  have a0 : askedV T0 1 = 0 := by decide
  have f0 : free T0 2 := by
    refine ⟨by decide, by decide, fun k h1 h2 => ?_⟩
    obtain rfl : k = 1 := by omega
    decide
  have i0 : ins T0 ⟨2, 1, 1, 0⟩ = [⟨1, 0, 1, 0⟩, ⟨2, 1, 1, 0⟩] := by decide
  have a1 : askedV [⟨1, 0, 1, 0⟩, ⟨2, 1, 1, 0⟩] 2 = 0 := by decide
  have x1 : exitT [⟨1, 0, 1, 0⟩, ⟨2, 1, 1, 0⟩] 2 7 = [⟨1, 0, 1, 0⟩, ⟨2, 1, 2, 7⟩] := by decide
  have a2 : askedV [⟨1, 0, 1, 0⟩, ⟨2, 1, 2, 7⟩] 1 = 0 := by decide
  have e2 : endedOf [⟨1, 0, 1, 0⟩, ⟨2, 1, 2, 7⟩] 1 = some ⟨2, 1, 2, 7⟩ := by decide
  have d2 : del [⟨1, 0, 1, 0⟩, ⟨2, 1, 2, 7⟩] 2 = T0 := by decide
  go_enter Try.func8, Try.ntmps8
  go_wp2_with (first
    | (go_at_call 9; refine (new_any _).mono ?_; rintro e w1 ⟨t, b, rfl, ht, hb, H1, hb1⟩; have I1 := inv0; have M : Mods [b] w w1 := Mods.of_below hb1)
    | (
      go_at_call 10; refine (fork_is _ t b _ _ H1 I1 1 2 hw1 a0 (by decide) f0 i0).mono ?_; rintro e w2 ⟨rfl, H2, I2, m2⟩; clear H1 I1; replace M := M.trans m2; clear m2)
    | (
      go_at_call 11; refine (exit_is _ t b _ _ H2 I2 2 7 hw2 a1 x1).mono ?_; rintro e w3 ⟨rfl, H3, I3, m3⟩; clear H2 I2; replace M := M.trans m3; clear m3)
    | (
      go_at_call 12; refine (wait_is _ t b _ _ H3 I3 1 hw1 a2 _ _ _ _ e2 d2).mono ?_; rintro e w4 ⟨rfl, H1, I1, m4⟩; clear H3 I3; replace M := M.trans m4; clear m4))
  go_ret
  exact ⟨rfl, M.below (Nat.le_refl _) (fun k hk => by simp at hk; omega)⟩
end Go.Proofs.Ytjhggfpnafhonaa
