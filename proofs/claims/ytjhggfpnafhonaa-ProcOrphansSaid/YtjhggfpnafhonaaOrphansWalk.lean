/- ProcOrphans: the walk. Nothing here is conditional. -/
import Derived.Test.YtjhggfpnafhonaaOrphans
import Derived.Test.YtjhggfpnafhonaaOnceWalk
import Derived.Test.YtjhggfpnafhonaaBits
import Derived.Deep.CutBlock
namespace Go.Proofs.Ytjhggfpnafhonaa
open Go.RowKit Go.Maps
set_option linter.unusedVariables false

/-- Those that have ended ahead of round i. -/
def endE (turned : Bool) (n i j : Nat) : Prop := if turned then n + 2 - i < j ∧ j ≤ n else 2 ≤ j ∧ j < i
instance (turned : Bool) (n i : Nat) : DecidablePred (endE turned n i) := fun j => by unfold endE; infer_instance

theorem all_len (w : World) (t b : Nat) (T : List Pr) (hT : Tab w t b T) (hi : Inv T) (hne : T ≠ []) (x : Nat) (hx : T.length = x) :
    Calls Try.prog 13 #[.pointer (some ⟨t, 0, none⟩)] w fun e w' => (∃ g cap, e = .returned (.slice (some ⟨g, 0, none⟩) x cap)) ∧ Below w.heap.size w w' := by
  subst hx
  refine (all_prs w t b T hT hi hne).mono ?_
  rintro e w' ⟨g, cap, rfl, _, _, _, h6⟩
  exact ⟨⟨g, cap, rfl⟩, h6⟩

set_option maxRecDepth 100000 in
set_option maxHeartbeats 8000000 in
theorem procOrphans_any (w : World) (n : Int) (_ : (Lit.int .i64 n).wf = true) (turned : Bool) :
    Calls Try.prog 3 #[.int .i64 n, .bool turned] w fun e w' => e = .returned (.bool true) ∧ Below w.heap.size w w' := by
  obtain ⟨y, hy, hy2, hy9⟩ : ∃ y : Nat, bits BinOp.and IntKind.i64 n 7 = (y : Int) - 2 ∧ 2 ≤ y ∧ y ≤ 9 := ⟨(n % 8).toNat + 2, by rw [and7]; omega, by omega, by omega⟩
  have hy' : (2 + ((y : Int) - 2)) = y := by omega
  go_enter Try.func3, Try.ntmps3
  go_wp2_with (first
    | (go_at_call 8; refine (awake_any _).mono ?_; rintro e w1 ⟨rfl, hb1⟩)
    | (go_at_call 9; refine (new_any _).mono ?_; rintro e w2 ⟨t, b, rfl, ht, hb, H1, hb2⟩))
  have s1 := hb1.size
  have HS : Hid (Ost w w2 t b (line 1)) := Lib.hid ⟨H1, inv0, by omega, by omega, hb1.trans (hb2.mono s1)⟩
  clear H1 hb1 hb2 ht hb
  go_loopw [8] (fun i wr => ∃ m : Nat, 1 ≤ m ∧ m ≤ y ∧ i = .int .i64 m ∧ Hid (Ost w wr t b (line m))) (fun i _ => (y - numV i).toNat)
  case atStart => exact ⟨1, by omega, by omega, rfl, HS⟩
  case round =>
    clear HS
    obtain ⟨m, hm1, hm2, rfl, HS⟩ := hrel
    by_cases hlt : m < y
    · go_wp2_with fail
      refine (HS.out.fork hm1 (by omega)).mono ?_
      rintro e w3 ⟨rfl, hS⟩
      have HS3 := Lib.hid hS
      clear hS
      go_wp2_with fail
      go_roundw
      case rel => exact ⟨m + 1, by omega, by omega, by go_num, HS3⟩
      case measure => simp [numV]; omega
    · obtain rfl : m = y := by omega
      have HO : Hid (Off (line m) m (endE turned m 2)) := Lib.hid (off_line m _ (fun k hk => by unfold endE; split <;> omega) hm1)
      go_wp2_with fail
      go_loopw [11] (fun i wx => ∃ (j : Nat) (T : List Pr), 2 ≤ j ∧ j ≤ m + 1 ∧ i = .int .i64 j ∧ Hid (Ost w wx t b T) ∧ Hid (Off T m (endE turned m j))) (fun i _ => (m + 1 - numV i).toNat)
      case atStart => exact ⟨2, _, by omega, by omega, rfl, HS, HO⟩
      case round =>
        clear HS HO
        obtain ⟨j, T, hj1, hj2, rfl, HS, HO⟩ := hrel
        by_cases hjl : j ≤ m
        · cases turned with
          | false =>
            go_wp2_with fail
            refine (HS.out.exit (E' := endE false m (j + 1)) HO.out hj1 hjl hy9 (by unfold endE; simp) (fun i => by unfold endE; simp; omega) _ rfl).mono ?_
            rintro e w3 ⟨rfl, T', hS, hO⟩
            have HS3 := Lib.hid hS
            have HO3 := Lib.hid hO
            clear hS hO
            go_wp2_with fail
            go_roundw
            case rel => exact ⟨j + 1, T', by omega, by omega, by go_num, HS3, HO3⟩
            case measure => simp [numV]; omega
          | true =>
            obtain ⟨kk, hkk⟩ : ∃ kk : Nat, (m : Int) + 2 - j = kk := ⟨m + 2 - j, by omega⟩
            go_wp2_with fail
            try rw [hkk]
            refine (HS.out.exit (E' := endE true m (j + 1)) HO.out (by omega) (by omega) hy9 (by unfold endE; simp; omega) (fun i => by unfold endE; simp; omega) _ rfl).mono ?_
            rintro e w3 ⟨rfl, T', hS, hO⟩
            have HS3 := Lib.hid hS
            have HO3 := Lib.hid hO
            clear hS hO
            go_wp2_with fail
            go_roundw
            case rel => exact ⟨j + 1, T', by omega, by omega, by go_num, HS3, HO3⟩
            case measure => simp [numV]; omega
        · have HG : Hid (Gone T m 0) := Lib.hid (HO.out.gone hm1 (fun i h1 h2 => by unfold endE; split <;> omega))
          go_wp2_with fail
          go_loopw [13] (fun i wx => ∃ (r : Nat) (T : List Pr), r + 1 ≤ m ∧ i = .int .i64 r ∧ Hid (Ost w wx t b T) ∧ Hid (Gone T m r)) (fun i _ => (m - numV i).toNat)
          case atStart => exact ⟨0, T, by omega, rfl, HS, HG⟩
          case round =>
            clear HS HO HG
            obtain ⟨r, T, hr, rfl, HS, HG⟩ := hrel
            by_cases hrl : r + 2 ≤ m
            · obtain ⟨x, hx⟩ : ∃ x : Int, (r : Int) + 2 = x := ⟨_, rfl⟩
              have hx9 : 2 ≤ x ∧ x ≤ 9 := by omega
              go_wp2_with fail
              refine (HS.out.wait HG.out hrl x (10 * x) hx (by rw [hx])).mono ?_
              rintro e w3 ⟨rfl, T', hS, hG⟩
              have HS3 := Lib.hid hS
              have HG3 := Lib.hid hG
              clear hS hG
              go_wp2_with fail
              go_roundw
              case rel => exact ⟨r + 1, T', by omega, by go_num, HS3, HG3⟩
              case measure => simp [numV]; omega
            · have hrm : (m : Int) - 1 = r := by omega
              go_wp2_with fail
              refine (HS.out.done HG.out (by omega)).mono ?_
              rintro e w3 ⟨rfl, hS⟩
              have HS3 := Lib.hid hS
              clear hS HS HG
              go_wp2_with (first
                | (go_at_call 13; refine (all_len _ t b T0 HS3.out.tab HS3.out.inv (by decide) 1 rfl).mono ?_; rintro e w4 ⟨⟨ag, ac, rfl⟩, hb4⟩; have HS4 := Lib.hid (HS3.out.quiet hb4))
                | (go_at_call 14; refine (running_is _ t b T0 HS4.out.tab HS4.out.inv 1 rfl 1 rfl).mono ?_; rintro e w5 ⟨rfl, hb5⟩))
              all_goals
                go_ret
                exact ⟨rfl, (HS4.out.quiet hb5).below⟩
end Go.Proofs.Ytjhggfpnafhonaa
