/- ProcNumbers: the walk. Nothing here is conditional. -/
import Derived.Test.YtjhggfpnafhonaaNumbers
import Derived.Test.YtjhggfpnafhonaaIntsOpen
import Derived.Test.YtjhggfpnafhonaaBits
import Derived.Deep.CutBlock
namespace Go.Proofs.Ytjhggfpnafhonaa
open Go.RowKit Go.Maps
set_option linter.unusedVariables false
set_option maxRecDepth 100000 in
set_option maxHeartbeats 8000000 in
theorem procNumbers_any (w : World) (a : Option Addr) (N cap : Nat) (h1 : N ≤ cap) (h2 : cap ≤ maxLen) (xs : List Int) (hl : xs.length = N) (hxs : IntsAt w a xs) :
    Calls Try.prog 6 #[.slice a N cap] w fun e w' => e = .returned (.bool true) ∧ Below w.heap.size w w' := by
  have HL := Lib.hid hl
  clear hl
  go_enter Try.func6, Try.ntmps6
  go_wp2_with (first
    | (go_at_call 8; refine (awake_any _).mono ?_; rintro e w1 ⟨rfl, hb1⟩)
    | (go_at_call 9; refine (new_any _).mono ?_; rintro e w2 ⟨t, b, rfl, ht, hb, H1, hb2⟩))
  have M1 : Below w.heap.size w w2 := hb1.trans (hb2.mono hb1.size)
  have s1 := hb1.size
  have ht2 := H1.lt
  have hb2' := H1.2.1.lt
  have s2 := hb2.size
  have HS : Hid (Nst w (w2.alloc (.cells #[.bool false, .bool true, .bool false, .bool false, .bool false, .bool false, .bool false, .bool false, .bool false, .bool false, .bool false, .bool false, .bool false, .bool false, .bool false, .bool false, .bool false, .bool false, .bool false, .bool false, .bool false, .bool false, .bool false, .bool false, .bool false, .bool false, .bool false, .bool false, .bool false, .bool false, .bool false, .bool false, .bool false, .bool false, .bool false, .bool false, .bool false, .bool false, .bool false, .bool false] 49)) t b w2.heap.size T0 ((List.replicate 40 false).set 1 true) ((List.replicate 40 false).set 1 true) 0) := by
    refine Lib.hid ⟨H1.below ((Below.refl _ _).alloc (Nat.le_refl _) _) ht2 hb2', inv0, nums0, ?_, by simp, by omega, by omega, by omega, by omega, by omega, M1.alloc (by omega) _⟩
    rw [heap_alloc_new]
    rfl
  clear H1 hb1 hb2 ht hb
  generalize (w2.alloc (.cells #[.bool false, .bool true, .bool false, .bool false, .bool false, .bool false, .bool false, .bool false, .bool false, .bool false, .bool false, .bool false, .bool false, .bool false, .bool false, .bool false, .bool false, .bool false, .bool false, .bool false, .bool false, .bool false, .bool false, .bool false, .bool false, .bool false, .bool false, .bool false, .bool false, .bool false, .bool false, .bool false, .bool false, .bool false, .bool false, .bool false, .bool false, .bool false, .bool false, .bool false] 49)) = w3 at HS ⊢
  generalize w2.heap.size = g at HS ⊢
  go_loopw [6] (fun i wr => ∃ (m : Nat) (T : List Pr) (B : List Bool), m ≤ 30 ∧ i = .int .i64 m ∧ Hid (Nst w wr t b g T B B m)) (fun i _ => (30 - numV i).toNat)
  case atStart => exact ⟨0, T0, _, by omega, rfl, HS⟩
  case round =>
    clear HS
    obtain ⟨m, T, B, hm, rfl, HS⟩ := hrel
    by_cases hlt : m < N ∧ m < 30
    · obtain ⟨hlt, hlt30⟩ := hlt
      obtain ⟨b1, o1, rfl, hc1, _, _⟩ := hxs m (by rw [HL.out]; exact hlt)
      have g1 := (HS.out.below.cell (p := ⟨b1, o1 + m, none⟩) (World.block_lt_of_cell? w _ hc1)).trans hc1
      clear hc1 hxs
      generalize xs[m]'(by rw [HL.out]; exact hlt) = x at g1
      have hlen : B.length = 40 := HS.out.len
      obtain ⟨k, hk, hk2, hk17⟩ : ∃ k : Nat, bits BinOp.and IntKind.i64 (x / 2) 15 = (k : Int) - 2 ∧ 2 ≤ k ∧ k ≤ 17 := ⟨(x / 2 % 16).toNat + 2, by rw [and15]; omega, by omega, by omega⟩
      have hk' : (2 + ((k : Int) - 2)) = k := by omega
      by_cases hev : bits BinOp.and IntKind.i64 x 1 = 0
      · obtain ⟨n, hn, n1, n32, hBn, hBj⟩ := HS.out.nums.least HS.out.inv (by omega)
        have HB := Lib.hid hBj
        have cn := HS.out.cell n _ hBn
        have HN := Lib.hid hn
        clear hBj hn
        go_wp2_with fail
        go_loopw [8] (fun i wx => ∃ j : Nat, 1 ≤ j ∧ j ≤ n ∧ i = .int .i64 j ∧ wx = wr) (fun i _ => (n - numV i).toNat)
        case atStart => exact ⟨1, by omega, by omega, rfl, rfl⟩
        case round =>
          obtain ⟨j, hj1, hj2, rfl, rfl⟩ := hrel
          by_cases hjn : j < n
          · have cj := HS.out.cell j _ (HB.out j hj1 hjn)
            go_wp2_with fail
            go_roundw
            case rel => exact ⟨j + 1, by omega, by omega, by go_num, trivial⟩
            case measure => simp [numV]; omega
          · obtain rfl : j = n := by omega
            go_wp2_with fail
            refine (HS.out.fork (by omega) j HN.out).mono ?_
            rintro e w5 ⟨rfl, T', hS⟩
            have HS5 := Lib.hid hS
            have cn5 := HS5.out.cell j _ hBn
            have fn5 := HS5.out.frozen j
            clear hS
            go_wp2_with fail
            go_roundw
            case rel => exact ⟨m + 1, T', _, by omega, by go_num, Lib.hid (HS5.out.store j true)⟩
            case measure => simp [numV]; omega
      · obtain ⟨v, hv⟩ : ∃ v, B[k]? = some v := ⟨_, List.getElem?_eq_getElem (by omega)⟩
        go_wp2_with fail
        cases v with
        | false =>
          refine (HS.out.exit_no k (by omega) hv m).mono ?_
          rintro e w5 ⟨rfl, hS⟩
          have HS5 := Lib.hid hS
          have ck := HS5.out.cell k _ hv
          clear hS
          go_wp2_with fail
          go_roundw
          case rel => exact ⟨m + 1, T, B, by omega, by go_num, HS5⟩
          case measure => simp [numV]; omega
        | true =>
          refine (HS.out.exit k hk2 (by omega) hv m).mono ?_
          rintro e w5 ⟨rfl, hrow, hwait⟩
          have ck : w5.cell? ⟨g, k, none⟩ = some (.bool true) := by
            rw [cell_of_row w5 _ _ _ _ _ hrow]
            obtain ⟨e1, e2⟩ := List.getElem?_eq_some_iff.1 hv
            rw [List.getElem?_toArray, tf_get e1, e2]
          clear hrow
          go_wp2_with fail
          refine hwait.mono ?_
          rintro e w6 ⟨rfl, T', hS⟩
          have HS5 := Lib.hid hS
          have ck := HS5.out.cell k _ hv
          have fk := HS5.out.frozen k
          clear hS
          go_wp2_with fail
          go_roundw
          case rel => exact ⟨m + 1, T', _, by omega, by go_num, Lib.hid (HS5.out.store k false)⟩
          case measure => simp [numV]; omega
    · go_wp2_with fail
      all_goals
        go_ret
        exact ⟨rfl, HS.out.below⟩
end Go.Proofs.Ytjhggfpnafhonaa
