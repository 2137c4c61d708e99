/- The Go text of flyleaflaw05.SwapMakes returns true and writes nothing that was there. -/
import Derived.Test.YtbcpnfkjncpdcaaSwapNilWalk
import Derived.Test.YtbcpnfkjncpdcaaOpenTwo
import Derived.Deep.QuietTactic
namespace Go.Proofs.Ytbcpnfkjncpdcaa
open Go.RowKit

theorem quiet_left5 {P : Program} {f : FuncId} {args : Array Value} {w : World} {n : Nat} {v : Value}
    (h : Calls P f args (w.drewN n) fun e w' => e = .returned v ∧ w.drewN n = w') : Calls P f args (w.drewN n) fun e w'' => e = .returned v ∧ ∃ m, w'' = w.drewN m :=
  h.mono fun _ _ ⟨he, hm⟩ => ⟨he, n, hm.symm⟩

set_option maxRecDepth 100000 in
set_option maxHeartbeats 1000000 in
theorem makes_no (w : World) (M : Nat) (sec x y sl : Int) (hM : bits BinOp.and IntKind.i64 sec 15 = (M : Int)) (hM1 : M ≤ 15) (hno : y < 0 ∨ (0 ≤ y ∧ 4096 < y) ∨ (0 ≤ y ∧ y ≤ 4096 ∧ x < 0) ∨ (0 ≤ y ∧ y ≤ 4096 ∧ 0 ≤ x ∧ (M : Int) + 1 - y < x)) :
    Calls Try.prog 9 #[.int .i64 sec, .agg #[.int .i64 x, .int .i64 y], .int .i64 sl] w fun e w' => e = .returned (.bool true) ∧ Below w.heap.size w w' := by
  have hno' : y < 0 ∨ 4096 < y ∨ x < 0 ∨ ((M + 1 : Nat) : Int) - y < x := by omega
  have HN := Lib.hid hno'
  have HO := Lib.hid hno
  clear hno hno'
  go_enter Try.func9, Try.ntmps9
  go_wp2_with fail
  have r0 : (w.alloc (Obj.cells #[Value.int .i64 x, .int .i64 y] 56)).heap[w.heap.size]? = some (.cells [Value.int .i64 x, .int .i64 y].toArray 56 (0, 0)) := heap_alloc_new w _
  have b0 : Below w.heap.size w (w.alloc (Obj.cells #[Value.int .i64 x, .int .i64 y] 56)) := (Below.refl _ _).alloc (Nat.le_refl _) _
  generalize (w.alloc (Obj.cells #[Value.int .i64 x, .int .i64 y] 56)) = W at r0 b0 ⊢
  obtain ⟨q, hq⟩ : ∃ q, q = w.heap.size := ⟨_, rfl⟩
  rw [← hq] at r0 ⊢
  have z0 := b0.size
  clear hq
  have R0 := Lib.hid r0
  have B0 := Lib.hid b0
  clear r0 b0
  refine (awake5 W).mono ?_
  rintro e w1 ⟨rfl, hb1⟩
  have R1 := Lib.hid ((hb1.block q (lt_of_block R0.out)).trans R0.out)
  have b1 := B0.out.trans (hb1.mono z0)
  have z1 := b1.size
  clear hb1
  go_wp2_with fail
  have hMM : (1 : Int) + M = ((M + 1 : Nat) : Int) := by omega
  rw [hMM]
  clear hMM
  refine (new_ok w1 ((M + 1 : Nat) : Int) (by omega) (by omega)).mono ?_
  rintro e w2 ⟨d, bb, rfl, hd, hbb, hD, hb2⟩
  rw [Int.toNat_natCast] at hD
  have HD := Lib.hid hD
  have R2 := Lib.hid ((hb2.block q (lt_of_block R1.out)).trans R1.out)
  have b2 := b1.trans (hb2.mono z1)
  have z2 := b2.size
  clear hD hb2
  have k0 : w2.cell? ⟨q, 0, none⟩ = some (.int .i64 x) := cell_of_row w2 _ 0 _ _ _ R2.out
  have k1 : w2.cell? ⟨q, 1, none⟩ = some (.int .i64 y) := cell_of_row w2 _ 1 _ _ _ R2.out
  have hlen : (newDM (M + 1)).secs.length = M + 1 := by simp [newDM]
  have c0 := HD.out.c0
  rw [hlen] at c0
  clear hlen
  go_wp2_with fail
  refine (area_new_no w2 d (M + 1) ((M + 1) * 64) (some ⟨bb, 0, none⟩) x y (by omega) HN.out c0).mono ?_
  rintro e w3 ⟨rfl, rfl⟩
  go_wp2_with fail
  rcases HO.out with h | ⟨h1, h⟩ | ⟨h1, h2, h⟩ | ⟨h1, h2, h3, h⟩
  · have e1 : decide (0 ≤ y) = false := by simp; omega
    go_quiet (first | (go_at_call 20; exact quiet_left5 (sectors_any _ d (M + 1) _ _ (by omega) (by assumption))))
    go_wp2_with fail
    refine (area_new_nil (w2.drewN nq) 0 0).mono ?_
    rintro e w4 ⟨rfl, rfl⟩
    go_wp2_with fail
    go_ret
    exact ⟨rfl, below_drewN b2 _⟩
  · have e1 : decide (0 ≤ y) = true := by simp; omega
    have e2 : decide (y ≤ 4096) = false := by simp; omega
    go_quiet (first | (go_at_call 20; exact quiet_left5 (sectors_any _ d (M + 1) _ _ (by omega) (by assumption))))
    go_wp2_with fail
    refine (area_new_nil (w2.drewN nq) 0 0).mono ?_
    rintro e w4 ⟨rfl, rfl⟩
    go_wp2_with fail
    go_ret
    exact ⟨rfl, below_drewN b2 _⟩
  · have e1 : decide (0 ≤ y) = true := by simp; omega
    have e2 : decide (y ≤ 4096) = true := by simp; omega
    have e3 : decide (0 ≤ x) = false := by simp; omega
    go_quiet (first | (go_at_call 20; exact quiet_left5 (sectors_any _ d (M + 1) _ _ (by omega) (by assumption))))
    go_wp2_with fail
    refine (area_new_nil (w2.drewN nq) 0 0).mono ?_
    rintro e w4 ⟨rfl, rfl⟩
    go_wp2_with fail
    go_ret
    exact ⟨rfl, below_drewN b2 _⟩
  · have e1 : decide (0 ≤ y) = true := by simp; omega
    have e2 : decide (y ≤ 4096) = true := by simp; omega
    have e3 : decide (0 ≤ x) = true := by simp; omega
    have e4 : decide (x ≤ ((M + 1 : Nat) : Int) - y) = false := by simp; omega
    have e5 : decide (x ≤ (M : Int) + 1 - y) = false := by simp; omega
    go_quiet (first | (go_at_call 20; exact quiet_left5 (sectors_any _ d (M + 1) _ _ (by omega) (by assumption))))
    go_wp2_with fail
    refine (area_new_nil (w2.drewN nq) 0 0).mono ?_
    rintro e w4 ⟨rfl, rfl⟩
    go_wp2_with fail
    go_ret
    exact ⟨rfl, below_drewN b2 _⟩

set_option maxRecDepth 100000 in
set_option maxHeartbeats 1000000 in
theorem makes_yes (w : World) (M X Y S : Nat) (sec sl : Int) (hM : bits BinOp.and IntKind.i64 sec 15 = (M : Int)) (hM1 : M ≤ 15) (hS : bits BinOp.and IntKind.i64 sl 15 = (S : Int)) (hS1 : S ≤ 15) (hyes : X + Y ≤ M + 1) :
    Calls Try.prog 9 #[.int .i64 sec, .agg #[.int .i64 X, .int .i64 Y], .int .i64 sl] w fun e w' => e = .returned (.bool true) ∧ Below w.heap.size w w' := by
  go_enter Try.func9, Try.ntmps9
  go_wp2_with fail
  have r0 : (w.alloc (Obj.cells #[Value.int .i64 X, .int .i64 Y] 56)).heap[w.heap.size]? = some (.cells [Value.int .i64 X, .int .i64 Y].toArray 56 (0, 0)) := heap_alloc_new w _
  have b0 : Below w.heap.size w (w.alloc (Obj.cells #[Value.int .i64 X, .int .i64 Y] 56)) := (Below.refl _ _).alloc (Nat.le_refl _) _
  generalize (w.alloc (Obj.cells #[Value.int .i64 X, .int .i64 Y] 56)) = W at r0 b0 ⊢
  obtain ⟨q, hq⟩ : ∃ q, q = w.heap.size := ⟨_, rfl⟩
  rw [← hq] at r0 ⊢
  have z0 := b0.size
  have HQ := Lib.hid hq
  clear hq
  have R0 := Lib.hid r0
  have B0 := Lib.hid b0
  clear r0 b0
  refine (awake5 W).mono ?_
  rintro e w1 ⟨rfl, hb1⟩
  have R1 := Lib.hid ((hb1.block q (lt_of_block R0.out)).trans R0.out)
  have b1 := B0.out.trans (hb1.mono z0)
  have z1 := b1.size
  clear hb1
  go_wp2_with fail
  have hMM : (1 : Int) + M = ((M + 1 : Nat) : Int) := by omega
  rw [hMM]
  clear hMM
  refine (new_ok w1 ((M + 1 : Nat) : Int) (by omega) (by omega)).mono ?_
  rintro e w2 ⟨d, bb, rfl, hd, hbb, hD, hb2⟩
  rw [Int.toNat_natCast] at hD
  have HD := Lib.hid hD
  have R2 := Lib.hid ((hb2.block q (lt_of_block R1.out)).trans R1.out)
  have hq1 := lt_of_block R1.out
  have b2 := b1.trans (hb2.mono z1)
  have z2 := b2.size
  clear hD hb2
  have k0 : w2.cell? ⟨q, 0, none⟩ = some (.int .i64 X) := cell_of_row w2 _ 0 _ _ _ R2.out
  have k1 : w2.cell? ⟨q, 1, none⟩ = some (.int .i64 Y) := cell_of_row w2 _ 1 _ _ _ R2.out
  go_wp2_with fail
  refine (area_new w2 d bb _ X Y (by omega) (by omega) (by simp [newDM]; omega) HD.out).mono ?_
  rintro e w3 ⟨a, hb, rfl, ha, hhb, hA3, hb3⟩
  have HA3 := Lib.hid hA3
  have R3 := Lib.hid ((hb3.block q (lt_of_block R2.out)).trans R2.out)
  have hq2 := lt_of_block R2.out
  have b3 : Below w.heap.size w w3 := b2.trans (hb3.mono z2)
  have z3 := b3.size
  clear hA3 hb3 HD k0 k1
  have k0 : w3.cell? ⟨q, 0, none⟩ = some (.int .i64 X) := cell_of_row w3 _ 0 _ _ _ R3.out
  have k1 : w3.cell? ⟨q, 1, none⟩ = some (.int .i64 Y) := cell_of_row w3 _ 1 _ _ _ R3.out
  have hlen : (newDM (M + 1)).secs.length = M + 1 := by simp [newDM]
  have c0 := HA3.out.disk.c0
  simp only [hlen] at c0
  clear hlen
  have e1 : decide (0 ≤ (Y : Int)) = true := by simp
  have e2 : decide ((Y : Int) ≤ 4096) = true := by simp; omega
  have e3 : decide (0 ≤ (X : Int)) = true := by simp
  have e4 : decide ((X : Int) ≤ ((M + 1 : Nat) : Int) - (Y : Int)) = true := by simp; omega
  have e5 : decide ((X : Int) ≤ (M : Int) + 1 - (Y : Int)) = true := by simp; omega
  go_wp2_with fail
  go_quiet (first | (go_at_call 20; exact quiet_left5 (sectors_any _ d (M + 1) _ _ (by omega) (by assumption))))
  go_wp2_with fail
  have hA4 := HA3.out.below (below_drewN (Below.refl _ w3) nq) (Nat.le_refl _)
  have b4 : Below w.heap.size w (w3.drewN nq) := below_drewN b3 _
  have r4 : (w3.drewN nq).heap[q]? = some (.cells [Value.int .i64 X, .int .i64 Y].toArray 56 (0, 0)) := R3.out
  clear c0 k0 k1 e1 e2 e3 e4 e5 HA3 R3 b3 z3
  generalize w3.drewN nq = w4 at *
  have HA4 := Lib.hid hA4
  have R4 := Lib.hid r4
  have z4 := b4.size
  clear hA4 r4
  have k0 : w4.cell? ⟨q, 0, none⟩ = some (.int .i64 X) := cell_of_row w4 _ 0 _ _ _ R4.out
  have k1 : w4.cell? ⟨q, 1, none⟩ = some (.int .i64 Y) := cell_of_row w4 _ 1 _ _ _ R4.out
  refine (area_new_nil w4 0 0).mono ?_
  rintro e w5 ⟨rfl, rfl⟩
  have hsl : (SA.mk (newDM (M + 1)) X (List.replicate Y 0) 0).held.length = Y := by simp
  have c2 := HA4.out.c2
  rw [hsl] at c2
  clear hsl
  go_wp2_with fail
  go_quiet (first | (go_at_call 33; exact quiet_left5 (slots_cell _ a Y _ _ (by omega) (by assumption))))
  go_wp2_with fail
  have hA5 := HA4.out.below (below_drewN (Below.refl _ w4) nq) (Nat.le_refl _)
  have b5 : Below w.heap.size w (w4.drewN nq) := below_drewN b4 _
  have r5 : (w4.drewN nq).heap[q]? = some (.cells [Value.int .i64 X, .int .i64 Y].toArray 56 (0, 0)) := R4.out
  clear c2 k0 k1 HA4 R4 b4 z4
  generalize w4.drewN nq = w5 at *
  have HA5 := Lib.hid hA5
  have R5 := Lib.hid r5
  have z5 := b5.size
  clear hA5 r5
  refine (seal_any w5 d bb _ S HA5.out.disk).mono ?_
  rintro e w6 ⟨rfl, hD6, hm6⟩
  have hD6' : IsDisk w6 d bb ⟨(newDM (M + 1)).secs, S, 0, 0⟩ := by
    have : max (newDM (M + 1)).sealed_ (S : Int) = S := by simp [newDM]
    rw [← this]; exact hD6
  have HA6 := Lib.hid (HA5.out.withDisk (hm6.mono (by simp)) hD6')
  have b6 : Below w.heap.size w w6 := below_after b5 hm6 z5 (by simp; omega)
  have R6 := Lib.hid ((hm6.block q (lt_of_block R5.out) (by simp; omega)).trans R5.out)
  have z6 := b6.size
  clear hD6 hD6' hm6 HA5 R5
  go_wp2_with fail
  refine (page_any w6 1).mono ?_
  rintro e w7 ⟨rfl, hb7⟩
  have HA7 := Lib.hid (HA6.out.below hb7 (Nat.le_refl _))
  have R7 := Lib.hid ((hb7.block q (lt_of_block R6.out)).trans R6.out)
  have b7 := b6.trans (hb7.mono z6)
  have z7 := b7.size
  clear hb7 HA6 R6
  have hp := pageB_size 1
  generalize pageB 1 = p at *
  go_wp2_with fail
  have hlen : (newDM (M + 1)).secs.length = M + 1 := by simp [newDM]
  have hhl : (SA.mk ⟨(newDM (M + 1)).secs, S, 0, 0⟩ X (List.replicate Y 0) 0).held.length = Y := by simp
  have hna : q ≠ a ∧ q ≠ hb ∧ q ≠ d ∧ q ≠ bb := by omega
  by_cases hY : Y = 0
  · subst hY
    have c2 := HA7.out.c2
    rw [hhl] at c2
    have HP := Lib.hid hp
    clear hp hlen hhl
    refine (put_full w7 a _ 0 0 p HP.out (by omega) c2 (fun k hk => absurd hk (by omega))).mono ?_
    rintro e w8 ⟨rfl, rfl⟩
    have k1 : w7.cell? ⟨q, 1, none⟩ = some (.int .i64 ((0 : Nat) : Int)) := cell_of_row w7 _ 1 _ _ _ R7.out
    clear c2
    go_wp2_with fail
    refine (used_any w7 a hb d bb _ HA7.out).mono ?_
    rintro e w8 ⟨rfl, rfl⟩
    go_wp2_with fail
    go_ret
    exact ⟨rfl, b7⟩
  · have hYn : ((Y : Int) == 0) = false := by simp; omega
    by_cases hXS : X < S
    · refine (put_at w7 a hb d bb _ p 0 hp (by rw [hhl]; omega) (by simp) (fun j h => absurd h (by omega)) ⟨by simp, by simp; omega⟩ (by simp) (by simp) HA7.out).mono ?_
      rintro e w8 ⟨er, D2, hq', he, hA8, hm8⟩
      have hwr := hq'.out
      unfold DM.wr at hwr
      rw [if_neg (by simp only [hlen]; omega), if_neg (by omega), if_pos (by simp only []; omega)] at hwr
      simp only [Prod.mk.injEq] at hwr
      obtain ⟨rfl, rfl⟩ := hwr
      rw [if_neg (by omega)] at he hA8
      subst he
      have HA8 := Lib.hid hA8
      have b8 : Below w.heap.size w w8 := below_after b7 hm8 z7 (by simp; omega)
      have R8 := (hm8.block q (lt_of_block R7.out) (by simp; exact hna)).trans R7.out
      have k0 : w8.cell? ⟨q, 0, none⟩ = some (.int .i64 X) := cell_of_row w8 _ 0 _ _ _ R8
      have k1 : w8.cell? ⟨q, 1, none⟩ = some (.int .i64 Y) := cell_of_row w8 _ 1 _ _ _ R8
      have HN := Lib.hid hna
      clear hA8 hm8 R8 hhl hlen hp hna HA7
      go_wp2_with fail
      refine (used_any w8 a hb d bb _ HA8.out).mono ?_
      rintro e w9 ⟨rfl, rfl⟩
      go_wp2_with fail
      go_ret
      exact ⟨rfl, b8⟩
    · refine (put_good w7 a hb d bb _ p 0 hp (by rw [hhl]; omega) (by simp) (fun j h => absurd h (by omega)) ⟨by simp, by simp only [hlen]; omega⟩ (by simp only []; omega) (by simp) (by simp) HA7.out).mono ?_
      rintro e w8 ⟨rfl, hA8, hm8⟩
      have HA8 := Lib.hid hA8
      have b8 : Below w.heap.size w w8 := below_after b7 hm8 z7 (by simp; omega)
      have R8 := (hm8.block q (lt_of_block R7.out) (by simp; exact hna)).trans R7.out
      have k0 : w8.cell? ⟨q, 0, none⟩ = some (.int .i64 X) := cell_of_row w8 _ 0 _ _ _ R8
      have k1 : w8.cell? ⟨q, 1, none⟩ = some (.int .i64 Y) := cell_of_row w8 _ 1 _ _ _ R8
      have HN := Lib.hid hna
      clear hA8 hm8 R8 hhl hlen hp hna HA7
      go_wp2_with fail
      refine (used_any w8 a hb d bb _ HA8.out).mono ?_
      rintro e w9 ⟨rfl, rfl⟩
      go_wp2_with fail
      go_ret
      exact ⟨rfl, b8⟩

theorem makes_walk (w : World) (sec : Int) (_hs : (Lit.int IntKind.i64 sec).wf = true) (x y : Int) (sl : Int) (_hl : (Lit.int IntKind.i64 sl).wf = true) :
    Calls Try.prog 9 #[.int .i64 sec, .agg #[.int .i64 x, .int .i64 y], .int .i64 sl] w fun e w' => e = .returned (.bool true) ∧ Below w.heap.size w w' := by
  obtain ⟨M, hM, hM1⟩ : ∃ k : Nat, bits BinOp.and IntKind.i64 sec 15 = (k : Int) ∧ k ≤ 15 := ⟨(sec % 16).toNat, by rw [and15]; omega, by omega⟩
  obtain ⟨S, hS, hS1⟩ : ∃ k : Nat, bits BinOp.and IntKind.i64 sl 15 = (k : Int) ∧ k ≤ 15 := ⟨(sl % 16).toNat, by rw [and15]; omega, by omega⟩
  by_cases hno : y < 0 ∨ (0 ≤ y ∧ 4096 < y) ∨ (0 ≤ y ∧ y ≤ 4096 ∧ x < 0) ∨ (0 ≤ y ∧ y ≤ 4096 ∧ 0 ≤ x ∧ (M : Int) + 1 - y < x)
  · exact makes_no w M sec x y sl hM hM1 hno
  · obtain ⟨X, rfl⟩ := Int.eq_ofNat_of_zero_le (show 0 ≤ x by omega)
    obtain ⟨Y, rfl⟩ := Int.eq_ofNat_of_zero_le (show 0 ≤ y by omega)
    exact makes_yes w M X Y S sec sl hM hM1 hS hS1 (by omega)
end Go.Proofs.Ytbcpnfkjncpdcaa
