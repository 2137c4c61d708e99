/- RadixPacks: the walk. No conditions. -/
import Derived.Test.YtacpfkimjaihgaaDoorRRef
import Derived.Test.YtacpfkimjaihgaaDoorRNew
import Derived.Deep.RegionHeld3
namespace Go.Proofs.YtacpfkimjaihgaaDoor
open Go.RowKit
set_option linter.unusedVariables false

theorem unpack_v (w : World) (x : Int) (h0 : 0 ≤ x) (h1 : x < 18446744073709551616) (v : Value) (hs : (unpackB x).enc = v) : Calls Tryd.prog 46 #[.int .u64 x] w fun e w' => e = .returned v ∧ Below w.heap.size w w' := by
  subst hs
  exact unpack_any w x h0 h1
theorem runpack_v (w : World) (x : Int) (h0 : 0 ≤ x) (h1 : x < 18446744073709551616) (v : Value) (hs : (unpackB x).enc = v) : Calls Tryd.prog 47 #[.int .u64 x] w fun e w' => e = .returned v ∧ Below w.heap.size w w' := by
  subst hs
  exact runpack_any w x h0 h1
theorem rpack_is (w : World) (s : Sl) (v : Value) (hv : s.enc = v) (x : Int) (hx : packS s = x) : Calls Tryd.prog 45 #[v] w fun e w' => e = .returned (.int .u64 x) ∧ Below w.heap.size w w' := by
  subst hv hx
  exact rpack_any w s

set_option maxHeartbeats 2000000 in
theorem eqInSl (a b : Sl) (w : World) : (Op.equalIn 10000 68 a.enc b.enc).run Tryd.prog w = .ok (slEq a b) w := by
  have u4 := Tryd.underlying4
  have u3 := Tryd.underlying3
  have a4 := Tryd.isAgg4
  have a3 := Tryd.isAgg3
  have z4 := Tryd.sizeOf4
  have z3 := Tryd.sizeOf3
  have hS : Tryd.prog.underlying 68 = some (.struct (Tryd.prog.fieldsOf 68)) := by kernel_rfl
  have hp : Tryd.prog.stoodInHeld 68 = false := by kernel_rfl
  obtain ⟨a1, a2, a3, a4, a5⟩ := a
  obtain ⟨b1, b2, b3, b4, b5⟩ := b
  unfold Sl.enc slEq
  simp only []
  rw [show (10000 : Nat) = 9999 + 1 from rfl, run_equalIn_agg w 9999 _ _ _ hS hp]
  simp only [Program.fieldsOf, Tryd.underlying68]
  go_simp
  by_cases h1 : a1 = b1 <;> by_cases h2 : a2 = b2 <;> by_cases h3 : a3 = b3 <;> by_cases h4 : a4 = b4 <;> by_cases h5 : a5 = b5 <;> simp [h1, h2, h3, h4, h5]
set_option maxRecDepth 100000 in
set_option maxHeartbeats 16000000 in
theorem packs_walk (w : World) (hw : Wd w) (s : Sl) (x : Int) (h0 : 0 ≤ x) (h1 : x < 18446744073709551616) :
    Calls Tryd.prog 10 #[s.enc, .int .u64 x] w fun e w' => e = .returned (.bool true) ∧ Below w.heap.size w w' := by
  have hpb := pack_lt s
  have hup := unpack_pack s
  obtain ⟨y, hy⟩ : ∃ y, packS s = y := ⟨_, rfl⟩
  rw [hy] at hpb hup
  obtain ⟨⟨u1, u2, u3, u4, u5⟩, hu⟩ : ∃ u : Sl, unpackB x = u := ⟨_, rfl⟩
  obtain ⟨⟨b1', b2', b3', b4', b5'⟩, hbk⟩ : ∃ b : Sl, (if may s then s else .zero) = b := ⟨_, rfl⟩
  rw [hbk] at hup
  obtain ⟨m, hm⟩ : ∃ m, may s = m := ⟨_, rfl⟩
  obtain ⟨a, b, c, d, n⟩ := s
  have heq1 : ∀ W, (Op.equalIn 10000 68 (.agg #[.bool u1, .bool u2, .bool u3, .bool u4, .int .i64 u5]) (.agg #[.bool u1, .bool u2, .bool u3, .bool u4, .int .i64 u5])).run Tryd.prog W = .ok true W := fun W => by
    have := eqInSl ⟨u1, u2, u3, u4, u5⟩ ⟨u1, u2, u3, u4, u5⟩ W
    rw [slEq_iff, decide_eq_true rfl] at this
    exact this
  have heq2 : ∀ W, (Op.equalIn 10000 68 (.agg #[.bool b1', .bool b2', .bool b3', .bool b4', .int .i64 b5']) (.agg #[.bool b1', .bool b2', .bool b3', .bool b4', .int .i64 b5'])).run Tryd.prog W = .ok true W := fun W => by
    have := eqInSl ⟨b1', b2', b3', b4', b5'⟩ ⟨b1', b2', b3', b4', b5'⟩ W
    rw [slEq_iff, decide_eq_true rfl] at this
    exact this
  have hawk := fun (W : World) (hb : Below w.heap.size w W) => awake07 W (hw.below hb (Nat.le_refl _))
  have HU := Lib.hid (And.intro hu (And.intro hup hy))
  have HAW := Lib.hid hawk
  clear hu hup hy hawk hw
  simp only [Sl.enc]
  have hB1 : Below w.heap.size w (w.alloc (.cells #[.bool a, .bool b, .bool c, .bool d, .int .i64 n] 68)) := (Below.refl _ w).alloc (Nat.le_refl _) _
  have n0 := heap_alloc_new w (.cells #[.bool a, .bool b, .bool c, .bool d, .int .i64 n] 68)
  go_enter Tryd.func10, Tryd.ntmps10
  go_wp2_with (
    go_at_call 42; refine (HAW.out _ hB1).mono ?_; rintro e w2 ⟨rfl, hb2⟩;
    have s2 := hb2.size;
    simp only [World.size_alloc] at s2;
    have n2 := (hb2.block w.heap.size (by simp)).trans n0;
    have z0 := (cell_of_row w2 _ 0 _ _ _ n2);
    have z1 := (cell_of_row w2 _ 1 _ _ _ n2);
    have z2 := (cell_of_row w2 _ 2 _ _ _ n2);
    have z3 := (cell_of_row w2 _ 3 _ _ _ n2);
    have z4 := (cell_of_row w2 _ 4 _ _ _ n2);
    simp only [List.getElem?_toArray, List.getElem?_cons_zero, List.getElem?_cons_succ] at z0 z1 z2 z3 z4;
    have hl2 : w.heap.size < w2.heap.size := by omega)
  have hBq : Below w.heap.size w (w2.alloc (.cells #[.bool a, .bool b, .bool c, .bool d, .int .i64 n] 68)) := (hB1.trans (hb2.mono (by simp))).alloc (by omega) _
  have q2 := (Below.heap_alloc w2 (.cells #[.bool a, .bool b, .bool c, .bool d, .int .i64 n] 68) _ hl2).trans n2
  have q6 := heap_alloc_new w2 (.cells #[.bool a, .bool b, .bool c, .bool d, .int .i64 n] 68)
  refine (rmay_is _ ⟨a, b, c, d, n⟩ _ rfl m hm).mono ?_
  rintro e w3 ⟨rfl, hb3⟩
  have s3 := hb3.size
  simp only [World.size_alloc] at s3
  have r2 := (hb3.block w.heap.size (by simp; omega)).trans q2
  have r6 := (hb3.block w2.heap.size (by simp)).trans q6
  have hB3 : Below w.heap.size w w3 := hBq.trans (hb3.mono (by simp; omega))
  clear hBq q2 q6 hb3 hb2 n2 n0 hB1 z0 z1 z2 z3 z4
  obtain ⟨B6, h6⟩ : ∃ B, w2.heap.size = B := ⟨_, rfl⟩
  rw [h6] at hl2 s3 r6 ⊢
  clear h6
  cases m with
  | true =>
    rw [hm, if_pos rfl] at hbk
    cases hbk
    obtain ⟨Z, hZ⟩ : ∃ Z, (w3).drew = Z := ⟨_, rfl⟩
    have hBZ : Below w.heap.size w Z := by rw [← hZ]; exact (hB3).drew
    have r2Z : Z.heap[w.heap.size]? = some (.cells #[.bool b1', .bool b2', .bool b3', .bool b4', .int .i64 b5'] 68 (0, 0)) := by rw [← hZ]; exact r2
    have r6Z : Z.heap[B6]? = some (.cells #[.bool b1', .bool b2', .bool b3', .bool b4', .int .i64 b5'] 68 (0, 0)) := by rw [← hZ]; exact r6
    have k0 := (cell_of_row Z _ 0 _ _ _ r2Z)
    have k1 := (cell_of_row Z _ 1 _ _ _ r2Z)
    have k2 := (cell_of_row Z _ 2 _ _ _ r2Z)
    have k3 := (cell_of_row Z _ 3 _ _ _ r2Z)
    have k4 := (cell_of_row Z _ 4 _ _ _ r2Z)
    have k5 := (cell_of_row Z _ 0 _ _ _ r6Z)
    have k6 := (cell_of_row Z _ 1 _ _ _ r6Z)
    have k7 := (cell_of_row Z _ 2 _ _ _ r6Z)
    have k8 := (cell_of_row Z _ 3 _ _ _ r6Z)
    have k9 := (cell_of_row Z _ 4 _ _ _ r6Z)
    simp only [List.getElem?_toArray, List.getElem?_cons_zero, List.getElem?_cons_succ] at k0 k1 k2 k3 k4 k5 k6 k7 k8 k9
    have G44 := Lib.hid (fun W => pack_is W ⟨b1', b2', b3', b4', b5'⟩ (.agg #[.bool b1', .bool b2', .bool b3', .bool b4', .int .i64 b5']) rfl y HU.out.2.2)
    have G45 := Lib.hid (fun W => rpack_is W ⟨b1', b2', b3', b4', b5'⟩ (.agg #[.bool b1', .bool b2', .bool b3', .bool b4', .int .i64 b5']) rfl y HU.out.2.2)
    have G46 := Lib.hid (fun W => unpack_v W x h0 h1 (.agg #[.bool u1, .bool u2, .bool u3, .bool u4, .int .i64 u5]) (by rw [HU.out.1]; rfl))
    have G46y := Lib.hid (fun W => unpack_v W y hpb.1 hpb.2 (.agg #[.bool b1', .bool b2', .bool b3', .bool b4', .int .i64 b5']) (by rw [HU.out.2.1]; rfl))
    have G47 := Lib.hid (fun W => runpack_v W x h0 h1 (.agg #[.bool u1, .bool u2, .bool u3, .bool u4, .int .i64 u5]) (by rw [HU.out.1]; rfl))
    go_wp2_with fail
    try rw [hZ]
    go_region_held3 (fun w' => w'.cell? ⟨w.heap.size, 0, none⟩ = some (.bool b1') ∧ w'.cell? ⟨w.heap.size, 1, none⟩ = some (.bool b2') ∧ w'.cell? ⟨w.heap.size, 2, none⟩ = some (.bool b3') ∧ w'.cell? ⟨w.heap.size, 3, none⟩ = some (.bool b4') ∧ w'.cell? ⟨w.heap.size, 4, none⟩ = some (.int .i64 b5') ∧ w'.cell? ⟨B6, 0, none⟩ = some (.bool b1') ∧ w'.cell? ⟨B6, 1, none⟩ = some (.bool b2') ∧ w'.cell? ⟨B6, 2, none⟩ = some (.bool b3') ∧ w'.cell? ⟨B6, 3, none⟩ = some (.bool b4') ∧ w'.cell? ⟨B6, 4, none⟩ = some (.int .i64 b5')) (first | exact ⟨k0, k1, k2, k3, k4, k5, k6, k7, k8, k9⟩ | exact ⟨by with_reducible assumption, by with_reducible assumption, by with_reducible assumption, by with_reducible assumption, by with_reducible assumption, by with_reducible assumption, by with_reducible assumption, by with_reducible assumption, by with_reducible assumption, by with_reducible assumption⟩ | go_keep) (first
      | (
        go_at_call 44; (with_reducible refine (G44.out _).mono ?_); rintro e w' ⟨rfl, hb⟩;
        have R2 := (hb.block w.heap.size (lt_of_block (by with_reducible assumption))).trans (show _ = some (Obj.cells #[.bool b1', .bool b2', .bool b3', .bool b4', .int .i64 b5'] 68 (0, 0)) by with_reducible assumption);
        have R6 := (hb.block B6 (lt_of_block (by with_reducible assumption))).trans (show _ = some (Obj.cells #[.bool b1', .bool b2', .bool b3', .bool b4', .int .i64 b5'] 68 (0, 0)) by with_reducible assumption);
        have CB := Below.trans (show Below w.heap.size w _ by with_reducible assumption) (hb.mono (Nat.le_of_lt (lt_of_block (show _ = some (Obj.cells #[.bool b1', .bool b2', .bool b3', .bool b4', .int .i64 b5'] 68 (0, 0)) by with_reducible assumption))));
        have c0 := (cell_of_row w' _ 0 _ _ _ R2);
        have c1 := (cell_of_row w' _ 1 _ _ _ R2);
        have c2 := (cell_of_row w' _ 2 _ _ _ R2);
        have c3 := (cell_of_row w' _ 3 _ _ _ R2);
        have c4 := (cell_of_row w' _ 4 _ _ _ R2);
        have c5 := (cell_of_row w' _ 0 _ _ _ R6);
        have c6 := (cell_of_row w' _ 1 _ _ _ R6);
        have c7 := (cell_of_row w' _ 2 _ _ _ R6);
        have c8 := (cell_of_row w' _ 3 _ _ _ R6);
        have c9 := (cell_of_row w' _ 4 _ _ _ R6);
        simp only [List.getElem?_toArray, List.getElem?_cons_zero, List.getElem?_cons_succ] at c0 c1 c2 c3 c4 c5 c6 c7 c8 c9)
      | (
        go_at_call 45; (with_reducible refine (G45.out _).mono ?_); rintro e w' ⟨rfl, hb⟩;
        have R2 := (hb.block w.heap.size (lt_of_block (by with_reducible assumption))).trans (show _ = some (Obj.cells #[.bool b1', .bool b2', .bool b3', .bool b4', .int .i64 b5'] 68 (0, 0)) by with_reducible assumption);
        have R6 := (hb.block B6 (lt_of_block (by with_reducible assumption))).trans (show _ = some (Obj.cells #[.bool b1', .bool b2', .bool b3', .bool b4', .int .i64 b5'] 68 (0, 0)) by with_reducible assumption);
        have CB := Below.trans (show Below w.heap.size w _ by with_reducible assumption) (hb.mono (Nat.le_of_lt (lt_of_block (show _ = some (Obj.cells #[.bool b1', .bool b2', .bool b3', .bool b4', .int .i64 b5'] 68 (0, 0)) by with_reducible assumption))));
        have c0 := (cell_of_row w' _ 0 _ _ _ R2);
        have c1 := (cell_of_row w' _ 1 _ _ _ R2);
        have c2 := (cell_of_row w' _ 2 _ _ _ R2);
        have c3 := (cell_of_row w' _ 3 _ _ _ R2);
        have c4 := (cell_of_row w' _ 4 _ _ _ R2);
        have c5 := (cell_of_row w' _ 0 _ _ _ R6);
        have c6 := (cell_of_row w' _ 1 _ _ _ R6);
        have c7 := (cell_of_row w' _ 2 _ _ _ R6);
        have c8 := (cell_of_row w' _ 3 _ _ _ R6);
        have c9 := (cell_of_row w' _ 4 _ _ _ R6);
        simp only [List.getElem?_toArray, List.getElem?_cons_zero, List.getElem?_cons_succ] at c0 c1 c2 c3 c4 c5 c6 c7 c8 c9)
      | (
        go_at_call 46; (with_reducible refine (G46.out _).mono ?_); rintro e w' ⟨rfl, hb⟩;
        have R2 := (hb.block w.heap.size (lt_of_block (by with_reducible assumption))).trans (show _ = some (Obj.cells #[.bool b1', .bool b2', .bool b3', .bool b4', .int .i64 b5'] 68 (0, 0)) by with_reducible assumption);
        have R6 := (hb.block B6 (lt_of_block (by with_reducible assumption))).trans (show _ = some (Obj.cells #[.bool b1', .bool b2', .bool b3', .bool b4', .int .i64 b5'] 68 (0, 0)) by with_reducible assumption);
        have CB := Below.trans (show Below w.heap.size w _ by with_reducible assumption) (hb.mono (Nat.le_of_lt (lt_of_block (show _ = some (Obj.cells #[.bool b1', .bool b2', .bool b3', .bool b4', .int .i64 b5'] 68 (0, 0)) by with_reducible assumption))));
        have c0 := (cell_of_row w' _ 0 _ _ _ R2);
        have c1 := (cell_of_row w' _ 1 _ _ _ R2);
        have c2 := (cell_of_row w' _ 2 _ _ _ R2);
        have c3 := (cell_of_row w' _ 3 _ _ _ R2);
        have c4 := (cell_of_row w' _ 4 _ _ _ R2);
        have c5 := (cell_of_row w' _ 0 _ _ _ R6);
        have c6 := (cell_of_row w' _ 1 _ _ _ R6);
        have c7 := (cell_of_row w' _ 2 _ _ _ R6);
        have c8 := (cell_of_row w' _ 3 _ _ _ R6);
        have c9 := (cell_of_row w' _ 4 _ _ _ R6);
        simp only [List.getElem?_toArray, List.getElem?_cons_zero, List.getElem?_cons_succ] at c0 c1 c2 c3 c4 c5 c6 c7 c8 c9)
      | (
        go_at_call 46; (with_reducible refine (G46y.out _).mono ?_); rintro e w' ⟨rfl, hb⟩;
        have R2 := (hb.block w.heap.size (lt_of_block (by with_reducible assumption))).trans (show _ = some (Obj.cells #[.bool b1', .bool b2', .bool b3', .bool b4', .int .i64 b5'] 68 (0, 0)) by with_reducible assumption);
        have R6 := (hb.block B6 (lt_of_block (by with_reducible assumption))).trans (show _ = some (Obj.cells #[.bool b1', .bool b2', .bool b3', .bool b4', .int .i64 b5'] 68 (0, 0)) by with_reducible assumption);
        have CB := Below.trans (show Below w.heap.size w _ by with_reducible assumption) (hb.mono (Nat.le_of_lt (lt_of_block (show _ = some (Obj.cells #[.bool b1', .bool b2', .bool b3', .bool b4', .int .i64 b5'] 68 (0, 0)) by with_reducible assumption))));
        have c0 := (cell_of_row w' _ 0 _ _ _ R2);
        have c1 := (cell_of_row w' _ 1 _ _ _ R2);
        have c2 := (cell_of_row w' _ 2 _ _ _ R2);
        have c3 := (cell_of_row w' _ 3 _ _ _ R2);
        have c4 := (cell_of_row w' _ 4 _ _ _ R2);
        have c5 := (cell_of_row w' _ 0 _ _ _ R6);
        have c6 := (cell_of_row w' _ 1 _ _ _ R6);
        have c7 := (cell_of_row w' _ 2 _ _ _ R6);
        have c8 := (cell_of_row w' _ 3 _ _ _ R6);
        have c9 := (cell_of_row w' _ 4 _ _ _ R6);
        simp only [List.getElem?_toArray, List.getElem?_cons_zero, List.getElem?_cons_succ] at c0 c1 c2 c3 c4 c5 c6 c7 c8 c9)
      | (
        go_at_call 47; (with_reducible refine (G47.out _).mono ?_); rintro e w' ⟨rfl, hb⟩;
        have R2 := (hb.block w.heap.size (lt_of_block (by with_reducible assumption))).trans (show _ = some (Obj.cells #[.bool b1', .bool b2', .bool b3', .bool b4', .int .i64 b5'] 68 (0, 0)) by with_reducible assumption);
        have R6 := (hb.block B6 (lt_of_block (by with_reducible assumption))).trans (show _ = some (Obj.cells #[.bool b1', .bool b2', .bool b3', .bool b4', .int .i64 b5'] 68 (0, 0)) by with_reducible assumption);
        have CB := Below.trans (show Below w.heap.size w _ by with_reducible assumption) (hb.mono (Nat.le_of_lt (lt_of_block (show _ = some (Obj.cells #[.bool b1', .bool b2', .bool b3', .bool b4', .int .i64 b5'] 68 (0, 0)) by with_reducible assumption))));
        have c0 := (cell_of_row w' _ 0 _ _ _ R2);
        have c1 := (cell_of_row w' _ 1 _ _ _ R2);
        have c2 := (cell_of_row w' _ 2 _ _ _ R2);
        have c3 := (cell_of_row w' _ 3 _ _ _ R2);
        have c4 := (cell_of_row w' _ 4 _ _ _ R2);
        have c5 := (cell_of_row w' _ 0 _ _ _ R6);
        have c6 := (cell_of_row w' _ 1 _ _ _ R6);
        have c7 := (cell_of_row w' _ 2 _ _ _ R6);
        have c8 := (cell_of_row w' _ 3 _ _ _ R6);
        have c9 := (cell_of_row w' _ 4 _ _ _ R6);
        simp only [List.getElem?_toArray, List.getElem?_cons_zero, List.getElem?_cons_succ] at c0 c1 c2 c3 c4 c5 c6 c7 c8 c9))
    all_goals
      go_wp2_with fail
      go_ret
      exact ⟨rfl, CB⟩
  | false =>
    rw [hm, if_neg (by decide)] at hbk
    cases hbk
    have v0 := cell_of_row w3 _ 0 _ _ _ r6
    have v1 := cell_of_row w3 _ 1 _ _ _ r6
    have v2 := cell_of_row w3 _ 2 _ _ _ r6
    have v3 := cell_of_row w3 _ 3 _ _ _ r6
    have v4 := cell_of_row w3 _ 4 _ _ _ r6
    simp only [List.getElem?_toArray, List.getElem?_cons_zero, List.getElem?_cons_succ] at v0 v1 v2 v3 v4
    have f0 := frozen_of_row w3 _ 0 _ _ r6
    have f1 := frozen_of_row w3 _ 1 _ _ r6
    have f2 := frozen_of_row w3 _ 2 _ _ r6
    have f3 := frozen_of_row w3 _ 3 _ _ r6
    have f4 := frozen_of_row w3 _ 4 _ _ r6
    go_wp2_with fail
    have r2f : (fiveAt w3 B6 (.bool false) (.bool false) (.bool false) (.bool false) (.int .i64 0)).heap[w.heap.size]? = some (.cells #[.bool a, .bool b, .bool c, .bool d, .int .i64 n] 68 (0, 0)) := by
      unfold fiveAt
      rw [Below.heap_setCell _ ⟨B6, 4, none⟩ _ _ (by simp; omega), Below.heap_setCell _ ⟨B6, 3, none⟩ _ _ (by simp; omega), Below.heap_setCell _ ⟨B6, 2, none⟩ _ _ (by simp; omega), Below.heap_setCell _ ⟨B6, 1, none⟩ _ _ (by simp; omega), Below.heap_setCell _ ⟨B6, 0, none⟩ _ _ (by simp; omega)]
      exact r2
    have r6f := set5_cells w3 B6 _ _ _ _ _ _ r6 (.bool false) (.bool false) (.bool false) (.bool false) (.int .i64 0)
    have hBf : Below w.heap.size w (fiveAt w3 B6 (.bool false) (.bool false) (.bool false) (.bool false) (.int .i64 0)) := (((((hB3.setCell (p := ⟨B6, 0, none⟩) (Nat.le_of_lt hl2) (.bool false)).setCell (p := ⟨B6, 1, none⟩) (Nat.le_of_lt hl2) (.bool false)).setCell (p := ⟨B6, 2, none⟩) (Nat.le_of_lt hl2) (.bool false)).setCell (p := ⟨B6, 3, none⟩) (Nat.le_of_lt hl2) (.bool false)).setCell (p := ⟨B6, 4, none⟩) (Nat.le_of_lt hl2) (.int .i64 0))
    change Code.wp _ _ _ _ (fiveAt w3 B6 (.bool false) (.bool false) (.bool false) (.bool false) (.int .i64 0))
    generalize fiveAt w3 B6 (.bool false) (.bool false) (.bool false) (.bool false) (.int .i64 0) = V5 at r2f r6f hBf ⊢
    obtain ⟨Z, hZ⟩ : ∃ Z, (V5).drew = Z := ⟨_, rfl⟩
    have hBZ : Below w.heap.size w Z := by rw [← hZ]; exact (hBf).drew
    have r2Z : Z.heap[w.heap.size]? = some (.cells #[.bool a, .bool b, .bool c, .bool d, .int .i64 n] 68 (0, 0)) := by rw [← hZ]; exact r2f
    have r6Z : Z.heap[B6]? = some (.cells #[.bool false, .bool false, .bool false, .bool false, .int .i64 0] 68 (0, 0)) := by rw [← hZ]; exact r6f
    have k0 := (cell_of_row Z _ 0 _ _ _ r2Z)
    have k1 := (cell_of_row Z _ 1 _ _ _ r2Z)
    have k2 := (cell_of_row Z _ 2 _ _ _ r2Z)
    have k3 := (cell_of_row Z _ 3 _ _ _ r2Z)
    have k4 := (cell_of_row Z _ 4 _ _ _ r2Z)
    have k5 := (cell_of_row Z _ 0 _ _ _ r6Z)
    have k6 := (cell_of_row Z _ 1 _ _ _ r6Z)
    have k7 := (cell_of_row Z _ 2 _ _ _ r6Z)
    have k8 := (cell_of_row Z _ 3 _ _ _ r6Z)
    have k9 := (cell_of_row Z _ 4 _ _ _ r6Z)
    simp only [List.getElem?_toArray, List.getElem?_cons_zero, List.getElem?_cons_succ] at k0 k1 k2 k3 k4 k5 k6 k7 k8 k9
    have G44 := Lib.hid (fun W => pack_is W ⟨a, b, c, d, n⟩ (.agg #[.bool a, .bool b, .bool c, .bool d, .int .i64 n]) rfl y HU.out.2.2)
    have G45 := Lib.hid (fun W => rpack_is W ⟨a, b, c, d, n⟩ (.agg #[.bool a, .bool b, .bool c, .bool d, .int .i64 n]) rfl y HU.out.2.2)
    have G46 := Lib.hid (fun W => unpack_v W x h0 h1 (.agg #[.bool u1, .bool u2, .bool u3, .bool u4, .int .i64 u5]) (by rw [HU.out.1]; rfl))
    have G46y := Lib.hid (fun W => unpack_v W y hpb.1 hpb.2 (.agg #[.bool false, .bool false, .bool false, .bool false, .int .i64 0]) (by rw [HU.out.2.1]; rfl))
    have G47 := Lib.hid (fun W => runpack_v W x h0 h1 (.agg #[.bool u1, .bool u2, .bool u3, .bool u4, .int .i64 u5]) (by rw [HU.out.1]; rfl))
    go_wp2_with fail
    try rw [hZ]
    go_region_held3 (fun w' => w'.cell? ⟨w.heap.size, 0, none⟩ = some (.bool a) ∧ w'.cell? ⟨w.heap.size, 1, none⟩ = some (.bool b) ∧ w'.cell? ⟨w.heap.size, 2, none⟩ = some (.bool c) ∧ w'.cell? ⟨w.heap.size, 3, none⟩ = some (.bool d) ∧ w'.cell? ⟨w.heap.size, 4, none⟩ = some (.int .i64 n) ∧ w'.cell? ⟨B6, 0, none⟩ = some (.bool false) ∧ w'.cell? ⟨B6, 1, none⟩ = some (.bool false) ∧ w'.cell? ⟨B6, 2, none⟩ = some (.bool false) ∧ w'.cell? ⟨B6, 3, none⟩ = some (.bool false) ∧ w'.cell? ⟨B6, 4, none⟩ = some (.int .i64 0)) (first | exact ⟨k0, k1, k2, k3, k4, k5, k6, k7, k8, k9⟩ | exact ⟨by with_reducible assumption, by with_reducible assumption, by with_reducible assumption, by with_reducible assumption, by with_reducible assumption, by with_reducible assumption, by with_reducible assumption, by with_reducible assumption, by with_reducible assumption, by with_reducible assumption⟩ | go_keep) (first
      | (
        go_at_call 44; (with_reducible refine (G44.out _).mono ?_); rintro e w' ⟨rfl, hb⟩;
        have R2 := (hb.block w.heap.size (lt_of_block (by with_reducible assumption))).trans (show _ = some (Obj.cells #[.bool a, .bool b, .bool c, .bool d, .int .i64 n] 68 (0, 0)) by with_reducible assumption);
        have R6 := (hb.block B6 (lt_of_block (by with_reducible assumption))).trans (show _ = some (Obj.cells #[.bool false, .bool false, .bool false, .bool false, .int .i64 0] 68 (0, 0)) by with_reducible assumption);
        have CB := Below.trans (show Below w.heap.size w _ by with_reducible assumption) (hb.mono (Nat.le_of_lt (lt_of_block (show _ = some (Obj.cells #[.bool a, .bool b, .bool c, .bool d, .int .i64 n] 68 (0, 0)) by with_reducible assumption))));
        have c0 := (cell_of_row w' _ 0 _ _ _ R2);
        have c1 := (cell_of_row w' _ 1 _ _ _ R2);
        have c2 := (cell_of_row w' _ 2 _ _ _ R2);
        have c3 := (cell_of_row w' _ 3 _ _ _ R2);
        have c4 := (cell_of_row w' _ 4 _ _ _ R2);
        have c5 := (cell_of_row w' _ 0 _ _ _ R6);
        have c6 := (cell_of_row w' _ 1 _ _ _ R6);
        have c7 := (cell_of_row w' _ 2 _ _ _ R6);
        have c8 := (cell_of_row w' _ 3 _ _ _ R6);
        have c9 := (cell_of_row w' _ 4 _ _ _ R6);
        simp only [List.getElem?_toArray, List.getElem?_cons_zero, List.getElem?_cons_succ] at c0 c1 c2 c3 c4 c5 c6 c7 c8 c9)
      | (
        go_at_call 45; (with_reducible refine (G45.out _).mono ?_); rintro e w' ⟨rfl, hb⟩;
        have R2 := (hb.block w.heap.size (lt_of_block (by with_reducible assumption))).trans (show _ = some (Obj.cells #[.bool a, .bool b, .bool c, .bool d, .int .i64 n] 68 (0, 0)) by with_reducible assumption);
        have R6 := (hb.block B6 (lt_of_block (by with_reducible assumption))).trans (show _ = some (Obj.cells #[.bool false, .bool false, .bool false, .bool false, .int .i64 0] 68 (0, 0)) by with_reducible assumption);
        have CB := Below.trans (show Below w.heap.size w _ by with_reducible assumption) (hb.mono (Nat.le_of_lt (lt_of_block (show _ = some (Obj.cells #[.bool a, .bool b, .bool c, .bool d, .int .i64 n] 68 (0, 0)) by with_reducible assumption))));
        have c0 := (cell_of_row w' _ 0 _ _ _ R2);
        have c1 := (cell_of_row w' _ 1 _ _ _ R2);
        have c2 := (cell_of_row w' _ 2 _ _ _ R2);
        have c3 := (cell_of_row w' _ 3 _ _ _ R2);
        have c4 := (cell_of_row w' _ 4 _ _ _ R2);
        have c5 := (cell_of_row w' _ 0 _ _ _ R6);
        have c6 := (cell_of_row w' _ 1 _ _ _ R6);
        have c7 := (cell_of_row w' _ 2 _ _ _ R6);
        have c8 := (cell_of_row w' _ 3 _ _ _ R6);
        have c9 := (cell_of_row w' _ 4 _ _ _ R6);
        simp only [List.getElem?_toArray, List.getElem?_cons_zero, List.getElem?_cons_succ] at c0 c1 c2 c3 c4 c5 c6 c7 c8 c9)
      | (
        go_at_call 46; (with_reducible refine (G46.out _).mono ?_); rintro e w' ⟨rfl, hb⟩;
        have R2 := (hb.block w.heap.size (lt_of_block (by with_reducible assumption))).trans (show _ = some (Obj.cells #[.bool a, .bool b, .bool c, .bool d, .int .i64 n] 68 (0, 0)) by with_reducible assumption);
        have R6 := (hb.block B6 (lt_of_block (by with_reducible assumption))).trans (show _ = some (Obj.cells #[.bool false, .bool false, .bool false, .bool false, .int .i64 0] 68 (0, 0)) by with_reducible assumption);
        have CB := Below.trans (show Below w.heap.size w _ by with_reducible assumption) (hb.mono (Nat.le_of_lt (lt_of_block (show _ = some (Obj.cells #[.bool a, .bool b, .bool c, .bool d, .int .i64 n] 68 (0, 0)) by with_reducible assumption))));
        have c0 := (cell_of_row w' _ 0 _ _ _ R2);
        have c1 := (cell_of_row w' _ 1 _ _ _ R2);
        have c2 := (cell_of_row w' _ 2 _ _ _ R2);
        have c3 := (cell_of_row w' _ 3 _ _ _ R2);
        have c4 := (cell_of_row w' _ 4 _ _ _ R2);
        have c5 := (cell_of_row w' _ 0 _ _ _ R6);
        have c6 := (cell_of_row w' _ 1 _ _ _ R6);
        have c7 := (cell_of_row w' _ 2 _ _ _ R6);
        have c8 := (cell_of_row w' _ 3 _ _ _ R6);
        have c9 := (cell_of_row w' _ 4 _ _ _ R6);
        simp only [List.getElem?_toArray, List.getElem?_cons_zero, List.getElem?_cons_succ] at c0 c1 c2 c3 c4 c5 c6 c7 c8 c9)
      | (
        go_at_call 46; (with_reducible refine (G46y.out _).mono ?_); rintro e w' ⟨rfl, hb⟩;
        have R2 := (hb.block w.heap.size (lt_of_block (by with_reducible assumption))).trans (show _ = some (Obj.cells #[.bool a, .bool b, .bool c, .bool d, .int .i64 n] 68 (0, 0)) by with_reducible assumption);
        have R6 := (hb.block B6 (lt_of_block (by with_reducible assumption))).trans (show _ = some (Obj.cells #[.bool false, .bool false, .bool false, .bool false, .int .i64 0] 68 (0, 0)) by with_reducible assumption);
        have CB := Below.trans (show Below w.heap.size w _ by with_reducible assumption) (hb.mono (Nat.le_of_lt (lt_of_block (show _ = some (Obj.cells #[.bool a, .bool b, .bool c, .bool d, .int .i64 n] 68 (0, 0)) by with_reducible assumption))));
        have c0 := (cell_of_row w' _ 0 _ _ _ R2);
        have c1 := (cell_of_row w' _ 1 _ _ _ R2);
        have c2 := (cell_of_row w' _ 2 _ _ _ R2);
        have c3 := (cell_of_row w' _ 3 _ _ _ R2);
        have c4 := (cell_of_row w' _ 4 _ _ _ R2);
        have c5 := (cell_of_row w' _ 0 _ _ _ R6);
        have c6 := (cell_of_row w' _ 1 _ _ _ R6);
        have c7 := (cell_of_row w' _ 2 _ _ _ R6);
        have c8 := (cell_of_row w' _ 3 _ _ _ R6);
        have c9 := (cell_of_row w' _ 4 _ _ _ R6);
        simp only [List.getElem?_toArray, List.getElem?_cons_zero, List.getElem?_cons_succ] at c0 c1 c2 c3 c4 c5 c6 c7 c8 c9)
      | (
        go_at_call 47; (with_reducible refine (G47.out _).mono ?_); rintro e w' ⟨rfl, hb⟩;
        have R2 := (hb.block w.heap.size (lt_of_block (by with_reducible assumption))).trans (show _ = some (Obj.cells #[.bool a, .bool b, .bool c, .bool d, .int .i64 n] 68 (0, 0)) by with_reducible assumption);
        have R6 := (hb.block B6 (lt_of_block (by with_reducible assumption))).trans (show _ = some (Obj.cells #[.bool false, .bool false, .bool false, .bool false, .int .i64 0] 68 (0, 0)) by with_reducible assumption);
        have CB := Below.trans (show Below w.heap.size w _ by with_reducible assumption) (hb.mono (Nat.le_of_lt (lt_of_block (show _ = some (Obj.cells #[.bool a, .bool b, .bool c, .bool d, .int .i64 n] 68 (0, 0)) by with_reducible assumption))));
        have c0 := (cell_of_row w' _ 0 _ _ _ R2);
        have c1 := (cell_of_row w' _ 1 _ _ _ R2);
        have c2 := (cell_of_row w' _ 2 _ _ _ R2);
        have c3 := (cell_of_row w' _ 3 _ _ _ R2);
        have c4 := (cell_of_row w' _ 4 _ _ _ R2);
        have c5 := (cell_of_row w' _ 0 _ _ _ R6);
        have c6 := (cell_of_row w' _ 1 _ _ _ R6);
        have c7 := (cell_of_row w' _ 2 _ _ _ R6);
        have c8 := (cell_of_row w' _ 3 _ _ _ R6);
        have c9 := (cell_of_row w' _ 4 _ _ _ R6);
        simp only [List.getElem?_toArray, List.getElem?_cons_zero, List.getElem?_cons_succ] at c0 c1 c2 c3 c4 c5 c6 c7 c8 c9))
    all_goals
      go_wp2_with fail
      go_ret
      exact ⟨rfl, CB⟩
end Go.Proofs.YtacpfkimjaihgaaDoor
