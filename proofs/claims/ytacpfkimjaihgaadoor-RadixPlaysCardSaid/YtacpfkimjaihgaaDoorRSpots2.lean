/- radix.spots: the closure at the levels above the last. No conditions. -/
import Derived.Test.YtacpfkimjaihgaaDoorRSpots
namespace Go.Proofs.YtacpfkimjaihgaaDoor
open Go.RowKit Go.Shelf
attribute [local go_sem] Oper.semAt_some
set_option linter.unusedVariables false
section
variable {w0 w w' : World} {t p bb hb n root n₀ : Nat} {F : FP} {N : Nat → Nat → Option Nat} {C : Nat → Option Sl} {k : Int}

theorem pgL_none {E : Nat → Nat → Sl} {H : Nat → Prop} (tr : Tr E H N C root) (fr : Int) : ∀ (d l q : Nat), l + (d + 1) = 4 → N l q = none → pgL C fr (d + 1) q = [] := by
  intro d
  induction d with
  | zero =>
    intro l q hl hN
    obtain rfl : l = 3 := by omega
    simp only [pgL, List.flatMap_eq_nil_iff, List.mem_range]
    intro i hi
    have := tr.none_leaf q hN i hi
    simp [this]
  | succ d ih =>
    intro l q hl hN
    rw [pgL, List.flatMap_eq_nil_iff]
    intro i hi
    exact ih (l + 1) _ (by omega) (tr.none_in l q (by omega) hN i (List.mem_range.1 hi))

/-- The closure's word at a level. -/
def InOK (w0 : World) (t p bb hb root n₀ : Nat) (F : FP) (N : Nat → Nat → Option Nat) (C : Nat → Option Sl) (k fr : Int) (l BT BI BF BY Nn nc lv d : Nat) (J Jx : List (Nat × Sl) → World → Prop) : Prop :=
  ∀ (q f : Nat) (W : World) (pre0 : List (Nat × Sl)), N lv q = some f → (pre0 ++ pgL C fr d q).length ≤ Nn → J pre0 W → Tb w0 W t p bb hb F root k → Bx W t BT BI BF BY l fr → n₀ ≤ W.heap.size →
    CallsIn Fence.wide nc Tryd.prog 100 #[.int .i64 f, .int .i64 lv, .int .i64 q, .pointer (some ⟨BT, 0, none⟩), .pointer (some ⟨BI, 0, none⟩), .pointer (some ⟨BF, 0, none⟩), .pointer (some ⟨BY, 0, none⟩)] W fun e W' =>
      (e = .returned (.bool true) ∧ J (pre0 ++ pgL C fr d q) W' ∧ Kp n₀ BT BF W W') ∨ (e = .returned (.bool false) ∧ ∃ ys, ys <+: pgL C fr d q ∧ Jx (pre0 ++ ys) W')

set_option maxRecDepth 100000 in
set_option maxHeartbeats 8000000 in
theorem inner_in (hw : Wd w0) (tr : Tr (ent F) (Hd F) N C root) (nc lv d : Nat) (hd : lv + (d + 1 + 1) = 4) (fr : Int) (l BT BI BF BY B0 Nn : Nat) (J Jx : List (Nat × Sl) → World → Prop) (hJ : AbidesFrom B0 J)
    (IH : InOK w0 t p bb hb root n₀ F N C k fr l BT BI BF BY Nn (nc - 1) (lv + 1) (d + 1) J Jx)
    (h0 : w0.heap.size ≤ n₀) (hs : t < n₀ ∧ p < n₀ ∧ bb < n₀ ∧ hb < n₀) : InOK w0 t p bb hb root n₀ F N C k fr l BT BI BF BY Nn nc lv (d + 1 + 1) J Jx := by
  intro q f W pre0 hN hlen hJ0 hT hB hn
  have hq := (tr.small _ _ _ hN).2
  have hlv3 : (lv : Int) < 3 := by omega
  have hlv : lv ≤ 2 := by omega
  have hq512 : q < 512 := Nat.lt_of_lt_of_le hq (Nat.pow_le_pow_right (by decide) (show lv ≤ 3 by omega))
  have HW := Lib.hid hw
  have HTR := Lib.hid tr
  have HT0 := Lib.hid hT
  have HB0 := Lib.hid hB
  have HI := Lib.hid IH
  have HJ := Lib.hid hJ
  have HD := Lib.hid hd
  have hBTl := lt_of_block hB.bt
  have hBFl := lt_of_block hB.bf
  have hBIl := lt_of_block hB.bi
  have HL := Lib.hid hlen
  refine callsIn_of_wp Tryd.func100 rfl trivial ?_ rfl
  clear hw tr hT hB hJ hlen IH hq hd
  simp only [Tryd.ntmps100, List.size_toArray, List.length_cons, List.length_nil, Nat.reduceAdd, Nat.reduceSub, Array.replicate_succ, Array.replicate_zero, List.push_toArray, List.append_toArray, List.nil_append, List.cons_append]
  gi_wp2
  gi_loopw [14] (fun i wr => ∃ j : Nat, j ≤ 8 ∧ i = .int .i64 j ∧ Hid (J (pre0 ++ (List.range j).flatMap (fun i => pgL C fr (d + 1) (8 * q + i))) wr) ∧ Hid (Kp n₀ BT BF W wr))
    (fun i _ => (8 - intOf i).toNat)
  case atStart => exact ⟨0, by omega, rfl, Lib.hid (by simpa using hJ0), Lib.hid (Kp.refl _ _ _ _)⟩
  case round =>
    obtain ⟨j, hj, rfl, HJr, HK⟩ := hrel
    by_cases hj8 : j < 8
    · have HT := Lib.hid (HT0.out.keep HK.out h0 hs)
      have HB := Lib.hid (HB0.out.keep HK.out)
      have zr := HK.out.below.size
      have cT : wr.cell? ⟨BT, 0, none⟩ = some (.pointer (some ⟨t, 0, none⟩)) := by rw [cell_of_row wr _ 0 _ _ _ HB.out.bt]; rfl
      have cI : wr.cell? ⟨BI, 0, none⟩ = some (.func (.func 100) #[] #[.pointer (some ⟨BT, 0, none⟩), .pointer (some ⟨BI, 0, none⟩), .pointer (some ⟨BF, 0, none⟩), .pointer (some ⟨BY, 0, none⟩)]) := by rw [cell_of_row wr _ 0 _ _ _ HB.out.bi]; rfl
      obtain ⟨P, hP⟩ : ∃ P : Nat, 8 * q + j = P := ⟨_, rfl⟩
      have hPI : (q : Int) * 8 + (j : Int) = (P : Int) := by omega
      have hent := HTR.out.inner lv q f (by omega) hN j hj8
      rw [hP] at hent
      cases hg : N (lv + 1) P with
      | none =>
        rw [hg] at hent
        have hse : ent F f j = ⟨false, false, false, false, 0⟩ := hent
        have heq : ∀ W, (binOp .eql 68 (.agg #[.bool false, .bool false, .bool false, .bool false, .int .i64 0]) (.agg #[.bool false, .bool false, .bool false, .bool false, .int .i64 0])).run Tryd.prog W = .ok (.bool true) W := fun W => eqSl .zero .zero W
        have HR := Lib.hid (show (List.range (j + 1)).flatMap (fun i => pgL C fr (d + 1) (8 * q + i)) = (List.range j).flatMap (fun i => pgL C fr (d + 1) (8 * q + i)) by rw [row_succ, hP, pgL_none HTR.out fr d (lv + 1) P (by have := HD.out; omega) hg, List.append_nil])
        clear hg hent hP
        gi_wp2_with (refine ⟨trivial, fun h => (by cases h), ?_⟩; gi_at_call 87; refine (callsIn_wide.2 (entry_is HT.out HW.out f j hj8 false false false false 0 hse)).mono ?_; rintro e w2 ⟨rfl, ht2, hb2⟩)
        go_roundw
        case rel =>
          have hk2 : Kp n₀ BT BF wr (w2.alloc (.cells #[.bool false, .bool false, .bool false, .bool false, .int .i64 0] 68)) := Kp.of_below (hb2.alloc hb2.size _) (by omega) (by omega) (by omega)
          have hg := grown_none (hb2.alloc hb2.size (.cells #[.bool false, .bool false, .bool false, .bool false, .int .i64 0] 68))
          exact ⟨j + 1, by omega, by go_num, Lib.hid (by rw [HR.out]; exact HJ.out _ _ _ none HJr.out hg (fun r e => by cases e)), Lib.hid (HK.out.trans hk2)⟩
        case measure => simp [intOf]; omega
      | some g =>
        rw [hg] at hent
        have hse : ent F f j = ⟨true, false, false, false, g⟩ := hent
        have heq : ∀ W, (binOp .eql 68 (.agg #[.bool true, .bool false, .bool false, .bool false, .int .i64 g]) (.agg #[.bool false, .bool false, .bool false, .bool false, .int .i64 0])).run Tryd.prog W = .ok (.bool false) W := fun W => by
          have := eqSl (.node g) .zero W
          rw [slEq_iff, decide_eq_false (node_ne _)] at this
          exact this
        have hR1 : (List.range (j + 1)).flatMap (fun i => pgL C fr (d + 1) (8 * q + i)) = (List.range j).flatMap (fun i => pgL C fr (d + 1) (8 * q + i)) ++ pgL C fr (d + 1) P := by rw [row_succ, hP]
        have HR := Lib.hid hR1
        have hlt : ((pre0 ++ (List.range j).flatMap (fun i => pgL C fr (d + 1) (8 * q + i))) ++ pgL C fr (d + 1) P).length ≤ Nn := by
          have h1 := (row_pre C fr (d + 1) q (j + 1) (by omega)).length_le
          rw [hR1, List.length_append] at h1
          have h2 := HL.out
          rw [List.length_append] at h2
          rw [List.length_append, List.length_append]
          omega
        have HLT := Lib.hid hlt
        have HG := Lib.hid hg
        clear hg hent hP hR1 hlt
        gi_wp2_with (
            refine ⟨trivial, fun h => (by cases h), ?_⟩; gi_at_call 87; refine (callsIn_wide.2 (entry_is HT.out HW.out f j hj8 true false false false g hse)).mono ?_; rintro e w2 ⟨rfl, ht2, hb2⟩;
            have s2 := hb2.size;
            have cI2 := (hb2.cell (p := ⟨BI, 0, none⟩) (by simp; omega)).trans cI;
            have hI2 : BI < w2.heap.size := by omega;
            have hJ2 := HJ.out _ _ _ none HJr.out (grown_none (hb2.alloc hb2.size (.cells #[.bool true, .bool false, .bool false, .bool false, .int .i64 g] 68))) (fun r e => by cases e);
            have HJ2 := Lib.hid hJ2;
            have HT2 := Lib.hid (ht2.alloc (.cells #[.bool true, .bool false, .bool false, .bool false, .int .i64 g] 68));
            have HB2 := Lib.hid (HB.out.below (hb2.alloc hb2.size (.cells #[.bool true, .bool false, .bool false, .bool false, .int .i64 g] 68)));
            have HK2 := Lib.hid (HK.out.trans (Kp.of_below (hb2.alloc hb2.size (.cells #[.bool true, .bool false, .bool false, .bool false, .int .i64 g] 68)) (by omega) (by omega) (by omega)));
            clear hJ2 ht2)
        refine ⟨trivial, fun h => (by cases h), ?_⟩
        refine (HI.out P g _ _ HG.out HLT.out HJ2.out HT2.out HB2.out (by simp; omega)).mono ?_
        rintro e w3 h3
        obtain ⟨yb, rfl, HYB⟩ := two_ways h3
        clear h3
        cases yb
        · have HX := Lib.hid (HYB.out.2 rfl)
          clear HYB
          gi_wp2
          go_ret
          obtain ⟨ys, hys, hJx⟩ := HX.out
          refine .inr ⟨rfl, (List.range j).flatMap (fun i => pgL C fr (d + 1) (8 * q + i)) ++ ys, ?_, by rw [← List.append_assoc]; exact hJx⟩
          refine List.IsPrefix.trans ?_ (row_pre C fr (d + 1) q (j + 1) (by omega))
          rw [HR.out]
          exact (List.prefix_append_right_inj _).2 hys
        · have HX := Lib.hid (HYB.out.1 rfl)
          clear HYB
          gi_wp2
          go_roundw
          case rel => exact ⟨j + 1, by omega, by go_num, Lib.hid (by rw [HR.out, ← List.append_assoc]; exact HX.out.1), Lib.hid (HK2.out.trans HX.out.2)⟩
          case measure => simp [intOf]; omega
    · obtain rfl : j = 8 := by omega
      gi_wp2
      go_ret
      exact .inl ⟨rfl, HJr.out, HK.out⟩
end
end Go.Proofs.YtacpfkimjaihgaaDoor
