/- radix.spots: the closure that walks the nodes. No conditions. -/
import Derived.RangeFuncNested
import Derived.RangeFuncBound
import Derived.RangeFuncCalls
import Derived.RangeFuncLeaves
import Derived.Shelf.Abstract
import Derived.Shelf.RegionOpen
import Derived.OwnWalkIn
import Derived.TacticsInMore
import Derived.LoopNIn
import Derived.LoopIn
import Derived.Laws.EntriesVeiled
import Derived.Test.YtacpfkimjaihgaaDoorRNew
namespace Go.Proofs.YtacpfkimjaihgaaDoor
open Go.RowKit Go.Shelf
attribute [local go_sem] Oper.semAt_some
set_option linter.unusedVariables false

/-- The pages with entries below a prefix, from one on. -/
def pgL (C : Nat → Option Sl) (fr : Int) : Nat → Nat → List (Nat × Sl)
  | 0, p => match C p with
    | some s => if fr ≤ (p : Int) then [(p, s)] else []
    | none => []
  | d + 1, q => (List.range 8).flatMap (fun i => pgL C fr d (8 * q + i))
theorem pgL_none_leaf {C : Nat → Option Sl} {fr : Int} {p : Nat} (h : C p = none) : pgL C fr 0 p = [] := by simp [pgL, h]
def spotL (x : Nat × Sl) : List Value := [.int .i64 x.1, .bool x.2.here, .bool x.2.write, .bool x.2.copy, .bool x.2.out, .int .i64 x.2.n]
def spotEnc (x : Nat × Sl) : Array Value := #[.agg (spotL x).toArray]
theorem yield_wide {m m' : Nat} {P : Program} {l : Nat} {args : Array Value} {W : World} {R : Ending → World → Prop} (h : YieldAt Fence.wide m P l args W R) : YieldAt Fence.wide m' P l args W R := by
  obtain ⟨fn, tmps, assign, body, hy, hR⟩ := h
  exact ⟨fn, tmps, assign, body, hy, hR.1, fun c cs _ => hR.2 c cs (room_wide _)⟩

/-- The boxes that the closure reads. -/
structure Bx (W : World) (t BT BI BF BY l : Nat) (fr : Int) : Prop where
  bt : W.heap[BT]? = some (.cells #[.pointer (some ⟨t, 0, none⟩)] 73 (0, 0))
  bi : W.heap[BI]? = some (.cells #[.func (.func 100) #[] #[.pointer (some ⟨BT, 0, none⟩), .pointer (some ⟨BI, 0, none⟩), .pointer (some ⟨BF, 0, none⟩), .pointer (some ⟨BY, 0, none⟩)]] 124 (0, 0))
  bf : W.heap[BF]? = some (.cells #[.int .i64 fr] 3 (0, 0))
  by_ : W.heap[BY]? = some (.cells #[.func (.yield l) #[] #[]] 128 (0, 0))
theorem Bx.below {W W' : World} {t BT BI BF BY l : Nat} {fr : Int} (h : Bx W t BT BI BF BY l fr) (hb : Below W.heap.size W W') : Bx W' t BT BI BF BY l fr :=
  ⟨(hb.block _ (lt_of_block h.bt)).trans h.bt, (hb.block _ (lt_of_block h.bi)).trans h.bi, (hb.block _ (lt_of_block h.bf)).trans h.bf, (hb.block _ (lt_of_block h.by_)).trans h.by_⟩

/-- What a round of the range keeps. -/
structure Kp (n₀ BT BF : Nat) (A B : World) : Prop where
  below : Below n₀ A B
  bt : B.heap[BT]? = A.heap[BT]?
  bf : B.heap[BF]? = A.heap[BF]?
  fns : ∀ (k : Nat) (c : Array Value) (ty : TypeId), ty = 124 ∨ ty = 128 → A.heap[k]? = some (.cells c ty (0, 0)) → B.heap[k]? = some (.cells c ty (0, 0))
theorem Kp.refl (n₀ BT BF : Nat) (A : World) : Kp n₀ BT BF A A := ⟨Below.refl _ _, rfl, rfl, fun _ _ _ _ h => h⟩
theorem Kp.trans {n₀ BT BF : Nat} {A B D : World} (h : Kp n₀ BT BF A B) (k : Kp n₀ BT BF B D) : Kp n₀ BT BF A D :=
  ⟨h.below.trans k.below, k.bt.trans h.bt, k.bf.trans h.bf, fun i c ty ht hi => k.fns i c ty ht (h.fns i c ty ht hi)⟩
theorem Kp.of_below {n₀ BT BF : Nat} {A B : World} (h : Below A.heap.size A B) (hn : n₀ ≤ A.heap.size) (hT : BT < A.heap.size) (hF : BF < A.heap.size) : Kp n₀ BT BF A B :=
  ⟨h.mono hn, h.block _ hT, h.block _ hF, fun i c ty _ hi => (h.block i (lt_of_block hi)).trans hi⟩
theorem Bx.keep {W W' : World} {t BT BI BF BY l n₀ : Nat} {fr : Int} (h : Bx W t BT BI BF BY l fr) (hk : Kp n₀ BT BF W W') : Bx W' t BT BI BF BY l fr :=
  ⟨hk.bt.trans h.bt, hk.fns _ _ _ (.inl rfl) h.bi, hk.bf.trans h.bf, hk.fns _ _ _ (.inr rfl) h.by_⟩

section
variable {w0 w w' : World} {t p bb hb n root n₀ : Nat} {F : FP} {N : Nat → Nat → Option Nat} {C : Nat → Option Sl} {k : Int}
theorem Tb.keep {BT BF : Nat} (h : Tb w0 w t p bb hb F root k) (hk : Kp n₀ BT BF w w') (h0 : w0.heap.size ≤ n₀) (hs : t < n₀ ∧ p < n₀ ∧ bb < n₀ ∧ hb < n₀) : Tb w0 w' t p bb hb F root k := by
  obtain ⟨h1, h2, h3, h4⟩ := hs
  refine ⟨(hk.below.block t h1).trans h.tab, ⟨?_, h.at_.below.trans (hk.below.mono h0), h.at_.hp, h.at_.hbb, h.at_.hhb⟩, h.ht, h.tp⟩
  have hp := h.at_.pool
  exact { hp with head := (hk.below.block p h2).trans hp.head, row := (hk.below.block bb h3).trans hp.row, hrow := (hk.below.block hb h4).trans hp.hrow }


theorem two_ways {e : Ending} {A B : Prop} (h : (e = .returned (.bool true) ∧ A) ∨ (e = .returned (.bool false) ∧ B)) : ∃ b : Bool, e = .returned (.bool b) ∧ Hid ((b = true → A) ∧ (b = false → B)) := by
  rcases h with ⟨he, ha⟩ | ⟨he, hb⟩
  · exact ⟨true, he, Lib.hid ⟨fun _ => ha, fun h => by cases h⟩⟩
  · exact ⟨false, he, Lib.hid ⟨fun h => (by cases h), fun _ => hb⟩⟩
theorem grown_none {w w' : World} (h : Below w.heap.size w w') : w.grownBy w' none := ⟨h.os, h.tape, h.output, h.size, fun k hk _ => h.block k hk⟩
theorem row_succ (C : Nat → Option Sl) (fr : Int) (d q j : Nat) : (List.range (j + 1)).flatMap (fun i => pgL C fr d (8 * q + i)) = (List.range j).flatMap (fun i => pgL C fr d (8 * q + i)) ++ pgL C fr d (8 * q + j) := by
  rw [List.range_succ, List.flatMap_append]
  simp
theorem row_pre (C : Nat → Option Sl) (fr : Int) (d q j : Nat) (hj : j ≤ 8) : (List.range j).flatMap (fun i => pgL C fr d (8 * q + i)) <+: pgL C fr (d + 1) q := by
  have : ∀ k, (List.range j).flatMap (fun i => pgL C fr d (8 * q + i)) <+: (List.range (j + k)).flatMap (fun i => pgL C fr d (8 * q + i)) := by
    intro k
    induction k with
    | zero => exact List.prefix_refl _
    | succ k ih =>
      rw [← Nat.add_assoc, row_succ]
      exact ih.trans (List.prefix_append _ _)
  have h8 := this (8 - j)
  rw [show j + (8 - j) = 8 by omega] at h8
  exact h8

set_option maxRecDepth 100000 in
set_option maxHeartbeats 8000000 in
theorem leaf_in (hw : Wd w0) (tr : Tr (ent F) (Hd F) N C root) (nn nc : Nat) (q f : Nat) (hN : N 3 q = some f) (hq : q < 512) (fr : Int) (l BT BI BF BY B0 Nn : Nat) (J Jx : List (Nat × Sl) → World → Prop) (hJ : AbidesFrom B0 J)
    (hY : ∀ pre x W1, J pre W1 → pre.length < Nn → YieldAt Fence.wide nn Tryd.prog l (spotEnc x) W1 fun e W' => (e = .returned (.bool true) ∧ J (pre ++ [x]) W' ∧ Kp n₀ BT BF W1 W') ∨ (e = .returned (.bool false) ∧ Jx (pre ++ [x]) W'))
    (h0 : w0.heap.size ≤ n₀) (hs : t < n₀ ∧ p < n₀ ∧ bb < n₀ ∧ hb < n₀) (W : World) (pre0 : List (Nat × Sl)) (hlen : (pre0 ++ pgL C fr 1 q).length ≤ Nn) (hJ0 : J pre0 W) (hT : Tb w0 W t p bb hb F root k) (hB : Bx W t BT BI BF BY l fr) (hn : n₀ ≤ W.heap.size) :
    CallsIn Fence.wide nc Tryd.prog 100 #[.int .i64 f, .int .i64 3, .int .i64 q, .pointer (some ⟨BT, 0, none⟩), .pointer (some ⟨BI, 0, none⟩), .pointer (some ⟨BF, 0, none⟩), .pointer (some ⟨BY, 0, none⟩)] W fun e W' =>
      (e = .returned (.bool true) ∧ J (pre0 ++ pgL C fr 1 q) W' ∧ Kp n₀ BT BF W W') ∨ (e = .returned (.bool false) ∧ ∃ ys, ys <+: pgL C fr 1 q ∧ Jx (pre0 ++ ys) W') := by
  have HW := Lib.hid hw
  have HTR := Lib.hid tr
  have HT0 := Lib.hid hT
  have HB0 := Lib.hid hB
  have HY := Lib.hid hY
  have HJ := Lib.hid hJ
  have hBTl := lt_of_block hB.bt
  have hBFl := lt_of_block hB.bf
  have HL := Lib.hid hlen
  refine callsIn_of_wp Tryd.func100 rfl trivial ?_ rfl
  clear hw tr hT hB hY hJ hlen
  simp only [Tryd.ntmps100, List.size_toArray, List.length_cons, List.length_nil, Nat.reduceAdd, Nat.reduceSub, Array.replicate_succ, Array.replicate_zero, List.push_toArray, List.append_toArray, List.nil_append, List.cons_append]
  gi_wp2
  gi_loopw [14] (fun i wr => ∃ j : Nat, j ≤ 8 ∧ i = .int .i64 j ∧ Hid (J (pre0 ++ (List.range j).flatMap (fun i => pgL C fr 0 (8 * q + i))) wr) ∧ Hid (Kp n₀ BT BF W wr))
    (fun i _ => (8 - intOf i).toNat)
  case atStart => exact ⟨0, by omega, rfl, Lib.hid (by simpa using hJ0), Lib.hid (Kp.refl _ _ _ _)⟩
  case round =>
    obtain ⟨j, hj, rfl, HJr, HK⟩ := hrel
    by_cases hj8 : j < 8
    · have HT := Lib.hid (HT0.out.keep HK.out h0 hs)
      have HB := Lib.hid (HB0.out.keep HK.out)
      have zr := HK.out.below.size
      have cT : wr.cell? ⟨BT, 0, none⟩ = some (.pointer (some ⟨t, 0, none⟩)) := by rw [cell_of_row wr _ 0 _ _ _ HB.out.bt]; rfl
      have cF : wr.cell? ⟨BF, 0, none⟩ = some (.int .i64 fr) := by rw [cell_of_row wr _ 0 _ _ _ HB.out.bf]; rfl
      have cY : wr.cell? ⟨BY, 0, none⟩ = some (.func (.yield l) #[] #[]) := by rw [cell_of_row wr _ 0 _ _ _ HB.out.by_]; rfl
      obtain ⟨P, hP⟩ : ∃ P : Nat, 8 * q + j = P := ⟨_, rfl⟩
      have hPI : (q : Int) * 8 + (j : Int) = (P : Int) := by omega
      have hent := HTR.out.leaf q f hN j hj8
      rw [hP] at hent
      cases hC : C P with
      | none =>
        rw [hC] at hent
        have hse : ent F f j = ⟨false, false, false, false, 0⟩ := hent
        have heq : ∀ W, (binOp .eql 68 (.agg #[.bool false, .bool false, .bool false, .bool false, .int .i64 0]) (.agg #[.bool false, .bool false, .bool false, .bool false, .int .i64 0])).run Tryd.prog W = .ok (.bool true) W := fun W => eqSl .zero .zero W
        have HR := Lib.hid (show (List.range (j + 1)).flatMap (fun i => pgL C fr 0 (8 * q + i)) = (List.range j).flatMap (fun i => pgL C fr 0 (8 * q + i)) by rw [row_succ, hP, pgL_none_leaf hC, List.append_nil])
        clear hC hent hP
        gi_wp2_with (refine ⟨trivial, fun h => (by cases h), ?_⟩; gi_at_call 87; refine (callsIn_wide.2 (entry_is HT.out HW.out f j hj8 false false false false 0 hse)).mono ?_; rintro e w2 ⟨rfl, ht2, hb2⟩)
        go_roundw
        case rel =>
          have hk2 : Kp n₀ BT BF wr (w2.alloc (.cells #[.bool false, .bool false, .bool false, .bool false, .int .i64 0] 68)) := Kp.of_below (hb2.alloc hb2.size _) (by omega) (by omega) (by omega)
          have hg := grown_none (hb2.alloc hb2.size (.cells #[.bool false, .bool false, .bool false, .bool false, .int .i64 0] 68))
          exact ⟨j + 1, by omega, by go_num, Lib.hid (by rw [HR.out]; exact HJ.out _ _ _ none HJr.out hg (fun r e => by cases e)), Lib.hid (HK.out.trans hk2)⟩
        case measure => simp [intOf]; omega
      | some s =>
        have hne := may_ne (HTR.out.ok _ _ hC)
        rw [hC] at hent
        obtain ⟨q1, q2, q3, q4, q5⟩ := s
        have hse : ent F f j = ⟨q1, q2, q3, q4, q5⟩ := hent
        have heq : ∀ W, (binOp .eql 68 (.agg #[.bool q1, .bool q2, .bool q3, .bool q4, .int .i64 q5]) (.agg #[.bool false, .bool false, .bool false, .bool false, .int .i64 0])).run Tryd.prog W = .ok (.bool false) W := fun W => by
          have := eqSl ⟨q1, q2, q3, q4, q5⟩ .zero W
          rw [slEq_iff, decide_eq_false hne] at this
          exact this
        by_cases hge : fr ≤ (P : Int)
        · have hR1 : (List.range (j + 1)).flatMap (fun i => pgL C fr 0 (8 * q + i)) = (List.range j).flatMap (fun i => pgL C fr 0 (8 * q + i)) ++ [(P, ⟨q1, q2, q3, q4, q5⟩)] := by
            rw [row_succ, hP]
            simp [pgL, hC, hge]
          have HR := Lib.hid hR1
          have hlt : (pre0 ++ (List.range j).flatMap (fun i => pgL C fr 0 (8 * q + i))).length < Nn := by
            have h1 := (row_pre C fr 0 q (j + 1) (by omega)).length_le
            rw [hR1, List.length_append] at h1
            have h2 := HL.out
            rw [List.length_append] at h2 ⊢
            have h3 : [(P, (⟨q1, q2, q3, q4, q5⟩ : Sl))].length = 1 := rfl
            have h4 : (pgL C fr (0 + 1) q).length = (pgL C fr 1 q).length := rfl
            omega
          have HLT := Lib.hid hlt
          clear hC hent hP hne hR1 hlt
          gi_wp2_with (
            refine ⟨trivial, fun h => (by cases h), ?_⟩; gi_at_call 87; refine (callsIn_wide.2 (entry_is HT.out HW.out f j hj8 q1 q2 q3 q4 q5 hse)).mono ?_; rintro e w2 ⟨rfl, ht2, hb2⟩;
            have s2 := hb2.size;
            have cF2 := (hb2.cell (p := ⟨BF, 0, none⟩) (by simp; omega)).trans cF;
            have hYl := lt_of_block HB.out.by_;
            have cY2 := (hb2.cell (p := ⟨BY, 0, none⟩) hYl).trans cY;
            have hF2 : BF < w2.heap.size := by omega;
            have hY2 : BY < w2.heap.size := by omega;
            have hJ2 := HJ.out _ _ _ none HJr.out (grown_none (hb2.alloc hb2.size (.cells #[.bool q1, .bool q2, .bool q3, .bool q4, .int .i64 q5] 68))) (fun r e => by cases e);
            obtain ⟨fn, tmps, assign, body, hy, hR⟩ := yield_wide (m' := nc - 1) (HY.out _ (P, ⟨q1, q2, q3, q4, q5⟩) _ hJ2 HLT.out);
            simp only [spotEnc, spotL] at hy)
          have W2n : Below wr.heap.size wr (w2.alloc (.cells #[.bool q1, .bool q2, .bool q3, .bool q4, .int .i64 q5] 68)) := hb2.alloc hb2.size _
          refine ⟨fun h => (by cases h), ?_⟩
          refine hR.mono ?_
          rintro e W3 h3
          obtain ⟨yb, rfl, HYB⟩ := two_ways h3
          clear h3 hR hy hJ2
          cases yb
          · have HX := Lib.hid (HYB.out.2 rfl)
            clear HYB
            gi_wp2
            go_ret
            refine .inr ⟨rfl, (List.range (j + 1)).flatMap (fun i => pgL C fr 0 (8 * q + i)), row_pre C fr 0 q (j + 1) (by omega), ?_⟩
            rw [HR.out, ← List.append_assoc]
            exact HX.out
          · have HX := Lib.hid (HYB.out.1 rfl)
            clear HYB
            gi_wp2
            go_roundw
            case rel => exact ⟨j + 1, by omega, by go_num, Lib.hid (by rw [HR.out, ← List.append_assoc]; exact HX.out.1), Lib.hid ((HK.out.trans (Kp.of_below W2n (by omega) (by omega) (by omega))).trans HX.out.2)⟩
            case measure => simp [intOf]; omega
        · have HR := Lib.hid (show (List.range (j + 1)).flatMap (fun i => pgL C fr 0 (8 * q + i)) = (List.range j).flatMap (fun i => pgL C fr 0 (8 * q + i)) by
            rw [row_succ, hP]
            simp [pgL, hC, hge])
          clear hC hent hP hne
          gi_wp2_with (
            refine ⟨trivial, fun h => (by cases h), ?_⟩; gi_at_call 87; refine (callsIn_wide.2 (entry_is HT.out HW.out f j hj8 q1 q2 q3 q4 q5 hse)).mono ?_; rintro e w2 ⟨rfl, ht2, hb2⟩;
            have s2 := hb2.size;
            have cF2 := (hb2.cell (p := ⟨BF, 0, none⟩) (by simp; omega)).trans cF;
            have hF2 : BF < w2.heap.size := by omega)
          refine ⟨fun f h => (by cases h), ?_⟩
          gi_wp2
          go_roundw
          case rel =>
            have hk2 : Kp n₀ BT BF wr (w2.alloc (.cells #[.bool q1, .bool q2, .bool q3, .bool q4, .int .i64 q5] 68)) := Kp.of_below (hb2.alloc hb2.size _) (by omega) (by omega) (by omega)
            have hg := grown_none (hb2.alloc hb2.size (.cells #[.bool q1, .bool q2, .bool q3, .bool q4, .int .i64 q5] 68))
            exact ⟨j + 1, by omega, by go_num, Lib.hid (by rw [HR.out]; exact HJ.out _ _ _ none HJr.out hg (fun r e => by cases e)), Lib.hid (HK.out.trans hk2)⟩
          case measure => simp [intOf]; omega
    · obtain rfl : j = 8 := by omega
      gi_wp2
      go_ret
      exact .inl ⟨rfl, HJr.out, HK.out⟩
end
end Go.Proofs.YtacpfkimjaihgaaDoor
