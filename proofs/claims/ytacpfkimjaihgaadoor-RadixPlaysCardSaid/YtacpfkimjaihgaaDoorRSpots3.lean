/- radix.spots: the whole range. No conditions. -/
import Derived.Test.YtacpfkimjaihgaaDoorRSpots2
namespace Go.Proofs.YtacpfkimjaihgaaDoor
open Go.RowKit Go.Shelf
attribute [local go_sem] Oper.semAt_some
set_option linter.unusedVariables false
section
variable {w0 w w' : World} {t p bb hb n root n₀ : Nat} {F : FP} {N : Nat → Nat → Option Nat} {C : Nat → Option Sl} {k : Int}

theorem all_in (hw : Wd w0) (tr : Tr (ent F) (Hd F) N C root) (nn nc : Nat) (fr : Int) (l BT BI BF BY B0 Nn : Nat) (J Jx : List (Nat × Sl) → World → Prop) (hJ : AbidesFrom B0 J)
    (hY : ∀ pre x W1, J pre W1 → pre.length < Nn → YieldAt Fence.wide nn Tryd.prog l (spotEnc x) W1 fun e W' => (e = .returned (.bool true) ∧ J (pre ++ [x]) W' ∧ Kp n₀ BT BF W1 W') ∨ (e = .returned (.bool false) ∧ Jx (pre ++ [x]) W'))
    (h0 : w0.heap.size ≤ n₀) (hs : t < n₀ ∧ p < n₀ ∧ bb < n₀ ∧ hb < n₀) : InOK w0 t p bb hb root n₀ F N C k fr l BT BI BF BY Nn nc 0 4 J Jx :=
  inner_in hw tr nc 0 2 rfl fr l BT BI BF BY B0 Nn J Jx hJ (inner_in hw tr (nc - 1) 1 1 rfl fr l BT BI BF BY B0 Nn J Jx hJ (inner_in hw tr (nc - 1 - 1) 2 0 rfl fr l BT BI BF BY B0 Nn J Jx hJ
    (fun q f W pre0 hN hlen hJ0 hT hB hn => leaf_in hw tr nn _ q f hN (tr.small _ _ _ hN).2 fr l BT BI BF BY B0 Nn J Jx hJ hY h0 hs W pre0 hlen hJ0 hT hB hn) h0 hs) h0 hs) h0 hs

set_option maxRecDepth 100000 in
set_option maxHeartbeats 8000000 in
theorem spots1_in (hw : Wd w0) (tr : Tr (ent F) (Hd F) N C root) (nn nc : Nat) (fr : Int) (l BT BF : Nat) (J Jx : List (Nat × Sl) → World → Prop) (W : World) (hJ : AbidesFrom W.heap.size J)
    (hY : ∀ pre x W1, J pre W1 → pre.length < (pgL C fr 4 0).length → YieldAt Fence.wide nn Tryd.prog l (spotEnc x) W1 fun e W' => (e = .returned (.bool true) ∧ J (pre ++ [x]) W' ∧ Kp n₀ BT BF W1 W') ∨ (e = .returned (.bool false) ∧ Jx (pre ++ [x]) W'))
    (h0 : w0.heap.size ≤ n₀) (hs : t < n₀ ∧ p < n₀ ∧ bb < n₀ ∧ hb < n₀) (hT : Tb w0 W t p bb hb F root k) (hn : n₀ ≤ W.heap.size)
    (kT : W.heap[BT]? = some (.cells #[.pointer (some ⟨t, 0, none⟩)] 73 (0, 0))) (kF : W.heap[BF]? = some (.cells #[.int .i64 fr] 3 (0, 0))) (hJ0 : J [] W) :
    CallsIn Fence.wide nc Tryd.prog 99 #[.func (.yield l) #[] #[], .pointer (some ⟨BT, 0, none⟩), .pointer (some ⟨BF, 0, none⟩)] W fun e W' => (∃ v, e = .returned v) ∧
      ((∃ ys, ys = pgL C fr 4 0 ∧ J ys W') ∨ (∃ pre, pre <+: pgL C fr 4 0 ∧ Jx pre W')) := by
  have HI := Lib.hid (fun BI BY => all_in (n₀ := n₀) (k := k) hw tr nn (nc - 1) fr l BT BI BF BY W.heap.size _ J Jx hJ hY h0 hs)
  have HJ := Lib.hid hJ
  have HT := Lib.hid hT
  have HTR := Lib.hid tr
  have hBTl := lt_of_block kT
  have hBFl := lt_of_block kF
  have cT : W.cell? ⟨BT, 0, none⟩ = some (.pointer (some ⟨t, 0, none⟩)) := by rw [cell_of_row W _ 0 _ _ _ kT]; rfl
  have c0 := hT.c0
  have hlt := hT.lt
  have hmix : Tryd.prog.follows .mixedOrders = true := by kernel_rfl
  clear hw tr hJ hY hT
  refine callsIn_of_wp Tryd.func99 rfl trivial ?_ rfl
  simp only [Tryd.ntmps99, List.size_toArray, List.length_cons, List.length_nil, Nat.reduceAdd, Nat.reduceSub, Array.replicate_succ, Array.replicate_zero, List.push_toArray, List.append_toArray, List.nil_append, List.cons_append]
  gi_wp2
  have b1 : Below W.heap.size W (W.alloc (.cells #[.func (.yield l) #[] #[]] 128)) := (Below.refl _ W).alloc (Nat.le_refl _) _
  have b2 := b1.alloc (by simp) (.cells #[.func (.func 100) #[] #[.pointer (some ⟨BT, 0, none⟩), .pointer (some ⟨W.heap.size + 1, 0, none⟩), .pointer (some ⟨BF, 0, none⟩), .pointer (some ⟨W.heap.size, 0, none⟩)]] 124)
  have x2 := (Boxed.new W 128 (.func (.yield l) #[] #[])).alloc (.cells #[.func (.func 100) #[] #[.pointer (some ⟨BT, 0, none⟩), .pointer (some ⟨W.heap.size + 1, 0, none⟩), .pointer (some ⟨BF, 0, none⟩), .pointer (some ⟨W.heap.size, 0, none⟩)]] 124)
  have y2 := Boxed.new (W.alloc (.cells #[.func (.yield l) #[] #[]] 128)) 124 (.func (.func 100) #[] #[.pointer (some ⟨BT, 0, none⟩), .pointer (some ⟨W.heap.size + 1, 0, none⟩), .pointer (some ⟨BF, 0, none⟩), .pointer (some ⟨W.heap.size, 0, none⟩)])
  simp only [World.size_alloc] at y2
  generalize (W.alloc (.cells #[.func (.yield l) #[] #[]] 128)).alloc (.cells #[.func (.func 100) #[] #[.pointer (some ⟨BT, 0, none⟩), .pointer (some ⟨W.heap.size + 1, 0, none⟩), .pointer (some ⟨BF, 0, none⟩), .pointer (some ⟨W.heap.size, 0, none⟩)]] 124) = W4 at b2 x2 y2 ⊢
  have hT4 := (HT.out.stay b2).drew
  have hJ4 := HJ.out _ _ _ none hJ0 (grown_none b2.drew) (fun r e => by cases e)
  have hB4 : Bx W4.drew t BT (W.heap.size + 1) BF W.heap.size l fr := ⟨(b2.block _ hBTl).trans kT, y2, (b2.block _ hBFl).trans kF, x2⟩
  have cI4 := y2.cell
  have cT4 := (b2.cell (p := ⟨BT, 0, none⟩) hBTl).trans cT
  have ct4 := hT4.c1
  have cx4 : W4.cell? ⟨t, 1, none⟩ = some (.int .i64 root) := ct4
  have hs4 := b2.size
  have hI := HI.out (W.heap.size + 1) W.heap.size 0 root W4.drew [] HTR.out.top (by simp) hJ4 hT4 hB4 (by simp; omega)
  gi_region_with_o (refine ⟨trivial, fun h => (by cases h), ?_⟩; refine hI.mono ?_; rintro e W5 h5; obtain ⟨yb, rfl, HY⟩ := two_ways h5; clear h5)
  all_goals
    go_end0
    refine ⟨⟨_, rfl⟩, ?_⟩
    cases yb
    · obtain ⟨ys, hys, hj⟩ := HY.out.2 rfl
      exact .inr ⟨_, hys, by simpa using hj⟩
    · exact .inl ⟨_, rfl, by simpa using (HY.out.1 rfl).1⟩

end
end Go.Proofs.YtacpfkimjaihgaaDoor
