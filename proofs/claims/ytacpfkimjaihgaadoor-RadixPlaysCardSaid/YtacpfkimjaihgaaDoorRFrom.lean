/- radix.From: the first page from one on. No conditions. -/
import Derived.Test.YtacpfkimjaihgaaDoorRAll
namespace Go.Proofs.YtacpfkimjaihgaaDoor
open Go.RowKit Go.Shelf
attribute [local go_sem] Oper.semAt_some
set_option linter.unusedVariables false
section
variable {w0 w w' : World} {t p bb hb n root n₀ : Nat} {F : FP} {N : Nat → Nat → Option Nat} {C : Nat → Option Sl} {k : Int}
theorem own_block {β : Type} (B : Nat) (cs : Array Value) (t : TypeId) (fr : Nat × Nat) : Own (fun (_ : β) W => W.heap[B]? = some (.cells cs t fr)) := fun s X Y row hs hg hrow => row_kept hs hg hrow
def sixAt (w : World) (b : Nat) (v0 v1 v2 v3 v4 v5 : Value) : World := (((((w.setCell ⟨b, 0, none⟩ v0).setCell ⟨b, 1, none⟩ v1).setCell ⟨b, 2, none⟩ v2).setCell ⟨b, 3, none⟩ v3).setCell ⟨b, 4, none⟩ v4).setCell ⟨b, 5, none⟩ v5
theorem set6_cells (w : World) (b : Nat) (x0 x1 x2 x3 x4 x5 : Value) (t : TypeId) (h : w.heap[b]? = some (.cells #[x0, x1, x2, x3, x4, x5] t (0, 0))) (v0 v1 v2 v3 v4 v5 : Value) :
    (sixAt w b v0 v1 v2 v3 v4 v5).heap[b]? = some (.cells #[v0, v1, v2, v3, v4, v5] t (0, 0)) := by
  unfold sixAt
  rw [heap_setCell_same _ b _ _ t _ (heap_setCell_same _ b _ _ t _ (heap_setCell_same _ b _ _ t _ (heap_setCell_same _ b _ _ t _ (heap_setCell_same _ b _ _ t _ (heap_setCell_same _ b _ _ t _ h)))))]
  rfl
theorem below_six {n : Nat} {a w : World} (h : Below n a w) (b : Nat) (hb : n ≤ b) (v0 v1 v2 v3 v4 v5 : Value) : Below n a (sixAt w b v0 v1 v2 v3 v4 v5) :=
  (((((h.setCell (p := ⟨b, 0, none⟩) hb v0).setCell (p := ⟨b, 1, none⟩) hb v1).setCell (p := ⟨b, 2, none⟩) hb v2).setCell (p := ⟨b, 3, none⟩) hb v3).setCell (p := ⟨b, 4, none⟩) hb v4).setCell (p := ⟨b, 5, none⟩) hb v5
theorem six_other (w : World) (b i : Nat) (h : i ≠ b) (v0 v1 v2 v3 v4 v5 : Value) : (sixAt w b v0 v1 v2 v3 v4 v5).heap[i]? = w.heap[i]? := by
  unfold sixAt
  rw [Below.heap_setCell _ ⟨b, 5, none⟩ _ i h, Below.heap_setCell _ ⟨b, 4, none⟩ _ i h, Below.heap_setCell _ ⟨b, 3, none⟩ _ i h, Below.heap_setCell _ ⟨b, 2, none⟩ _ i h, Below.heap_setCell _ ⟨b, 1, none⟩ _ i h, Below.heap_setCell _ ⟨b, 0, none⟩ _ i h]
def firstV : List (Nat × Sl) → Value
  | [] => .tuple #[.agg (spotL (0, .zero)).toArray, .bool false]
  | x :: _ => .tuple #[.agg (spotL x).toArray, .bool true]
theorem firstV_of {x : Nat × Sl} {l : List (Nat × Sl)} (h : [x] <+: l) : firstV l = .tuple #[.agg (spotL x).toArray, .bool true] := by
  obtain ⟨r, rfl⟩ := h
  rfl
theorem two_results {a : Array Value} {W : World} {x : Nat × Sl} {v : Bool} (b4 b5 : Nat) (h4 : a[4]? = some (.pointer (some ⟨b4, 0, none⟩))) (h5 : a[5]? = some (.pointer (some ⟨b5, 0, none⟩))) (k4 : W.heap[b4]? = some (.cells (spotL x).toArray 82 (0, 0))) (k5 : W.heap[b5]? = some (.cells #[.bool v] 4 (0, 0))) :
    (results Tryd.f53 a).run Tryd.prog W = .ok (.tuple #[.agg (spotL x).toArray, .bool v]) W := by
  have t0 : W.cell? ⟨b4, 0, none⟩ = some (.int .i64 x.1) := by rw [cell_of_row _ _ _ _ _ _ k4]; rfl
  have t1 : W.cell? ⟨b4, 1, none⟩ = some (.bool x.2.here) := by rw [cell_of_row _ _ _ _ _ _ k4]; rfl
  have t2 : W.cell? ⟨b4, 2, none⟩ = some (.bool x.2.write) := by rw [cell_of_row _ _ _ _ _ _ k4]; rfl
  have t3 : W.cell? ⟨b4, 3, none⟩ = some (.bool x.2.copy) := by rw [cell_of_row _ _ _ _ _ _ k4]; rfl
  have t4 : W.cell? ⟨b4, 4, none⟩ = some (.bool x.2.out) := by rw [cell_of_row _ _ _ _ _ _ k4]; rfl
  have t5 : W.cell? ⟨b4, 5, none⟩ = some (.int .i64 x.2.n) := by rw [cell_of_row _ _ _ _ _ _ k4]; rfl
  have t6 : W.cell? ⟨b5, 0, none⟩ = some (.bool v) := by rw [cell_of_row _ _ _ _ _ _ k5]; rfl
  simp [results, Tryd.results53, h4, h5, go_sem, t0, t1, t2, t3, t4, t5, t6]
  try rfl
set_option maxRecDepth 100000 in
set_option maxHeartbeats 4000000 in
theorem from_of (w : World) (tp : Option Addr) (fr : Int) (L : List (Nat × Sl))
    (hseq : ∀ (BT BF : Nat) (W0 : World), Below w.heap.size w W0 → BT < W0.heap.size → BF < W0.heap.size → Boxed W0 BT 73 (.pointer tp) → Boxed W0 BF 3 (.int .i64 fr) →
      SeqStopsK Fence.wide 4 Tryd.prog 99 #[.pointer (some ⟨BT, 0, none⟩), .pointer (some ⟨BF, 0, none⟩)] spotEnc (Kp w.heap.size BT BF) (fun ys => ys = L) (fun pre => pre <+: L) L.length W0) :
    Calls Tryd.prog 53 #[.pointer tp, .int .i64 fr] w fun e w' => e = .returned (firstV L) ∧ Below w.heap.size w w' := by
  refine (callsIn_wide (n := 5)).1 ?_
  refine callsIn_of_wp_marks Tryd.func53 rfl trivial ?_ rfl
  simp only [Tryd.ntmps53, List.size_toArray, List.length_cons, List.length_nil, Nat.reduceAdd, Nat.reduceSub, Array.replicate_succ, Array.replicate_zero, List.push_toArray, List.append_toArray, List.nil_append, List.cons_append]
  gi_wp2_with (refine ⟨trivial, ?_⟩; gi_at_call 81; refine (spots_is 4 tp fr _).mono ?_; rintro e w' ⟨rfl, rfl⟩)
  have bS := (((Boxed.new w 82 (.int .i64 0)))).lt
  have n4 := heap_alloc_new w (.cells #[.int .i64 0, .bool false, .bool false, .bool false, .bool false, .int .i64 0] 82)
  have n5 := heap_alloc_new (w.alloc (.cells #[.int .i64 0, .bool false, .bool false, .bool false, .bool false, .int .i64 0] 82)) (.cells #[.bool false] 4)
  simp only [World.size_alloc] at n5
  have k4 := (Below.heap_alloc _ (.cells #[.int .i64 fr] 3) _ (by simp <;> omega)).trans ((Below.heap_alloc _ (.cells #[.pointer tp] 73) _ (by simp <;> omega)).trans ((Below.heap_alloc _ (.cells #[.bool false] 4) _ (by simp)).trans n4))
  have k5 := (Below.heap_alloc _ (.cells #[.int .i64 fr] 3) _ (by simp <;> omega)).trans ((Below.heap_alloc _ (.cells #[.pointer tp] 73) _ (by simp)).trans n5)
  have bX := (Boxed.new ((w.alloc (.cells #[.int .i64 0, .bool false, .bool false, .bool false, .bool false, .int .i64 0] 82)).alloc (.cells #[.bool false] 4)) 73 (.pointer tp)).alloc (.cells #[.int .i64 fr] 3)
  have bY := Boxed.new (((w.alloc (.cells #[.int .i64 0, .bool false, .bool false, .bool false, .bool false, .int .i64 0] 82)).alloc (.cells #[.bool false] 4)).alloc (.cells #[.pointer tp] 73)) 3 (.int .i64 fr)
  simp only [World.size_alloc] at bX bY
  have hB0 : Below w.heap.size w ((((w.alloc (.cells #[.int .i64 0, .bool false, .bool false, .bool false, .bool false, .int .i64 0] 82)).alloc (.cells #[.bool false] 4)).alloc (.cells #[.pointer tp] 73)).alloc (.cells #[.int .i64 fr] 3)) := ((((Below.refl _ w).alloc (Nat.le_refl _) _).alloc (by simp) _).alloc (by simp; omega) _).alloc (by simp; omega) _
  have hsz : ((((w.alloc (.cells #[.int .i64 0, .bool false, .bool false, .bool false, .bool false, .int .i64 0] 82)).alloc (.cells #[.bool false] 4)).alloc (.cells #[.pointer tp] 73)).alloc (.cells #[.int .i64 fr] 3)).heap.size = w.heap.size + 4 := by simp
  obtain ⟨W0, hW0⟩ : ∃ W0, (((w.alloc (.cells #[.int .i64 0, .bool false, .bool false, .bool false, .bool false, .int .i64 0] 82)).alloc (.cells #[.bool false] 4)).alloc (.cells #[.pointer tp] 73)).alloc (.cells #[.int .i64 fr] 3) = W0 := ⟨_, rfl⟩
  rw [hW0] at k4 k5 bX bY hB0 hsz ⊢
  clear hW0 n4 n5 bS
  refine wpIn_rangeFunc_ownH (F := Fence.wide) (n := 5) rfl (by omega) (gf := 99) (lb := #[.pointer (some ⟨w.heap.size + 1 + 1, 0, none⟩), .pointer (some ⟨w.heap.size + 1 + 1 + 1, 0, none⟩)]) rfl trivial (enters_of Tryd.func99 (by kernel_rfl) rfl)
    (hseq (w.heap.size + 1 + 1) (w.heap.size + 1 + 1 + 1) W0 hB0 (by omega) (by omega) bX bY) Kp.trans
    (fun W l o o' hl h hc hw => Kp.putObj (B := W0.heap.size) (by omega) (by omega) (by omega) W l o o' hl h hc hw) (Below.refl _ _) (fun _ => rfl)
    (fun pre W => (((fun (_ : List (Nat × Sl)) (W : World) => W.heap[w.heap.size]? = some (.cells #[.int .i64 0, .bool false, .bool false, .bool false, .bool false, .int .i64 0] 82 (0, 0))) pre W ∧ (fun (_ : List (Nat × Sl)) (W : World) => W.heap[w.heap.size + 1]? = some (.cells #[.bool false] 4 (0, 0))) pre W) ∧ (Boxed W (w.heap.size + 1 + 1) 73 (.pointer tp) ∧ Boxed W (w.heap.size + 1 + 1 + 1) 3 (.int .i64 fr))) ∧ (Below w.heap.size w W ∧ pre = []))
    (fun c pre W => c = .ret ∧ ∃ x, pre = [x] ∧ W.heap[w.heap.size]? = some (.cells (spotL x).toArray 82 (0, 0)) ∧ W.heap[w.heap.size + 1]? = some (.cells #[.bool true] 4 (0, 0)) ∧ Below w.heap.size w W)
    (OwnFrom.and (OwnFrom.and (OwnFrom.and (Own.from (own_block _ _ _ _) _) (Own.from (own_block _ _ _ _) _)) (OwnFrom.and (Own.from (boxed_own _ _ _) _) (Own.from (boxed_own _ _ _) _))) (fun s A B row hs hg hr => ⟨ownFrom_below (β := Unit) (Nat.le_refl _) (by omega) () A B row hs.1 hg hr, hs.2⟩))
    (fun c s A B row hs hg hr => by obtain ⟨h1, x, h2, h3, h4, h5⟩ := hs; exact ⟨h1, x, h2, row_kept h3 hg (fun r e => (hr r e).2), row_kept h4 hg (fun r e => (hr r e).2), ownFrom_below (β := Unit) (Nat.le_refl _) (by omega) () A B row h5 hg hr⟩)
    ⟨⟨⟨k4, k5⟩, bX, bY⟩, hB0, rfl⟩
    (fun x a' W => ∃ Bs, W.heap[Bs]? = some (.cells (spotL x).toArray 82 (0, 0)) ∧ a' = { tmps := #[.pointer tp, .int .i64 fr, undef, undef, .pointer (some ⟨w.heap.size, 0, none⟩), .pointer (some ⟨w.heap.size + 1, 0, none⟩), .pointer (some ⟨Bs, 0, none⟩), .pointer tp, .int .i64 fr, .func (.func 99) #[] #[.pointer (some ⟨w.heap.size + 1 + 1, 0, none⟩), .pointer (some ⟨w.heap.size + 1 + 1 + 1, 0, none⟩)], .agg (spotL x).toArray, undef, undef], defers := [] })
    (fun x a' _ X Y row hs hg hr => by obtain ⟨Bs, h1, h3⟩ := hs; exact ⟨Bs, row_kept h1 hg (fun r e => (hr r e).2), h3⟩)
    ?assign ?body ?done ?stop
  case assign =>
    rintro l pre ⟨P, s⟩ W K ⟨⟨⟨c4, c5⟩, bX1, bY1⟩, hB1, rfl⟩ hK
    simp only [spotEnc, spotL] at hK ⊢
    gi_wp2
    have hs1 := hB1.size
    have lX := bX1.lt
    have lY := bY1.lt
    have hbb : Below W.heap.size W (W.alloc (Obj.cells (spotL (P, s)).toArray 82)) := (Below.refl _ W).alloc (Nat.le_refl _) _
    refine hK _ _ ((KeepsOthers.alloc W (Obj.cells (spotL (P, s)).toArray 82)).from _) (Kp.of_below hbb hs1 lX lY) ⟨⟨⟨(hbb.block _ (lt_of_block c4)).trans c4, (hbb.block _ (lt_of_block c5)).trans c5⟩, bX1.alloc _, bY1.alloc _⟩, hB1.trans (hbb.mono hs1), trivial⟩ ⟨W.heap.size, heap_alloc_new W (Obj.cells (spotL (P, s)).toArray 82), rfl⟩
  case body =>
    rintro l pre ⟨P, s⟩ a' W hl ⟨r, hr⟩ ⟨⟨⟨c4, c5⟩, bX1, bY1⟩, hB1, rfl⟩ ⟨Bs, hBs, rfl⟩ hlt
    have hs1 := hB1.size
    have t0 : W.cell? ⟨Bs, 0, none⟩ = some (.int .i64 P) := by rw [cell_of_row _ _ _ _ _ _ hBs]; rfl
    have t1 : W.cell? ⟨Bs, 1, none⟩ = some (.bool s.here) := by rw [cell_of_row _ _ _ _ _ _ hBs]; rfl
    have t2 : W.cell? ⟨Bs, 2, none⟩ = some (.bool s.write) := by rw [cell_of_row _ _ _ _ _ _ hBs]; rfl
    have t3 : W.cell? ⟨Bs, 3, none⟩ = some (.bool s.copy) := by rw [cell_of_row _ _ _ _ _ _ hBs]; rfl
    have t4 : W.cell? ⟨Bs, 4, none⟩ = some (.bool s.out) := by rw [cell_of_row _ _ _ _ _ _ hBs]; rfl
    have t5 : W.cell? ⟨Bs, 5, none⟩ = some (.int .i64 s.n) := by rw [cell_of_row _ _ _ _ _ _ hBs]; rfl
    have d0 : W.cell? ⟨w.heap.size, 0, none⟩ = some (.int .i64 0) := by rw [cell_of_row _ _ _ _ _ _ c4]; rfl
    have d1 : W.cell? ⟨w.heap.size, 1, none⟩ = some (.bool false) := by rw [cell_of_row _ _ _ _ _ _ c4]; rfl
    have d2 : W.cell? ⟨w.heap.size, 2, none⟩ = some (.bool false) := by rw [cell_of_row _ _ _ _ _ _ c4]; rfl
    have d3 : W.cell? ⟨w.heap.size, 3, none⟩ = some (.bool false) := by rw [cell_of_row _ _ _ _ _ _ c4]; rfl
    have d4 : W.cell? ⟨w.heap.size, 4, none⟩ = some (.bool false) := by rw [cell_of_row _ _ _ _ _ _ c4]; rfl
    have d5 : W.cell? ⟨w.heap.size, 5, none⟩ = some (.int .i64 0) := by rw [cell_of_row _ _ _ _ _ _ c4]; rfl
    have g0 := fun j => frozen_of_row W w.heap.size j _ _ c4
    have e0 : W.cell? ⟨w.heap.size + 1, 0, none⟩ = some (.bool false) := by rw [cell_of_row _ _ _ _ _ _ c5]; rfl
    have g5 := fun j => frozen_of_row W (w.heap.size + 1) j _ _ c5
    clear hBs hlt
    gi_wp2
    change ownPostG _ _ _ _ _ _ _ _ ((sixAt W w.heap.size (.int .i64 P) (.bool s.here) (.bool s.write) (.bool s.copy) (.bool s.out) (.int .i64 s.n)).setCell ⟨w.heap.size + 1, 0, none⟩ (.bool true))
    refine ⟨KeepsOthers.from (((((((KeepsOthers.setCell _ _ _).trans (KeepsOthers.setCell _ _ _)).trans (KeepsOthers.setCell _ _ _)).trans (KeepsOthers.setCell _ _ _)).trans (KeepsOthers.setCell _ _ _)).trans (KeepsOthers.setCell _ _ _)).trans (KeepsOthers.setCell _ _ _)) _, rfl, P, s, rfl, ?_, ?_, ?_⟩
    · exact (Below.heap_setCell _ _ _ _ (by simp)).trans (set6_cells W w.heap.size _ _ _ _ _ _ _ c4 _ _ _ _ _ _)
    · rw [heap_setCell_same _ (w.heap.size + 1) 0 _ _ _ ((six_other W w.heap.size (w.heap.size + 1) (by omega) _ _ _ _ _ _).trans c5)]
      rfl
    · exact (below_six hB1 w.heap.size (Nat.le_refl _) _ _ _ _ _ _).setCell (by simp) _
  case done =>
    rintro D zs W hD rfl ⟨⟨⟨c4, c5⟩, bX1, bY1⟩, hB1, hz⟩ hK
    have HZ := Lib.hid hz
    clear hz
    have d0 : W.cell? ⟨w.heap.size, 0, none⟩ = some (.int .i64 0) := by rw [cell_of_row _ _ _ _ _ _ c4]; rfl
    have d1 : W.cell? ⟨w.heap.size, 1, none⟩ = some (.bool false) := by rw [cell_of_row _ _ _ _ _ _ c4]; rfl
    have d2 : W.cell? ⟨w.heap.size, 2, none⟩ = some (.bool false) := by rw [cell_of_row _ _ _ _ _ _ c4]; rfl
    have d3 : W.cell? ⟨w.heap.size, 3, none⟩ = some (.bool false) := by rw [cell_of_row _ _ _ _ _ _ c4]; rfl
    have d4 : W.cell? ⟨w.heap.size, 4, none⟩ = some (.bool false) := by rw [cell_of_row _ _ _ _ _ _ c4]; rfl
    have d5 : W.cell? ⟨w.heap.size, 5, none⟩ = some (.int .i64 0) := by rw [cell_of_row _ _ _ _ _ _ c4]; rfl
    have g0 := fun j => frozen_of_row W w.heap.size j _ _ c4
    have e0 : W.cell? ⟨w.heap.size + 1, 0, none⟩ = some (.bool false) := by rw [cell_of_row _ _ _ _ _ _ c5]; rfl
    have g5 := fun j => frozen_of_row W (w.heap.size + 1) j _ _ c5
    have hK' : ((sixAt W w.heap.size (.int .i64 0) (.bool false) (.bool false) (.bool false) (.bool false) (.int .i64 0)).setCell ⟨w.heap.size + 1, 0, none⟩ (.bool false)).heap[D]? = some (.deferred (some [])) := by
      rw [Below.heap_setCell _ _ _ _ (by simp; omega), six_other W w.heap.size D (by omega)]
      exact hK
    have k4' : ((sixAt W w.heap.size (.int .i64 0) (.bool false) (.bool false) (.bool false) (.bool false) (.int .i64 0)).setCell ⟨w.heap.size + 1, 0, none⟩ (.bool false)).heap[w.heap.size]? = some (.cells (spotL (0, .zero)).toArray 82 (0, 0)) :=
      (Below.heap_setCell _ _ _ _ (by simp)).trans (set6_cells W w.heap.size _ _ _ _ _ _ _ c4 _ _ _ _ _ _)
    have k5' : ((sixAt W w.heap.size (.int .i64 0) (.bool false) (.bool false) (.bool false) (.bool false) (.int .i64 0)).setCell ⟨w.heap.size + 1, 0, none⟩ (.bool false)).heap[w.heap.size + 1]? = some (.cells #[.bool false] 4 (0, 0)) := by
      rw [heap_setCell_same _ (w.heap.size + 1) 0 _ _ _ ((six_other W w.heap.size (w.heap.size + 1) (by omega) _ _ _ _ _ _).trans c5)]
      rfl
    have hb' := (below_six hB1 w.heap.size (Nat.le_refl _) (.int .i64 0) (.bool false) (.bool false) (.bool false) (.bool false) (.int .i64 0)).setCell (p := ⟨w.heap.size + 1, 0, none⟩) (by simp) (.bool false)
    gi_wp2
    change bodyPostM _ _ _ _ _ _ _ ((sixAt W w.heap.size (.int .i64 0) (.bool false) (.bool false) (.bool false) (.bool false) (.int .i64 0)).setCell ⟨w.heap.size + 1, 0, none⟩ (.bool false))
    refine ⟨by simp, .inl ⟨_, _, rfl, run_takeDeferred hK', ?_⟩⟩
    have q4 := (putObj_other _ D w.heap.size (.deferred none) (by omega)).trans k4'
    have q5 := (putObj_other _ D (w.heap.size + 1) (.deferred none) (by omega)).trans k5'
    have hb2 := hb'.trans (belowK_b (w := w) (Nat.le_refl _) _ D _ (.deferred none) (by omega) hK' rfl rfl)
    generalize World.putObj _ _ _ = Z at q4 q5 hb2 ⊢
    refine ⟨_, two_results _ _ (by rfl) (by rfl) q4 q5, ?_, hb2⟩
    rw [HZ.out]
    rfl
  case stop =>
    rintro D c pre W hD hpre ⟨rfl, x, rfl, k4, k5, hb⟩ hK
    gi_wp2
    refine ⟨by simp, .inl ⟨_, _, rfl, run_takeDeferred hK, ?_⟩⟩
    have q4 := (putObj_other W D w.heap.size (.deferred none) (by omega)).trans k4
    have q5 := (putObj_other W D (w.heap.size + 1) (.deferred none) (by omega)).trans k5
    have hb2 := hb.trans (belowK_b (w := w) (Nat.le_refl _) W D _ (.deferred none) (by omega) hK rfl rfl)
    obtain ⟨Z, hZ⟩ : ∃ Z, W.putObj D (.deferred none) = Z := ⟨_, rfl⟩
    rw [hZ] at q4 q5 hb2 ⊢
    refine ⟨_, two_results _ _ (by rfl) (by rfl) q4 q5, ?_, hb2⟩
    rw [firstV_of hpre]
theorem from_t (hw : Wd w0) (tr : Tr (ent F) (Hd F) N C root) (hT : Tb w0 w t p bb hb F root k) (fr : Int) :
    Calls Tryd.prog 53 #[.pointer (some ⟨t, 0, none⟩), .int .i64 fr] w fun e w' => e = .returned (firstV (pgL C fr 4 0)) ∧ Below w.heap.size w w' :=
  from_of w _ fr _ fun BT BF W0 hB _ _ kT kF => spots_stops (n₀ := w.heap.size) hw tr 4 fr BT BF W0 hT.at_.below.size ⟨hT.lt, hT.lts⟩ (hT.stay hB) hB.size kT kF

/-- Of no table, or a closed one, nothing is met. -/
theorem spots_none (n : Nat) (n₀ : Nat) (fr : Int) (BT BF : Nat) (w : World) (tp : Option Addr) (ht : tp = none ∨ ∃ t, tp = some ⟨t, 0, none⟩ ∧ w.cell? ⟨t, 0, none⟩ = some (.pointer none)) (kT : Boxed w BT 73 (.pointer tp)) (kF : Boxed w BF 3 (.int .i64 fr)) :
    SeqStopsK Fence.wide n Tryd.prog 99 #[.pointer (some ⟨BT, 0, none⟩), .pointer (some ⟨BF, 0, none⟩)] spotEnc (Kp n₀ BT BF) (fun ys => ys = []) (fun pre => pre <+: []) ([] : List (Nat × Sl)).length w := by
  intro l J Jx W hW hJ hJx hY hJ0
  have hBT := kT.lt
  have cT := (hW.cell (p := ⟨BT, 0, none⟩) hBT).trans kT.cell
  have hs := hW.size
  clear hJx hY
  have HJ := Lib.hid hJ
  clear hJ
  have hBT2 : BT < W.heap.size := by omega
  rcases ht with rfl | ⟨t, rfl, hc⟩
  · refine callsIn_of_wp Tryd.func99 rfl trivial ?_ rfl
    simp only [Tryd.ntmps99, List.size_toArray, List.length_cons, List.length_nil, Nat.reduceAdd, Nat.reduceSub, Array.replicate_succ, Array.replicate_zero, List.push_toArray, List.append_toArray, List.nil_append, List.cons_append]
    gi_wp2
    refine bodyPost_ret (results_none rfl _ _ _) rfl ?_
    exact ⟨⟨_, rfl⟩, .inl ⟨_, rfl, HJ.out _ _ _ none hJ0 (grown_none ((Below.refl _ W).alloc (Nat.le_refl _) _)) (fun r e => by cases e)⟩⟩
  · have htl := World.block_lt_of_cell? w _ hc
    simp only at htl
    have hc2 := (hW.cell (p := ⟨t, 0, none⟩) htl).trans hc
    refine callsIn_of_wp Tryd.func99 rfl trivial ?_ rfl
    simp only [Tryd.ntmps99, List.size_toArray, List.length_cons, List.length_nil, Nat.reduceAdd, Nat.reduceSub, Array.replicate_succ, Array.replicate_zero, List.push_toArray, List.append_toArray, List.nil_append, List.cons_append]
    have ht2 : t < W.heap.size := by omega
    gi_wp2
    refine bodyPost_ret (results_none rfl _ _ _) rfl ?_
    exact ⟨⟨_, rfl⟩, .inl ⟨_, rfl, HJ.out _ _ _ none hJ0 (grown_none ((Below.refl _ W).alloc (Nat.le_refl _) _)) (fun r e => by cases e)⟩⟩
/-- No table, or a closed one. -/
def NoT (w : World) (tp : Option Addr) : Prop := tp = none ∨ ∃ t, tp = some ⟨t, 0, none⟩ ∧ w.cell? ⟨t, 0, none⟩ = some (.pointer none)
theorem NoT.stay {w w' : World} {tp : Option Addr} (h : NoT w tp) (hb : Below w.heap.size w w') : NoT w' tp := by
  rcases h with h | ⟨t, h, hc⟩
  · exact .inl h
  · exact .inr ⟨t, h, (hb.cell (p := ⟨t, 0, none⟩) (World.block_lt_of_cell? w _ hc)).trans hc⟩
theorem all_none (w : World) (tp : Option Addr) (ht : NoT w tp) : Calls Tryd.prog 49 #[.pointer tp] w fun e w' => ∃ a c, e = .returned (.slice a 0 c) ∧ Below w.heap.size w w' := by
  refine (all_of w tp [] (by simp) fun BT BF W0 hB _ _ kT kF => spots_none 4 _ 0 BT BF W0 tp (ht.stay hB) kT kF).mono ?_
  rintro e w' ⟨v, rfl, ho, hb⟩
  rcases ho.2 with ⟨rfl, _⟩ | ⟨g, cap, cur, rfl, h1, h2, h3, h4⟩
  · exact ⟨_, _, rfl, hb⟩
  · exact ⟨_, _, rfl, hb⟩
theorem from_none (w : World) (tp : Option Addr) (fr : Int) (ht : NoT w tp) : Calls Tryd.prog 53 #[.pointer tp, .int .i64 fr] w fun e w' => e = .returned (firstV []) ∧ Below w.heap.size w w' :=
  from_of w tp fr [] fun BT BF W0 hB _ _ kT kF => spots_none 4 _ fr BT BF W0 tp (ht.stay hB) kT kF
end
end Go.Proofs.YtacpfkimjaihgaaDoor
