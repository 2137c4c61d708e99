/- radix.All: the pages with entries. No conditions. -/
import Derived.Maps.AppendAt
import Derived.Test.YtacpfkimjaihgaaDoorRSpots3
namespace Go.Proofs.YtacpfkimjaihgaaDoor
open Go.RowKit Go.Shelf
attribute [local go_sem] Oper.semAt_some
set_option linter.unusedVariables false
section
variable {w0 w w' : World} {t p bb hb n root n₀ : Nat} {F : FP} {N : Nat → Nat → Option Nat} {C : Nat → Option Sl} {k : Int}

theorem pgL_len (C : Nat → Option Sl) (fr : Int) : ∀ d q, (pgL C fr d q).length ≤ 8 ^ d := by
  intro d
  induction d with
  | zero =>
    intro q
    unfold pgL
    split
    · split <;> simp
    · simp
  | succ d ih =>
    intro q
    have : ∀ j, j ≤ 8 → ((List.range j).flatMap (fun i => pgL C fr d (8 * q + i))).length ≤ j * 8 ^ d := by
      intro j
      induction j with
      | zero => simp
      | succ j ihj =>
        intro hj
        rw [row_succ, List.length_append]
        have h1 := ihj (by omega)
        have h2 := ih (8 * q + j)
        rw [show (j + 1) * 8 ^ d = j * 8 ^ d + 8 ^ d from Nat.succ_mul _ _]
        exact Nat.add_le_add h1 h2
    have h8 := this 8 (by omega)
    rw [Nat.pow_succ, Nat.mul_comm]
    exact h8

theorem spots_is (n : Nat) (tp : Option Addr) (fr : Int) (w : World) :
    CallsIn Fence.wide n Tryd.prog 81 #[.pointer tp, .int .i64 fr] w fun e w' => e = .returned (.func (.func 99) #[] #[.pointer (some ⟨w.heap.size, 0, none⟩), .pointer (some ⟨w.heap.size + 1, 0, none⟩)]) ∧ w' = (w.alloc (.cells #[.pointer tp] 73)).alloc (.cells #[.int .i64 fr] 3) := by
  refine callsIn_of_wp Tryd.func81 rfl trivial ?_ rfl
  simp only [Tryd.ntmps81, List.size_toArray, List.length_cons, List.length_nil, Nat.reduceAdd, Nat.reduceSub, Array.replicate_succ, Array.replicate_zero, List.push_toArray, List.append_toArray, List.nil_append, List.cons_append]
  gi_wp2
  go_ret
  exact ⟨rfl, rfl⟩

theorem spots_stops (hw : Wd w0) (tr : Tr (ent F) (Hd F) N C root) (n : Nat) (fr : Int) (BT BF : Nat) (w : World)
    (h0 : w0.heap.size ≤ n₀) (hs : t < n₀ ∧ p < n₀ ∧ bb < n₀ ∧ hb < n₀) (hT : Tb w0 w t p bb hb F root k) (hn : n₀ ≤ w.heap.size)
    (kT : w.heap[BT]? = some (.cells #[.pointer (some ⟨t, 0, none⟩)] 73 (0, 0))) (kF : w.heap[BF]? = some (.cells #[.int .i64 fr] 3 (0, 0))) :
    SeqStopsK Fence.wide n Tryd.prog 99 #[.pointer (some ⟨BT, 0, none⟩), .pointer (some ⟨BF, 0, none⟩)] spotEnc (Kp n₀ BT BF) (fun ys => ys = pgL C fr 4 0) (fun pre => pre <+: pgL C fr 4 0) (pgL C fr 4 0).length w := fun l J Jx W hW hJ hJx hY hJ0 =>
  spots1_in hw tr (n - 1) n fr l BT BF J Jx W hJ hY h0 hs (hT.stay hW) (Nat.le_trans hn hW.size) ((hW.block _ (lt_of_block kT)).trans kT) ((hW.block _ (lt_of_block kF)).trans kF) hJ0

theorem news_new (W : World) (l : List Value) (e : TypeId) : ∀ j u, l[j]? = some u → (W.alloc (.cells l.toArray e)).cell? ((⟨W.heap.size, 0, none⟩ : Addr).add j) = some u := by
  intro j u hj
  have e0 : (⟨W.heap.size, 0, none⟩ : Addr).add j = ⟨W.heap.size, j, none⟩ := by unfold Addr.add; split <;> simp_all
  rw [e0, World.cell?_alloc_at _ _ _ _ rfl]
  simpa using hj
theorem row_kept {X Y : World} {row : Option Nat} {B : Nat} {cs : Array Value} {t : TypeId} {fr : Nat × Nat} (hs : X.heap[B]? = some (.cells cs t fr)) (hg : X.grownBy Y row) (hr : ∀ r, row = some r → ∃ o : Obj, X.heap[r]? = some o ∧ o.isCells = false) : Y.heap[B]? = some (.cells cs t fr) := by
  refine (hg.block B (Array.getElem?_eq_some_iff.1 hs).1 fun e => ?_).trans hs
  obtain ⟨o, ho, hc⟩ := hr B e.symm
  rw [hs] at ho
  cases ho
  cases hc
theorem putObj_other (W : World) (l i : Nat) (o : Obj) (h : i ≠ l) : (W.putObj l o).heap[i]? = W.heap[i]? := by
  show (W.heap.setIfInBounds l o)[i]? = _
  rw [Array.getElem?_setIfInBounds_ne (Ne.symm h)]
theorem Kp.putObj {n₀ BT BF B : Nat} (hn : n₀ ≤ B) (hT : BT < B) (hF : BF < B) (W : World) (l : Nat) (o o' : Obj) (hl : B ≤ l) (h : W.heap[l]? = some o) (hc : o.isCells = false) (hk : o.isWalk = false) : Kp n₀ BT BF W (W.putObj l o') := by
  refine ⟨⟨rfl, rfl, rfl, by simp, fun i hi => putObj_other W l i _ (by omega)⟩, putObj_other W l _ o' (by omega), putObj_other W l _ o' (by omega), fun i c ty _ hi => ?_⟩
  rw [putObj_other W l i o' (fun e => by subst e; rw [h] at hi; cases hi; cases hc)]
  exact hi
theorem row_other {W : World} {i e : Nat} {ty : TypeId} {c : Array Value} (h : W.heap[i]? = some (.cells c ty (0, 0))) (hte : ty ≠ e) {base size k : Nat} {v : Value} {xs : List Value} (hr : W.ownsRow base e size v k xs) : some i ≠ v.ownBlock := by
  rcases hr.2 with ⟨rfl, _⟩ | ⟨g, cap, cur, rfl, _, hgb, _⟩
  · simp [Value.ownBlock]
  · intro e'
    obtain rfl : i = g := by simpa [Value.ownBlock] using e'
    have := h.symm.trans hgb
    simp at this
    exact hte this.2
theorem appended_fns {W w1 : World} {n₀ B : Nat} {v v' : Value} {k : Nat} {xs : List Value} {tmp : Obj} (hv : Boxed W B 76 v) (hrow : W.ownsRow n₀ 82 6 v k xs) (hgrow : (W.alloc tmp).grownBy w1 v.ownBlock) :
    ∀ (i : Nat) (c : Array Value) (ty : TypeId), ty = 124 ∨ ty = 128 → W.heap[i]? = some (.cells c ty (0, 0)) → (w1.setCell ⟨B, 0, none⟩ v').heap[i]? = some (.cells c ty (0, 0)) := by
  intro i c ty ht hi
  have hne : some i ≠ v.ownBlock := row_other hi (by rcases ht with rfl | rfl <;> decide) hrow
  have hlt := lt_of_block hi
  have h1 : (W.alloc tmp).heap[i]? = some (.cells c ty (0, 0)) := (Below.heap_alloc W tmp i hlt).trans hi
  have h2 := (hgrow.block i (by simp; omega) hne).trans h1
  rw [Below.heap_setCell _ _ _ i (fun e => ?_)]
  · exact h2
  · have hx : B = i := by simpa using e.symm
    subst hx
    have := (show W.heap[B]? = _ from hv).symm.trans hi
    rcases ht with rfl | rfl <;> simp at this
theorem Tryd.info82 : (Tryd.prog.info? 82).map (fun i => (i.zero, i.size, i.bytes)) = some (some (.agg (spotL (0, .zero)).toArray), 6, 24) := by kernel_rfl
set_option maxRecDepth 100000 in
set_option maxHeartbeats 4000000 in
theorem all_of (w : World) (tp : Option Addr) (L : List (Nat × Sl)) (hlen : L.length ≤ 4096)
    (hseq : ∀ (BT BF : Nat) (W0 : World), Below w.heap.size w W0 → BT < W0.heap.size → BF < W0.heap.size → Boxed W0 BT 73 (.pointer tp) → Boxed W0 BF 3 (.int .i64 0) →
      SeqStopsK Fence.wide 4 Tryd.prog 99 #[.pointer (some ⟨BT, 0, none⟩), .pointer (some ⟨BF, 0, none⟩)] spotEnc (Kp w.heap.size BT BF) (fun ys => ys = L) (fun pre => pre <+: L) L.length W0) :
    Calls Tryd.prog 49 #[.pointer tp] w fun e w' => ∃ v, e = .returned v ∧ w'.ownsRow w.heap.size 82 6 v L.length (L.flatMap spotL) ∧ Below w.heap.size w w' := by
  obtain ⟨i0, hi, hz0, hz1, hz2⟩ := info_parts Tryd.info82
  refine (callsIn_wide (n := 5)).1 ?_
  refine callsIn_of_wp_marks Tryd.func49 rfl trivial ?_ rfl
  simp only [Tryd.ntmps49, List.size_toArray, List.length_cons, List.length_nil, Nat.reduceAdd, Nat.reduceSub, Array.replicate_succ, Array.replicate_zero, List.push_toArray, List.append_toArray, List.nil_append, List.cons_append]
  gi_wp2_with (refine ⟨trivial, ?_⟩; gi_at_call 81; refine (spots_is 4 tp 0 _).mono ?_; rintro e w' ⟨rfl, rfl⟩)
  have bO := ((Boxed.new w 76 (.slice none 0 0)).alloc (.cells #[.pointer tp] 73)).alloc (.cells #[.int .i64 0] 3)
  have bX := (Boxed.new (w.alloc (.cells #[.slice none 0 0] 76)) 73 (.pointer tp)).alloc (.cells #[.int .i64 0] 3)
  have bY := Boxed.new ((w.alloc (.cells #[.slice none 0 0] 76)).alloc (.cells #[.pointer tp] 73)) 3 (.int .i64 0)
  simp only [World.size_alloc] at bO bX bY
  have hB0 : Below w.heap.size w (((w.alloc (.cells #[.slice none 0 0] 76)).alloc (.cells #[.pointer tp] 73)).alloc (.cells #[.int .i64 0] 3)) := (((Below.refl _ w).alloc (Nat.le_refl _) _).alloc (by simp) _).alloc (by simp; omega) _
  have hsz : (((w.alloc (.cells #[.slice none 0 0] 76)).alloc (.cells #[.pointer tp] 73)).alloc (.cells #[.int .i64 0] 3)).heap.size = w.heap.size + 3 := by simp
  obtain ⟨W0, hW0⟩ : ∃ W0, (((w.alloc (.cells #[.slice none 0 0] 76)).alloc (.cells #[.pointer tp] 73)).alloc (.cells #[.int .i64 0] 3)) = W0 := ⟨_, rfl⟩
  rw [hW0] at bO bX bY hB0 hsz ⊢
  clear hW0
  refine wpIn_rangeFunc_ownH (F := Fence.wide) (n := 5) rfl (by omega) (gf := 99) (lb := #[.pointer (some ⟨w.heap.size + 1, 0, none⟩), .pointer (some ⟨w.heap.size + 1 + 1, 0, none⟩)]) rfl trivial (enters_of Tryd.func99 (by kernel_rfl) rfl)
    (hseq (w.heap.size + 1) (w.heap.size + 1 + 1) W0 hB0 (by omega) (by omega) bX bY) Kp.trans
    (fun W l o o' hl h hc hw => Kp.putObj (B := W0.heap.size) (by omega) (by omega) (by omega) W l o o' hl h hc hw) (Below.refl _ _) (fun _ => rfl)
    (fun pre W => ((Boxed W (w.heap.size + 1) 73 (.pointer tp) ∧ Boxed W (w.heap.size + 1 + 1) 3 (.int .i64 0)) ∧ (∃ v, Boxed W w.heap.size 76 v ∧ W.ownsRow w.heap.size 82 6 v pre.length (pre.flatMap spotL) ∧ True)) ∧ Below w.heap.size w W)
    (fun _ _ _ => False)
    (OwnFrom.and (OwnFrom.and (OwnFrom.and (Own.from (boxed_own _ _ _) _) (Own.from (boxed_own _ _ _) _)) (Own.from (holdsRow_own _ _ _ _ _ _ _ (fun _ _ => True)) _)) (ownFrom_below (Nat.le_refl _) (by omega)))
    (fun _ _ _ _ _ hs _ _ => hs)
    ⟨⟨⟨bX, bY⟩, _, bO, World.ownsRow_nil _ _ _ _, trivial⟩, hB0⟩
    (fun x a' W => ∃ Bs, W.heap[Bs]? = some (.cells (spotL x).toArray 82 (0, 0)) ∧ a' = { tmps := #[.pointer tp, undef, .slice none 0 0, .pointer (some ⟨w.heap.size, 0, none⟩), .pointer (some ⟨Bs, 0, none⟩), .pointer tp, .func (.func 99) #[] #[.pointer (some ⟨w.heap.size + 1, 0, none⟩), .pointer (some ⟨w.heap.size + 1 + 1, 0, none⟩)], .agg (spotL x).toArray, undef, undef, undef, undef, undef], defers := [] })
    (fun x a' _ X Y row hs hg hr => by obtain ⟨Bs, h1, h3⟩ := hs; exact ⟨Bs, row_kept h1 hg (fun r e => (hr r e).2), h3⟩)
    ?assign ?body ?done ?stop
  case assign =>
    rintro l pre ⟨P, s⟩ W K ⟨⟨⟨bX1, bY1⟩, v, bO1, hrow, _⟩, hB1⟩ hK
    simp only [spotEnc, spotL] at hK ⊢
    gi_wp2
    have hs1 := hB1.size
    have lX := bX1.lt
    have lY := bY1.lt
    have hbb : Below W.heap.size W (W.alloc (Obj.cells (spotL (P, s)).toArray 82)) := (Below.refl _ W).alloc (Nat.le_refl _) _
    refine hK _ _ ((KeepsOthers.alloc W (Obj.cells (spotL (P, s)).toArray 82)).from _) (Kp.of_below hbb hs1 lX lY) ⟨⟨⟨bX1.alloc _, bY1.alloc _⟩, v, bO1.alloc _, hrow.alloc _, trivial⟩, hB1.trans (hbb.mono hs1)⟩ ⟨W.heap.size, heap_alloc_new W (Obj.cells (spotL (P, s)).toArray 82), rfl⟩
  case body =>
    rintro l pre ⟨P, s⟩ a' W hl ⟨r, hr⟩ ⟨⟨⟨bX1, bY1⟩, v, bO1, hrow, _⟩, hB1⟩ ⟨Bs, hBs, rfl⟩ hlt
    have hs1 := hB1.size
    have cO := bO1.cell
    have t0 : W.cell? ⟨Bs, 0, none⟩ = some (.int .i64 P) := by rw [cell_of_row _ _ _ _ _ _ hBs]; rfl
    have t1 : W.cell? ⟨Bs, 1, none⟩ = some (.bool s.here) := by rw [cell_of_row _ _ _ _ _ _ hBs]; rfl
    have t2 : W.cell? ⟨Bs, 2, none⟩ = some (.bool s.write) := by rw [cell_of_row _ _ _ _ _ _ hBs]; rfl
    have t3 : W.cell? ⟨Bs, 3, none⟩ = some (.bool s.copy) := by rw [cell_of_row _ _ _ _ _ _ hBs]; rfl
    have t4 : W.cell? ⟨Bs, 4, none⟩ = some (.bool s.out) := by rw [cell_of_row _ _ _ _ _ _ hBs]; rfl
    have t5 : W.cell? ⟨Bs, 5, none⟩ = some (.int .i64 s.n) := by rw [cell_of_row _ _ _ _ _ _ hBs]; rfl
    have hle2 : pre.length < 4096 := by omega
    clear hBs hlt
    gi_wp2_with (gi_at_builtin; refine wpListIn_append_own _ rfl _ _ 76 rfl w.heap.size 82 i0 _ 6 24 Tryd.underlying76 hi hz0 hz1 hz2 rfl (by decide) _ _ _ rfl (hrow.alloc _) ⟨W.heap.size, 0, none⟩ 1 1 (spotL (P, s)) rfl rfl (news_new W (spotL (P, s)) 82) (by simp [spotL, Value.oneCell']) (by unfold maxLen; omega) (by omega) (by simp; omega) ?_; intro v' w1 hown' hgrow _; obtain ⟨g', cap', rfl⟩ := ownsRow_succ hown'; obtain ⟨hv1, hv2, hr2, hk2, hb2'⟩ := bO1.appended (by decide) hrow hB1.size (by omega) hown' hgrow; have hc1 := hv1.cell; have hf1 := hv1.frozen)
    have bX2 := ((bX1.alloc _).kept hgrow (bX1.not_row (by decide) hrow)).other (B' := w.heap.size) (by omega) (.slice (some ⟨g', 0, none⟩) (pre.length + 1) cap')
    have bY2 := ((bY1.alloc _).kept hgrow (bY1.not_row (by decide) hrow)).other (B' := w.heap.size) (by omega) (.slice (some ⟨g', 0, none⟩) (pre.length + 1) cap')
    refine ⟨hk2.from _, ⟨hb2', bX2.trans bX1.symm, bY2.trans bY1.symm, appended_fns bO1 hrow hgrow⟩, ⟨⟨⟨bX2, bY2⟩, _, hv2, ?_, trivial⟩, hB1.trans hb2'⟩⟩
    simpa using hr2
  case done =>
    rintro D zs W hD rfl ⟨⟨⟨bX1, bY1⟩, v, bO1, hrow, _⟩, hB1⟩ hK
    have cO := bO1.cell
    gi_wp2
    refine ⟨by simp, .inl ⟨_, _, rfl, run_takeDeferred hK, ?_⟩⟩
    exact ⟨_, results_tmp rfl _ _ _, _, rfl, ownsRow_putObj hrow _ hK rfl, hB1.trans (belowK_b (w := w) (Nat.le_refl _) W D _ _ (by omega) hK rfl rfl)⟩
  case stop =>
    rintro D c pre W _ _ h _
    exact h.elim
theorem all_t (hw : Wd w0) (tr : Tr (ent F) (Hd F) N C root) (hT : Tb w0 w t p bb hb F root k) :
    Calls Tryd.prog 49 #[.pointer (some ⟨t, 0, none⟩)] w fun e w' => ∃ v, e = .returned v ∧ w'.ownsRow w.heap.size 82 6 v (pgL C 0 4 0).length ((pgL C 0 4 0).flatMap spotL) ∧ Below w.heap.size w w' :=
  all_of w _ _ (pgL_len C 0 4 0) fun BT BF W0 hB _ _ kT kF => spots_stops (n₀ := w.heap.size) hw tr 4 0 BT BF W0 hT.at_.below.size ⟨hT.lt, hT.lts⟩ (hT.stay hB) hB.size kT kF
end
end Go.Proofs.YtacpfkimjaihgaaDoor
