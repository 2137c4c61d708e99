/- runs.Of: what was told to a process, as many as there are. -/
import Derived.Maps.AppendAt
import Derived.Test.YtnomklpnlohpiaaOf
namespace Go.Proofs.Ytnomklpnlohpiaa
open Go.RowKit Go.Shelf
attribute [local go_sem] Oper.semAt_some
set_option linter.unusedVariables false

def ofL (pid : Int) (l : List (CV × Int)) : List Int := (l.filter (fun x => x.1.pid == pid)).map (·.2)
theorem ofL_snoc (pid : Int) (l : List (CV × Int)) (x : CV × Int) : ofL pid (l ++ [x]) = ofL pid l ++ (if x.1.pid == pid then [x.2] else []) := by
  simp only [ofL, List.filter_append, List.map_append]
  by_cases h : (x.1.pid == pid) = true
  · simp [h]
  · simp [h]
theorem news_new (W : World) (l : List Value) (e : TypeId) : ∀ j u, l[j]? = some u → (W.alloc (.cells l.toArray e)).cell? ((⟨W.heap.size, 0, none⟩ : Addr).add j) = some u := by
  intro j u hj
  have e0 : (⟨W.heap.size, 0, none⟩ : Addr).add j = ⟨W.heap.size, j, none⟩ := by unfold Addr.add; split <;> simp_all
  rw [e0, World.cell?_alloc_at _ _ _ _ rfl]
  simpa using hj
theorem ofL_le (pid : Int) (l : List (CV × Int)) : (ofL pid l).length ≤ l.length := by
  rw [ofL, List.length_map]
  exact List.length_filter_le _ _
theorem row_kept {X Y : World} {row : Option Nat} {B : Nat} {cs : Array Value} {t : TypeId} {fr : Nat × Nat} (hs : X.heap[B]? = some (.cells cs t fr)) (hg : X.grownBy Y row) (hr : ∀ r, row = some r → ∃ o : Obj, X.heap[r]? = some o ∧ o.isCells = false) : Y.heap[B]? = some (.cells cs t fr) := by
  refine (hg.block B (Array.getElem?_eq_some_iff.1 hs).1 fun e => ?_).trans hs
  obtain ⟨o, ho, hc⟩ := hr B e.symm
  rw [hs] at ho
  cases ho
  cases hc
theorem putObj_other (W : World) (l i : Nat) (o : Obj) (h : i ≠ l) : (W.putObj l o).heap[i]? = W.heap[i]? := by
  show (W.heap.setIfInBounds l o)[i]? = _
  rw [Array.getElem?_setIfInBounds_ne (Ne.symm h)]
set_option maxRecDepth 100000 in
set_option maxHeartbeats 4000000 in
theorem of_any (w : World) (b1 o1 b2 o2 N c1 c2 : Nat) (pid : Int) (cs : List CV) (ts : List Int) (hcs : cs.length = N) (hts : ts.length = N) (hN : N ≤ 1000) (hc1 : N ≤ c1) (hb1 : b1 < w.heap.size) (hb2 : b2 < w.heap.size)
    (hca : CallsAt w (some ⟨b1, o1, none⟩) cs) (hta : Told3At w b2 o2 ts) :
    Calls Try.prog 12 #[.slice (some ⟨b1, o1, none⟩) N c1, .slice (some ⟨b2, o2, none⟩) N c2, .int .i64 pid] w fun e w' => ∃ v, e = .returned v ∧ w'.ownsRow w.heap.size 39 3 v (ofL pid (cs.zip ts)).length ((ofL pid (cs.zip ts)).flatMap toldL) ∧ Below w.heap.size w w' := by
  obtain ⟨i0, hi, hz0, hz1, hz2⟩ := info_parts Try.info39
  refine (callsIn_wide (n := 5)).1 ?_
  refine callsIn_of_wp_marks Try.func12 rfl trivial ?_ rfl
  simp only [Try.ntmps12, List.size_toArray, List.length_cons, List.length_nil, Nat.reduceAdd, Nat.reduceSub, Array.replicate_succ, Array.replicate_zero, List.push_toArray, List.append_toArray, List.nil_append, List.cons_append]
  gi_wp2_with (refine ⟨trivial, ?_⟩; gi_at_call 14; refine (pairs_in 4 _ _ _ _ _ _ _).mono ?_; rintro e w' ⟨rfl, rfl⟩)
  have bP := (((Boxed.new w 3 (.int .i64 pid)).alloc (.cells #[.slice none 0 0] 35)).alloc (.cells #[.slice (some ⟨b1, o1, none⟩) N c1] 22)).alloc (.cells #[.slice (some ⟨b2, o2, none⟩) N c2] 35)
  have bO := ((Boxed.new (w.alloc (.cells #[.int .i64 pid] 3)) 35 (.slice none 0 0)).alloc (.cells #[.slice (some ⟨b1, o1, none⟩) N c1] 22)).alloc (.cells #[.slice (some ⟨b2, o2, none⟩) N c2] 35)
  have bX := (Boxed.new ((w.alloc (.cells #[.int .i64 pid] 3)).alloc (.cells #[.slice none 0 0] 35)) 22 (.slice (some ⟨b1, o1, none⟩) N c1)).alloc (.cells #[.slice (some ⟨b2, o2, none⟩) N c2] 35)
  have bY := Boxed.new (((w.alloc (.cells #[.int .i64 pid] 3)).alloc (.cells #[.slice none 0 0] 35)).alloc (.cells #[.slice (some ⟨b1, o1, none⟩) N c1] 22)) 35 (.slice (some ⟨b2, o2, none⟩) N c2)
  simp only [World.size_alloc] at bO bX bY
  have hB0 : Below w.heap.size w ((((w.alloc (.cells #[.int .i64 pid] 3)).alloc (.cells #[.slice none 0 0] 35)).alloc (.cells #[.slice (some ⟨b1, o1, none⟩) N c1] 22)).alloc (.cells #[.slice (some ⟨b2, o2, none⟩) N c2] 35)) := ((((Below.refl _ w).alloc (Nat.le_refl _) _).alloc (by simp) _).alloc (by simp; omega) _).alloc (by simp; omega) _
  have hsz : ((((w.alloc (.cells #[.int .i64 pid] 3)).alloc (.cells #[.slice none 0 0] 35)).alloc (.cells #[.slice (some ⟨b1, o1, none⟩) N c1] 22)).alloc (.cells #[.slice (some ⟨b2, o2, none⟩) N c2] 35)).heap.size = w.heap.size + 4 := by simp
  obtain ⟨W0, hW0⟩ : ∃ W0, (((w.alloc (.cells #[.int .i64 pid] 3)).alloc (.cells #[.slice none 0 0] 35)).alloc (.cells #[.slice (some ⟨b1, o1, none⟩) N c1] 22)).alloc (.cells #[.slice (some ⟨b2, o2, none⟩) N c2] 35) = W0 := ⟨_, rfl⟩
  rw [hW0] at bP bO bX bY hB0 hsz ⊢
  clear hW0
  refine wpIn_rangeFunc_ownH (F := Fence.wide) (n := 5) rfl (by omega) (gf := 15) (lb := #[.pointer (some ⟨w.heap.size + 1 + 1, 0, none⟩), .pointer (some ⟨w.heap.size + 1 + 1 + 1, 0, none⟩)]) rfl trivial (enters_of Try.func15 (by kernel_rfl) rfl)
    (pairs_stops 4 (by omega) (w.heap.size + 1 + 1) (w.heap.size + 1 + 1 + 1) w.heap.size b1 o1 b2 o2 N c1 c2 cs ts hcs hts hN hc1 hb1 hb2 W0 bX.cell bY.cell (by omega) (hca.below hB0 (Nat.le_refl _)) (hta.below hB0 hb2)) kpB_t
    (fun W l o o' hl h hc hw => ⟨belowK_b (w := W0) (by omega) W l o o' hl h hc hw, by
      have hne : w.heap.size + 1 + 1 + 1 ≠ l := by omega
      exact World.cell?_of_block (w := W) (a := ⟨w.heap.size + 1 + 1 + 1, 0, none⟩) (putObj_other W l _ o' hne)⟩) (Below.refl _ _) (fun _ => rfl)
    (fun pre W => ((Boxed W w.heap.size 3 (.int .i64 pid) ∧ Boxed W (w.heap.size + 1 + 1 + 1) 35 (.slice (some ⟨b2, o2, none⟩) N c2)) ∧ (∃ v, Boxed W (w.heap.size + 1) 35 v ∧ W.ownsRow w.heap.size 39 3 v (ofL pid pre).length ((ofL pid pre).flatMap toldL) ∧ True)) ∧ Below w.heap.size w W)
    (fun _ _ _ => False)
    (OwnFrom.and (OwnFrom.and (OwnFrom.and (Own.from (boxed_own _ _ _) _) (Own.from (boxed_own _ _ _) _)) (Own.from (holdsRow_own _ _ _ _ _ _ _ (fun _ _ => True)) _)) (ownFrom_below (Nat.le_refl _) (by omega)))
    (fun _ _ _ _ _ hs _ _ => hs)
    ⟨⟨⟨bP, bY⟩, _, bO, World.ownsRow_nil _ _ _ _, trivial⟩, hB0⟩
    (fun x a' W => ∃ Bc Bt, W.heap[Bc]? = some (.cells x.1.cells.toArray 30 (0, 0)) ∧ W.heap[Bt]? = some (.cells (toldL x.2).toArray 39 (0, 0)) ∧ a' = { tmps := #[.slice (some ⟨b1, o1, none⟩) N c1, .slice (some ⟨b2, o2, none⟩) N c2, .int .i64 pid, undef, undef, .pointer (some ⟨w.heap.size, 0, none⟩), .slice none 0 0, .pointer (some ⟨w.heap.size + 1, 0, none⟩), .pointer (some ⟨Bc, 0, none⟩), .pointer (some ⟨Bt, 0, none⟩), .slice (some ⟨b1, o1, none⟩) N c1, .slice (some ⟨b2, o2, none⟩) N c2, .func (.func 15) #[] #[.pointer (some ⟨w.heap.size + 1 + 1, 0, none⟩), .pointer (some ⟨w.heap.size + 1 + 1 + 1, 0, none⟩)], .agg x.1.cells.toArray, .agg (toldL x.2).toArray, undef, undef, undef, undef, undef, undef, undef, undef, undef], defers := [] })
    (fun x a' _ X Y row hs hg hr => by obtain ⟨Bc, Bt, h1, h2, h3⟩ := hs; exact ⟨Bc, Bt, row_kept h1 hg (fun r e => (hr r e).2), row_kept h2 hg (fun r e => (hr r e).2), h3⟩)
    ?assign ?body ?done ?stop
  case assign =>
    rintro l pre ⟨c, t⟩ W K ⟨⟨⟨bP1, bY1⟩, v, bO1, hrow, _⟩, hB1⟩ hK
    simp only [pairEnc, CV.cells, toldL] at hK ⊢
    gi_wp2
    have hs1 := hB1.size
    have z1 : w.heap.size ≤ (W.alloc (Obj.cells c.cells.toArray 30)).heap.size := by simp; omega
    have hbb : Below w.heap.size W ((W.alloc (Obj.cells c.cells.toArray 30)).alloc (Obj.cells (toldL t).toArray 39)) := ((Below.refl _ W).alloc hs1 _).alloc z1 _
    refine hK _ _ (((KeepsOthers.alloc W (Obj.cells c.cells.toArray 30)).trans (KeepsOthers.alloc _ (Obj.cells (toldL t).toArray 39))).from _) ⟨hbb, ?_⟩ ⟨⟨⟨(bP1.alloc _).alloc _, (bY1.alloc _).alloc _⟩, v, (bO1.alloc _).alloc _, (hrow.alloc _).alloc _, trivial⟩, hB1.trans hbb⟩ ⟨W.heap.size, W.heap.size + 1, ?_, ?_, rfl⟩
    · exact (((bY1.alloc (Obj.cells c.cells.toArray 30)).alloc (Obj.cells (toldL t).toArray 39)).cell).trans bY1.cell.symm
    · exact (Below.heap_alloc (W.alloc (Obj.cells c.cells.toArray 30)) (Obj.cells (toldL t).toArray 39) W.heap.size (by simp)).trans (heap_alloc_new W (Obj.cells c.cells.toArray 30))
    · have := heap_alloc_new (W.alloc (Obj.cells c.cells.toArray 30)) (Obj.cells (toldL t).toArray 39)
      rw [World.size_alloc] at this
      exact this
  case body =>
    rintro l pre ⟨c, t⟩ a' W hl ⟨r, hr⟩ ⟨⟨⟨bP1, bY1⟩, v, bO1, hrow, _⟩, hB1⟩ ⟨Bc, Bt, hBc, hBt, rfl⟩ hlt
    have hs1 := hB1.size
    have cP := bP1.cell
    have cO := bO1.cell
    have kc : W.cell? ⟨Bc, 1, none⟩ = some (.int .i64 c.pid) := by rw [cell_of_row _ _ _ _ _ _ hBc]; rfl
    have t0 : W.cell? ⟨Bt, 0, none⟩ = some (.int .i64 0) := by rw [cell_of_row _ _ _ _ _ _ hBt]; rfl
    have t1 : W.cell? ⟨Bt, 1, none⟩ = some (.int .i64 t) := by rw [cell_of_row _ _ _ _ _ _ hBt]; rfl
    have t2 : W.cell? ⟨Bt, 2, none⟩ = some (.int .u64 0) := by rw [cell_of_row _ _ _ _ _ _ hBt]; rfl
    have hle := ofL_le pid pre
    have hle2 : (ofL pid pre).length < 1000 := by omega
    have HS := Lib.hid (ofL_snoc pid pre (c, t))
    clear hBc hBt hca hta hle

    by_cases hp : c.pid = pid
    · have hpe : (c.pid == pid) = true := by simp [hp]
      have HPE := Lib.hid hpe
      clear hp
      gi_wp2_with (gi_at_builtin; refine wpListIn_append_own _ rfl _ _ 35 rfl w.heap.size 39 i0 _ 3 24 Try.underlying35 hi hz0 hz1 hz2 rfl (by decide) _ _ _ rfl (hrow.alloc _) ⟨W.heap.size, 0, none⟩ 1 1 (toldL t) rfl rfl (news_new W (toldL t) 39) (by simp [toldL, Value.oneCell']) (by unfold maxLen; omega) (by omega) (by simp; omega) ?_; intro v' w1 hown' hgrow _; obtain ⟨g', cap', rfl⟩ := ownsRow_succ hown'; obtain ⟨hv1, hv2, hr2, hk2, hb2'⟩ := bO1.appended (by decide) hrow hB1.size (by omega) hown' hgrow; have hc1 := hv1.cell; have hf1 := hv1.frozen)
      have bP2 := ((bP1.alloc _).kept hgrow (bP1.not_row (by decide) hrow)).other (B' := w.heap.size + 1) (by omega) (.slice (some ⟨g', 0, none⟩) ((ofL pid pre).length + 1) cap')
      have bY2 := ((bY1.alloc _).kept hgrow (bY1.not_row (by decide) hrow)).other (B' := w.heap.size + 1) (by omega) (.slice (some ⟨g', 0, none⟩) ((ofL pid pre).length + 1) cap')
      refine ⟨hk2.from _, ⟨hb2', bY2.cell.trans bY1.cell.symm⟩, ⟨⟨⟨bP2, bY2⟩, _, hv2, ?_⟩, hB1.trans hb2'⟩⟩
      rw [HS.out, if_pos HPE.out]
      simpa using hr2
    · have hpe : (c.pid == pid) = false := by simp [hp]
      have HPE := Lib.hid hpe
      clear hp
      gi_wp2
      refine ⟨KeepsFrom.refl _ _, ⟨Below.refl _ _, rfl⟩, ⟨⟨⟨bP1, bY1⟩, v, bO1, ?_⟩, hB1⟩⟩
      rw [HS.out, if_neg (by simp [HPE.out])]
      simpa using hrow
  case done =>
    rintro D zs W hD rfl ⟨⟨⟨bP1, bY1⟩, v, bO1, hrow, _⟩, hB1⟩ hK
    have cO := bO1.cell
    gi_wp2
    refine ⟨by simp, .inl ⟨_, _, rfl, run_takeDeferred hK, ?_⟩⟩
    exact ⟨_, results_tmp rfl _ _ _, _, rfl, ownsRow_putObj hrow _ hK rfl, hB1.trans (belowK_b (w := w) (Nat.le_refl _) W D _ _ (by omega) hK rfl rfl)⟩
  case stop =>
    rintro D c pre W _ _ h _
    exact h.elim
end Go.Proofs.Ytnomklpnlohpiaa
