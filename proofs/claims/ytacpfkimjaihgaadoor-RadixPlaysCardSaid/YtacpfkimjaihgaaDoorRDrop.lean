/- radix: Drop. No conditions. -/
import Derived.Test.YtacpfkimjaihgaaDoorRDrop0
namespace Go.Proofs.YtacpfkimjaihgaaDoor
open Go.RowKit
set_option linter.unusedVariables false

/-- Five cells set. -/
def fiveAt (w : World) (b : Nat) (v0 v1 v2 v3 v4 : Value) : World := ((((w.setCell ⟨b, 0, none⟩ v0).setCell ⟨b, 1, none⟩ v1).setCell ⟨b, 2, none⟩ v2).setCell ⟨b, 3, none⟩ v3).setCell ⟨b, 4, none⟩ v4
theorem set5_cells (w : World) (b : Nat) (x0 x1 x2 x3 x4 : Value) (t : TypeId) (h : w.heap[b]? = some (.cells #[x0, x1, x2, x3, x4] t (0, 0))) (v0 v1 v2 v3 v4 : Value) :
    (fiveAt w b v0 v1 v2 v3 v4).heap[b]? = some (.cells #[v0, v1, v2, v3, v4] t (0, 0)) := by
  unfold fiveAt
  rw [heap_setCell_same _ b _ _ t _ (heap_setCell_same _ b _ _ t _ (heap_setCell_same _ b _ _ t _ (heap_setCell_same _ b _ _ t _ (heap_setCell_same _ b _ _ t _ h))))]
  rfl
theorem mods_set5 {S : List Nat} {a w : World} (h : Mods S a w) (b : Nat) (hb : a.heap.size ≤ b) (v0 v1 v2 v3 v4 : Value) : Mods S a (fiveAt w b v0 v1 v2 v3 v4) :=
  ((((h.setCell (p := ⟨b, 0, none⟩) (.inr hb) v0).setCell (p := ⟨b, 1, none⟩) (.inr hb) v1).setCell (p := ⟨b, 2, none⟩) (.inr hb) v2).setCell (p := ⟨b, 3, none⟩) (.inr hb) v3).setCell (p := ⟨b, 4, none⟩) (.inr hb) v4
section
variable {w0 w : World} {t p bb hb n root : Nat} {F : FP} {N : Nat → Nat → Option Nat} {C : Nat → Option Sl} {k : Int}
theorem Rst.set5 (h : Rst w0 w t p bb hb n F root N C) (b : Nat) (h0 : w0.heap.size ≤ b) (h1 : b ≠ t) (h2 : b ∉ [p, bb, hb]) (v0 v1 v2 v3 v4 : Value) : Rst w0 (fiveAt w b v0 v1 v2 v3 v4) t p bb hb n F root N C :=
  ⟨((((h.tb.other (a := ⟨b, 0, none⟩) h0 h1 h2 v0).other (a := ⟨b, 1, none⟩) h0 h1 h2 v1).other (a := ⟨b, 2, none⟩) h0 h1 h2 v2).other (a := ⟨b, 3, none⟩) h0 h1 h2 v3).other (a := ⟨b, 4, none⟩) h0 h1 h2 v4, h.fit, h.tr, h.fr, h.n4⟩
/-- What the page's path loses at a step. -/
theorem prune_facts {N' : Nat → Nat → Option Nat} {page i : Nat} {a : Nat → Nat} (hi1 : 1 ≤ i) (HA : ∀ l, l ≤ i → N' l (pre page l) = some (a l)) (HG : ∀ l, i < l → l ≤ 3 → N' l (pre page l) = none) (HO : ∀ l q, q ≠ pre page l → N' l q = N l q) :
    (∀ l, l ≤ i - 1 → upd2 N' i (pre page i) none l (pre page l) = some (a l)) ∧ (∀ l, i - 1 < l → l ≤ 3 → upd2 N' i (pre page i) none l (pre page l) = none) ∧ (∀ l q, q ≠ pre page l → upd2 N' i (pre page i) none l q = N l q) := by
  refine ⟨fun l hl => ?_, fun l hl h3 => ?_, fun l q hq => ?_⟩
  · rw [upd2_ne _ _ (by omega)]
    exact HA l (by omega)
  · by_cases e : l = i
    · subst e
      rw [upd2_at]
    · rw [upd2_ne _ _ (by omega)]
      exact HG l (by omega) h3
  · rw [upd2_ne _ _ (fun x => hq (by rw [x.2, x.1]))]
    exact HO l q hq

set_option maxRecDepth 100000 in
set_option maxHeartbeats 16000000 in
theorem Rst.drop_some (h : Rst w0 w t p bb hb n F root N C) (hw : Wd w0) (hti : Tight N C) (page : Nat) (hp : page < 4096) (q1 q2 q3 q4 : Bool) (q5 : Int) (hC : C page = some ⟨q1, q2, q3, q4, q5⟩) :
    Calls Tryd.prog 54 #[.pointer (some ⟨t, 0, none⟩), .int .i64 page] w fun e w' => e = .returned (.tuple #[.agg #[.bool q1, .bool q2, .bool q3, .bool q4, .int .i64 q5], .int .i64 0]) ∧ Mods [t, p, bb, hb] w w' ∧
      ∃ F' N', Rst w0 w' t p bb hb n F' root N' (updC C page none) ∧ Tight N' (updC C page none) := by
  have HR := Lib.hid h
  have H1 := Lib.hid (h.stay ((Below.refl _ w).alloc (Nat.le_refl _) (.cells #[.bool false, .bool false, .bool false, .bool false, .int .i64 0] 68)))
  have n0 := heap_alloc_new w (.cells #[.bool false, .bool false, .bool false, .bool false, .int .i64 0] 68)
  have HW := Lib.hid hw
  have HTI := Lib.hid hti
  have HC := Lib.hid hC
  have hts : t < w.heap.size ∧ p < w.heap.size ∧ bb < w.heap.size ∧ hb < w.heap.size := ⟨h.tb.lt, h.tb.lts.1, h.tb.lts.2.1, h.tb.lts.2.2⟩
  have hb0 := h.tb.at_.below.size
  have hn4 := h.n4
  clear h hw hti hC
  go_enter Tryd.func54, Tryd.ntmps54
  go_wp2_with (
    go_at_call 55; refine (H1.out.get_some HW.out page hp q1 q2 q3 q4 q5 HC.out).mono ?_; rintro e w2 ⟨rfl, hb2⟩;
    have s2 := hb2.size;
    simp only [World.size_alloc] at s2)
  have H2 := Lib.hid ((H1.out.stay hb2).stay ((Below.refl _ _).alloc (Nat.le_refl _) (.cells #[.bool q1, .bool q2, .bool q3, .bool q4, .int .i64 q5] 68)))
  have n2 := (hb2.block w.heap.size (by simp)).trans n0
  have hB2 : Below w.heap.size w w2 := ((Below.refl _ w).alloc (Nat.le_refl _) _).trans (hb2.mono (by simp))
  have sw2 : (w2.alloc (.cells #[.bool q1, .bool q2, .bool q3, .bool q4, .int .i64 q5] 68)).heap.size = w2.heap.size + 1 := by simp
  refine (way_any H2.out HW.out page hp).mono ?_
  rintro e w3 ⟨a, m, rfl, HWy, hb3⟩
  have hm : ¬ m < 4 := fun hm => by
    have := HWy.none_at HR.out.tr hm
    rw [HC.out] at this; cases this
  obtain rfl : m = 4 := by have := HWy.four; omega
  have HY := Lib.hid HWy
  have s3 := hb3.size
  rw [sw2] at s3
  go_wp2_with (go_at_call 84; refine (digits_any _ page hp).mono ?_; rintro e w5 ⟨rfl, hb5⟩)
  have sA : (w3.alloc (.cells #[.int .i64 (a 0), .int .i64 (a 1), .int .i64 (a 2), .int .i64 (a 3)] 47)).heap.size = w3.heap.size + 1 := by simp
  have s5 := hb5.size
  rw [sA] at s5
  obtain ⟨X, hX⟩ : ∃ X, w5.alloc (.cells #[.int .i64 (dig page 0), .int .i64 (dig page 1), .int .i64 (dig page 2), .int .i64 (dig page 3)] 47) = X := ⟨_, rfl⟩
  have hB3 : Below w.heap.size w w3 := (hB2.alloc (by omega) _).trans (hb3.mono (by rw [sw2]; omega))
  have hBX : Below w.heap.size w X := by rw [← hX]; exact ((hB3.alloc (by omega) _).trans (hb5.mono (by rw [sA]; omega))).alloc (by omega) _
  have sX : X.heap.size = w5.heap.size + 1 := by rw [← hX]; simp
  have carry : ∀ (b : Nat) (o : Obj), w3.heap[b]? = some o → X.heap[b]? = some o := by
    intro b o hbo
    have := (Array.getElem?_eq_some_iff.1 hbo).1
    rw [← hX]; exact (Below.heap_alloc _ _ _ (by omega)).trans ((hb5.block _ (by rw [sA]; omega)).trans ((Below.heap_alloc _ _ _ (by omega)).trans hbo))
  have nR : X.heap[w.heap.size]? = some (.cells #[.bool false, .bool false, .bool false, .bool false, .int .i64 0] 68 (0, 0)) := carry _ _ ((hb3.block _ (by rw [sw2]; omega)).trans ((Below.heap_alloc _ _ _ (by omega)).trans n2))
  have nS : X.heap[w2.heap.size]? = some (.cells #[.bool q1, .bool q2, .bool q3, .bool q4, .int .i64 q5] 68 (0, 0)) := carry _ _ ((hb3.block _ (by rw [sw2]; omega)).trans (heap_alloc_new _ _))
  have n8 : X.heap[w3.heap.size]? = some (.cells (rowN a) 47 (0, 0)) := by
    rw [← hX]; exact (Below.heap_alloc _ _ _ (by omega)).trans ((hb5.block _ (by rw [sA]; omega)).trans (heap_alloc_new _ _))
  have nD : X.heap[w5.heap.size]? = some (.cells (rowN (dig page)) 47 (0, 0)) := by rw [← hX]; exact heap_alloc_new _ _
  have HX : Hid (Rst w0 X t p bb hb n F root N C) := by
    rw [← hX]; exact Lib.hid ((((H2.out.stay hb3).stay ((Below.refl _ _).alloc (Nat.le_refl _) _)).stay hb5).stay ((Below.refl _ _).alloc (Nat.le_refl _) _))
  obtain ⟨BS, hS⟩ : ∃ B, w2.heap.size = B := ⟨_, rfl⟩
  obtain ⟨B8, h8⟩ : ∃ B, w3.heap.size = B := ⟨_, rfl⟩
  obtain ⟨BD, hD⟩ : ∃ B, w5.heap.size = B := ⟨_, rfl⟩
  have hsz : w.heap.size < BS ∧ BS < B8 ∧ B8 < BD ∧ BD < X.heap.size := by omega
  rw [hS] at nS ⊢
  rw [h8] at n8 ⊢
  rw [hD] at nD ⊢
  try rw [hX]
  clear hX sX sA s5 hb5 H1 H2 hB3 s3 s2 h8 hD hS carry n0 n2 hB2 sw2 hb3 hb2 hm HWy
  -- the page's own entry
  obtain ⟨F2, e2, e3, e4, e5⟩ := set_step HX.out.fit HX.out.tr (page := page) (HY.out.at_ 3 (by decide)) none (fun s h => by cases h)
  have HE2 := Lib.hid e2
  have hR2 : ∀ W, Tb w0 W t p bb hb F2 root (cnt N : Nat) → Rst w0 W t p bb hb n F2 root N (updC C page none) := fun W hT => ⟨hT, e3, e4, by rw [e5]; exact HX.out.fr, hn4⟩
  have HR2 := Lib.hid hR2
  clear e2 e3 e4 e5 hR2
  have hwz : IntKind.i64.wrap 3 = 3 := by decide
  have hwz2 : IntKind.i64.wrap (4 - 1) = 3 := by decide
  have hdl := dig_lt page 3
  have HTY := Lib.hid (HX.out.tb.drew)
  have ca := (cell_of_row X.drew _ 3 _ _ _ n8).trans (rowN_get a (by decide))
  have cd := (cell_of_row X.drew _ 3 _ _ _ nD).trans (rowN_get (dig page) (by decide))
  obtain ⟨Y, hY⟩ : ∃ Y, X.drew = Y := ⟨_, rfl⟩
  have hMY : Mods [t, p, bb, hb] w Y := by rw [← hY]; exact (Mods.of_below hBX).drew
  have nRY : Y.heap[w.heap.size]? = some (.cells #[.bool false, .bool false, .bool false, .bool false, .int .i64 0] 68 (0, 0)) := by rw [← hY]; exact nR
  have nSY : Y.heap[BS]? = some (.cells #[.bool q1, .bool q2, .bool q3, .bool q4, .int .i64 q5] 68 (0, 0)) := by rw [← hY]; exact nS
  have n8Y : Y.heap[B8]? = some (.cells (rowN a) 47 (0, 0)) := by rw [← hY]; exact n8
  have nDY : Y.heap[BD]? = some (.cells (rowN (dig page)) 47 (0, 0)) := by rw [← hY]; exact nD
  have sY : BD < Y.heap.size := by rw [← hY]; exact hsz.2.2.2
  rw [hY] at HTY ca cd
  go_wp2_with fail
  refine wp_region_still_tail 10 (by kernel_rfl) (by kernel_rfl) ?_
  simp only [List.take_succ_cons, List.take_zero, List.drop_succ_cons, List.drop_zero]
  change wpStill _ _ (World.drew _) (fun a' => wpList _ _ _ _ a' (World.drew _)) _ _
  rw [hY]
  repeat still_step
  try refine wpStill_nil ?_
  go_wp2_with (
    go_at_call 85; refine (put_is HTY.out HW.out (a 3) (dig page 3) hdl .zero _ rfl F2 HE2.out).mono ?_; rintro e w8 ⟨rfl, hT8, hm8⟩)
  have hnc : w.heap.size ∉ [p, bb, hb] ∧ B8 ∉ [p, bb, hb] ∧ BD ∉ [p, bb, hb] ∧ BS ∉ [p, bb, hb] := by simp; omega
  have nR8 := (hm8.block w.heap.size (by omega) hnc.1).trans nRY
  have nS8 := (hm8.block BS (by omega) hnc.2.2.2).trans nSY
  have n88 := (hm8.block B8 (by omega) hnc.2.1).trans n8Y
  have nD8 := (hm8.block BD (by omega) hnc.2.2.1).trans nDY
  have s8 := hm8.size
  have hR8 := Lib.hid (HR2.out w8 hT8)
  have hM8 : Mods [t, p, bb, hb] w w8 := hMY.trans (hm8.mono (fun k hk => by simp at hk ⊢; omega))
  clear ca cd nRY nSY n8Y nDY hMY hY HTY hm8 HE2 hT8 nR nS n8 nD hBX
  go_loopw [11] (fun i wr => ∃ (j : Nat) (F' : FP) (N' : Nat → Nat → Option Nat), j ≤ 3 ∧ i = .int .i64 j ∧ Hid (Rst w0 wr t p bb hb n F' root N' (updC C page none)) ∧ Hid (∀ l, l ≤ j → N' l (pre page l) = some (a l)) ∧ Hid (∀ l, j < l → l ≤ 3 → N' l (pre page l) = none) ∧ Hid (∀ l q, q ≠ pre page l → N' l q = N l q) ∧
      wr.heap[w.heap.size]? = some (.cells #[.bool false, .bool false, .bool false, .bool false, .int .i64 0] 68 (0, 0)) ∧ wr.heap[BS]? = some (.cells #[.bool q1, .bool q2, .bool q3, .bool q4, .int .i64 q5] 68 (0, 0)) ∧ wr.heap[B8]? = some (.cells (rowN a) 47 (0, 0)) ∧ wr.heap[BD]? = some (.cells (rowN (dig page)) 47 (0, 0)) ∧ Mods [t, p, bb, hb] w wr ∧ BD < wr.heap.size)
    (fun i _ => (intOf i).toNat)
  case atStart => exact ⟨3, F2, N, by omega, by go_num, hR8, Lib.hid (fun l hl => HY.out.at_ l (by omega)), Lib.hid (fun l h1 h2 => by omega), Lib.hid (fun _ _ _ => rfl), nR8, nS8, n88, nD8, hM8, by omega⟩
  case round =>
    clear nR8 nS8 n88 nD8 hR8 hM8 s8 sY hwz hwz2 hdl
    obtain ⟨j, F', N', hj, rfl, HRr, HA, HG, HO, nR, nS, n8, nD, hmods, hBDl⟩ := hrel
    have zr := hmods.size
    have hlw : t < wr.heap.size := HRr.out.tb.lt
    have hsz2 : w.heap.size < BS ∧ BS < B8 ∧ B8 < BD := ⟨hsz.1, hsz.2.1, hsz.2.2.1⟩
    obtain rfl | rfl | rfl | rfl : j = 0 ∨ j = 1 ∨ j = 2 ∨ j = 3 := by omega
    · clear hnc
      have z0 := (cell_of_row wr _ 0 _ _ _ nS)
      have z1 := (cell_of_row wr _ 1 _ _ _ nS)
      have z2 := (cell_of_row wr _ 2 _ _ _ nS)
      have z3 := (cell_of_row wr _ 3 _ _ _ nS)
      have z4 := (cell_of_row wr _ 4 _ _ _ nS)
      have y0 := (cell_of_row wr _ 0 _ _ _ nR)
      have y1 := (cell_of_row wr _ 1 _ _ _ nR)
      have y2 := (cell_of_row wr _ 2 _ _ _ nR)
      have y3 := (cell_of_row wr _ 3 _ _ _ nR)
      have y4 := (cell_of_row wr _ 4 _ _ _ nR)
      simp only [List.getElem?_toArray, List.getElem?_cons_zero, List.getElem?_cons_succ] at z0 z1 z2 z3 z4 y0 y1 y2 y3 y4
      have f0 := frozen_of_row wr _ 0 _ _ nR
      have f1 := frozen_of_row wr _ 1 _ _ nR
      have f2 := frozen_of_row wr _ 2 _ _ nR
      have f3 := frozen_of_row wr _ 3 _ _ nR
      have f4 := frozen_of_row wr _ 4 _ _ nR
      go_wp2_with fail
      have hg5 := set5_cells wr w.heap.size _ _ _ _ _ _ nR (.bool q1) (.bool q2) (.bool q3) (.bool q4) (.int .i64 q5)
      have hR5 := (HRr.out).set5 w.heap.size hb0 (by omega) (by simp; omega) (.bool q1) (.bool q2) (.bool q3) (.bool q4) (.int .i64 q5)
      have hM5 := mods_set5 (hmods) w.heap.size (Nat.le_refl _) (.bool q1) (.bool q2) (.bool q3) (.bool q4) (.int .i64 q5)
      change bodyPost _ _ _ _ _ (fiveAt wr w.heap.size (.bool q1) (.bool q2) (.bool q3) (.bool q4) (.int .i64 q5))
      generalize fiveAt wr w.heap.size (.bool q1) (.bool q2) (.bool q3) (.bool q4) (.int .i64 q5) = V5 at hg5 hR5 hM5 ⊢
      have g0 := (cell_of_row V5 _ 0 _ _ _ hg5)
      have g1 := (cell_of_row V5 _ 1 _ _ _ hg5)
      have g2 := (cell_of_row V5 _ 2 _ _ _ hg5)
      have g3 := (cell_of_row V5 _ 3 _ _ _ hg5)
      have g4 := (cell_of_row V5 _ 4 _ _ _ hg5)
      simp only [List.getElem?_toArray, List.getElem?_cons_zero, List.getElem?_cons_succ] at g0 g1 g2 g3 g4
      refine bodyPost_ret (by simp [results, Tryd.results54, go_sem, g0, g1, g2, g3, g4]; try rfl) rfl ?_
      exact ⟨rfl, hM5, _, _, hR5, tight_drop hR5.tr HTI.out (by decide) (HA.out 0 (by decide)) HG.out HO.out (.inl rfl)⟩
    · have hwz : IntKind.i64.wrap 0 = 0 := by decide
      have hwz2 : IntKind.i64.wrap (1 - 1) = 0 := by decide
      have ca := (cell_of_row wr _ 1 _ _ _ n8).trans (rowN_get a (by decide))
      cases hbr : bareB F' (a 1) with
      | false =>
        have HBR := Lib.hid hbr
        clear hbr
        go_upto_region 13 with (
          go_at_call 86; refine (bare_is HRr.out.tb HW.out (a 1) false HBR.out).mono ?_; rintro e w9 ⟨rfl, hb9⟩;
          have s9 := hb9.size)
        have nR9 := (hb9.block w.heap.size (by omega)).trans nR
        have nS9 := (hb9.block BS (by omega)).trans nS
        clear hnc ca
        have z0 := (cell_of_row w9 _ 0 _ _ _ nS9)
        have z1 := (cell_of_row w9 _ 1 _ _ _ nS9)
        have z2 := (cell_of_row w9 _ 2 _ _ _ nS9)
        have z3 := (cell_of_row w9 _ 3 _ _ _ nS9)
        have z4 := (cell_of_row w9 _ 4 _ _ _ nS9)
        have y0 := (cell_of_row w9 _ 0 _ _ _ nR9)
        have y1 := (cell_of_row w9 _ 1 _ _ _ nR9)
        have y2 := (cell_of_row w9 _ 2 _ _ _ nR9)
        have y3 := (cell_of_row w9 _ 3 _ _ _ nR9)
        have y4 := (cell_of_row w9 _ 4 _ _ _ nR9)
        simp only [List.getElem?_toArray, List.getElem?_cons_zero, List.getElem?_cons_succ] at z0 z1 z2 z3 z4 y0 y1 y2 y3 y4
        have f0 := frozen_of_row w9 _ 0 _ _ nR9
        have f1 := frozen_of_row w9 _ 1 _ _ nR9
        have f2 := frozen_of_row w9 _ 2 _ _ nR9
        have f3 := frozen_of_row w9 _ 3 _ _ nR9
        have f4 := frozen_of_row w9 _ 4 _ _ nR9
        go_wp2_with fail
        have hg5 := set5_cells w9 w.heap.size _ _ _ _ _ _ nR9 (.bool q1) (.bool q2) (.bool q3) (.bool q4) (.int .i64 q5)
        have hR5 := (HRr.out.stay hb9).set5 w.heap.size hb0 (by omega) (by simp; omega) (.bool q1) (.bool q2) (.bool q3) (.bool q4) (.int .i64 q5)
        have hM5 := mods_set5 (hmods.trans (Mods.of_below hb9)) w.heap.size (Nat.le_refl _) (.bool q1) (.bool q2) (.bool q3) (.bool q4) (.int .i64 q5)
        change bodyPost _ _ _ _ _ (fiveAt w9 w.heap.size (.bool q1) (.bool q2) (.bool q3) (.bool q4) (.int .i64 q5))
        generalize fiveAt w9 w.heap.size (.bool q1) (.bool q2) (.bool q3) (.bool q4) (.int .i64 q5) = V5 at hg5 hR5 hM5 ⊢
        have g0 := (cell_of_row V5 _ 0 _ _ _ hg5)
        have g1 := (cell_of_row V5 _ 1 _ _ _ hg5)
        have g2 := (cell_of_row V5 _ 2 _ _ _ hg5)
        have g3 := (cell_of_row V5 _ 3 _ _ _ hg5)
        have g4 := (cell_of_row V5 _ 4 _ _ _ hg5)
        simp only [List.getElem?_toArray, List.getElem?_cons_zero, List.getElem?_cons_succ] at g0 g1 g2 g3 g4
        refine bodyPost_ret (by simp [results, Tryd.results54, go_sem, g0, g1, g2, g3, g4]; try rfl) rfl ?_
        exact ⟨rfl, hM5, _, _, hR5, tight_drop hR5.tr HTI.out (by decide) (HA.out 1 (by decide)) HG.out HO.out (.inr (bareB_false HBR.out))⟩
      | true =>
        obtain ⟨F1, F2', p1, p2, p3, p4, p5, p6, p7⟩ := prune_step HRr.out.fit HRr.out.tr HRr.out.fr (l := 0) (by decide) hp (HA.out 0 (by decide)) (HA.out 1 (by decide)) hbr
        obtain ⟨kk, hkk⟩ : ∃ kk, cnt N' = kk := ⟨_, rfl⟩
        have hk4 : kk ≤ 4096 := by have := HRr.out.fr; omega
        have htb : Tb w0 wr t p bb hb F' root (kk : Int) := by rw [← hkk]; exact HRr.out.tb
        have HTB := Lib.hid htb
        have HP := Lib.hid (And.intro p1 (And.intro p2 (And.intro p3 (And.intro p4 (And.intro p5 (And.intro p6 p7))))))
        have HKK := Lib.hid hkk
        have HBR := Lib.hid hbr
        clear p1 p2 p3 p4 p5 p6 p7 htb hkk hbr
        have hdl := dig_lt page 0
        go_upto_region 10 with (
          go_at_call 86; refine (bare_is HTB.out HW.out (a 1) true HBR.out).mono ?_; rintro e w9 ⟨rfl, hb9⟩;
          have s9 := hb9.size)
        obtain ⟨Y9, hY9⟩ : ∃ Y, w9.drew = Y := ⟨_, rfl⟩
        have hM9 : Mods [t, p, bb, hb] w Y9 := by rw [← hY9]; exact (hmods.trans (Mods.of_below hb9)).drew
        have HT9 := Lib.hid ((HTB.out.stay hb9).drew)
        rw [hY9] at HT9
        have nR9 : Y9.heap[w.heap.size]? = some (.cells #[.bool false, .bool false, .bool false, .bool false, .int .i64 0] 68 (0, 0)) := by rw [← hY9]; exact (hb9.block w.heap.size (by omega)).trans nR
        have nS9 : Y9.heap[BS]? = some (.cells #[.bool q1, .bool q2, .bool q3, .bool q4, .int .i64 q5] 68 (0, 0)) := by rw [← hY9]; exact (hb9.block BS (by omega)).trans nS
        have n89 : Y9.heap[B8]? = some (.cells (rowN a) 47 (0, 0)) := by rw [← hY9]; exact (hb9.block B8 (by omega)).trans n8
        have nD9 : Y9.heap[BD]? = some (.cells (rowN (dig page)) 47 (0, 0)) := by rw [← hY9]; exact (hb9.block BD (by omega)).trans nD
        have sY9 : BD < Y9.heap.size := by rw [← hY9]; exact (show BD < w9.heap.size by omega)
        clear ca
        have ca := (cell_of_row Y9 _ 1 _ _ _ n89).trans (rowN_get a (by decide))
        have c0 := HT9.out.c0
        have hl9 := HT9.out.lt
        refine wp_region_still_tail 7 (by kernel_rfl) (by kernel_rfl) ?_
        simp only [List.take_succ_cons, List.take_zero, List.drop_succ_cons, List.drop_zero]
        change wpStill _ _ (World.drew _) (fun a' => wpList _ _ _ _ a' (World.drew _)) _ _
        rw [hY9]
        repeat still_step
        try refine wpStill_nil ?_
        clear ca c0
        go_wp2_with (
          go_at_call 29; refine (drop_is HT9.out (a 1) HRr.out.fit.few F1 HP.out.1 HP.out.2.1).mono ?_; rintro e w10 ⟨rfl, hT10, hm10⟩;
          have HT10 := Lib.hid hT10;
          have d0 := hT10.c0;
          have d2 := hT10.c2;
          have df := hT10.fr 2;
          have hl10 := hT10.lt;
          have s10 := hm10.size;
          clear hT10)
        obtain ⟨Y, hY⟩ : ∃ Y, (w10.setCell ⟨t, 2, none⟩ (.int .i64 ((kk : Int) - 1))).drew = Y := ⟨_, rfl⟩
        have HTY : Hid (Tb w0 Y t p bb hb F1 root ((kk : Int) - 1)) := by rw [← hY]; exact Lib.hid ((HT10.out.setk _).drew)
        have hMY : Mods [t, p, bb, hb] Y9 Y := by
          rw [← hY]
          exact ((hm10.mono (fun k hk => by simp at hk ⊢; omega)).setCell (p := ⟨t, 2, none⟩) (.inl (by simp)) _).drew
        have hnb : w.heap.size ∉ [t, p, bb, hb] ∧ B8 ∉ [t, p, bb, hb] ∧ BD ∉ [t, p, bb, hb] ∧ BS ∉ [t, p, bb, hb] := by simp; omega
        have nRY := (hMY.block w.heap.size (by omega) hnb.1).trans nR9
        have nSY := (hMY.block BS (by omega) hnb.2.2.2).trans nS9
        have n8Y := (hMY.block B8 (by omega) hnb.2.1).trans n89
        have nDY := (hMY.block BD (by omega) hnb.2.2.1).trans nD9
        have sY := hMY.size
        have ca := (cell_of_row Y _ 0 _ _ _ n8Y).trans (rowN_get a (by decide))
        have cd := (cell_of_row Y _ 0 _ _ _ nDY).trans (rowN_get (dig page) (by decide))
        refine wp_region_still_tail 10 (by kernel_rfl) (by kernel_rfl) ?_
        simp only [List.take_succ_cons, List.take_zero, List.drop_succ_cons, List.drop_zero]
        change wpStill _ _ (World.drew _) (fun a' => wpList _ _ _ _ a' (World.drew _)) _ _
        rw [hY]
        repeat still_step
        try refine wpStill_nil ?_
        go_wp2_with (
          go_at_call 85; refine (put_is HTY.out HW.out (a 0) (dig page 0) hdl .zero _ rfl F2' HP.out.2.2.1).mono ?_; rintro e w11 ⟨rfl, hT11, hm11⟩)
        go_roundw
        case rel =>
          obtain ⟨g1, g2, g3⟩ := prune_facts (i := 1) (by decide) HA.out HG.out HO.out
          obtain ⟨_, _, _, p4, p5, p6, p7⟩ := HP.out
          have s11 := hm11.size
          have k1 : ((kk : Int) - 1) = ((cnt (upd2 N' 1 (pre page 1) none) : Nat) : Int) := by
            have : cnt (upd2 N' 1 (pre page 1) none) + 1 = cnt N' := p7
            have := HKK.out
            omega
          have hR : Rst w0 w11 t p bb hb n F2' root (upd2 N' 1 (pre page 1) none) (updC C page none) := ⟨by rw [← k1]; exact hT11, p4, p5, p6, hn4⟩
          have b0 := (hm11.block w.heap.size (by omega) hnc.1).trans nRY
          have b1 := (hm11.block BS (by omega) hnc.2.2.2).trans nSY
          have b2 := (hm11.block B8 (by omega) hnc.2.1).trans n8Y
          have b3 := (hm11.block BD (by omega) hnc.2.2.1).trans nDY
          have b4 : Mods [t, p, bb, hb] w w11 := (hM9.trans hMY).trans (hm11.mono (fun k hk => by simp at hk ⊢; omega))
          exact ⟨0, F2', _, by omega, by go_num, Lib.hid hR, Lib.hid g1, Lib.hid g2, Lib.hid g3, b0, b1, b2, b3, b4, by omega⟩
        case measure => simp [intOf]
    · have hwz : IntKind.i64.wrap 1 = 1 := by decide
      have hwz2 : IntKind.i64.wrap (2 - 1) = 1 := by decide
      have ca := (cell_of_row wr _ 2 _ _ _ n8).trans (rowN_get a (by decide))
      cases hbr : bareB F' (a 2) with
      | false =>
        have HBR := Lib.hid hbr
        clear hbr
        go_upto_region 13 with (
          go_at_call 86; refine (bare_is HRr.out.tb HW.out (a 2) false HBR.out).mono ?_; rintro e w9 ⟨rfl, hb9⟩;
          have s9 := hb9.size)
        have nR9 := (hb9.block w.heap.size (by omega)).trans nR
        have nS9 := (hb9.block BS (by omega)).trans nS
        clear hnc ca
        have z0 := (cell_of_row w9 _ 0 _ _ _ nS9)
        have z1 := (cell_of_row w9 _ 1 _ _ _ nS9)
        have z2 := (cell_of_row w9 _ 2 _ _ _ nS9)
        have z3 := (cell_of_row w9 _ 3 _ _ _ nS9)
        have z4 := (cell_of_row w9 _ 4 _ _ _ nS9)
        have y0 := (cell_of_row w9 _ 0 _ _ _ nR9)
        have y1 := (cell_of_row w9 _ 1 _ _ _ nR9)
        have y2 := (cell_of_row w9 _ 2 _ _ _ nR9)
        have y3 := (cell_of_row w9 _ 3 _ _ _ nR9)
        have y4 := (cell_of_row w9 _ 4 _ _ _ nR9)
        simp only [List.getElem?_toArray, List.getElem?_cons_zero, List.getElem?_cons_succ] at z0 z1 z2 z3 z4 y0 y1 y2 y3 y4
        have f0 := frozen_of_row w9 _ 0 _ _ nR9
        have f1 := frozen_of_row w9 _ 1 _ _ nR9
        have f2 := frozen_of_row w9 _ 2 _ _ nR9
        have f3 := frozen_of_row w9 _ 3 _ _ nR9
        have f4 := frozen_of_row w9 _ 4 _ _ nR9
        go_wp2_with fail
        have hg5 := set5_cells w9 w.heap.size _ _ _ _ _ _ nR9 (.bool q1) (.bool q2) (.bool q3) (.bool q4) (.int .i64 q5)
        have hR5 := (HRr.out.stay hb9).set5 w.heap.size hb0 (by omega) (by simp; omega) (.bool q1) (.bool q2) (.bool q3) (.bool q4) (.int .i64 q5)
        have hM5 := mods_set5 (hmods.trans (Mods.of_below hb9)) w.heap.size (Nat.le_refl _) (.bool q1) (.bool q2) (.bool q3) (.bool q4) (.int .i64 q5)
        change bodyPost _ _ _ _ _ (fiveAt w9 w.heap.size (.bool q1) (.bool q2) (.bool q3) (.bool q4) (.int .i64 q5))
        generalize fiveAt w9 w.heap.size (.bool q1) (.bool q2) (.bool q3) (.bool q4) (.int .i64 q5) = V5 at hg5 hR5 hM5 ⊢
        have g0 := (cell_of_row V5 _ 0 _ _ _ hg5)
        have g1 := (cell_of_row V5 _ 1 _ _ _ hg5)
        have g2 := (cell_of_row V5 _ 2 _ _ _ hg5)
        have g3 := (cell_of_row V5 _ 3 _ _ _ hg5)
        have g4 := (cell_of_row V5 _ 4 _ _ _ hg5)
        simp only [List.getElem?_toArray, List.getElem?_cons_zero, List.getElem?_cons_succ] at g0 g1 g2 g3 g4
        refine bodyPost_ret (by simp [results, Tryd.results54, go_sem, g0, g1, g2, g3, g4]; try rfl) rfl ?_
        exact ⟨rfl, hM5, _, _, hR5, tight_drop hR5.tr HTI.out (by decide) (HA.out 2 (by decide)) HG.out HO.out (.inr (bareB_false HBR.out))⟩
      | true =>
        obtain ⟨F1, F2', p1, p2, p3, p4, p5, p6, p7⟩ := prune_step HRr.out.fit HRr.out.tr HRr.out.fr (l := 1) (by decide) hp (HA.out 1 (by decide)) (HA.out 2 (by decide)) hbr
        obtain ⟨kk, hkk⟩ : ∃ kk, cnt N' = kk := ⟨_, rfl⟩
        have hk4 : kk ≤ 4096 := by have := HRr.out.fr; omega
        have htb : Tb w0 wr t p bb hb F' root (kk : Int) := by rw [← hkk]; exact HRr.out.tb
        have HTB := Lib.hid htb
        have HP := Lib.hid (And.intro p1 (And.intro p2 (And.intro p3 (And.intro p4 (And.intro p5 (And.intro p6 p7))))))
        have HKK := Lib.hid hkk
        have HBR := Lib.hid hbr
        clear p1 p2 p3 p4 p5 p6 p7 htb hkk hbr
        have hdl := dig_lt page 1
        go_upto_region 10 with (
          go_at_call 86; refine (bare_is HTB.out HW.out (a 2) true HBR.out).mono ?_; rintro e w9 ⟨rfl, hb9⟩;
          have s9 := hb9.size)
        obtain ⟨Y9, hY9⟩ : ∃ Y, w9.drew = Y := ⟨_, rfl⟩
        have hM9 : Mods [t, p, bb, hb] w Y9 := by rw [← hY9]; exact (hmods.trans (Mods.of_below hb9)).drew
        have HT9 := Lib.hid ((HTB.out.stay hb9).drew)
        rw [hY9] at HT9
        have nR9 : Y9.heap[w.heap.size]? = some (.cells #[.bool false, .bool false, .bool false, .bool false, .int .i64 0] 68 (0, 0)) := by rw [← hY9]; exact (hb9.block w.heap.size (by omega)).trans nR
        have nS9 : Y9.heap[BS]? = some (.cells #[.bool q1, .bool q2, .bool q3, .bool q4, .int .i64 q5] 68 (0, 0)) := by rw [← hY9]; exact (hb9.block BS (by omega)).trans nS
        have n89 : Y9.heap[B8]? = some (.cells (rowN a) 47 (0, 0)) := by rw [← hY9]; exact (hb9.block B8 (by omega)).trans n8
        have nD9 : Y9.heap[BD]? = some (.cells (rowN (dig page)) 47 (0, 0)) := by rw [← hY9]; exact (hb9.block BD (by omega)).trans nD
        have sY9 : BD < Y9.heap.size := by rw [← hY9]; exact (show BD < w9.heap.size by omega)
        clear ca
        have ca := (cell_of_row Y9 _ 2 _ _ _ n89).trans (rowN_get a (by decide))
        have c0 := HT9.out.c0
        have hl9 := HT9.out.lt
        refine wp_region_still_tail 7 (by kernel_rfl) (by kernel_rfl) ?_
        simp only [List.take_succ_cons, List.take_zero, List.drop_succ_cons, List.drop_zero]
        change wpStill _ _ (World.drew _) (fun a' => wpList _ _ _ _ a' (World.drew _)) _ _
        rw [hY9]
        repeat still_step
        try refine wpStill_nil ?_
        clear ca c0
        go_wp2_with (
          go_at_call 29; refine (drop_is HT9.out (a 2) HRr.out.fit.few F1 HP.out.1 HP.out.2.1).mono ?_; rintro e w10 ⟨rfl, hT10, hm10⟩;
          have HT10 := Lib.hid hT10;
          have d0 := hT10.c0;
          have d2 := hT10.c2;
          have df := hT10.fr 2;
          have hl10 := hT10.lt;
          have s10 := hm10.size;
          clear hT10)
        obtain ⟨Y, hY⟩ : ∃ Y, (w10.setCell ⟨t, 2, none⟩ (.int .i64 ((kk : Int) - 1))).drew = Y := ⟨_, rfl⟩
        have HTY : Hid (Tb w0 Y t p bb hb F1 root ((kk : Int) - 1)) := by rw [← hY]; exact Lib.hid ((HT10.out.setk _).drew)
        have hMY : Mods [t, p, bb, hb] Y9 Y := by
          rw [← hY]
          exact ((hm10.mono (fun k hk => by simp at hk ⊢; omega)).setCell (p := ⟨t, 2, none⟩) (.inl (by simp)) _).drew
        have hnb : w.heap.size ∉ [t, p, bb, hb] ∧ B8 ∉ [t, p, bb, hb] ∧ BD ∉ [t, p, bb, hb] ∧ BS ∉ [t, p, bb, hb] := by simp; omega
        have nRY := (hMY.block w.heap.size (by omega) hnb.1).trans nR9
        have nSY := (hMY.block BS (by omega) hnb.2.2.2).trans nS9
        have n8Y := (hMY.block B8 (by omega) hnb.2.1).trans n89
        have nDY := (hMY.block BD (by omega) hnb.2.2.1).trans nD9
        have sY := hMY.size
        have ca := (cell_of_row Y _ 1 _ _ _ n8Y).trans (rowN_get a (by decide))
        have cd := (cell_of_row Y _ 1 _ _ _ nDY).trans (rowN_get (dig page) (by decide))
        refine wp_region_still_tail 10 (by kernel_rfl) (by kernel_rfl) ?_
        simp only [List.take_succ_cons, List.take_zero, List.drop_succ_cons, List.drop_zero]
        change wpStill _ _ (World.drew _) (fun a' => wpList _ _ _ _ a' (World.drew _)) _ _
        rw [hY]
        repeat still_step
        try refine wpStill_nil ?_
        go_wp2_with (
          go_at_call 85; refine (put_is HTY.out HW.out (a 1) (dig page 1) hdl .zero _ rfl F2' HP.out.2.2.1).mono ?_; rintro e w11 ⟨rfl, hT11, hm11⟩)
        go_roundw
        case rel =>
          obtain ⟨g1, g2, g3⟩ := prune_facts (i := 2) (by decide) HA.out HG.out HO.out
          obtain ⟨_, _, _, p4, p5, p6, p7⟩ := HP.out
          have s11 := hm11.size
          have k1 : ((kk : Int) - 1) = ((cnt (upd2 N' 2 (pre page 2) none) : Nat) : Int) := by
            have : cnt (upd2 N' 2 (pre page 2) none) + 1 = cnt N' := p7
            have := HKK.out
            omega
          have hR : Rst w0 w11 t p bb hb n F2' root (upd2 N' 2 (pre page 2) none) (updC C page none) := ⟨by rw [← k1]; exact hT11, p4, p5, p6, hn4⟩
          have b0 := (hm11.block w.heap.size (by omega) hnc.1).trans nRY
          have b1 := (hm11.block BS (by omega) hnc.2.2.2).trans nSY
          have b2 := (hm11.block B8 (by omega) hnc.2.1).trans n8Y
          have b3 := (hm11.block BD (by omega) hnc.2.2.1).trans nDY
          have b4 : Mods [t, p, bb, hb] w w11 := (hM9.trans hMY).trans (hm11.mono (fun k hk => by simp at hk ⊢; omega))
          exact ⟨1, F2', _, by omega, by go_num, Lib.hid hR, Lib.hid g1, Lib.hid g2, Lib.hid g3, b0, b1, b2, b3, b4, by omega⟩
        case measure => simp [intOf]
    · have hwz : IntKind.i64.wrap 2 = 2 := by decide
      have hwz2 : IntKind.i64.wrap (3 - 1) = 2 := by decide
      have ca := (cell_of_row wr _ 3 _ _ _ n8).trans (rowN_get a (by decide))
      cases hbr : bareB F' (a 3) with
      | false =>
        have HBR := Lib.hid hbr
        clear hbr
        go_upto_region 13 with (
          go_at_call 86; refine (bare_is HRr.out.tb HW.out (a 3) false HBR.out).mono ?_; rintro e w9 ⟨rfl, hb9⟩;
          have s9 := hb9.size)
        have nR9 := (hb9.block w.heap.size (by omega)).trans nR
        have nS9 := (hb9.block BS (by omega)).trans nS
        clear hnc ca
        have z0 := (cell_of_row w9 _ 0 _ _ _ nS9)
        have z1 := (cell_of_row w9 _ 1 _ _ _ nS9)
        have z2 := (cell_of_row w9 _ 2 _ _ _ nS9)
        have z3 := (cell_of_row w9 _ 3 _ _ _ nS9)
        have z4 := (cell_of_row w9 _ 4 _ _ _ nS9)
        have y0 := (cell_of_row w9 _ 0 _ _ _ nR9)
        have y1 := (cell_of_row w9 _ 1 _ _ _ nR9)
        have y2 := (cell_of_row w9 _ 2 _ _ _ nR9)
        have y3 := (cell_of_row w9 _ 3 _ _ _ nR9)
        have y4 := (cell_of_row w9 _ 4 _ _ _ nR9)
        simp only [List.getElem?_toArray, List.getElem?_cons_zero, List.getElem?_cons_succ] at z0 z1 z2 z3 z4 y0 y1 y2 y3 y4
        have f0 := frozen_of_row w9 _ 0 _ _ nR9
        have f1 := frozen_of_row w9 _ 1 _ _ nR9
        have f2 := frozen_of_row w9 _ 2 _ _ nR9
        have f3 := frozen_of_row w9 _ 3 _ _ nR9
        have f4 := frozen_of_row w9 _ 4 _ _ nR9
        go_wp2_with fail
        have hg5 := set5_cells w9 w.heap.size _ _ _ _ _ _ nR9 (.bool q1) (.bool q2) (.bool q3) (.bool q4) (.int .i64 q5)
        have hR5 := (HRr.out.stay hb9).set5 w.heap.size hb0 (by omega) (by simp; omega) (.bool q1) (.bool q2) (.bool q3) (.bool q4) (.int .i64 q5)
        have hM5 := mods_set5 (hmods.trans (Mods.of_below hb9)) w.heap.size (Nat.le_refl _) (.bool q1) (.bool q2) (.bool q3) (.bool q4) (.int .i64 q5)
        change bodyPost _ _ _ _ _ (fiveAt w9 w.heap.size (.bool q1) (.bool q2) (.bool q3) (.bool q4) (.int .i64 q5))
        generalize fiveAt w9 w.heap.size (.bool q1) (.bool q2) (.bool q3) (.bool q4) (.int .i64 q5) = V5 at hg5 hR5 hM5 ⊢
        have g0 := (cell_of_row V5 _ 0 _ _ _ hg5)
        have g1 := (cell_of_row V5 _ 1 _ _ _ hg5)
        have g2 := (cell_of_row V5 _ 2 _ _ _ hg5)
        have g3 := (cell_of_row V5 _ 3 _ _ _ hg5)
        have g4 := (cell_of_row V5 _ 4 _ _ _ hg5)
        simp only [List.getElem?_toArray, List.getElem?_cons_zero, List.getElem?_cons_succ] at g0 g1 g2 g3 g4
        refine bodyPost_ret (by simp [results, Tryd.results54, go_sem, g0, g1, g2, g3, g4]; try rfl) rfl ?_
        exact ⟨rfl, hM5, _, _, hR5, tight_drop hR5.tr HTI.out (by decide) (HA.out 3 (by decide)) HG.out HO.out (.inr (bareB_false HBR.out))⟩
      | true =>
        obtain ⟨F1, F2', p1, p2, p3, p4, p5, p6, p7⟩ := prune_step HRr.out.fit HRr.out.tr HRr.out.fr (l := 2) (by decide) hp (HA.out 2 (by decide)) (HA.out 3 (by decide)) hbr
        obtain ⟨kk, hkk⟩ : ∃ kk, cnt N' = kk := ⟨_, rfl⟩
        have hk4 : kk ≤ 4096 := by have := HRr.out.fr; omega
        have htb : Tb w0 wr t p bb hb F' root (kk : Int) := by rw [← hkk]; exact HRr.out.tb
        have HTB := Lib.hid htb
        have HP := Lib.hid (And.intro p1 (And.intro p2 (And.intro p3 (And.intro p4 (And.intro p5 (And.intro p6 p7))))))
        have HKK := Lib.hid hkk
        have HBR := Lib.hid hbr
        clear p1 p2 p3 p4 p5 p6 p7 htb hkk hbr
        have hdl := dig_lt page 2
        go_upto_region 10 with (
          go_at_call 86; refine (bare_is HTB.out HW.out (a 3) true HBR.out).mono ?_; rintro e w9 ⟨rfl, hb9⟩;
          have s9 := hb9.size)
        obtain ⟨Y9, hY9⟩ : ∃ Y, w9.drew = Y := ⟨_, rfl⟩
        have hM9 : Mods [t, p, bb, hb] w Y9 := by rw [← hY9]; exact (hmods.trans (Mods.of_below hb9)).drew
        have HT9 := Lib.hid ((HTB.out.stay hb9).drew)
        rw [hY9] at HT9
        have nR9 : Y9.heap[w.heap.size]? = some (.cells #[.bool false, .bool false, .bool false, .bool false, .int .i64 0] 68 (0, 0)) := by rw [← hY9]; exact (hb9.block w.heap.size (by omega)).trans nR
        have nS9 : Y9.heap[BS]? = some (.cells #[.bool q1, .bool q2, .bool q3, .bool q4, .int .i64 q5] 68 (0, 0)) := by rw [← hY9]; exact (hb9.block BS (by omega)).trans nS
        have n89 : Y9.heap[B8]? = some (.cells (rowN a) 47 (0, 0)) := by rw [← hY9]; exact (hb9.block B8 (by omega)).trans n8
        have nD9 : Y9.heap[BD]? = some (.cells (rowN (dig page)) 47 (0, 0)) := by rw [← hY9]; exact (hb9.block BD (by omega)).trans nD
        have sY9 : BD < Y9.heap.size := by rw [← hY9]; exact (show BD < w9.heap.size by omega)
        clear ca
        have ca := (cell_of_row Y9 _ 3 _ _ _ n89).trans (rowN_get a (by decide))
        have c0 := HT9.out.c0
        have hl9 := HT9.out.lt
        refine wp_region_still_tail 7 (by kernel_rfl) (by kernel_rfl) ?_
        simp only [List.take_succ_cons, List.take_zero, List.drop_succ_cons, List.drop_zero]
        change wpStill _ _ (World.drew _) (fun a' => wpList _ _ _ _ a' (World.drew _)) _ _
        rw [hY9]
        repeat still_step
        try refine wpStill_nil ?_
        clear ca c0
        go_wp2_with (
          go_at_call 29; refine (drop_is HT9.out (a 3) HRr.out.fit.few F1 HP.out.1 HP.out.2.1).mono ?_; rintro e w10 ⟨rfl, hT10, hm10⟩;
          have HT10 := Lib.hid hT10;
          have d0 := hT10.c0;
          have d2 := hT10.c2;
          have df := hT10.fr 2;
          have hl10 := hT10.lt;
          have s10 := hm10.size;
          clear hT10)
        obtain ⟨Y, hY⟩ : ∃ Y, (w10.setCell ⟨t, 2, none⟩ (.int .i64 ((kk : Int) - 1))).drew = Y := ⟨_, rfl⟩
        have HTY : Hid (Tb w0 Y t p bb hb F1 root ((kk : Int) - 1)) := by rw [← hY]; exact Lib.hid ((HT10.out.setk _).drew)
        have hMY : Mods [t, p, bb, hb] Y9 Y := by
          rw [← hY]
          exact ((hm10.mono (fun k hk => by simp at hk ⊢; omega)).setCell (p := ⟨t, 2, none⟩) (.inl (by simp)) _).drew
        have hnb : w.heap.size ∉ [t, p, bb, hb] ∧ B8 ∉ [t, p, bb, hb] ∧ BD ∉ [t, p, bb, hb] ∧ BS ∉ [t, p, bb, hb] := by simp; omega
        have nRY := (hMY.block w.heap.size (by omega) hnb.1).trans nR9
        have nSY := (hMY.block BS (by omega) hnb.2.2.2).trans nS9
        have n8Y := (hMY.block B8 (by omega) hnb.2.1).trans n89
        have nDY := (hMY.block BD (by omega) hnb.2.2.1).trans nD9
        have sY := hMY.size
        have ca := (cell_of_row Y _ 2 _ _ _ n8Y).trans (rowN_get a (by decide))
        have cd := (cell_of_row Y _ 2 _ _ _ nDY).trans (rowN_get (dig page) (by decide))
        refine wp_region_still_tail 10 (by kernel_rfl) (by kernel_rfl) ?_
        simp only [List.take_succ_cons, List.take_zero, List.drop_succ_cons, List.drop_zero]
        change wpStill _ _ (World.drew _) (fun a' => wpList _ _ _ _ a' (World.drew _)) _ _
        rw [hY]
        repeat still_step
        try refine wpStill_nil ?_
        go_wp2_with (
          go_at_call 85; refine (put_is HTY.out HW.out (a 2) (dig page 2) hdl .zero _ rfl F2' HP.out.2.2.1).mono ?_; rintro e w11 ⟨rfl, hT11, hm11⟩)
        go_roundw
        case rel =>
          obtain ⟨g1, g2, g3⟩ := prune_facts (i := 3) (by decide) HA.out HG.out HO.out
          obtain ⟨_, _, _, p4, p5, p6, p7⟩ := HP.out
          have s11 := hm11.size
          have k1 : ((kk : Int) - 1) = ((cnt (upd2 N' 3 (pre page 3) none) : Nat) : Int) := by
            have : cnt (upd2 N' 3 (pre page 3) none) + 1 = cnt N' := p7
            have := HKK.out
            omega
          have hR : Rst w0 w11 t p bb hb n F2' root (upd2 N' 3 (pre page 3) none) (updC C page none) := ⟨by rw [← k1]; exact hT11, p4, p5, p6, hn4⟩
          have b0 := (hm11.block w.heap.size (by omega) hnc.1).trans nRY
          have b1 := (hm11.block BS (by omega) hnc.2.2.2).trans nSY
          have b2 := (hm11.block B8 (by omega) hnc.2.1).trans n8Y
          have b3 := (hm11.block BD (by omega) hnc.2.2.1).trans nDY
          have b4 : Mods [t, p, bb, hb] w w11 := (hM9.trans hMY).trans (hm11.mono (fun k hk => by simp at hk ⊢; omega))
          exact ⟨2, F2', _, by omega, by go_num, Lib.hid hR, Lib.hid g1, Lib.hid g2, Lib.hid g3, b0, b1, b2, b3, b4, by omega⟩
        case measure => simp [intOf]
end
end Go.Proofs.YtacpfkimjaihgaaDoor
