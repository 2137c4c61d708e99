/- radix.Close: a table's frames are free. No conditions. -/
import Derived.StillTailTactics
import Derived.Test.YtacpfkimjaihgaaDoorRPages
namespace Go.Proofs.YtacpfkimjaihgaaDoor
open Go.RowKit
set_option linter.unusedVariables false

theorem spotL_len (l : List (Nat × Sl)) : (l.flatMap spotL).length = l.length * 6 := by
  induction l with
  | nil => rfl
  | cons x r ih => rw [List.flatMap_cons, List.length_append, ih, List.length_cons, Nat.succ_mul, Nat.add_comm]; rfl
theorem spotL_at (l : List (Nat × Sl)) (i : Nat) (x : Nat × Sl) (h : l[i]? = some x) (j : Nat) (hj : j < 6) : (l.flatMap spotL)[i * 6 + j]? = (spotL x)[j]? := by
  induction l generalizing i with
  | nil => simp at h
  | cons y r ih =>
    rw [List.flatMap_cons]
    have hl : (spotL y).length = 6 := rfl
    cases i with
    | zero =>
      simp only [List.getElem?_cons_zero, Option.some.injEq] at h
      subst h
      rw [Nat.zero_mul, Nat.zero_add, List.getElem?_append_left (by omega)]
    | succ i =>
      rw [List.getElem?_append_right (by omega), hl, show (i + 1) * 6 + j - 6 = i * 6 + j by omega]
      exact ih i (by simpa using h)
/-- A row of spots behind a slice. -/
structure SpAt (w : World) (base : Nat) (v : Value) (l : List (Nat × Sl)) (a : Option Addr) (c : Nat) : Prop where
  val : v = .slice a l.length c
  cap : l.length ≤ c
  at_ : ∀ i x, l[i]? = some x → ∃ g, a = some ⟨g, 0, none⟩ ∧ base ≤ g ∧ g < w.heap.size ∧ ∀ j u, (spotL x)[j]? = some u → w.cell? ⟨g, i * 6 + j, none⟩ = some u
theorem own_spots {w : World} {base : Nat} {v : Value} {l : List (Nat × Sl)} (h : w.ownsRow base 82 6 v l.length (l.flatMap spotL)) : ∃ a c, SpAt w base v l a c := by
  rcases h.2 with ⟨rfl, h0⟩ | ⟨g, cap, cur, rfl, hb, hg, hc, _, hs, ht⟩
  · refine ⟨none, 0, ⟨by rw [h0], by omega, fun i x hx => ?_⟩⟩
    have := (List.getElem?_eq_some_iff.1 hx).1
    omega
  · refine ⟨_, cap, ⟨rfl, hc, fun i x hx => ⟨g, rfl, hb, lt_of_block hg, fun j u hj => ?_⟩⟩⟩
    have hi := (List.getElem?_eq_some_iff.1 hx).1
    have hj6 : j < 6 := (List.getElem?_eq_some_iff.1 hj).1
    have h1 := spotL_at l i x hx j hj6
    rw [hj, ← ht, List.getElem?_take_of_lt (by omega)] at h1
    rw [cell_of_row w g (i * 6 + j) _ _ _ hg]
    simpa using h1
theorem SpAt.mods {w w' : World} {base : Nat} {v : Value} {l : List (Nat × Sl)} {a : Option Addr} {c : Nat} {S : List Nat} (h : SpAt w base v l a c) (hm : Mods S w w') (hS : ∀ k, k ∈ S → k < base) : SpAt w' base v l a c := by
  refine ⟨h.val, h.cap, fun i x hx => ?_⟩
  obtain ⟨g, h1, h2, h3, h4⟩ := h.at_ i x hx
  refine ⟨g, h1, h2, Nat.lt_of_lt_of_le h3 hm.size, fun j u hj => ?_⟩
  exact (World.cell?_of_block (w := w) (a := ⟨g, i * 6 + j, none⟩) (hm.block g h3 (fun hk => by have := hS g hk; omega))).trans (h4 j u hj)
theorem SpAt.below {w w' : World} {base : Nat} {v : Value} {l : List (Nat × Sl)} {a : Option Addr} {c : Nat} (h : SpAt w base v l a c) (hb : Below w.heap.size w w') : SpAt w' base v l a c :=
  h.mods (S := []) (Mods.of_below hb) (fun k hk => by simp at hk)
theorem SpAt.six {w : World} {base : Nat} {v : Value} {l : List (Nat × Sl)} {a : Option Addr} {c : Nat} (h : SpAt w base v l a c) (i : Nat) (x : Nat × Sl) (hx : l[i]? = some x) : ∃ g, a = some ⟨g, 0, none⟩ ∧ base ≤ g ∧ g < w.heap.size ∧
    w.cell? ⟨g, i * 6, none⟩ = some (.int .i64 x.1) ∧ w.cell? ⟨g, i * 6 + 1, none⟩ = some (.bool x.2.here) ∧ w.cell? ⟨g, i * 6 + 2, none⟩ = some (.bool x.2.write) ∧ w.cell? ⟨g, i * 6 + 3, none⟩ = some (.bool x.2.copy) ∧ w.cell? ⟨g, i * 6 + 4, none⟩ = some (.bool x.2.out) ∧ w.cell? ⟨g, i * 6 + 5, none⟩ = some (.int .i64 x.2.n) := by
  obtain ⟨g, h1, h2, h3, h4⟩ := h.at_ i x hx
  exact ⟨g, h1, h2, h3, h4 0 _ rfl, h4 1 _ rfl, h4 2 _ rfl, h4 3 _ rfl, h4 4 _ rfl, h4 5 _ rfl⟩

section
variable {w0 w w' : World} {t p bb hb n root : Nat} {F : FP} {N : Nat → Nat → Option Nat} {C : Nat → Option Sl} {k : Int}
theorem bare_cnt {E : Nat → Nat → Sl} {H : Nat → Prop} (tr : Tr E H N C root) (hti : Tight N C) (hC : ∀ x, x < 4096 → C x = none) : cnt N = 1 := by
  rw [cnt_of tr (fun _ _ => false) ?_]
  · decide +kernel
  · intro l q h1 h3
    cases hs : (N l q).isSome with
    | false => rfl
    | true =>
      obtain ⟨x, hx, hc⟩ := hti l q h1 hs
      obtain ⟨s, hs'⟩ := Option.ne_none_iff_exists'.1 hc
      obtain ⟨f, hf⟩ := tr.leaf_ne hs'
      have := (tr.small _ _ _ hf).2
      exact absurd (hC x (by omega)) hc

set_option maxRecDepth 100000 in
set_option maxHeartbeats 8000000 in
theorem Rst.close (h : Rst w0 w t p bb hb n F root N C) (hw : Wd w0) (hti : Tight N C) :
    Calls Tryd.prog 56 #[.pointer (some ⟨t, 0, none⟩)] w fun e w' => ∃ v a c F', e = .returned v ∧ SpAt w' w.heap.size v (pages C) a c ∧ Mods [t, p, bb, hb] w w' ∧
      w'.heap[t]? = some (.cells #[.pointer none, .int .i64 root, .int .i64 0] 102 (0, 0)) ∧ At w0 w' p bb hb F' ∧ frees F'.held = n := by
  have HR := Lib.hid h
  have HW := Lib.hid hw
  have HTI := Lib.hid hti
  have hts : t < w.heap.size ∧ p < w.heap.size ∧ bb < w.heap.size ∧ hb < w.heap.size := ⟨h.tb.lt, h.tb.lts.1, h.tb.lts.2.1, h.tb.lts.2.2⟩
  have hS : ∀ k, k ∈ [t, p, bb, hb] → k < w.heap.size := by simp; omega
  have HS := Lib.hid hS
  clear h hw hti hS
  go_enter Tryd.func56, Tryd.ntmps56
  go_wp2_with (
    go_at_call 49; refine (all_t HW.out HR.out.tr HR.out.tb).mono ?_; rintro e w1 ⟨v, rfl, ho, hb1⟩;
    obtain ⟨a, c, hsp⟩ := own_spots ho;
    obtain rfl := hsp.val;
    have HSP := Lib.hid hsp;
    have HR1 := Lib.hid (HR.out.stay hb1);
    clear hsp ho)
  have hlen := pgL_len C 0 4 0
  obtain ⟨Ln, hLn⟩ : ∃ Ln, (pgL C 0 4 0).length = Ln := ⟨_, rfl⟩
  rw [hLn] at HSP hlen ⊢
  have HLn := Lib.hid hLn
  clear hLn
  go_loopw [10] (fun i wr => ∃ (j : Nat) (F' : FP) (N' : Nat → Nat → Option Nat), j ≤ Ln ∧ i = .int .i64 j ∧ Hid (Rst w0 wr t p bb hb n F' root N' (cut C j)) ∧ Hid (Tight N' (cut C j)) ∧ Hid (Mods [t, p, bb, hb] w1 wr))
    (fun i _ => (Ln - intOf i).toNat)
  case atStart => exact ⟨0, F, N, by omega, rfl, Lib.hid (by rw [cut_zero]; exact HR1.out), Lib.hid (by rw [cut_zero]; exact HTI.out), Lib.hid (Mods.refl _ _)⟩
  case round =>
    obtain ⟨j, F', N', hj, rfl, HRr, HT, HM⟩ := hrel
    by_cases hj8 : j < Ln
    · obtain ⟨x, hx⟩ : ∃ x, (pages C)[j]? = some x := ⟨_, List.getElem?_eq_getElem (by rw [pages, HLn.out]; exact hj8)⟩
      obtain ⟨c1, c2, c3⟩ := cut_succ C j x hx
      obtain ⟨g, rfl, g1, g2, g3, g4, g5, g6, g7, g8⟩ := (HSP.out.mods HM.out HS.out).six j x hx
      obtain ⟨P, q1, q2, q3, q4, q5⟩ := x
      simp only at g3 g4 g5 g6 g7 g8 c1 c2 c3
      have HC := Lib.hid c2
      have HC1 := Lib.hid c1
      have hcap := HSP.out.cap
      rw [pages] at hx
      clear hx c1 c2
      go_wp2_with fail
      have HRa := Lib.hid (HRr.out.stay ((Below.refl _ wr).alloc (Nat.le_refl _) (.cells #[.int .i64 P, .bool q1, .bool q2, .bool q3, .bool q4, .int .i64 q5] 82)))
      refine (HRa.out.drop_some HW.out HT.out P c3 q1 q2 q3 q4 q5 HC.out).mono ?_
      rintro e w2 ⟨rfl, hm2, F2, N2, hR2, hT2⟩
      rw [HC1.out] at hR2 hT2
      have HR2 := Lib.hid hR2
      have HT2 := Lib.hid hT2
      have HM2 := Lib.hid (((HM.out.alloc (.cells #[.int .i64 P, .bool q1, .bool q2, .bool q3, .bool q4, .int .i64 q5] 82)).after hm2 (fun i hi => .inl hi)))
      clear hR2 hT2 hm2
      go_wp2_with fail
      go_roundw
      case rel => exact ⟨j + 1, F2, N2, by omega, by go_num, HR2, HT2, HM2⟩
      case measure => simp [intOf]; omega
    · obtain rfl : j = Ln := by omega
      have hz : ∀ x, x < 4096 → cut C j x = none := fun x hx => cut_all C j (by rw [pages, HLn.out]; exact Nat.le_refl _) x hx
      have hc1 := bare_cnt HRr.out.tr HT.out hz
      have hroot := HRr.out.tr.held _ _ _ HRr.out.tr.top
      obtain ⟨ha, F2, hF2, hfit2, _, _, hfr2⟩ := drop_fit HRr.out.fit hroot
      have hfr := HRr.out.fr
      have HFR := Lib.hid (show frees F2.held = n by omega)
      have c0 := HRr.out.tb.c0
      have c0d := HRr.out.tb.drew.c0
      have c1d := HRr.out.tb.drew.c1
      have htl := HRr.out.tb.lt
      have HTd := Lib.hid HRr.out.tb.drew
      have HFew := Lib.hid HRr.out.fit.few
      obtain ⟨Y, hY⟩ : ∃ Y, wr.drew = Y := ⟨_, rfl⟩
      have HMY := Lib.hid (show Mods [t, p, bb, hb] w1 Y by rw [← hY]; exact HM.out.drew)
      rw [hY] at c0d c1d HTd
      clear hz hc1 hroot hfit2 hfr2 hfr
      go_wp2_with fail
      refine wp_region_still_tail 8 (by kernel_rfl) (by kernel_rfl) ?_
      simp only [List.take_succ_cons, List.take_zero, List.drop_succ_cons, List.drop_zero]
      change wpStill _ _ (World.drew _) (fun a' => wpList _ _ _ _ a' (World.drew _)) _ _
      rw [hY]
      repeat still_step
      try refine wpStill_nil ?_
      go_wp2_with (
        go_at_call 29; refine (HTd.out.drop (root : Int) HFew.out).mono ?_; rintro e w8 ⟨rfl, hT8, hm8⟩;
        rw [hF2] at hT8;
        have c08 := hT8.c0; have c28 := hT8.c2; have f08 := hT8.fr; have l8 := hT8.lt)
      have hM9 : Mods [t, p, bb, hb] w1 ((w8.setCell ⟨t, 0, none⟩ (.pointer none)).setCell ⟨t, 2, none⟩ (.int .i64 0)) := ((HMY.out.after hm8 (fun i hi => .inl (by simp at hi ⊢; omega))).setCell (p := ⟨t, 0, none⟩) (.inl (by simp)) _).setCell (p := ⟨t, 2, none⟩) (.inl (by simp)) _
      have hMt : Mods [t] w8 ((w8.setCell ⟨t, 0, none⟩ (.pointer none)).setCell ⟨t, 2, none⟩ (.int .i64 0)) := ((Mods.refl _ _).setCell (p := ⟨t, 0, none⟩) (.inl (by simp)) _).setCell (p := ⟨t, 2, none⟩) (.inl (by simp)) _
      have htp := hT8.tp
      simp at htp
      go_ret
      refine ⟨_, a, c, F2, rfl, ?_, (Mods.of_below hb1).trans hM9, ?_, ⟨hT8.at_.pool.mods hMt (by simp; omega) (by simp; omega) (by simp; omega), (hT8.at_.below.setCell (p := ⟨t, 0, none⟩) hT8.ht _).setCell (p := ⟨t, 2, none⟩) hT8.ht _, hT8.at_.hp, hT8.at_.hbb, hT8.at_.hhb⟩, HFR.out⟩
      · have := HSP.out.mods hM9 HS.out
        exact ⟨by rw [pages, HLn.out]; rfl, this.cap, this.at_⟩
      · rw [heap_setCell_same _ t 2 _ _ _ (heap_setCell_same w8 t 0 _ _ _ hT8.tab)]
        rfl
end
end Go.Proofs.YtacpfkimjaihgaaDoor
