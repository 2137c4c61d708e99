/- radix: Set. No conditions. -/
import Derived.Test.YtacpfkimjaihgaaDoorRStep
import Derived.StillTailTactics
namespace Go.Proofs.YtacpfkimjaihgaaDoor
open Go.RowKit
set_option linter.unusedVariables false

theorem mods_cell {S : List Nat} {w w' : World} (h : Mods S w w') {p : Addr} (hp : p.block < w.heap.size) (hn : p.block ∉ S) : w'.cell? p = w.cell? p := World.cell?_of_block (h.block _ hp hn)

section
variable {w0 w : World} {t p bb hb n root : Nat} {F : FP} {N : Nat → Nat → Option Nat} {C : Nat → Option Sl} {k : Int}
theorem Rst.stay {w' : World} (h : Rst w0 w t p bb hb n F root N C) (hb' : Below w.heap.size w w') : Rst w0 w' t p bb hb n F root N C := ⟨h.tb.stay hb', h.fit, h.tr, h.fr, h.n4⟩

theorem set_range (w : World) (t : Nat) (page : Int) (hp : page < 0 ∨ 4096 ≤ page) (s : Sl) : Calls Tryd.prog 50 #[.pointer (some ⟨t, 0, none⟩), .int .i64 page, s.enc] w fun e w' => e = .returned (.int .i64 14) ∧ Below w.heap.size w w' := by
  obtain ⟨q1, q2, q3, q4, q5⟩ := s
  simp only [Sl.enc]
  go_enter Tryd.func50, Tryd.ntmps50
  go_wp2_with (go_at_call 82; refine (asked_range _ t page hp).mono ?_; rintro e w1 ⟨rfl, rfl⟩)
  go_ret
  exact ⟨rfl, (Below.refl _ _).alloc (Nat.le_refl _) _⟩
theorem set_closed (w : World) (t : Nat) (page : Int) (h2 : 0 ≤ page) (h1 : page < 4096) (c0 : w.cell? ⟨t, 0, none⟩ = some (.pointer none)) (hlt : t < w.heap.size) (s : Sl) : Calls Tryd.prog 50 #[.pointer (some ⟨t, 0, none⟩), .int .i64 page, s.enc] w fun e w' => e = .returned (.int .i64 13) ∧ Below w.heap.size w w' := by
  obtain ⟨q1, q2, q3, q4, q5⟩ := s
  simp only [Sl.enc]
  have c1 := ((Below.refl _ w).alloc (Nat.le_refl _) (.cells #[.bool q1, .bool q2, .bool q3, .bool q4, .int .i64 q5] 68)).cell (p := ⟨t, 0, none⟩) hlt
  rw [c0] at c1
  go_enter Tryd.func50, Tryd.ntmps50
  go_wp2_with (go_at_call 82; refine (asked_closed _ t page h2 h1 c1).mono ?_; rintro e w1 ⟨rfl, rfl⟩)
  go_ret
  exact ⟨rfl, (Below.refl _ _).alloc (Nat.le_refl _) _⟩

set_option maxHeartbeats 2000000 in
theorem Rst.set_arg (h : Rst w0 w t p bb hb n F root N C) (page : Nat) (hp : page < 4096) (s : Sl) (hs : may s = false) :
    Calls Tryd.prog 50 #[.pointer (some ⟨t, 0, none⟩), .int .i64 page, s.enc] w fun e w' => e = .returned (.int .i64 1) ∧ Below w.heap.size w w' := by
  have H1 := Lib.hid (h.tb.alloc (.cells #[.bool s.here, .bool s.write, .bool s.copy, .bool s.out, .int .i64 s.n] 68))
  obtain ⟨q1, q2, q3, q4, q5⟩ := s
  simp only [Sl.enc] at H1 ⊢
  clear h
  go_enter Tryd.func50, Tryd.ntmps50
  go_wp2_with (first
    | (go_at_call 82; refine (asked_ok_t H1.out page (by omega) (by omega)).mono ?_; rintro e w1 ⟨rfl, rfl⟩)
    | (go_at_call 79; refine (may_is _ ⟨q1, q2, q3, q4, q5⟩ _ rfl false hs).mono ?_; rintro e w2 ⟨rfl, hb2⟩))
  go_ret
  exact ⟨rfl, ((Below.refl _ _).alloc (Nat.le_refl _) _).trans (hb2.mono (by simp))⟩

theorem grow_facts {E : Nat → Nat → Sl} {H : Nat → Prop} {N' : Nat → Nat → Option Nat} (tr : Tr E H N' C root) {page j f : Nat} {a' : Nat → Nat} (hj : j < 4) (HE : N' j (pre page j) = none) (HA : ∀ i, i < j → N' i (pre page i) = some (a' i))
    (HC : ∀ l q, (N' l q).isSome = true ↔ (N l q).isSome = true ∨ (l < j ∧ q = pre page l)) :
    (∀ i, i < j + 1 → upd2 N' j (pre page j) (some f) i (pre page i) = some (upA a' j f i)) ∧ (j + 1 < 4 → upd2 N' j (pre page j) (some f) (j + 1) (pre page (j + 1)) = none) ∧
    (∀ l q, (upd2 N' j (pre page j) (some f) l q).isSome = true ↔ (N l q).isSome = true ∨ (l < j + 1 ∧ q = pre page l)) := by
  refine ⟨fun i hi => ?_, fun h => ?_, fun l q => ?_⟩
  · by_cases e : i = j
    · subst e
      rw [upd2_at, upA_at]
    · rw [upd2_ne _ _ (fun x => e x.1), upA_lt _ _ _ (by omega)]
      exact HA i (by omega)
  · rw [upd2_ne _ _ (by omega)]
    have := tr.none_in j (pre page j) (by omega) HE (dig page j) (dig_lt _ _)
    rw [pre_dig (by omega)] at this
    exact this
  · unfold upd2
    by_cases e : l = j ∧ q = pre page j
    · rw [if_pos e]
      simp [e.1, e.2]
    · rw [if_neg e, HC]
      constructor
      · rintro (h | h)
        · exact .inl h
        · exact .inr ⟨by omega, h.2⟩
      · rintro (h | h)
        · exact .inl h
        · refine .inr ⟨?_, h.2⟩
          rcases Nat.lt_or_ge l j with h1 | h1
          · exact h1
          · have : l = j := by omega
            subst this
            exact absurd ⟨rfl, h.2⟩ e
theorem take_is (h : Tb w0 w t p bb hb F root k) (f : Int) (F1 : FP) (hF : F.take = (f, 0, F1)) : Calls Tryd.prog 19 #[.pointer (some ⟨p, 0, none⟩)] w fun e w' => e = .returned (.tuple #[.int .i64 f, .int .i64 0]) ∧ Tb w0 w' t p bb hb F1 root k ∧ Mods [p, bb, hb] w w' := by
  have := h.take
  rw [hF] at this
  exact this
theorem put_is (h : Tb w0 w t p bb hb F root k) (hw : Wd w0) (f i : Nat) (hi : i < 8) (s : Sl) (v : Value) (hv : s.enc = v) (F' : FP) (hF : F.store f ((i * 8 : Nat) : Int) 4 (packS s) = F') :
    Calls Tryd.prog 85 #[.pointer (some ⟨t, 0, none⟩), .int .i64 f, .int .i64 i, v] w fun e w' => e = .returned (.tuple #[]) ∧ Tb w0 w' t p bb hb F' root k ∧ Mods [p, bb, hb] w w' := by
  subst hv
  exact h.put hw f i hi s F' hF

set_option maxRecDepth 100000 in
set_option maxHeartbeats 8000000 in
theorem Rst.set_ok (h : Rst w0 w t p bb hb n F root N C) (hw : Wd w0) (page : Nat) (hp : page < 4096) (s : Sl) (hs : may s = true) :
    Calls Tryd.prog 50 #[.pointer (some ⟨t, 0, none⟩), .int .i64 page, s.enc] w fun e w' => ∃ (a : Nat → Nat) (m : Nat), Way N page a m ∧
      ((frees F.held < 4 - m ∧ e = .returned (.int .i64 18) ∧ Below w.heap.size w w') ∨
       (4 - m ≤ frees F.held ∧ e = .returned (.int .i64 0) ∧ Mods [t, p, bb, hb] w w' ∧ ∃ F' N', Rst w0 w' t p bb hb n F' root N' (updC C page (some s)) ∧ cnt N' = cnt N + (4 - m) ∧ ∀ l q, (N' l q).isSome = true ↔ (N l q).isSome = true ∨ (l ≤ 3 ∧ q = pre page l))) := by
  have HR := Lib.hid h
  have HW := Lib.hid hw
  have hlt := h.tb.lt
  have htw := h.tb.ht
  obtain ⟨q1, q2, q3, q4, q5⟩ := s
  simp only [Sl.enc]
  obtain ⟨W, hW⟩ : ∃ W, w.alloc (.cells #[.bool q1, .bool q2, .bool q3, .bool q4, .int .i64 q5] 68) = W := ⟨_, rfl⟩
  have hB1 : Below w.heap.size w W := by rw [← hW]; exact (Below.refl _ w).alloc (Nat.le_refl _) _
  have nS : W.heap[w.heap.size]? = some (.cells #[.bool q1, .bool q2, .bool q3, .bool q4, .int .i64 q5] 68 (0, 0)) := by rw [← hW]; exact heap_alloc_new _ _
  have H1 : Hid (Rst w0 W t p bb hb n F root N C) := Lib.hid (h.stay hB1)
  have sW : W.heap.size = w.heap.size + 1 := by rw [← hW]; simp
  have z0 := (cell_of_row W _ 0 _ _ _ nS)
  have z1 := (cell_of_row W _ 1 _ _ _ nS)
  have z2 := (cell_of_row W _ 2 _ _ _ nS)
  have z3 := (cell_of_row W _ 3 _ _ _ nS)
  have z4 := (cell_of_row W _ 4 _ _ _ nS)
  simp only [List.getElem?_toArray, List.getElem?_cons_zero, List.getElem?_cons_succ] at z0 z1 z2 z3 z4
  clear h hw
  go_enter Tryd.func50, Tryd.ntmps50
  go_wp2_with (first
    | (go_at_call 82; refine (asked_ok_t H1.out.tb page (by omega) (by omega)).mono ?_; rintro e w1 ⟨rfl, rfl⟩)
    | (
      go_at_call 79; refine (may_is _ ⟨q1, q2, q3, q4, q5⟩ _ rfl true hs).mono ?_; rintro e w2 ⟨rfl, hb2⟩;
      have s2 := hb2.size;
      have H2 := Lib.hid (H1.out.stay hb2);
      have hB2 : Below w.heap.size w w2 := hB1.trans (hb2.mono (by omega));
      have nS2 := (hb2.block w.heap.size (by omega)).trans nS))
  clear hW nS H1 hB1 hb2 z0 z1 z2 z3 z4
  refine (way_any H2.out HW.out page hp).mono ?_
  rintro e w3 ⟨a, m, rfl, HWy, hb3⟩
  have s3 := hb3.size
  have nS3 := (hb3.block w.heap.size (by omega)).trans nS2
  have hB3 : Below w.heap.size w w3 := hB2.trans (hb3.mono (by omega))
  have H3 := Lib.hid ((H2.out.stay hb3).stay ((Below.refl _ _).alloc (Nat.le_refl _) (.cells #[.int .i64 (a 0), .int .i64 (a 1), .int .i64 (a 2), .int .i64 (a 3)] 47)))
  have hm1 := HWy.one
  have hm4 := HWy.four
  have HY := Lib.hid HWy
  clear HWy hb3 nS2 H2 hB2
  have c0 := H3.out.tb.c0
  have hlt3 : t < (w3.alloc (.cells #[.int .i64 (a 0), .int .i64 (a 1), .int .i64 (a 2), .int .i64 (a 3)] 47)).heap.size := H3.out.tb.lt
  by_cases hfull : frees F.held < 4 - m
  · have hgt : ((frees F.held : Nat) : Int) < 4 - (m : Int) := by omega
    go_wp2_with (go_at_call 31; refine (H3.out.tb.at_.free).mono ?_; rintro e w4 ⟨rfl, rfl⟩)
    go_ret
    exact ⟨a, m, HY.out, .inl ⟨hfull, rfl, hB3.alloc (by omega) _⟩⟩
  · have hgt : ¬ ((frees F.held : Nat) : Int) < 4 - (m : Int) := by omega
    go_wp2_with (first
      | (go_at_call 31; refine (H3.out.tb.at_.free).mono ?_; rintro e w4 ⟨rfl, rfl⟩)
      | (go_at_call 84; refine (digits_any _ page hp).mono ?_; rintro e w5 ⟨rfl, hb5⟩))
    have hl3 := H3.out.tb.lts
    have sA : (w3.alloc (.cells #[.int .i64 (a 0), .int .i64 (a 1), .int .i64 (a 2), .int .i64 (a 3)] 47)).heap.size = w3.heap.size + 1 := by simp
    have s5 := hb5.size
    rw [sA] at s5
    obtain ⟨X, hX⟩ : ∃ X, w5.alloc (.cells #[.int .i64 (dig page 0), .int .i64 (dig page 1), .int .i64 (dig page 2), .int .i64 (dig page 3)] 47) = X := ⟨_, rfl⟩
    have hBX : Below w.heap.size w X := by rw [← hX]; exact ((hB3.alloc (by omega) _).trans (hb5.mono (by rw [sA]; omega))).alloc (by omega) _
    have sX : X.heap.size = w5.heap.size + 1 := by rw [← hX]; simp
    have nS : X.heap[w.heap.size]? = some (.cells #[.bool q1, .bool q2, .bool q3, .bool q4, .int .i64 q5] 68 (0, 0)) := by
      rw [← hX]; exact (Below.heap_alloc _ _ _ (by omega)).trans ((hb5.block _ (by rw [sA]; omega)).trans ((Below.heap_alloc _ _ _ (by omega)).trans nS3))
    have n8 : X.heap[w3.heap.size]? = some (.cells (rowN a) 47 (0, 0)) := by
      rw [← hX]; exact (Below.heap_alloc _ _ _ (by omega)).trans ((hb5.block _ (by rw [sA]; omega)).trans (heap_alloc_new _ _))
    have nD : X.heap[w5.heap.size]? = some (.cells (rowN (dig page)) 47 (0, 0)) := by rw [← hX]; exact heap_alloc_new _ _
    have HX : Hid (Rst w0 X t p bb hb n F root N C) := by
      rw [← hX]; exact Lib.hid ((H3.out.stay hb5).stay ((Below.refl _ _).alloc (Nat.le_refl _) _))
    have hts : t < w.heap.size ∧ p < w.heap.size ∧ bb < w.heap.size ∧ hb < w.heap.size := ⟨hlt, HR.out.tb.lts.1, HR.out.tb.lts.2.1, HR.out.tb.lts.2.2⟩
    obtain ⟨B8, h8⟩ : ∃ B, w3.heap.size = B := ⟨_, rfl⟩
    obtain ⟨BD, hD⟩ : ∃ B, w5.heap.size = B := ⟨_, rfl⟩
    have hb0 := HR.out.tb.at_.below.size
    have hsz : w.heap.size < B8 ∧ B8 < BD ∧ BD < X.heap.size := by omega
    rw [h8] at n8 ⊢
    rw [hD] at nD ⊢
    try rw [hX]
    have HFr := Lib.hid HR.out.fr
    have hn4 := HR.out.n4
    clear hX sX sA s5 hb5 H3 c0 hlt3 hB3 nS3 s3 s2 sW hgt hl3 h8 hD
    go_loopw [9] (fun i wr => ∃ (j : Nat) (F' : FP) (N' : Nat → Nat → Option Nat) (a' : Nat → Nat), m ≤ j ∧ j ≤ 4 ∧ i = .int .i64 j ∧ Hid (Rst w0 wr t p bb hb n F' root N' C) ∧ Hid (∀ i, i < j → N' i (pre page i) = some (a' i)) ∧ Hid (j < 4 → N' j (pre page j) = none) ∧
        Hid (cnt N' = cnt N + (j - m)) ∧ Hid (4 - j ≤ frees F'.held) ∧ Hid (∀ l q, (N' l q).isSome = true ↔ (N l q).isSome = true ∨ (l < j ∧ q = pre page l)) ∧
        wr.heap[w.heap.size]? = some (.cells #[.bool q1, .bool q2, .bool q3, .bool q4, .int .i64 q5] 68 (0, 0)) ∧ wr.heap[B8]? = some (.cells (rowN a') 47 (0, 0)) ∧ wr.heap[BD]? = some (.cells (rowN (dig page)) 47 (0, 0)) ∧ Mods [t, p, bb, hb] w wr ∧ BD < wr.heap.size)
      (fun i _ => (4 - intOf i).toNat)
    case atStart =>
      refine ⟨m, F, N, a, Nat.le_refl _, hm4, rfl, HX, Lib.hid HY.out.at_, Lib.hid HY.out.end_, Lib.hid (by omega), Lib.hid (by omega), Lib.hid ?_, nS, n8, nD, Mods.of_below hBX, hsz.2.2⟩
      intro l q
      constructor
      · exact .inl
      · rintro (h | ⟨h1, rfl⟩)
        · exact h
        · rw [HY.out.at_ l h1]; rfl
    case round =>
      clear nS n8 nD HX hBX
      obtain ⟨j, F', N', a', hj1, hj2, rfl, HRr, HA, HE, HCn, HFx, HCh, nS, n8, nD, hmods, hBDl⟩ := hrel
      have zr := hmods.size
      have hlw : t < wr.heap.size := HRr.out.tb.lt
      have hsz2 : w.heap.size < B8 ∧ B8 < BD := ⟨hsz.1, hsz.2.1⟩
      by_cases hlt4 : j < 4
      · obtain rfl | rfl | rfl : j = 1 ∨ j = 2 ∨ j = 3 := by omega
        · have hlt4 : 1 < 4 := by decide
          obtain ⟨f, F1, F2, e1, e2, e3, e4, e5, e6, e7⟩ := grow_step HRr.out.fit HRr.out.tr HRr.out.fr HRr.out.n4 (l := 0) (by decide) hp (HA.out 0 (by decide)) (HE.out hlt4) (by have := HFx.out; omega)
          have c0 := HRr.out.tb.c0
          obtain ⟨kk, hkk⟩ : ∃ kk, cnt N' = kk := ⟨_, rfl⟩
          have hk4 : kk ≤ 4096 := by have := HRr.out.fr; omega
          have htb : Tb w0 wr t p bb hb F' root (kk : Int) := by rw [← hkk]; exact HRr.out.tb
          have HTB := Lib.hid htb
          have HG := Lib.hid (And.intro e3 (And.intro e4 (And.intro e5 (And.intro e6 e7))))
          have HE2 := Lib.hid e2
          have hfb : f ≤ 4096 := by
            have := (e4.held (0 + 1) (pre page (0 + 1)) f (upd2_at _ _ _ _)).get
            obtain ⟨h1, _⟩ := this
            have := e3.held
            omega
          have HE1 := Lib.hid e1
          have HKK := Lib.hid hkk
          clear e1 e2 e3 e4 e5 e6 e7 htb hkk
          have hdl := dig_lt page 0
          have hwz : IntKind.i64.wrap 0 = 0 := by decide
          have hwz2 : IntKind.i64.wrap (1 - 1) = 0 := by decide
          go_wp2_with (
            go_at_call 19; refine (take_is HTB.out (f : Int) F1 HE1.out).mono ?_; rintro e w6 ⟨rfl, hT6, hm6⟩;
            have HT6 := Lib.hid hT6;
            have d0 := hT6.c0;
            have d2 := hT6.c2;
            have df := hT6.fr 2;
            have hl6 := hT6.lt;
            have s6 := hm6.size;
            clear hT6)
          obtain ⟨Y, hY⟩ : ∃ Y, (w6.setCell ⟨t, 2, none⟩ (.int .i64 ((kk : Int) + 1))).drew = Y := ⟨_, rfl⟩
          have HTY : Hid (Tb w0 Y t p bb hb F1 root ((kk : Int) + 1)) := by rw [← hY]; exact Lib.hid ((HT6.out.setk _).drew)
          have hMY : Mods [t, p, bb, hb] wr Y := by
            rw [← hY]
            exact ((hm6.mono (fun k hk => by simp at hk ⊢; omega)).setCell (p := ⟨t, 2, none⟩) (.inl (by simp)) _).drew
          have hnb : w.heap.size ∉ [t, p, bb, hb] ∧ B8 ∉ [t, p, bb, hb] ∧ BD ∉ [t, p, bb, hb] := by simp; omega
          have nSY := (hMY.block w.heap.size (by omega) hnb.1).trans nS
          have n8Y := (hMY.block B8 (by omega) hnb.2.1).trans n8
          have nDY := (hMY.block BD (by omega) hnb.2.2).trans nD
          have sY := hMY.size
          have ca := (cell_of_row Y _ 0 _ _ _ n8Y).trans (rowN_get a' (by decide))
          have cd := (cell_of_row Y _ 0 _ _ _ nDY).trans (rowN_get (dig page) (by decide))
          refine wp_region_still_tail 11 (by kernel_rfl) (by kernel_rfl) ?_
          simp only [List.take_succ_cons, List.take_zero, List.drop_succ_cons, List.drop_zero]
          change wpStill _ _ (World.drew _) (fun a' => wpList _ _ _ _ a' (World.drew _)) _ _
          rw [hY]
          repeat still_step
          try refine wpStill_nil ?_
          go_wp2_with (
            go_at_call 85; refine (put_is HTY.out HW.out (a' 0) (dig page 0) hdl (.node f) _ rfl F2 HE2.out).mono ?_; rintro e w8 ⟨rfl, hT8, hm8⟩;
            have HT8 := Lib.hid hT8;
            have s8 := hm8.size;
            have hnc : w.heap.size ∉ [p, bb, hb] ∧ B8 ∉ [p, bb, hb] ∧ BD ∉ [p, bb, hb] := by simp; omega;
            have nS8 := (hm8.block w.heap.size (by omega) hnc.1).trans nSY;
            have n88 := (hm8.block B8 (by omega) hnc.2.1).trans n8Y;
            have nD8 := (hm8.block BD (by omega) hnc.2.2).trans nDY;
            have cx := (cell_of_row w8 _ 1 _ _ _ n88).trans (rowN_get a' (by decide));
            have fx := frozen_of_row w8 B8 1 _ _ n88;
            clear hT8)
          go_roundw
          case rel =>
            obtain ⟨g1, g2, g3⟩ := grow_facts (f := f) HRr.out.tr (by decide) (HE.out hlt4) HA.out HCh.out
            obtain ⟨e3, e4, e5, e6, e7⟩ := HG.out
            have k1 : ((kk : Int) + 1) = ((cnt (upd2 N' 1 (pre page 1) (some f)) : Nat) : Int) := by
              rw [show cnt (upd2 N' 1 (pre page 1) (some f)) = cnt N' + 1 from e6, HKK.out]; rfl
            have hR : Rst w0 (w8.setCell ⟨B8, 1, none⟩ (.int .i64 f)) t p bb hb n F2 root (upd2 N' 1 (pre page 1) (some f)) C :=
              ⟨by rw [← k1]; exact HT8.out.other (a := ⟨B8, 1, none⟩) (by simp; omega) (by simp; omega) hnc.2.1 _, e3, e4, e5, hn4⟩
            have b1 : (w8.setCell ⟨B8, 1, none⟩ (.int .i64 f)).heap[B8]? = some (.cells (rowN (upA a' 1 f)) 47 (0, 0)) := by
              rw [heap_setCell_same w8 B8 1 _ _ _ n88, rowN_set a' (by decide)]
            have b2 := (heap_setCell_other w8 ⟨B8, 1, none⟩ w.heap.size (.int .i64 f) (by simp; omega)).trans nS8
            have b3 := (heap_setCell_other w8 ⟨B8, 1, none⟩ BD (.int .i64 f) (by simp; omega)).trans nD8
            have b4 : Mods [t, p, bb, hb] w (w8.setCell ⟨B8, 1, none⟩ (.int .i64 f)) := ((hmods.trans hMY).trans (hm8.mono (fun k hk => by simp at hk ⊢; omega))).setCell (p := ⟨B8, 1, none⟩) (.inr (by simp; omega)) _
            have c1 : cnt (upd2 N' 1 (pre page 1) (some f)) = cnt N + (1 + 1 - m) := by
              have := HCn.out
              rw [show cnt (upd2 N' 1 (pre page 1) (some f)) = cnt N' + 1 from e6]
              omega
            have c2 : 4 - (1 + 1) ≤ frees F2.held := by have := HFx.out; omega
            exact ⟨1 + 1, F2, _, upA a' 1 f, by omega, by omega, by go_num, Lib.hid hR, Lib.hid g1, Lib.hid g2, Lib.hid c1, Lib.hid c2, Lib.hid g3, b2, b1, b3, b4, by simp; omega⟩
          case measure => simp [intOf]
        · have hlt4 : 2 < 4 := by decide
          obtain ⟨f, F1, F2, e1, e2, e3, e4, e5, e6, e7⟩ := grow_step HRr.out.fit HRr.out.tr HRr.out.fr HRr.out.n4 (l := 1) (by decide) hp (HA.out 1 (by decide)) (HE.out hlt4) (by have := HFx.out; omega)
          have c0 := HRr.out.tb.c0
          obtain ⟨kk, hkk⟩ : ∃ kk, cnt N' = kk := ⟨_, rfl⟩
          have hk4 : kk ≤ 4096 := by have := HRr.out.fr; omega
          have htb : Tb w0 wr t p bb hb F' root (kk : Int) := by rw [← hkk]; exact HRr.out.tb
          have HTB := Lib.hid htb
          have HG := Lib.hid (And.intro e3 (And.intro e4 (And.intro e5 (And.intro e6 e7))))
          have HE2 := Lib.hid e2
          have hfb : f ≤ 4096 := by
            have := (e4.held (1 + 1) (pre page (1 + 1)) f (upd2_at _ _ _ _)).get
            obtain ⟨h1, _⟩ := this
            have := e3.held
            omega
          have HE1 := Lib.hid e1
          have HKK := Lib.hid hkk
          clear e1 e2 e3 e4 e5 e6 e7 htb hkk
          have hdl := dig_lt page 1
          have hwz : IntKind.i64.wrap 1 = 1 := by decide
          have hwz2 : IntKind.i64.wrap (2 - 1) = 1 := by decide
          go_wp2_with (
            go_at_call 19; refine (take_is HTB.out (f : Int) F1 HE1.out).mono ?_; rintro e w6 ⟨rfl, hT6, hm6⟩;
            have HT6 := Lib.hid hT6;
            have d0 := hT6.c0;
            have d2 := hT6.c2;
            have df := hT6.fr 2;
            have hl6 := hT6.lt;
            have s6 := hm6.size;
            clear hT6)
          obtain ⟨Y, hY⟩ : ∃ Y, (w6.setCell ⟨t, 2, none⟩ (.int .i64 ((kk : Int) + 1))).drew = Y := ⟨_, rfl⟩
          have HTY : Hid (Tb w0 Y t p bb hb F1 root ((kk : Int) + 1)) := by rw [← hY]; exact Lib.hid ((HT6.out.setk _).drew)
          have hMY : Mods [t, p, bb, hb] wr Y := by
            rw [← hY]
            exact ((hm6.mono (fun k hk => by simp at hk ⊢; omega)).setCell (p := ⟨t, 2, none⟩) (.inl (by simp)) _).drew
          have hnb : w.heap.size ∉ [t, p, bb, hb] ∧ B8 ∉ [t, p, bb, hb] ∧ BD ∉ [t, p, bb, hb] := by simp; omega
          have nSY := (hMY.block w.heap.size (by omega) hnb.1).trans nS
          have n8Y := (hMY.block B8 (by omega) hnb.2.1).trans n8
          have nDY := (hMY.block BD (by omega) hnb.2.2).trans nD
          have sY := hMY.size
          have ca := (cell_of_row Y _ 1 _ _ _ n8Y).trans (rowN_get a' (by decide))
          have cd := (cell_of_row Y _ 1 _ _ _ nDY).trans (rowN_get (dig page) (by decide))
          refine wp_region_still_tail 11 (by kernel_rfl) (by kernel_rfl) ?_
          simp only [List.take_succ_cons, List.take_zero, List.drop_succ_cons, List.drop_zero]
          change wpStill _ _ (World.drew _) (fun a' => wpList _ _ _ _ a' (World.drew _)) _ _
          rw [hY]
          repeat still_step
          try refine wpStill_nil ?_
          go_wp2_with (
            go_at_call 85; refine (put_is HTY.out HW.out (a' 1) (dig page 1) hdl (.node f) _ rfl F2 HE2.out).mono ?_; rintro e w8 ⟨rfl, hT8, hm8⟩;
            have HT8 := Lib.hid hT8;
            have s8 := hm8.size;
            have hnc : w.heap.size ∉ [p, bb, hb] ∧ B8 ∉ [p, bb, hb] ∧ BD ∉ [p, bb, hb] := by simp; omega;
            have nS8 := (hm8.block w.heap.size (by omega) hnc.1).trans nSY;
            have n88 := (hm8.block B8 (by omega) hnc.2.1).trans n8Y;
            have nD8 := (hm8.block BD (by omega) hnc.2.2).trans nDY;
            have cx := (cell_of_row w8 _ 2 _ _ _ n88).trans (rowN_get a' (by decide));
            have fx := frozen_of_row w8 B8 2 _ _ n88;
            clear hT8)
          go_roundw
          case rel =>
            obtain ⟨g1, g2, g3⟩ := grow_facts (f := f) HRr.out.tr (by decide) (HE.out hlt4) HA.out HCh.out
            obtain ⟨e3, e4, e5, e6, e7⟩ := HG.out
            have k1 : ((kk : Int) + 1) = ((cnt (upd2 N' 2 (pre page 2) (some f)) : Nat) : Int) := by
              rw [show cnt (upd2 N' 2 (pre page 2) (some f)) = cnt N' + 1 from e6, HKK.out]; rfl
            have hR : Rst w0 (w8.setCell ⟨B8, 2, none⟩ (.int .i64 f)) t p bb hb n F2 root (upd2 N' 2 (pre page 2) (some f)) C :=
              ⟨by rw [← k1]; exact HT8.out.other (a := ⟨B8, 2, none⟩) (by simp; omega) (by simp; omega) hnc.2.1 _, e3, e4, e5, hn4⟩
            have b1 : (w8.setCell ⟨B8, 2, none⟩ (.int .i64 f)).heap[B8]? = some (.cells (rowN (upA a' 2 f)) 47 (0, 0)) := by
              rw [heap_setCell_same w8 B8 2 _ _ _ n88, rowN_set a' (by decide)]
            have b2 := (heap_setCell_other w8 ⟨B8, 2, none⟩ w.heap.size (.int .i64 f) (by simp; omega)).trans nS8
            have b3 := (heap_setCell_other w8 ⟨B8, 2, none⟩ BD (.int .i64 f) (by simp; omega)).trans nD8
            have b4 : Mods [t, p, bb, hb] w (w8.setCell ⟨B8, 2, none⟩ (.int .i64 f)) := ((hmods.trans hMY).trans (hm8.mono (fun k hk => by simp at hk ⊢; omega))).setCell (p := ⟨B8, 2, none⟩) (.inr (by simp; omega)) _
            have c1 : cnt (upd2 N' 2 (pre page 2) (some f)) = cnt N + (2 + 1 - m) := by
              have := HCn.out
              rw [show cnt (upd2 N' 2 (pre page 2) (some f)) = cnt N' + 1 from e6]
              omega
            have c2 : 4 - (2 + 1) ≤ frees F2.held := by have := HFx.out; omega
            exact ⟨2 + 1, F2, _, upA a' 2 f, by omega, by omega, by go_num, Lib.hid hR, Lib.hid g1, Lib.hid g2, Lib.hid c1, Lib.hid c2, Lib.hid g3, b2, b1, b3, b4, by simp; omega⟩
          case measure => simp [intOf]
        · have hlt4 : 3 < 4 := by decide
          obtain ⟨f, F1, F2, e1, e2, e3, e4, e5, e6, e7⟩ := grow_step HRr.out.fit HRr.out.tr HRr.out.fr HRr.out.n4 (l := 2) (by decide) hp (HA.out 2 (by decide)) (HE.out hlt4) (by have := HFx.out; omega)
          have c0 := HRr.out.tb.c0
          obtain ⟨kk, hkk⟩ : ∃ kk, cnt N' = kk := ⟨_, rfl⟩
          have hk4 : kk ≤ 4096 := by have := HRr.out.fr; omega
          have htb : Tb w0 wr t p bb hb F' root (kk : Int) := by rw [← hkk]; exact HRr.out.tb
          have HTB := Lib.hid htb
          have HG := Lib.hid (And.intro e3 (And.intro e4 (And.intro e5 (And.intro e6 e7))))
          have HE2 := Lib.hid e2
          have hfb : f ≤ 4096 := by
            have := (e4.held (2 + 1) (pre page (2 + 1)) f (upd2_at _ _ _ _)).get
            obtain ⟨h1, _⟩ := this
            have := e3.held
            omega
          have HE1 := Lib.hid e1
          have HKK := Lib.hid hkk
          clear e1 e2 e3 e4 e5 e6 e7 htb hkk
          have hdl := dig_lt page 2
          have hwz : IntKind.i64.wrap 2 = 2 := by decide
          have hwz2 : IntKind.i64.wrap (3 - 1) = 2 := by decide
          go_wp2_with (
            go_at_call 19; refine (take_is HTB.out (f : Int) F1 HE1.out).mono ?_; rintro e w6 ⟨rfl, hT6, hm6⟩;
            have HT6 := Lib.hid hT6;
            have d0 := hT6.c0;
            have d2 := hT6.c2;
            have df := hT6.fr 2;
            have hl6 := hT6.lt;
            have s6 := hm6.size;
            clear hT6)
          obtain ⟨Y, hY⟩ : ∃ Y, (w6.setCell ⟨t, 2, none⟩ (.int .i64 ((kk : Int) + 1))).drew = Y := ⟨_, rfl⟩
          have HTY : Hid (Tb w0 Y t p bb hb F1 root ((kk : Int) + 1)) := by rw [← hY]; exact Lib.hid ((HT6.out.setk _).drew)
          have hMY : Mods [t, p, bb, hb] wr Y := by
            rw [← hY]
            exact ((hm6.mono (fun k hk => by simp at hk ⊢; omega)).setCell (p := ⟨t, 2, none⟩) (.inl (by simp)) _).drew
          have hnb : w.heap.size ∉ [t, p, bb, hb] ∧ B8 ∉ [t, p, bb, hb] ∧ BD ∉ [t, p, bb, hb] := by simp; omega
          have nSY := (hMY.block w.heap.size (by omega) hnb.1).trans nS
          have n8Y := (hMY.block B8 (by omega) hnb.2.1).trans n8
          have nDY := (hMY.block BD (by omega) hnb.2.2).trans nD
          have sY := hMY.size
          have ca := (cell_of_row Y _ 2 _ _ _ n8Y).trans (rowN_get a' (by decide))
          have cd := (cell_of_row Y _ 2 _ _ _ nDY).trans (rowN_get (dig page) (by decide))
          refine wp_region_still_tail 11 (by kernel_rfl) (by kernel_rfl) ?_
          simp only [List.take_succ_cons, List.take_zero, List.drop_succ_cons, List.drop_zero]
          change wpStill _ _ (World.drew _) (fun a' => wpList _ _ _ _ a' (World.drew _)) _ _
          rw [hY]
          repeat still_step
          try refine wpStill_nil ?_
          go_wp2_with (
            go_at_call 85; refine (put_is HTY.out HW.out (a' 2) (dig page 2) hdl (.node f) _ rfl F2 HE2.out).mono ?_; rintro e w8 ⟨rfl, hT8, hm8⟩;
            have HT8 := Lib.hid hT8;
            have s8 := hm8.size;
            have hnc : w.heap.size ∉ [p, bb, hb] ∧ B8 ∉ [p, bb, hb] ∧ BD ∉ [p, bb, hb] := by simp; omega;
            have nS8 := (hm8.block w.heap.size (by omega) hnc.1).trans nSY;
            have n88 := (hm8.block B8 (by omega) hnc.2.1).trans n8Y;
            have nD8 := (hm8.block BD (by omega) hnc.2.2).trans nDY;
            have cx := (cell_of_row w8 _ 3 _ _ _ n88).trans (rowN_get a' (by decide));
            have fx := frozen_of_row w8 B8 3 _ _ n88;
            clear hT8)
          go_roundw
          case rel =>
            obtain ⟨g1, g2, g3⟩ := grow_facts (f := f) HRr.out.tr (by decide) (HE.out hlt4) HA.out HCh.out
            obtain ⟨e3, e4, e5, e6, e7⟩ := HG.out
            have k1 : ((kk : Int) + 1) = ((cnt (upd2 N' 3 (pre page 3) (some f)) : Nat) : Int) := by
              rw [show cnt (upd2 N' 3 (pre page 3) (some f)) = cnt N' + 1 from e6, HKK.out]; rfl
            have hR : Rst w0 (w8.setCell ⟨B8, 3, none⟩ (.int .i64 f)) t p bb hb n F2 root (upd2 N' 3 (pre page 3) (some f)) C :=
              ⟨by rw [← k1]; exact HT8.out.other (a := ⟨B8, 3, none⟩) (by simp; omega) (by simp; omega) hnc.2.1 _, e3, e4, e5, hn4⟩
            have b1 : (w8.setCell ⟨B8, 3, none⟩ (.int .i64 f)).heap[B8]? = some (.cells (rowN (upA a' 3 f)) 47 (0, 0)) := by
              rw [heap_setCell_same w8 B8 3 _ _ _ n88, rowN_set a' (by decide)]
            have b2 := (heap_setCell_other w8 ⟨B8, 3, none⟩ w.heap.size (.int .i64 f) (by simp; omega)).trans nS8
            have b3 := (heap_setCell_other w8 ⟨B8, 3, none⟩ BD (.int .i64 f) (by simp; omega)).trans nD8
            have b4 : Mods [t, p, bb, hb] w (w8.setCell ⟨B8, 3, none⟩ (.int .i64 f)) := ((hmods.trans hMY).trans (hm8.mono (fun k hk => by simp at hk ⊢; omega))).setCell (p := ⟨B8, 3, none⟩) (.inr (by simp; omega)) _
            have c1 : cnt (upd2 N' 3 (pre page 3) (some f)) = cnt N + (3 + 1 - m) := by
              have := HCn.out
              rw [show cnt (upd2 N' 3 (pre page 3) (some f)) = cnt N' + 1 from e6]
              omega
            have c2 : 4 - (3 + 1) ≤ frees F2.held := by have := HFx.out; omega
            exact ⟨3 + 1, F2, _, upA a' 3 f, by omega, by omega, by go_num, Lib.hid hR, Lib.hid g1, Lib.hid g2, Lib.hid c1, Lib.hid c2, Lib.hid g3, b2, b1, b3, b4, by simp; omega⟩
          case measure => simp [intOf]
      · obtain rfl : j = 4 := by omega
        obtain ⟨F2, e2, e3, e4, e5⟩ := set_step HRr.out.fit HRr.out.tr (page := page) (HA.out 3 (by decide)) (some ⟨q1, q2, q3, q4, q5⟩) (fun s h => by cases h; exact hs)
        have HE2 := Lib.hid e2
        have HG := Lib.hid (And.intro e3 (And.intro e4 e5))
        clear e2 e3 e4 e5
        have hwz : IntKind.i64.wrap 3 = 3 := by decide
        have hwz2 : IntKind.i64.wrap (4 - 1) = 3 := by decide
        have hdl := dig_lt page 3
        have HTY := Lib.hid (HRr.out.tb.drew)
        have ca := (cell_of_row wr.drew _ 3 _ _ _ n8).trans (rowN_get a' (by decide))
        have cd := (cell_of_row wr.drew _ 3 _ _ _ nD).trans (rowN_get (dig page) (by decide))
        have z0 := (cell_of_row wr.drew _ 0 _ _ _ nS)
        have z1 := (cell_of_row wr.drew _ 1 _ _ _ nS)
        have z2 := (cell_of_row wr.drew _ 2 _ _ _ nS)
        have z3 := (cell_of_row wr.drew _ 3 _ _ _ nS)
        have z4 := (cell_of_row wr.drew _ 4 _ _ _ nS)
        simp only [List.getElem?_toArray, List.getElem?_cons_zero, List.getElem?_cons_succ] at z0 z1 z2 z3 z4
        obtain ⟨Y, hY⟩ : ∃ Y, wr.drew = Y := ⟨_, rfl⟩
        have hMY : Mods [t, p, bb, hb] w Y := by rw [← hY]; exact hmods.drew
        rw [hY] at HTY ca cd z0 z1 z2 z3 z4
        go_wp2_with fail
        refine wp_region_still_tail 10 (by kernel_rfl) (by kernel_rfl) ?_
        simp only [List.take_succ_cons, List.take_zero, List.drop_succ_cons, List.drop_zero]
        change wpStill _ _ (World.drew _) (fun a' => wpList _ _ _ _ a' (World.drew _)) _ _
        rw [hY]
        repeat still_step
        try refine wpStill_nil ?_
        go_wp2_with (
          go_at_call 85; refine (put_is HTY.out HW.out (a' 3) (dig page 3) hdl ⟨q1, q2, q3, q4, q5⟩ _ rfl F2 HE2.out).mono ?_; rintro e w8 ⟨rfl, hT8, hm8⟩)
        go_ret
        obtain ⟨e3, e4, e5⟩ := HG.out
        refine ⟨a, m, HY.out, .inr ⟨by omega, rfl, hMY.trans (hm8.mono (fun k hk => by simp at hk ⊢; omega)), F2, N', ⟨hT8, e3, e4, by rw [e5]; exact HRr.out.fr, hn4⟩, HCn.out, fun l q => ?_⟩⟩
        rw [HCh.out]
        constructor
        · rintro (h | h)
          · exact .inl h
          · exact .inr ⟨by omega, h.2⟩
        · rintro (h | h)
          · exact .inl h
          · exact .inr ⟨by omega, h.2⟩
end
end Go.Proofs.YtacpfkimjaihgaaDoor
