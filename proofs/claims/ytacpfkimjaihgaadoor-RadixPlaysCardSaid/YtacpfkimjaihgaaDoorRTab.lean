/- radix: a table over its pool; entry, put, digits. No conditions. -/
import Derived.Test.YtacpfkimjaihgaaDoorRPlain
import Derived.Test.YtacpfkimjaihgaaDoorRSlot
import Derived.Deep.RegionWith
import Derived.Deep.CutBlock
namespace Go.Proofs.YtacpfkimjaihgaaDoor
open Go.RowKit
set_option linter.unusedVariables false

structure Tb (w0 w : World) (t p bb hb : Nat) (F : FP) (root : Nat) (k : Int) : Prop where
  tab : w.heap[t]? = some (.cells #[.pointer (some ⟨p, 0, none⟩), .int .i64 root, .int .i64 k] 102 (0, 0))
  at_ : At w0 w p bb hb F
  ht : w0.heap.size ≤ t
  tp : t ∉ [p, bb, hb]
section
variable {w0 w w' : World} {t p bb hb root : Nat} {F F' : FP} {k : Int}
theorem Tb.lt (h : Tb w0 w t p bb hb F root k) : t < w.heap.size := lt_of_block h.tab
theorem Tb.c0 (h : Tb w0 w t p bb hb F root k) : w.cell? ⟨t, 0, none⟩ = some (.pointer (some ⟨p, 0, none⟩)) := by rw [cell_of_row w t 0 _ _ _ h.tab]; rfl
theorem Tb.c1 (h : Tb w0 w t p bb hb F root k) : w.cell? ⟨t, 1, none⟩ = some (.int .i64 root) := by rw [cell_of_row w t 1 _ _ _ h.tab]; rfl
theorem Tb.c2 (h : Tb w0 w t p bb hb F root k) : w.cell? ⟨t, 2, none⟩ = some (.int .i64 k) := by rw [cell_of_row w t 2 _ _ _ h.tab]; rfl
theorem Tb.fr (h : Tb w0 w t p bb hb F root k) (j : Nat) : w.frozen? ⟨t, j, none⟩ = false := frozen_of_row w t j _ _ h.tab
theorem Tb.step (h : Tb w0 w t p bb hb F root k) (hp : IsPool w' p bb hb F') (hm : Mods [p, bb, hb] w w') : Tb w0 w' t p bb hb F' root k :=
  ⟨(hm.block t h.lt h.tp).trans h.tab, h.at_.step hp hm, h.ht, h.tp⟩
theorem Tb.stay (h : Tb w0 w t p bb hb F root k) (hb' : Below w.heap.size w w') : Tb w0 w' t p bb hb F root k :=
  ⟨(hb'.block t h.lt).trans h.tab, h.at_.stay hb', h.ht, h.tp⟩
theorem Tb.alloc (h : Tb w0 w t p bb hb F root k) (o : Obj) : Tb w0 (w.alloc o) t p bb hb F root k := h.stay ((Below.refl _ w).alloc (Nat.le_refl _) _)
theorem Tb.drew (h : Tb w0 w t p bb hb F root k) : Tb w0 w.drew t p bb hb F root k := h.stay ((Below.refl _ w).drew)
theorem Tb.drewN (h : Tb w0 w t p bb hb F root k) (n : Nat) : Tb w0 (w.drewN n) t p bb hb F root k := h.stay ((Below.refl _ w).drewN' n)
theorem Tb.lts (h : Tb w0 w t p bb hb F root k) : p < w.heap.size ∧ bb < w.heap.size ∧ hb < w.heap.size := h.at_.pool.lt
/-- A cell of another block. -/
theorem Tb.other (h : Tb w0 w t p bb hb F root k) {a : Addr} (h0 : w0.heap.size ≤ a.block) (h1 : a.block ≠ t) (h2 : a.block ∉ [p, bb, hb]) (u : Value) : Tb w0 (w.setCell a u) t p bb hb F root k := by
  have hm : Mods [a.block] w (w.setCell a u) := (Mods.refl _ _).setCell (.inl (by simp)) u
  refine ⟨(hm.block t h.lt (by simpa using h1.symm)).trans h.tab, ⟨?_, h.at_.below.setCell h0 u, h.at_.hp, h.at_.hbb, h.at_.hhb⟩, h.ht, h.tp⟩
  simp at h2
  exact h.at_.pool.mods hm (by simp; omega) (by simp; omega) (by simp; omega)
/-- The count of nodes. -/
theorem Tb.setk (h : Tb w0 w t p bb hb F root k) (k' : Int) : Tb w0 (w.setCell ⟨t, 2, none⟩ (.int .i64 k')) t p bb hb F root k' := by
  have hm : Mods [t] w (w.setCell ⟨t, 2, none⟩ (.int .i64 k')) := (Mods.refl _ _).setCell (.inl (by simp)) _
  have htp := h.tp
  simp at htp
  refine ⟨?_, ⟨?_, h.at_.below.setCell (p := ⟨t, 2, none⟩) h.ht _, h.at_.hp, h.at_.hbb, h.at_.hhb⟩, h.ht, h.tp⟩
  · rw [heap_setCell_same w t 2 _ _ _ h.tab]; rfl
  · exact h.at_.pool.mods hm (by simp; omega) (by simp; omega) (by simp; omega)

theorem Tb.take (h : Tb w0 w t p bb hb F root k) : Calls Tryd.prog 19 #[.pointer (some ⟨p, 0, none⟩)] w fun e w' => e = .returned (.tuple #[.int .i64 F.take.1, .int .i64 F.take.2.1]) ∧ Tb w0 w' t p bb hb F.take.2.2 root k ∧ Mods [p, bb, hb] w w' :=
  (take_any w p bb hb F h.at_.pool).mono fun _ _ ⟨he, hp, hm⟩ => ⟨he, h.step hp hm, hm⟩
theorem Tb.drop (h : Tb w0 w t p bb hb F root k) (f : Int) (hB : Few F.held) : Calls Tryd.prog 29 #[.pointer (some ⟨p, 0, none⟩), .int .i64 f] w fun e w' => e = .returned (.int .i64 (asked F.held f)) ∧ Tb w0 w' t p bb hb (F.drop f) root k ∧ Mods [p, bb, hb] w w' :=
  (drop_any w p bb hb F f hB h.at_.pool).mono fun _ _ ⟨he, hp, hm⟩ => ⟨he, h.step hp hm, hm⟩

theorem load_is (w : World) (p bb hb : Nat) (F : FP) (f a kind : Int) (hw : Wd w) (h : IsPool w p bb hb F) (x y : Int) (hx : F.load f a kind = x) (hy : F.loadE f a kind = y) :
    Calls Tryd.prog 22 #[.pointer (some ⟨p, 0, none⟩), .int .i64 f, .int .i64 a, .int .i64 kind] w fun e w' => e = .returned (.tuple #[.int .u64 x, .int .i64 y]) ∧ Below w.heap.size w w' := by
  subst hx hy
  exact load_any w p bb hb F f a kind hw h
theorem unpack_is (w : World) (x : Int) (h0 : 0 ≤ x) (h1 : x < 18446744073709551616) (a b c d : Bool) (n : Int) (hs : unpackB x = ⟨a, b, c, d, n⟩) : Calls Tryd.prog 46 #[.int .u64 x] w fun e w' => e = .returned (.agg #[.bool a, .bool b, .bool c, .bool d, .int .i64 n]) ∧ Below w.heap.size w w' := by
  have := unpack_any w x h0 h1
  rw [hs] at this
  exact this
theorem pack_is (w : World) (s : Sl) (v : Value) (hv : s.enc = v) (x : Int) (hx : packS s = x) : Calls Tryd.prog 44 #[v] w fun e w' => e = .returned (.int .u64 x) ∧ Below w.heap.size w w' := by
  subst hv hx
  exact pack_any w s
theorem store_is (w : World) (p bb hb : Nat) (F : FP) (f a kind x : Int) (hw : Wd w) (hx0 : 0 ≤ x) (hx1 : x < 18446744073709551616) (h : IsPool w p bb hb F) (y : Int) (hy : F.loadE f a kind = y) (F' : FP) (hF : F.store f a kind x = F') :
    Calls Tryd.prog 21 #[.pointer (some ⟨p, 0, none⟩), .int .i64 f, .int .i64 a, .int .i64 kind, .int .u64 x] w fun e w' => e = .returned (.int .i64 y) ∧ IsPool w' p bb hb F' ∧ Mods [p, bb, hb] w w' := by
  subst hy hF
  exact store_any w p bb hb F f a kind x hw hx0 hx1 h

set_option maxHeartbeats 2000000 in
theorem Tb.entry (h : Tb w0 w t p bb hb F root k) (hw : Wd w0) (f i : Nat) (hi : i < 8) :
    Calls Tryd.prog 87 #[.pointer (some ⟨t, 0, none⟩), .int .i64 f, .int .i64 i] w fun e w' => e = .returned (ent F f i).enc ∧ Tb w0 w' t p bb hb F root k ∧ Below w.heap.size w w' := by
  obtain ⟨o, ho⟩ : ∃ o : Int, ((i * 8 : Nat) : Int) = o := ⟨_, rfl⟩
  obtain ⟨x, hx⟩ : ∃ x, F.load f o 4 = x := ⟨_, rfl⟩
  obtain ⟨y, hy⟩ : ∃ y, F.loadE f o 4 = y := ⟨_, rfl⟩
  have hxb := load_bound F f o
  rw [hx] at hxb
  obtain ⟨s, hs⟩ : ∃ s, unpackB x = s := ⟨_, rfl⟩
  have he : ent F f i = s := by unfold ent wds; rw [ho, hx, hs]
  rw [he]
  have ho8 : 0 ≤ o ∧ o ≤ 64 := by omega
  have him : (i : Int) * 8 = o := by omega
  clear ho
  obtain ⟨a, b, c, d, n⟩ := s
  simp only [Sl.enc]
  have c0 := h.c0
  have hlt := h.lt
  have HT := Lib.hid h
  have HW := Lib.hid hw
  clear h hw he
  go_enter Tryd.func87, Tryd.ntmps87
  go_wp2_with (first
    | (
      go_at_call 22; refine (load_is _ p bb hb F f o 4 ((HT.out.at_.stay ((Below.refl _ w).alloc (Nat.le_refl _) _)).wd HW.out) ((HT.out.at_.stay ((Below.refl _ w).alloc (Nat.le_refl _) _)).pool) x y hx hy).mono ?_; rintro e w1 ⟨rfl, hb1⟩;
      have n0 := (hb1.block w.heap.size (by simp)).trans (heap_alloc_new w _);
      have s1 := hb1.size;
      simp only [World.size_alloc] at s1)
    | (
      go_at_call 46; refine (unpack_is _ x hxb.1 hxb.2 a b c d n hs).mono ?_; rintro e w2 ⟨rfl, hb2⟩;
      have m0 := (hb2.block w.heap.size (by omega)).trans n0;
      have z0 := (cell_of_row w2 _ 0 _ _ _ m0);
      have z1 := (cell_of_row w2 _ 1 _ _ _ m0);
      have z2 := (cell_of_row w2 _ 2 _ _ _ m0);
      have z3 := (cell_of_row w2 _ 3 _ _ _ m0);
      have z4 := (cell_of_row w2 _ 4 _ _ _ m0);
      simp only [List.getElem?_toArray, List.getElem?_cons_zero, List.getElem?_cons_succ] at z0 z1 z2 z3 z4;
      have f0 := frozen_of_row w2 _ 0 _ _ m0;
      have f1 := frozen_of_row w2 _ 1 _ _ m0;
      have f2 := frozen_of_row w2 _ 2 _ _ m0;
      have f3 := frozen_of_row w2 _ 3 _ _ m0;
      have f4 := frozen_of_row w2 _ 4 _ _ m0;
      have HB : Below w.heap.size w w2 := ((((Below.refl _ w).alloc (Nat.le_refl _) _).trans (hb1.mono (by simp)))).trans (hb2.mono (by omega))))
  refine bodyPost_ret (by simp [results, Tryd.results87, go_sem, z0, z1, z2, z3, z4]; try rfl) rfl ?_
  have HB2 := (((((HB.setCell (p := ⟨w.heap.size, 0, none⟩) (Nat.le_refl _) (.bool a)).setCell (p := ⟨w.heap.size, 1, none⟩) (Nat.le_refl _) (.bool b)).setCell (p := ⟨w.heap.size, 2, none⟩) (Nat.le_refl _) (.bool c)).setCell (p := ⟨w.heap.size, 3, none⟩) (Nat.le_refl _) (.bool d)).setCell (p := ⟨w.heap.size, 4, none⟩) (Nat.le_refl _) (.int .i64 n))
  exact ⟨rfl, HT.out.stay HB2, HB2⟩

set_option maxHeartbeats 4000000 in
theorem Tb.put (h : Tb w0 w t p bb hb F root k) (hw : Wd w0) (f i : Nat) (hi : i < 8) (s : Sl) (F' : FP) (hF : F.store f ((i * 8 : Nat) : Int) 4 (packS s) = F') :
    Calls Tryd.prog 85 #[.pointer (some ⟨t, 0, none⟩), .int .i64 f, .int .i64 i, s.enc] w fun e w' => e = .returned (.tuple #[]) ∧ Tb w0 w' t p bb hb F' root k ∧ Mods [p, bb, hb] w w' := by
  obtain ⟨o, ho⟩ : ∃ o : Int, ((i * 8 : Nat) : Int) = o := ⟨_, rfl⟩
  rw [ho] at hF
  have hxb := pack_bound s
  obtain ⟨x, hx⟩ : ∃ x, packS s = x := ⟨_, rfl⟩
  rw [hx] at hxb hF
  obtain ⟨y, hy⟩ : ∃ y, F.loadE f o 4 = y := ⟨_, rfl⟩
  have ho8 : 0 ≤ o ∧ o ≤ 64 := by omega
  have him : (i : Int) * 8 = o := by omega
  clear ho
  have hwo : IntKind.i64.wrap o = o := by rw [IntKind.wrap_i64]; omega
  obtain ⟨a, b, c, d, n⟩ := s
  simp only [Sl.enc]
  obtain ⟨W, hW⟩ : ∃ W, w.alloc (.cells #[.bool a, .bool b, .bool c, .bool d, .int .i64 n] 68) = W := ⟨_, rfl⟩
  have HT := Lib.hid h
  have h1 : Tb w0 W t p bb hb F root k := by rw [← hW]; exact h.alloc _
  have hB1 : Below w.heap.size w W := by rw [← hW]; exact (Below.refl _ w).alloc (Nat.le_refl _) _
  have n0 : W.heap[w.heap.size]? = some (.cells #[.bool a, .bool b, .bool c, .bool d, .int .i64 n] 68 (0, 0)) := by rw [← hW]; exact heap_alloc_new _ _
  have c0 := h1.c0
  have hlt := h1.lt
  have z0 := (cell_of_row W _ 0 _ _ _ n0)
  have z1 := (cell_of_row W _ 1 _ _ _ n0)
  have z2 := (cell_of_row W _ 2 _ _ _ n0)
  have z3 := (cell_of_row W _ 3 _ _ _ n0)
  have z4 := (cell_of_row W _ 4 _ _ _ n0)
  simp only [List.getElem?_toArray, List.getElem?_cons_zero, List.getElem?_cons_succ] at z0 z1 z2 z3 z4
  have H1 := Lib.hid h1
  have HW := Lib.hid hw
  clear h hw h1 n0
  go_enter Tryd.func85, Tryd.ntmps85
  go_wp2_with fail
  try rw [hW]
  clear hW
  go_region_with (first
    | (
      go_at_call 44; go_must (refine (pack_is _ ⟨a, b, c, d, n⟩ _ rfl x hx).mono ?_); rintro e w1 ⟨rfl, hb1⟩;
      have H2 := Lib.hid (H1.out.drew.stay hb1);
      have c1 := H2.out.c0;
      have hB2 : Below w.heap.size w w1 := (hB1.drew).trans (hb1.mono (by have := hB1.size; simpa using this)))
    | (
      go_at_call 21; go_must (refine (store_is _ p bb hb F f o 4 x (H2.out.at_.wd HW.out) hxb.1 (by omega) H2.out.at_.pool y hy F' hF).mono ?_); rintro e w2 ⟨rfl, hp2, hm2⟩))
  all_goals
    go_wp2_with fail
    go_end0
    exact ⟨rfl, H2.out.step hp2 hm2, (Mods.of_below hB2).trans hm2⟩
end
end Go.Proofs.YtacpfkimjaihgaaDoor
