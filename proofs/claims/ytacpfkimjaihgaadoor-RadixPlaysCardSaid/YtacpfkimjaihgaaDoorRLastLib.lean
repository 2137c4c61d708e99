/- radix: rows of numbers beside a table; which pages were set, and to what. No conditions. -/
import Derived.Maps.AppendAt
import Derived.Test.YtacpfkimjaihgaaDoorRCount
import Derived.Test.YtacpfkimjaihgaaDoorRClose
namespace Go.Proofs.YtacpfkimjaihgaaDoor
open Go.RowKit
set_option linter.unusedVariables false

/-! ## Rows of the call's own -/
theorem own_mods {w w' : World} {base e size n : Nat} {v : Value} {xs : List Value} {S : List Nat} (h : w.ownsRow base e size v n xs) (hm : Mods S w w') (hS : ∀ k, v.ownBlock = some k → k ∉ S) : w'.ownsRow base e size v n xs := by
  refine ⟨h.1, ?_⟩
  rcases h.2 with h1 | ⟨g, cap, cur, rfl, hb, hg, h3⟩
  · exact .inl h1
  · exact .inr ⟨g, cap, cur, rfl, hb, (hm.block g (lt_of_block hg) (hS g rfl)).trans hg, h3⟩
theorem own_set {w : World} {base e n : Nat} {v : Value} {xs : List Value} (h : w.ownsRow base e 1 v n xs) {g j : Nat} (hg : v.ownBlock = some g) (hj : j < xs.length) (u : Value) :
    (w.setCell ⟨g, j, none⟩ u).ownsRow base e 1 v n (xs.set j u) := by
  refine ⟨by rw [List.length_set]; exact h.1, ?_⟩
  rcases h.2 with ⟨rfl, _⟩ | ⟨g', cap, cur, rfl, hb, hgb, h3, h4, h5, h6⟩
  · simp [Value.ownBlock] at hg
  · obtain rfl : g' = g := by simpa [Value.ownBlock] using hg
    refine .inr ⟨g', cap, cur.setIfInBounds j u, rfl, hb, ?_, h3, h4, by simpa using h5, ?_⟩
    · exact heap_setCell_same w g' j _ _ _ hgb
    · rw [Array.toList_setIfInBounds, List.take_set, h6]
theorem own_cell {w : World} {base e n : Nat} {v : Value} {xs : List Value} (h : w.ownsRow base e 1 v n xs) {j : Nat} {u : Value} (hj : xs[j]? = some u) :
    ∃ g cap, v = .slice (some ⟨g, 0, none⟩) n cap ∧ n ≤ cap ∧ base ≤ g ∧ g < w.heap.size ∧ v.ownBlock = some g ∧ w.cell? ⟨g, j, none⟩ = some u ∧ ∀ k, w.frozen? ⟨g, k, none⟩ = false := by
  have hl := (List.getElem?_eq_some_iff.1 hj).1
  rcases h.2 with ⟨rfl, h0⟩ | ⟨g, cap, cur, rfl, hb, hgb, h3, h4, h5, h6⟩
  · have := h.1
    subst h0
    omega
  · refine ⟨g, cap, rfl, h3, hb, lt_of_block hgb, rfl, ?_, fun k => frozen_of_row w g k _ _ hgb⟩
    rw [cell_of_row w g j _ _ _ hgb]
    rw [← h6, List.getElem?_take] at hj
    split at hj
    · simpa using hj
    · cases hj
theorem own_val {w : World} {base e n : Nat} {v : Value} {xs : List Value} (h : w.ownsRow base e 1 v n xs) : ∃ a cap, v = .slice a n cap ∧ n ≤ cap ∧ xs.length = n := by
  have h1 := h.1
  rcases h.2 with ⟨rfl, h0⟩ | ⟨g, cap, cur, rfl, hb, hgb, h3, _⟩
  · exact ⟨none, 0, by rw [h0], by omega, by omega⟩
  · exact ⟨_, cap, rfl, h3, by omega⟩
theorem own_bound {w : World} {base e size n : Nat} {v : Value} {xs : List Value} (h : w.ownsRow base e size v n xs) {k : Nat} (hk : v.ownBlock = some k) : base ≤ k ∧ k < w.heap.size := by
  rcases h.2 with ⟨rfl, _⟩ | ⟨g, cap, cur, rfl, hb, hgb, _⟩
  · simp [Value.ownBlock] at hk
  · obtain rfl : g = k := by simpa [Value.ownBlock] using hk
    exact ⟨hb, lt_of_block hgb⟩

section
variable {w0 w w' : World} {t p bb hb n root : Nat} {F : FP} {N : Nat → Nat → Option Nat} {C : Nat → Option Sl} {k : Int}
/-- What the table's own blocks don't see. -/
theorem Rst.mods {S : List Nat} (h : Rst w0 w t p bb hb n F root N C) (hm : Mods S w w') (hS : ∀ k, k ∈ S → w0.heap.size ≤ k ∧ k ≠ t ∧ k ∉ [p, bb, hb]) : Rst w0 w' t p bb hb n F root N C := by
  have hp : p ∉ S := fun hk => by have := (hS _ hk).2.2; simp at this
  have hbb : bb ∉ S := fun hk => by have := (hS _ hk).2.2; simp at this
  have hhb : hb ∉ S := fun hk => by have := (hS _ hk).2.2; simp at this
  exact ⟨⟨(hm.block t h.tb.lt (fun hk => (hS t hk).2.1 rfl)).trans h.tb.tab, ⟨h.tb.at_.pool.mods hm hp hbb hhb, below_after h.tb.at_.below hm h.tb.at_.below.size (fun i hi => (hS i hi).1), h.tb.at_.hp, h.tb.at_.hbb, h.tb.at_.hhb⟩, h.tb.ht, h.tb.tp⟩, h.fit, h.tr, h.fr, h.n4⟩

theorem hasP_drop (C : Nat → Option Sl) (page l q : Nat) (h : hasP (pages (updC C page none)) l q = true) : hasP (pages C) l q = true := by
  rw [hasP_iff] at h ⊢
  obtain ⟨x, hx, e⟩ := h
  have hx' := (mem_pages _ x).1 hx
  unfold updC at hx'
  split at hx'
  · cases hx'.1
  · exact ⟨x, (mem_pages C x).2 hx', e⟩
theorem nodes_drop (C : Nat → Option Sl) (page : Nat) : nodesL (pages (updC C page none)) ≤ nodesL (pages C) := by
  have h1 : ∀ l M, (List.range M).countP (hasP (pages (updC C page none)) l) ≤ (List.range M).countP (hasP (pages C) l) := fun l M => List.countP_mono_left (fun q _ h => hasP_drop C page l q h)
  have a1 := h1 1 8
  have a2 := h1 2 64
  have a3 := h1 3 512
  unfold nodesL
  omega
end

/-! ## Which pages were set -/
def wset (pl : List Int) (k x : Int) : List Int → Nat → List Int
  | wl, 0 => wl
  | wl, i + 1 => if pl[i]? = some k then (wset pl k x wl i).set i x else wset pl k x wl i
theorem wset_len (pl : List Int) (k x : Int) (wl : List Int) (i : Nat) : (wset pl k x wl i).length = wl.length := by
  induction i with
  | zero => rfl
  | succ i ih =>
    unfold wset
    split
    · rw [List.length_set, ih]
    · exact ih
theorem wset_get (pl : List Int) (k x : Int) (wl : List Int) (i q : Nat) (hq : q < wl.length) : (wset pl k x wl i)[q]? = if q < i ∧ pl[q]? = some k then some x else wl[q]? := by
  induction i with
  | zero => simp [wset]
  | succ i ih =>
    unfold wset
    by_cases e : pl[i]? = some k
    · rw [if_pos e]
      by_cases h : i = q
      · subst h
        rw [List.getElem?_set_self (by rw [wset_len]; exact hq), if_pos ⟨by omega, e⟩]
      · rw [List.getElem?_set_ne h, ih]
        by_cases h2 : q < i ∧ pl[q]? = some k
        · rw [if_pos h2, if_pos ⟨by omega, h2.2⟩]
        · rw [if_neg h2, if_neg (fun h3 => h2 ⟨by omega, h3.2⟩)]
    · rw [if_neg e, ih]
      by_cases h2 : q < i ∧ pl[q]? = some k
      · rw [if_pos h2, if_pos ⟨by omega, h2.2⟩]
      · rw [if_neg h2, if_neg (fun h3 => h2 ⟨by
          by_cases h : q = i
          · subst h; exact absurd h3.2 e
          · omega, h3.2⟩)]
def slW (x : Int) : Sl := ⟨true, x % 2 == 1, false, false, x⟩
/-- What is wanted of the pages. -/
def Wants (C : Nat → Option Sl) (pl wl : List Int) : Prop :=
  pl.length = wl.length ∧ ∀ (q : Nat) (pg v : Int), pl[q]? = some pg → wl[q]? = some v → ∃ p : Nat, pg = p ∧ p < 4096 ∧ v ≤ 1048575 ∧ (v < 0 → C p = none) ∧ (0 ≤ v → C p = some (slW v))
theorem wants_nil (C : Nat → Option Sl) : Wants C [] [] := ⟨rfl, fun q pg v h => by simp at h⟩
/-- A page's entry turns, and what is wanted of it. -/
theorem wants_set {C : Nat → Option Sl} {pl wl : List Int} (h : Wants C pl wl) (page : Nat) (hp : page < 4096) (x : Int) (o : Option Sl) (h1 : x ≤ 1048575) (hn : x < 0 → o = none) (hs : 0 ≤ x → o = some (slW x)) : Wants (updC C page o) pl (wset pl (page : Int) x wl pl.length) := by
  refine ⟨by rw [wset_len]; exact h.1, fun q pg v hq hv => ?_⟩
  have hql := (List.getElem?_eq_some_iff.1 hq).1
  rw [wset_get pl _ _ _ _ q (by rw [← h.1]; exact hql)] at hv
  by_cases e : pg = (page : Int)
  · subst e
    rw [if_pos ⟨hql, hq⟩] at hv
    injection hv with hv
    subst hv
    exact ⟨page, rfl, hp, h1, fun hx => by rw [← hn hx]; simp [updC], fun hx => by rw [← hs hx]; simp [updC]⟩
  · rw [if_neg (fun h3 => e (by have := h3.2; rw [hq] at this; injection this))] at hv
    obtain ⟨p, rfl, a1, a2, a3, a4⟩ := h.2 q pg v hq hv
    have hne : p ≠ page := fun h => e (by rw [h])
    exact ⟨p, rfl, a1, a2, fun hx => by rw [updC, if_neg hne]; exact a3 hx, fun hx => by rw [updC, if_neg hne]; exact a4 hx⟩
/-- A page more. -/
theorem wants_snoc {C : Nat → Option Sl} {pl wl : List Int} (h : Wants C pl wl) (page : Nat) (hp : page < 4096) (x : Int) (h0 : 0 ≤ x) (h1 : x ≤ 1048575) (hc : C page = some (slW x)) : Wants C (pl ++ [(page : Int)]) (wl ++ [x]) := by
  refine ⟨by rw [List.length_append, List.length_append, h.1]; rfl, fun q pg v hq hv => ?_⟩
  by_cases e : q < pl.length
  · rw [List.getElem?_append_left e] at hq
    rw [List.getElem?_append_left (by rw [← h.1]; exact e)] at hv
    exact h.2 q pg v hq hv
  · rw [List.getElem?_append_right (by omega)] at hq
    rw [List.getElem?_append_right (by have := h.1; omega), ← h.1] at hv
    have : q - pl.length = 0 := by
      have := (List.getElem?_eq_some_iff.1 hq).1
      simp at this
      omega
    rw [this] at hq hv
    simp at hq hv
    subst hq hv
    exact ⟨page, rfl, hp, h1, fun hx => by omega, fun _ => hc⟩

/-! ## Two rows of numbers -/
def nums (l : List Int) : List Value := l.map (Value.int .i64)
theorem nums_get {l : List Int} {i : Nat} {x : Int} (h : l[i]? = some x) : (nums l)[i]? = some (.int .i64 x) := by simp [nums, h]
structure Two (w : World) (B0 : Nat) (ap : Option Addr) (cp m1 : Nat) (pl : List Int) (aw : Option Addr) (cw m2 : Nat) (wl : List Int) : Prop where
  own1 : w.ownsRow B0 3 1 (.slice ap m1 cp) m1 (nums pl)
  own2 : w.ownsRow B0 3 1 (.slice aw m2 cw) m2 (nums wl)
  apart : ∀ k, (Value.slice ap m1 cp).ownBlock = some k → (Value.slice aw m2 cw).ownBlock = some k → False
section
variable {w w' : World} {B0 cp m1 cw m2 : Nat} {ap aw : Option Addr} {pl wl : List Int}
theorem Two.len (h : Two w B0 ap cp m1 pl aw cw m2 wl) : pl.length = m1 ∧ wl.length = m2 := by
  have h1 := h.own1.1
  have h2 := h.own2.1
  simp [nums] at h1 h2
  exact ⟨h1, h2⟩
theorem Two.mods {S : List Nat} (h : Two w B0 ap cp m1 pl aw cw m2 wl) (hm : Mods S w w') (hS : ∀ k, k ∈ S → k < B0) : Two w' B0 ap cp m1 pl aw cw m2 wl :=
  ⟨own_mods h.own1 hm (fun k hk hk2 => by have := hS k hk2; have := (own_bound h.own1 hk).1; omega), own_mods h.own2 hm (fun k hk hk2 => by have := hS k hk2; have := (own_bound h.own2 hk).1; omega), h.apart⟩
theorem Two.below (h : Two w B0 ap cp m1 pl aw cw m2 wl) (hb : Below w.heap.size w w') : Two w' B0 ap cp m1 pl aw cw m2 wl := h.mods (S := []) (Mods.of_below hb) (fun k hk => by simp at hk)
theorem Two.nil (w : World) (B0 : Nat) : Two w B0 none 0 0 [] none 0 0 [] := ⟨World.ownsRow_nil _ _ _ _, World.ownsRow_nil _ _ _ _, fun k hk => by simp [Value.ownBlock] at hk⟩
theorem Two.at_ (h : Two w B0 ap cp m1 pl aw cw m2 wl) {i : Nat} (h1 : i < m1) (h2 : i < m2) : ∃ (g1 g2 : Nat) (x y : Int), ap = some ⟨g1, 0, none⟩ ∧ aw = some ⟨g2, 0, none⟩ ∧ pl[i]? = some x ∧ wl[i]? = some y ∧ m1 ≤ cp ∧ m2 ≤ cw ∧ B0 ≤ g1 ∧ B0 ≤ g2 ∧ g1 < w.heap.size ∧ g2 < w.heap.size ∧ g1 ≠ g2 ∧
    w.cell? ⟨g1, i, none⟩ = some (.int .i64 x) ∧ w.cell? ⟨g2, i, none⟩ = some (.int .i64 y) ∧ w.frozen? ⟨g2, i, none⟩ = false := by
  obtain ⟨l1, l2⟩ := h.len
  have e1 : pl[i]? = some (pl[i]'(by omega)) := List.getElem?_eq_getElem (by omega)
  have e2 : wl[i]? = some (wl[i]'(by omega)) := List.getElem?_eq_getElem (by omega)
  obtain ⟨g1, c1, v1, a1, b1, d1, o1, k1, f1⟩ := own_cell h.own1 (nums_get e1)
  obtain ⟨g2, c2, v2, a2, b2, d2, o2, k2, f2⟩ := own_cell h.own2 (nums_get e2)
  injection v1 with v1 _ v3
  injection v2 with v2 _ v4
  subst v1 v2 v3 v4
  exact ⟨g1, g2, _, _, rfl, rfl, e1, e2, a1, a2, b1, b2, d1, d2, fun e => h.apart g1 o1 (by rw [e]; exact o2), k1, k2, f2 i⟩
theorem Two.setw {g : Nat} (h : Two w B0 ap cp m1 pl (some ⟨g, 0, none⟩) cw m2 wl) {i : Nat} (hi : i < m2) (x : Int) : Two (w.setCell ⟨g, i, none⟩ (.int .i64 x)) B0 ap cp m1 pl (some ⟨g, 0, none⟩) cw m2 (wl.set i x) := by
  obtain ⟨l1, l2⟩ := h.len
  refine ⟨own_mods h.own1 (S := [g]) ((Mods.refl _ _).setCell (.inl (by simp)) _) (fun k hk hk2 => ?_), ?_, h.apart⟩
  · simp at hk2
    subst hk2
    exact h.apart k hk rfl
  · have := own_set h.own2 (g := g) (j := i) rfl (by simp [nums]; omega) (.int .i64 x)
    rw [nums, ← List.map_set] at this
    exact this
theorem Two.two (h : Two w B0 ap cp m1 pl aw cw m2 wl) : Mods [] w w := Mods.refl _ _

theorem app_num {ops : Array Oper} {rest : List Oper} {o : Oper} {a : Act} {Q : Exit → Act → World → Prop} (hgd : o.guard = none) (s x : Operand)
    (ho : o.op = .call { callee := .builtin .append, args := #[s, x], argTypes := #[46, 46] }) (hown : w.ownsRow B0 3 1 (.slice ap m1 cp) m1 (nums pl)) (u : Int) (hs : a.eval s = .slice ap m1 cp) {g : Nat} (hgs : w.heap.size = g) (hx : a.eval x = .slice (some ⟨g, 0, none⟩) 1 1)
    (hm : m1 ≤ 1000) (hB : B0 ≤ w.heap.size)
    (h : ∀ ap' cp' w', w'.ownsRow B0 3 1 (.slice ap' (m1 + 1) cp') (m1 + 1) (nums (pl ++ [u])) → w.grownBy w' (Value.slice ap m1 cp).ownBlock → (∀ k, (Value.slice ap' (m1 + 1) cp').ownBlock = some k → (Value.slice ap m1 cp).ownBlock = some k ∨ w.heap.size ≤ k) →
      wpList Tryd.prog ops Q rest (a.put o.dst (.slice ap' (m1 + 1) cp')) w') :
    wpList Tryd.prog ops Q (o :: rest) a (w.alloc (.cells #[.int .i64 u] 3)) := by
  obtain ⟨i0, hi, hz0, hz1, hz2⟩ := info_parts Tryd.info3
  subst hgs
  refine wpList_append_own_at (w.alloc (.cells #[.int .i64 u] 3)) hgd s x 46 ho B0 3 i0 _ 1 8 Tryd.underlying46 hi hz0 hz1 hz2 rfl (by decide) _ m1 (nums pl) hs (hown.alloc _) ⟨w.heap.size, 0, none⟩ 1 1 [.int .i64 u] hx rfl (cell_one_new w _ _) (by simp [Value.oneCell']) (by unfold maxLen; omega) (by omega) (by simp; omega) ?_
  intro v' w' h1 h2 _ h4
  obtain ⟨ap', cp', rfl, _, _⟩ := own_val h1
  refine h ap' cp' w' (by simpa [nums] using h1) ⟨h2.os, h2.tape, h2.output, Nat.le_trans (by simp) h2.size, fun k hk hne => ?_⟩ fun k hk => ?_
  · rw [h2.block k (by simp; omega) hne, Below.heap_alloc _ _ _ hk]
  · rcases h4 with h4 | h4
    · exact .inl (h4 ▸ hk)
    · rw [h4] at hk
      injection hk with hk
      simp at hk
      exact .inr (by omega)
/-- What a grown row leaves. -/
theorem grown_mods {v : Value} {B : Nat} (hg : w.grownBy w' v.ownBlock) : ∃ S : List Nat, Mods S w w' ∧ ∀ k, k ∈ S → v.ownBlock = some k := by
  cases hv : v.ownBlock with
  | none => rw [hv] at hg; exact ⟨[], (Mods.refl [] w).grown hg (fun k hk => by cases hk), fun k hk => by simp at hk⟩
  | some b => rw [hv] at hg; exact ⟨[b], (Mods.refl [b] w).grown hg (fun k hk => by cases hk; simp), fun k hk => by simp at hk; rw [hk]⟩
theorem Two.app1 (h : Two w B0 ap cp m1 pl aw cw m2 wl) {ap' : Option Addr} {cp' : Nat} {u : Int} (h1 : w'.ownsRow B0 3 1 (.slice ap' (m1 + 1) cp') (m1 + 1) (nums (pl ++ [u]))) (h2 : w.grownBy w' (Value.slice ap m1 cp).ownBlock)
    (h3 : ∀ k, (Value.slice ap' (m1 + 1) cp').ownBlock = some k → (Value.slice ap m1 cp).ownBlock = some k ∨ w.heap.size ≤ k) : Two w' B0 ap' cp' (m1 + 1) (pl ++ [u]) aw cw m2 wl ∧ ∃ S : List Nat, Mods S w w' ∧ ∀ k, k ∈ S → B0 ≤ k := by
  obtain ⟨S, hS, hk⟩ := grown_mods (B := B0) h2
  refine ⟨⟨h1, own_mods h.own2 hS (fun k h4 h5 => h.apart k (hk k h5) h4), fun k h4 h5 => ?_⟩, S, hS, fun k h4 => (own_bound h.own1 (hk k h4)).1⟩
  rcases h3 k h4 with h6 | h6
  · exact h.apart k h6 h5
  · have := (own_bound h.own2 h5).2
    omega
theorem Two.app2 (h : Two w B0 ap cp m1 pl aw cw m2 wl) {aw' : Option Addr} {cw' : Nat} {u : Int} (h1 : w'.ownsRow B0 3 1 (.slice aw' (m2 + 1) cw') (m2 + 1) (nums (wl ++ [u]))) (h2 : w.grownBy w' (Value.slice aw m2 cw).ownBlock)
    (h3 : ∀ k, (Value.slice aw' (m2 + 1) cw').ownBlock = some k → (Value.slice aw m2 cw).ownBlock = some k ∨ w.heap.size ≤ k) : Two w' B0 ap cp m1 pl aw' cw' (m2 + 1) (wl ++ [u]) ∧ ∃ S : List Nat, Mods S w w' ∧ ∀ k, k ∈ S → B0 ≤ k := by
  obtain ⟨S, hS, hk⟩ := grown_mods (B := B0) h2
  refine ⟨⟨own_mods h.own1 hS (fun k h4 h5 => h.apart k h4 (hk k h5)), h1, fun k h4 h5 => ?_⟩, S, hS, fun k h4 => (own_bound h.own2 (hk k h4)).1⟩
  rcases h3 k h5 with h6 | h6
  · exact h.apart k h4 h6
  · have := (own_bound h.own1 h4).2
    omega
end
end Go.Proofs.YtacpfkimjaihgaaDoor
