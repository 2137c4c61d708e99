/- The document's table, in the program's memory: May, Pack, Unpack; Get, Without, With, Nodes, Set, Drop; and its plain laws. No conditions. -/
import Derived.Test.YtacpfkimjaihgaaDoorRCount
import Derived.Test.YtacpfkimjaihgaaDoorRTab
import Derived.BigQuiet
import Derived.Test.YtacpfkimjaihgaaDoorRClose
import Derived.Test.YtacpfkimjaihgaaDoorRDrop
import Derived.Deep.DeepCutAuto
import Derived.Deep.CutBlock
import Derived.Laws.AppendOwnNone
import Derived.Deep.RegionWith
/-! ## RRefPlain -/
namespace Go.Proofs.YtacpfkimjaihgaaDoor
set_option linter.unusedVariables false

section
variable {F : FP} {N : Nat → Nat → Option Nat} {C : Nat → Option Sl} {root : Nat}
theorem without_pages (C : Nat → Option Sl) (page : Nat) : (pages C).filter (fun x => decide (x.1 ≠ page)) = pages (updC C page none) := by
  refine (pages_eq (List.Pairwise.filter _ (rise_pages C)) ?_).symm
  intro x
  rw [List.mem_filter, mem_pages, decide_eq_true_iff]
  unfold updC
  constructor
  · rintro ⟨⟨h1, h2⟩, h3⟩
    rw [if_neg h3]
    exact ⟨h1, h2⟩
  · rintro ⟨h1, h2⟩
    split at h1
    · cases h1
    · rename_i h
      exact ⟨⟨h1, h2⟩, h⟩
theorem with_pages (C : Nat → Option Sl) {page i : Nat} (hp : page < 4096) (s : Sl) (h1 : ∀ j x, j < i → (pages (updC C page none))[j]? = some x → x.1 < page) (h2 : ∀ x, (pages (updC C page none))[i]? = some x → page ≤ x.1) :
    (pages (updC C page none)).take i ++ ((page, s) :: (pages (updC C page none)).drop i) = pages (updC C page (some s)) := by
  have hr := rise_pages (updC C page none)
  have hm := fun x => mem_pages (updC C page none) x
  generalize pages (updC C page none) = L at *
  have hne : ∀ x ∈ L, x.1 ≠ page := fun x hx e => by
    have := ((hm x).1 hx).1
    rw [e] at this
    simp [updC] at this
  have ht : ∀ x ∈ L.take i, x.1 < page := fun x hx => by
    obtain ⟨j, hj, rfl⟩ := List.getElem_of_mem hx
    rw [List.length_take] at hj
    exact h1 j _ (by omega) (by rw [List.getElem_take]; exact List.getElem?_eq_getElem _)
  have hd : ∀ x ∈ L.drop i, page < x.1 := fun x hx => by
    obtain ⟨j, hj⟩ := List.mem_iff_getElem?.1 hx
    rw [List.getElem?_drop] at hj
    have hx' := hne x (List.mem_of_getElem? hj)
    have hi : i < L.length := by have := (List.getElem?_eq_some_iff.1 hj).1; omega
    have h3 := h2 L[i] (List.getElem?_eq_getElem hi)
    by_cases e : j = 0
    · subst e
      rw [Nat.add_zero, List.getElem?_eq_getElem hi] at hj
      injection hj with hj
      rw [hj] at h3
      omega
    · obtain ⟨hj1, hj2⟩ := List.getElem?_eq_some_iff.1 hj
      have := List.pairwise_iff_getElem.1 hr i (i + j) hi hj1 (by omega)
      rw [hj2] at this
      omega
  refine (pages_eq ?_ ?_).symm
  · unfold Rise
    rw [List.pairwise_append, List.pairwise_cons]
    refine ⟨List.Pairwise.take hr, ⟨fun y hy => hd y hy, List.Pairwise.drop hr⟩, fun x hx y hy => ?_⟩
    have a := ht x hx
    rcases List.mem_cons.1 hy with rfl | hy
    · exact a
    · exact Nat.lt_trans a (hd y hy)
  · intro x
    have hx := hm x
    have hsp : x ∈ L ↔ x ∈ L.take i ∨ x ∈ L.drop i := by rw [← List.mem_append, List.take_append_drop]
    rw [List.mem_append, List.mem_cons]
    constructor
    · rintro (h | rfl | h)
      · have := hx.1 (hsp.2 (.inl h))
        have e := hne x (hsp.2 (.inl h))
        unfold updC at this ⊢
        rw [if_neg e] at this ⊢
        exact this
      · exact ⟨by simp [updC], hp⟩
      · have := hx.1 (hsp.2 (.inr h))
        have e := hne x (hsp.2 (.inr h))
        unfold updC at this ⊢
        rw [if_neg e] at this ⊢
        exact this
    · rintro ⟨h, hl⟩
      by_cases e : x.1 = page
      · obtain ⟨a, b⟩ := x
        simp only at e
        subst e
        simp [updC] at h
        exact .inr (.inl (by rw [h]))
      · unfold updC at h
        rw [if_neg e] at h
        have : x ∈ L := hx.2 ⟨by unfold updC; rw [if_neg e]; exact h, hl⟩
        rcases hsp.1 this with h | h
        · exact .inl h
        · exact .inr (.inr h)

theorem Way.rest {E : Nat → Nat → Sl} {H : Nat → Prop} {page : Nat} {a : Nat → Nat} {m : Nat} (h : Way N page a m) (tr : Tr E H N C root) : ∀ l, l ≤ 3 → (N l (pre page l)).isSome = decide (l < m) := by
  have h4 := h.four
  have h1 := h.one
  have hn : ∀ d l, m + d = l → l ≤ 3 → N l (pre page l) = none := by
    intro d
    induction d with
    | zero => intro l e hl; have : l = m := by omega
              subst this
              exact h.end_ (by omega)
    | succ d ih =>
      intro l e hl
      obtain ⟨k, rfl⟩ : ∃ k, l = k + 1 := ⟨l - 1, by omega⟩
      have hk := ih k (by omega) (by omega)
      cases hs : N (k + 1) (pre page (k + 1)) with
      | none => rfl
      | some f =>
        obtain ⟨g, hg⟩ := tr.up_ne (by omega) hs
        rw [(pre_succ (by omega)).1, hk] at hg
        cases hg
  intro l hl
  by_cases e : l < m
  · rw [h.at_ l e]; simp [e]
  · rw [hn (l - m) l (by omega) hl]; simp [e]
theorem hasP_set (C : Nat → Option Sl) {page : Nat} (hp : page < 4096) (s : Sl) (l : Nat) : (∀ y, y ≠ pre page l → hasP (pages (updC C page (some s))) l y = hasP (pages C) l y) ∧ hasP (pages (updC C page (some s))) l (pre page l) = true := by
  constructor
  · intro y hy
    rw [Bool.eq_iff_iff, hasP_iff, hasP_iff]
    constructor
    · rintro ⟨x, hx, rfl⟩
      have hx' := (mem_pages _ x).1 hx
      have e : x.1 ≠ page := fun e => hy (by rw [e])
      unfold updC at hx'
      rw [if_neg e] at hx'
      exact ⟨x, (mem_pages C x).2 hx', rfl⟩
    · rintro ⟨x, hx, rfl⟩
      have hx' := (mem_pages _ x).1 hx
      have e : x.1 ≠ page := fun e => hy (by rw [e])
      exact ⟨x, (mem_pages _ x).2 (by unfold updC; rw [if_neg e]; exact hx'), rfl⟩
  · rw [hasP_iff]
    exact ⟨(page, s), (mem_pages _ _).2 ⟨by simp [updC], hp⟩, rfl⟩
/-- How many nodes a Set would make of it. -/
theorem nodes_set {E : Nat → Nat → Sl} {H : Nat → Prop} (tr : Tr E H N C root) (hti : Tight N C) {page : Nat} {a : Nat → Nat} {m : Nat} (h : Way N page a m) (hp : page < 4096) (s : Sl) : nodesL (pages (updC C page (some s))) + m = nodesL (pages C) + 4 := by
  have key : ∀ l, 1 ≤ l → l ≤ 3 → ∀ M, pre page l < M → (List.range M).countP (hasP (pages (updC C page (some s))) l) + (if l < m then 1 else 0) = (List.range M).countP (hasP (pages C) l) + 1 := by
    intro l h1 h3 M hM
    obtain ⟨k1, k2⟩ := hasP_set C hp s l
    have := countP_upd (List.range M) List.nodup_range (pre page l) (List.mem_range.2 hM) (hasP (pages C) l) (hasP (pages (updC C page (some s))) l) k1
    rw [k2, ← hasP_node tr hti l _ h1 h3, h.rest tr l h3] at this
    simpa using this
  have a1 := key 1 (by omega) (by omega) 8 (pre_lt hp (by omega))
  have a2 := key 2 (by omega) (by omega) 64 (pre_lt hp (by omega))
  have a3 := key 3 (by omega) (by omega) 512 (pre_lt hp (by omega))
  have h1 := h.one
  have h4 := h.four
  unfold nodesL
  obtain rfl | rfl | rfl | rfl : m = 1 ∨ m = 2 ∨ m = 3 ∨ m = 4 := by omega
  all_goals (simp at a1 a2 a3; omega)
end

/-! ## Counting by neighbours -/
def chg (d : Nat) (L : List (Nat × Sl)) : Nat → Nat
  | 0 => 0
  | i + 1 => chg d L i + (if i = 0 ∨ (L.getD i (0, .zero)).1 / d ≠ (L.getD (i - 1) (0, .zero)).1 / d then 1 else 0)
theorem chg_count {d l M : Nat} (hd : 8 ^ (4 - l) = d) {L : List (Nat × Sl)} (hr : Rise L) (hM : ∀ x ∈ L, x.1 / d < M) : ∀ i, i ≤ L.length → chg d L i = (List.range M).countP (hasP (L.take i) l) := by
  intro i
  induction i with
  | zero =>
    intro _
    simp only [chg, List.take_zero]
    symm
    rw [List.countP_eq_zero]
    intro q _
    simp [hasP]
  | succ i ih =>
    intro hi
    have hil : i < L.length := by omega
    have ih := ih (by omega)
    have htk : L.take (i + 1) = L.take i ++ [L[i]] := List.take_succ_eq_append_getElem hil
    have hgi : L.getD i (0, .zero) = L[i] := by simp [List.getD, hil]
    have hpre : ∀ p, pre p l = p / d := fun p => by rw [pre, hd]
    have hup := countP_upd (List.range M) List.nodup_range (L[i].1 / d) (List.mem_range.2 (hM _ (List.getElem_mem hil))) (hasP (L.take i) l) (hasP (L.take (i + 1)) l) (fun y hy => by
      rw [Bool.eq_iff_iff, hasP_iff, hasP_iff, htk]
      constructor
      · rintro ⟨x, hx, rfl⟩
        rcases List.mem_append.1 hx with hx | hx
        · exact ⟨x, hx, rfl⟩
        · have : x = L[i] := by simpa using hx
          rw [this, hpre] at hy
          exact absurd rfl hy
      · rintro ⟨x, hx, rfl⟩
        exact ⟨x, List.mem_append_left _ hx, rfl⟩)
    have h2 : hasP (L.take (i + 1)) l (L[i].1 / d) = true := by
      rw [hasP_iff]
      exact ⟨L[i], by rw [htk]; exact List.mem_append_right _ (List.mem_singleton.2 rfl), hpre _⟩
    have h1 : hasP (L.take i) l (L[i].1 / d) = true ↔ ¬ (i = 0 ∨ (L.getD i (0, .zero)).1 / d ≠ (L.getD (i - 1) (0, .zero)).1 / d) := by
      rw [hasP_iff]
      constructor
      · rintro ⟨x, hx, e⟩
        obtain ⟨j, hj, rfl⟩ := List.getElem_of_mem hx
        rw [List.length_take] at hj
        rw [List.getElem_take, hpre] at e
        have hi1 : i - 1 < L.length := by omega
        have hgj : L.getD (i - 1) (0, .zero) = L[i - 1] := by simp [List.getD, hi1]
        rw [hgi, hgj]
        have a1 : L[j].1 ≤ L[i - 1].1 := by
          by_cases e2 : j = i - 1
          · subst e2; exact Nat.le_refl _
          · exact Nat.le_of_lt (List.pairwise_iff_getElem.1 hr j (i - 1) (by omega) hi1 (by omega))
        have a2 : L[i - 1].1 < L[i].1 := List.pairwise_iff_getElem.1 hr (i - 1) i hi1 hil (by omega)
        have b1 := Nat.div_le_div_right (c := d) a1
        have b2 := Nat.div_le_div_right (c := d) (Nat.le_of_lt a2)
        omega
      · intro h
        have hi0 : i ≠ 0 := fun e => h (.inl e)
        have he : (L.getD i (0, .zero)).1 / d = (L.getD (i - 1) (0, .zero)).1 / d := Decidable.byContradiction fun e => h (.inr e)
        have hi1 : i - 1 < L.length := by omega
        have hgj : L.getD (i - 1) (0, .zero) = L[i - 1] := by simp [List.getD, hi1]
        rw [hgi, hgj] at he
        refine ⟨L[i - 1], ?_, by rw [hpre, he]⟩
        rw [List.mem_iff_getElem]
        exact ⟨i - 1, by rw [List.length_take]; omega, by rw [List.getElem_take]⟩
    rw [h2] at hup
    simp only [chg]
    rw [ih]
    by_cases h : i = 0 ∨ (L.getD i (0, .zero)).1 / d ≠ (L.getD (i - 1) (0, .zero)).1 / d
    · have h3 : hasP (L.take i) l (L[i].1 / d) = false := by rw [← Bool.not_eq_true, h1]; exact fun x => x h
      rw [h3] at hup
      rw [if_pos h]
      simpa using hup.symm
    · have h3 := h1.2 h
      rw [h3] at hup
      rw [if_neg h]
      simpa using hup.symm
theorem chg_nodes (C : Nat → Option Sl) : 1 + chg 512 (pages C) (pages C).length + chg 64 (pages C) (pages C).length + chg 8 (pages C) (pages C).length = nodesL (pages C) := by
  have hr := rise_pages C
  have hm : ∀ x ∈ pages C, x.1 < 4096 := fun x hx => ((mem_pages C x).1 hx).2
  unfold nodesL
  rw [chg_count (l := 1) (M := 8) rfl hr (fun x hx => by have := hm x hx; omega) _ (Nat.le_refl _), chg_count (l := 2) (M := 64) rfl hr (fun x hx => by have := hm x hx; omega) _ (Nat.le_refl _), chg_count (l := 3) (M := 512) rfl hr (fun x hx => by have := hm x hx; omega) _ (Nat.le_refl _)]
  rw [List.take_length]
end Go.Proofs.YtacpfkimjaihgaaDoor

/-! ## RRef -/
namespace Go.Proofs.YtacpfkimjaihgaaDoor
open Go.RowKit
set_option linter.unusedVariables false

set_option maxHeartbeats 1000000 in
theorem rmay_any (w : World) (s : Sl) : Calls Tryd.prog 43 #[s.enc] w fun e w' => e = .returned (.bool (may s)) ∧ Below w.heap.size w w' := by
  obtain ⟨a, b, c, d, n⟩ := s
  obtain ⟨v, hv⟩ : ∃ v, may ⟨a, b, c, d, n⟩ = v := ⟨_, rfl⟩
  rw [hv]
  simp only [may] at hv
  unfold Sl.enc
  simp only []
  go_enter Tryd.func43, Tryd.ntmps43
  go_wp2
  all_goals (go_ret; exact ⟨congrArg (fun b => Ending.returned (.bool b)) (by subst hv; cases a <;> cases b <;> cases c <;> cases d <;> simp_all <;> omega), by go_grown⟩)
theorem rmay_is (w : World) (s : Sl) (v : Value) (hv : s.enc = v) (b : Bool) (hb : may s = b) : Calls Tryd.prog 43 #[v] w fun e w' => e = .returned (.bool b) ∧ Below w.heap.size w w' := by
  subst hv hb
  exact rmay_any w s
set_option maxHeartbeats 2000000 in
theorem rpack_any (w : World) (s : Sl) : Calls Tryd.prog 45 #[s.enc] w fun e w' => e = .returned (.int .u64 (packS s)) ∧ Below w.heap.size w w' := by
  obtain ⟨v, hv⟩ : ∃ v, packS s = v := ⟨_, rfl⟩
  rw [hv]
  cases hm : may s with
  | false =>
    have : v = 0 := by rw [← hv]; simp [packS, hm]
    subst this
    obtain ⟨a, b, c, d, n⟩ := s
    unfold Sl.enc
    simp only []
    go_enter Tryd.func45, Tryd.ntmps45
    go_wp2_with (go_at_call 43; refine (rmay_is _ ⟨a, b, c, d, n⟩ _ rfl false hm).mono ?_; rintro e w' ⟨rfl, hb⟩)
    go_ret
    exact ⟨rfl, ((Below.refl _ w).alloc (Nat.le_refl _) _).trans (hb.mono (by simp))⟩
  | true =>
    have hn := may_n hm
    obtain ⟨a, b, c, d, n⟩ := s
    simp only [packS, hm, if_true] at hv
    simp only [] at hn
    have w1 : IntKind.u64.wrap n = n := by simp [IntKind.wrap, IntKind.bits, IntKind.signed]; omega
    have w2 : IntKind.u64.wrap (n * 16) = n * 16 := by simp [IntKind.wrap, IntKind.bits, IntKind.signed]; omega
    have hc0 : ∀ j, (w.alloc (.cells #[.bool a, .bool b, .bool c, .bool d, .int .i64 n] 68)).cell? ⟨w.heap.size, j, none⟩ = #[Value.bool a, .bool b, .bool c, .bool d, .int .i64 n][j]? := fun j => cell_of_row _ _ j _ _ _ (heap_alloc_new _ _)
    have q0 := hc0 0
    have q1 := hc0 1
    have q2 := hc0 2
    have q3 := hc0 3
    have q4 := hc0 4
    simp only [List.getElem?_toArray, List.getElem?_cons_zero, List.getElem?_cons_succ] at q0 q1 q2 q3 q4
    unfold Sl.enc
    simp only []
    go_enter Tryd.func45, Tryd.ntmps45
    go_wp2_with (
      go_at_call 43; refine (rmay_is _ ⟨a, b, c, d, n⟩ _ rfl true hm).mono ?_; rintro e w1' ⟨rfl, hb⟩;
      have r0 := (hb.cell (p := ⟨w.heap.size, 0, none⟩) (by simp)).trans q0;
      have r1 := (hb.cell (p := ⟨w.heap.size, 1, none⟩) (by simp)).trans q1;
      have r2 := (hb.cell (p := ⟨w.heap.size, 2, none⟩) (by simp)).trans q2;
      have r3 := (hb.cell (p := ⟨w.heap.size, 3, none⟩) (by simp)).trans q3;
      have r4 := (hb.cell (p := ⟨w.heap.size, 4, none⟩) (by simp)).trans q4)
    all_goals
      go_ret
      refine ⟨?_, ((Below.refl _ w).alloc (Nat.le_refl _) _).trans (hb.mono (by simp))⟩
      refine congrArg (fun z => Ending.returned (.int .u64 z)) ?_
      rw [← hv]
      simp_all [b1, IntKind.wrap, IntKind.bits, IntKind.signed]
      try omega
set_option maxHeartbeats 2000000 in
theorem runpack_any (w : World) (x : Int) (h0 : 0 ≤ x) (h1 : x < 18446744073709551616) : Calls Tryd.prog 47 #[.int .u64 x] w fun e w' => e = .returned (unpackB x).enc ∧ Below w.heap.size w w' := by
  obtain ⟨v, hv⟩ : ∃ v, unpackB x = v := ⟨_, rfl⟩
  rw [hv]
  have e16 : x.tdiv 16 = x / 16 := Int.tdiv_eq_ediv_of_nonneg h0
  have e2 : x.tdiv 2 = x / 2 := Int.tdiv_eq_ediv_of_nonneg h0
  have e4 : x.tdiv 4 = x / 4 := Int.tdiv_eq_ediv_of_nonneg h0
  have e8 : x.tdiv 8 = x / 8 := Int.tdiv_eq_ediv_of_nonneg h0
  have t1 : x.tmod 2 = x % 2 := Int.tmod_eq_emod_of_nonneg h0
  have t2 : (x / 2).tmod 2 = x / 2 % 2 := Int.tmod_eq_emod_of_nonneg (by omega)
  have t4 : (x / 4).tmod 2 = x / 4 % 2 := Int.tmod_eq_emod_of_nonneg (by omega)
  have t8 : (x / 8).tmod 2 = x / 8 % 2 := Int.tmod_eq_emod_of_nonneg (by omega)
  by_cases hg : x / 16 > 1048576
  · have : v = .zero := by rw [← hv]; unfold unpackB; rw [if_pos hg]
    subst this
    unfold Sl.enc Sl.zero
    simp only []
    have hgd : ((1048576 : Int) < x / 16) := hg
    go_enter Tryd.func47, Tryd.ntmps47
    go_wp2
    go_returns
    exact ⟨rfl, by go_grown⟩
  · have b1 : (x % 2 == 1) = (unS x).here := rfl
    have b2 : (x / 2 % 2 == 1) = (unS x).write := rfl
    have b4 : (x / 4 % 2 == 1) = (unS x).copy := rfl
    have b8 : (x / 8 % 2 == 1) = (unS x).out := rfl
    have hn : (unS x).n = x / 16 := rfl
    have hgd : ¬ ((1048576 : Int) < x / 16) := hg
    have hw : IntKind.i64.wrap (x / 16) = x / 16 := by rw [IntKind.wrap_i64]; omega
    have hu : unpackB x = if may (unS x) then unS x else .zero := by unfold unpackB; rw [if_neg hg]
    generalize unS x = s at b1 b2 b4 b8 hn hu
    obtain ⟨a, b, c, d, n⟩ := s
    simp only [] at b1 b2 b4 b8 hn
    subst hn
    have n0 := (Below.heap_alloc (w.alloc (.cells #[.bool false, .bool false, .bool false, .bool false, .int .i64 0] 68)) (.cells #[.bool a, .bool b, .bool c, .bool d, .int .i64 (x / 16)] 68) w.heap.size (by simp)).trans (heap_alloc_new w (.cells #[.bool false, .bool false, .bool false, .bool false, .int .i64 0] 68))
    have n1 := heap_alloc_new (w.alloc (.cells #[.bool false, .bool false, .bool false, .bool false, .int .i64 0] 68)) (.cells #[.bool a, .bool b, .bool c, .bool d, .int .i64 (x / 16)] 68)
    rw [World.size_alloc] at n1
    cases hm : may ⟨a, b, c, d, x / 16⟩ with
    | false =>
      rw [hm] at hu
      have : v = .zero := by rw [← hv, hu]; rfl
      subst this
      clear hv hu
      unfold Sl.enc Sl.zero
      simp only []
      go_enter Tryd.func47, Tryd.ntmps47
      go_wp2_with (
        go_at_call 43; refine (rmay_is _ ⟨a, b, c, d, x / 16⟩ _ rfl false hm).mono ?_; rintro e w' ⟨rfl, hb⟩;
        have m0 := (hb.block w.heap.size (by simp; omega)).trans n0;
        have m1 := (hb.block (w.heap.size + 1) (by simp)).trans n1;
        have z0 := (cell_of_row w' _ 0 _ _ _ m0);
        have z1 := (cell_of_row w' _ 1 _ _ _ m0);
        have z2 := (cell_of_row w' _ 2 _ _ _ m0);
        have z3 := (cell_of_row w' _ 3 _ _ _ m0);
        have z4 := (cell_of_row w' _ 4 _ _ _ m0);
        have y0 := (cell_of_row w' _ 0 _ _ _ m1);
        have y1 := (cell_of_row w' _ 1 _ _ _ m1);
        have y2 := (cell_of_row w' _ 2 _ _ _ m1);
        have y3 := (cell_of_row w' _ 3 _ _ _ m1);
        have y4 := (cell_of_row w' _ 4 _ _ _ m1);
        simp only [List.getElem?_toArray, List.getElem?_cons_zero, List.getElem?_cons_succ] at z0 z1 z2 z3 z4 y0 y1 y2 y3 y4;
        have f0 := frozen_of_row w' _ 0 _ _ m0;
        have f1 := frozen_of_row w' _ 1 _ _ m0;
        have f2 := frozen_of_row w' _ 2 _ _ m0;
        have f3 := frozen_of_row w' _ 3 _ _ m0;
        have f4 := frozen_of_row w' _ 4 _ _ m0;
        have HB : Below w.heap.size w w' := (((Below.refl _ w).alloc (Nat.le_refl _) _).alloc (by simp) _).trans (hb.mono (by simp; omega)))
      refine bodyPost_ret (by simp [results, Tryd.results47, go_sem, z0, z1, z2, z3, z4]; try rfl) rfl ?_
      exact ⟨rfl, (((((HB.setCell (p := ⟨w.heap.size, 0, none⟩) (Nat.le_refl _) _).setCell (p := ⟨w.heap.size, 1, none⟩) (Nat.le_refl _) _).setCell (p := ⟨w.heap.size, 2, none⟩) (Nat.le_refl _) _).setCell (p := ⟨w.heap.size, 3, none⟩) (Nat.le_refl _) _).setCell (p := ⟨w.heap.size, 4, none⟩) (Nat.le_refl _) _)⟩
    | true =>
      rw [hm] at hu
      have : v = ⟨a, b, c, d, x / 16⟩ := by rw [← hv, hu]; rfl
      subst this
      clear hv hu
      unfold Sl.enc
      simp only []
      go_enter Tryd.func47, Tryd.ntmps47
      go_wp2_with (
        go_at_call 43; refine (rmay_is _ ⟨a, b, c, d, x / 16⟩ _ rfl true hm).mono ?_; rintro e w' ⟨rfl, hb⟩;
        have m0 := (hb.block w.heap.size (by simp; omega)).trans n0;
        have m1 := (hb.block (w.heap.size + 1) (by simp)).trans n1;
        have z0 := (cell_of_row w' _ 0 _ _ _ m0);
        have z1 := (cell_of_row w' _ 1 _ _ _ m0);
        have z2 := (cell_of_row w' _ 2 _ _ _ m0);
        have z3 := (cell_of_row w' _ 3 _ _ _ m0);
        have z4 := (cell_of_row w' _ 4 _ _ _ m0);
        have y0 := (cell_of_row w' _ 0 _ _ _ m1);
        have y1 := (cell_of_row w' _ 1 _ _ _ m1);
        have y2 := (cell_of_row w' _ 2 _ _ _ m1);
        have y3 := (cell_of_row w' _ 3 _ _ _ m1);
        have y4 := (cell_of_row w' _ 4 _ _ _ m1);
        simp only [List.getElem?_toArray, List.getElem?_cons_zero, List.getElem?_cons_succ] at z0 z1 z2 z3 z4 y0 y1 y2 y3 y4;
        have f0 := frozen_of_row w' _ 0 _ _ m0;
        have f1 := frozen_of_row w' _ 1 _ _ m0;
        have f2 := frozen_of_row w' _ 2 _ _ m0;
        have f3 := frozen_of_row w' _ 3 _ _ m0;
        have f4 := frozen_of_row w' _ 4 _ _ m0;
        have HB : Below w.heap.size w w' := (((Below.refl _ w).alloc (Nat.le_refl _) _).alloc (by simp) _).trans (hb.mono (by simp; omega)))
      refine bodyPost_ret (by simp [results, Tryd.results47, go_sem, z0, z1, z2, z3, z4]; try rfl) rfl ?_
      exact ⟨rfl, (((((HB.setCell (p := ⟨w.heap.size, 0, none⟩) (Nat.le_refl _) _).setCell (p := ⟨w.heap.size, 1, none⟩) (Nat.le_refl _) _).setCell (p := ⟨w.heap.size, 2, none⟩) (Nat.le_refl _) _).setCell (p := ⟨w.heap.size, 3, none⟩) (Nat.le_refl _) _).setCell (p := ⟨w.heap.size, 4, none⟩) (Nat.le_refl _) _)⟩
end Go.Proofs.YtacpfkimjaihgaaDoor

/-! ## RRefT -/
namespace Go.Proofs.YtacpfkimjaihgaaDoor
open Go.RowKit
set_option linter.unusedVariables false

/-- The document's table at r: its row lies in blocks from B0 on. -/
structure RT (w : World) (r B0 : Nat) (L : List (Nat × Sl)) (a : Option Addr) (c : Nat) : Prop where
  tab : w.heap[r]? = some (.cells #[.slice a L.length c] 95 (0, 0))
  sp : SpAt w B0 (.slice a L.length c) L a c
section
variable {w w' : World} {r B0 : Nat} {L : List (Nat × Sl)} {a : Option Addr} {c : Nat}
theorem RT.lt (h : RT w r B0 L a c) : r < w.heap.size := lt_of_block h.tab
theorem RT.mods {S : List Nat} (h : RT w r B0 L a c) (hm : Mods S w w') (hr : r ∉ S) (hS : ∀ k, k ∈ S → k < B0) : RT w' r B0 L a c :=
  ⟨(hm.block r h.lt hr).trans h.tab, h.sp.mods hm hS⟩
theorem RT.stay (h : RT w r B0 L a c) (hb : Below w.heap.size w w') : RT w' r B0 L a c := h.mods (S := []) (Mods.of_below hb) (by simp) (fun k hk => by simp at hk)
theorem RT.c0 (h : RT w r B0 L a c) : w.cell? ⟨r, 0, none⟩ = some (.slice a L.length c) := by rw [cell_of_row w r 0 _ _ _ h.tab]; rfl
theorem RT.fr (h : RT w r B0 L a c) (j : Nat) : w.frozen? ⟨r, j, none⟩ = false := frozen_of_row w r j _ _ h.tab

theorem pages_len (C : Nat → Option Sl) : (pages C).length ≤ 4096 := pgL_len C 0 4 0
theorem pages_lt (C : Nat → Option Sl) {x : Nat × Sl} (h : x ∈ pages C) : x.1 < 4096 := ((mem_pages C x).1 h).2

theorem getV_some {C : Nat → Option Sl} {page : Nat} {s : Sl} (h : C page = some s) : getV C page = (s, 0) := by simp [getV, h]
theorem getV_none {C : Nat → Option Sl} {page : Nat} (h : C page = none) : getV C page = (.zero, 12) := by simp [getV, h]
set_option maxRecDepth 100000 in
set_option maxHeartbeats 4000000 in
theorem rget_any {C : Nat → Option Sl} (h : RT w r B0 (pages C) a c) (page : Nat) (hp : page < 4096) :
    Calls Tryd.prog 59 #[.pointer (some ⟨r, 0, none⟩), .int .i64 page] w fun e w' => e = .returned (.tuple #[(getV C page).1.enc, .int .i64 (getV C page).2]) ∧ Below w.heap.size w w' := by
  have hlen := pages_len C
  have H := Lib.hid (h.stay (below1 w (.cells #[.bool false, .bool false, .bool false, .bool false, .int .i64 0] 68)))
  have HB := Lib.hid (below1 w (.cells #[.bool false, .bool false, .bool false, .bool false, .int .i64 0] 68))
  have nB := heap_alloc_new w (.cells #[.bool false, .bool false, .bool false, .bool false, .int .i64 0] 68)
  have hlt := H.out.lt
  obtain ⟨q, hq⟩ : ∃ q, getV C page = q := ⟨_, rfl⟩
  rw [hq]
  have HQ := Lib.hid hq
  have c0 := H.out.c0
  have hcap := H.out.sp.cap
  obtain ⟨n, hn⟩ : ∃ n, (pages C).length = n := ⟨_, rfl⟩
  rw [hn] at hlen c0 hcap
  have HN := Lib.hid hn
  clear hn hq h
  obtain ⟨⟨r1, r2, r3, r4, r5⟩, r6⟩ := q
  simp only [Sl.enc]
  go_enter Tryd.func59, Tryd.ntmps59
  go_wp2_with fail
  generalize w.alloc (.cells #[.bool false, .bool false, .bool false, .bool false, .int .i64 0] 68) = W at *
  obtain ⟨B, hBe⟩ : ∃ B, w.heap.size = B := ⟨_, rfl⟩
  rw [hBe] at nB HB ⊢
  have HBE := Lib.hid hBe
  have hBl := lt_of_block nB
  have z0 : W.cell? ⟨B, 0, none⟩ = some (.bool false) := by rw [cell_of_row _ _ _ _ _ _ nB]; rfl
  have z1 : W.cell? ⟨B, 1, none⟩ = some (.bool false) := by rw [cell_of_row _ _ _ _ _ _ nB]; rfl
  have z2 : W.cell? ⟨B, 2, none⟩ = some (.bool false) := by rw [cell_of_row _ _ _ _ _ _ nB]; rfl
  have z3 : W.cell? ⟨B, 3, none⟩ = some (.bool false) := by rw [cell_of_row _ _ _ _ _ _ nB]; rfl
  have z4 : W.cell? ⟨B, 4, none⟩ = some (.int .i64 0) := by rw [cell_of_row _ _ _ _ _ _ nB]; rfl
  have f0 := frozen_of_row W B 0 _ _ nB
  have f1 := frozen_of_row W B 1 _ _ nB
  have f2 := frozen_of_row W B 2 _ _ nB
  have f3 := frozen_of_row W B 3 _ _ nB
  have f4 := frozen_of_row W B 4 _ _ nB
  clear hBe nB
  go_loopw [6] (fun i wr => ∃ j : Nat, j ≤ n ∧ i = .int .i64 j ∧ Hid (∀ k x, k < j → (pages C)[k]? = some x → x.1 ≠ page) ∧ W = wr) (fun i _ => n - (intOf i).toNat)
  case atStart => exact ⟨0, by omega, rfl, Lib.hid (fun k x hk => by omega), rfl⟩
  case round =>
    obtain ⟨j, hj, rfl, HJ, rfl⟩ := hrel
    by_cases hlj : j < n
    · obtain ⟨x, hx⟩ : ∃ x, (pages C)[j]? = some x := ⟨_, List.getElem?_eq_getElem (by rw [HN.out]; exact hlj)⟩
      obtain ⟨g, rfl, g1, g2, g3, g4, g5, g6, g7, g8⟩ := H.out.sp.six j x hx
      by_cases he : x.1 = page
      · have hC := ((mem_pages C x).1 (List.mem_of_getElem? hx)).1
        have hg := HQ.out
        rw [← he, getV_some hC] at hg
        obtain ⟨P, s1, s2, s3, s4, s5⟩ := x
        injection hg with hg1 hg2
        injection hg1 with e1 e2 e3 e4 e5
        subst e1 e2 e3 e4 e5 hg2
        simp only at g3 g4 g5 g6 g7 g8 he
        have he' : ((P : Int) = page) := by rw [he]
        clear hx hC HJ HQ
        go_wp2_with fail
        refine bodyPost_ret (by simp [results, Tryd.results59, go_sem, z0, z1, z2, z3, z4]; try rfl) rfl ?_
        rw [HBE.out]
        exact ⟨rfl, (((((HB.out.setCell (p := ⟨B, 0, none⟩) (Nat.le_refl _) _).setCell (p := ⟨B, 1, none⟩) (Nat.le_refl _) _).setCell (p := ⟨B, 2, none⟩) (Nat.le_refl _) _).setCell (p := ⟨B, 3, none⟩) (Nat.le_refl _) _).setCell (p := ⟨B, 4, none⟩) (Nat.le_refl _) _)⟩
      · have HJ2 := Lib.hid (show ∀ k x, k < j + 1 → (pages C)[k]? = some x → x.1 ≠ page from fun k y hk hy => by
          by_cases e : k = j
          · subst e
            rw [hx] at hy
            cases hy
            exact he
          · exact HJ.out k y (by omega) hy)
        have he' : ¬ ((x.1 : Int) = page) := by omega
        obtain ⟨P, s1, s2, s3, s4, s5⟩ := x
        simp only at g3 he'
        clear hx HJ HQ he g4 g5 g6 g7 g8
        go_wp2_with fail
        go_roundw
        case rel => exact ⟨j + 1, by omega, by go_num, HJ2, trivial⟩
        case measure => simp [intOf]; omega
    · obtain rfl : j = n := by omega
      have hC : C page = none := by
        cases hc : C page with
        | none => rfl
        | some s =>
          obtain ⟨k, hk, e⟩ := List.getElem_of_mem ((mem_pages C (page, s)).2 ⟨hc, hp⟩)
          exact absurd rfl (HJ.out k (page, s) (by have := HN.out; omega) (by rw [← e]; exact List.getElem?_eq_getElem hk))
      have hg := HQ.out
      rw [getV_none hC] at hg
      injection hg with hg1 hg2
      injection hg1 with e1 e2 e3 e4 e5
      subst e1 e2 e3 e4 e5 hg2
      clear HJ HQ hC
      go_wp2_with fail
      refine bodyPost_ret (by simp [results, Tryd.results59, go_sem, z0, z1, z2, z3, z4]; try rfl) rfl ?_
      have hB3 := (((((HB.out.setCell (p := ⟨B, 0, none⟩) (Nat.le_refl _) (.bool false)).setCell (p := ⟨B, 1, none⟩) (Nat.le_refl _) (.bool false)).setCell (p := ⟨B, 2, none⟩) (Nat.le_refl _) (.bool false)).setCell (p := ⟨B, 3, none⟩) (Nat.le_refl _) (.bool false)).setCell (p := ⟨B, 4, none⟩) (Nat.le_refl _) (.int .i64 0))
      exact ⟨rfl, HBE.out.symm ▸ hB3⟩

theorem own_spots_al {w : World} {base : Nat} {v : Value} {l : List (Nat × Sl)} (h : w.ownsRow base 82 6 v l.length (l.flatMap spotL)) : ∃ a c, SpAt w base v l a c ∧ ((a = none ∧ c = 0) ∨ ∃ g, a = some ⟨g, 0, none⟩) := by
  obtain ⟨a, c, hs⟩ := own_spots h
  refine ⟨a, c, hs, ?_⟩
  have hv := hs.val
  rcases h.2 with ⟨rfl, h0⟩ | ⟨g, cap, cur, rfl, _⟩
  · injection hv with h1 h2 h3
    exact .inl ⟨h1.symm, h3.symm⟩
  · injection hv with h1 h2 h3
    exact .inr ⟨g, h1.symm⟩
/-- The pages but one, of the first ones. -/
def wof (L : List (Nat × Sl)) (page j : Nat) : List (Nat × Sl) := (L.take j).filter (fun x => decide (x.1 ≠ page))
theorem wof_succ {L : List (Nat × Sl)} {page j : Nat} {x : Nat × Sl} (hx : L[j]? = some x) : wof L page (j + 1) = if x.1 = page then wof L page j else wof L page j ++ [x] := by
  obtain ⟨h1, rfl⟩ := List.getElem?_eq_some_iff.1 hx
  unfold wof
  rw [List.take_succ_eq_append_getElem h1, List.filter_append]
  by_cases e : L[j].1 = page
  · simp [e]
  · simp [e]
theorem wof_len (L : List (Nat × Sl)) (page j : Nat) : (wof L page j).length ≤ j := by
  unfold wof
  have h1 := List.length_filter_le (fun x : Nat × Sl => decide (x.1 ≠ page)) (L.take j)
  rw [List.length_take] at h1
  omega
set_option maxRecDepth 100000 in
set_option maxHeartbeats 4000000 in
theorem rwithout_any {C : Nat → Option Sl} (h : RT w r B0 (pages C) a c) (page : Nat) :
    Calls Tryd.prog 88 #[.pointer (some ⟨r, 0, none⟩), .int .i64 page] w fun e w' => ∃ v a' c', e = .returned v ∧ SpAt w' w.heap.size v (pages (updC C page none)) a' c' ∧ ((a' = none ∧ c' = 0) ∨ ∃ g, a' = some ⟨g, 0, none⟩) ∧ Below w.heap.size w w' := by
  obtain ⟨i0, hi, hz0, hz1, hz2⟩ := info_parts Tryd.info82
  have hlen := pages_len C
  have H := Lib.hid h
  have hlt := h.lt
  have hcap := h.sp.cap
  obtain ⟨n, hn⟩ : ∃ n, (pages C).length = n := ⟨_, rfl⟩
  have c0' := h.c0
  rw [hn] at hlen hcap c0'
  have HN := Lib.hid hn
  clear h hn
  go_enter Tryd.func88, Tryd.ntmps88
  go_wp2_with fail
  go_loopw [5, 6] (fun v i wr => ∃ j : Nat, j ≤ n ∧ i = .int .i64 j ∧ wr.ownsRow w.heap.size 82 6 v (wof (pages C) page j).length ((wof (pages C) page j).flatMap spotL) ∧ Below w.heap.size w wr) (fun _ i _ => n - (intOf i).toNat)
  case atStart => exact ⟨0, by omega, rfl, World.ownsRow_nil _ _ _ _, Below.refl _ _⟩
  case round =>
    obtain ⟨j, hj, rfl, hown, hbel⟩ := hrel
    have c0 := (hbel.cell (p := ⟨r, 0, none⟩) hlt).trans c0'
    have hsz := hbel.size
    have hlr : r < wr.heap.size := by omega
    by_cases hlj : j < n
    · obtain ⟨x, hx⟩ : ∃ x, (pages C)[j]? = some x := ⟨_, List.getElem?_eq_getElem (by rw [HN.out]; exact hlj)⟩
      obtain ⟨g, rfl, g1, g2, g3, g4, g5, g6, g7, g8⟩ := (H.out.sp.mods (S := []) (Mods.of_below hbel) (fun k hk => by simp at hk)).six j x hx
      have hwl := wof_len (pages C) page j
      have hws := wof_succ (page := page) hx
      by_cases he : x.1 = page
      · rw [if_pos he] at hws
        have HWS := Lib.hid hws
        have he' : ((x.1 : Int) = page) := by rw [he]
        obtain ⟨P, s1, s2, s3, s4, s5⟩ := x
        simp only at g3 he'
        clear hx hws he hwl g4 g5 g6 g7 g8
        go_wp2_with fail
        go_roundw
        case rel => exact ⟨j + 1, by omega, by go_num, by rw [HWS.out]; exact hown, hbel⟩
        case measure => simp [intOf]; omega
      · rw [if_neg he] at hws
        have HWS := Lib.hid hws
        have he' : ¬ ((x.1 : Int) = page) := by omega
        obtain ⟨P, s1, s2, s3, s4, s5⟩ := x
        simp only at g3 g4 g5 g6 g7 g8 he'
        clear hx hws he
        go_wp2_with (at_builtin; refine wpList_append_new wr rfl _ _ 76 rfl w.heap.size 82 i0 _ 6 24 Tryd.underlying76 hi hz0 hz1 hz2 rfl (by decide) hown rfl 1 (spotL (P, ⟨s1, s2, s3, s4, s5⟩)) rfl rfl rfl (by simp [spotL, Value.oneCell']) (by unfold maxLen; omega) (by omega) hsz ?_; intro v' w1 hown' hgrow _)
        clear g3 g4 g5 g6 g7 g8
        go_roundw
        case rel =>
          refine ⟨j + 1, by omega, by go_num, ?_, hbel.grown hgrow hsz (fun r hr => (hown.lt r hr).1)⟩
          rw [HWS.out]
          simpa using hown'
        case measure => simp [intOf]; omega
    · obtain rfl : j = n := by omega
      go_wp2_with fail
      go_ret
      have hw : wof (pages C) page j = pages (updC C page none) := by
        rw [← without_pages, wof, List.take_of_length_le (by rw [HN.out]; exact Nat.le_refl _)]
      rw [hw] at hown
      obtain ⟨a', c', hs, hal⟩ := own_spots_al hown
      exact ⟨_, a', c', rfl, hs, hal, hbel⟩
end
end Go.Proofs.YtacpfkimjaihgaaDoor

/-! ## RRefN -/
namespace Go.Proofs.YtacpfkimjaihgaaDoor
open Go.RowKit
set_option linter.unusedVariables false

def byD : Nat → Nat
  | 0 => 512
  | 1 => 64
  | _ => 8
/-- Of the levels before. -/
def lev (L : List (Nat × Sl)) : Nat → Nat
  | 0 => 1
  | k + 1 => lev L k + chg (byD k) L L.length
theorem chg_le (d : Nat) (L : List (Nat × Sl)) (i : Nat) : chg d L i ≤ i := by
  induction i with
  | zero => simp [chg]
  | succ i ih => unfold chg; split <;> omega
theorem lev_le (L : List (Nat × Sl)) (k : Nat) : lev L k ≤ 1 + k * L.length := by
  induction k with
  | zero => simp [lev]
  | succ k ih =>
    have := chg_le (byD k) L L.length
    rw [lev, Nat.succ_mul]
    omega
theorem lev_nodes (C : Nat → Option Sl) : lev (pages C) 3 = nodesL (pages C) := by
  rw [← chg_nodes]
  simp only [lev, byD]
theorem chg_zero (d : Nat) (L : List (Nat × Sl)) : chg d L 1 = 1 := by simp [chg]
theorem chg_succ (d : Nat) {L : List (Nat × Sl)} {i : Nat} {x y : Nat × Sl} (hi : i ≠ 0) (hx : L[i]? = some x) (hy : L[i - 1]? = some y) : chg d L (i + 1) = chg d L i + (if x.1 / d ≠ y.1 / d then 1 else 0) := by
  have e1 : L.getD i (0, .zero) = x := by simp [List.getD, hx]
  have e2 : L.getD (i - 1) (0, .zero) = y := by simp [List.getD, hy]
  rw [chg, e1, e2]
  simp [hi]

set_option maxRecDepth 100000 in
set_option maxHeartbeats 4000000 in
theorem rnodes_any (w : World) (B0 n c : Nat) (a : Option Addr) (C : Nat → Option Sl) (hn : (pages C).length = n) (h : SpAt w B0 (.slice a n c) (pages C) a c) :
    Calls Tryd.prog 61 #[.slice a n c] w fun e w' => e = .returned (.int .i64 (nodesL (pages C) : Int)) ∧ Below w.heap.size w w' := by
  have hlen := pages_len C
  rw [hn] at hlen
  have hcap := h.cap
  rw [hn] at hcap
  have hmem := fun (j : Nat) (x : Nat × Sl) (hx : (pages C)[j]? = some x) => pages_lt C (List.mem_of_getElem? hx)
  rw [← lev_nodes]
  have hlev := lev_le (pages C)
  rw [hn] at hlev
  generalize pages C = L at *
  have HN := Lib.hid hn
  have HM := Lib.hid hmem
  have HL := Lib.hid hlev
  have nB := heap_alloc_new w (.cells #[.int .i64 512, .int .i64 64, .int .i64 8] 33)
  have HB := Lib.hid (below1 w (.cells #[.int .i64 512, .int .i64 64, .int .i64 8] 33))
  have H := Lib.hid (h.below (below1 w (.cells #[.int .i64 512, .int .i64 64, .int .i64 8] 33)))
  clear hn hmem hlev h
  go_enter Tryd.func61, Tryd.ntmps61
  go_wp2_with fail
  generalize w.alloc (.cells #[.int .i64 512, .int .i64 64, .int .i64 8] 33) = W at *
  obtain ⟨B, hBe⟩ : ∃ B, w.heap.size = B := ⟨_, rfl⟩
  have HBE := Lib.hid hBe
  rw [hBe] at nB HB ⊢
  have hBl := lt_of_block nB
  have hby : ∀ k, k < 3 → W.cell? ⟨B, k, none⟩ = some (.int .i64 (byD k : Int)) := by
    intro k hk
    rw [cell_of_row _ _ _ _ _ _ nB]
    obtain rfl | rfl | rfl : k = 0 ∨ k = 1 ∨ k = 2 := by omega
    all_goals rfl
  have HBY := Lib.hid hby
  clear hby nB hBe
  go_loopw [3, 5] (fun nv kv wx => ∃ k : Nat, k ≤ 3 ∧ kv = .int .i64 k ∧ nv = .int .i64 (lev L k : Int) ∧ Hid (Below W.heap.size W wx)) (fun _ i _ => 3 - (intOf i).toNat)
  case atStart => exact ⟨0, by omega, rfl, rfl, Lib.hid (Below.refl _ _)⟩
  case round =>
    obtain ⟨k, hk, rfl, rfl, HBW⟩ := hrel
    by_cases hk3 : k < 3
    · have hlk := HL.out k
      have hlk2 : lev L k ≤ 20000 := by
        have := Nat.mul_le_mul (Nat.le_of_lt hk3) hlen
        omega
      have HLV := Lib.hid (show lev L (k + 1) = lev L k + chg (byD k) L n by rw [lev, HN.out])
      have hd : 0 < byD k ∧ byD k ≤ 512 := by
        obtain rfl | rfl | rfl : k = 0 ∨ k = 1 ∨ k = 2 := by omega
        all_goals decide
      have HD := Lib.hid (HBY.out k hk3)
      obtain ⟨d, hdd⟩ : ∃ d, byD k = d := ⟨_, rfl⟩
      rw [hdd] at HLV hd HD
      generalize lev L k = lk at *
      clear hlk hdd
      go_wp2_with fail
      rw [show decide ((k : Int) < 3) = true from decide_eq_true (by omega)]
      go_loopw [3, 6] (fun nv iv wx => ∃ i : Nat, i ≤ n ∧ iv = .int .i64 i ∧ nv = .int .i64 ((lk + chg d L i : Nat) : Int) ∧ Hid (Below W.heap.size W wx)) (fun _ i _ => n - (intOf i).toNat)
      case atStart => exact ⟨0, by omega, rfl, rfl, HBW⟩
      case round =>
        clear HBW
        obtain ⟨i, hi, rfl, rfl, HBW⟩ := hrel
        have hci := chg_le d L i
        by_cases hin : i < n
        · by_cases hi0 : i = 0
          · subst hi0
            have HC := Lib.hid (chg_zero d L)
            clear hci
            simp only [chg, Nat.add_zero]
            go_wp2_with fail
            go_quiet (fail)
            go_wp2_with fail
            refine ⟨⟨1, by omega, by simp, by rw [HC.out]; simp, Lib.hid (HBW.out.drewN' _)⟩, by simp [intOf]; omega⟩
          · obtain ⟨q, hq, hqi, hqn⟩ : ∃ q : Nat, i - 1 = q ∧ (i : Int) - 1 = (q : Int) ∧ q < n := ⟨i - 1, rfl, by omega, by omega⟩
            have hii : ((i : Int) == 0) = false := by simp; omega
            obtain ⟨x, hx⟩ : ∃ x, L[i]? = some x := ⟨_, List.getElem?_eq_getElem (by rw [HN.out]; exact hin)⟩
            obtain ⟨y, hy⟩ : ∃ y, L[q]? = some y := ⟨_, List.getElem?_eq_getElem (by rw [HN.out]; omega)⟩
            have hs := chg_succ d hi0 hx (by rw [hq]; exact hy)
            clear hq hi0
            have hx4 := HM.out _ _ hx
            have hy4 := HM.out _ _ hy
            obtain ⟨g, rfl, g1, g2, g3, g4, g5, g6, g7, g8⟩ := (H.out.below HBW.out).six i x hx
            obtain ⟨g', hg', k1, k2, k3, k4, k5, k6, k7, k8⟩ := (H.out.below HBW.out).six q y hy
            injection hg' with hg'
            injection hg' with hg'
            subst hg'
            have cd := (HBW.out.cell (p := ⟨B, k, none⟩) hBl).trans HD.out
            have hBl2 : B < wr.heap.size := Nat.lt_of_lt_of_le hBl HBW.out.size
            have t1 : ((x.1 : Nat) : Int).tdiv (d : Int) = ((x.1 / d : Nat) : Int) := by rw [Int.tdiv_eq_ediv_of_nonneg (by omega)]; rfl
            have t2 : ((y.1 : Nat) : Int).tdiv (d : Int) = ((y.1 / d : Nat) : Int) := by rw [Int.tdiv_eq_ediv_of_nonneg (by omega)]; rfl
            have b1 : x.1 / d ≤ 4095 := Nat.le_trans (Nat.div_le_self _ _) (by omega)
            have b2 : y.1 / d ≤ 4095 := Nat.le_trans (Nat.div_le_self _ _) (by omega)
            have hd0 : (d : Int) ≠ 0 := by omega
            obtain ⟨P, q1, q2, q3, q4, q5⟩ := x
            obtain ⟨R, r1, r2, r3, r4, r5⟩ := y
            simp only at g3 k3 t1 t2 b1 b2 hs hx4 hy4
            generalize P / d = u at *
            generalize R / d = v at *
            clear g4 g5 g6 g7 g8 k4 k5 k6 k7 k8 hx hy
            by_cases he : u = v
            · rw [if_neg (by simpa using he)] at hs
              have HC := Lib.hid hs
              have he' : (u : Int) = v := by rw [he]
              subst he
              clear hs
              go_wp2_with fail
              go_quiet (fail)
              go_wp2_with fail
              go_roundw
              case rel =>
                exact ⟨i + 1, by omega, by go_num, by rw [HC.out]; go_num, Lib.hid (HBW.out.drewN' _)⟩
              case measure => simp [intOf]; omega
            · rw [if_pos he] at hs
              have HC := Lib.hid hs
              have he' : ¬ ((u : Int) = v) := by omega
              clear hs
              go_wp2_with fail
              go_quiet (fail)
              go_wp2_with fail
              go_roundw
              case rel =>
                exact ⟨i + 1, by omega, by go_num, by rw [HC.out]; go_num, Lib.hid (HBW.out.drewN' _)⟩
              case measure => simp [intOf]; omega
        · obtain rfl : i = n := by omega
          go_wp2_with fail
          go_roundw
          case rel => exact ⟨k + 1, by omega, by go_num, by rw [HLV.out], HBW⟩
          case measure => simp [intOf]; omega
    · obtain rfl : k = 3 := by omega
      go_wp2_with fail
      go_ret
      exact ⟨rfl, HBE.out ▸ HB.out.trans (HBW.out.mono (HBE.out ▸ HB.out.size))⟩
end Go.Proofs.YtacpfkimjaihgaaDoor

/-! ## RRefW -/
namespace Go.Proofs.YtacpfkimjaihgaaDoor
open Go.RowKit
set_option linter.unusedVariables false

theorem flat_take (L : List (Nat × Sl)) (i : Nat) {j : Nat} {u : Value} (h : ((L.take i).flatMap spotL)[j]? = some u) : (L.flatMap spotL)[j]? = some u := by
  have : L.flatMap spotL = (L.take i).flatMap spotL ++ (L.drop i).flatMap spotL := by rw [← List.flatMap_append, List.take_append_drop]
  rw [this, List.getElem?_append_left (List.getElem?_eq_some_iff.1 h).1]
  exact h
theorem flat_drop (L : List (Nat × Sl)) (i : Nat) (hi : i ≤ L.length) {j : Nat} {u : Value} (h : ((L.drop i).flatMap spotL)[j]? = some u) : (L.flatMap spotL)[i * 6 + j]? = some u := by
  have : L.flatMap spotL = (L.take i).flatMap spotL ++ (L.drop i).flatMap spotL := by rw [← List.flatMap_append, List.take_append_drop]
  have hl : ((L.take i).flatMap spotL).length = i * 6 := by rw [spotL_len, List.length_take, Nat.min_eq_left hi]
  rw [this, List.getElem?_append_right (by omega), hl, Nat.add_sub_cancel_left]
  exact h
theorem spotL_one (x : Nat × Sl) : ∀ u ∈ spotL x, u.oneCell' = true := by
  obtain ⟨P, s1, s2, s3, s4, s5⟩ := x
  simp [spotL, Value.oneCell']
theorem flat_one (L : List (Nat × Sl)) : ∀ u ∈ L.flatMap spotL, u.oneCell' = true := by
  intro u hu
  obtain ⟨x, _, hx⟩ := List.mem_flatMap.1 hu
  exact spotL_one x u hx
theorem SpAt.flat {w : World} {base : Nat} {v : Value} {L : List (Nat × Sl)} {g c : Nat} (h : SpAt w base v L (some ⟨g, 0, none⟩) c) {j : Nat} {u : Value} (hu : (L.flatMap spotL)[j]? = some u) : w.cell? ⟨g, j, none⟩ = some u := by
  have hl := (List.getElem?_eq_some_iff.1 hu).1
  rw [spotL_len] at hl
  obtain ⟨x, hx⟩ : ∃ x, L[j / 6]? = some x := ⟨_, List.getElem?_eq_getElem (by omega)⟩
  have hs := spotL_at L (j / 6) x hx (j % 6) (Nat.mod_lt _ (by decide))
  rw [show j / 6 * 6 + j % 6 = j by omega, hu] at hs
  obtain ⟨g', hg, _, _, hc⟩ := h.at_ _ _ hx
  injection hg with hg
  injection hg with hg
  subst hg
  have := hc (j % 6) u hs.symm
  rw [show j / 6 * 6 + j % 6 = j by omega] at this
  exact this
theorem SpAt.low {w : World} {b b' : Nat} {v : Value} {L : List (Nat × Sl)} {a : Option Addr} {c : Nat} (h : SpAt w b v L a c) (hb : b' ≤ b) : SpAt w b' v L a c :=
  ⟨h.val, h.cap, fun i x hx => by obtain ⟨g, h1, h2, h3⟩ := h.at_ i x hx; exact ⟨g, h1, by omega, h3⟩⟩

section
variable {w w' : World} {r B0 : Nat} {a : Option Addr} {c : Nat}
set_option maxRecDepth 100000 in
set_option maxHeartbeats 4000000 in
theorem rwith_any {C : Nat → Option Sl} (h : RT w r B0 (pages C) a c) (page : Nat) (hp : page < 4096) (s : Sl) (v : Value) (hv : s.enc = v) :
    Calls Tryd.prog 89 #[.pointer (some ⟨r, 0, none⟩), .int .i64 page, v] w fun e w' => ∃ v a' c', e = .returned v ∧ SpAt w' w.heap.size v (pages (updC C page (some s))) a' c' ∧ Below w.heap.size w w' := by
  subst hv
  obtain ⟨s1, s2, s3, s4, s5⟩ := s
  simp only [Sl.enc]
  obtain ⟨i0, hi', hz0, hz1, hz2⟩ := info_parts Tryd.info82
  have H := Lib.hid (h.stay (below1 w (.cells #[.bool s1, .bool s2, .bool s3, .bool s4, .int .i64 s5] 68)))
  have hb0 := below1 w (.cells #[.bool s1, .bool s2, .bool s3, .bool s4, .int .i64 s5] 68)
  have nB := heap_alloc_new w (.cells #[.bool s1, .bool s2, .bool s3, .bool s4, .int .i64 s5] 68)
  clear h
  go_enter Tryd.func89, Tryd.ntmps89
  go_wp2_with fail
  generalize w.alloc (.cells #[.bool s1, .bool s2, .bool s3, .bool s4, .int .i64 s5] 68) = W at *
  obtain ⟨B, hBe⟩ : ∃ B, w.heap.size = B := ⟨_, rfl⟩
  have HBE := Lib.hid hBe
  rw [hBe] at nB hb0 ⊢
  clear hBe
  have hBl := lt_of_block nB
  refine (rwithout_any H.out page).mono ?_
  rintro e w1 ⟨v1, al, cl, rfl, hsp, hal, hb1⟩
  have hlen := pages_len (updC C page none)
  have HWP := Lib.hid (fun (i : Nat) h1 h2 => with_pages C (i := i) hp ⟨s1, s2, s3, s4, s5⟩ h1 h2)
  generalize pages (updC C page none) = L at *
  obtain rfl := hsp.val
  have hcap := hsp.cap
  obtain ⟨n, hn⟩ : ∃ n, L.length = n := ⟨_, rfl⟩
  rw [hn] at hsp hlen hcap ⊢
  have HN := Lib.hid hn
  have HSP := Lib.hid hsp
  have HAL := Lib.hid hal
  have hB1 : Below B w w1 := hb0.trans (hb1.mono (HBE.out ▸ hb0.size))
  have hs1 := hB1.size
  have n1 := (hb1.block B hBl).trans nB
  have hl1 := lt_of_block n1
  have z0 : w1.cell? ⟨B, 0, none⟩ = some (.bool s1) := by rw [cell_of_row _ _ _ _ _ _ n1]; rfl
  have z1 : w1.cell? ⟨B, 1, none⟩ = some (.bool s2) := by rw [cell_of_row _ _ _ _ _ _ n1]; rfl
  have z2 : w1.cell? ⟨B, 2, none⟩ = some (.bool s3) := by rw [cell_of_row _ _ _ _ _ _ n1]; rfl
  have z3 : w1.cell? ⟨B, 3, none⟩ = some (.bool s4) := by rw [cell_of_row _ _ _ _ _ _ n1]; rfl
  have z4 : w1.cell? ⟨B, 4, none⟩ = some (.int .i64 s5) := by rw [cell_of_row _ _ _ _ _ _ n1]; rfl
  clear hn hsp hal H nB n1
  go_upto_block 0 with (fail)
  go_cut [8] (fun kv wx => ∃ i : Nat, i ≤ n ∧ kv = .int .i64 i ∧ Hid (∀ j x, j < i → L[j]? = some x → x.1 < page) ∧ Hid (∀ x, L[i]? = some x → page ≤ x.1) ∧ w1 = wx)
  case first =>
    go_wp2_with fail
    go_loopw [8] (fun kv wx => ∃ i : Nat, i ≤ n ∧ kv = .int .i64 i ∧ Hid (∀ j x, j < i → L[j]? = some x → x.1 < page) ∧ w1 = wx) (fun i _ => n - (intOf i).toNat)
    case atStart => exact ⟨0, by omega, rfl, Lib.hid (fun j x h => by omega), rfl⟩
    case round =>
      obtain ⟨i, hi, rfl, HI, rfl⟩ := hrel
      by_cases hin : i < n
      · obtain ⟨x, hx⟩ : ∃ x, L[i]? = some x := ⟨_, List.getElem?_eq_getElem (by rw [HN.out]; exact hin)⟩
        obtain ⟨g, rfl, g1, g2, g3, g4, g5, g6, g7, g8⟩ := HSP.out.six i x hx
        by_cases hxp : x.1 < page
        · have HI2 := Lib.hid (show ∀ j y, j < i + 1 → L[j]? = some y → y.1 < page from fun j y hj hy => by
            by_cases e : j = i
            · subst e
              rw [hx] at hy
              cases hy
              exact hxp
            · exact HI.out j y (by omega) hy)
          have hd : decide (x.1 < page) = true := decide_eq_true hxp
          obtain ⟨P, q1, q2, q3, q4, q5⟩ := x
          simp only at g3 hd hxp
          clear hx g4 g5 g6 g7 g8
          go_wp2_with fail
          go_roundw
          case rel => exact ⟨i + 1, by omega, by go_num, HI2, trivial⟩
          case measure => simp [intOf]; omega
        · have HI2 := Lib.hid (show ∀ y, L[i]? = some y → page ≤ y.1 from fun y hy => by
            rw [hx] at hy
            cases hy
            omega)
          have hd : decide (x.1 < page) = false := decide_eq_false hxp
          obtain ⟨P, q1, q2, q3, q4, q5⟩ := x
          simp only at g3 hd hxp
          clear hx g4 g5 g6 g7 g8
          go_wp2_with fail
          go_meet
          exact ⟨i, by omega, rfl, HI, HI2, rfl⟩
      · obtain rfl : i = n := by omega
        go_wp2_with fail
        go_meet
        exact ⟨i, by omega, rfl, HI, Lib.hid (fun x hx => by have := (List.getElem?_eq_some_iff.1 hx).1; rw [HN.out] at this; omega), rfl⟩
  case rest =>
    obtain ⟨i, hi, rfl, HI, HI2, rfl⟩ := hcut
    have hfin := HWP.out i HI.out HI2.out
    have HFIN := Lib.hid hfin
    clear hfin HWP HI HI2
    rcases HAL.out with ⟨rfl, rfl⟩ | ⟨g, rfl⟩
    · obtain rfl : n = 0 := by omega
      obtain rfl : i = 0 := by omega
      have HN1 := Lib.hid (World.ownsRow_nil w1 w1.heap.size 82 6)
      go_upto_region 7 with (fail)
      go_upto_region 8 with (at_builtin; refine wpList_append_new w1 rfl _ _ 76 rfl w1.heap.size 82 i0 _ 6 24 Tryd.underlying76 hi' hz0 hz1 hz2 rfl (by decide) HN1.out rfl 1 (spotL (page, ⟨s1, s2, s3, s4, s5⟩)) rfl rfl rfl (spotL_one _) (by unfold maxLen; omega) (by omega) (Nat.le_refl _) ?_; intro v2 w2 hown2 hgrow2 _; have HO2 := Lib.hid hown2; have HG2 := Lib.hid hgrow2; clear hown2 hgrow2)
      go_wp2_with (at_builtin; refine wpList_append_own_none rfl _ _ 76 rfl w1.heap.size 82 i0 6 Tryd.underlying76 hi' _ _ _ rfl HO2.out rfl ?_)
      go_ret
      have hL : L = [] := List.eq_nil_of_length_eq_zero HN.out
      subst hL
      have hf := HFIN.out
      simp only [List.take_nil, List.drop_nil, List.nil_append] at hf
      have ho := HO2.out
      obtain ⟨a', c', hs⟩ := own_spots (l := [(page, ⟨s1, s2, s3, s4, s5⟩)]) (by simpa using ho)
      rw [hf] at hs
      have hb2 : Below w1.heap.size w1 w2 := (Below.refl _ _).grown HG2.out (Nat.le_refl _) (fun k hk => by simp [Value.ownBlock] at hk)
      exact ⟨_, rfl, ⟨a', c', hs.low (by omega)⟩, by rw [HBE.out]; exact hB1.trans (hb2.mono (by omega))⟩
    · have HN1 := Lib.hid (World.ownsRow_nil w1 w1.heap.size 82 6)
      have hl1 : (((L.take i).flatMap spotL)).length = i * 6 := by rw [spotL_len, List.length_take, Nat.min_eq_left (by rw [HN.out]; exact hi)]
      have HL1 := Lib.hid hl1
      clear hl1
      have HC1 := Lib.hid (show ∀ j u, ((L.take i).flatMap spotL)[j]? = some u → w1.cell? ((⟨g, 0, none⟩ : Addr).add j) = some u from fun j u hj => by
        have e0 : (⟨g, 0, none⟩ : Addr).add j = ⟨g, j, none⟩ := by unfold Addr.add; split <;> simp_all
        rw [e0]
        exact HSP.out.flat (flat_take L i hj))
      go_upto_region 7 with (at_builtin; refine wpList_append_own w1 rfl _ _ 76 rfl w1.heap.size 82 i0 _ 6 24 Tryd.underlying76 hi' hz0 hz1 hz2 rfl (by decide) _ _ _ rfl HN1.out ⟨g, 0, none⟩ i cl ((L.take i).flatMap spotL) rfl HL1.out HC1.out (flat_one _) (by unfold maxLen; omega) (by omega) (Nat.le_refl _) ?_; intro v2 w2 hown2 hgrow2 _; have HO2 := Lib.hid hown2; have HG2 := Lib.hid (show w1.grownBy w2 none from hgrow2); clear hown2 hgrow2)
      have hb2 : Below w1.heap.size w1 w2 := (Below.refl _ _).grown HG2.out (Nat.le_refl _) (fun k hk => by cases hk)
      have hB2 : Below B w w2 := hB1.trans (hb2.mono (by have := HBE.out; omega))
      have hs2 := hb2.size
      have hl2 : B < w2.heap.size := by omega
      replace z0 := (hb2.cell (p := ⟨B, 0, none⟩) hl1).trans z0
      replace z1 := (hb2.cell (p := ⟨B, 1, none⟩) hl1).trans z1
      replace z2 := (hb2.cell (p := ⟨B, 2, none⟩) hl1).trans z2
      replace z3 := (hb2.cell (p := ⟨B, 3, none⟩) hl1).trans z3
      replace z4 := (hb2.cell (p := ⟨B, 4, none⟩) hl1).trans z4
      have HSP2 := Lib.hid (HSP.out.below hb2)
      clear HC1 HN1 HG2
      go_upto_region 8 with (at_builtin; refine wpList_append_new w2 rfl _ _ 76 rfl w1.heap.size 82 i0 _ 6 24 Tryd.underlying76 hi' hz0 hz1 hz2 rfl (by decide) HO2.out rfl 1 (spotL (page, ⟨s1, s2, s3, s4, s5⟩)) rfl rfl rfl (spotL_one _) (by unfold maxLen; omega) (by omega) hs2 ?_; intro v3 w3 hown3 hgrow3 _; have HO3 := Lib.hid hown3; have HG3 := Lib.hid hgrow3; clear hown3 hgrow3)
      have hb3 : Below w1.heap.size w2 w3 := (Below.refl _ _).grown HG3.out hs2 (fun k hk => (HO2.out.lt k hk).1)
      have hs3 := hb3.size
      have HSP3 := Lib.hid (HSP.out.below (hb2.trans hb3))
      clear HSP HSP2 z0 z1 z2 z3 z4
      have hfinal : ∀ (m : Nat) (v4 : Value) (w4 : World), m = n - i → w4.ownsRow w1.heap.size 82 6 v4 (0 + i + 1 + m) ([] ++ List.flatMap spotL (List.take i L) ++ spotL (page, ⟨s1, s2, s3, s4, s5⟩) ++ (L.drop i).flatMap spotL) → w3.grownBy w4 v3.ownBlock →
          (∃ a' c', SpAt w4 w.heap.size v4 (pages (updC C page (some ⟨s1, s2, s3, s4, s5⟩))) a' c') ∧ Below B w w4 := by
        intro m v4 w4 hm ho hg
        have hl : (pages (updC C page (some ⟨s1, s2, s3, s4, s5⟩))).length = 0 + i + 1 + m := by
          rw [← HFIN.out, List.length_append, List.length_cons, List.length_take, List.length_drop, HN.out, Nat.min_eq_left hi]
          omega
        have hf : ([] ++ List.flatMap spotL (List.take i L) ++ spotL (page, ⟨s1, s2, s3, s4, s5⟩) ++ (L.drop i).flatMap spotL) = (pages (updC C page (some ⟨s1, s2, s3, s4, s5⟩))).flatMap spotL := by
          rw [← HFIN.out, List.flatMap_append, List.flatMap_cons, List.nil_append, List.append_assoc]
        rw [← hl, hf] at ho
        obtain ⟨a', c', hs⟩ := own_spots ho
        have hb4 : Below w1.heap.size w3 w4 := (Below.refl _ _).grown hg (by omega) (fun k hk => (HO3.out.lt k hk).1)
        have hBw := HBE.out
        exact ⟨⟨a', c', hs.low (by omega)⟩, hB2.trans ((hb3.trans hb4).mono (by omega))⟩
      have HF := Lib.hid hfinal
      clear hfinal HFIN
      by_cases hci : cl = i
      · have hni : n = i := by omega
        subst hci hni
        have hdr : (L.drop n).flatMap spotL = [] := by rw [List.drop_of_length_le (by rw [HN.out]; exact Nat.le_refl _)]; rfl
        have HDR := Lib.hid hdr
        clear hdr
        go_wp2_with (at_builtin; refine wpList_append_own w3 rfl _ _ 76 rfl w1.heap.size 82 i0 _ 6 24 Tryd.underlying76 hi' hz0 hz1 hz2 rfl (by decide) _ _ _ rfl HO3.out ⟨g, 0, none⟩ 0 0 [] rfl rfl (fun j u h => by cases h) (fun u h => by cases h) (by unfold maxLen; omega) (by omega) (by omega) ?_; intro v4 w4 hown4 hgrow4 _; have HO4 := Lib.hid (HF.out 0 v4 w4 (by omega) (by rw [HDR.out]; exact hown4) hgrow4); clear hown4 hgrow4)
        go_ret
        exact ⟨_, rfl, HO4.out.1, by rw [HBE.out]; exact HO4.out.2⟩
      · have hl4 : ((L.drop i).flatMap spotL).length = (n - i) * 6 := by rw [spotL_len, List.length_drop, HN.out]
        have HL4 := Lib.hid hl4
        clear hl4
        have HC4 := Lib.hid (show ∀ j u, ((L.drop i).flatMap spotL)[j]? = some u → w3.cell? ((⟨g, i * 6, none⟩ : Addr).add j) = some u from fun j u hj => by
          have e0 : (⟨g, i * 6, none⟩ : Addr).add j = ⟨g, i * 6 + j, none⟩ := by unfold Addr.add; split <;> simp_all
          rw [e0]
          exact HSP3.out.flat (flat_drop L i (by rw [HN.out]; exact hi) hj))
        go_wp2_with (at_builtin; refine wpList_append_own w3 rfl _ _ 76 rfl w1.heap.size 82 i0 _ 6 24 Tryd.underlying76 hi' hz0 hz1 hz2 rfl (by decide) _ _ _ rfl HO3.out ⟨g, i * 6, none⟩ (n - i) (cl - i) ((L.drop i).flatMap spotL) rfl HL4.out HC4.out (flat_one _) (by unfold maxLen; omega) (by omega) (by omega) ?_; intro v4 w4 hown4 hgrow4 _; have HO4 := Lib.hid (HF.out (n - i) v4 w4 rfl hown4 hgrow4); clear hown4 hgrow4)
        go_ret
        obtain ⟨⟨a', c', h1⟩, h2⟩ := HO4.out
        exact ⟨_, a', c', rfl, h1, by rw [HBE.out]; exact h2⟩
end
end Go.Proofs.YtacpfkimjaihgaaDoor

/-! ## RRefS -/
namespace Go.Proofs.YtacpfkimjaihgaaDoor
open Go.RowKit
set_option linter.unusedVariables false

section
variable {w w' : World} {r B0 : Nat} {a : Option Addr} {c : Nat} {C : Nat → Option Sl}
theorem rset_range (w : World) (r : Nat) (page : Int) (hp : page < 0 ∨ 4096 ≤ page) (s : Sl) (v : Value) (hv : s.enc = v) (fr : Int) : Calls Tryd.prog 60 #[.pointer (some ⟨r, 0, none⟩), .int .i64 page, v, .int .i64 fr] w fun e w' => e = .returned (.int .i64 14) ∧ Below w.heap.size w w' := by
  subst hv
  obtain ⟨q1, q2, q3, q4, q5⟩ := s
  simp only [Sl.enc]
  by_cases h1 : page < 0
  · go_enter Tryd.func60, Tryd.ntmps60
    go_wp2
    go_ret
    exact ⟨rfl, (Below.refl _ _).alloc (Nat.le_refl _) _⟩
  · have h2 : 4096 ≤ page := by omega
    go_enter Tryd.func60, Tryd.ntmps60
    go_wp2
    go_ret
    exact ⟨rfl, (Below.refl _ _).alloc (Nat.le_refl _) _⟩
theorem rset_arg (w : World) (r page : Nat) (hp : page < 4096) (s : Sl) (v : Value) (hv : s.enc = v) (hs : may s = false) (fr : Int) : Calls Tryd.prog 60 #[.pointer (some ⟨r, 0, none⟩), .int .i64 page, v, .int .i64 fr] w fun e w' => e = .returned (.int .i64 1) ∧ Below w.heap.size w w' := by
  subst hv
  obtain ⟨q1, q2, q3, q4, q5⟩ := s
  simp only [Sl.enc]
  have hb0 := below1 w (.cells #[.bool q1, .bool q2, .bool q3, .bool q4, .int .i64 q5] 68)
  go_enter Tryd.func60, Tryd.ntmps60
  go_wp2_with (go_at_call 43; refine (rmay_is _ ⟨q1, q2, q3, q4, q5⟩ _ rfl false hs).mono ?_; rintro e w1 ⟨rfl, hb1⟩)
  go_ret
  exact ⟨rfl, hb0.trans (hb1.mono hb0.size)⟩
theorem nodesL_le (C : Nat → Option Sl) : nodesL (pages C) ≤ 585 := by
  have h : ∀ l M, (List.range M).countP (hasP (pages C) l) ≤ M := fun l M => by
    have := List.countP_le_length (p := hasP (pages C) l) (l := List.range M)
    simpa using this
  have a1 := h 1 8
  have a2 := h 2 64
  have a3 := h 3 512
  unfold nodesL
  omega
theorem rn_is (w : World) (B0 n c : Nat) (a : Option Addr) (C : Nat → Option Sl) (x : Nat) (hx : nodesL (pages C) = x) (hn : (pages C).length = n) (h : SpAt w B0 (.slice a n c) (pages C) a c) :
    Calls Tryd.prog 61 #[.slice a n c] w fun e w' => e = .returned (.int .i64 (x : Int)) ∧ Below w.heap.size w w' := by
  subst hx
  exact rnodes_any w B0 n c a C hn h

/-- What Set leaves. -/
def RSetPost (w : World) (r B0 : Nat) (L L' : List (Nat × Sl)) (d fr : Int) (e : Ending) (w' : World) : Prop :=
  Mods [r] w w' ∧ ((fr < d ∧ e = .returned (.int .i64 18) ∧ ∃ a c, RT w' r B0 L a c) ∨ (d ≤ fr ∧ e = .returned (.int .i64 0) ∧ ∃ a c, RT w' r B0 L' a c))
set_option maxRecDepth 100000 in
set_option maxHeartbeats 8000000 in
theorem rset_any (h : RT w r B0 (pages C) a c) (hB0 : B0 ≤ w.heap.size) (hr : r < B0) (page : Nat) (hp : page < 4096) (s : Sl) (v : Value) (hv : s.enc = v) (hs : may s = true) (fr : Int) (f0 : 0 ≤ fr) (f1 : fr ≤ 4096) :
    Calls Tryd.prog 60 #[.pointer (some ⟨r, 0, none⟩), .int .i64 page, v, .int .i64 fr] w (RSetPost w r B0 (pages C) (pages (updC C page (some s))) ((nodesL (pages (updC C page (some s))) : Int) - (nodesL (pages C) : Int)) fr) := by
  subst hv
  obtain ⟨s1, s2, s3, s4, s5⟩ := s
  simp only [Sl.enc]
  have H := Lib.hid (h.stay (below1 w (.cells #[.bool s1, .bool s2, .bool s3, .bool s4, .int .i64 s5] 68)))
  have hb0 := below1 w (.cells #[.bool s1, .bool s2, .bool s3, .bool s4, .int .i64 s5] 68)
  have nB := heap_alloc_new w (.cells #[.bool s1, .bool s2, .bool s3, .bool s4, .int .i64 s5] 68)
  have hlt := h.lt
  clear h
  obtain ⟨x1, hx1⟩ : ∃ x1, nodesL (pages (updC C page (some ⟨s1, s2, s3, s4, s5⟩))) = x1 := ⟨_, rfl⟩
  obtain ⟨x0, hx0⟩ : ∃ x0, nodesL (pages C) = x0 := ⟨_, rfl⟩
  have hle1 := nodesL_le (updC C page (some ⟨s1, s2, s3, s4, s5⟩))
  have hle0 := nodesL_le C
  rw [hx1, hx0]
  rw [hx1] at hle1
  rw [hx0] at hle0
  have HX1 := Lib.hid hx1
  have HX0 := Lib.hid hx0
  clear hx1 hx0
  go_enter Tryd.func60, Tryd.ntmps60
  go_upto_region 3 with (fail)
  generalize w.alloc (.cells #[.bool s1, .bool s2, .bool s3, .bool s4, .int .i64 s5] 68) = W at *
  obtain ⟨B, hBe⟩ : ∃ B, w.heap.size = B := ⟨_, rfl⟩
  have HBE := Lib.hid hBe
  rw [hBe] at nB hb0 hlt ⊢
  clear hBe
  have hBl := lt_of_block nB
  have z0 : W.cell? ⟨B, 0, none⟩ = some (.bool s1) := by rw [cell_of_row _ _ _ _ _ _ nB]; rfl
  have z1 : W.cell? ⟨B, 1, none⟩ = some (.bool s2) := by rw [cell_of_row _ _ _ _ _ _ nB]; rfl
  have z2 : W.cell? ⟨B, 2, none⟩ = some (.bool s3) := by rw [cell_of_row _ _ _ _ _ _ nB]; rfl
  have z3 : W.cell? ⟨B, 3, none⟩ = some (.bool s4) := by rw [cell_of_row _ _ _ _ _ _ nB]; rfl
  have z4 : W.cell? ⟨B, 4, none⟩ = some (.int .i64 s5) := by rw [cell_of_row _ _ _ _ _ _ nB]; rfl
  go_wp2_with fail
  refine (rmay_is _ ⟨s1, s2, s3, s4, s5⟩ _ rfl true hs).mono ?_
  rintro e w1 ⟨rfl, hb1⟩
  have H1 := Lib.hid (H.out.stay hb1)
  have hB1 : Below B w w1 := hb0.trans (hb1.mono (HBE.out ▸ hb0.size))
  have n1 := (hb1.block B hBl).trans nB
  have hl1 := lt_of_block n1
  replace z0 : w1.cell? ⟨B, 0, none⟩ = some (.bool s1) := by rw [cell_of_row _ _ _ _ _ _ n1]; rfl
  replace z1 : w1.cell? ⟨B, 1, none⟩ = some (.bool s2) := by rw [cell_of_row _ _ _ _ _ _ n1]; rfl
  replace z2 : w1.cell? ⟨B, 2, none⟩ = some (.bool s3) := by rw [cell_of_row _ _ _ _ _ _ n1]; rfl
  replace z3 : w1.cell? ⟨B, 3, none⟩ = some (.bool s4) := by rw [cell_of_row _ _ _ _ _ _ n1]; rfl
  replace z4 : w1.cell? ⟨B, 4, none⟩ = some (.int .i64 s5) := by rw [cell_of_row _ _ _ _ _ _ n1]; rfl
  clear H hb1 nB n1 hb0 hs hBl
  go_wp2_with fail
  refine (rwith_any H1.out page hp ⟨s1, s2, s3, s4, s5⟩ _ rfl).mono ?_
  rintro e w2 ⟨v1, al, cl, rfl, hsp, hb2⟩
  obtain rfl := hsp.val
  obtain ⟨n1, hn1⟩ : ∃ n1, (pages (updC C page (some ⟨s1, s2, s3, s4, s5⟩))).length = n1 := ⟨_, rfl⟩
  have HN1 := Lib.hid hn1
  rw [hn1] at hsp ⊢
  have HSP := Lib.hid (hsp.low (b' := B0) (by have := hB1.size; omega))
  have H2 := Lib.hid (H1.out.stay hb2)
  have hB2 : Below B w w2 := hB1.trans (hb2.mono (HBE.out ▸ hB1.size))
  obtain ⟨n0, hn0⟩ : ∃ n0, (pages C).length = n0 := ⟨_, rfl⟩
  have HN0 := Lib.hid hn0
  have HSP0 := Lib.hid (show SpAt w2 B0 (.slice a n0 c) (pages C) a c from hn0 ▸ H2.out.sp)
  have hlr2 : r < w2.heap.size := H2.out.lt
  have c0 : w2.cell? ⟨r, 0, none⟩ = some (.slice a n0 c) := by rw [← hn0]; exact H2.out.c0
  have HSPd := Lib.hid (HSP.out.below (Below.refl _ w2).drew)
  have HSP0d := Lib.hid (HSP0.out.below (Below.refl _ w2).drew)
  clear hsp hn1 hn0 H1 hb2 z0 z1 z2 z3 z4 hlt hl1 hB1
  have hwr : IntKind.i64.wrap ((x1 : Int) - x0) = (x1 : Int) - x0 := by rw [IntKind.wrap_i64]; omega
  by_cases hgt : fr < (x1 : Int) - x0
  · go_wp2_with fail
    go_region_with (first
      | (go_at_call 61; with_reducible refine (rn_is _ B0 n1 cl al _ x1 HX1.out HN1.out (HSP.out.below hbB')).mono ?_; rintro e w5 ⟨rfl, hb5'⟩; have hb5 := Lib.hid (hbB'.trans (hb5'.mono hbB'.size)))
      | (go_at_call 61; with_reducible refine (rn_is _ B0 n0 c a _ x0 HX0.out HN0.out (HSP0.out.below hbA')).mono ?_; rintro e w5 ⟨rfl, hb5'⟩; have hb5 := Lib.hid (hbA'.trans (hb5'.mono hbA'.size)))
      | (go_at_call 61; refine (rn_is _ B0 n1 cl al _ x1 HX1.out HN1.out HSPd.out).mono ?_; rintro e wA ⟨rfl, hbA⟩; have hbA' : Below w2.heap.size w2 wA := (Below.refl _ w2).drew.trans hbA; have cA := (hbA'.cell (p := ⟨r, 0, none⟩) hlr2).trans c0; have hlA : r < wA.heap.size := Nat.lt_of_lt_of_le hlr2 hbA'.size; clear hbA)
      | (go_at_call 61; refine (rn_is _ B0 n0 c a _ x0 HX0.out HN0.out HSP0d.out).mono ?_; rintro e wB ⟨rfl, hbB⟩; have hbB' : Below w2.heap.size w2 wB := (Below.refl _ w2).drew.trans hbB; have cB := (hbB'.cell (p := ⟨r, 0, none⟩) hlr2).trans c0; have hlB : r < wB.heap.size := Nat.lt_of_lt_of_le hlr2 hbB'.size; clear hbB))
    all_goals
      go_wp2_with fail
      go_ret
      refine ⟨?_, .inl ⟨hgt, rfl, a, c, H2.out.stay hb5.out⟩⟩
      exact Mods.of_below (HBE.out ▸ hB2.trans (hb5.out.mono (HBE.out ▸ hB2.size)))
  · have hge : (x1 : Int) - x0 ≤ fr := by omega
    go_wp2_with fail
    go_region_with (first
      | (go_at_call 61; with_reducible refine (rn_is _ B0 n1 cl al _ x1 HX1.out HN1.out (HSP.out.below hbB')).mono ?_; rintro e w5 ⟨rfl, hb5'⟩; have hb5 := Lib.hid (hbB'.trans (hb5'.mono hbB'.size)))
      | (go_at_call 61; with_reducible refine (rn_is _ B0 n0 c a _ x0 HX0.out HN0.out (HSP0.out.below hbA')).mono ?_; rintro e w5 ⟨rfl, hb5'⟩; have hb5 := Lib.hid (hbA'.trans (hb5'.mono hbA'.size)))
      | (go_at_call 61; refine (rn_is _ B0 n1 cl al _ x1 HX1.out HN1.out HSPd.out).mono ?_; rintro e wA ⟨rfl, hbA⟩; have hbA' : Below w2.heap.size w2 wA := (Below.refl _ w2).drew.trans hbA; have cA := (hbA'.cell (p := ⟨r, 0, none⟩) hlr2).trans c0; have hlA : r < wA.heap.size := Nat.lt_of_lt_of_le hlr2 hbA'.size; clear hbA)
      | (go_at_call 61; refine (rn_is _ B0 n0 c a _ x0 HX0.out HN0.out HSP0d.out).mono ?_; rintro e wB ⟨rfl, hbB⟩; have hbB' : Below w2.heap.size w2 wB := (Below.refl _ w2).drew.trans hbB; have cB := (hbB'.cell (p := ⟨r, 0, none⟩) hlr2).trans c0; have hlB : r < wB.heap.size := Nat.lt_of_lt_of_le hlr2 hbB'.size; clear hbB))
    all_goals
      have c5 := (hb5.out.cell (p := ⟨r, 0, none⟩) hlr2).trans c0
      have H5 := Lib.hid (H2.out.stay hb5.out)
      have HSP5 := Lib.hid (HSP.out.below hb5.out)
      have f5 := H5.out.fr 0
      have l5 := H5.out.lt
      go_wp2_with fail
      go_ret
      refine ⟨?_, .inr ⟨hge, rfl, al, cl, ?_, ?_⟩⟩
      · exact (Mods.of_below (HBE.out ▸ hB2.trans (hb5.out.mono (HBE.out ▸ hB2.size)))).setCell (p := ⟨r, 0, none⟩) (.inl (by simp)) _
      · rw [heap_setCell_same _ r 0 _ _ _ H5.out.tab, HN1.out]
        rfl
      · rw [HN1.out]
        exact HSP5.out.mods (S := [r]) ((Mods.refl _ _).setCell (p := ⟨r, 0, none⟩) (.inl (by simp)) _) (by simp; omega)
end
end Go.Proofs.YtacpfkimjaihgaaDoor

/-! ## RRefD -/
namespace Go.Proofs.YtacpfkimjaihgaaDoor
open Go.RowKit
set_option linter.unusedVariables false

theorem mods_set5' {w : World} {S : List Nat} {b : Nat} (hb : b ∈ S) (v0 v1 v2 v3 v4 : Value) : Mods S w (fiveAt w b v0 v1 v2 v3 v4) :=
  (((((Mods.refl S w).setCell (p := ⟨b, 0, none⟩) (.inl hb) v0).setCell (p := ⟨b, 1, none⟩) (.inl hb) v1).setCell (p := ⟨b, 2, none⟩) (.inl hb) v2).setCell (p := ⟨b, 3, none⟩) (.inl hb) v3).setCell (p := ⟨b, 4, none⟩) (.inl hb) v4
section
variable {w w' : World} {r B0 : Nat} {a : Option Addr} {c : Nat} {C : Nat → Option Sl}
/-- What Drop leaves. -/
def RDropPost (w : World) (r B0 : Nat) (L : List (Nat × Sl)) (q : Sl × Int) (e : Ending) (w' : World) : Prop :=
  e = .returned (.tuple #[q.1.enc, .int .i64 q.2]) ∧ Mods [r] w w' ∧ ∃ a c, RT w' r B0 L a c
theorem updC_same {page : Nat} (h : C page = none) : updC C page none = C := by
  funext p
  unfold updC
  split
  · rename_i e
    rw [e, h]
  · rfl
set_option maxRecDepth 100000 in
set_option maxHeartbeats 8000000 in
theorem rdrop_any (h : RT w r B0 (pages C) a c) (hB0 : B0 ≤ w.heap.size) (hr : r < B0) (page : Nat) (hp : page < 4096) :
    Calls Tryd.prog 58 #[.pointer (some ⟨r, 0, none⟩), .int .i64 page] w (RDropPost w r B0 (pages (updC C page none)) (getV C page)) := by
  have H := Lib.hid (h.stay (below1 w (.cells #[.bool false, .bool false, .bool false, .bool false, .int .i64 0] 68)))
  have hb0 := below1 w (.cells #[.bool false, .bool false, .bool false, .bool false, .int .i64 0] 68)
  have nB := heap_alloc_new w (.cells #[.bool false, .bool false, .bool false, .bool false, .int .i64 0] 68)
  have hlt := h.lt
  have H0 := Lib.hid h
  obtain ⟨q, hq⟩ : ∃ q, getV C page = q := ⟨_, rfl⟩
  have HQ := Lib.hid hq
  rw [hq]
  clear h
  go_enter Tryd.func58, Tryd.ntmps58
  go_wp2_with fail
  generalize w.alloc (.cells #[.bool false, .bool false, .bool false, .bool false, .int .i64 0] 68) = W at *
  obtain ⟨B, hBe⟩ : ∃ B, w.heap.size = B := ⟨_, rfl⟩
  have HBE := Lib.hid hBe
  rw [hBe] at nB hb0 hlt ⊢
  clear hBe
  have hBl := lt_of_block nB
  refine (rget_any H.out page hp).mono ?_
  rintro e w1 ⟨rfl, hb1⟩
  rw [hq]
  have H1 := Lib.hid (H.out.stay hb1)
  have hB1 : Below B w w1 := hb0.trans (hb1.mono (HBE.out ▸ hb0.size))
  have n1 := (hb1.block B hBl).trans nB
  have hl1 := lt_of_block n1
  cases hC : C page with
  | none =>
    rw [getV_none hC] at hq
    subst hq
    have hu := updC_same hC
    simp only [Sl.enc, Sl.zero]
    have H2 := Lib.hid (H1.out.stay (below1 w1 (.cells #[.bool false, .bool false, .bool false, .bool false, .int .i64 0] 68)))
    have hB2 : Below B w (w1.alloc (.cells #[.bool false, .bool false, .bool false, .bool false, .int .i64 0] 68)) := hB1.trans ((below1 _ _).mono (HBE.out ▸ hB1.size))
    have n2 := ((below1 w1 (.cells #[.bool false, .bool false, .bool false, .bool false, .int .i64 0] 68)).block B hl1).trans n1
    have m2 := heap_alloc_new w1 (.cells #[.bool false, .bool false, .bool false, .bool false, .int .i64 0] 68)
    clear H H1 hb1 nB n1 hb0 hBl
    go_upto_region 4 with (fail)
    generalize w1.alloc (.cells #[.bool false, .bool false, .bool false, .bool false, .int .i64 0] 68) = W2 at *
    generalize w1.heap.size = B2 at *
    have z0 := (cell_of_row W2 _ 0 _ _ _ n2)
    have z1 := (cell_of_row W2 _ 1 _ _ _ n2)
    have z2 := (cell_of_row W2 _ 2 _ _ _ n2)
    have z3 := (cell_of_row W2 _ 3 _ _ _ n2)
    have z4 := (cell_of_row W2 _ 4 _ _ _ n2)
    have y0 := (cell_of_row W2 _ 0 _ _ _ m2)
    have y1 := (cell_of_row W2 _ 1 _ _ _ m2)
    have y2 := (cell_of_row W2 _ 2 _ _ _ m2)
    have y3 := (cell_of_row W2 _ 3 _ _ _ m2)
    have y4 := (cell_of_row W2 _ 4 _ _ _ m2)
    simp only [List.getElem?_toArray, List.getElem?_cons_zero, List.getElem?_cons_succ] at z0 z1 z2 z3 z4 y0 y1 y2 y3 y4
    have f0 := frozen_of_row W2 B 0 _ _ n2
    have f1 := frozen_of_row W2 B 1 _ _ n2
    have f2 := frozen_of_row W2 B 2 _ _ n2
    have f3 := frozen_of_row W2 B 3 _ _ n2
    have f4 := frozen_of_row W2 B 4 _ _ n2
    have l1 := lt_of_block n2
    have l2 := lt_of_block m2
    have g5 := set5_cells W2 B _ _ _ _ _ _ n2 (.bool false) (.bool false) (.bool false) (.bool false) (.int .i64 0)
    have hB5 : Below w.heap.size w (fiveAt W2 B (.bool false) (.bool false) (.bool false) (.bool false) (.int .i64 0)) := by
      rw [HBE.out]
      exact below_after hB2 (mods_set5' (S := [B]) (b := B) (by simp) (.bool false) (.bool false) (.bool false) (.bool false) (.int .i64 0)) (by have := hB2.size; have := HBE.out; omega) (by simp)
    have hR5 := H0.out.stay hB5
    clear n2 m2
    go_wp2_with fail
    change bodyPost _ _ _ _ _ (fiveAt W2 B (.bool false) (.bool false) (.bool false) (.bool false) (.int .i64 0))
    generalize fiveAt W2 B (.bool false) (.bool false) (.bool false) (.bool false) (.int .i64 0) = V at g5 hB5 hR5 ⊢
    have x0 := (cell_of_row V _ 0 _ _ _ g5)
    have x1 := (cell_of_row V _ 1 _ _ _ g5)
    have x2 := (cell_of_row V _ 2 _ _ _ g5)
    have x3 := (cell_of_row V _ 3 _ _ _ g5)
    have x4 := (cell_of_row V _ 4 _ _ _ g5)
    simp only [List.getElem?_toArray, List.getElem?_cons_zero, List.getElem?_cons_succ] at x0 x1 x2 x3 x4
    refine bodyPost_ret (by simp [results, Tryd.results58, go_sem, x0, x1, x2, x3, x4]; try rfl) rfl ?_
    exact ⟨rfl, Mods.of_below hB5, a, c, by rw [hu]; exact hR5⟩
  | some s =>
    rw [getV_some hC] at hq
    subst hq
    obtain ⟨q1, q2, q3, q4, q5⟩ := s
    simp only [Sl.enc]
    have H2 := Lib.hid (H1.out.stay (below1 w1 (.cells #[.bool q1, .bool q2, .bool q3, .bool q4, .int .i64 q5] 68)))
    have hB2 : Below B w (w1.alloc (.cells #[.bool q1, .bool q2, .bool q3, .bool q4, .int .i64 q5] 68)) := hB1.trans ((below1 _ _).mono (HBE.out ▸ hB1.size))
    have n2 := ((below1 w1 (.cells #[.bool q1, .bool q2, .bool q3, .bool q4, .int .i64 q5] 68)).block B hl1).trans n1
    have m2 := heap_alloc_new w1 (.cells #[.bool q1, .bool q2, .bool q3, .bool q4, .int .i64 q5] 68)
    clear H H1 hb1 nB n1 hb0 hBl HQ
    go_wp2_with fail
    generalize w1.alloc (.cells #[.bool q1, .bool q2, .bool q3, .bool q4, .int .i64 q5] 68) = W2 at *
    generalize w1.heap.size = B2 at *
    refine (rwithout_any H2.out page).mono ?_
    rintro e w3 ⟨v1, al, cl, rfl, hsp, _, hb3⟩
    obtain rfl := hsp.val
    obtain ⟨n1, hn1⟩ : ∃ n1, (pages (updC C page none)).length = n1 := ⟨_, rfl⟩
    rw [hn1] at hsp ⊢
    have HN1 := Lib.hid hn1
    have l2 := lt_of_block m2
    have HSP := Lib.hid hsp
    have H3 := Lib.hid (H2.out.stay hb3)
    have hB3 : Below B w w3 := hB2.trans (hb3.mono (HBE.out ▸ hB2.size))
    replace n2 := (hb3.block B (by omega)).trans n2
    replace m2 := (hb3.block B2 l2).trans m2
    have c0 := H3.out.c0
    have f0 := H3.out.fr 0
    have l0 := H3.out.lt
    have hsz3 := hb3.size
    clear hn1 hsp H2 hb3
    go_upto_region 4 with (fail)
    have n4 := (Below.heap_setCell w3 ⟨r, 0, none⟩ (.slice al n1 cl) B (by simp; omega)).trans n2
    have m4 := (Below.heap_setCell w3 ⟨r, 0, none⟩ (.slice al n1 cl) B2 (by simp; omega)).trans m2
    have k4 := heap_setCell_same w3 r 0 _ _ (Value.slice al n1 cl) H3.out.tab
    have hM4 : Mods [r] w (w3.setCell ⟨r, 0, none⟩ (.slice al n1 cl)) := (Mods.of_below (HBE.out ▸ hB3)).setCell (p := ⟨r, 0, none⟩) (.inl (by simp)) _
    have HSP4 := Lib.hid (HSP.out.mods (S := [r]) ((Mods.refl _ w3).setCell (p := ⟨r, 0, none⟩) (.inl (by simp)) (.slice al n1 cl)) (by simp; omega))
    have hs4 : W2.heap.size ≤ (w3.setCell ⟨r, 0, none⟩ (.slice al n1 cl)).heap.size := by simpa [World.setCell] using hsz3
    clear c0 f0 l0 H3 HSP
    generalize w3.setCell ⟨r, 0, none⟩ (.slice al n1 cl) = W4 at *
    have z0 := (cell_of_row W4 _ 0 _ _ _ n4)
    have z1 := (cell_of_row W4 _ 1 _ _ _ n4)
    have z2 := (cell_of_row W4 _ 2 _ _ _ n4)
    have z3 := (cell_of_row W4 _ 3 _ _ _ n4)
    have z4 := (cell_of_row W4 _ 4 _ _ _ n4)
    have y0 := (cell_of_row W4 _ 0 _ _ _ m4)
    have y1 := (cell_of_row W4 _ 1 _ _ _ m4)
    have y2 := (cell_of_row W4 _ 2 _ _ _ m4)
    have y3 := (cell_of_row W4 _ 3 _ _ _ m4)
    have y4 := (cell_of_row W4 _ 4 _ _ _ m4)
    simp only [List.getElem?_toArray, List.getElem?_cons_zero, List.getElem?_cons_succ] at z0 z1 z2 z3 z4 y0 y1 y2 y3 y4
    have f0 := frozen_of_row W4 B 0 _ _ n4
    have f1 := frozen_of_row W4 B 1 _ _ n4
    have f2 := frozen_of_row W4 B 2 _ _ n4
    have f3 := frozen_of_row W4 B 3 _ _ n4
    have f4 := frozen_of_row W4 B 4 _ _ n4
    have l1 := lt_of_block n4
    have l4 := lt_of_block m4
    have g5 := set5_cells W4 B _ _ _ _ _ _ n4 (.bool q1) (.bool q2) (.bool q3) (.bool q4) (.int .i64 q5)
    have hbb := HBE.out
    have hM5 : Mods [r] w (fiveAt W4 B (.bool q1) (.bool q2) (.bool q3) (.bool q4) (.int .i64 q5)) := mods_set5 hM4 B (by omega) (.bool q1) (.bool q2) (.bool q3) (.bool q4) (.int .i64 q5)
    have k5 := ((mods_set5' (w := W4) (S := [B]) (b := B) (by simp) (.bool q1) (.bool q2) (.bool q3) (.bool q4) (.int .i64 q5)).block r (lt_of_block k4) (by simp; omega)).trans k4
    have hs5 := (HSP4.out.mods (S := [B]) (mods_set5' (b := B) (by simp) (.bool q1) (.bool q2) (.bool q3) (.bool q4) (.int .i64 q5)) (by simp; omega)).low (b' := B0) (by omega)
    clear n4 m4 k4 hM4 HSP4 n2 m2
    go_wp2_with fail
    change bodyPost _ _ _ _ _ (fiveAt W4 B (.bool q1) (.bool q2) (.bool q3) (.bool q4) (.int .i64 q5))
    generalize fiveAt W4 B (.bool q1) (.bool q2) (.bool q3) (.bool q4) (.int .i64 q5) = V at g5 hM5 k5 hs5 ⊢
    have x0 := (cell_of_row V _ 0 _ _ _ g5)
    have x1 := (cell_of_row V _ 1 _ _ _ g5)
    have x2 := (cell_of_row V _ 2 _ _ _ g5)
    have x3 := (cell_of_row V _ 3 _ _ _ g5)
    have x4 := (cell_of_row V _ 4 _ _ _ g5)
    simp only [List.getElem?_toArray, List.getElem?_cons_zero, List.getElem?_cons_succ] at x0 x1 x2 x3 x4
    refine bodyPost_ret (by simp [results, Tryd.results58, go_sem, x0, x1, x2, x3, x4]; try rfl) rfl ?_
    exact ⟨rfl, hM5, al, cl, by rw [HN1.out]; exact k5, by rw [HN1.out]; exact hs5⟩
theorem rget_range (w : World) (r : Nat) (page : Int) (hp : page < 0 ∨ 4096 ≤ page) : Calls Tryd.prog 59 #[.pointer (some ⟨r, 0, none⟩), .int .i64 page] w fun e w' => e = .returned (.tuple #[.agg #[.bool false, .bool false, .bool false, .bool false, .int .i64 0], .int .i64 14]) ∧ Below w.heap.size w w' := by
  have hb0' := below1 w (.cells #[.bool false, .bool false, .bool false, .bool false, .int .i64 0] 68)
  have n0' := heap_alloc_new w (.cells #[.bool false, .bool false, .bool false, .bool false, .int .i64 0] 68)
  obtain ⟨B, hBe⟩ : ∃ B, w.heap.size = B := ⟨_, rfl⟩
  have HBE := Lib.hid hBe
  have hb0 := hBe ▸ hb0'
  have n0 := hBe ▸ n0'
  clear hb0' n0'
  have hor : (page < 0 ∧ decide (page < 0) = true) ∨ (4095 < page ∧ ¬ page < 0 ∧ decide (page < 0) = false ∧ decide (4095 < page) = true) := by
    rcases hp with h | h
    · exact .inl ⟨h, decide_eq_true h⟩
    · exact .inr ⟨by omega, by omega, decide_eq_false (by omega), decide_eq_true (by omega)⟩
  rcases hor with ⟨h1, h2⟩ | ⟨h1, h2, h3, h4⟩
  all_goals
    go_enter Tryd.func59, Tryd.ntmps59
    go_upto_region 2 with (fail)
    generalize w.alloc (.cells #[.bool false, .bool false, .bool false, .bool false, .int .i64 0] 68) = W2 at *
    have n2 := n0
    have hB2 := hb0
    have l1 := lt_of_block n2
    have z0 := (cell_of_row W2 _ 0 _ _ _ n2)
    have z1 := (cell_of_row W2 _ 1 _ _ _ n2)
    have z2 := (cell_of_row W2 _ 2 _ _ _ n2)
    have z3 := (cell_of_row W2 _ 3 _ _ _ n2)
    have z4 := (cell_of_row W2 _ 4 _ _ _ n2)
    simp only [List.getElem?_toArray, List.getElem?_cons_zero, List.getElem?_cons_succ] at z0 z1 z2 z3 z4
    have f0 := frozen_of_row W2 B 0 _ _ n2
    have f1 := frozen_of_row W2 B 1 _ _ n2
    have f2 := frozen_of_row W2 B 2 _ _ n2
    have f3 := frozen_of_row W2 B 3 _ _ n2
    have f4 := frozen_of_row W2 B 4 _ _ n2
    have g5 := set5_cells W2 B _ _ _ _ _ _ n2 (.bool false) (.bool false) (.bool false) (.bool false) (.int .i64 0)
    have hB5 : Below w.heap.size w (fiveAt W2 B (.bool false) (.bool false) (.bool false) (.bool false) (.int .i64 0)) := by
      rw [HBE.out]
      exact below_after hB2 (mods_set5' (S := [B]) (b := B) (by simp) (.bool false) (.bool false) (.bool false) (.bool false) (.int .i64 0)) (by have := hB2.size; have := HBE.out; omega) (by simp)
    clear n2 n0 hBe
    go_wp2_with fail
    change bodyPost _ _ _ _ _ (fiveAt W2 B (.bool false) (.bool false) (.bool false) (.bool false) (.int .i64 0))
    generalize fiveAt W2 B (.bool false) (.bool false) (.bool false) (.bool false) (.int .i64 0) = V at g5 hB5 ⊢
    have x0 := (cell_of_row V _ 0 _ _ _ g5)
    have x1 := (cell_of_row V _ 1 _ _ _ g5)
    have x2 := (cell_of_row V _ 2 _ _ _ g5)
    have x3 := (cell_of_row V _ 3 _ _ _ g5)
    have x4 := (cell_of_row V _ 4 _ _ _ g5)
    simp only [List.getElem?_toArray, List.getElem?_cons_zero, List.getElem?_cons_succ] at x0 x1 x2 x3 x4
    refine bodyPost_ret (by simp [results, Tryd.results59, go_sem, x0, x1, x2, x3, x4]; try rfl) rfl ?_
    exact ⟨rfl, hB5⟩
set_option maxHeartbeats 4000000 in
theorem rdrop_range (w : World) (r : Nat) (page : Int) (hp : page < 0 ∨ 4096 ≤ page) : Calls Tryd.prog 58 #[.pointer (some ⟨r, 0, none⟩), .int .i64 page] w fun e w' => e = .returned (.tuple #[.agg #[.bool false, .bool false, .bool false, .bool false, .int .i64 0], .int .i64 14]) ∧ Below w.heap.size w w' := by
    have hb0' := below1 w (.cells #[.bool false, .bool false, .bool false, .bool false, .int .i64 0] 68)
    have n0' := heap_alloc_new w (.cells #[.bool false, .bool false, .bool false, .bool false, .int .i64 0] 68)
    obtain ⟨B, hBe⟩ : ∃ B, w.heap.size = B := ⟨_, rfl⟩
    have HBE := Lib.hid hBe
    have hb0 := hBe ▸ hb0'
    have n0 := hBe ▸ n0'
    clear hb0' n0'
    go_enter Tryd.func58, Tryd.ntmps58
    go_wp2_with fail
    generalize w.alloc (.cells #[.bool false, .bool false, .bool false, .bool false, .int .i64 0] 68) = W at *
    refine (rget_range W r page hp).mono ?_
    rintro e w1 ⟨rfl, hb1⟩
    have l0 := lt_of_block n0
    have n1 := (hb1.block B l0).trans n0
    have l01 := lt_of_block n1
    have hB1 : Below B w w1 := hb0.trans (hb1.mono (HBE.out ▸ hb0.size))
    have n2 := ((below1 w1 (.cells #[.bool false, .bool false, .bool false, .bool false, .int .i64 0] 68)).block B l01).trans n1
    have m2 := heap_alloc_new w1 (.cells #[.bool false, .bool false, .bool false, .bool false, .int .i64 0] 68)
    have hB2 : Below B w (w1.alloc (.cells #[.bool false, .bool false, .bool false, .bool false, .int .i64 0] 68)) := hB1.trans ((below1 _ _).mono (HBE.out ▸ hB1.size))
    clear hb1 n1 n0 hb0 hBe l0
    go_upto_region 4 with (fail)
    generalize w1.alloc (.cells #[.bool false, .bool false, .bool false, .bool false, .int .i64 0] 68) = W2 at *
    generalize w1.heap.size = B2 at *
    have l1 := lt_of_block n2
    have l2 := lt_of_block m2
    have z0 := (cell_of_row W2 _ 0 _ _ _ n2)
    have z1 := (cell_of_row W2 _ 1 _ _ _ n2)
    have z2 := (cell_of_row W2 _ 2 _ _ _ n2)
    have z3 := (cell_of_row W2 _ 3 _ _ _ n2)
    have z4 := (cell_of_row W2 _ 4 _ _ _ n2)
    have y0 := (cell_of_row W2 _ 0 _ _ _ m2)
    have y1 := (cell_of_row W2 _ 1 _ _ _ m2)
    have y2 := (cell_of_row W2 _ 2 _ _ _ m2)
    have y3 := (cell_of_row W2 _ 3 _ _ _ m2)
    have y4 := (cell_of_row W2 _ 4 _ _ _ m2)
    simp only [List.getElem?_toArray, List.getElem?_cons_zero, List.getElem?_cons_succ] at z0 z1 z2 z3 z4
    simp only [List.getElem?_toArray, List.getElem?_cons_zero, List.getElem?_cons_succ] at y0 y1 y2 y3 y4
    have f0 := frozen_of_row W2 B 0 _ _ n2
    have f1 := frozen_of_row W2 B 1 _ _ n2
    have f2 := frozen_of_row W2 B 2 _ _ n2
    have f3 := frozen_of_row W2 B 3 _ _ n2
    have f4 := frozen_of_row W2 B 4 _ _ n2
    have g5 := set5_cells W2 B _ _ _ _ _ _ n2 (.bool false) (.bool false) (.bool false) (.bool false) (.int .i64 0)
    have hB5 : Below w.heap.size w (fiveAt W2 B (.bool false) (.bool false) (.bool false) (.bool false) (.int .i64 0)) := by
      rw [HBE.out]
      exact below_after hB2 (mods_set5' (S := [B]) (b := B) (by simp) (.bool false) (.bool false) (.bool false) (.bool false) (.int .i64 0)) (by have := hB2.size; have := HBE.out; omega) (by simp)
    clear n2 m2
    go_wp2_with fail
    change bodyPost _ _ _ _ _ (fiveAt W2 B (.bool false) (.bool false) (.bool false) (.bool false) (.int .i64 0))
    generalize fiveAt W2 B (.bool false) (.bool false) (.bool false) (.bool false) (.int .i64 0) = V at g5 hB5 ⊢
    have x0 := (cell_of_row V _ 0 _ _ _ g5)
    have x1 := (cell_of_row V _ 1 _ _ _ g5)
    have x2 := (cell_of_row V _ 2 _ _ _ g5)
    have x3 := (cell_of_row V _ 3 _ _ _ g5)
    have x4 := (cell_of_row V _ 4 _ _ _ g5)
    simp only [List.getElem?_toArray, List.getElem?_cons_zero, List.getElem?_cons_succ] at x0 x1 x2 x3 x4
    refine bodyPost_ret (by simp [results, Tryd.results58, go_sem, x0, x1, x2, x3, x4]; try rfl) rfl ?_
    exact ⟨rfl, hB5⟩
end
end Go.Proofs.YtacpfkimjaihgaaDoor
