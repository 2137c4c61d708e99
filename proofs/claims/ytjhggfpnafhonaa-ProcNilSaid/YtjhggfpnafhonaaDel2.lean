/- slices.DeleteFunc over processes: where the first one is struck; four cells set; the end's clear. Nothing here is conditional. -/
import Derived.Test.YtjhggfpnafhonaaDel
namespace Go.Proofs.Ytjhggfpnafhonaa
open Go.RowKit Go.Maps

theorem four_heap (w : World) (g i : Nat) (cur : Array Value) (t : TypeId) (a b c d : Value) (hg : w.heap[g]? = some (.cells cur t (0, 0))) :
    ((((w.setCell ⟨g, i, none⟩ a).setCell ⟨g, i + 1, none⟩ b).setCell ⟨g, i + 2, none⟩ c).setCell ⟨g, i + 3, none⟩ d).heap[g]? = some (.cells ((((cur.toList.set i a).set (i + 1) b).set (i + 2) c).set (i + 3) d).toArray t (0, 0)) := by
  rw [heap_setCell_same _ g _ _ t _ (heap_setCell_same _ g _ _ t _ (heap_setCell_same _ g _ _ t _ (heap_setCell_same _ g _ _ t _ hg)))]
  congr 2
  apply Array.ext'
  simp

theorem least {p : Nat → Prop} : ∀ n, p n → ∃ i, p i ∧ ∀ j, j < i → ¬ p j := by
  intro n
  induction n using Nat.strongRecOn with
  | ind n ih =>
    intro hn
    by_cases h : ∃ j, j < n ∧ p j
    · obtain ⟨j, h1, h2⟩ := h
      exact ih j h1 h2
    · exact ⟨n, hn, fun j hj hp => h ⟨j, hj, hp⟩⟩

theorem idx_split (k : Int) (T : List Pr) :
    (Lib.idxBy (fun _ y : Pr => !keepP k y) T default = -1 ∧ T.filter (keepP k) = T) ∨
    ∃ i0, ∃ h : i0 < T.length, Lib.idxBy (fun _ y : Pr => !keepP k y) T default = (i0 : Int) ∧ keepP k T[i0] = false ∧ ∀ p ∈ T.take i0, keepP k p = true := by
  classical
  by_cases hx : ∃ i, ∃ h : i < T.length, keepP k T[i] = false
  · right
    have hx' : ∃ i, i < T.length ∧ keepP k T[i]! = false := by
      obtain ⟨i, h, hi⟩ := hx
      exact ⟨i, h, by rw [getElem!_pos T i h]; exact hi⟩
    obtain ⟨_, hx''⟩ := hx'
    obtain ⟨i0, h1, h2⟩ := least (p := fun i => i < T.length ∧ keepP k T[i]! = false) _ hx''
    have hm : ∀ j, j < i0 → keepP k T[j]! = true := by
      intro j hj
      cases hb : keepP k T[j]! with
      | true => rfl
      | false => exact absurd ⟨by omega, hb⟩ (h2 j hj)
    refine ⟨i0, h1.1, ?_, by rw [← getElem!_pos T i0 h1.1]; exact h1.2, ?_⟩
    · have := Lib.idxBy_hit (fun _ y : Pr => !keepP k y) T T.length i0 default h1.1 (Nat.le_refl _) (by show (!keepP k T[i0]!) = true; rw [h1.2]; rfl) (fun j hj => by show (!keepP k T[j]!) = false; rw [hm j hj]; rfl)
      rwa [List.take_length] at this
    · intro p hp
      obtain ⟨j, hj, rfl⟩ := List.getElem_of_mem hp
      rw [List.length_take] at hj
      have := hm j (by omega)
      rw [getElem!_pos T j (by omega)] at this
      rw [List.getElem_take]
      exact this
  · left
    have ha : ∀ j, j < T.length → keepP k T[j]! = true := by
      intro j hj
      cases hb : keepP k T[j]! with
      | true => rfl
      | false => exact absurd ⟨j, hj, by rw [← getElem!_pos T j hj]; exact hb⟩ hx
    constructor
    · have := Lib.idxBy_miss (fun _ y : Pr => !keepP k y) T T.length default (fun j hj => by show (!keepP k T[j]!) = false; rw [ha j hj]; rfl)
      rwa [List.take_length] at this
    · rw [List.filter_eq_self]
      intro p hp
      obtain ⟨j, hj, rfl⟩ := List.getElem_of_mem hp
      rw [← getElem!_pos T j hj]
      exact ha j hj

/-- Behind the first that is struck. -/
theorem mid_first (k : Int) (T : List Pr) (cap : Nat) (cur : Array Value) (hs : cur.size = cap * 4) (ht : cur.toList.take (T.length * 4) = cellsOf T) (i0 : Nat) (h : i0 < T.length) (hk : keepP k T[i0] = false) (ha : ∀ p ∈ T.take i0, keepP k p = true) :
    Mid k T cap (i0 + 1) cur ∧ ((T.take (i0 + 1)).filter (keepP k)).length = i0 := by
  have e0 : (T.take i0).filter (keepP k) = T.take i0 := List.filter_eq_self.2 ha
  have el : (T.take i0).length = i0 := by rw [List.length_take]; omega
  have hM : Mid k T cap i0 cur := by
    refine ⟨hs, ?_, ?_⟩
    · rw [e0, el, ← cellsOf_take, ← ht, List.take_take]
      congr 1
      omega
    · rw [← cellsOf_drop, ← ht, List.drop_take]
      congr 1
      omega
  refine ⟨hM.skip h hk, ?_⟩
  rw [List.take_succ_eq_append_getElem h, List.filter_append, e0]
  simp [hk, el]

theorem zeros_struct (n : Nat) : (Builtin.zeroCells (Pr.zero.enc).cells n).toList.length = n * 4 ∧ ∀ v ∈ (Builtin.zeroCells (Pr.zero.enc).cells n).toList, v.oneCell' = true := by
  have e4 : (Pr.zero.enc).cells = #[.int .i64 0, .int .i64 0, .int .i64 0, .int .i64 0] := rfl
  constructor
  · rw [Array.length_toList, size_zeroCells, e4]; rfl
  · intro v hv
    rw [Array.mem_toList_iff] at hv
    simp only [Builtin.zeroCells, Array.mem_map, Array.mem_range] at hv
    obtain ⟨i, _, rfl⟩ := hv
    rw [e4]
    have h4 : i % 4 < 4 := Nat.mod_lt _ (by decide)
    obtain h | h | h | h : i % 4 = 0 ∨ i % 4 = 1 ∨ i % 4 = 2 ∨ i % 4 = 3 := by omega
    all_goals simp [h, Value.oneCell']

theorem mods_setCells (g : Nat) : ∀ (vs : List Value) (o : Nat) (w : World), Mods [g] w (w.setCells g o vs) := by
  intro vs
  induction vs with
  | nil => intro o w; exact Mods.refl _ _
  | cons v r ih =>
    intro o w
    have h1 : Mods [g] w (w.setCell ⟨g, o, none⟩ v) := (Mods.refl _ _).setCell (.inl (by simp)) v
    exact h1.trans (ih (o + 1) _)

theorem wpList_clear_p (w : World) {ops : Array Oper} {rest : List Oper} {o : Oper} {a : Act} {Q : Exit → Act → World → Prop} (hg : o.guard = none) (x : Operand) (hop : o.op = Op.call { callee := Callee.builtin Builtin.clear, args := #[x], argTypes := #[31] })
    {g off n c : Nat} {cur : Array Value} (hx : a.eval x = .slice (some ⟨g, off, none⟩) n c) (hn : 0 < n) (hgw : w.heap[g]? = some (.cells cur 39 (0, 0))) (hsz : off + n * 4 ≤ cur.size)
    (hK : ∀ w', (∀ i, i < off → w'.cell? ⟨g, i, none⟩ = w.cell? ⟨g, i, none⟩) → Mods [g] w w' → wpList Try.prog ops Q rest (a.put o.dst (.tuple #[])) w') : wpList Try.prog ops Q (o :: rest) a w := by
  refine wpList_plain hg fun K' hK' => ?_
  obtain ⟨hl, h1⟩ := zeros_struct n
  have hrun : ∀ ty, (Builtin.clear_ #[31] ty #[.slice (some ⟨g, off, none⟩) n c]).run Try.prog w = .ok (.tuple #[]) (w.setCells g off (Builtin.zeroCells (Pr.zero.enc).cells n).toList) := by
    intro ty
    refine run_clear_structs w 31 39 ty Pr.zero.enc Try.underlying31 zero39 g off n c hn _ rfl h1 ?_ ?_
    · intro j hj
      rw [cell_of_row w _ _ _ _ _ hgw]
      rw [Array.getElem?_eq_getElem (by omega)]
      rfl
    · intro j _
      exact frozen_of_row w g _ _ _ hgw
  unfold Oper.wp
  simp [execOp, hop, resolve, invoke, builtin, hx, hrun, Result.andThen]
  refine hK' _ _ (hK _ ?_ (mods_setCells _ _ _ _))
  intro i hi
  exact World.cell?_setCells_out g _ off w ⟨g, i, none⟩ (fun _ _ => .inl hi)
end Go.Proofs.Ytjhggfpnafhonaa
