/- Maps with int keys that a call makes for itself: what the block of a map holds, said as a list of keys and values; the laws of the operations on it. -/
import Derived.Test.YtnomklpnlohpiaaRows
import Derived.WalkKit
import Derived.WalkSpells
import Derived.WalkLawsBesides
import Derived.ChangeMaps4
namespace Go.Proofs.Ytnomklpnlohpiaa
open Go.RowKit Go.ChangeMaps

/-- Block g is a map; its entries, in their order, are these keys and values. -/
def IMap (w : World) (g : Nat) (l : List (Int × Value)) : Prop :=
  ∃ es clock, w.heap[g]? = some (.map es clock) ∧ es.toList.map (fun e => (e.key, e.val)) = l.map (fun p => (Value.int .i64 p.1, p.2))

def alook : List (Int × Value) → Int → Option Value
  | [], _ => none
  | (j, u) :: r, k => if k = j then some u else alook r k
def aset : List (Int × Value) → Int → Value → List (Int × Value)
  | [], k, v => [(k, v)]
  | (j, u) :: r, k, v => if k = j then (k, v) :: r else (j, u) :: aset r k v
def adel : List (Int × Value) → Int → List (Int × Value)
  | [], _ => []
  | (j, u) :: r, k => if k = j then r else (j, u) :: adel r k

theorem alook_aset (l : List (Int × Value)) (k : Int) (v : Value) (j : Int) : alook (aset l k v) j = if j = k then some v else alook l j := by
  induction l with
  | nil => simp [aset, alook]
  | cons p r ih =>
    obtain ⟨i, u⟩ := p
    simp only [aset]
    split
    · rename_i h
      subst h
      simp only [alook]
      split <;> rfl
    · rename_i h
      simp only [alook, ih]
      split
      · rename_i h2
        subst h2
        rw [if_neg (fun e => h e.symm)]
      · rfl

theorem IMap.block {w w' : World} {g : Nat} {l : List (Int × Value)} (h : IMap w g l) (hb : w'.heap[g]? = w.heap[g]?) : IMap w' g l := by
  obtain ⟨es, c, h1, h2⟩ := h
  exact ⟨es, c, hb.trans h1, h2⟩
theorem IMap.lt {w : World} {g : Nat} {l : List (Int × Value)} (h : IMap w g l) : g < w.heap.size := by
  obtain ⟨es, c, h1, _⟩ := h
  exact (Array.getElem?_eq_some_iff.1 h1).1
theorem IMap.alloc {w : World} {g : Nat} {l : List (Int × Value)} (h : IMap w g l) (o : Obj) : IMap (w.alloc o) g l := h.block (Below.heap_alloc _ _ _ h.lt)
theorem IMap.made (w : World) : IMap (w.alloc (.map #[] 0)) w.heap.size [] := ⟨#[], 0, heap_alloc_new _ _, rfl⟩
theorem IMap.below {B : Nat} {w w' : World} {g : Nat} {l : List (Int × Value)} (h : IMap w g l) (hb : Below B w w') (hg : g < B) : IMap w' g l := h.block (hb.block g hg)

theorem findNow_at {q : IntKind} (k : Int) : ∀ (es : List MapEntry) (l : List (Int × Value)) (i : Nat), q = .i64 → es.map (fun e => (e.key, e.val)) = l.map (fun p => (Value.int .i64 p.1, p.2)) →
    Instr.findNow (.int q) (.int .i64 k) es i = some (match alook l k with | none => none | some v => some (i + l.findIdx (fun p => decide (k = p.1)), v)) := by
  intro es
  induction es with
  | nil =>
    intro l i _ h
    cases l with
    | nil => rfl
    | cons p r => simp at h
  | cons e es ih =>
    intro l i hq h
    cases l with
    | nil => simp at h
    | cons p r =>
      obtain ⟨j, u⟩ := p
      simp only [List.map_cons, List.cons.injEq, Prod.mk.injEq] at h
      obtain ⟨⟨h1, h2⟩, h3⟩ := h
      simp only [Instr.findNow, h1, Instr.sameNow, if_true]
      by_cases e1 : k = j
      · subst e1
        simp [alook, List.findIdx_cons, h2]
      · have : (k == j) = false := by simp [e1]
        rw [this]
        simp only [alook, if_neg e1]
        rw [ih r (i + 1) hq h3]
        cases alook r k with
        | none => rfl
        | some v => simp [List.findIdx_cons, e1]; omega

section
variable {P : Program} {T K E : TypeId}
theorem run_checkKey_succ (w : World) (hk : P.underlying K = some (.int .i64)) (b : Bool) (n : Nat) (k : Int) : (Instr.checkKey b (n + 1) K (.int .i64 k)).run P w = .ok () w := by
  simp [Instr.checkKey, run_underlying hk]
theorem run_checkKey_int (w : World) (hk : P.underlying K = some (.int .i64)) (b : Bool) (k : Int) : (Instr.checkKey b 10000 K (.int .i64 k)).run P w = .ok () w := run_checkKey_succ w hk b 9999 k
theorem run_findKey_int (w : World) (hk : P.underlying K = some (.int .i64)) (k : Int) (es : List MapEntry) (l : List (Int × Value)) (h : es.map (fun e => (e.key, e.val)) = l.map (fun p => (Value.int .i64 p.1, p.2))) :
    (Instr.findKey K (.int .i64 k) es).run P w = .ok (match alook l k with | none => none | some v => some (l.findIdx (fun p => decide (k = p.1)), v)) w := by
  have := findNow_at (q := .i64) k es l 0 rfl h
  simp only [Nat.zero_add] at this
  simp [Instr.findKey, run_underlying hk, this]

/-- m[k], v, ok := m[k]. -/
theorem IMap.look {w : World} {g : Nat} {l : List (Int × Value)} (h : IMap w g l) (ht : P.underlying T = some (.map K E)) (hk : P.underlying K = some (.int .i64)) {z : Value} (hz : (zeroValue E).run P w = .ok z w) (k : Int) (c : Bool) :
    (Instr.lookup T (.map (some g)) (.int .i64 k) c).run P w = .ok (if c then .tuple #[(alook l k).getD z, .bool (alook l k).isSome] else (alook l k).getD z) w := by
  obtain ⟨es, clock, hb, hes⟩ := h
  have hf := run_findKey_int (P := P) w hk k es.toList l hes
  simp only [Instr.lookup, run_underlying ht, MapKept.run_getObj_map hb, Sem.run_bind, Result.andThen_ok, run_checkKey_int w hk, hf, Sem.run_pure]
  cases alook l k with
  | none => simp [hz]
  | some v => simp

theorem imap_modify (es : List MapEntry) (l : List (Int × Value)) (k : Int) (v u : Value) (hl : alook l k = some u) (h : es.map (fun e => (e.key, e.val)) = l.map (fun p => (Value.int .i64 p.1, p.2))) :
    ((es.toArray.modify (l.findIdx (fun p => decide (k = p.1))) fun e => { e with key := .int .i64 k, val := v }).toList).map (fun e => (e.key, e.val)) = (aset l k v).map (fun p => (Value.int .i64 p.1, p.2)) := by
  rw [Array.toList_modify]
  show ((es.modify _ _)).map _ = _
  induction l generalizing es with
  | nil => simp [alook] at hl
  | cons p r ih =>
    obtain ⟨j, u'⟩ := p
    cases es with
    | nil => simp at h
    | cons e es =>
      simp only [List.map_cons, List.cons.injEq] at h
      by_cases e1 : k = j
      · subst e1
        simp [aset, List.findIdx_cons, h.2]
      · simp only [alook, if_neg e1] at hl
        have := ih es hl h.2
        simp only [List.findIdx_cons, e1, decide_false, cond_false, aset, if_false, List.map_cons, List.modify_succ_cons, this]
        rw [h.1]

/-- m[k] = v. -/
theorem IMap.store {w : World} {g : Nat} {l : List (Int × Value)} (h : IMap w g l) (ht : P.underlying T = some (.map K E)) (hk : P.underlying K = some (.int .i64)) (k : Int) (v : Value) :
    ∃ w', (Instr.mapUpdate T (.map (some g)) (.int .i64 k) v).run P w = .ok () w' ∧ IMap w' g (aset l k v) ∧ w.grownBy w' (some g) := by
  obtain ⟨es, clock, hb, hes⟩ := h
  have hf := run_findKey_int (P := P) w hk k es.toList l hes
  have hgr : ∀ o, w.grownBy (setBlock w g o) (some g) := fun o => ⟨rfl, rfl, rfl, by simp [setBlock], fun i hi hne => by
    simp only [setBlock]
    rw [Array.getElem?_setIfInBounds, if_neg (by intro e; exact hne (by rw [e]))]⟩
  have hin : ∀ o, (setBlock w g o).heap[g]? = some o := fun o => by
    simp only [setBlock]
    rw [Array.getElem?_setIfInBounds, if_pos rfl, if_pos (Array.getElem?_eq_some_iff.1 hb).1]
  cases hl : alook l k with
  | none =>
    rw [hl] at hf
    refine ⟨setBlock w g (.map (es.push { key := .int .i64 k, val := v, born := clock }) (clock + 1)), ?_, ⟨_, _, hin _, ?_⟩, hgr _⟩
    · simp [Instr.mapUpdate, run_underlying ht, MapKept.run_getObj_map hb, run_checkKey_int w hk, hf, MapKept.run_setObj_map _ hb, Result.andThen, setBlock]
    · have hset : ∀ l : List (Int × Value), alook l k = none → aset l k v = l ++ [(k, v)] := by
        intro l
        induction l with
        | nil => intro _; rfl
        | cons p r ih =>
          obtain ⟨j, u⟩ := p
          intro h
          simp only [alook] at h
          split at h
          · cases h
          · rename_i e1; simp only [aset, if_neg e1, ih h, List.cons_append]
      rw [hset l hl]
      simp [hes]
  | some u =>
    rw [hl] at hf
    have hks : ∀ old : Value, (old = .int .i64 k) → (Instr.keyThatStays old (.int .i64 k)).run P w = .ok (.int .i64 k) w := by
      intro old ho
      subst ho
      simp [Instr.keyThatStays, Instr.sameBits]
    have hold : (((es[l.findIdx (fun p => decide (k = p.1))]?).map (·.key)).getD (.int .i64 k)) = .int .i64 k := by
      have hfi : ∀ (l : List (Int × Value)) (es : List MapEntry), alook l k = some u → es.map (fun e => (e.key, e.val)) = l.map (fun p => (Value.int .i64 p.1, p.2)) →
          ((es[l.findIdx (fun p => decide (k = p.1))]?).map (·.key)) = some (.int .i64 k) := by
        intro l
        induction l with
        | nil => intro es h; simp [alook] at h
        | cons p r ih =>
          obtain ⟨j, u'⟩ := p
          intro es h he
          cases es with
          | nil => simp at he
          | cons e es =>
            simp only [List.map_cons, List.cons.injEq, Prod.mk.injEq] at he
            by_cases e1 : k = j
            · subst e1
              simp [List.findIdx_cons, he.1.1]
            · simp only [alook, if_neg e1] at h
              simp only [List.findIdx_cons, e1, decide_false, cond_false, List.getElem?_cons_succ]
              exact ih es h he.2
      have := hfi l es.toList hl hes
      rw [Array.getElem?_toList] at this
      rw [this]
      rfl
    refine ⟨setBlock w g (.map (es.modify (l.findIdx (fun p => decide (k = p.1))) fun e => { e with key := .int .i64 k, val := v }) clock), ?_, ⟨_, _, hin _, ?_⟩, hgr _⟩
    · simp only [Instr.mapUpdate, run_underlying ht, MapKept.run_getObj_map hb, run_checkKey_int w hk, hf, Sem.run_bind, Result.andThen_ok, hold, hks _ rfl, MapKept.run_setObj_map _ hb, setBlock]
    · exact imap_modify es.toList l k v u hl hes
end

section
variable {P : Program} (w : World) {ops : Array Oper} {rest : List Oper} {o : Oper} {a : Act} {Q : Exit → Act → World → Prop}
theorem wpList_mapUpdate_i (hg : o.guard = none) (m x v : Operand) (t : TypeId) (hop : o.op = Op.mapUpdate t m x v) (K E : TypeId) (ht : P.underlying t = some (.map K E)) (hk : P.underlying K = some (.int .i64))
    (g : Nat) (l : List (Int × Value)) (k : Int) (val : Value) (h : IMap w g l) (hm : a.eval m = .map (some g)) (hx : a.eval x = .int .i64 k) (hv : a.eval v = val)
    (hK : ∀ w', IMap w' g (aset l k val) → w.grownBy w' (some g) → wpList P ops Q rest (a.put o.dst undef) w') : wpList P ops Q (o :: rest) a w := by
  refine wpList_plain hg fun K' hK' => ?_
  obtain ⟨w', hrun, r1, r2⟩ := h.store (P := P) ht hk k val
  unfold Oper.wp
  simp [execOp, hop, hm, hx, hv, hrun, Result.andThen]
  exact hK' _ _ (hK w' r1 r2)
theorem wpList_insert_i (hg : o.guard = none) (m x v : Operand) (t : TypeId) (hop : o.op = Op.insert t m x v) (K E : TypeId) (ht : P.underlying t = some (.map K E)) (hk : P.underlying K = some (.int .i64))
    (g : Nat) (l : List (Int × Value)) (k : Int) (val : Value) (h : IMap w g l) (hm : a.eval m = .map (some g)) (hx : a.eval x = .int .i64 k) (hv : a.eval v = val)
    (hK : ∀ w', IMap w' g (aset l k val) → w.grownBy w' (some g) → wpList P ops Q rest (a.put o.dst undef) w') : wpList P ops Q (o :: rest) a w := by
  refine wpList_plain hg fun K' hK' => ?_
  obtain ⟨w', hrun, r1, r2⟩ := h.store (P := P) ht hk k val
  unfold Oper.wp
  simp [execOp, hop, hm, hx, hv, hrun, Result.andThen]
  exact hK' _ _ (hK w' r1 r2)
theorem wpList_lookup_i (hg : o.guard = none) (m x : Operand) (t : TypeId) (c : Bool) (hop : o.op = Op.lookup t m x c) (K E : TypeId) (ht : P.underlying t = some (.map K E)) (hk : P.underlying K = some (.int .i64))
    (z : Value) (hz : (zeroValue E).run P w = .ok z w) (g : Nat) (l : List (Int × Value)) (k : Int) (h : IMap w g l) (hm : a.eval m = .map (some g)) (hx : a.eval x = .int .i64 k)
    (val : Value) (hv : (if c then .tuple #[(alook l k).getD z, .bool (alook l k).isSome] else (alook l k).getD z) = val)
    (hK : wpList P ops Q rest (a.put o.dst val) w) : wpList P ops Q (o :: rest) a w := by
  refine wpList_plain hg fun K' hK' => ?_
  have hrun := h.look (P := P) ht hk hz k c
  rw [hv] at hrun
  unfold Oper.wp
  simp [execOp, hop, hm, hx, hrun, Result.andThen]
  exact hK' _ _ hK
end
end Go.Proofs.Ytnomklpnlohpiaa
