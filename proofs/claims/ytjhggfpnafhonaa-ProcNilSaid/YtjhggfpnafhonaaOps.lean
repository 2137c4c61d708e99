/- The operations on a table's map, at the operation; Get and asked. Nothing here is conditional. -/
import Derived.Test.YtjhggfpnafhonaaBase
import Derived.Test.YtjhggfpnafhonaaLib
import Derived.Handy
namespace Go.Proofs.Ytjhggfpnafhonaa
open Go.RowKit Go.Maps

theorem zero39 (w : World) : (zeroValue 39).run Try.prog w = .ok Pr.zero.enc w := by kernel_rfl

theorem TMap.lt {w : World} {b : Nat} {T : List Pr} (h : TMap w b T) : b < w.heap.size := h.1.lt
theorem TMap.block {w w' : World} {b : Nat} {T : List Pr} (h : TMap w b T) (hb : w'.heap[b]? = w.heap[b]?) : TMap w' b T := by
  obtain ⟨⟨es, clock, h1, F, hs, hD⟩, hu⟩ := h
  exact ⟨⟨es, clock, hb.trans h1, F, hs, hD⟩, hu⟩
theorem TMap.alloc {w : World} {b : Nat} {T : List Pr} (h : TMap w b T) (o : Obj) : TMap (w.alloc o) b T := h.block (Below.heap_alloc _ _ _ h.lt)
theorem TMap.below {B : Nat} {w w' : World} {b : Nat} {T : List Pr} (h : TMap w b T) (hb : Below B w w') (hB : b < B) : TMap w' b T := h.block (hb.block b hB)
theorem TMap.setCell {w : World} {b : Nat} {T : List Pr} (h : TMap w b T) {a : Addr} (ha : b ≠ a.block) (u : Value) : TMap (w.setCell a u) b T := ⟨h.1.setCell ha u, h.2⟩

theorem Tab.below {B : Nat} {w w' : World} {t b : Nat} {T : List Pr} (h : Tab w t b T) (hb : Below B w w') (ht : t < B) (hB : b < B) : Tab w' t b T := by
  obtain ⟨⟨fr, h1⟩, h2, h3⟩ := h
  exact ⟨⟨fr, (hb.block t ht).trans h1⟩, h2.below hb hB, h3⟩
theorem Tab.lt {w : World} {t b : Nat} {T : List Pr} (h : Tab w t b T) : t < w.heap.size := by
  obtain ⟨⟨fr, h1⟩, _⟩ := h
  exact (Array.getElem?_eq_some_iff.1 h1).1
theorem Tab.cell {w : World} {t b : Nat} {T : List Pr} (h : Tab w t b T) : w.cell? ⟨t, 0, none⟩ = some (.map (some b)) := by
  obtain ⟨⟨fr, h1⟩, _⟩ := h
  have hlt := (Array.getElem?_eq_some_iff.1 h1).1
  simp [World.cell?, h1]

section
variable (w : World) {ops : Array Oper} {rest : List Oper} {o : Oper} {a : Act} {Q : Exit → Act → World → Prop}
theorem wpList_look_t (hg : o.guard = none) (m x : Operand) (hop : o.op = Op.lookup 35 m x false) {b : Nat} {T : List Pr} {k : Int} (h : TMap w b T) (hm : a.eval m = .map (some b)) (hx : a.eval x = .int .i64 k) (hk : (Lit.int .i64 k).wf = true)
    {pv : Value} (hp : ((find T k).getD Pr.zero).enc = pv) (hK : wpList Try.prog ops Q rest (a.put o.dst pv) w) : wpList Try.prog ops Q (o :: rest) a w := by
  refine wpList_plain hg fun K' hK' => ?_
  obtain ⟨v, ps, hrun, hv⟩ := h.1.lookup keyedK Try.underlying35 (zero39 w) (elP_enc Pr.zero) (keyOf_int_mk Try.underlying3 hk)
  rw [rows_at] at hv
  rw [elP_inv hv, hp] at hrun
  unfold Oper.wp
  simp [execOp, hop, hm, hx, hrun, Result.andThen]
  exact hK' _ _ hK
theorem wpList_look_ok_t (hg : o.guard = none) (m x : Operand) (hop : o.op = Op.lookup 35 m x true) {b : Nat} {T : List Pr} {k : Int} (h : TMap w b T) (hm : a.eval m = .map (some b)) (hx : a.eval x = .int .i64 k) (hk : (Lit.int .i64 k).wf = true)
    {pv : Value} (hp : ((find T k).getD Pr.zero).enc = pv) {is : Bool} (his : (find T k).isSome = is) (hK : wpList Try.prog ops Q rest (a.put o.dst (.tuple #[pv, .bool is])) w) : wpList Try.prog ops Q (o :: rest) a w := by
  refine wpList_plain hg fun K' hK' => ?_
  obtain ⟨v, ps, hrun, hv⟩ := h.1.look_ok keyedK Try.underlying35 (zero39 w) (elP_enc Pr.zero) (keyOf_int_mk Try.underlying3 hk)
  rw [rows_at] at hv
  rw [elP_inv hv, hp, rows_has, his] at hrun
  unfold Oper.wp
  simp [execOp, hop, hm, hx, hrun, Result.andThen]
  exact hK' _ _ hK
theorem wpList_len_t (hg : o.guard = none) (m : Operand) (hop : o.op = Op.call { callee := Callee.builtin Builtin.len, args := #[m], argTypes := #[35] }) {b : Nat} {T : List Pr} (h : TMap w b T) (hm : a.eval m = .map (some b))
    (hK : wpList Try.prog ops Q rest (a.put o.dst (.int .i64 T.length)) w) : wpList Try.prog ops Q (o :: rest) a w :=
  wpList_len_own w hg m 35 hop 3 39 Try.underlying35 elP b T.length _ hm h.1 (by rw [rows_size]; exact hK)
theorem TMap.store {w : World} {b : Nat} {T : List Pr} (h : TMap w b T) (hl : T.length ≤ 100) (p : Pr) (hk : (Lit.int .i64 p.pid).wf = true) :
    ∃ w', (Instr.mapUpdate 35 (.map (some b)) (.int .i64 p.pid) p.enc).run Try.prog w = .ok () w' ∧ TMap w' b (ins T p) ∧ w.grownBy w' (some b) := by
  obtain ⟨w', hrun, r1, r2⟩ := h.1.update keyedK Try.underlying35 (by unfold maxLen; omega) (keyOf_int_mk Try.underlying3 hk) (elP_enc p)
  rw [rows_put] at r1
  have := World.ownsMap_tight r1
  rw [rows_size] at this
  exact ⟨w', hrun, ⟨this, h.2.ins p⟩, r2⟩
theorem wpList_update_t (hg : o.guard = none) (m x v : Operand) (hop : o.op = Op.mapUpdate 35 m x v) {b : Nat} {T : List Pr} (h : TMap w b T) (hl : T.length ≤ 100) (p : Pr) (hm : a.eval m = .map (some b)) (hx : a.eval x = .int .i64 p.pid) (hk : (Lit.int .i64 p.pid).wf = true)
    (hv : a.eval v = p.enc) (hK : ∀ w', TMap w' b (ins T p) → w.grownBy w' (some b) → wpList Try.prog ops Q rest (a.put o.dst undef) w') : wpList Try.prog ops Q (o :: rest) a w := by
  refine wpList_plain hg fun K' hK' => ?_
  obtain ⟨w', hrun, r1, r2⟩ := h.store hl p hk
  unfold Oper.wp
  simp [execOp, hop, hm, hx, hv, hrun, Result.andThen]
  exact hK' _ _ (hK w' r1 r2)
theorem wpList_insert_t (hg : o.guard = none) (m x v : Operand) (hop : o.op = Op.insert 35 m x v) {b : Nat} {T : List Pr} (h : TMap w b T) (hl : T.length ≤ 100) (p : Pr) (hm : a.eval m = .map (some b)) (hx : a.eval x = .int .i64 p.pid) (hk : (Lit.int .i64 p.pid).wf = true)
    (hv : a.eval v = p.enc) (hK : ∀ w', TMap w' b (ins T p) → w.grownBy w' (some b) → wpList Try.prog ops Q rest (a.put o.dst undef) w') : wpList Try.prog ops Q (o :: rest) a w := by
  refine wpList_plain hg fun K' hK' => ?_
  obtain ⟨w', hrun, r1, r2⟩ := h.store hl p hk
  unfold Oper.wp
  simp [execOp, hop, hm, hx, hv, hrun, Result.andThen]
  exact hK' _ _ (hK w' r1 r2)
theorem wpList_delete_t (hg : o.guard = none) (m x : Operand) (hop : o.op = Op.call { callee := Callee.builtin Builtin.delete, args := #[m, x], argTypes := #[35, 3] }) {b : Nat} {T : List Pr} (h : TMap w b T) {k : Int} (hm : a.eval m = .map (some b)) (hx : a.eval x = .int .i64 k) (hk : (Lit.int .i64 k).wf = true)
    (hK : ∀ w', TMap w' b (del T k) → w.grownBy w' (some b) → wpList Try.prog ops Q rest (a.put o.dst (.tuple #[])) w') : wpList Try.prog ops Q (o :: rest) a w :=
  wpList_delete_own w hg m x 35 3 hop 39 keyedK Try.underlying35 elP b T.length _ hm h.1 _ _ hx (keyOf_int_mk Try.underlying3 hk) (fun w' r1 r2 => by
    rw [rows_del] at r1
    have := World.ownsMap_tight r1
    rw [rows_size] at this
    exact hK w' ⟨this, h.2.del k⟩ r2.grown)
end

theorem enc_eq (p : Pr) : p.enc = .agg #[.int .i64 p.pid, .int .i64 p.parent, .int .i64 p.state, .int .i64 p.code] := rfl

set_option maxHeartbeats 1000000 in
theorem get_any (w : World) (t b : Nat) (T : List Pr) (hT : Tab w t b T) (k : Int) (hk : (Lit.int .i64 k).wf = true) (p1 p2 p3 p4 : Int) (hp0 : (find T k).getD Pr.zero = ⟨p1, p2, p3, p4⟩) (is : Bool) (his : (find T k).isSome = is) :
    Calls Try.prog 15 #[.pointer (some ⟨t, 0, none⟩), .int .i64 k] w fun e w' => e = .returned (.tuple #[.agg #[.int .i64 p1, .int .i64 p2, .int .i64 p3, .int .i64 p4], .bool is]) ∧ Below w.heap.size w w' := by
  have hc := hT.cell
  have ht := hT.lt
  have hm := hT.2.1
  have hp : ((find T k).getD Pr.zero).enc = .agg #[.int .i64 p1, .int .i64 p2, .int .i64 p3, .int .i64 p4] := by rw [hp0]; rfl
  go_enter Try.func15, Try.ntmps15
  go_wp2_with (first | (at_lookup; refine wpList_look_ok_t _ rfl _ _ rfl (hm.alloc _) rfl rfl hk hp his ?_))
  go_returns
  refine ⟨rfl, ?_⟩
  go_grown

set_option maxHeartbeats 1000000 in
theorem get_nil (w : World) (k : Int) :
    Calls Try.prog 15 #[.pointer none, .int .i64 k] w fun e w' => e = .returned (.tuple #[.agg #[.int .i64 0, .int .i64 0, .int .i64 0, .int .i64 0], .bool false]) ∧ Below w.heap.size w w' := by
  go_enter Try.func15, Try.ntmps15
  go_wp2_with fail
  go_returns
  refine ⟨rfl, ?_⟩
  go_grown

/-- A table without a map. -/
def ZTab (w : World) (t : Nat) : Prop := ∃ fr, w.heap[t]? = some (.cells #[.map none] 37 fr)
theorem ZTab.below {B : Nat} {w w' : World} {t : Nat} (h : ZTab w t) (hb : Below B w w') (ht : t < B) : ZTab w' t := by
  obtain ⟨fr, h1⟩ := h
  exact ⟨fr, (hb.block t ht).trans h1⟩
theorem ZTab.lt {w : World} {t : Nat} (h : ZTab w t) : t < w.heap.size := by
  obtain ⟨fr, h1⟩ := h
  exact (Array.getElem?_eq_some_iff.1 h1).1
theorem ZTab.cell {w : World} {t : Nat} (h : ZTab w t) : w.cell? ⟨t, 0, none⟩ = some (.map none) := by
  obtain ⟨fr, h1⟩ := h
  have hlt := (Array.getElem?_eq_some_iff.1 h1).1
  simp [World.cell?, h1]

theorem wpList_look_ok_z (w : World) {ops : Array Oper} {rest : List Oper} {o : Oper} {a : Act} {Q : Exit → Act → World → Prop} (hg : o.guard = none) (m x : Operand) (hop : o.op = Op.lookup 35 m x true) {k : Int} (hm : a.eval m = .map none) (hx : a.eval x = .int .i64 k) (hk : (Lit.int .i64 k).wf = true)
    (hK : wpList Try.prog ops Q rest (a.put o.dst (.tuple #[.agg #[.int .i64 0, .int .i64 0, .int .i64 0, .int .i64 0], .bool false])) w) : wpList Try.prog ops Q (o :: rest) a w := by
  refine wpList_plain hg fun K' hK' => ?_
  have hrun := Maps.look_nil (P := Try.prog) (w := w) true keyedK Try.underlying35 (zero39 w) (keyOf_int_mk Try.underlying3 hk)
  rw [enc_eq] at hrun
  unfold Oper.wp
  simp [execOp, hop, hm, hx, hrun, Result.andThen]
  exact hK' _ _ hK

set_option maxHeartbeats 1000000 in
theorem get_zero (w : World) (t : Nat) (hT : ZTab w t) (k : Int) (hk : (Lit.int .i64 k).wf = true) :
    Calls Try.prog 15 #[.pointer (some ⟨t, 0, none⟩), .int .i64 k] w fun e w' => e = .returned (.tuple #[.agg #[.int .i64 0, .int .i64 0, .int .i64 0, .int .i64 0], .bool false]) ∧ Below w.heap.size w w' := by
  have hc := hT.cell
  have ht := hT.lt
  go_enter Try.func15, Try.ntmps15
  go_wp2_with (first | (at_lookup; refine wpList_look_ok_z _ rfl _ _ rfl rfl rfl hk ?_))
  go_returns
  refine ⟨rfl, ?_⟩
  go_grown

/-- What asked tells. -/
def askedV (T : List Pr) (k : Int) : Int := match find T k with
  | none => 12
  | some p => if p.state = 1 then 0 else 13

set_option maxHeartbeats 1000000 in
theorem asked_any (w : World) (t b : Nat) (T : List Pr) (hT : Tab w t b T) (k : Int) (hk : (Lit.int .i64 k).wf = true) :
    Calls Try.prog 17 #[.pointer (some ⟨t, 0, none⟩), .int .i64 k] w fun e w' => e = .returned (.int .i64 (askedV T k)) ∧ Below w.heap.size w w' := by
  obtain ⟨v, hv⟩ : ∃ v, askedV T k = v := ⟨_, rfl⟩
  rw [hv]
  unfold askedV at hv
  cases hf : find T k with
  | none =>
    rw [hf] at hv
    subst hv
    go_enter Try.func17, Try.ntmps17
    go_wp2_with (first | (go_at_call 15; refine (get_any _ t b T hT k hk 0 0 0 0 (by rw [hf]; rfl) false (by rw [hf]; rfl)).mono ?_; rintro e w' ⟨rfl, hb⟩))
    go_returns
    exact ⟨rfl, by first | exact (hb.alloc (by have := hb.size; omega) _) | go_grown⟩
  | some p =>
    rw [hf] at hv
    obtain ⟨p1, p2, p3, p4⟩ := p
    simp only [] at hv
    by_cases h3 : p3 = 1
    · rw [if_pos h3] at hv
      subst hv h3
      go_enter Try.func17, Try.ntmps17
      go_wp2_with (first | (go_at_call 15; refine (get_any _ t b T hT k hk p1 p2 1 p4 (by rw [hf]; rfl) true (by rw [hf]; rfl)).mono ?_; rintro e w' ⟨rfl, hb⟩))
      go_returns
      exact ⟨rfl, by first | exact (hb.alloc (by have := hb.size; omega) _) | go_grown⟩
    · rw [if_neg h3] at hv
      subst hv
      go_enter Try.func17, Try.ntmps17
      go_wp2_with (first | (go_at_call 15; refine (get_any _ t b T hT k hk p1 p2 p3 p4 (by rw [hf]; rfl) true (by rw [hf]; rfl)).mono ?_; rintro e w' ⟨rfl, hb⟩))
      go_returns
      exact ⟨rfl, by first | exact (hb.alloc (by have := hb.size; omega) _) | go_grown⟩
end Go.Proofs.Ytjhggfpnafhonaa
