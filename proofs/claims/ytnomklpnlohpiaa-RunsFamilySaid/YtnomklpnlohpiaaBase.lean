/- The rows of calls that the laws of layer 22 read: what a slice of api.Call holds, said of cells. Nothing here is conditional. -/
import Derived.Test.YtnomklpnlohpiaaRows
import Derived.WalkKit
import Derived.WalkSpells
import Derived.WalkLawsBesides
import Derived.Lib.Hide
import Derived.BigQuiet
import Derived.Deep.QuietTactic
import Derived.Deep.DeepFit
import Derived.Deep.DeepMust
namespace Go.Proofs.Ytnomklpnlohpiaa
open Go.RowKit

/-- A store into a block of cells, said of the block. -/
theorem row_setCell {w : World} {b j : Nat} {cs : List Value} {t : TypeId} {fr : Nat × Nat} {v : Value} (h : w.heap[b]? = some (.cells cs.toArray t fr)) :
    (w.setCell ⟨b, j, none⟩ v).heap[b]? = some (.cells (cs.set j v).toArray t fr) := by
  have hlt := lt_of_block h
  have h' : w.heap[b] = .cells cs.toArray t fr := by simpa [Array.getElem?_eq_getElem hlt] using h
  show (w.heap.modify b _)[b]? = _
  rw [Array.getElem?_eq_getElem (by simpa using hlt), Array.getElem_modify_self, h']
  simp

/-- A call as its nine cells hold it. -/
structure CV where
  op : Int
  pid : Int
  at_ : Int
  n : Int
  perm : Int
  name : ByteArray
  aa : Option Addr
  al : Nat
  ac : Nat
  ea : Option Addr
  el : Nat
  ec : Nat
  bits : Int

def CV.cell (c : CV) : Nat → Value
  | 0 => .int .i64 c.op
  | 1 => .int .i64 c.pid
  | 2 => .int .i64 c.at_
  | 3 => .int .i64 c.n
  | 4 => .int .i64 c.perm
  | 5 => .string c.name
  | 6 => .slice c.aa c.al c.ac
  | 7 => .slice c.ea c.el c.ec
  | _ => .int .u64 c.bits

def CV.cells (c : CV) : List Value :=
  [.int .i64 c.op, .int .i64 c.pid, .int .i64 c.at_, .int .i64 c.n, .int .i64 c.perm, .string c.name, .slice c.aa c.al c.ac, .slice c.ea c.el c.ec, .int .u64 c.bits]

/-- The slice's elements lie at its address, nine cells each. -/
def CallsAt (w : World) (a : Option Addr) (cs : List CV) : Prop :=
  ∀ i (h : i < cs.length), ∃ b off, a = some ⟨b, off, none⟩ ∧ ∀ j, j < 9 → w.cell? ⟨b, off + i * 9 + j, none⟩ = some ((cs[i]).cell j)

theorem CallsAt.below {B : Nat} {w w' : World} {a : Option Addr} {cs : List CV} (h : CallsAt w a cs) (hb : Below B w w') (hB : w.heap.size ≤ B) : CallsAt w' a cs := by
  intro i hi
  obtain ⟨b, off, ha, hc⟩ := h i hi
  refine ⟨b, off, ha, fun j hj => ?_⟩
  have := World.block_lt_of_cell? w _ (hc j hj)
  exact (hb.cell (p := ⟨b, off + i * 9 + j, none⟩) (by simp at this ⊢; omega)).trans (hc j hj)

theorem CallsAt.take {w : World} {a : Option Addr} {cs : List CV} (h : CallsAt w a cs) (k : Nat) : CallsAt w a (cs.take k) := by
  intro i hi
  simp at hi
  obtain ⟨b, off, ha, hc⟩ := h i (by omega)
  exact ⟨b, off, ha, fun j hj => by rw [hc j hj]; simp⟩

theorem CallsAt.drop {w : World} {b off : Nat} {cs : List CV} (h : CallsAt w (some ⟨b, off, none⟩) cs) (k : Nat) : CallsAt w (some ⟨b, off + k * 9, none⟩) (cs.drop k) := by
  intro i hi
  simp at hi
  obtain ⟨b', off', ha, hc⟩ := h (k + i) (by omega)
  injection ha with ha
  injection ha with h1 h2
  subst h1 h2
  refine ⟨b, off + k * 9, rfl, fun j hj => ?_⟩
  have := hc j hj
  rw [show off + k * 9 + i * 9 + j = off + (k + i) * 9 + j from by omega, this]
  simp

theorem CV.cells_get (c : CV) (j : Nat) (h : j < 9) : c.cells[j]? = some (c.cell j) := by
  match j, h with
  | 0, _ | 1, _ | 2, _ | 3, _ | 4, _ | 5, _ | 6, _ | 7, _ | 8, _ => rfl
theorem CV.flat_get (cs : List CV) : ∀ i j (h : i < cs.length), j < 9 → (cs.flatMap CV.cells)[i * 9 + j]? = some ((cs[i]).cell j) := by
  induction cs with
  | nil => intro i j h; exact absurd h (by simp)
  | cons c cs ih =>
    intro i j h hj
    rw [List.flatMap_cons]
    cases i with
    | zero =>
      rw [List.getElem?_append_left (by simp [CV.cells]; omega)]
      simpa using CV.cells_get c j hj
    | succ i =>
      have e9 : c.cells.length = 9 := rfl
      rw [List.getElem?_append_right (by rw [e9]; omega), e9, show (i + 1) * 9 + j - 9 = i * 9 + j from by omega]
      simpa using ih i j (by simpa using h) hj
theorem CV.flat_length (cs : List CV) : (cs.flatMap CV.cells).length = cs.length * 9 := by
  induction cs with
  | nil => rfl
  | cons c cs ih => rw [List.flatMap_cons, List.length_append, ih]; simp [CV.cells]; omega
theorem CallsAt.of_row {w : World} {g : Nat} {cur : Array Value} {t : TypeId} {fr : Nat × Nat} {cs : List CV} (h : w.heap[g]? = some (.cells cur t fr))
    (hc : cur.toList.take (cs.length * 9) = cs.flatMap CV.cells) : CallsAt w (some ⟨g, 0, none⟩) cs := by
  intro i hi
  refine ⟨g, 0, rfl, fun j hj => ?_⟩
  have hf := CV.flat_get cs i j hi hj
  rw [← hc, List.getElem?_take, if_pos (by omega)] at hf
  rw [cell_of_row w _ _ _ _ _ h, Nat.zero_add]
  simpa using hf
theorem CallsAt.nil (w : World) (a : Option Addr) : CallsAt w a [] := fun i hi => absurd hi (by simp)

/-- The slice's elements are these ints. -/
def IntsAt (w : World) (a : Option Addr) (xs : List Int) : Prop :=
  ∀ i (h : i < xs.length), ∃ b off, a = some ⟨b, off, none⟩ ∧ w.cell? ⟨b, off + i, none⟩ = some (.int .i64 xs[i])
theorem IntsAt.below {B : Nat} {w w' : World} {a : Option Addr} {xs : List Int} (h : IntsAt w a xs) (hb : Below B w w') (hB : w.heap.size ≤ B) : IntsAt w' a xs := by
  intro i hi
  obtain ⟨b, off, ha, hc⟩ := h i hi
  refine ⟨b, off, ha, ?_⟩
  have := World.block_lt_of_cell? w _ hc
  exact (hb.cell (p := ⟨b, off + i, none⟩) (by simp at this ⊢; omega)).trans hc
theorem IntsAt.of_row {w : World} {b : Nat} {xs : List Int} {t : TypeId} {fr : Nat × Nat} (h : w.heap[b]? = some (.cells (xs.map (Value.int .i64)).toArray t fr)) : IntsAt w (some ⟨b, 0, none⟩) xs := by
  intro i hi
  refine ⟨b, 0, rfl, ?_⟩
  rw [cell_of_row w _ _ _ _ _ h]
  simp [hi]

/-- An append of what lies in the block that was made just before: the law of the kit, its side conditions paid. -/
theorem wpList_append_new {P : Program} {ops : Array Oper} {rest : List Oper} {o : Oper} {a : Act} {Q : Exit → Act → World → Prop} (w : World) (hgd : o.guard = none) (s x : Operand) (t : TypeId)
    (ho : o.op = .call { callee := .builtin .append, args := #[s, x], argTypes := #[t, t] })
    (base : Nat) (e : TypeId) (i : TypeInfo) (z : Value) (size bytes : Nat) (ht : P.underlying t = some (.slice e)) (hi : P.info? e = some i) (hz : i.zero = some z)
    (hsize : i.size = size) (hby : i.bytes = bytes) (hzs : z.cells.size = size) (hsz : 0 < size)
    {v : Value} {n : Nat} {xs : List Value} (hown : w.ownsRow base e size v n xs) (hs : a.eval s = v)
    (m : Nat) (news : List Value) {g : Nat} (hgs : w.heap.size = g) (hx : a.eval x = .slice (some ⟨g, 0, none⟩) m m) (hl : news.length = m * size) (h1 : ∀ u ∈ news, u.oneCell' = true)
    (h63 : n + m ≤ maxLen) (hbytes : (n + m) * bytes ≤ 140737488355328) (hbase : base ≤ w.heap.size)
    (h : ∀ v' w', w'.ownsRow base e size v' (n + m) (xs ++ news) → w.grownBy w' v.ownBlock → (v' = .slice none 0 0 ↔ v = .slice none 0 0 ∧ m = 0) → wpList P ops Q rest (a.put o.dst v') w') :
    wpList P ops Q (o :: rest) a (w.alloc (.cells news.toArray e)) := by
  subst hgs
  refine wpList_append_own _ hgd s x t ho base e i z size bytes ht hi hz hsize hby hzs hsz v n xs hs (hown.alloc _) ⟨w.heap.size, 0, none⟩ m m news hx hl ?_ h1 h63 hbytes (by simp; omega) ?_
  · intro j u hj
    have e0 : (⟨w.heap.size, 0, none⟩ : Addr).add j = ⟨w.heap.size, j, none⟩ := by unfold Addr.add; split <;> simp_all
    rw [e0, World.cell?_alloc_at _ _ _ _ rfl]
    simpa using hj
  · intro v' w' h2 h3 h4
    refine h v' w' h2 ⟨h3.os, h3.tape, h3.output, Nat.le_trans (by simp) h3.size, fun k hk hne => ?_⟩ h4
    rw [h3.block k (by simp; omega) hne, Below.heap_alloc _ _ _ hk]

theorem ownsRow_shape {w : World} {base e size n : Nat} {v : Value} {xs : List Value} (h : w.ownsRow base e size v n xs) :
    ∃ a cap, v = .slice a n cap ∧ ∀ b, a = some b → ∃ g cur, b = ⟨g, 0, none⟩ ∧ base ≤ g ∧ w.heap[g]? = some (.cells cur e (0, 0)) ∧ cur.toList.take (n * size) = xs := by
  rcases h.2 with ⟨rfl, rfl⟩ | ⟨g, cap, cur, rfl, hb, hg, _, _, _, ht⟩
  · exact ⟨none, 0, rfl, fun b hb => by cases hb⟩
  · exact ⟨some ⟨g, 0, none⟩, cap, rfl, fun b hb' => by cases hb'; exact ⟨g, cur, rfl, hb, hg, ht⟩⟩
theorem ownsRow_calls {w : World} {base e : Nat} {v : Value} {cs : List CV} (h : w.ownsRow base e 9 v cs.length (cs.flatMap CV.cells)) :
    ∃ a cap, v = .slice a cs.length cap ∧ CallsAt w a cs := by
  rcases h.2 with ⟨rfl, hn⟩ | ⟨g, cap, cur, rfl, hb, hg, _, _, _, ht⟩
  · exact ⟨none, 0, by rw [hn], fun i hi => by omega⟩
  · exact ⟨some ⟨g, 0, none⟩, cap, rfl, CallsAt.of_row hg ht⟩
theorem ownsRow_ints {w : World} {base e : Nat} {v : Value} {xs : List Int} (h : w.ownsRow base e 1 v xs.length (xs.map (Value.int .i64))) :
    ∃ a cap, v = .slice a xs.length cap ∧ IntsAt w a xs := by
  rcases h.2 with ⟨rfl, hn⟩ | ⟨g, cap, cur, rfl, hb, hg, _, _, _, ht⟩
  · exact ⟨none, 0, by rw [hn], fun i hi => by omega⟩
  · refine ⟨some ⟨g, 0, none⟩, cap, rfl, fun i hi => ⟨g, 0, rfl, ?_⟩⟩
    rw [cell_of_row w _ _ _ _ _ hg, Nat.zero_add]
    have : (cur.toList.take (xs.length * 1))[i]? = some (.int .i64 xs[i]) := by rw [ht]; simp [hi]
    rw [List.getElem?_take, if_pos (by omega)] at this
    simpa using this
theorem CV.oneCell (c : CV) : ∀ u ∈ c.cells, u.oneCell' = true := by
  intro u hu
  simp only [CV.cells, List.mem_cons, List.not_mem_nil, or_false] at hu
  rcases hu with rfl | rfl | rfl | rfl | rfl | rfl | rfl | rfl | rfl <;> rfl

theorem Try.info30 : (Try.prog.info? 30).map (fun i => (i.zero, i.size, i.bytes)) = some (some (.agg (CV.cells ⟨0, 0, 0, 0, 0, ⟨#[]⟩, none, 0, 0, none, 0, 0, 0⟩).toArray), 9, 112) := by kernel_rfl
theorem Try.info3 : (Try.prog.info? 3).map (fun i => (i.zero, i.size, i.bytes)) = some (some (.int .i64 0), 1, 8) := by kernel_rfl
theorem Try.info39 : (Try.prog.info? 39).map (fun i => (i.zero, i.size, i.bytes)) = some (some (.agg #[.int .i64 0, .int .i64 0, .int .u64 0]), 3, 24) := by kernel_rfl

/-- The counts of kinds of calls. -/
def cnt (cs : List CV) (j : Nat) : Nat := cs.countP fun c => c.op == (j : Int) + 1
def cntL (cs : List CV) : List Value := (List.range 11).map fun j => Value.int .i64 (cnt cs j)

theorem cnt_append (a b : List CV) (j : Nat) : cnt (a ++ b) j = cnt a j + cnt b j := by simp [cnt]
theorem cnt_le (cs : List CV) (j : Nat) : cnt cs j ≤ cs.length := List.countP_le_length
theorem cntL_length (cs : List CV) : (cntL cs).length = 11 := by simp [cntL]
theorem cntL_get (cs : List CV) (j : Nat) (h : j < 11) : (cntL cs)[j]? = some (.int .i64 (cnt cs j)) := by simp [cntL, h]
theorem cntL_miss (cs : List CV) (c : CV) (h : ¬ (1 ≤ c.op ∧ c.op ≤ 11)) : cntL (cs ++ [c]) = cntL cs := by
  simp only [cntL]
  refine List.map_congr_left fun j hj => ?_
  simp at hj
  rw [cnt_append]
  have : cnt [c] j = 0 := by simp [cnt]; omega
  rw [this]; rfl
theorem cntL_hit (cs : List CV) (c : CV) (h1 : 1 ≤ c.op) (h2 : c.op ≤ 11) : cntL (cs ++ [c]) = (cntL cs).set (c.op - 1).toNat (.int .i64 ((cnt cs (c.op - 1).toNat : Int) + 1)) := by
  refine List.ext_getElem (by simp [cntL_length]) fun j hj hj' => ?_
  simp [cntL_length] at hj
  simp only [cntL, List.getElem_map, List.getElem_range, List.getElem_set]
  rw [cnt_append]
  by_cases e : (c.op - 1).toNat = j
  · subst e
    have : cnt [c] (c.op - 1).toNat = 1 := by simp [cnt]; omega
    rw [this]; simp
  · have : cnt [c] j = 0 := by simp [cnt]; omega
    rw [this, if_neg e]; simp

/-- All that count: the sum of the eleven counts. -/
def known (cs : List CV) : Nat := cs.countP fun c => decide (1 ≤ c.op) && decide (c.op ≤ 11)
def sumTo (cs : List CV) (k : Nat) : Nat := ((List.range k).map (cnt cs)).sum
theorem sumTo_succ (cs : List CV) (k : Nat) : sumTo cs (k + 1) = sumTo cs k + cnt cs k := by simp [sumTo, List.range_succ]
theorem sumTo_known (cs : List CV) : sumTo cs 11 = known cs := by
  induction cs with
  | nil => rfl
  | cons c cs ih =>
    have h : ∀ k, sumTo (c :: cs) k = sumTo cs k + (if 1 ≤ c.op ∧ c.op ≤ (k : Int) then 1 else 0) := by
      intro k
      induction k with
      | zero => simp [sumTo]; omega
      | succ k ihk =>
        rw [sumTo_succ, sumTo_succ, ihk]
        have : cnt (c :: cs) k = cnt cs k + (if c.op = (k : Int) + 1 then 1 else 0) := by simp [cnt, List.countP_cons]
        rw [this]
        split <;> split <;> split <;> omega
    rw [h 11, ih]
    simp only [known, List.countP_cons]
    congr 1
    by_cases h1 : 1 ≤ c.op <;> by_cases h2 : c.op ≤ 11 <;> simp [h1, h2]
theorem sumTo_le (cs : List CV) (k : Nat) : sumTo cs k ≤ k * cs.length := by
  induction k with
  | zero => simp [sumTo]
  | succ k ih => rw [sumTo_succ]; have := cnt_le cs k; rw [Nat.succ_mul]; omega
theorem known_le (cs : List CV) : known cs ≤ cs.length := List.countP_le_length
theorem known_snoc (cs : List CV) (c : CV) : known (cs ++ [c]) = known cs + if 1 ≤ c.op ∧ c.op ≤ 11 then 1 else 0 := by
  simp only [known, List.countP_append, List.countP_cons, List.countP_nil]
  by_cases h1 : 1 ≤ c.op <;> by_cases h2 : c.op ≤ 11 <;> simp [h1, h2]
end Go.Proofs.Ytnomklpnlohpiaa
