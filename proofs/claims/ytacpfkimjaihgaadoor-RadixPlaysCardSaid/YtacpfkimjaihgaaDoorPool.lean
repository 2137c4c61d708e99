/- Package frames: a pool's frames, said of its blocks; New, frame, Take. -/
import Derived.Test.YtacpfkimjaihgaaDoorRead
namespace Go.Proofs.YtacpfkimjaihgaaDoor
open Go.RowKit

/-- A pool: its frames' bytes, how often each is held. -/
structure FP where
  secs : List (List UInt8)
  held : List Int
def frees (l : List Int) : Nat := l.countP (· == 0)

structure PA (w : World) (p bb hb : Nat) (S : List (List UInt8)) (H : List Int) (fr : Int) : Prop where
  head : w.heap[p]? = some (.cells [Value.slice (some ⟨bb, 0, none⟩) (H.length * 64) (H.length * 64), .slice (some ⟨hb, 0, none⟩) H.length H.length, .int .i64 fr].toArray 66 (0, 0))
  row : w.heap[bb]? = some (.cells (bv S.flatten).toArray 5 (0, 0))
  hrow : w.heap[hb]? = some (.cells (H.map (Value.int .i64)).toArray 3 (0, 0))
  each : ∀ s ∈ S, s.length = 64
  len : S.length = H.length
  small : H.length ≤ 4096
  npb : p ≠ bb
  nph : p ≠ hb
  nbh : bb ≠ hb
abbrev IsPool (w : World) (p bb hb : Nat) (F : FP) : Prop := PA w p bb hb F.secs F.held (frees F.held)

theorem flat_length : ∀ (l : List (List UInt8)), (∀ s ∈ l, s.length = 64) → l.flatten.length = l.length * 64 := by
  intro l
  induction l with
  | nil => intro _; rfl
  | cons a l ih => intro h; rw [List.flatten_cons, List.length_append, h a (by simp), ih (fun s hs => h s (by simp [hs]))]; simp; omega
theorem flat_get : ∀ (l : List (List UInt8)), (∀ s ∈ l, s.length = 64) → ∀ k j (h : k < l.length) (hj : j < l[k].length), l.flatten[k * 64 + j]? = some (l[k][j]) := by
  intro l
  induction l with
  | nil => intro _ k j h; exact absurd h (by simp)
  | cons a l ih =>
    intro h k j hk hj
    have ha := h a (by simp)
    rw [List.flatten_cons]
    cases k with
    | zero =>
      simp only [List.getElem_cons_zero] at hj ⊢
      rw [List.getElem?_append_left (by omega)]
      simp [hj]
    | succ k =>
      rw [List.getElem?_append_right (by omega), ha, show (k + 1) * 64 + j - 64 = k * 64 + j from by omega]
      exact ih (fun s hs => h s (by simp [hs])) k j (by simpa using hk) (by simpa using hj)
/-- A part of one frame becomes other bytes. -/
theorem splice_part : ∀ (l : List (List UInt8)), (∀ s ∈ l, s.length = 64) → ∀ k (hk : k < l.length) (o : Nat) (x : List UInt8), o + x.length ≤ 64 → splice (bv l.flatten) (k * 64 + o) (bv x) = bv (l.set k (splice l[k] o x)).flatten := by
  intro l
  induction l with
  | nil => intro _ k h; exact absurd h (by simp)
  | cons a l ih =>
    intro h k hk o x hx
    have ha := h a (by simp)
    cases k with
    | zero =>
      simp only [splice, Nat.zero_mul, Nat.zero_add, bv_length, List.set_cons_zero, List.flatten_cons, bv_append, List.getElem_cons_zero, ← bv_take, ← bv_drop]
      rw [List.take_append_of_le_length (by rw [bv_length]; omega), List.drop_append_of_le_length (by rw [bv_length]; omega)]
      simp [List.append_assoc]
    | succ k =>
      have := ih (fun s hs => h s (by simp [hs])) k (by simpa using hk) o x hx
      simp only [splice, bv_length, List.set_cons_succ, List.flatten_cons, bv_append, List.getElem_cons_succ] at this ⊢
      rw [← this, show (k + 1) * 64 + o = (bv a).length + (k * 64 + o) from by rw [bv_length]; omega, List.take_length_add_append, show (bv a).length + (k * 64 + o) + x.length = (bv a).length + (k * 64 + o + x.length) from by omega, List.drop_length_add_append, List.append_assoc]
theorem splice_all {a x : List UInt8} (h : a.length = x.length) : splice a 0 x = x := by simp [splice, ← h]

section
variable {w w' : World} {p bb hb : Nat} {S : List (List UInt8)} {H : List Int} {fr : Int}
theorem PA.mods {T : List Nat} (h : PA w p bb hb S H fr) (hm : Mods T w w') (h1 : p ∉ T) (h2 : bb ∉ T) (h3 : hb ∉ T) : PA w' p bb hb S H fr :=
  ⟨(hm.block p (lt_of_block h.head) h1).trans h.head, (hm.block bb (lt_of_block h.row) h2).trans h.row, (hm.block hb (lt_of_block h.hrow) h3).trans h.hrow, h.each, h.len, h.small, h.npb, h.nph, h.nbh⟩
theorem PA.below {B : Nat} (h : PA w p bb hb S H fr) (hb' : Below B w w') (hB : w.heap.size ≤ B) : PA w' p bb hb S H fr :=
  ⟨(hb'.block p (Nat.lt_of_lt_of_le (lt_of_block h.head) hB)).trans h.head, (hb'.block bb (Nat.lt_of_lt_of_le (lt_of_block h.row) hB)).trans h.row, (hb'.block hb (Nat.lt_of_lt_of_le (lt_of_block h.hrow) hB)).trans h.hrow, h.each, h.len, h.small, h.npb, h.nph, h.nbh⟩
theorem PA.lt (h : PA w p bb hb S H fr) : p < w.heap.size ∧ bb < w.heap.size ∧ hb < w.heap.size := ⟨lt_of_block h.head, lt_of_block h.row, lt_of_block h.hrow⟩
theorem PA.c0 (h : PA w p bb hb S H fr) : w.cell? ⟨p, 0, none⟩ = some (.slice (some ⟨bb, 0, none⟩) (H.length * 64) (H.length * 64)) := by rw [cell_of_row w p 0 _ _ _ h.head]; rfl
theorem PA.c1 (h : PA w p bb hb S H fr) : w.cell? ⟨p, 1, none⟩ = some (.slice (some ⟨hb, 0, none⟩) H.length H.length) := by rw [cell_of_row w p 1 _ _ _ h.head]; rfl
theorem PA.c2 (h : PA w p bb hb S H fr) : w.cell? ⟨p, 2, none⟩ = some (.int .i64 fr) := by rw [cell_of_row w p 2 _ _ _ h.head]; rfl
theorem PA.at (h : PA w p bb hb S H fr) {k : Nat} (hk : k < H.length) : w.cell? ⟨hb, k, none⟩ = some (.int .i64 H[k]) := by
  rw [cell_of_row w _ _ _ _ _ h.hrow]
  simp [hk]
theorem PA.cell (h : PA w p bb hb S H fr) {k : Nat} (hk : k < S.length) {j : Nat} (hj : j < S[k].length) : w.cell? ⟨bb, k * 64 + j, none⟩ = some (.int .u8 (S[k][j].toNat : Int)) := by
  rw [cell_of_row w _ _ _ _ _ h.row]
  obtain ⟨hlt, he⟩ := List.getElem?_eq_some_iff.1 (flat_get S h.each k j hk hj)
  have := bv_get S.flatten (k * 64 + j) hlt
  rw [he] at this
  simpa using this
theorem PA.storeHeld (h : PA w p bb hb S H fr) {k : Nat} {v : Int} (hm : ∀ j, j < w.heap.size → w'.heap[j]? = (w.setCell ⟨hb, k, none⟩ (.int .i64 v)).heap[j]?) : PA w' p bb hb S (H.set k v) fr := by
  refine ⟨?_, ?_, ?_, h.each, by simpa using h.len, by simpa using h.small, h.npb, h.nph, h.nbh⟩
  · rw [hm p (lt_of_block h.head), Below.heap_setCell _ _ _ _ h.nph, h.head]
    simp
  · rw [hm bb (lt_of_block h.row), Below.heap_setCell _ _ _ _ h.nbh, h.row]
  · rw [hm hb (lt_of_block h.hrow), row_setCell h.hrow, List.map_set]
theorem PA.storeFree (h : PA w p bb hb S H fr) {v : Int} (hm : ∀ j, j < w.heap.size → w'.heap[j]? = (w.setCell ⟨p, 2, none⟩ (.int .i64 v)).heap[j]?) : PA w' p bb hb S H v := by
  refine ⟨?_, ?_, ?_, h.each, h.len, h.small, h.npb, h.nph, h.nbh⟩
  · rw [hm p (lt_of_block h.head), row_setCell h.head]
    rfl
  · rw [hm bb (lt_of_block h.row), Below.heap_setCell _ _ _ _ (Ne.symm h.npb), h.row]
  · rw [hm hb (lt_of_block h.hrow), Below.heap_setCell _ _ _ _ (Ne.symm h.nph), h.hrow]
/-- Behind other bytes in one frame. -/
theorem PA.part (h : PA w p bb hb S H fr) {k o : Nat} (hk : k < S.length) {x : List UInt8} (hx : o + x.length ≤ 64) (hr : w'.heap[bb]? = some (.cells (splice (bv S.flatten) (k * 64 + o) (bv x)).toArray 5 (0, 0))) (hm : Mods [bb] w w') :
    PA w' p bb hb (S.set k (splice S[k] o x)) H fr := by
  have h64 := h.each _ (List.getElem_mem hk)
  refine ⟨?_, ?_, ?_, ?_, by simpa using h.len, h.small, h.npb, h.nph, h.nbh⟩
  · rw [hm.block p (lt_of_block h.head) (by simp; exact h.npb), h.head]
  · rw [hr, splice_part _ h.each _ hk _ _ hx]
  · rw [hm.block hb (lt_of_block h.hrow) (by simp; exact Ne.symm h.nbh), h.hrow]
  · intro s hs
    rcases List.mem_or_eq_of_mem_set hs with hs | rfl
    · exact h.each s hs
    · rw [length_splice _ _ _ (by omega)]; exact h64
theorem PA.whole (h : PA w p bb hb S H fr) {k : Nat} (hk : k < S.length) {x : List UInt8} (hx : x.length = 64) (hr : w'.heap[bb]? = some (.cells (splice (bv S.flatten) (k * 64) (bv x)).toArray 5 (0, 0))) (hm : Mods [bb] w w') :
    PA w' p bb hb (S.set k x) H fr := by
  have h64 := h.each _ (List.getElem_mem hk)
  have := h.part (o := 0) hk (x := x) (by omega) hr hm
  rwa [splice_all (by omega)] at this
end

/-! ## clear and copy in a row -/
section
variable {P : Program}
theorem run_clear_row (w : World) (t e ty : TypeId) (z : Value) (ht : P.underlying t = some (.slice e)) (hv : ∀ w, (zeroValue e).run P w = .ok z w) (hz : z.cells = #[z]) (h1 : z.oneCell' = true) (g o n c : Nat) (hn : 0 < n)
    (cur : List Value) (et : TypeId) (hg : w.heap[g]? = some (.cells cur.toArray et (0, 0))) (hfit : o + n ≤ cur.length) :
    (Builtin.clear_ #[t] ty #[.slice (some ⟨g, o, none⟩) n c]).run P w = .ok (.tuple #[]) (w.setRow g (splice cur o (List.replicate n z)).toArray) := by
  have hzc : (Builtin.zeroCells z.cells n).toList = List.replicate n z := by
    rw [hz]
    simp [Builtin.zeroCells]
    apply List.ext_getElem
    · simp
    · intro i h1 h2
      simp [Nat.mod_one]
  have hst := run_storeCells_at P g o et (List.replicate n z) 0 cur.toArray w hg (by simpa using hfit) (by intro v hv'; rw [List.eq_of_mem_replicate hv']; exact h1)
  simp only [Nat.add_zero] at hst
  obtain ⟨m, rfl⟩ : ∃ m, n = m + 1 := ⟨n - 1, by omega⟩
  simp [Builtin.clear_, run_underlying ht, hv, hzc, hst, splice]
theorem wpList_clear (w : World) {ops : Array Oper} {rest : List Oper} {o : Oper} {a : Act} {Q : Exit → Act → World → Prop} (hgd : o.guard = none) (s : Operand) (t : TypeId)
    (ho : o.op = .call { callee := .builtin .clear, args := #[s], argTypes := #[t] }) (e : TypeId) (z : Value) (ht : P.underlying t = some (.slice e)) (hv : ∀ w, (zeroValue e).run P w = .ok z w) (hz : z.cells = #[z]) (h1 : z.oneCell' = true)
    (g off n c : Nat) (hs : a.eval s = .slice (some ⟨g, off, none⟩) n c) (hn : 0 < n) (cur : List Value) (et : TypeId) (hg : w.heap[g]? = some (.cells cur.toArray et (0, 0))) (hfit : off + n ≤ cur.length)
    (h : ∀ w', w'.heap[g]? = some (.cells (splice cur off (List.replicate n z)).toArray et (0, 0)) → Mods [g] w w' → w'.heap.size = w.heap.size → wpList P ops Q rest (a.put o.dst (.tuple #[])) w') : wpList P ops Q (o :: rest) a w := by
  refine wpList_plain hgd fun K hK => ?_
  have hrun := run_clear_row (P := P) w t e o.type z ht hv hz h1 g off n c hn cur et hg hfit
  unfold Oper.wp
  simp [execOp, ho, resolve, invoke, builtin, hs, hrun, Result.andThen]
  exact hK _ _ (h _ (row_setRow hg) ((Mods.refl [g] w).setRow (.inl (by simp)) _) (by simp [World.setRow]))
/-- copy(d, s), the cells of s known, d in a row. -/
theorem wpList_copy_slice (w : World) {ops : Array Oper} {rest : List Oper} {o : Oper} {a : Act} {Q : Exit → Act → World → Prop} (hgd : o.guard = none) (d s : Operand) (dT sT : TypeId)
    (ho : o.op = .call { callee := .builtin .copy, args := #[d, s], argTypes := #[dT, sT] }) (elem : TypeId) (hu : P.underlying dT = some (.slice elem)) (hsz : (P.info? elem).map (·.size) = some 1)
    (g off dLen dCap : Nat) (ad : Addr) (sLen sCap : Nat) (hd : a.eval d = .slice (some ⟨g, off, none⟩) dLen dCap) (hs : a.eval s = .slice (some ad) sLen sCap)
    (cur : List Value) (t : TypeId) (hg : w.heap[g]? = some (.cells cur.toArray t (0, 0))) (cs : List Value) (hn : cs.length = Nat.min sLen dLen)
    (hsrc : ∀ j v, cs[j]? = some v → w.cell? (ad.add j) = some v) (hfit : off + cs.length ≤ cur.length) (h1 : ∀ v ∈ cs, v.oneCell' = true)
    (h : ∀ w', w'.heap[g]? = some (.cells (splice cur off cs).toArray t (0, 0)) → Mods [g] w w' → w'.heap.size = w.heap.size → wpList P ops Q rest (a.put o.dst (goInt cs.length)) w') : wpList P ops Q (o :: rest) a w := by
  refine wpList_copy_own hgd d s dT sT ho elem hu hsz g off dLen dCap ad sLen sCap hd hs cur.toArray t hg cs hn hsrc (by simpa using hfit) h1 ?_
  exact h _ (row_setRow hg) ((Mods.refl [g] w).setRow (.inl (by simp)) _) (by simp [World.setRow])
end
theorem Tryd.info5s : (Tryd.prog.info? 5).map (·.size) = some 1 := by kernel_rfl
theorem zero5 (w : World) : (zeroValue 5).run Tryd.prog w = .ok (.int .u8 0) w := by
  obtain ⟨i0, hi, hz0, _, _⟩ := info_parts Tryd.infoU8
  simp [zeroValue, typeInfo, hi, hz0]

/-! ## frame, Frames, Free, Held -/
theorem frame_any (w : World) (p bb hb : Nat) (S : List (List UInt8)) (H : List Int) (fr : Int) (k : Nat) (hk : k < H.length) (h : PA w p bb hb S H fr) :
    Calls Tryd.prog 62 #[.pointer (some ⟨p, 0, none⟩), .int .i64 k] w fun e w' => e = .returned (.slice (some ⟨bb, k * 64, none⟩) 64 (H.length * 64 - k * 64)) ∧ w = w' := by
  have c0 := h.c0
  have hs := h.small
  have e64 : (k + 1) * 64 - k * 64 = 64 := by omega
  clear h
  go_enter Tryd.func62, Tryd.ntmps62
  go_wp2
  go_ret
  rw [e64]
  exact ⟨rfl, rfl⟩
theorem frames_any (w : World) (p n c : Nat) (a : Option Addr) (h : w.cell? ⟨p, 1, none⟩ = some (.slice a n c)) : Calls Tryd.prog 32 #[.pointer (some ⟨p, 0, none⟩)] w fun e w' => e = .returned (.int .i64 n) ∧ w = w' := by
  go_enter Tryd.func32, Tryd.ntmps32
  go_wp2
  go_ret
  exact ⟨rfl, rfl⟩
theorem frames_nil (w : World) : Calls Tryd.prog 32 #[.pointer none] w fun e w' => e = .returned (.int .i64 0) ∧ w = w' := by
  go_enter Tryd.func32, Tryd.ntmps32
  go_wp2
  go_ret
  exact ⟨rfl, rfl⟩
theorem free_any (w : World) (p : Nat) (v : Int) (h : w.cell? ⟨p, 2, none⟩ = some (.int .i64 v)) : Calls Tryd.prog 31 #[.pointer (some ⟨p, 0, none⟩)] w fun e w' => e = .returned (.int .i64 v) ∧ w = w' := by
  go_enter Tryd.func31, Tryd.ntmps31
  go_wp2
  go_ret
  exact ⟨rfl, rfl⟩
theorem free_nil (w : World) : Calls Tryd.prog 31 #[.pointer none] w fun e w' => e = .returned (.int .i64 0) ∧ w = w' := by
  go_enter Tryd.func31, Tryd.ntmps31
  go_wp2
  go_ret
  exact ⟨rfl, rfl⟩
/-- How often a frame is held: of none, never. -/
def heldAt (H : List Int) (s : Int) : Int := if s < 0 ∨ (H.length : Int) ≤ s then 0 else H.getD s.toNat 0
theorem heldAt_nat {H : List Int} {k : Nat} (hk : k < H.length) : heldAt H k = H[k] := by simp [heldAt, hk]; omega
theorem heldAt_out {H : List Int} {s : Int} (h : s < 0 ∨ (H.length : Int) ≤ s) : heldAt H s = 0 := by simp [heldAt, h]
theorem held_any (w : World) (p bb hb : Nat) (S : List (List UInt8)) (H : List Int) (fr : Int) (s : Int) (h : PA w p bb hb S H fr) : Calls Tryd.prog 30 #[.pointer (some ⟨p, 0, none⟩), .int .i64 s] w fun e w' => e = .returned (.int .i64 (heldAt H s)) ∧ w = w' := by
  have c1 := h.c1
  have hs := h.small
  by_cases h1 : s < 0
  · rw [heldAt_out (.inl h1)]
    clear h
    go_enter Tryd.func30, Tryd.ntmps30
    go_wp2
    go_ret
    exact ⟨rfl, rfl⟩
  · by_cases h2 : (H.length : Int) ≤ s
    · rw [heldAt_out (.inr h2)]
      clear h
      go_enter Tryd.func30, Tryd.ntmps30
      go_wp2
      go_ret
      exact ⟨rfl, rfl⟩
    · obtain ⟨k, rfl⟩ := Int.eq_ofNat_of_zero_le (show 0 ≤ s by omega)
      have hk : k < H.length := by omega
      rw [heldAt_nat hk]
      have hc := h.at hk
      clear h
      generalize H[k] = v at *
      go_enter Tryd.func30, Tryd.ntmps30
      go_wp2
      go_ret
      exact ⟨rfl, rfl⟩
theorem held_out (w : World) (p n c : Nat) (a : Option Addr) (s : Int) (hs : s < 0 ∨ (n : Int) ≤ s) (hn : n ≤ 4096) (h : w.cell? ⟨p, 1, none⟩ = some (.slice a n c)) : Calls Tryd.prog 30 #[.pointer (some ⟨p, 0, none⟩), .int .i64 s] w fun e w' => e = .returned (.int .i64 0) ∧ w = w' := by
  rcases hs with hs | hs
  all_goals
    go_enter Tryd.func30, Tryd.ntmps30
    go_wp2
    go_ret
    exact ⟨rfl, rfl⟩
theorem held_nil (w : World) (s : Int) : Calls Tryd.prog 30 #[.pointer none, .int .i64 s] w fun e w' => e = .returned (.int .i64 0) ∧ w = w' := by
  go_enter Tryd.func30, Tryd.ntmps30
  go_wp2
  go_ret
  exact ⟨rfl, rfl⟩

/-! ## New -/
theorem Tryd.info3 : (Tryd.prog.info? 3).map (fun i => (i.zero, i.size, i.bytes)) = some (some (.int .i64 0), 1, 8) := by kernel_rfl
theorem made_ints (m : Nat) : madeCells #[.int .i64 0] m = ((List.replicate m (0 : Int)).map (Value.int .i64)).toArray := by
  apply Array.ext'
  simp only [madeCells, List.map_replicate]
  rw [Array.toList_map, Array.toList_range]
  apply List.ext_getElem
  · simp
  · intro i h1 h2
    simp [Nat.mod_one]
def zeroSec : List UInt8 := List.replicate 64 0
theorem flat_zero (n : Nat) : (List.replicate n zeroSec).flatten = List.replicate (n * 64) 0 := by
  induction n with
  | zero => rfl
  | succ n ih => rw [List.replicate_succ, List.flatten_cons, ih, zeroSec, List.replicate_append_replicate]; congr 1; omega
def newFP (n : Nat) : FP := ⟨List.replicate n zeroSec, List.replicate n 0⟩
theorem frees_new (n : Nat) : frees (List.replicate n 0) = n := by
  rw [frees, List.countP_replicate]; rfl
theorem new_no (w : World) (s : Int) (h : s < 1 ∨ 4096 < s) : Calls Tryd.prog 18 #[.int .i64 s] w fun e w' => e = .returned (.pointer none) ∧ w = w' := by
  rcases h with h | h
  all_goals
    go_enter Tryd.func18, Tryd.ntmps18
    go_wp2
    go_ret
    exact ⟨rfl, rfl⟩
theorem mk_pool {W : World} {p bb hb n : Nat} (hp : W.heap[p]? = some (.cells #[Value.slice (some ⟨bb, 0, none⟩) (n * 64) (n * 64), .slice (some ⟨hb, 0, none⟩) n n, .int .i64 n] 66))
    (hr : W.heap[bb]? = some (.cells (madeCells #[.int .u8 0] (n * 64)) 5)) (hh : W.heap[hb]? = some (.cells (madeCells #[.int .i64 0] n) 3)) (hn : n ≤ 4096) (h1 : p ≠ bb) (h2 : p ≠ hb) (h3 : bb ≠ hb) : IsPool W p bb hb (newFP n) := by
  refine ⟨?_, ?_, ?_, ?_, by simp [newFP], by simpa [newFP] using hn, h1, h2, h3⟩
  · rw [hp]; simp [newFP, frees_new]
  · rw [hr, made_bytes]; simp only [newFP, flat_zero]
  · rw [hh, made_ints]; rfl
  · intro x hx
    simp only [newFP, List.mem_replicate] at hx
    rw [hx.2]; rfl
theorem heap3 (w : World) (A B C : Obj) : (((w.alloc A).alloc B).alloc C).drew.heap[w.heap.size]? = some A ∧ (((w.alloc A).alloc B).alloc C).drew.heap[w.heap.size + 1]? = some B ∧ (((w.alloc A).alloc B).alloc C).drew.heap[w.heap.size + 1 + 1]? = some C := by
  refine ⟨?_, ?_, ?_⟩
  · show (((w.alloc A).alloc B).alloc C).heap[_]? = _
    rw [Below.heap_alloc _ _ _ (by simp; omega), Below.heap_alloc _ _ _ (by simp)]
    exact heap_alloc_new w _
  · show (((w.alloc A).alloc B).alloc C).heap[_]? = _
    rw [Below.heap_alloc _ _ _ (by simp)]
    have := heap_alloc_new (w.alloc A) B
    rwa [World.size_alloc] at this
  · show (((w.alloc A).alloc B).alloc C).heap[_]? = _
    have := heap_alloc_new ((w.alloc A).alloc B) C
    rwa [World.size_alloc, World.size_alloc] at this
theorem below3 (w : World) (A B C : Obj) : Below w.heap.size w (((w.alloc A).alloc B).alloc C).drew := ((((Below.refl _ w).alloc (Nat.le_refl _) A).alloc (by simp) B).alloc (by simp; omega) C).drew
set_option maxHeartbeats 1000000 in
theorem new_ok (w : World) (n : Nat) (h0 : 1 ≤ n) (h1 : n ≤ 4096) :
    Calls Tryd.prog 18 #[.int .i64 n] w fun e w' => ∃ p bb hb, e = .returned (.pointer (some ⟨p, 0, none⟩)) ∧ w.heap.size ≤ p ∧ w.heap.size ≤ bb ∧ w.heap.size ≤ hb ∧ IsPool w' p bb hb (newFP n) ∧ Below w.heap.size w w' := by
  obtain ⟨i0, hi, hz0, hz1, hz2⟩ := info_parts Tryd.infoU8
  have hmk := fun W => run_make (P := Tryd.prog) W 64 5 i0 _ Tryd.underlying64 hi hz0 .i64 .i64 ((n : Int) * 64) ((n : Int) * 64) (by omega) (by omega) (by rw [hz2]; omega) (by omega)
  rw [hz1] at hmk
  clear hz0 hz1 hz2 hi i0
  obtain ⟨i0, hi, hz0, hz1, hz2⟩ := info_parts Tryd.info3
  have hmk2 := fun W => run_make (P := Tryd.prog) W 46 3 i0 _ Tryd.underlying46 hi hz0 .i64 .i64 (n : Int) (n : Int) (by omega) (by omega) (by rw [hz2]; omega) (by omega)
  rw [hz1] at hmk2
  clear hz0 hz1 hz2 hi
  go_enter Tryd.func18, Tryd.ntmps18
  go_wp2_with fail
  go_region
  all_goals
    go_wp2_with fail
    go_ret
    first
      | exact ⟨w.heap.size + 1 + 1, w.heap.size, w.heap.size + 1, rfl, by omega, by omega, by omega, mk_pool (heap3 w _ _ _).2.2 (heap3 w _ _ _).1 (heap3 w _ _ _).2.1 h1 (by omega) (by omega) (by omega), below3 w _ _ _⟩
      | exact ⟨w.heap.size + 1 + 1, w.heap.size + 1, w.heap.size, rfl, by omega, by omega, by omega, mk_pool (heap3 w _ _ _).2.2 (heap3 w _ _ _).2.1 (heap3 w _ _ _).1 h1 (by omega) (by omega) (by omega), below3 w _ _ _⟩
end Go.Proofs.YtacpfkimjaihgaaDoor
