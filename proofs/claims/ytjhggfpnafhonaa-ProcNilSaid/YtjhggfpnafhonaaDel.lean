/- slices.DeleteFunc over processes, with children's closure. Nothing here is conditional. -/
import Derived.Test.YtjhggfpnafhonaaClear
namespace Go.Proofs.Ytjhggfpnafhonaa
open Go.RowKit Go.Maps

theorem set4 (l : List Value) (i : Nat) (a b c d : Value) (h : i + 4 ≤ l.length) :
    (((l.set i a).set (i + 1) b).set (i + 2) c).set (i + 3) d = l.take i ++ [a, b, c, d] ++ l.drop (i + 4) := by
  apply List.ext_getElem?
  intro j
  have e1 : (l.take i).length = i := by rw [List.length_take]; omega
  simp only [List.getElem?_set, List.length_set]
  rcases Nat.lt_or_ge j i with hj | hj
  · rw [List.append_assoc, List.getElem?_append_left (by omega), List.getElem?_take, if_pos hj, if_neg (by omega), if_neg (by omega), if_neg (by omega), if_neg (by omega)]
  · rcases Nat.lt_or_ge j (i + 4) with hj4 | hj4
    · rw [List.append_assoc, List.getElem?_append_right (by omega), List.getElem?_append_left (by simp; omega), e1]
      obtain rfl | rfl | rfl | rfl : j = i ∨ j = i + 1 ∨ j = i + 2 ∨ j = i + 3 := by omega
      all_goals simp
      all_goals omega
    · rw [List.getElem?_append_right (by simp; omega), if_neg (by omega), if_neg (by omega), if_neg (by omega), if_neg (by omega), List.getElem?_drop]
      congr 1
      simp
      omega

theorem cellsOf_take (T : List Pr) (j : Nat) : (cellsOf T).take (j * 4) = cellsOf (T.take j) := by
  induction T generalizing j with
  | nil => simp [cellsOf]
  | cons p r ih =>
    cases j with
    | zero => simp [cellsOf]
    | succ j =>
      have e4 : p.cells.length = 4 := rfl
      simp only [cellsOf, List.flatMap_cons, List.take_succ_cons] at ih ⊢
      rw [List.take_append, e4, show (j + 1) * 4 - 4 = j * 4 from by omega, ih, List.take_of_length_le (by omega)]
theorem cellsOf_drop (T : List Pr) (j : Nat) : (cellsOf T).drop (j * 4) = cellsOf (T.drop j) := by
  induction T generalizing j with
  | nil => simp [cellsOf]
  | cons p r ih =>
    cases j with
    | zero => simp [cellsOf]
    | succ j =>
      have e4 : p.cells.length = 4 := rfl
      simp only [cellsOf, List.flatMap_cons, List.drop_succ_cons] at ih ⊢
      rw [List.drop_append, e4, show (j + 1) * 4 - 4 = j * 4 from by omega, ih, List.drop_of_length_le (by omega), List.nil_append]

def keepP (k : Int) (p : Pr) : Bool := decide (p.parent = k)
/-- What the block holds at round j. -/
structure Mid (k : Int) (T : List Pr) (cap j : Nat) (cur : Array Value) : Prop where
  size : cur.size = cap * 4
  fst : cur.toList.take (((T.take j).filter (keepP k)).length * 4) = cellsOf ((T.take j).filter (keepP k))
  snd : (cur.toList.drop (j * 4)).take ((T.length - j) * 4) = cellsOf (T.drop j)

theorem cnt_le (k : Int) (T : List Pr) (j : Nat) (hj : j ≤ T.length) : ((T.take j).filter (keepP k)).length ≤ j := by
  have := List.length_filter_le (keepP k) (T.take j)
  rw [List.length_take] at this
  omega
theorem Mid.at {k : Int} {T : List Pr} {cap j : Nat} {cur : Array Value} (h : Mid k T cap j cur) (hj : j < T.length) (i : Nat) (hi : i < 4) : cur[j * 4 + i]? = T[j].cells[i]? := by
  have h1 : ((cur.toList.drop (j * 4)).take ((T.length - j) * 4))[i]? = (cellsOf (T.drop j))[i]? := by rw [h.snd]
  rw [List.getElem?_take, if_pos (by omega), List.getElem?_drop] at h1
  have h2 := cellsOf_at (T.drop j) 0 i (by simp; omega) hi
  simp only [Nat.zero_mul, Nat.zero_add, List.getElem_drop, Nat.add_zero] at h2
  rw [← h2, ← h1]
  simp
theorem Mid.skip {k : Int} {T : List Pr} {cap j : Nat} {cur : Array Value} (h : Mid k T cap j cur) (hj : j < T.length) (hk : keepP k T[j] = false) : Mid k T cap (j + 1) cur := by
  have e : (T.take (j + 1)).filter (keepP k) = (T.take j).filter (keepP k) := by
    rw [List.take_succ_eq_append_getElem hj, List.filter_append]
    simp [hk]
  refine ⟨h.size, by rw [e]; exact h.fst, ?_⟩
  have := congrArg (List.drop 4) h.snd
  rw [List.drop_take, List.drop_drop, show T.drop j = T[j] :: T.drop (j + 1) from List.drop_eq_getElem_cons hj] at this
  rw [show (j + 1) * 4 = j * 4 + 4 from by omega, show (T.length - (j + 1)) * 4 = (T.length - j) * 4 - 4 from by omega, this]
  rfl

theorem Mid.keep {k : Int} {T : List Pr} {cap j c : Nat} {cur : Array Value} (h : Mid k T cap j cur) (hj : j < T.length) (hcap : T.length ≤ cap) (hk : keepP k T[j] = true) (p : Pr) (hp : T[j] = p)
    (hc : ((T.take j).filter (keepP k)).length = c) :
    Mid k T cap (j + 1) ((((cur.toList.set (c * 4) (.int .i64 p.pid)).set (c * 4 + 1) (.int .i64 p.parent)).set (c * 4 + 2) (.int .i64 p.state)).set (c * 4 + 3) (.int .i64 p.code)).toArray ∧ ((T.take (j + 1)).filter (keepP k)).length = c + 1 := by
  subst hp
  have hcj : c ≤ j := by rw [← hc]; exact cnt_le k T j (by omega)
  have hsz : cur.toList.length = cap * 4 := by rw [Array.length_toList, h.size]
  have e : (T.take (j + 1)).filter (keepP k) = (T.take j).filter (keepP k) ++ [T[j]] := by
    rw [List.take_succ_eq_append_getElem hj, List.filter_append]
    simp [hk]
  have hlen : ((T.take (j + 1)).filter (keepP k)).length = c + 1 := by rw [e, List.length_append, hc]; rfl
  rw [set4 _ _ _ _ _ _ (by rw [hsz]; omega)]
  have htl : (cur.toList.take (c * 4)).length = c * 4 := by rw [List.length_take, hsz]; omega
  have hf := h.fst
  rw [hc] at hf
  refine ⟨⟨?_, ?_, ?_⟩, hlen⟩
  · simp only [List.size_toArray, List.length_append, htl, List.length_drop, hsz, List.length_cons, List.length_nil]
    omega
  · rw [hlen, e, cellsOf_append, ← hf, show ([.int .i64 T[j].pid, .int .i64 T[j].parent, .int .i64 T[j].state, .int .i64 T[j].code] : List Value) = cellsOf [T[j]] from rfl]
    rw [List.take_append_of_le_length (by simp [htl, cellsOf_length]; omega), List.take_of_length_le (by simp [htl, cellsOf_length]; omega)]
  · have := congrArg (List.drop 4) h.snd
    rw [List.drop_take, List.drop_drop, show T.drop j = T[j] :: T.drop (j + 1) from List.drop_eq_getElem_cons hj] at this
    rw [List.drop_append, List.drop_of_length_le (by simp [htl]; omega), List.nil_append, List.drop_drop]
    simp only [List.length_append, htl, List.length_cons, List.length_nil]
    rw [show c * 4 + 4 + ((j + 1) * 4 - (c * 4 + (0 + 1 + 1 + 1 + 1))) = j * 4 + 4 from by omega, show (T.length - (j + 1)) * 4 = (T.length - j) * 4 - 4 from by omega, this]
    rfl
end Go.Proofs.Ytjhggfpnafhonaa
