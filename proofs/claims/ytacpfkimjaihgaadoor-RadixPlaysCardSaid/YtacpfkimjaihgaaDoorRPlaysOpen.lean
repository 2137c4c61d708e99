/- What a slice of a table's calls reads as. No conditions. -/
import Derived.Test.YtacpfkimjaihgaaDoorFOpen
import Derived.Test.YtacpfkimjaihgaaDoorRPlaysWalk
namespace Go.Proofs.YtacpfkimjaihgaaDoor
open Go.ChangeShapes Go.WideShapes Go.ChangeAt Go.RowKit Go.Deep
set_option linter.unusedVariables false
theorem list_pick {α : Type} {P : Nat → α → Prop} : ∀ n, (∀ i, i < n → ∃ o, P i o) → ∃ L : List α, L.length = n ∧ ∀ i (hi : i < L.length), P i L[i] := by
  intro n
  induction n with
  | zero => intro _; exact ⟨[], rfl, fun i hi => absurd hi (by simp)⟩
  | succ n ih =>
    intro h
    obtain ⟨L, hl, hp⟩ := ih (fun i hi => h i (by omega))
    obtain ⟨o, ho⟩ := h n (by omega)
    refine ⟨L ++ [o], by simp [hl], fun i hi => ?_⟩
    simp [hl] at hi
    by_cases e : i < n
    · rw [List.getElem_append_left (by omega)]
      exact hp i (by omega)
    · have e2 : i = n := by omega
      subst e2
      rw [List.getElem_append_right (by omega)]
      simpa [hl] using ho
section
variable {H : Type} {enc : TypeId × Value → H} {w : World} {base : Nat} {spare : Nat → Bool} {held : Bool}
set_option maxRecDepth 100000 in
theorem slot_cells {fuel : Nat} {l : List Value} {d : DataW H × List MemPlace} (hl : l.length = 5) (hf : DataW.trod enc Tryd.prog w base spare held fuel 68 l = some d) : ∃ (a b c e : Bool) (n : Int), l = [.bool a, .bool b, .bool c, .bool e, .int .i64 n] := by
  have c4 : Tryd.prog.cellsOf 4 = 1 := by kernel_rfl
  obtain ⟨xs, m, _, _, _, hlx, hi⟩ := DataW.trod_struct Tryd.underlying68 hf
  simp only [List.size_toArray, List.length_cons, List.length_nil] at hlx
  obtain ⟨y0, hy0⟩ : ∃ y, xs[0]? = some y := ⟨_, List.getElem?_eq_getElem (by omega)⟩
  have h0 : DataW.trod enc Tryd.prog w base spare held m 4 (List.take (Tryd.prog.cellsOf 4) (List.drop 0 l)) = xs[0]? := hi 0 _ rfl
  rw [hy0, c4] at h0
  obtain ⟨y1, hy1⟩ : ∃ y, xs[1]? = some y := ⟨_, List.getElem?_eq_getElem (by omega)⟩
  have h1 : DataW.trod enc Tryd.prog w base spare held m 4 (List.take (Tryd.prog.cellsOf 4) (List.drop 1 l)) = xs[1]? := hi 1 _ rfl
  rw [hy1, c4] at h1
  obtain ⟨y2, hy2⟩ : ∃ y, xs[2]? = some y := ⟨_, List.getElem?_eq_getElem (by omega)⟩
  have h2 : DataW.trod enc Tryd.prog w base spare held m 4 (List.take (Tryd.prog.cellsOf 4) (List.drop 2 l)) = xs[2]? := hi 2 _ rfl
  rw [hy2, c4] at h2
  obtain ⟨y3, hy3⟩ : ∃ y, xs[3]? = some y := ⟨_, List.getElem?_eq_getElem (by omega)⟩
  have h3 : DataW.trod enc Tryd.prog w base spare held m 4 (List.take (Tryd.prog.cellsOf 4) (List.drop 3 l)) = xs[3]? := hi 3 _ rfl
  rw [hy3, c4] at h3
  obtain ⟨y4, hy4⟩ : ∃ y, xs[4]? = some y := ⟨_, List.getElem?_eq_getElem (by omega)⟩
  have h4 : DataW.trod enc Tryd.prog w base spare held m 3 (List.take (Tryd.prog.cellsOf 3) (List.drop 4 l)) = xs[4]? := hi 4 _ rfl
  rw [hy4, cellsOf3] at h4
  obtain ⟨a, e0, _⟩ := DataW.trod_bool Tryd.underlying4 h0
  obtain ⟨b, e1, _⟩ := DataW.trod_bool Tryd.underlying4 h1
  obtain ⟨c, e2, _⟩ := DataW.trod_bool Tryd.underlying4 h2
  obtain ⟨e, e3, _⟩ := DataW.trod_bool Tryd.underlying4 h3
  obtain ⟨n, e4, _, _⟩ := DataW.trod_int Tryd.underlying3 h4
  refine ⟨a, b, c, e, n, ?_⟩
  match l, hl with
  | [p0, p1, p2, p3, p4], _ =>
    simp at e0 e1 e2 e3 e4
    rw [e0, e1, e2, e3, e4]
set_option maxRecDepth 100000 in
theorem op8_cells {fuel : Nat} {l : List Value} {d : DataW H × List MemPlace} (hl : l.length = 8) (hf : DataW.trod enc Tryd.prog w base spare held fuel 97 l = some d) : ∃ o : Op8, l = o.cells := by
  have c4 : Tryd.prog.cellsOf 4 = 1 := by kernel_rfl
  have c68 : Tryd.prog.cellsOf 68 = 5 := by kernel_rfl
  obtain ⟨xs, m, _, _, _, hlx, hi⟩ := DataW.trod_struct Tryd.underlying97 hf
  simp only [List.size_toArray, List.length_cons, List.length_nil] at hlx
  obtain ⟨y0, hy0⟩ : ∃ y, xs[0]? = some y := ⟨_, List.getElem?_eq_getElem (by omega)⟩
  have h0 : DataW.trod enc Tryd.prog w base spare held m 3 (List.take (Tryd.prog.cellsOf 3) (List.drop 0 l)) = xs[0]? := hi 0 _ rfl
  rw [hy0, cellsOf3] at h0
  obtain ⟨y1, hy1⟩ : ∃ y, xs[1]? = some y := ⟨_, List.getElem?_eq_getElem (by omega)⟩
  have h1 : DataW.trod enc Tryd.prog w base spare held m 3 (List.take (Tryd.prog.cellsOf 3) (List.drop 1 l)) = xs[1]? := hi 1 _ rfl
  rw [hy1, cellsOf3] at h1
  obtain ⟨y2, hy2⟩ : ∃ y, xs[2]? = some y := ⟨_, List.getElem?_eq_getElem (by omega)⟩
  have h2 : DataW.trod enc Tryd.prog w base spare held m 4 (List.take (Tryd.prog.cellsOf 4) (List.drop 2 l)) = xs[2]? := hi 2 _ rfl
  rw [hy2, c4] at h2
  obtain ⟨y3, hy3⟩ : ∃ y, xs[3]? = some y := ⟨_, List.getElem?_eq_getElem (by omega)⟩
  have h3 : DataW.trod enc Tryd.prog w base spare held m 68 (List.take (Tryd.prog.cellsOf 68) (List.drop 3 l)) = xs[3]? := hi 3 _ rfl
  rw [hy3, c68] at h3
  obtain ⟨a, e0, _, _⟩ := DataW.trod_int Tryd.underlying3 h0
  obtain ⟨b, e1, _, _⟩ := DataW.trod_int Tryd.underlying3 h1
  obtain ⟨c, e2, _⟩ := DataW.trod_bool Tryd.underlying4 h2
  obtain ⟨s1, s2, s3, s4, s5, e3⟩ := slot_cells (by simp; omega) h3
  refine ⟨⟨a, b, c, ⟨s1, s2, s3, s4, s5⟩⟩, ?_⟩
  match l, hl with
  | [p0, p1, p2, p3, p4, p5, p6, p7], _ =>
    simp at e0 e1 e2 e3
    obtain ⟨r3, r4, r5, r6, r7⟩ := e3
    rw [e0, e1, e2, r3, r4, r5, r6, r7]
    rfl
theorem open_ops8 {fuel : Nat} {a : Option Addr} {len cap : Nat} {x : DataW H × List MemPlace} (h : DataW.trod enc Tryd.prog w base spare held fuel 92 [.slice a len cap] = some x) :
    len ≤ cap ∧ cap ≤ maxLen ∧ ∃ L : List Op8, L.length = len ∧ Ops8At w a L := by
  have c97 : Tryd.prog.cellsOf 97 = 8 := by kernel_rfl
  rcases open_slice Tryd.underlying92 h with ⟨hcs, _⟩ | ⟨b, l, c, m, f, D, Pl, hcs, _, hl, hm, hmm, _, hi⟩
  · simp at hcs
    obtain ⟨rfl, rfl, rfl⟩ := hcs
    exact ⟨by omega, by simp [maxLen], [], rfl, fun i hi => absurd hi (by simp)⟩
  · simp at hcs
    obtain ⟨rfl, rfl, rfl⟩ := hcs
    have hlm : len ≤ m := by rw [hmm]; split <;> omega
    have hc : ∀ i, i < len → ∃ o : Op8, ∀ j v, o.cells[j]? = some v → w.cell? ((b.add (i * 8)).add j) = some v := by
      intro i hil
      obtain ⟨cs', hc, ht⟩ := hi i (by omega)
      rw [c97] at hc
      obtain ⟨_, hcl, hat⟩ := World.cells?_some hc
      obtain ⟨o, rfl⟩ := op8_cells hcl ht
      exact ⟨o, fun j v hj => (hat j (by have := (List.getElem?_eq_some_iff.1 hj).1; rw [hcl] at this; exact this)).trans hj⟩
    obtain ⟨L, hL, hP⟩ := list_pick len hc
    refine ⟨hl, hm, L, hL, fun i hi => ?_⟩
    have hs := hP i hi
    have hs0 := hP 0 (by omega)
    obtain ⟨bb, off, spot⟩ := b
    have hsp : spot = none := by simpa [Addr.add] using World.cell?_spot (hs0 0 _ rfl)
    subst hsp
    have hadd : ∀ j, ((⟨bb, off, none⟩ : Addr).add (i * 8)).add j = ⟨bb, off + i * 8 + j, none⟩ := by
      intro j
      unfold Addr.add
      split <;> split <;> simp_all
    simp only [hadd] at hs
    exact ⟨bb, off, rfl, hs⟩
end
end Go.Proofs.YtacpfkimjaihgaaDoor
