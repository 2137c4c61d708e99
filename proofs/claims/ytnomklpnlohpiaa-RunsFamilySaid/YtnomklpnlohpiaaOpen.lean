/- What an argument of type []api.Call reads as, said of its cells (CallsAt). -/
import Derived.Test.YtnomklpnlohpiaaBase
import Derived.ProofKit
import Derived.OpenShut
import Derived.ShutString
import Derived.ChangeOld
import Derived.Deep.Slices
import Derived.Deep.Fields
import Derived.ChangeSame
namespace Go.Proofs.Ytnomklpnlohpiaa
open Go.ChangeShapes Go.WideShapes Go.ChangeAt Go.RowKit Go.Deep

section
variable {H : Type} {enc : TypeId × Value → H} {P : Program} {w : World} {base : Nat} {spare : Nat → Bool} {held : Bool}
theorem open_slice_fields {t e : TypeId} {fs : Array Field} {fuel : Nat} {cs : List Value} {x : DataW H × List MemPlace} (ht : P.underlying t = some (.slice e)) (he : P.underlying e = some (.struct fs))
    (hone : oneCellFields P fs = true) (hC : P.cellsOf e = fs.size) (h : DataW.trod enc P w base spare held fuel t cs = some x) :
    (cs = [.slice none 0 0] ∧ x = (.nil, [])) ∨
    ∃ (a : Addr) (len cap m : Nat) (D : Nat → DataW H) (Pl : Nat → List MemPlace), cs = [.slice (some a) len cap] ∧ base ≤ a.block ∧ len ≤ cap ∧ cap ≤ maxLen ∧ m = (if spare a.block then cap else len) ∧
      x = (.slice ((List.range len).map D) ((List.range (m - len)).map fun j => D (len + j)), MemPlace.row a (m * fs.size) ++ (List.range m).flatMap Pl) ∧
      ∀ i, i < m → ∃ (ys : List (DataW H × List MemPlace)) (n : Nat), D i = .agg (ys.map (·.1)) ∧ Pl i = ys.flatMap (·.2) ∧ ys.length = fs.size ∧
        ∀ (j : Nat) (f : Field), fs[j]? = some f → ∃ (v : Value) (y : DataW H × List MemPlace), w.cell? (a.add (i * fs.size + j)) = some v ∧ ys[j]? = some y ∧ DataW.trod enc P w base spare held n f.type [v] = some y := by
  rcases open_slice ht h with h0 | ⟨a, len, cap, m, n, D, Pl, hcs, hb, hl, hm, hmm, hx, hi⟩
  · exact .inl h0
  · refine .inr ⟨a, len, cap, m, D, Pl, hcs, hb, hl, hm, hmm, by rw [hC] at hx; exact hx, fun i him => ?_⟩
    obtain ⟨cs', hc, ht'⟩ := hi i him
    rw [hC] at hc
    obtain ⟨ys, n', hn', hy, hlen, hyl, hf⟩ := DataW.trod_struct he ht'
    obtain ⟨_, hcl, hat⟩ := World.cells?_some hc
    simp only [Prod.mk.injEq] at hy
    refine ⟨ys, n', hy.1, hy.2, hyl, fun j f hj => ?_⟩
    obtain ⟨ho, hk⟩ := hone_of hone j f hj
    have hjl : j < fs.size := (Array.getElem?_eq_some_iff.1 hj).1
    have hcell := hat j hjl
    have hv : cs'[j]? = some (cs'[j]'(by omega)) := List.getElem?_eq_getElem (by omega)
    have h1 := hf j f hj
    rw [ho, hk] at h1
    have hone' : (cs'.drop j).take 1 = [cs'[j]'(by omega)] := by
      rw [List.drop_eq_getElem_cons (by omega)]
      rfl
    rw [hone'] at h1
    have hys : ys[j]? = some (ys[j]'(by omega)) := List.getElem?_eq_getElem (by omega)
    refine ⟨_, _, ?_, hys, h1.trans hys⟩
    rw [← Go.Deep.add_add, hcell, hv]
end

section
variable {H : Type} {enc : TypeId × Value → H} {w : World} {base : Nat} {spare : Nat → Bool} {held : Bool}
theorem trod_slice_shape {t e : TypeId} {fuel : Nat} {v : Value} {x : DataW H × List MemPlace} (ht : Try.prog.underlying t = some (.slice e)) (h : DataW.trod enc Try.prog w base spare held fuel t [v] = some x) : ∃ a l c, v = .slice a l c := by
  rcases DataW.trod_slice ht h with ⟨hc, _⟩ | ⟨a, l, c, _, _, _, _, hc, _⟩
  · exact ⟨none, 0, 0, by simpa using hc⟩
  · exact ⟨some a, l, c, by simpa using hc⟩
/-- One call, out of the readings of its nine fields. -/
theorem one_call {fuel : Nat} {x : Addr} {i : Nat}
    (h : ∀ (j : Nat) (f : Field), (match Try.prog.underlying 30 with | some (.struct fs) => fs | _ => #[])[j]? = some f → ∃ (v : Value) (y : DataW H × List MemPlace), w.cell? (x.add (i * 9 + j)) = some v ∧ DataW.trod enc Try.prog w base spare held fuel f.type [v] = some y) :
    ∃ c : CV, ∀ j, j < 9 → w.cell? (x.add (i * 9 + j)) = some (c.cell j) := by
  rw [Try.underlying30] at h
  obtain ⟨v0, y0, c0, t0⟩ := h 0 _ rfl
  obtain ⟨v1, y1, c1, t1⟩ := h 1 _ rfl
  obtain ⟨v2, y2, c2, t2⟩ := h 2 _ rfl
  obtain ⟨v3, y3, c3, t3⟩ := h 3 _ rfl
  obtain ⟨v4, y4, c4, t4⟩ := h 4 _ rfl
  obtain ⟨v5, y5, c5, t5⟩ := h 5 _ rfl
  obtain ⟨v6, y6, c6, t6⟩ := h 6 _ rfl
  obtain ⟨v7, y7, c7, t7⟩ := h 7 _ rfl
  obtain ⟨v8, y8, c8, t8⟩ := h 8 _ rfl
  obtain ⟨n0, e0, _, _⟩ := DataW.trod_int Try.underlying3 t0
  obtain ⟨n1, e1, _, _⟩ := DataW.trod_int Try.underlying3 t1
  obtain ⟨n2, e2, _, _⟩ := DataW.trod_int Try.underlying3 t2
  obtain ⟨n3, e3, _, _⟩ := DataW.trod_int Try.underlying3 t3
  obtain ⟨n4, e4, _, _⟩ := DataW.trod_int Try.underlying3 t4
  obtain ⟨s5, e5, _, _⟩ := DataW.trod_string Try.underlying9 t5
  obtain ⟨a6, l6, k6, e6⟩ := trod_slice_shape Try.underlying27 t6
  obtain ⟨a7, l7, k7, e7⟩ := trod_slice_shape Try.underlying27 t7
  obtain ⟨n8, e8, _, _⟩ := DataW.trod_int Try.underlying28 t8
  simp only [List.cons.injEq, and_true] at e0 e1 e2 e3 e4 e5 e8
  subst e0 e1 e2 e3 e4 e5 e6 e7 e8
  refine ⟨⟨n0, n1, n2, n3, n4, s5, a6, l6, k6, a7, l7, k7, n8⟩, fun j hj => ?_⟩
  match j, hj with
  | 0, _ => exact c0
  | 1, _ => exact c1
  | 2, _ => exact c2
  | 3, _ => exact c3
  | 4, _ => exact c4
  | 5, _ => exact c5
  | 6, _ => exact c6
  | 7, _ => exact c7
  | 8, _ => exact c8

/-- The argument as the walks take it. -/
theorem open_calls {fuel : Nat} {a : Option Addr} {len cap : Nat} {x : DataW H × List MemPlace} (h : DataW.trod enc Try.prog w base spare held fuel 22 [.slice a len cap] = some x) :
    len ≤ cap ∧ cap ≤ maxLen ∧ ∃ cs : List CV, cs.length = len ∧ CallsAt w a cs := by
  rcases open_slice_fields Try.underlying22 Try.underlying30 (by kernel_rfl) (by kernel_rfl) h with ⟨hcs, _⟩ | ⟨b, l, c, m, D, Pl, hcs, _, hl, hm, hmm, _, hi⟩
  · simp at hcs
    obtain ⟨rfl, rfl, rfl⟩ := hcs
    exact ⟨by omega, by simp [maxLen], [], rfl, fun i hi => absurd hi (by simp)⟩
  · simp at hcs
    obtain ⟨rfl, rfl, rfl⟩ := hcs
    have hlm : len ≤ m := by rw [hmm]; split <;> omega
    have hc : ∀ i, i < len → ∃ c : CV, ∀ j, j < 9 → w.cell? (b.add (i * 9 + j)) = some (c.cell j) := by
      intro i hil
      obtain ⟨ys, n, _, _, hys, hf⟩ := hi i (by omega)
      refine one_call (enc := enc) (base := base) (spare := spare) (held := held) (fuel := n) (x := b) (i := i) fun j f hj => ?_
      rw [Try.underlying30] at hj
      obtain ⟨v, y, hv, _, ht⟩ := hf j f hj
      exact ⟨v, y, hv, ht⟩
    refine ⟨hl, hm, (List.range len).attach.map fun i => Classical.choose (hc i.1 (by simpa using i.2)), by simp, fun i hi => ?_⟩
    simp at hi
    have hs := Classical.choose_spec (hc i hi)
    obtain ⟨bb, off, spot⟩ := b
    have h0 := hs 0 (by omega)
    have hspot : ∀ j, j < 9 → (⟨bb, off, spot⟩ : Addr).add (i * 9 + j) = ⟨bb, off + i * 9 + j, none⟩ := by
      intro j hj
      unfold Addr.add
      split
      · have e : i * 9 + j = 0 := by assumption
        have := World.cell?_spot (hs j hj)
        simp only [Addr.add, if_pos e] at this
        simp only [Addr.mk.injEq]
        exact ⟨trivial, by omega, this⟩
      · simp; omega
    have hsp : spot = none := by
      obtain ⟨c0, h00⟩ := hc 0 (by omega)
      have h01 := h00 0 (by omega)
      simpa [Addr.add] using World.cell?_spot h01
    subst hsp
    refine ⟨bb, off, rfl, fun j hj => ?_⟩
    have := hs j hj
    rw [hspot j hj] at this
    rw [this]
    simp
end
end Go.Proofs.Ytnomklpnlohpiaa
