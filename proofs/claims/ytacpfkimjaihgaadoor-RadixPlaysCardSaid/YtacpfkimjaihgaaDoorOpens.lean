/- What arguments that are slices read as, said of their cells: of ints, texts, bools, arrays of ints, structs. No conditions. -/
import Derived.Test.YtacpfkimjaihgaaDoorRows
import Derived.WalkKit
import Derived.ProofKit
import Derived.OpenShut
import Derived.ShutString
import Derived.ChangeOld
import Derived.Deep.Slices
import Derived.Deep.Fields
import Derived.ChangeSame
import Derived.SliceStrings
namespace Go.Proofs.YtacpfkimjaihgaaDoor
open Go.ChangeShapes Go.WideShapes Go.ChangeAt Go.RowKit Go.Deep

section
variable {H : Type} {enc : TypeId × Value → H} {P : Program} {w : World} {base : Nat} {spare : Nat → Bool} {held : Bool}
theorem open_slice_fields {t e : TypeId} {fs : Array Field} {fuel : Nat} {cs : List Value} {x : DataW H × List MemPlace} (ht : P.underlying t = some (.slice e)) (he : P.underlying e = some (.struct fs))
    (hone : oneCellFields P fs = true) (hC : P.cellsOf e = fs.size) (h : DataW.trod enc P w base spare held fuel t cs = some x) :
    (cs = [.slice none 0 0] ∧ x = (.nil, [])) ∨
    ∃ (a : Addr) (len cap m : Nat) (D : Nat → DataW H) (Pl : Nat → List MemPlace), cs = [.slice (some a) len cap] ∧ base ≤ a.block ∧ len ≤ cap ∧ cap ≤ maxLen ∧ m = (if spare a.block then cap else len) ∧
      x = (.slice ((List.range len).map D) ((List.range (m - len)).map fun j => D (len + j)), MemPlace.row a (m * fs.size) ++ (List.range m).flatMap Pl) ∧
      ∀ i, i < m → ∃ (ys : List (DataW H × List MemPlace)) (n : Nat), D i = .agg (ys.map (·.1)) ∧ Pl i = ys.flatMap (·.2) ∧ ys.length = fs.size ∧
        ∀ (j : Nat) (f : Field), fs[j]? = some f → ∃ (v : Value) (y : DataW H × List MemPlace), w.cell? (a.add (i * fs.size + j)) = some v ∧ ys[j]? = some y ∧ DataW.trod enc P w base spare held n f.type [v] = some y := by
  rcases open_slice ht h with h0 | ⟨a, len, cap, m, n, D, Pl, hcs, hb, hl, hm, hmm, hx, hi⟩
  · exact .inl h0
  · refine .inr ⟨a, len, cap, m, D, Pl, hcs, hb, hl, hm, hmm, by rw [hC] at hx; exact hx, fun i him => ?_⟩
    obtain ⟨cs', hc, ht'⟩ := hi i him
    rw [hC] at hc
    obtain ⟨ys, n', hn', hy, hlen, hyl, hf⟩ := DataW.trod_struct he ht'
    obtain ⟨_, hcl, hat⟩ := World.cells?_some hc
    simp only [Prod.mk.injEq] at hy
    refine ⟨ys, n', hy.1, hy.2, hyl, fun j f hj => ?_⟩
    obtain ⟨ho, hk⟩ := hone_of hone j f hj
    have hjl : j < fs.size := (Array.getElem?_eq_some_iff.1 hj).1
    have hcell := hat j hjl
    have hv : cs'[j]? = some (cs'[j]'(by omega)) := List.getElem?_eq_getElem (by omega)
    have h1 := hf j f hj
    rw [ho, hk] at h1
    have hone' : (cs'.drop j).take 1 = [cs'[j]'(by omega)] := by
      rw [List.drop_eq_getElem_cons (by omega)]
      rfl
    rw [hone'] at h1
    have hys : ys[j]? = some (ys[j]'(by omega)) := List.getElem?_eq_getElem (by omega)
    refine ⟨_, _, ?_, hys, h1.trans hys⟩
    rw [← Go.Deep.add_add, hcell, hv]
end

/-- The slice's elements are arrays of n ints of a kind. -/
def ArrsAt (k : IntKind) (n : Nat) (w : World) (a : Option Addr) (rows : List (List Int)) : Prop :=
  ∀ i (h : i < rows.length), rows[i].length = n ∧ ∃ b off, a = some ⟨b, off, none⟩ ∧ ∀ j (hj : j < rows[i].length), w.cell? ⟨b, off + i * n + j, none⟩ = some (.int k rows[i][j]) ∧ (Lit.int k rows[i][j]).wf = true

section
variable {H : Type} {enc : TypeId × Value → H} {P : Program} {w : World} {base : Nat} {spare : Nat → Bool} {held : Bool}
theorem open_arrs {T A E : TypeId} {k : IntKind} {n : Nat} {fuel : Nat} {a : Option Addr} {len cap : Nat} {x : DataW H × List MemPlace} (hT : P.underlying T = some (.slice A)) (hA : P.underlying A = some (.array n E)) (hE : P.underlying E = some (.int k))
    (hcA : P.cellsOf A = n) (hcE : P.cellsOf E = 1) (hn : 0 < n) (h : DataW.trod enc P w base spare held fuel T [.slice a len cap] = some x) :
    len ≤ cap ∧ cap ≤ maxLen ∧ ∃ rows : List (List Int), rows.length = len ∧ ArrsAt k n w a rows := by
  rcases open_slice hT h with ⟨hcs, _⟩ | ⟨b, l, c, m, f, D, Pl, hcs, _, hl, hm, hmm, _, hi⟩
  · simp at hcs
    obtain ⟨rfl, rfl, rfl⟩ := hcs
    exact ⟨by omega, by simp [maxLen], [], rfl, fun i hi => absurd hi (by simp)⟩
  · simp at hcs
    obtain ⟨rfl, rfl, rfl⟩ := hcs
    have hlm : len ≤ m := by rw [hmm]; split <;> omega
    have hrow : ∀ i, i < len → ∃ r : List Int, r.length = n ∧ ∀ j (hj : j < r.length), w.cell? ((b.add (i * n)).add j) = some (.int k r[j]) ∧ (Lit.int k r[j]).wf = true := by
      intro i hil
      obtain ⟨cs', hc, ht⟩ := hi i (by omega)
      rw [hcA] at hc
      obtain ⟨_, hcl, hat⟩ := World.cells?_some hc
      obtain ⟨ys, m', _, _, _, hyl, hf⟩ := DataW.trod_array hA ht
      have hone : ∀ j, j < n → ∃ v : Int, cs'[j]? = some (.int k v) ∧ (Lit.int k v).wf = true := by
        intro j hj
        have h1 := hf j hj
        rw [hcE, Nat.mul_one] at h1
        have hys : ys[j]? = some (ys[j]'(by omega)) := List.getElem?_eq_getElem (by omega)
        rw [hys] at h1
        obtain ⟨v, hv, _, hw⟩ := DataW.trod_int hE h1
        refine ⟨v, ?_, hw⟩
        have hd : (cs'.drop j).take 1 = [cs'[j]'(by omega)] := by rw [List.drop_eq_getElem_cons (by omega)]; rfl
        rw [hd] at hv
        simp only [List.cons.injEq, and_true] at hv
        rw [List.getElem?_eq_getElem (by omega), hv]
      refine ⟨(List.range n).attach.map fun j => Classical.choose (hone j.1 (by simpa using j.2)), by simp, fun j hj => ?_⟩
      simp at hj
      have hs := Classical.choose_spec (hone j hj)
      refine ⟨?_, by simpa using hs.2⟩
      rw [hat j (by omega), hs.1]
      simp
    refine ⟨hl, hm, (List.range len).attach.map fun i => Classical.choose (hrow i.1 (by simpa using i.2)), by simp, fun i hi => ?_⟩
    simp at hi
    have hs := Classical.choose_spec (hrow i hi)
    have hs0 := Classical.choose_spec (hrow 0 (by omega))
    obtain ⟨bb, off, spot⟩ := b
    have hsp : spot = none := by
      have h0 := (hs0.2 0 (by omega)).1
      simpa [Addr.add] using World.cell?_spot h0
    subst hsp
    have hadd : ∀ j, ((⟨bb, off, none⟩ : Addr).add (i * n)).add j = ⟨bb, off + i * n + j, none⟩ := by
      intro j
      unfold Addr.add
      split <;> split <;> simp_all
    refine ⟨by simpa using hs.1, bb, off, rfl, fun j hj => ?_⟩
    simp at hj
    have h1 := hs.2 j (by simpa using hj)
    rw [hadd j] at h1
    simpa using h1
end
end Go.Proofs.YtacpfkimjaihgaaDoor
