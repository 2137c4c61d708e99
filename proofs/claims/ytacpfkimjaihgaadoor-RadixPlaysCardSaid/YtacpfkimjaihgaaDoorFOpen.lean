/- What arguments read as: pairs of ints, slices of ints and of rows of ints. No conditions. -/
import Derived.Test.YtacpfkimjaihgaaDoorOpens
import Derived.Test.YtacpfkimjaihgaaDoorLib
import Derived.OpenShut
import Derived.WalkKit
import Derived.ProofKit
import Derived.Deep.Slices
import Derived.ChangeOld
import Derived.ShutString
import Derived.Deep.Fields
import Derived.ChangeSame
namespace Go.Proofs.YtacpfkimjaihgaaDoor
open Go.ChangeShapes Go.WideShapes Go.ChangeAt Go.RowKit Go.Deep

theorem cellsOf38 : Tryd.prog.cellsOf 38 = 2 := by kernel_rfl
theorem cellsOf3 : Tryd.prog.cellsOf 3 = 1 := by kernel_rfl
theorem u64_of_wf {x : Int} (h : (Lit.int IntKind.u64 x).wf = true) : 0 ≤ x ∧ x < 18446744073709551616 := by
  simp [Lit.wf, IntKind.min, IntKind.max, IntKind.signed, IntKind.bits] at h
  omega
set_option maxRecDepth 100000 in
theorem open_two {H : Type} {enc : TypeId × Value → H} {w : World} {base : Nat} {spare : Nat → Bool} {held : Bool} {r : Reach} {b0 : Nat} {v : Value} {d : DataW H} {ps : List MemPlace}
    (hval : Value.okWide Tryd.prog w r b0 38 v) (hd : DataW.Trod enc Tryd.prog w base spare held 38 v d ps) : ∃ x y : Int, v = .agg #[.int .i64 x, .int .i64 y] ∧ (Lit.int .i64 x).wf = true ∧ (Lit.int .i64 y).wf = true := by
  have hv : ∃ cs : Array Value, v = .agg cs ∧ cs.size = 2 := by
    simp only [Value.okWide, Tryd.underlying38] at hval
    obtain ⟨cs, h1, h2, _⟩ := hval
    exact ⟨cs, h1, by rw [h2, cellsOf38]⟩
  obtain ⟨cs, rfl, hcs⟩ := hv
  obtain ⟨fuel, hf⟩ := hd
  obtain ⟨xs, m, _, _, _, hl, hi⟩ := DataW.trod_array Tryd.underlying38 hf
  have h0 := hi 0 (by omega)
  have h1 := hi 1 (by omega)
  rw [cellsOf3, List.getElem?_eq_getElem (by omega)] at h0 h1
  obtain ⟨x, e0, _, w0⟩ := DataW.trod_int Tryd.underlying3 h0
  obtain ⟨y, e1, _, w1⟩ := DataW.trod_int Tryd.underlying3 h1
  refine ⟨x, y, ?_, w0, w1⟩
  obtain ⟨l⟩ := cs
  simp [Value.cells] at e0 e1 hcs
  match l, hcs with
  | [p, q], _ =>
    simp at e0 e1
    rw [e0, e1]
/-- The slice's elements are these ints. -/
def IntsAt (w : World) (a : Option Addr) (xs : List Int) : Prop :=
  ∀ i (h : i < xs.length), ∃ b off, a = some ⟨b, off, none⟩ ∧ w.cell? ⟨b, off + i, none⟩ = some (.int .i64 xs[i]) ∧ -9223372036854775808 ≤ xs[i] ∧ xs[i] ≤ 9223372036854775807

section
variable {H : Type} {enc : TypeId × Value → H} {w : World} {base : Nat} {spare : Nat → Bool} {held : Bool}
theorem open_intsAt {fuel : Nat} {a : Option Addr} {len cap : Nat} {x : DataW H × List MemPlace} (h : DataW.trod enc Tryd.prog w base spare held fuel 46 [.slice a len cap] = some x) :
    len ≤ cap ∧ cap ≤ maxLen ∧ ∃ xs : List Int, xs.length = len ∧ IntsAt w a xs := by
  rcases open_ints Tryd.underlying46 Tryd.underlying3 (by kernel_rfl) h with ⟨hcs, _⟩ | ⟨x, l, c, zs, hcs, _, hl, hm, hz, _, hcell, hwz⟩
  · simp at hcs
    obtain ⟨rfl, rfl, rfl⟩ := hcs
    exact ⟨by omega, by simp [maxLen], [], rfl, fun i hi => absurd hi (by simp)⟩
  · simp at hcs
    obtain ⟨rfl, rfl, rfl⟩ := hcs
    have hz' : len ≤ zs.length := by
      have hz2 : zs.length = if spare x.block = true then cap else len := hz
      rw [hz2]
      split <;> omega
    refine ⟨hl, hm, zs.take len, by simp; omega, fun i hi => ?_⟩
    simp at hi
    obtain ⟨bb, off, spot⟩ := x
    have hsp : spot = none := by
      have h0 := hcell 0 (by omega)
      simpa [Addr.add] using World.cell?_spot h0
    subst hsp
    refine ⟨bb, off, rfl, ?_, ?_⟩
    · have h1 := hcell i (by omega)
      have e0 : (⟨bb, off, none⟩ : Addr).add i = ⟨bb, off + i, none⟩ := by unfold Addr.add; split <;> simp_all
      rw [e0] at h1
      rw [h1]
      simp [List.getD, show i < zs.length by omega]
    · have hmem : (zs.take len)[i]'(by simp; omega) ∈ zs := List.mem_of_mem_take (List.getElem_mem _)
      exact bounds_i64 (hwz _ hmem)
end
end Go.Proofs.YtacpfkimjaihgaaDoor
