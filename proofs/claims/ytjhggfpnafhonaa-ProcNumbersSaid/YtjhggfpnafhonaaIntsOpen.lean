/- What an argument that is a slice of ints reads as. No conditions. -/
import Derived.Test.YtjhggfpnafhonaaOpens
import Derived.Test.YtjhggfpnafhonaaLib
namespace Go.Proofs.Ytjhggfpnafhonaa
open Go.ChangeShapes Go.WideShapes Go.ChangeAt Go.RowKit Go.Deep

theorem bounds_i64 {x : Int} (h : (Lit.int IntKind.i64 x).wf = true) : -9223372036854775808 ≤ x ∧ x ≤ 9223372036854775807 := by
  simp [Lit.wf, IntKind.min, IntKind.max, IntKind.signed, IntKind.bits] at h
  omega
/-- The slice's elements are these ints. -/
def IntsAt (w : World) (a : Option Addr) (xs : List Int) : Prop :=
  ∀ i (h : i < xs.length), ∃ b off, a = some ⟨b, off, none⟩ ∧ w.cell? ⟨b, off + i, none⟩ = some (.int .i64 xs[i]) ∧ -9223372036854775808 ≤ xs[i] ∧ xs[i] ≤ 9223372036854775807

section
variable {H : Type} {enc : TypeId × Value → H} {w : World} {base : Nat} {spare : Nat → Bool} {held : Bool}
theorem open_intsAt {fuel : Nat} {a : Option Addr} {len cap : Nat} {x : DataW H × List MemPlace} (h : DataW.trod enc Try.prog w base spare held fuel 42 [.slice a len cap] = some x) :
    len ≤ cap ∧ cap ≤ maxLen ∧ ∃ xs : List Int, xs.length = len ∧ IntsAt w a xs := by
  rcases open_ints Try.underlying42 Try.underlying3 (by kernel_rfl) h with ⟨hcs, _⟩ | ⟨x, l, c, zs, hcs, _, hl, hm, hz, _, hcell, hwz⟩
  · simp at hcs
    obtain ⟨rfl, rfl, rfl⟩ := hcs
    exact ⟨by omega, by simp [maxLen], [], rfl, fun i hi => absurd hi (by simp)⟩
  · simp at hcs
    obtain ⟨rfl, rfl, rfl⟩ := hcs
    have hz' : len ≤ zs.length := by
      have hz2 : zs.length = if spare x.block = true then cap else len := hz
      rw [hz2]
      split <;> omega
    refine ⟨hl, hm, zs.take len, by simp; omega, fun i hi => ?_⟩
    simp at hi
    obtain ⟨bb, off, spot⟩ := x
    have hsp : spot = none := by
      have h0 := hcell 0 (by omega)
      simpa [Addr.add] using World.cell?_spot h0
    subst hsp
    refine ⟨bb, off, rfl, ?_, ?_⟩
    · have h1 := hcell i (by omega)
      have e0 : (⟨bb, off, none⟩ : Addr).add i = ⟨bb, off + i, none⟩ := by unfold Addr.add; split <;> simp_all
      rw [e0] at h1
      rw [h1]
      simp [List.getD, show i < zs.length by omega]
    · have hmem : (zs.take len)[i]'(by simp; omega) ∈ zs := List.mem_of_mem_take (List.getElem_mem _)
      exact bounds_i64 (hwz _ hmem)
end
end Go.Proofs.Ytjhggfpnafhonaa
