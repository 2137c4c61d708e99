/- What a slice of bools reads as. No conditions. -/
import Derived.Test.YtacpfkimjaihgaaDoorFOpen
import Derived.Test.YtacpfkimjaihgaaDoorRLastWalk
import Derived.Deep.Grids
namespace Go.Proofs.YtacpfkimjaihgaaDoor
open Go.ChangeShapes Go.WideShapes Go.ChangeAt Go.RowKit Go.Deep
theorem open_boolsAt {H : Type} {enc : TypeId × Value → H} {w : World} {base : Nat} {held : Bool} {fuel : Nat} {a : Option Addr} {len cap : Nat} {x : DataW H × List MemPlace} (h : DataW.trod enc Tryd.prog w base (fun _ => true) held fuel 88 [.slice a len cap] = some x) :
    len ≤ cap ∧ cap ≤ maxLen ∧ ∃ xs : List Bool, xs.length = len ∧ BoolsAt w a xs := by
  rcases open_bools Tryd.underlying88 Tryd.underlying4 (by kernel_rfl) h with ⟨hcs, _⟩ | ⟨x, l, c, B, hcs, _, hl, hm, _, hcell⟩
  · simp at hcs
    obtain ⟨rfl, rfl, rfl⟩ := hcs
    exact ⟨by omega, by simp [maxLen], [], rfl, fun i hi => absurd hi (by simp)⟩
  · simp at hcs
    obtain ⟨rfl, rfl, rfl⟩ := hcs
    refine ⟨hl, hm, (List.range len).map B, by simp, fun i hi => ?_⟩
    simp at hi
    obtain ⟨bb, off, spot⟩ := x
    have hsp : spot = none := by
      have h0 := hcell 0 (by omega)
      simpa [Addr.add] using World.cell?_spot h0
    subst hsp
    refine ⟨bb, off, rfl, ?_⟩
    have h1 := hcell i (by omega)
    have e0 : (⟨bb, off, none⟩ : Addr).add i = ⟨bb, off + i, none⟩ := by unfold Addr.add; split <;> simp_all
    rw [e0] at h1
    rw [h1]
    simp
end Go.Proofs.YtacpfkimjaihgaaDoor
