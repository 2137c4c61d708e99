/- What an argument of type []string reads as, said of its cells. -/
import Derived.Test.YtbcpnfkjncpdcaaOf
import Derived.ProofKit
import Derived.SliceStrings
namespace Go.Proofs.Ytbcpnfkjncpdcaa
open Go.ChangeShapes Go.WideShapes Go.ChangeAt Go.RowKit

section
variable {H : Type} {enc : TypeId × Value → H} {w : World} {base : Nat} {spare : Nat → Bool} {held : Bool}
def StrsIn (w : World) (a : Option Addr) (L : List ByteArray) : Prop := StrsAt w a L ∧ ∀ s ∈ L, s.size ≤ maxLen
theorem open_strsIn {fuel : Nat} {a : Option Addr} {len cap : Nat} {x : DataW H × List MemPlace} (h : DataW.trod enc Try.prog w base spare held fuel 22 [.slice a len cap] = some x) :
    len ≤ cap ∧ cap ≤ maxLen ∧ ∃ L : List ByteArray, L.length = len ∧ StrsIn w a L := by
  rcases open_strings Try.underlying22 Try.underlying9 (by kernel_rfl) h with ⟨hcs, _⟩ | ⟨x, l, c, ss, hcs, _, hl, hm, hz, _, hcell, hwz⟩
  · simp at hcs
    obtain ⟨rfl, rfl, rfl⟩ := hcs
    exact ⟨by omega, by simp [maxLen], [], rfl, fun i hi => absurd hi (by simp), fun s hs => absurd hs (by simp)⟩
  · simp at hcs
    obtain ⟨rfl, rfl, rfl⟩ := hcs
    have hz' : len ≤ ss.length := by
      rw [hz]
      split <;> omega
    refine ⟨hl, hm, ss.take len, by simp; omega, fun i hi => ?_, fun s hs => hwz _ (List.mem_of_mem_take hs)⟩
    simp at hi
    obtain ⟨bb, off, spot⟩ := x
    have hsp : spot = none := by
      have h0 := hcell 0 (by omega)
      simpa [Addr.add] using World.cell?_spot h0
    subst hsp
    refine ⟨bb, off, rfl, ?_⟩
    have h1 := hcell i (by omega)
    have e0 : (⟨bb, off, none⟩ : Addr).add i = ⟨bb, off + i, none⟩ := by unfold Addr.add; split <;> simp_all
    rw [e0] at h1
    rw [h1]
    simp [List.getD, show i < ss.length by omega]
end
end Go.Proofs.Ytbcpnfkjncpdcaa
