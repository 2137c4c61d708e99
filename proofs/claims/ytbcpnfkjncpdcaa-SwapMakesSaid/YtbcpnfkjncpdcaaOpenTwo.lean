/- What an argument of type [2]int reads as. -/
import Derived.Test.YtbcpnfkjncpdcaaOpens
import Derived.OpenShut
namespace Go.Proofs.Ytbcpnfkjncpdcaa
open Go.ChangeShapes Go.WideShapes Go.ChangeAt Go.RowKit Go.Deep

theorem cellsOf56 : Try.prog.cellsOf 56 = 2 := by kernel_rfl
theorem cellsOf3 : Try.prog.cellsOf 3 = 1 := by kernel_rfl
theorem open_two {H : Type} {enc : TypeId × Value → H} {w : World} {base : Nat} {spare : Nat → Bool} {held : Bool} {r : Reach} {b0 : Nat} {v : Value} {d : DataW H} {ps : List MemPlace}
    (hval : Value.okWide Try.prog w r b0 56 v) (hd : DataW.Trod enc Try.prog w base spare held 56 v d ps) : ∃ x y : Int, v = .agg #[.int .i64 x, .int .i64 y] := by
  have hv : ∃ cs : Array Value, v = .agg cs ∧ cs.size = 2 := by
    simp only [Value.okWide, Try.underlying56] at hval
    obtain ⟨cs, h1, h2, _⟩ := hval
    exact ⟨cs, h1, by rw [h2, cellsOf56]⟩
  obtain ⟨cs, rfl, hcs⟩ := hv
  obtain ⟨fuel, hf⟩ := hd
  obtain ⟨xs, m, _, _, _, hl, hi⟩ := DataW.trod_array Try.underlying56 hf
  have h0 := hi 0 (by omega)
  have h1 := hi 1 (by omega)
  rw [cellsOf3, List.getElem?_eq_getElem (by omega)] at h0 h1
  obtain ⟨x, e0, _, _⟩ := DataW.trod_int Try.underlying3 h0
  obtain ⟨y, e1, _, _⟩ := DataW.trod_int Try.underlying3 h1
  refine ⟨x, y, ?_⟩
  obtain ⟨l⟩ := cs
  simp [Value.cells] at e0 e1 hcs
  match l, hcs with
  | [p, q], _ =>
    simp at e0 e1
    rw [e0, e1]
end Go.Proofs.Ytbcpnfkjncpdcaa
