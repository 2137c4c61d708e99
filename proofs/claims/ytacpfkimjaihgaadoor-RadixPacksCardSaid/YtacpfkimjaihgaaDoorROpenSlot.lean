/- What a page's entry reads as. No conditions. -/
import Derived.Test.YtacpfkimjaihgaaDoorFOpen
import Derived.Test.YtacpfkimjaihgaaDoorRPacksWalk
namespace Go.Proofs.YtacpfkimjaihgaaDoor
open Go.ChangeShapes Go.WideShapes Go.ChangeAt Go.RowKit Go.Deep
set_option maxRecDepth 100000 in
theorem open_slot {H : Type} {enc : TypeId × Value → H} {w : World} {base : Nat} {spare : Nat → Bool} {held : Bool} {r : Reach} {b0 : Nat} {v : Value} {d : DataW H} {ps : List MemPlace}
    (hval : Value.okWide Tryd.prog w r b0 68 v) (hd : DataW.Trod enc Tryd.prog w base spare held 68 v d ps) : ∃ (a b c e : Bool) (n : Int), v = .agg #[.bool a, .bool b, .bool c, .bool e, .int .i64 n] := by
  have hc : Tryd.prog.cellsOf 68 = 5 := by kernel_rfl
  have c4 : Tryd.prog.cellsOf 4 = 1 := by kernel_rfl
  have hv : ∃ cs : Array Value, v = .agg cs ∧ cs.size = 5 := by
    simp only [Value.okWide, Tryd.underlying68] at hval
    obtain ⟨cs, h1, h2, _⟩ := hval
    exact ⟨cs, h1, by rw [h2, hc]⟩
  obtain ⟨cs, rfl, hcs⟩ := hv
  obtain ⟨fuel, hf⟩ := hd
  obtain ⟨xs, m, _, _, _, hl, hi⟩ := DataW.trod_struct Tryd.underlying68 hf
  simp only [List.size_toArray, List.length_cons, List.length_nil] at hl
  obtain ⟨y0, hy0⟩ : ∃ y, xs[0]? = some y := ⟨_, List.getElem?_eq_getElem (by omega)⟩
  have h0 : DataW.trod enc Tryd.prog w base spare held m 4 (List.take (Tryd.prog.cellsOf 4) (List.drop 0 cs.toList)) = xs[0]? := hi 0 _ rfl
  rw [hy0, c4] at h0
  obtain ⟨y1, hy1⟩ : ∃ y, xs[1]? = some y := ⟨_, List.getElem?_eq_getElem (by omega)⟩
  have h1 : DataW.trod enc Tryd.prog w base spare held m 4 (List.take (Tryd.prog.cellsOf 4) (List.drop 1 cs.toList)) = xs[1]? := hi 1 _ rfl
  rw [hy1, c4] at h1
  obtain ⟨y2, hy2⟩ : ∃ y, xs[2]? = some y := ⟨_, List.getElem?_eq_getElem (by omega)⟩
  have h2 : DataW.trod enc Tryd.prog w base spare held m 4 (List.take (Tryd.prog.cellsOf 4) (List.drop 2 cs.toList)) = xs[2]? := hi 2 _ rfl
  rw [hy2, c4] at h2
  obtain ⟨y3, hy3⟩ : ∃ y, xs[3]? = some y := ⟨_, List.getElem?_eq_getElem (by omega)⟩
  have h3 : DataW.trod enc Tryd.prog w base spare held m 4 (List.take (Tryd.prog.cellsOf 4) (List.drop 3 cs.toList)) = xs[3]? := hi 3 _ rfl
  rw [hy3, c4] at h3
  obtain ⟨y4, hy4⟩ : ∃ y, xs[4]? = some y := ⟨_, List.getElem?_eq_getElem (by omega)⟩
  have h4 : DataW.trod enc Tryd.prog w base spare held m 3 (List.take (Tryd.prog.cellsOf 3) (List.drop 4 cs.toList)) = xs[4]? := hi 4 _ rfl
  rw [hy4, cellsOf3] at h4
  obtain ⟨a, e0, _⟩ := DataW.trod_bool Tryd.underlying4 h0
  obtain ⟨b, e1, _⟩ := DataW.trod_bool Tryd.underlying4 h1
  obtain ⟨c, e2, _⟩ := DataW.trod_bool Tryd.underlying4 h2
  obtain ⟨e, e3, _⟩ := DataW.trod_bool Tryd.underlying4 h3
  obtain ⟨n, e4, _, _⟩ := DataW.trod_int Tryd.underlying3 h4
  refine ⟨a, b, c, e, n, ?_⟩
  obtain ⟨l⟩ := cs
  simp at e0 e1 e2 e3 e4 hcs
  match l, hcs with
  | [p0, p1, p2, p3, p4], _ =>
    simp at e0 e1 e2 e3 e4
    rw [e0, e1, e2, e3, e4]
end Go.Proofs.YtacpfkimjaihgaaDoor
