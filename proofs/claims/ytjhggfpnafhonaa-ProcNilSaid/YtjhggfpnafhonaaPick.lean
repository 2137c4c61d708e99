/- slices.IndexFunc over processes, with the two closures that the table hands it. Nothing here is conditional. -/
import Derived.Test.YtjhggfpnafhonaaAll
import Derived.Shelf.SlicesQ.IndexFunc
import Derived.Lib.SliceRun
namespace Go.Proofs.Ytjhggfpnafhonaa
open Go.Shelf Go.RowKit Go.Lib
def Try.l19_ren : Go.Shelf.Ren := ⟨fun | 6 => 19 | n => n, fun | 22 => 31 | 23 => 39 | 25 => 55 | 3 => 3 | 0 => 0 | 4 => 4 | n => n, fun | n => n⟩
theorem Try.l19 : Go.Proofs.SlLaysH0.n6 Try.prog Try.l19_ren := {
  mixed := by kernel_rfl
  f6 := ⟨Try.f19.name, by decide, Try.func19.trans (congrArg some (by kernel_rfl))⟩
  t0 := Try.underlying0
  a0 := Try.isAgg0
  z0 := Try.sizeOf0
  v0 := Try.zeroValue0
  t3 := Try.underlying3
  a3 := Try.isAgg3
  z3 := Try.sizeOf3
  v3 := Try.zeroValue3
  t4 := Try.underlying4
  a4 := Try.isAgg4
  z4 := Try.sizeOf4
  v4 := Try.zeroValue4
  t22 := Try.underlying31
  a22 := Try.isAgg31
  z22 := Try.sizeOf31
  v22 := Try.zeroValue31
  t25 := Try.underlying55
  a25 := Try.isAgg55
  z25 := Try.sizeOf55
  v25 := Try.zeroValue55 }


instance : Inhabited Pr := ⟨Pr.zero⟩

/-- The closure of children. -/
theorem pred26 (k : Int) (B : Nat) (W : World) (hc : W.cell? ⟨B, 0, none⟩ = some (.int .i64 k)) (x : Pr) :
    Calls Try.prog 26 #[x.enc, .pointer (some ⟨B, 0, none⟩)] W fun e w' => e = .returned (.bool (decide (x.parent ≠ k))) ∧ Below W.heap.size W w' := by
  have hB := World.block_lt_of_cell? W _ hc
  simp only [] at hB
  have hne : B ≠ W.heap.size := by omega
  obtain ⟨p1, p2, p3, p4⟩ := x
  rw [enc_eq]
  go_enter Try.func26, Try.ntmps26
  go_wp2
  all_goals (go_ret; exact ⟨congrArg (fun b => Ending.returned (.bool b)) (by rw [Bool.eq_iff_iff]; simp), by go_grown⟩)

/-- The closure of Wait. -/
theorem pred20 (W : World) (x : Pr) :
    Calls Try.prog 20 #[x.enc] W fun e w' => e = .returned (.bool (decide (x.state = 2))) ∧ Below W.heap.size W w' := by
  obtain ⟨p1, p2, p3, p4⟩ := x
  rw [enc_eq]
  go_enter Try.func20, Try.ntmps20
  go_wp2
  all_goals (go_ret; exact ⟨congrArg (fun b => Ending.returned (.bool b)) (by rw [Bool.eq_iff_iff]; simp), by go_grown⟩)

/-- Processes in a row of cells. -/
def PrsAt (w : World) (g : Nat) (T : List Pr) : Prop := ∀ i (h : i < (cellsOf T).length), w.cell? ⟨g, i, none⟩ = some (cellsOf T)[i]

theorem cellsOf_at (T : List Pr) (j i : Nat) (hj : j < T.length) (hi : i < 4) : (cellsOf T)[j * 4 + i]? = T[j].cells[i]? := by
  induction T generalizing j with
  | nil => simp at hj
  | cons p r ih =>
    simp only [cellsOf, List.flatMap_cons]
    have e4 : p.cells.length = 4 := rfl
    cases j with
    | zero =>
      rw [Nat.zero_mul, Nat.zero_add, List.getElem?_append_left (by omega)]
      rfl
    | succ j =>
      rw [List.getElem?_append_right (by omega), e4, show (j + 1) * 4 + i - 4 = j * 4 + i from by omega]
      have := ih j (by simpa using hj)
      simpa [cellsOf] using this

theorem index_any (p : Pr → Bool) (f : Nat) (lb : Array Value) (ef : ∀ args w, (callFunc f args).run Try.prog w = .ok (.enter f args) w) (w : World) (g n c : Nat) (T : List Pr) (hn : T.length = n) (hl : n ≤ 100) (hT : PrsAt w g T) (hg : g < w.heap.size)
    (hp : ∀ (W : World) (x : Pr), Below w.heap.size w W → Calls Try.prog f (#[x.enc] ++ lb) W fun e w' => e = .returned (.bool (p x)) ∧ Below W.heap.size W w') :
    Calls Try.prog 19 #[.slice (some ⟨g, 0, none⟩) n c, .func (.func f) #[] lb] w fun e w' => e = .returned (.int .i64 (Lib.idxBy (fun _ y => p y) T default)) ∧ Below w.heap.size w w' := by
  have hcon := AnyQ.slices_IndexFunc Try.l19 4 Try.isAgg39 Try.sizeOf39 Pr.cells (fun _ => rfl) p f lb ef g 0 n c T w
    (fun W x hb => (hp W x hb).mono (fun e w' ⟨h1, h2⟩ => ⟨h1, hb.trans (h2.mono hb.size)⟩)) (by omega) (by omega) hg (fun j hj i v hi => by
      have hi4 : i < 4 := by
        have := (List.getElem?_eq_some_iff.1 hi).1
        simpa [Pr.cells] using this
      have := cellsOf_at T j i hj hi4
      rw [getElem!_pos T j hj] at hi
      rw [hi] at this
      obtain ⟨h1, h2⟩ := List.getElem?_eq_some_iff.1 this
      rw [Nat.zero_add, hT _ h1, h2])
  change Calls Try.prog 19 _ _ _ at hcon
  rw [← hn, List.take_length] at hcon
  rw [← hn]
  exact hcon
end Go.Proofs.Ytjhggfpnafhonaa
