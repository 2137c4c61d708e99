/- radix: digits. No conditions. -/
import Derived.Test.YtacpfkimjaihgaaDoorRSlot
namespace Go.Proofs.YtacpfkimjaihgaaDoor
open Go.RowKit
set_option linter.unusedVariables false

def dig (page l : Nat) : Nat := page / 8 ^ (3 - l) % 8
theorem dig_lt (page l : Nat) : dig page l < 8 := Nat.mod_lt _ (by decide)

set_option maxHeartbeats 2000000 in
theorem digits_any (w : World) (page : Nat) (hp : page < 4096) :
    Calls Tryd.prog 84 #[.int .i64 page] w fun e w' => e = .returned (.agg #[.int .i64 (dig page 0), .int .i64 (dig page 1), .int .i64 (dig page 2), .int .i64 (dig page 3)]) ∧ Below w.heap.size w w' := by
  have tm : ∀ P : Nat, ((P : Int)).tmod 8 = ((P % 8 : Nat) : Int) := fun P => by rw [Int.tmod_eq_emod_of_nonneg (by omega)]; omega
  have td : ∀ P : Nat, ((P : Int)).tdiv 8 = ((P / 8 : Nat) : Int) := fun P => by rw [Int.tdiv_eq_ediv_of_nonneg (by omega)]; omega
  obtain ⟨d3, h3⟩ : ∃ d, ((dig page 3 : Nat) : Int) = d := ⟨_, rfl⟩
  obtain ⟨d2, h2⟩ : ∃ d, ((dig page 2 : Nat) : Int) = d := ⟨_, rfl⟩
  obtain ⟨d1, h1⟩ : ∃ d, ((dig page 1 : Nat) : Int) = d := ⟨_, rfl⟩
  obtain ⟨d0, h0⟩ : ∃ d, ((dig page 0 : Nat) : Int) = d := ⟨_, rfl⟩
  have m3 := (tm page).trans (show ((page % 8 : Nat) : Int) = d3 by rw [← h3]; simp [dig])
  have m2 := (tm (page / 8)).trans (show ((page / 8 % 8 : Nat) : Int) = d2 by rw [← h2]; simp [dig])
  have m1 := (tm (page / 64)).trans (show ((page / 64 % 8 : Nat) : Int) = d1 by rw [← h1]; simp [dig])
  have m0 := (tm (page / 512)).trans (show ((page / 512 % 8 : Nat) : Int) = d0 by rw [← h0]; simp [dig])
  obtain ⟨p0, hp0⟩ : ∃ p : Int, (page : Int) = p := ⟨_, rfl⟩
  obtain ⟨p1, hp1⟩ : ∃ p : Int, ((page / 8 : Nat) : Int) = p := ⟨_, rfl⟩
  obtain ⟨p2, hp2⟩ : ∃ p : Int, ((page / 64 : Nat) : Int) = p := ⟨_, rfl⟩
  obtain ⟨p3, hp3⟩ : ∃ p : Int, ((page / 512 : Nat) : Int) = p := ⟨_, rfl⟩
  have t0 := (td page).trans hp1
  have t1 := (td (page / 8)).trans (show ((page / 8 / 8 : Nat) : Int) = p2 by rw [← hp2]; congr 1; omega)
  have t2 := (td (page / 64)).trans (show ((page / 64 / 8 : Nat) : Int) = p3 by rw [← hp3]; congr 1; omega)
  have w1 : wrap64 p1 = p1 := IntWalk.wrap64_in _ (by omega)
  have w2 : wrap64 p2 = p2 := IntWalk.wrap64_in _ (by omega)
  have w3 : wrap64 p3 = p3 := IntWalk.wrap64_in _ (by omega)
  rw [hp0] at m3 t0 ⊢
  rw [hp1] at m2 t1
  rw [hp2] at m1 t2
  rw [hp3] at m0
  rw [h0, h1, h2, h3]
  clear h0 h1 h2 h3 tm td hp0 hp1 hp2 hp3
  go_enter Tryd.func84, Tryd.ntmps84
  go_wp2
  go_rounds 5
  go_returns
  exact ⟨rfl, by go_grown⟩
end Go.Proofs.YtacpfkimjaihgaaDoor
