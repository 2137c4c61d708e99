/- Package word: Width, Signed, Clip, at the given table of widths. -/
import Derived.Test.YtacpfkimjaihgaaDoorLib
namespace Go.Proofs.YtacpfkimjaihgaaDoor
open Go.RowKit

def widths : List Int := [0, 1, 2, 4, 8, 1, 2, 4, 8, 8]
/-- The package's table lies as its initialiser laid it. -/
structure Wd (w : World) : Prop where
  at_ : ∀ k (h : k < 10), w.cell? ⟨0, k, none⟩ = some (.int .i64 (widths[k]))
theorem Wd.lt {w : World} (h : Wd w) : 0 < w.heap.size := World.block_lt_of_cell? w _ (h.at_ 0 (by omega))
theorem Wd.below {w w' : World} {B : Nat} (h : Wd w) (hb : Below B w w') (hB : w.heap.size ≤ B) : Wd w' :=
  ⟨fun k hk => (hb.cell (p := ⟨0, k, none⟩) (Nat.lt_of_lt_of_le h.lt hB)).trans (h.at_ k hk)⟩
theorem Wd.mods {w w' : World} {S : List Nat} (h : Wd w) (hm : Mods S w w') (hS : 0 ∉ S) : Wd w' :=
  ⟨fun k hk => (World.cell?_of_block (w := w) (a := ⟨0, k, none⟩) (hm.block _ h.lt hS)).trans (h.at_ k hk)⟩
def widthOf (k : Int) : Int := if k < 0 ∨ 10 ≤ k then 0 else widths.getD k.toNat 0
theorem ten {k : Int} (h0 : 0 ≤ k) (h1 : k < 10) : k = 0 ∨ k = 1 ∨ k = 2 ∨ k = 3 ∨ k = 4 ∨ k = 5 ∨ k = 6 ∨ k = 7 ∨ k = 8 ∨ k = 9 := by omega
theorem width_any (w : World) (hw : Wd w) (k : Int) : Calls Tryd.prog 91 #[.int .i64 k] w fun e w' => e = .returned (.int .i64 (widthOf k)) ∧ w = w' := by
  by_cases h1 : k < 0
  · have : widthOf k = 0 := by simp [widthOf, h1]
    rw [this]
    go_enter Tryd.func91, Tryd.ntmps91
    go_wp2
    go_ret
    exact ⟨rfl, rfl⟩
  · by_cases h2 : 10 ≤ k
    · have : widthOf k = 0 := by simp [widthOf, h2]
      rw [this]
      go_enter Tryd.func91, Tryd.ntmps91
      go_wp2
      go_ret
      exact ⟨rfl, rfl⟩
    · obtain ⟨j, rfl⟩ := Int.eq_ofNat_of_zero_le (show 0 ≤ k by omega)
      have hj : j < 10 := by omega
      have hc := hw.at_ j hj
      have : widthOf j = widths[j] := by
        rw [widthOf, if_neg (by omega), Int.toNat_natCast, List.getD_eq_getElem?_getD, List.getElem?_eq_getElem (by exact hj)]
        rfl
      rw [this]
      clear this hw
      generalize widths[j] = v at *
      go_enter Tryd.func91, Tryd.ntmps91
      go_wp2
      go_ret
      exact ⟨rfl, rfl⟩
def signedOf (k : Int) : Bool := decide (5 ≤ k ∧ k ≤ 8)
theorem signed_any (w : World) (k : Int) : Calls Tryd.prog 102 #[.int .i64 k] w fun e w' => e = .returned (.bool (signedOf k)) ∧ w = w' := by
  by_cases h1 : 5 ≤ k
  · by_cases h2 : k ≤ 8
    · have : signedOf k = true := by simp [signedOf, h1, h2]
      rw [this]
      go_enter Tryd.func102, Tryd.ntmps102
      go_wp2
      go_ret
      exact ⟨rfl, rfl⟩
    · have : signedOf k = false := by simp [signedOf, h2]
      rw [this]
      go_enter Tryd.func102, Tryd.ntmps102
      go_wp2
      go_ret
      exact ⟨rfl, rfl⟩
  · have : signedOf k = false := by simp [signedOf, h1]
    rw [this]
    go_enter Tryd.func102, Tryd.ntmps102
    go_wp2
    go_ret
    exact ⟨rfl, rfl⟩
end Go.Proofs.YtacpfkimjaihgaaDoor
