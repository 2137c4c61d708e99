/- What an argument of type []flyleaflaw20.Op reads as, said of its cells. -/
import Derived.Test.YtjhggfpnafhonaaOpens
namespace Go.Proofs.Ytjhggfpnafhonaa
open Go.ChangeShapes Go.WideShapes Go.ChangeAt Go.RowKit Go.Deep

theorem list_choose {α : Type} {P : Nat → α → Prop} : ∀ n, (∀ i, i < n → ∃ o, P i o) → ∃ L : List α, L.length = n ∧ ∀ i (hi : i < L.length), P i L[i] := by
  intro n
  induction n with
  | zero => intro _; exact ⟨[], rfl, fun i hi => absurd hi (by simp)⟩
  | succ n ih =>
    intro h
    obtain ⟨L, hl, hp⟩ := ih (fun i hi => h i (by omega))
    obtain ⟨o, ho⟩ := h n (by omega)
    refine ⟨L ++ [o], by simp [hl], fun i hi => ?_⟩
    simp [hl] at hi
    by_cases e : i < n
    · rw [List.getElem_append_left (by omega)]
      exact hp i (by omega)
    · have e2 : i = n := by omega
      subst e2
      rw [List.getElem_append_right (by omega)]
      simpa [hl] using ho

structure OpV where
  kind : Int
  pid : Int
  code : Int
  inn : Bool
def OpsAt (w : World) (a : Option Addr) (L : List OpV) : Prop :=
  ∀ i (h : i < L.length), ∃ b off, a = some ⟨b, off, none⟩ ∧ w.cell? ⟨b, off + i * 4, none⟩ = some (.int .i64 L[i].kind) ∧ w.cell? ⟨b, off + i * 4 + 1, none⟩ = some (.int .i64 L[i].pid) ∧
    w.cell? ⟨b, off + i * 4 + 2, none⟩ = some (.int .i64 L[i].code) ∧ w.cell? ⟨b, off + i * 4 + 3, none⟩ = some (.bool L[i].inn)
section
variable {H : Type} {enc : TypeId × Value → H} {w : World} {base : Nat} {spare : Nat → Bool} {held : Bool}
theorem open_ops {fuel : Nat} {a : Option Addr} {len cap : Nat} {x : DataW H × List MemPlace} (h : DataW.trod enc Try.prog w base spare held fuel 45 [.slice a len cap] = some x) :
    len ≤ cap ∧ cap ≤ maxLen ∧ ∃ L : List OpV, L.length = len ∧ OpsAt w a L := by
  rcases open_slice_fields Try.underlying45 Try.underlying47 (by kernel_rfl) (by kernel_rfl) h with ⟨hcs, _⟩ | ⟨b, l, c, m, D, Pl, hcs, _, hl, hm, hmm, _, hi⟩
  · simp at hcs
    obtain ⟨rfl, rfl, rfl⟩ := hcs
    exact ⟨by omega, by simp [maxLen], [], rfl, fun i hi => absurd hi (by simp)⟩
  · simp at hcs
    obtain ⟨rfl, rfl, rfl⟩ := hcs
    have hlm : len ≤ m := by rw [hmm]; split <;> omega
    have hc : ∀ i, i < len → ∃ o : OpV, w.cell? (b.add (i * 4 + 0)) = some (.int .i64 o.kind) ∧ w.cell? (b.add (i * 4 + 1)) = some (.int .i64 o.pid) ∧ w.cell? (b.add (i * 4 + 2)) = some (.int .i64 o.code) ∧ w.cell? (b.add (i * 4 + 3)) = some (.bool o.inn) := by
      intro i hil
      obtain ⟨ys, n, _, _, hys, hf⟩ := hi i (by omega)
      obtain ⟨v0, y0, c0, _, t0⟩ := hf 0 _ rfl
      obtain ⟨v1, y1, c1, _, t1⟩ := hf 1 _ rfl
      obtain ⟨v2, y2, c2, _, t2⟩ := hf 2 _ rfl
      obtain ⟨v3, y3, c3, _, t3⟩ := hf 3 _ rfl
      obtain ⟨n0, e0, _, _⟩ := DataW.trod_int Try.underlying3 t0
      obtain ⟨n1, e1, _, _⟩ := DataW.trod_int Try.underlying3 t1
      obtain ⟨n2, e2, _, _⟩ := DataW.trod_int Try.underlying3 t2
      obtain ⟨n3, e3, _⟩ := DataW.trod_bool Try.underlying4 t3
      simp only [List.cons.injEq, and_true] at e0 e1 e2 e3
      subst e0 e1 e2 e3
      exact ⟨⟨n0, n1, n2, n3⟩, c0, c1, c2, c3⟩
    obtain ⟨L, hL, hP⟩ := list_choose len hc
    refine ⟨hl, hm, L, hL, fun i hi => ?_⟩
    have hs := hP i hi
    have hs0 := hP 0 (by omega)
    obtain ⟨bb, off, spot⟩ := b
    have hsp : spot = none := by simpa [Addr.add] using World.cell?_spot hs0.1
    subst hsp
    have hadd : ∀ j, (⟨bb, off, none⟩ : Addr).add (i * 4 + j) = ⟨bb, off + i * 4 + j, none⟩ := by
      intro j
      unfold Addr.add
      split <;> simp_all <;> omega
    simp only [hadd] at hs
    exact ⟨bb, off, rfl, hs⟩
end
end Go.Proofs.Ytjhggfpnafhonaa
