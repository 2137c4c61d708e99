/- Package frames: a pool beside one array of the law's own. -/
import Derived.Test.YtacpfkimjaihgaaDoorFLaw
namespace Go.Proofs.YtacpfkimjaihgaaDoor
open Go.RowKit
set_option linter.unusedVariables false

structure AtA (w0 w : World) (p bb hb : Nat) (F : FP) (A : Nat) (T : TypeId) (cs : List Value) : Prop where
  at_ : At w0 w p bb hb F
  arr : w.heap[A]? = some (.cells cs.toArray T (0, 0))
  nA : A ∉ [p, bb, hb]
  hA : w0.heap.size ≤ A
section
variable {w0 w w' : World} {p bb hb A : Nat} {F F' : FP} {T : TypeId} {cs : List Value}
theorem AtA.step (h : AtA w0 w p bb hb F A T cs) (hp' : IsPool w' p bb hb F') (hm : Mods [p, bb, hb] w w') : AtA w0 w' p bb hb F' A T cs :=
  ⟨h.at_.step hp' hm, (hm.block A (lt_of_block h.arr) h.nA).trans h.arr, h.nA, h.hA⟩
theorem AtA.stay (h : AtA w0 w p bb hb F A T cs) (hb' : Below w.heap.size w w') : AtA w0 w' p bb hb F A T cs :=
  ⟨h.at_.stay hb', (hb'.block A (lt_of_block h.arr)).trans h.arr, h.nA, h.hA⟩
theorem AtA.drewN (h : AtA w0 w p bb hb F A T cs) (n : Nat) : AtA w0 (w.drewN n) p bb hb F A T cs := h.stay (below_drewN (Below.refl _ _) n)
theorem AtA.drew (h : AtA w0 w p bb hb F A T cs) : AtA w0 w.drew p bb hb F A T cs := h.stay (Below.refl _ _).drew
theorem AtA.set (h : AtA w0 w p bb hb F A T cs) (k : Nat) (v : Value) : AtA w0 (w.setCell ⟨A, k, none⟩ v) p bb hb F A T (cs.set k v) := by
  have hm : Mods [A] w (w.setCell ⟨A, k, none⟩ v) := (Mods.refl _ w).setCell (.inl (by simp)) v
  have hn := h.nA
  refine ⟨⟨?_, ?_, h.at_.hp, h.at_.hbb, h.at_.hhb⟩, row_setCell h.arr, h.nA, h.hA⟩
  · exact PA.mods h.at_.pool hm (by simp at hn ⊢; omega) (by simp at hn ⊢; omega) (by simp at hn ⊢; omega)
  · exact below_after h.at_.below hm h.at_.below.size (by have := h.hA; simp; omega)
theorem AtA.cell (h : AtA w0 w p bb hb F A T cs) {k : Nat} {v : Value} (hk : cs[k]? = some v) : w.cell? ⟨A, k, none⟩ = some v := by
  rw [cell_of_row w _ _ _ _ _ h.arr]
  simpa using hk
theorem AtA.free_ (h : AtA w0 w p bb hb F A T cs) (k : Nat) : w.frozen? ⟨A, k, none⟩ = false := frozen_of_row w A k _ _ h.arr
theorem AtA.make (h : At w0 w p bb hb F) (T : TypeId) (cs : List Value) : AtA w0 (w.alloc (.cells cs.toArray T)) p bb hb F w.heap.size T cs := by
  obtain ⟨l1, l2, l3⟩ := h.pool.lt
  exact ⟨h.stay (below1 w _), heap_alloc_new w _, by simp; omega, h.below.size⟩
theorem AtA.take (h : AtA w0 w p bb hb F A T cs) : Calls Tryd.prog 19 #[.pointer (some ⟨p, 0, none⟩)] w fun e w' => e = .returned (.tuple #[.int .i64 F.take.1, .int .i64 F.take.2.1]) ∧ AtA w0 w' p bb hb F.take.2.2 A T cs :=
  (take_any w p bb hb F h.at_.pool).mono fun _ _ ⟨he, hp, hm⟩ => ⟨he, h.step hp hm⟩
theorem AtA.hold (h : AtA w0 w p bb hb F A T cs) (f : Int) (hB : Few F.held) : Calls Tryd.prog 28 #[.pointer (some ⟨p, 0, none⟩), .int .i64 f] w fun e w' => e = .returned (.int .i64 (asked F.held f)) ∧ AtA w0 w' p bb hb (F.hold f) A T cs :=
  (hold_any w p bb hb F f hB h.at_.pool).mono fun _ _ ⟨he, hp, hm⟩ => ⟨he, h.step hp hm⟩
theorem AtA.drop (h : AtA w0 w p bb hb F A T cs) (f : Int) (hB : Few F.held) : Calls Tryd.prog 29 #[.pointer (some ⟨p, 0, none⟩), .int .i64 f] w fun e w' => e = .returned (.int .i64 (asked F.held f)) ∧ AtA w0 w' p bb hb (F.drop f) A T cs :=
  (drop_any w p bb hb F f hB h.at_.pool).mono fun _ _ ⟨he, hp, hm⟩ => ⟨he, h.step hp hm⟩
theorem AtA.copy (h : AtA w0 w p bb hb F A T cs) (f : Int) : Calls Tryd.prog 20 #[.pointer (some ⟨p, 0, none⟩), .int .i64 f] w fun e w' => e = .returned (.tuple #[.int .i64 (F.copy f).1, .int .i64 (F.copy f).2.1]) ∧ AtA w0 w' p bb hb (F.copy f).2.2 A T cs :=
  (copy_any w p bb hb F f h.at_.pool).mono fun _ _ ⟨he, hp, hm⟩ => ⟨he, h.step hp hm⟩
theorem AtA.load (h : AtA w0 w p bb hb F A T cs) (hw : Wd w0) (f a kind : Int) : Calls Tryd.prog 22 #[.pointer (some ⟨p, 0, none⟩), .int .i64 f, .int .i64 a, .int .i64 kind] w fun e w' => e = .returned (.tuple #[.int .u64 (F.load f a kind), .int .i64 (F.loadE f a kind)]) ∧ AtA w0 w' p bb hb F A T cs :=
  (load_any w p bb hb F f a kind (h.at_.wd hw) h.at_.pool).mono fun _ _ ⟨he, hb'⟩ => ⟨he, h.stay hb'⟩
theorem AtA.store (h : AtA w0 w p bb hb F A T cs) (hw : Wd w0) (f a kind x : Int) (hx0 : 0 ≤ x) (hx1 : x < 18446744073709551616) : Calls Tryd.prog 21 #[.pointer (some ⟨p, 0, none⟩), .int .i64 f, .int .i64 a, .int .i64 kind, .int .u64 x] w fun e w' => e = .returned (.int .i64 (F.loadE f a kind)) ∧ AtA w0 w' p bb hb (F.store f a kind x) A T cs :=
  (store_any w p bb hb F f a kind x (h.at_.wd hw) hx0 hx1 h.at_.pool).mono fun _ _ ⟨he, hp, hm⟩ => ⟨he, h.step hp hm⟩
end
def iv (H : List Int) : List Value := H.map (Value.int .i64)
theorem iv_get {H : List Int} {k : Nat} (h : k < H.length) : (iv H)[k]? = some (.int .i64 H[k]) := by simp [iv, h]
theorem iv_set (H : List Int) (k : Nat) (v : Int) : (iv H).set k (.int .i64 v) = iv (H.set k v) := by simp [iv, List.map_set]

/-- Four frames, held as often as the array says. -/
def Four (F : FP) (t : Nat) : Prop := F.held.length = 4 ∧ F.secs.length = 4 ∧ ∀ v ∈ F.held, 0 ≤ v ∧ v ≤ (t : Int)
theorem Four.few {F : FP} {t : Nat} (h : Four F t) (ht : t ≤ 1000) : Few F.held := fun v hv => by have := h.2.2 v hv; omega
theorem Four.later {F : FP} {t : Nat} (h : Four F t) : Four F (t + 1) := ⟨h.1, h.2.1, fun v hv => by have := h.2.2 v hv; omega⟩
theorem mem_set_le {H : List Int} {k : Nat} {v b : Int} (hv : 0 ≤ v ∧ v ≤ b) (h : ∀ x ∈ H, 0 ≤ x ∧ x ≤ b) : ∀ x ∈ H.set k v, 0 ≤ x ∧ x ≤ b := fun x hx => by
  rcases List.mem_or_eq_of_mem_set hx with hx | rfl
  · exact h x hx
  · exact hv
/-- Take: a free frame, and what comes then; or none. -/
theorem four_take {F : FP} {t : Nat} (h : Four F t) : (∃ k : Nat, ∃ hk : k < F.held.length, k < 4 ∧ F.held[k] = 0 ∧ F.take.1 = k ∧ F.take.2.1 = 0 ∧ F.take.2.2.held = F.held.set k 1 ∧ F.take.2.2.load k 0 4 = 0 ∧ F.take.2.2.loadE k 0 4 = 0 ∧ Four F.take.2.2 (t + 1) ∧
      (∀ x, (F.take.2.2.store k 0 4 x).held = F.held.set k 1 ∧ Four (F.take.2.2.store k 0 4 x) (t + 1))) ∨
    ((∀ k (hk : k < F.held.length), F.held[k] ≠ 0) ∧ F.take = (0, 18, F)) := by
  obtain ⟨h1, h2, h3⟩ := h
  by_cases hf : firstFree F.held < F.held.length
  · refine .inl ⟨firstFree F.held, hf, by omega, firstFree_at hf, ?_⟩
    rw [FP.take, if_pos hf]
    generalize firstFree F.held = k at hf
    have hne : (F.held.set k 1)[k]'(by simpa using hf) ≠ 0 := by simp
    have h4 : Four ⟨F.secs.set k zeroSec, F.held.set k 1⟩ (t + 1) := ⟨by simpa using h1, by simpa using h2, mem_set_le (by omega) (fun v hv => by have := h3 v hv; omega)⟩
    have hz : (FP.mk (F.secs.set k zeroSec) (F.held.set k 1)).sec k = zeroSec := by
      simp only [FP.sec, Int.toNat_natCast]
      rw [List.getD_eq_getElem?_getD, List.getElem?_set_self (by omega)]
      rfl
    refine ⟨rfl, rfl, rfl, ?_, ?_, h4, fun x => ?_⟩
    · refine (load_at (F := ⟨F.secs.set k zeroSec, F.held.set k 1⟩) (k := k) (n := 8) (a := 0) (kind := 4) (by simpa using hf) hne rfl (by omega) (by omega)).trans ?_
      rw [hz]
      decide
    · exact loadE_at (F := ⟨F.secs.set k zeroSec, F.held.set k 1⟩) (k := k) (n := 8) (a := 0) (kind := 4) (by simpa using hf) hne rfl (by omega) (by omega)
    · rw [show FP.store ⟨F.secs.set k zeroSec, F.held.set k 1⟩ k 0 4 x = _ from store_at (F := ⟨F.secs.set k zeroSec, F.held.set k 1⟩) (k := k) (n := 8) (a := 0) (kind := 4) (by simpa using hf) hne rfl (by omega) (by omega)]
      exact ⟨rfl, h4.1, by simpa using h4.2.1, h4.2.2⟩
  · refine .inr ⟨fun k hk => firstFree_lt (by omega) hk, ?_⟩
    rw [FP.take, if_neg hf]
theorem four_hold {F : FP} {t k : Nat} (h : Four F t) (hk : k < F.held.length) : (F.held[k] = 0 ∧ asked F.held k = 13 ∧ F.hold k = F) ∨
    (0 < F.held[k] ∧ asked F.held k = 0 ∧ (F.hold k).held = F.held.set k (F.held[k] + 1) ∧ Four (F.hold k) (t + 1)) := by
  have h3 := h.2.2 _ (List.getElem_mem hk)
  have ha := asked_nat hk
  by_cases hz : F.held[k] = 0
  · rw [if_pos hz] at ha
    exact .inl ⟨hz, ha, by rw [FP.hold, ha, if_neg (by decide)]⟩
  · rw [if_neg hz] at ha
    refine .inr ⟨by omega, ha, ?_⟩
    rw [FP.hold, ha, if_pos rfl, Int.toNat_natCast, heldAt_nat hk]
    exact ⟨rfl, by simpa using h.1, h.2.1, mem_set_le (by omega) (fun v hv => by have := h.2.2 v hv; omega)⟩
theorem four_drop {F : FP} {t k : Nat} (h : Four F t) (hk : k < F.held.length) : (F.held[k] = 0 ∧ asked F.held k = 13 ∧ F.drop k = F) ∨
    (0 < F.held[k] ∧ asked F.held k = 0 ∧ (F.drop k).held = F.held.set k (F.held[k] - 1) ∧ Four (F.drop k) (t + 1)) := by
  have h3 := h.2.2 _ (List.getElem_mem hk)
  have ha := asked_nat hk
  by_cases hz : F.held[k] = 0
  · rw [if_pos hz] at ha
    exact .inl ⟨hz, ha, by rw [FP.drop, ha, if_neg (by decide)]⟩
  · rw [if_neg hz] at ha
    refine .inr ⟨by omega, ha, ?_⟩
    rw [FP.drop, ha, if_pos rfl, Int.toNat_natCast, heldAt_nat hk]
    exact ⟨rfl, by simpa using h.1, h.2.1, mem_set_le (by omega) (fun v hv => by have := h.2.2 v hv; omega)⟩
end Go.Proofs.YtacpfkimjaihgaaDoor
