/- radix: one step of Set, one of Drop, on the pool and the told nodes. No conditions. -/
import Derived.Test.YtacpfkimjaihgaaDoorRBare
namespace Go.Proofs.YtacpfkimjaihgaaDoor
open Go.RowKit
set_option linter.unusedVariables false

section
variable {n root : Nat} {F : FP} {N : Nat → Nat → Option Nat} {C : Nat → Option Sl}
theorem pack_lt (s : Sl) : 0 ≤ packS s ∧ packS s < 18446744073709551616 := by have := pack_bound s; omega

theorem grow_step (fit : Fit F n) (tr : Tr (ent F) (Hd F) N C root) (fr : frees F.held + cnt N = n) (n4 : n ≤ 4096) {l page f0 : Nat} (hl : l < 3) (hp : page < 4096) (h0 : N l (pre page l) = some f0) (hn : N (l + 1) (pre page (l + 1)) = none) (hfree : 0 < frees F.held) :
    ∃ (f : Nat) (F1 F2 : FP), F.take = ((f : Int), 0, F1) ∧ F1.store f0 ((dig page l * 8 : Nat) : Int) 4 (packS (.node f)) = F2 ∧ Fit F2 n ∧ Tr (ent F2) (Hd F2) (upd2 N (l + 1) (pre page (l + 1)) (some f)) C root ∧
      frees F2.held + cnt (upd2 N (l + 1) (pre page (l + 1)) (some f)) = n ∧ cnt (upd2 N (l + 1) (pre page (l + 1)) (some f)) = cnt N + 1 ∧ frees F2.held + 1 = frees F.held := by
  obtain ⟨f, F1, t1, t2, t3, t4, t5, t6, t7, t8⟩ := take_fit fit hfree
  obtain ⟨p1, p2⟩ := pre_succ (page := page) (l := l) (by omega)
  have hd : pre page (l + 1) % 8 = dig page l := p2
  have hh0 := tr.held _ _ _ h0
  have hb := pack_lt (.node f)
  obtain ⟨F2, s1, s2, s3, s4, s5⟩ := store_fit t4 ((t5 f0).2 (.inl hh0)) (dig_lt page l) (packS (.node f)) hb.1 hb.2
  have hHd : ∀ g, Hd F2 g ↔ Hd F g ∨ g = f := fun g => by
    have : Hd F2 g ↔ Hd F1 g := by unfold Hd; rw [s3]
    rw [this, t5]
  have hne : f ≠ f0 := fun e => t3 (e ▸ hh0)
  have hg := cnt_grow (N := N) (l := l + 1) (q := pre page (l + 1)) (f := f) (by omega) (pre_lt hp (by omega)) hn
  refine ⟨f, F1, F2, t1, s1, s2, ?_, ?_, hg, ?_⟩
  · refine tr.grow (q := pre page (l + 1)) hl (pre_lt hp (by omega)) (by rw [p1]; exact h0) hn t3 hHd ?_ ?_ ?_
    · rw [hd]
      unfold ent
      rw [s4]
      exact unpack_ok (.inl (may_node (by omega) (by omega)))
    · intro i hi
      unfold ent
      rw [s5 f i hi ((t5 f).2 (.inr rfl)) (fun e => hne e.1), t6 i hi]
      exact unpack_zero
    · intro g i hi hgd hne2
      rw [hd] at hne2
      unfold ent
      rw [s5 g i hi ((t5 g).2 (.inl hgd)) hne2, t7 g i hi hgd]
  · rw [hg, s3]
    omega
  · rw [s3]; exact t8

theorem set_step (fit : Fit F n) (tr : Tr (ent F) (Hd F) N C root) {page f : Nat} (hf : N 3 (pre page 3) = some f) (v : Option Sl) (hv : ∀ s, v = some s → may s = true) :
    ∃ F2, F.store f ((dig page 3 * 8 : Nat) : Int) 4 (packS (v.getD .zero)) = F2 ∧ Fit F2 n ∧ Tr (ent F2) (Hd F2) N (updC C page v) root ∧ F2.held = F.held := by
  have hb := pack_lt (v.getD .zero)
  have hd : dig page 3 = page % 8 := by simp [dig]
  have hh := tr.held _ _ _ hf
  obtain ⟨F2, s1, s2, s3, s4, s5⟩ := store_fit fit hh (dig_lt page 3) (packS (v.getD .zero)) hb.1 hb.2
  have hHd : ∀ g, Hd F2 g ↔ Hd F g := fun g => by unfold Hd; rw [s3]
  refine ⟨F2, s1, s2, ?_, s3⟩
  have hok : may (v.getD .zero) = true ∨ v.getD .zero = .zero := by
    cases v with
    | none => exact .inr rfl
    | some s => exact .inl (hv s rfl)
  rw [pre_three] at hf
  have := tr.set (p := page) hf v hv (E' := ent F2) (by rw [← hd]; unfold ent; rw [s4]; exact unpack_ok hok)
    (fun g i hi hg hne => by rw [← hd] at hne; unfold ent; rw [s5 g i hi hg hne])
  exact ⟨this.top, this.inner, this.leaf, this.none_in, this.none_leaf, this.inj, fun l q f h => (hHd f).2 (this.held l q f h), this.small, this.ok⟩

theorem prune_step (fit : Fit F n) (tr : Tr (ent F) (Hd F) N C root) (fr : frees F.held + cnt N = n) {l page f0 f : Nat} (hl : l < 3) (hp : page < 4096) (h0 : N l (pre page l) = some f0) (hn : N (l + 1) (pre page (l + 1)) = some f) (hb : bareB F f = true) :
    ∃ F1 F2, asked F.held f = 0 ∧ F.drop f = F1 ∧ F1.store f0 ((dig page l * 8 : Nat) : Int) 4 (packS .zero) = F2 ∧ Fit F2 n ∧ Tr (ent F2) (Hd F2) (upd2 N (l + 1) (pre page (l + 1)) none) C root ∧
      frees F2.held + cnt (upd2 N (l + 1) (pre page (l + 1)) none) = n ∧ cnt (upd2 N (l + 1) (pre page (l + 1)) none) + 1 = cnt N := by
  obtain ⟨p1, p2⟩ := pre_succ (page := page) (l := l) (by omega)
  have hd : pre page (l + 1) % 8 = dig page l := p2
  have hh0 := tr.held _ _ _ h0
  have hh := tr.held _ _ _ hn
  have hne : f0 ≠ f := fun e => by
    have := (tr.inj _ _ _ _ _ (e ▸ h0) hn).1
    omega
  obtain ⟨d0, F1, d1, d2, d3, d4, d5⟩ := drop_fit fit hh
  have hb0 := pack_lt .zero
  obtain ⟨F2, s1, s2, s3, s4, s5⟩ := store_fit d2 ((d3 f0).2 ⟨hh0, hne⟩) (dig_lt page l) (packS .zero) hb0.1 hb0.2
  have hHd : ∀ g, Hd F2 g ↔ Hd F g ∧ g ≠ f := fun g => by
    have : Hd F2 g ↔ Hd F1 g := by unfold Hd; rw [s3]
    rw [this, d3]
  have hc := cnt_prune (N := N) (l := l + 1) (q := pre page (l + 1)) (by omega) (pre_lt hp (by omega)) hn
  refine ⟨F1, F2, d0, d1, s1, s2, ?_, ?_, hc⟩
  · refine tr.prune (q := pre page (l + 1)) hl (by rw [p1]; exact h0) hn (bareB_true hb) hHd ?_ ?_
    · rw [hd]
      unfold ent
      rw [s4, pack_zero]
      exact unpack_zero
    · intro g i hi hg hne2
      rw [hd] at hne2
      have hg1 : Hd F1 g := (d3 g).2 ((hHd g).1 hg)
      unfold ent
      rw [s5 g i hi hg1 hne2, d4 g i hi hg1]
  · rw [s3, d5]
    omega
end

/-- A row of four numbers. -/
def rowN (a : Nat → Nat) : Array Value := #[.int .i64 (a 0), .int .i64 (a 1), .int .i64 (a 2), .int .i64 (a 3)]
theorem rowN_get (a : Nat → Nat) {i : Nat} (h : i < 4) : (rowN a)[i]? = some (.int .i64 (a i)) := by
  obtain rfl | rfl | rfl | rfl : i = 0 ∨ i = 1 ∨ i = 2 ∨ i = 3 := by omega
  all_goals rfl
theorem rowN_set (a : Nat → Nat) {i : Nat} (h : i < 4) (v : Nat) : (rowN a).setIfInBounds i (.int .i64 v) = rowN (upA a i v) := by
  obtain rfl | rfl | rfl | rfl : i = 0 ∨ i = 1 ∨ i = 2 ∨ i = 3 := by omega
  all_goals rfl
end Go.Proofs.YtacpfkimjaihgaaDoor
