/- Page tables, plain: entries, their bits, the nodes of a table as a flat relation. No conditions. -/
import Derived.WalkKit
namespace Go.Proofs.YtacpfkimjaihgaaDoor
set_option linter.unusedVariables false

/-- An entry. -/
structure Sl where
  here : Bool
  write : Bool
  copy : Bool
  out : Bool
  n : Int
deriving DecidableEq
def Sl.zero : Sl := ⟨false, false, false, false, 0⟩
def Sl.node (f : Int) : Sl := ⟨true, false, false, false, f⟩
def may (s : Sl) : Bool := s.here != s.out && decide (0 ≤ s.n) && decide (s.n ≤ 1048576) && !(s.write && s.copy)
def b1 (b : Bool) (k : Int) : Int := if b then k else 0
def packS (s : Sl) : Int := if may s then s.n * 16 + b1 s.here 1 + b1 s.write 2 + b1 s.copy 4 + b1 s.out 8 else 0
def unS (x : Int) : Sl := ⟨x % 2 == 1, x / 2 % 2 == 1, x / 4 % 2 == 1, x / 8 % 2 == 1, x / 16⟩
def unpackB (x : Int) : Sl := if x / 16 > 1048576 then .zero else if may (unS x) then unS x else .zero

theorem may_n {s : Sl} (h : may s = true) : 0 ≤ s.n ∧ s.n ≤ 1048576 := by
  simp [may] at h
  omega
theorem may_ne {s : Sl} (h : may s = true) : s ≠ .zero := by
  rintro rfl
  simp [may, Sl.zero] at h
theorem may_zero : may .zero = false := by decide
theorem may_node {f : Int} (h0 : 0 ≤ f) (h1 : f ≤ 1048576) : may (.node f) = true := by simp [may, Sl.node, h0, h1]
theorem node_ne (f : Int) : Sl.node f ≠ .zero := by simp [Sl.node, Sl.zero]
theorem pack_zero : packS .zero = 0 := by decide
theorem unpack_zero : unpackB 0 = .zero := by decide
theorem unS_pack {s : Sl} (h : may s = true) : unS (packS s) = s := by
  have hn := may_n h
  obtain ⟨a, b, c, d, n⟩ := s
  simp only [packS, h, if_true, unS, b1]
  simp only [] at hn
  cases a <;> cases b <;> cases c <;> cases d <;> simp <;> omega
theorem pack_bound (s : Sl) : 0 ≤ packS s ∧ packS s ≤ 16777231 := by
  unfold packS
  split
  · rename_i h
    have := may_n h
    unfold b1
    constructor <;> (repeat split) <;> omega
  · omega
theorem unpack_pack (s : Sl) : unpackB (packS s) = if may s then s else .zero := by
  cases h : may s with
  | true =>
    have h1 := pack_bound s
    have h2 := unS_pack h
    have h3 : packS s / 16 ≤ 1048576 := by
      have := congrArg Sl.n h2
      have h4 := may_n h
      simp only [unS] at this
      omega
    unfold unpackB
    rw [if_neg (by omega), h2, h]
  | false =>
    have : packS s = 0 := by simp [packS, h]
    rw [this, unpack_zero]
    simp
theorem unpack_ok {s : Sl} (h : may s = true ∨ s = .zero) : unpackB (packS s) = s := by
  rw [unpack_pack]
  rcases h with h | rfl
  · simp [h]
  · decide

/-- The nodes of a table: E: the entries in frames; N: the frame of a level's node (0 to 3) for a prefix; C: the pages' entries. -/
structure Tr (E : Nat → Nat → Sl) (Hd : Nat → Prop) (N : Nat → Nat → Option Nat) (C : Nat → Option Sl) (root : Nat) : Prop where
  top : N 0 0 = some root
  inner : ∀ l q f, l < 3 → N l q = some f → ∀ i, i < 8 → E f i = match N (l + 1) (8 * q + i) with | some g => .node g | none => .zero
  leaf : ∀ q f, N 3 q = some f → ∀ i, i < 8 → E f i = (C (8 * q + i)).getD .zero
  none_in : ∀ l q, l < 3 → N l q = none → ∀ i, i < 8 → N (l + 1) (8 * q + i) = none
  none_leaf : ∀ q, N 3 q = none → ∀ i, i < 8 → C (8 * q + i) = none
  inj : ∀ l q l' q' f, N l q = some f → N l' q' = some f → l = l' ∧ q = q'
  held : ∀ l q f, N l q = some f → Hd f
  small : ∀ l q f, N l q = some f → l < 4 ∧ q < 8 ^ l
  ok : ∀ p s, C p = some s → may s = true

def upd2 (N : Nat → Nat → Option Nat) (l q : Nat) (v : Option Nat) : Nat → Nat → Option Nat := fun a b => if a = l ∧ b = q then v else N a b
def updC (C : Nat → Option Sl) (p : Nat) (v : Option Sl) : Nat → Option Sl := fun a => if a = p then v else C a
theorem upd2_at (N : Nat → Nat → Option Nat) (l q : Nat) (v : Option Nat) : upd2 N l q v l q = v := by simp [upd2]
theorem upd2_ne (N : Nat → Nat → Option Nat) {l q a b : Nat} (v : Option Nat) (h : ¬ (a = l ∧ b = q)) : upd2 N l q v a b = N a b := by simp only [upd2, if_neg h]

theorem div_mod8 {q i a : Nat} (hi : i < 8) (h : 8 * q + i = a) : q = a / 8 ∧ i = a % 8 := by omega

theorem Tr.leaf_ne {E Hd N C root} (h : Tr E Hd N C root) {p : Nat} {s : Sl} (hs : C p = some s) : ∃ f, N 3 (p / 8) = some f := by
  cases hn : N 3 (p / 8) with
  | some f => exact ⟨f, rfl⟩
  | none =>
    have := h.none_leaf _ hn (p % 8) (by omega)
    rw [show 8 * (p / 8) + p % 8 = p from by omega, hs] at this
    cases this
theorem Tr.up_ne {E Hd N C root} (h : Tr E Hd N C root) {l q f : Nat} (hl : l < 3) (hs : N (l + 1) q = some f) : ∃ g, N l (q / 8) = some g := by
  cases hn : N l (q / 8) with
  | some f => exact ⟨f, rfl⟩
  | none =>
    have := h.none_in _ _ hl hn (q % 8) (by omega)
    rw [show 8 * (q / 8) + q % 8 = q from by omega, hs] at this
    cases this

/-- A page's entry is set, where its leaf is there. -/
theorem Tr.set {E Hd N C root} (h : Tr E Hd N C root) {p f : Nat} (hf : N 3 (p / 8) = some f) (v : Option Sl) (hv : ∀ s, v = some s → may s = true) {E' : Nat → Nat → Sl} (h1 : E' f (p % 8) = v.getD .zero) (h2 : ∀ g i, i < 8 → Hd g → ¬ (g = f ∧ i = p % 8) → E' g i = E g i) :
    Tr E' Hd N (updC C p v) root := by
  refine ⟨h.top, ?_, ?_, h.none_in, ?_, h.inj, h.held, h.small, ?_⟩
  · intro l q g hl hg i hi
    rw [h2 g i hi (h.held _ _ _ hg) (fun e => by have := (h.inj _ _ _ _ _ (e.1 ▸ hg) hf).1; omega)]
    exact h.inner l q g hl hg i hi
  · intro q g hg i hi
    by_cases e : 8 * q + i = p
    · obtain ⟨rfl, rfl⟩ := div_mod8 hi e
      rw [hf] at hg
      cases hg
      rw [h1]
      simp [updC, e]
    · rw [h2 g i hi (h.held _ _ _ hg) (fun x => e (by have := (h.inj _ _ _ _ _ (x.1 ▸ hg) hf).2; omega)), h.leaf q g hg i hi]
      simp [updC, e]
  · intro q hq i hi
    have e : 8 * q + i ≠ p := by
      intro e
      obtain ⟨rfl, _⟩ := div_mod8 hi e
      rw [hf] at hq
      cases hq
    simp only [updC, if_neg e]
    exact h.none_leaf q hq i hi
  · intro a s hs
    unfold updC at hs
    split at hs
    · exact hv s hs
    · exact h.ok a s hs

/-- One more node. -/
theorem Tr.grow {E Hd N C root} (h : Tr E Hd N C root) {l q f0 f : Nat} (hl : l < 3) (hq : q < 8 ^ (l + 1)) (h0 : N l (q / 8) = some f0) (hn : N (l + 1) q = none) (hf : ¬ Hd f) {E' : Nat → Nat → Sl} {Hd' : Nat → Prop}
    (hH : ∀ g, Hd' g ↔ Hd g ∨ g = f) (h1 : E' f0 (q % 8) = .node f) (hz : ∀ i, i < 8 → E' f i = .zero) (h2 : ∀ g i, i < 8 → Hd g → ¬ (g = f0 ∧ i = q % 8) → E' g i = E g i) :
    Tr E' Hd' (upd2 N (l + 1) q (some f)) C root := by
  have hff : ∀ a b, N a b ≠ some f := fun a b e => hf (h.held _ _ _ e)
  refine ⟨?_, ?_, ?_, ?_, ?_, ?_, ?_, ?_, h.ok⟩
  · rw [upd2_ne _ _ (by omega)]
    exact h.top
  · intro a b g ha hg i hi
    by_cases e : a = l + 1 ∧ b = q
    · obtain ⟨rfl, rfl⟩ := e
      rw [upd2_at] at hg
      cases hg
      rw [hz i hi, upd2_ne _ _ (by omega), h.none_in _ _ ha hn i hi]
    · rw [upd2_ne _ _ e] at hg
      by_cases e2 : a + 1 = l + 1 ∧ 8 * b + i = q
      · obtain ⟨e3, e4⟩ := e2
        obtain ⟨rfl, rfl⟩ := div_mod8 hi e4
        obtain rfl : a = l := by omega
        rw [h0] at hg
        cases hg
        rw [h1, e4, upd2_at]
      · rw [upd2_ne _ _ e2, h2 g i hi (h.held _ _ _ hg) (fun x => e2 (by have := h.inj _ _ _ _ _ (x.1 ▸ hg) h0; omega))]
        exact h.inner a b g ha hg i hi
  · intro b g hg i hi
    by_cases e : 3 = l + 1 ∧ b = q
    · obtain ⟨e1, rfl⟩ := e
      rw [← e1] at hg hn
      rw [upd2_at] at hg
      cases hg
      rw [hz i hi, h.none_leaf _ hn i hi]
      rfl
    · rw [upd2_ne _ _ e] at hg
      rw [h2 g i hi (h.held _ _ _ hg) (fun x => by have := h.inj _ _ _ _ _ (x.1 ▸ hg) h0; omega)]
      exact h.leaf b g hg i hi
  · intro a b ha hb i hi
    by_cases e : a = l + 1 ∧ b = q
    · obtain ⟨rfl, rfl⟩ := e
      rw [upd2_at] at hb
      cases hb
    · rw [upd2_ne _ _ e] at hb
      have hx := h.none_in a b ha hb i hi
      rw [upd2_ne _ _ (fun e2 => by
        obtain ⟨e3, e4⟩ := e2
        obtain ⟨rfl, rfl⟩ := div_mod8 hi e4
        obtain rfl : a = l := by omega
        rw [h0] at hb; cases hb)]
      exact hx
  · intro b hb i hi
    by_cases e : 3 = l + 1 ∧ b = q
    · obtain ⟨e1, rfl⟩ := e
      rw [e1, upd2_at] at hb
      cases hb
    · rw [upd2_ne _ _ e] at hb
      exact h.none_leaf b hb i hi
  · intro a b a' b' g ha hb
    by_cases e : a = l + 1 ∧ b = q
    · by_cases e' : a' = l + 1 ∧ b' = q
      · omega
      · rw [upd2_ne _ _ e'] at hb
        rw [e.1, e.2, upd2_at] at ha
        cases ha
        exact absurd hb (hff _ _)
    · rw [upd2_ne _ _ e] at ha
      by_cases e' : a' = l + 1 ∧ b' = q
      · rw [e'.1, e'.2, upd2_at] at hb
        cases hb
        exact absurd ha (hff _ _)
      · rw [upd2_ne _ _ e'] at hb
        exact h.inj _ _ _ _ _ ha hb
  · intro a b g hg
    rw [hH]
    by_cases e : a = l + 1 ∧ b = q
    · rw [e.1, e.2, upd2_at] at hg
      cases hg
      exact .inr rfl
    · rw [upd2_ne _ _ e] at hg
      exact .inl (h.held _ _ _ hg)
  · intro a b g hg
    by_cases e : a = l + 1 ∧ b = q
    · rw [e.1, e.2]
      exact ⟨by omega, hq⟩
    · rw [upd2_ne _ _ e] at hg
      exact h.small _ _ _ hg

/-- A bare node goes. -/
theorem Tr.prune {E Hd N C root} (h : Tr E Hd N C root) {l q f0 f : Nat} (hl : l < 3) (h0 : N l (q / 8) = some f0) (hn : N (l + 1) q = some f) (hb : ∀ i, i < 8 → E f i = .zero) {E' : Nat → Nat → Sl} {Hd' : Nat → Prop}
    (hH : ∀ g, Hd' g ↔ Hd g ∧ g ≠ f) (h1 : E' f0 (q % 8) = .zero) (h2 : ∀ g i, i < 8 → Hd' g → ¬ (g = f0 ∧ i = q % 8) → E' g i = E g i) :
    Tr E' Hd' (upd2 N (l + 1) q none) C root := by
  have hne : ∀ a b g, ¬ (a = l + 1 ∧ b = q) → N a b = some g → Hd' g := fun a b g e hg => (hH g).2 ⟨h.held _ _ _ hg, fun x => e (h.inj _ _ _ _ _ (x ▸ hg) hn)⟩
  refine ⟨?_, ?_, ?_, ?_, ?_, ?_, ?_, ?_, h.ok⟩
  · rw [upd2_ne _ _ (by omega)]
    exact h.top
  · intro a b g ha hg i hi
    by_cases e : a = l + 1 ∧ b = q
    · rw [e.1, e.2, upd2_at] at hg; cases hg
    · rw [upd2_ne _ _ e] at hg
      by_cases e2 : a + 1 = l + 1 ∧ 8 * b + i = q
      · obtain ⟨e3, e4⟩ := e2
        obtain ⟨rfl, rfl⟩ := div_mod8 hi e4
        obtain rfl : a = l := by omega
        rw [h0] at hg
        cases hg
        rw [h1, e4, upd2_at]
      · rw [upd2_ne _ _ e2, h2 g i hi (hne _ _ _ e hg) (fun x => e2 (by have := h.inj _ _ _ _ _ (x.1 ▸ hg) h0; omega))]
        exact h.inner a b g ha hg i hi
  · intro b g hg i hi
    by_cases e : 3 = l + 1 ∧ b = q
    · rw [e.1, e.2, upd2_at] at hg; cases hg
    · rw [upd2_ne _ _ e] at hg
      rw [h2 g i hi (hne _ _ _ e hg) (fun x => by have := h.inj _ _ _ _ _ (x.1 ▸ hg) h0; omega)]
      exact h.leaf b g hg i hi
  · intro a b ha hb' i hi
    by_cases e : a = l + 1 ∧ b = q
    · obtain ⟨rfl, rfl⟩ := e
      rw [upd2_ne _ _ (by omega)]
      have := h.inner _ _ _ ha hn i hi
      rw [hb i hi] at this
      cases hx : N (l + 1 + 1) (8 * b + i) with
      | none => rfl
      | some g =>
        rw [hx] at this
        exact absurd this.symm (node_ne g)
    · rw [upd2_ne _ _ e] at hb'
      unfold upd2
      split
      · rfl
      · exact h.none_in a b ha hb' i hi
  · intro b hb' i hi
    by_cases e : 3 = l + 1 ∧ b = q
    · obtain ⟨e1, rfl⟩ := e
      rw [← e1] at hn
      have := h.leaf _ _ hn i hi
      rw [hb i hi] at this
      cases hx : C (8 * b + i) with
      | none => rfl
      | some s =>
        rw [hx] at this
        exact absurd this.symm (may_ne (h.ok _ _ hx))
    · rw [upd2_ne _ _ e] at hb'
      exact h.none_leaf b hb' i hi
  · intro a b a' b' g ha hb'
    by_cases e : a = l + 1 ∧ b = q
    · rw [e.1, e.2, upd2_at] at ha; cases ha
    · by_cases e' : a' = l + 1 ∧ b' = q
      · rw [e'.1, e'.2, upd2_at] at hb'; cases hb'
      · rw [upd2_ne _ _ e] at ha
        rw [upd2_ne _ _ e'] at hb'
        exact h.inj _ _ _ _ _ ha hb'
  · intro a b g hg
    by_cases e : a = l + 1 ∧ b = q
    · rw [e.1, e.2, upd2_at] at hg; cases hg
    · rw [upd2_ne _ _ e] at hg
      exact hne _ _ _ e hg
  · intro a b g hg
    by_cases e : a = l + 1 ∧ b = q
    · rw [e.1, e.2, upd2_at] at hg; cases hg
    · rw [upd2_ne _ _ e] at hg
      exact h.small _ _ _ hg

/-! ## How many nodes -/
theorem countP_upd (L : List Nat) (hnd : L.Nodup) (x : Nat) (hx : x ∈ L) (p p' : Nat → Bool) (h : ∀ y, y ≠ x → p' y = p y) : L.countP p' + (if p x then 1 else 0) = L.countP p + (if p' x then 1 else 0) := by
  induction L with
  | nil => simp at hx
  | cons a r ih =>
    have hnd' := List.nodup_cons.1 hnd
    rw [List.countP_cons, List.countP_cons]
    by_cases e : a = x
    · subst e
      have hr : r.countP p' = r.countP p := by
        apply List.countP_congr
        intro y hy
        have : y ≠ a := fun e => hnd'.1 (e ▸ hy)
        rw [h y this]
      rw [hr]
      omega
    · have hxr : x ∈ r := by
        rcases List.mem_cons.1 hx with h1 | h1
        · exact absurd h1.symm e
        · exact h1
      have := ih hnd'.2 hxr
      rw [h a e]
      omega
def cntL (N : Nat → Nat → Option Nat) (l : Nat) : Nat := (List.range (8 ^ l)).countP (fun q => (N l q).isSome)
def cnt (N : Nat → Nat → Option Nat) : Nat := cntL N 0 + cntL N 1 + cntL N 2 + cntL N 3
theorem cntL_upd (N : Nat → Nat → Option Nat) (l q : Nat) (v : Option Nat) (hq : q < 8 ^ l) : cntL (upd2 N l q v) l + (if (N l q).isSome then 1 else 0) = cntL N l + (if v.isSome then 1 else 0) := by
  have := countP_upd (List.range (8 ^ l)) List.nodup_range q (List.mem_range.2 hq) (fun q => (N l q).isSome) (fun b => (upd2 N l q v l b).isSome) (fun y hy => by rw [upd2_ne _ _ (fun e => hy e.2)])
  simp only [upd2_at] at this
  exact this
theorem cntL_other (N : Nat → Nat → Option Nat) (l q : Nat) (v : Option Nat) (k : Nat) (hk : k ≠ l) : cntL (upd2 N l q v) k = cntL N k := by
  unfold cntL
  apply List.countP_congr
  intro y _
  rw [upd2_ne _ _ (fun e => hk e.1)]
theorem cnt_upd (N : Nat → Nat → Option Nat) (l q : Nat) (v : Option Nat) (hl : l < 4) (hq : q < 8 ^ l) : cnt (upd2 N l q v) + (if (N l q).isSome then 1 else 0) = cnt N + (if v.isSome then 1 else 0) := by
  have h := cntL_upd N l q v hq
  unfold cnt
  obtain rfl | rfl | rfl | rfl : l = 0 ∨ l = 1 ∨ l = 2 ∨ l = 3 := by omega
  · rw [cntL_other N 0 q v 1 (by omega), cntL_other N 0 q v 2 (by omega), cntL_other N 0 q v 3 (by omega)]; omega
  · rw [cntL_other N 1 q v 0 (by omega), cntL_other N 1 q v 2 (by omega), cntL_other N 1 q v 3 (by omega)]; omega
  · rw [cntL_other N 2 q v 0 (by omega), cntL_other N 2 q v 1 (by omega), cntL_other N 2 q v 3 (by omega)]; omega
  · rw [cntL_other N 3 q v 0 (by omega), cntL_other N 3 q v 1 (by omega), cntL_other N 3 q v 2 (by omega)]; omega
theorem cnt_grow {N : Nat → Nat → Option Nat} {l q f : Nat} (hl : l < 4) (hq : q < 8 ^ l) (hn : N l q = none) : cnt (upd2 N l q (some f)) = cnt N + 1 := by
  have := cnt_upd N l q (some f) hl hq
  rw [hn] at this
  simpa using this
theorem cnt_prune {N : Nat → Nat → Option Nat} {l q f : Nat} (hl : l < 4) (hq : q < 8 ^ l) (hn : N l q = some f) : cnt (upd2 N l q none) + 1 = cnt N := by
  have := cnt_upd N l q none hl hq
  rw [hn] at this
  simpa using this

/-- The prefix of a page at a level. -/
def pre (page l : Nat) : Nat := page / 8 ^ (4 - l)
theorem pre_succ {page l : Nat} (hl : l < 4) : pre page (l + 1) / 8 = pre page l ∧ pre page (l + 1) % 8 = page / 8 ^ (3 - l) % 8 := by
  unfold pre
  obtain rfl | rfl | rfl | rfl : l = 0 ∨ l = 1 ∨ l = 2 ∨ l = 3 := by omega
  all_goals simp <;> omega
theorem pre_zero {page : Nat} (h : page < 4096) : pre page 0 = 0 := by
  unfold pre
  simp
  omega
theorem pre_lt {page l : Nat} (h : page < 4096) (hl : l ≤ 3) : pre page l < 8 ^ l := by
  unfold pre
  obtain rfl | rfl | rfl | rfl : l = 0 ∨ l = 1 ∨ l = 2 ∨ l = 3 := by omega
  all_goals simp <;> omega
theorem pre_three (page : Nat) : pre page 3 = page / 8 := by simp [pre]
end Go.Proofs.YtacpfkimjaihgaaDoor
