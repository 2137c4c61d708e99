/- Numbers that are taken: the state that ProcNumbers keeps. Nothing here is conditional. -/
import Derived.Test.YtjhggfpnafhonaaFullWalk
namespace Go.Proofs.Ytjhggfpnafhonaa
open Go.RowKit Go.Maps

def tf (l : List Bool) : List Value := l.map fun n => .bool n
theorem tf_get {l : List Bool} {j : Nat} (h : j < l.length) : (tf l)[j]? = some (.bool l[j]) := by simp [tf, h]
theorem tf_set (l : List Bool) (j : Nat) (x : Bool) : (tf l).set j (.bool x) = tf (l.set j x) := by simp [tf, List.map_set]

/-- The process of a number. -/
def prN (k : Nat) : Pr := ⟨k, if k = 1 then 0 else 1, 1, 0⟩

structure Nums (T : List Pr) (B : List Bool) (m : Nat) : Prop where
  len : B.length = 40
  at_ : ∀ (k : Nat) (h : k < B.length), find T k = if B[k] then some (prN k) else none
  one : B[1]? = some true
  cnt : T.length ≤ m + 1

theorem nums0 : Nums T0 ((List.replicate 40 false).set 1 true) 0 := by
  refine ⟨by simp, ?_, by rfl, by simp [T0]⟩
  intro k h
  rw [List.getElem_set]
  by_cases e : 1 = k
  · subst e
    rfl
  · rw [if_neg e, List.getElem_replicate]
    simp [T0, find]
    omega
theorem Nums.mono {T : List Pr} {B : List Bool} {m n : Nat} (h : Nums T B m) (hn : m ≤ n) : Nums T B n := ⟨h.len, h.at_, h.one, by have := h.cnt; omega⟩
theorem Nums.mem {T : List Pr} {B : List Bool} {m : Nat} (h : Nums T B m) (hi : Inv T) {p : Pr} (hp : p ∈ T) : ∃ k : Nat, 1 ≤ k ∧ k ≤ 32 ∧ p = prN k := by
  have hb := hi.pid p hp
  have hf := find_mem hi.up hp
  have hl := h.len
  have hx : ((p.pid.toNat : Nat) : Int) = p.pid := by omega
  have := h.at_ p.pid.toNat (by omega)
  rw [hx, hf] at this
  refine ⟨p.pid.toNat, by omega, by omega, ?_⟩
  split at this
  · exact Option.some.inj this
  · cases this
theorem Nums.root {T : List Pr} {B : List Bool} {m : Nat} (h : Nums T B m) : find T 1 = some (prN 1) := by
  have hl := h.len
  have h1 := h.at_ 1 (by omega)
  have h2 := h.one
  rw [List.getElem?_eq_getElem (by omega)] at h2
  rw [Option.some.inj h2] at h1
  exact h1
theorem Nums.asked {T : List Pr} {B : List Bool} {m : Nat} (h : Nums T B m) : askedV T 1 = 0 := by
  simp [askedV, h.root, prN]
theorem Nums.asked_k {T : List Pr} {B : List Bool} {m : Nat} (h : Nums T B m) (k : Nat) (hk : k < B.length) : askedV T k = if B[k] then 0 else 12 := by
  unfold askedV
  rw [h.at_ k hk]
  cases B[k] <;> simp [prN]
/-- The least number that is free. -/
theorem Nums.least {T : List Pr} {B : List Bool} {m : Nat} (h : Nums T B m) (hi : Inv T) (hm : m ≤ 29) : ∃ n : Nat, free T n ∧ 1 ≤ n ∧ n ≤ 32 ∧ B[n]? = some false ∧ (∀ j, 1 ≤ j → j < n → B[j]? = some true) := by
  have hc := h.cnt
  have hl := h.len
  obtain ⟨x, hx, hx32⟩ := free_is hi.up (by omega)
  have hx1 := hx.1
  obtain ⟨n, rfl⟩ : ∃ n : Nat, x = n := ⟨x.toNat, by omega⟩
  refine ⟨n, hx, by omega, by omega, ?_, ?_⟩
  · rw [List.getElem?_eq_getElem (by omega)]
    have := h.at_ n (by omega)
    rw [hx.2.1] at this
    cases hb : B[n] with
    | true => rw [hb] at this; cases this
    | false => rfl
  · intro j h1 h2
    rw [List.getElem?_eq_getElem (by omega)]
    have := h.at_ j (by omega)
    have h3 := hx.2.2 j (by omega) (by omega)
    rw [this] at h3
    cases hb : B[j] with
    | true => rfl
    | false => rw [hb] at h3; simp at h3
theorem Nums.fork {T : List Pr} {B : List Bool} {m : Nat} (h : Nums T B m) {n : Nat} (hf : free T n) : Nums (ins T ⟨n, 1, 1, 0⟩) (B.set n true) (m + 1) := by
  have hn1 : n ≠ 1 := by
    rintro rfl
    have := hf.2.1
    rw [show ((1 : Nat) : Int) = 1 from rfl, h.root] at this
    cases this
  refine ⟨by rw [List.length_set]; exact h.len, ?_, ?_, ?_⟩
  · intro j hj
    rw [List.length_set] at hj
    rw [find_ins, List.getElem_set]
    by_cases e : n = j
    · subst e
      simp [prN, hn1]
    · rw [if_neg (show ¬ ((n : Int) = (j : Int)) by omega), if_neg e]
      exact h.at_ j hj
  · rw [List.getElem?_set_ne hn1]
    exact h.one
  · unfold ins
    rw [ins1_length, del_none hf.2.1]
    have := h.cnt
    omega
/-- A child of 1 that ends is told of and goes. -/
theorem Nums.gone {T : List Pr} {B : List Bool} {m : Nat} (h : Nums T B m) (hi : Inv T) {k : Nat} (hk2 : 2 ≤ k) (hk : k < 40) (hb : B[k]? = some true) (c : Int) :
    askedV (exitT T k c) 1 = 0 ∧ endedOf (exitT T k c) 1 = some ⟨k, 1, 2, c⟩ ∧ Nums (del (exitT T k c) k) (B.set k false) m := by
  have hl := h.len
  have hfk : find T k = some (prN k) := by
    have := h.at_ k (by omega)
    rw [List.getElem?_eq_getElem (by omega)] at hb
    rw [Option.some.inj hb] at this
    exact this
  have hk1 : k ≠ 1 := by omega
  have h1 : find (exitT T k c) 1 = some (prN 1) := by
    rw [find_exit, h.root]
    simp [exitF, prN]
    omega
  have hup : Up (exitT T k c) := hi.up.map _ (exitF_pid _ _)
  have hek : find (exitT T k c) k = some ⟨k, 1, 2, c⟩ := by
    rw [find_exit, hfk]
    simp [exitF, prN, hk1]
  refine ⟨by simp [askedV, h1, prN], ended_least hup (find_in hek) rfl rfl ?_, ⟨by rw [List.length_set]; exact hl, ?_, ?_, ?_⟩⟩
  · intro q hq _ h2
    obtain ⟨p, hp, rfl⟩ := List.mem_map.1 hq
    obtain ⟨i, _, _, rfl⟩ := h.mem hi hp
    have h3 : (exitF k c (prN i)).state = if (i : Int) = k then 2 else 1 := by
      by_cases e : (i : Int) = k
      · have e' : (prN i).pid = k := e
        simp [exitF, e, e']
      · have e' : ¬ (prN i).pid = k := e
        rw [if_neg e]
        simp [exitF, e']
        rfl
    rw [h3] at h2
    show (k : Int) ≤ i
    split at h2 <;> omega
  · intro j hj
    rw [List.length_set] at hj
    rw [find_del, List.getElem_set]
    by_cases e : k = j
    · subst e
      simp
    · rw [if_neg (by omega), if_neg e, find_exit, h.at_ j hj]
      cases B[j] with
      | false => rfl
      | true =>
        have e2 : ¬ ((j : Int) = k) := by omega
        have e3 : ¬ ((1 : Int) = k) := by omega
        have e4 : ¬ ((0 : Int) = k) := by omega
        by_cases ej : j = 1
        · subst ej
          simp [exitF, prN]
          omega
        · simp [exitF, prN, ej, e2, e3]
  · rw [List.getElem?_set_ne (by omega)]
    exact h.one
  · have := del_length (exitT T k c) k
    have e : (exitT T k c).length = T.length := List.length_map _
    have := h.cnt
    omega

/-- All that ProcNumbers' loop keeps. -/
structure Nst (w0 w : World) (t b g : Nat) (T : List Pr) (B R : List Bool) (m : Nat) : Prop where
  tab : Tab w t b T
  inv : Inv T
  nums : Nums T B m
  row : w.heap[g]? = some (.cells (tf R).toArray 49 (0, 0))
  len : R.length = 40
  neb : g ≠ b
  net : g ≠ t
  bt : w0.heap.size ≤ t
  bb : w0.heap.size ≤ b
  bg : w0.heap.size ≤ g
  below : Below w0.heap.size w0 w

theorem Nst.after {w0 w w' : World} {t b g m m' : Nat} {T T' : List Pr} {B B' R : List Bool} (h : Nst w0 w t b g T B R m) (hT : Tab w' t b T') (hi : Inv T') (ht : Nums T' B' m') (hm : Mods [b] w w') : Nst w0 w' t b g T' B' R m' :=
  ⟨hT, hi, ht, (hm.block g (lt_of_block h.row) (by simpa using h.neb)).trans h.row, h.len, h.neb, h.net, h.bt, h.bb, h.bg, h.below.trans (hm.below h.below.size (fun k hk => by simp at hk; rw [hk]; exact h.bb))⟩
theorem Nst.quiet {w0 w w' : World} {t b g m m' : Nat} {T : List Pr} {B R : List Bool} (h : Nst w0 w t b g T B R m) (hb : Below w.heap.size w w') (hm : m ≤ m') : Nst w0 w' t b g T B R m' :=
  h.after (h.tab.below hb h.tab.lt h.tab.2.1.lt) h.inv (h.nums.mono hm) (Mods.of_below hb)
theorem Nst.store {w0 w : World} {t b g m : Nat} {T : List Pr} {B R : List Bool} (h : Nst w0 w t b g T B R m) (j : Nat) (x : Bool) : Nst w0 (w.setCell ⟨g, j, none⟩ (.bool x)) t b g T B (R.set j x) m := by
  have hm : Mods [g] w (w.setCell ⟨g, j, none⟩ (.bool x)) := (Mods.refl _ _).setCell (.inl (by simp)) _
  refine ⟨h.tab.mods hm (by simpa using h.net.symm) (by simpa using h.neb.symm), h.inv, h.nums, ?_, by rw [List.length_set]; exact h.len, h.neb, h.net, h.bt, h.bb, h.bg, h.below.trans (hm.below h.below.size (fun k hk => by simp at hk; rw [hk]; exact h.bg))⟩
  rw [heap_setCell_same w g j _ _ _ h.row, ← tf_set]
  simp
theorem Nst.cell {w0 w : World} {t b g m : Nat} {T : List Pr} {B R : List Bool} (h : Nst w0 w t b g T B R m) (j : Nat) (x : Bool) (hx : R[j]? = some x) : w.cell? ⟨g, j, none⟩ = some (.bool x) := by
  rw [cell_of_row w _ _ _ _ _ h.row]
  obtain ⟨h1, h2⟩ := List.getElem?_eq_some_iff.1 hx
  rw [List.getElem?_toArray, tf_get h1, h2]
theorem Nst.frozen {w0 w : World} {t b g m : Nat} {T : List Pr} {B R : List Bool} (h : Nst w0 w t b g T B R m) (j : Nat) : w.frozen? ⟨g, j, none⟩ = false := frozen_of_row w g _ _ _ h.row

theorem Nst.fork {w0 w : World} {t b g m : Nat} {T : List Pr} {B : List Bool} (h : Nst w0 w t b g T B B m) (hm : m ≤ 29) (n : Nat) (hn : free T n) :
    Calls Try.prog 10 #[.pointer (some ⟨t, 0, none⟩), .int .i64 1] w fun e w' => e = .returned (.tuple #[.int .i64 n, .int .i64 0]) ∧ ∃ T', Nst w0 w' t b g T' (B.set n true) B (m + 1) := by
  have hc := h.nums.cnt
  refine (fork_is w t b T _ h.tab h.inv 1 n (by decide) h.nums.asked (by omega) hn rfl).mono ?_
  rintro e w' ⟨rfl, h1, h2, h3⟩
  exact ⟨rfl, _, h.after h1 h2 (h.nums.fork hn) h3⟩
theorem Nst.exit_no {w0 w : World} {t b g m : Nat} {T : List Pr} {B : List Bool} (h : Nst w0 w t b g T B B m) (k : Nat) (hk : k < 40) (hb : B[k]? = some false) (c : Int) :
    Calls Try.prog 11 #[.pointer (some ⟨t, 0, none⟩), .int .i64 k, .int .i64 c] w fun e w' => e = .returned (.int .i64 12) ∧ Nst w0 w' t b g T B B (m + 1) := by
  have hl := h.nums.len
  have ha := h.nums.asked_k k (by omega)
  rw [List.getElem?_eq_getElem (by omega)] at hb
  rw [Option.some.inj hb] at ha
  refine (Ytjhggfpnafhonaa.exit_no w t b T h.tab k c (wf_small _ (by omega) (by omega)) 12 ha (by decide)).mono ?_
  rintro e w' ⟨rfl, hb⟩
  exact ⟨rfl, h.quiet hb (by omega)⟩
theorem Nst.exit {w0 w : World} {t b g m : Nat} {T : List Pr} {B : List Bool} (h : Nst w0 w t b g T B B m) (k : Nat) (hk2 : 2 ≤ k) (hk : k < 40) (hb : B[k]? = some true) (c : Int) :
    Calls Try.prog 11 #[.pointer (some ⟨t, 0, none⟩), .int .i64 k, .int .i64 c] w fun e w' => e = .returned (.int .i64 0) ∧ (w'.heap[g]? = some (.cells (tf B).toArray 49 (0, 0))) ∧
      Calls Try.prog 12 #[.pointer (some ⟨t, 0, none⟩), .int .i64 1] w' fun e w2 => e = .returned (.tuple #[.int .i64 k, .int .i64 c, .int .i64 0]) ∧ ∃ T', Nst w0 w2 t b g T' (B.set k false) B (m + 1) := by
  have hl := h.nums.len
  have ha := h.nums.asked_k k (by omega)
  have hb' := hb
  rw [List.getElem?_eq_getElem (by omega)] at hb'
  rw [Option.some.inj hb'] at ha
  obtain ⟨g1, g2, g3⟩ := h.nums.gone h.inv hk2 hk hb c
  refine (exit_is w t b T _ h.tab h.inv k c (wf_small _ (by omega) (by omega)) ha rfl).mono ?_
  rintro e w' ⟨rfl, h1, h2, h3⟩
  refine ⟨rfl, (h3.block g (lt_of_block h.row) (by simpa using h.neb)).trans h.row, ?_⟩
  refine (wait_is w' t b _ _ h1 h2 1 (by decide) g1 _ _ _ _ g2 rfl).mono ?_
  rintro e w2 ⟨rfl, h4, h5, h6⟩
  exact ⟨rfl, _, h.after h4 h5 (g3.mono (by omega)) (h3.trans h6)⟩
end Go.Proofs.Ytjhggfpnafhonaa
