/- A pool's frames as rows of eight words, under what a table asks of it. No conditions. -/
import Derived.Test.YtacpfkimjaihgaaDoorFLaw
import Derived.Test.YtacpfkimjaihgaaDoorRTree
namespace Go.Proofs.YtacpfkimjaihgaaDoor
open Go.RowKit
set_option linter.unusedVariables false

/-- What a table asks of its pool: no frame held twice. -/
structure Fit (F : FP) (n : Nat) : Prop where
  secs : F.secs.length = n
  held : F.held.length = n
  row : ∀ s ∈ F.secs, s.length = 64
  one : ∀ v ∈ F.held, v = 0 ∨ v = 1
def Hd (F : FP) (f : Nat) : Prop := F.held[f]? = some 1
def wds (F : FP) (f i : Nat) : Int := F.load f ((i * 8 : Nat) : Int) 4
def ent (F : FP) (f i : Nat) : Sl := unpackB (wds F f i)

theorem Hd.get {F : FP} {f : Nat} (h : Hd F f) : ∃ hk : f < F.held.length, F.held[f] = 1 := by
  obtain ⟨h1, h2⟩ := List.getElem?_eq_some_iff.1 h
  exact ⟨h1, h2⟩
theorem Fit.few {F : FP} {n : Nat} (h : Fit F n) : Few F.held := fun v hv => by rcases h.one v hv with rfl | rfl <;> omega
theorem Fit.sec64 {F : FP} {n f : Nat} (h : Fit F n) (hf : f < n) : (F.sec f).length = 64 := by
  have : f < F.secs.length := by rw [h.secs]; exact hf
  rw [FP.sec_nat this]
  exact h.row _ (List.getElem_mem _)
theorem width4 : widthOf 4 = ((8 : Nat) : Int) := by decide
theorem clip4 {x : Int} (h0 : 0 ≤ x) (h1 : x < 18446744073709551616) : clipOf 4 x = x := by
  simp [clipOf, modOf, widthOf, widths, signedOf]
  omega
theorem clip4_bound (x : Int) : 0 ≤ clipOf 4 x ∧ clipOf 4 x < 18446744073709551616 := by
  simp [clipOf, modOf, widthOf, widths, signedOf]
  omega
theorem load_bound (F : FP) (f a : Int) : 0 ≤ F.load f a 4 ∧ F.load f a 4 < 18446744073709551616 := by
  unfold FP.load
  split
  · exact clip4_bound _
  · omega
theorem wds_at {F : FP} {f i : Nat} (h : Hd F f) (hi : i < 8) : wds F f i = clipOf 4 (leV (((F.sec f).drop (i * 8)).take 8)) := by
  obtain ⟨h1, h2⟩ := h.get
  exact load_at h1 (by rw [h2]; decide) width4 (by decide) (by omega)
theorem wds_err {F : FP} {f i : Nat} (h : Hd F f) (hi : i < 8) : F.loadE f ((i * 8 : Nat) : Int) 4 = 0 := by
  obtain ⟨h1, h2⟩ := h.get
  exact loadE_at h1 (by rw [h2]; decide) width4 (by decide) (by omega)

theorem store_fit {F : FP} {n f i : Nat} (hF : Fit F n) (h : Hd F f) (hi : i < 8) (x : Int) (h0 : 0 ≤ x) (h1 : x < 18446744073709551616) :
    ∃ F', F.store f ((i * 8 : Nat) : Int) 4 x = F' ∧ Fit F' n ∧ F'.held = F.held ∧ wds F' f i = x ∧ ∀ g j, j < 8 → Hd F g → ¬ (g = f ∧ j = i) → wds F' g j = wds F g j := by
  obtain ⟨k1, k2⟩ := h.get
  have hn := hF.held
  have hsec := hF.sec64 (f := f) (by omega)
  have hfit : i * 8 + (leL x 8).length ≤ (F.sec f).length := by rw [leL_length, hsec]; omega
  have hst := store_at (F := F) (k := f) (a := i * 8) (n := 8) (kind := 4) (x := x) k1 (by rw [k2]; decide) width4 (by decide) (by omega)
  refine ⟨_, hst, ⟨by rw [List.length_set]; exact hF.secs, hF.held, ?_, hF.one⟩, rfl, ?_, ?_⟩
  · intro s hs
    rcases List.mem_or_eq_of_mem_set hs with hs | rfl
    · exact hF.row s hs
    · rw [length_splice _ _ _ hfit]; exact hsec
  · have hH : Hd (⟨F.secs.set f (splice (F.sec f) (i * 8) (leL x 8)), F.held⟩ : FP) f := h
    rw [wds_at hH hi]
    have e1 : (⟨F.secs.set f (splice (F.sec f) (i * 8) (leL x 8)), F.held⟩ : FP).sec f = splice (F.sec f) (i * 8) (leL x 8) := by
      rw [FP.sec_nat (by rw [List.length_set, hF.secs]; omega)]
      simp
    have := take_splice (F.sec f) (leL x 8) (i * 8) hfit
    rw [leL_length] at this
    rw [e1, this]
    have := clip_leL (k := 4) h0 h1
    rw [width4, Int.toNat_natCast] at this
    rw [this, clip4 h0 h1]
  · intro g j hj hg hne
    have hH : Hd (⟨F.secs.set f (splice (F.sec f) (i * 8) (leL x 8)), F.held⟩ : FP) g := hg
    obtain ⟨g1, _⟩ := hg.get
    rw [wds_at hH hj, wds_at hg hj]
    by_cases e : g = f
    · subst e
      have e1 : (⟨F.secs.set g (splice (F.sec g) (i * 8) (leL x 8)), F.held⟩ : FP).sec g = splice (F.sec g) (i * 8) (leL x 8) := by
        rw [FP.sec_nat (by rw [List.length_set, hF.secs]; omega)]
        simp
      rw [e1]
      by_cases hlt : j < i
      · rw [take_before _ _ _ _ _ hfit (by omega)]
      · have : j ≠ i := fun x => hne ⟨rfl, x⟩
        rw [take_behind _ _ _ _ _ hfit (by rw [leL_length]; omega)]
    · have e1 : (⟨F.secs.set f (splice (F.sec f) (i * 8) (leL x 8)), F.held⟩ : FP).sec g = F.sec g := by
        have hl : g < F.secs.length := by rw [hF.secs]; omega
        rw [FP.sec_nat (by rw [List.length_set]; exact hl), FP.sec_nat hl, List.getElem_set_ne (fun x => e x.symm)]
      rw [e1]

theorem take_fit {F : FP} {n : Nat} (hF : Fit F n) (h : 0 < frees F.held) :
    ∃ (f : Nat) (F' : FP), F.take = ((f : Int), 0, F') ∧ f < n ∧ ¬ Hd F f ∧ Fit F' n ∧ (∀ g, Hd F' g ↔ Hd F g ∨ g = f) ∧ (∀ i, i < 8 → wds F' f i = 0) ∧ (∀ g j, j < 8 → Hd F g → wds F' g j = wds F g j) ∧ frees F'.held + 1 = frees F.held := by
  have hlt := frees_pos.1 h
  have hz := firstFree_at hlt
  have hn := hF.held
  have hs := hF.secs
  obtain ⟨f, hf⟩ : ∃ f, firstFree F.held = f := ⟨_, rfl⟩
  rw [hf] at hlt
  have hz' : F.held[f] = 0 := by
    have := hz
    simp only [hf] at this
    exact this
  have hnot : ¬ Hd F f := by
    intro x
    obtain ⟨_, x2⟩ := x.get
    rw [hz'] at x2
    cases x2
  have hHd : ∀ g, Hd (⟨F.secs.set f zeroSec, F.held.set f 1⟩ : FP) g ↔ Hd F g ∨ g = f := by
    intro g
    unfold Hd
    by_cases e : g = f
    · subst e
      simp [hlt]
    · simp [List.getElem?_set_ne (fun x => e x.symm), e]
  refine ⟨f, ⟨F.secs.set f zeroSec, F.held.set f 1⟩, ?_, by omega, hnot, ⟨by rw [List.length_set]; exact hs, by rw [List.length_set]; exact hn, ?_, ?_⟩, hHd, ?_, ?_, ?_⟩
  · unfold FP.take
    rw [hf, if_pos hlt]
  · intro s hs
    rcases List.mem_or_eq_of_mem_set hs with hs | rfl
    · exact hF.row s hs
    · decide
  · intro v hv
    rcases List.mem_or_eq_of_mem_set hv with hv | rfl
    · exact hF.one v hv
    · exact .inr rfl
  · intro i hi
    rw [wds_at ((hHd f).2 (.inr rfl)) hi]
    have e1 : (⟨F.secs.set f zeroSec, F.held.set f 1⟩ : FP).sec f = zeroSec := by
      rw [FP.sec_nat (by rw [List.length_set, hs]; omega)]
      simp
    rw [e1]
    have e2 : (zeroSec.drop (i * 8)).take 8 = List.replicate 8 0 := by
      unfold zeroSec
      rw [List.drop_replicate, List.take_replicate]
      congr 1
      omega
    rw [e2]
    decide
  · intro g j hj hg
    rw [wds_at ((hHd g).2 (.inl hg)) hj, wds_at hg hj]
    have e : g ≠ f := fun x => hnot (x ▸ hg)
    obtain ⟨g1, _⟩ := hg.get
    have e1 : (⟨F.secs.set f zeroSec, F.held.set f 1⟩ : FP).sec g = F.sec g := by
      have hl : g < F.secs.length := by rw [hF.secs]; omega
      rw [FP.sec_nat (by rw [List.length_set]; exact hl), FP.sec_nat hl, List.getElem_set_ne (fun x => e x.symm)]
    rw [e1]
  · have := frees_set hlt 1
    rw [hz'] at this
    simp at this
    have := this
    show frees (F.held.set f 1) + 1 = frees F.held
    omega
theorem take_none {F : FP} (h : frees F.held = 0) : F.take = (0, 18, F) := by
  unfold FP.take
  rw [if_neg (fun x => by have := frees_pos.2 x; omega)]
theorem drop_fit {F : FP} {n f : Nat} (hF : Fit F n) (h : Hd F f) :
    asked F.held f = 0 ∧ ∃ F', F.drop f = F' ∧ Fit F' n ∧ (∀ g, Hd F' g ↔ Hd F g ∧ g ≠ f) ∧ (∀ g j, j < 8 → Hd F' g → wds F' g j = wds F g j) ∧ frees F'.held = frees F.held + 1 := by
  obtain ⟨k1, k2⟩ := h.get
  have ha : asked F.held f = 0 := by rw [asked_nat k1, if_neg (by rw [k2]; decide)]
  have hd : F.drop f = ⟨F.secs, F.held.set f 0⟩ := by
    unfold FP.drop
    rw [if_pos ha, heldAt_nat k1, k2]
    rfl
  have hHd : ∀ g, Hd (⟨F.secs, F.held.set f 0⟩ : FP) g ↔ Hd F g ∧ g ≠ f := by
    intro g
    unfold Hd
    by_cases e : g = f
    · subst e
      simp [List.getElem?_set_self k1]
    · simp [List.getElem?_set_ne (fun x => e x.symm), e]
  refine ⟨ha, _, hd, ⟨hF.secs, by rw [List.length_set]; exact hF.held, hF.row, ?_⟩, hHd, ?_, ?_⟩
  · intro v hv
    rcases List.mem_or_eq_of_mem_set hv with hv | rfl
    · exact hF.one v hv
    · exact .inl rfl
  · intro g j hj hg
    rw [wds_at hg hj, wds_at ((hHd g).1 hg).1 hj]
    rfl
  · have := frees_set k1 0
    rw [k2] at this
    simp at this
    show frees (F.held.set f 0) = frees F.held + 1
    omega
theorem new_fit (n : Nat) : Fit (newFP n) n ∧ (∀ f, ¬ Hd (newFP n) f) ∧ frees (newFP n).held = n := by
  refine ⟨⟨by simp [newFP], by simp [newFP], ?_, ?_⟩, ?_, frees_new n⟩
  · intro s hs
    simp [newFP] at hs
    rw [hs.2]; decide
  · intro v hv
    simp [newFP] at hv
    exact .inl hv.2
  · intro f h
    unfold Hd newFP at h
    rw [List.getElem?_replicate] at h
    split at h <;> simp at h
end Go.Proofs.YtacpfkimjaihgaaDoor
