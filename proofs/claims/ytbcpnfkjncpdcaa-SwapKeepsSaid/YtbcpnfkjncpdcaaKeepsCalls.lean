/- Put, Free and Get of an area whose slots are held once or not. -/
import Derived.Test.YtbcpnfkjncpdcaaKeepsLib
namespace Go.Proofs.Ytbcpnfkjncpdcaa
open Go.RowKit

theorem two_new (w : World) (o1 o2 : Obj) : ((w.alloc o1).alloc o2).heap[w.heap.size]? = some o1 ∧ ((w.alloc o1).alloc o2).heap[w.heap.size + 1]? = some o2 ∧ Below w.heap.size w ((w.alloc o1).alloc o2) := by
  refine ⟨?_, ?_, ((Below.refl _ _).alloc (Nat.le_refl _) _).alloc (by simp) _⟩
  · rw [Below.heap_alloc _ _ _ (by simp), heap_alloc_new]
  · have := heap_alloc_new (w.alloc o1) o2
    rw [World.size_alloc] at this
    exact this
theorem freeB_cases (T : List Bool) : (∃ (k : Nat) (hk : k < T.length), T[k] = false ∧ ∀ j (h : j < k), T[j] = true) ∨ ∀ j (h : j < T.length), T[j] = true := by
  rcases free_cases (heldB T) with ⟨k, hk, hz, hb⟩ | hb
  · have hk' : k < T.length := by rw [heldB_length] at hk; exact hk
    refine .inl ⟨k, hk', ?_, fun j h => ?_⟩
    · rw [heldB_at hk'] at hz
      cases hT : T[k]
      · rfl
      · simp [hT] at hz
    · have := hb j h
      rw [heldB_at (by omega)] at this
      cases hT : T[j]
      · simp [hT] at this
      · rfl
  · refine .inr fun j h => ?_
    have := hb j (by rw [heldB_length]; exact h)
    rw [heldB_at h] at this
    cases hT : T[j]
    · simp [hT] at this
    · rfl
section
variable (w : World) (a hb d bb : Nat) (D : DM) (T : List Bool)
theorem putB (p : ByteArray) (k : Nat) (hp : p.size = 64) (hk : k < T.length) (hT : T[k] = false) (hall : ∀ j (h : j < k), T[j] = true) (hl : T.length ≤ D.secs.length) (hs : D.sealed_ = 0)
    (hw : 0 ≤ D.writes ∧ D.writes ≤ 1000000) (h : IsArea w a hb d bb ⟨D, 0, heldB T, usedB T⟩) :
    Calls Try.prog 34 #[.pointer (some ⟨a, 0, none⟩), .string p] w fun e w' => e = .returned (.tuple #[.int .i64 k, .int .i64 0]) ∧ IsArea w' a hb d bb ⟨D.put (0 + (k : Int)) p, 0, heldB (T.set k true), usedB (T.set k true)⟩ ∧ Mods [a, hb, d, bb] w w' := by
  have hu := usedB_le T
  have hsm := h.disk.small
  refine (put_good w a hb d bb _ p k hp (by rw [heldB_length]; exact hk) (by rw [heldB_at hk, hT]; rfl) (fun j hj => by rw [heldB_at (by omega), hall j hj]; decide) ⟨by simp, by simp only []; omega⟩ (by simp only [hs]; omega) hw ⟨hu.1, by simp only at hsm ⊢; omega⟩ h).mono fun e w' ⟨he, hA, hm⟩ => ⟨he, ?_, hm⟩
  rw [heldB_set, usedB_put hk hT]
  exact hA
theorem putB_full (p : ByteArray) (hp : p.size = 64) (hall : ∀ j (h : j < T.length), T[j] = true) (hl : T.length ≤ 4096) (h : IsArea w a hb d bb ⟨D, 0, heldB T, usedB T⟩) :
    Calls Try.prog 34 #[.pointer (some ⟨a, 0, none⟩), .string p] w fun e w' => e = .returned (.tuple #[.int .i64 0, .int .i64 15]) ∧ w = w' := by
  refine put_full w a (some ⟨hb, 0, none⟩) T.length T.length p hp hl (by have := h.c2; simp only [heldB_length] at this; exact this) (fun k hk => ⟨hb, 1, rfl, by omega, ?_⟩)
  have := h.at (k := k) (by rw [heldB_length]; exact hk)
  simp only [] at this
  rw [heldB_at hk, hall k hk] at this
  exact this
theorem freeB (k : Nat) (hk : k < T.length) (hl : T.length ≤ 4096) (h : IsArea w a hb d bb ⟨D, 0, heldB T, usedB T⟩) :
    Calls Try.prog 37 #[.pointer (some ⟨a, 0, none⟩), .int .i64 k] w fun e w' => ∃ er : Int, e = .returned (.int .i64 er) ∧ (T[k] = true ∧ er = 0 ∨ T[k] = false ∧ er = 13) ∧ IsArea w' a hb d bb ⟨D, 0, heldB (T.set k false), usedB (T.set k false)⟩ ∧ Mods [a, hb, d, bb] w w' := by
  have hu := usedB_le T
  cases hT : T[k]
  · refine (free_zero w a hb d bb _ k (by rw [heldB_length]; exact hk) (by rw [heldB_at hk, hT]; rfl) h).mono fun e w' ⟨he, hm⟩ => ⟨13, he, .inr ⟨rfl, rfl⟩, ?_, Mods.of_below hm⟩
    rw [set_false hk hT]
    exact h.below hm (Nat.le_refl _)
  · have h1 : (heldB T)[k]'(by rw [heldB_length]; exact hk) = 1 := by rw [heldB_at hk, hT]; rfl
    refine (free_ok w a hb d bb _ k (by rw [heldB_length]; exact hk) (by rw [h1]; decide) ⟨hu.1, by simp only []; omega⟩ h).mono fun e w' ⟨he, hA, hm⟩ => ⟨0, he, .inl ⟨rfl, rfl⟩, ?_, hm⟩
    rw [heldB_set, usedB_free hk hT]
    simp only [h1] at hA
    exact hA
theorem getB (Wh : List Int) (k : Nat) (hk : k < 8) (hK : KeptAll D T Wh) (hr : 0 ≤ D.reads ∧ D.reads ≤ 1000000) (h : IsArea w a hb d bb ⟨D, 0, heldB T, usedB T⟩) :
    Calls Try.prog 38 #[.pointer (some ⟨a, 0, none⟩), .int .i64 k] w fun e w' => ∃ (s : ByteArray) (er : Int) (E : DM), e = .returned (.tuple #[.string s, .int .i64 er]) ∧
      (T[k]'(by rw [hK.2.1]; exact hk) = true ∧ er = 0 ∧ s = pageB (Wh[k]'(by rw [hK.2.2.1]; exact hk)) ∨ T[k]'(by rw [hK.2.1]; exact hk) = false ∧ er = 13 ∧ s = ⟨#[]⟩) ∧
      KeptAll E T Wh ∧ (D.reads ≤ E.reads ∧ E.reads ≤ D.reads + 1 ∧ E.writes = D.writes) ∧ IsArea w' a hb d bb ⟨E, 0, heldB T, usedB T⟩ ∧ Mods [a, hb, d, bb] w w' := by
  have hkT : k < T.length := by rw [hK.2.1]; exact hk
  have hkD : k < D.secs.length := by rw [hK.1]; exact hk
  cases hT : T[k]
  · exact (get_zero w a hb d bb _ k (by rw [heldB_length]; exact hkT) (by rw [heldB_at hkT, hT]; rfl) h).mono fun e w' ⟨he, hm⟩ =>
      ⟨⟨#[]⟩, 13, D, he, .inr ⟨rfl, rfl, rfl⟩, hK, ⟨Int.le_refl _, by omega, rfl⟩, h.below hm (Nat.le_refl _), Mods.of_below hm⟩
  · refine (get_good w a hb d bb _ k k (by rw [heldB_length]; exact hkT) (by rw [heldB_at hkT, hT]; decide) (by simp) (by simp) hkD hr h).mono fun e w' ⟨he, hA, hm⟩ => ?_
    rw [hK.sec hk hT] at he
    exact ⟨_, 0, D.got, he, .inl ⟨rfl, rfl, rfl⟩, keptAll_reads hK rfl rfl, ⟨by simp only [DM.got]; omega, by simp only [DM.got]; omega, rfl⟩, hA, hm⟩
end
end Go.Proofs.Ytbcpnfkjncpdcaa
