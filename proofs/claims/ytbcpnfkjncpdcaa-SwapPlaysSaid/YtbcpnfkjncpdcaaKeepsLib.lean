/- What SwapKeeps and SwapPlays carry from round to round: plain laws. -/
import Derived.Test.YtbcpnfkjncpdcaaSwapLib
import Derived.Test.YtbcpnfkjncpdcaaRefArea
namespace Go.Proofs.Ytbcpnfkjncpdcaa
open Go.RowKit

def heldB (T : List Bool) : List Int := T.map fun b => if b then 1 else 0
def usedB (T : List Bool) : Int := (T.count true : Nat)
theorem heldB_length (T : List Bool) : (heldB T).length = T.length := by simp [heldB]
theorem heldB_at {T : List Bool} {k : Nat} (h : k < T.length) : (heldB T)[k]'(by rw [heldB_length]; exact h) = if T[k] then 1 else 0 := by simp [heldB]
theorem heldB_set (T : List Bool) (k : Nat) (b : Bool) : heldB (T.set k b) = (heldB T).set k (if b then 1 else 0) := by simp [heldB, List.map_set]
theorem usedB_put {T : List Bool} {k : Nat} (h : k < T.length) (hf : T[k] = false) : usedB (T.set k true) = usedB T + 1 := by
  simp [usedB, List.count_set h, hf]
theorem usedB_pos {T : List Bool} {k : Nat} (h : k < T.length) (hf : T[k] = true) : 1 ≤ usedB T := by
  have : true ∈ T := by rw [← hf]; exact List.getElem_mem h
  have := List.count_pos_iff.2 this
  simp only [usedB]
  omega
theorem usedB_free {T : List Bool} {k : Nat} (h : k < T.length) (hf : T[k] = true) : usedB (T.set k false) = usedB T - 1 := by
  have h1 := usedB_pos h hf
  simp only [usedB] at h1 ⊢
  simp [List.count_set h, hf]
  omega
theorem usedB_le (T : List Bool) : 0 ≤ usedB T ∧ usedB T ≤ T.length := by
  have := List.count_le_length (a := true) (l := T)
  simp only [usedB]
  omega
theorem set_false {T : List Bool} {k : Nat} (h : k < T.length) (hf : T[k] = false) : T.set k false = T := by
  rw [← hf]; exact List.set_getElem_self h

def KeptAll (D : DM) (T : List Bool) (Wh : List Int) : Prop :=
  D.secs.length = 8 ∧ T.length = 8 ∧ Wh.length = 8 ∧ D.sealed_ = 0 ∧ ∀ k, k < 8 → T.getD k false = true → (⟨(D.secs.getD k []).toArray⟩ : ByteArray) = pageB (Wh.getD k 0)
theorem keptAll_zero : KeptAll (newDM 8) (List.replicate 8 false) (List.replicate 8 0) := by
  refine ⟨by simp [newDM], by simp, by simp, rfl, fun k hk h => ?_⟩
  rw [List.getD_eq_getElem?_getD, List.getElem?_replicate, if_pos hk] at h
  cases h
theorem getD_set {α : Type} (l : List α) (i j : Nat) (a d : α) : (l.set i a).getD j d = if i = j ∧ i < l.length then a else l.getD j d := by
  simp only [List.getD_eq_getElem?_getD, List.getElem?_set]
  by_cases h : i = j
  · subst h
    by_cases h2 : i < l.length
    · simp [h2]
    · simp [h2]
  · simp [h]
theorem keptAll_put {D : DM} {T : List Bool} {Wh : List Int} (h : KeptAll D T Wh) {k : Nat} (hk : k < 8) (t : Int) {z : Int} (hz : z = k) : KeptAll (D.put z (pageB t)) (T.set k true) (Wh.set k t) := by
  subst hz
  obtain ⟨h1, h2, h3, h4, h5⟩ := h
  refine ⟨by simpa [DM.put] using h1, by simpa using h2, by simpa using h3, h4, fun j hj hT => ?_⟩
  simp only [DM.put, Int.toNat_natCast]
  rw [getD_set] at hT ⊢
  rw [getD_set]
  by_cases he : k = j
  · rw [if_pos ⟨he, by omega⟩, if_pos ⟨he, by omega⟩]
  · rw [if_neg (fun c => he c.1)] at hT ⊢
    rw [if_neg (fun c => he c.1)]
    exact h5 j hj hT
theorem keptAll_free {D : DM} {T : List Bool} {Wh : List Int} (h : KeptAll D T Wh) (k : Nat) : KeptAll D (T.set k false) Wh := by
  obtain ⟨h1, h2, h3, h4, h5⟩ := h
  refine ⟨h1, by simpa using h2, h3, h4, fun j hj hT => h5 j hj ?_⟩
  rw [getD_set] at hT
  split at hT
  · cases hT
  · exact hT
theorem keptAll_reads {D E : DM} {T : List Bool} {Wh : List Int} (h : KeptAll D T Wh) (hs : E.secs = D.secs) (hse : E.sealed_ = D.sealed_) : KeptAll E T Wh := by
  obtain ⟨h1, h2, h3, h4, h5⟩ := h
  exact ⟨by rw [hs]; exact h1, h2, h3, by rw [hse]; exact h4, fun j hj hT => by rw [hs]; exact h5 j hj hT⟩
theorem KeptAll.sec {D : DM} {T : List Bool} {Wh : List Int} (h : KeptAll D T Wh) {k : Nat} (hk : k < 8) (hT : T[k]'(by rw [h.2.1]; exact hk) = true) :
    (⟨(D.secs[k]'(by rw [h.1]; exact hk)).toArray⟩ : ByteArray) = pageB (Wh[k]'(by rw [h.2.2.1]; exact hk)) := by
  have h1 : k < D.secs.length := by rw [h.1]; exact hk
  have h2 : k < T.length := by rw [h.2.1]; exact hk
  have h3 : k < Wh.length := by rw [h.2.2.1]; exact hk
  have := h.2.2.2.2 k hk (by simp only [List.getD_eq_getElem?_getD, List.getElem?_eq_getElem h2, Option.getD_some]; exact hT)
  simpa only [List.getD_eq_getElem?_getD, List.getElem?_eq_getElem h1, List.getElem?_eq_getElem h3, Option.getD_some] using this

theorem usedOf_set {held : List Int} {k : Nat} (h : k < held.length) (v : Int) : usedOf (held.set k v) = usedOf held - (if 0 < held[k] then 1 else 0) + (if 0 < v then 1 else 0) := by
  have hp : 0 < held[k] → 1 ≤ held.countP (fun h => decide (0 < h)) := fun hp => List.countP_pos_iff.2 ⟨held[k], List.getElem_mem h, by simpa using hp⟩
  simp only [usedOf, List.countP_set h]
  by_cases h1 : 0 < held[k]
  · have := hp h1
    by_cases h2 : 0 < v
    · simp [h1, h2]; omega
    · simp [h1, h2]; omega
  · by_cases h2 : 0 < v
    · simp [h1, h2]
    · simp [h1, h2]
theorem usedOf_le (held : List Int) : 0 ≤ usedOf held ∧ usedOf held ≤ held.length := by
  have := List.countP_le_length (p := fun h : Int => decide (0 < h)) (l := held)
  simp only [usedOf]
  omega
theorem usedOf_zero (n : Nat) : usedOf (List.replicate n 0) = 0 := by simp [usedOf, List.countP_replicate]
def KeptP (D : DM) (held : List Int) (S : List ByteArray) (n t : Nat) : Prop :=
  D.secs.length = 20 ∧ held.length = n ∧ S.length = n ∧ D.sealed_ = 0 ∧ (∀ k (h : k < held.length), 0 ≤ held[k] ∧ held[k] ≤ t) ∧ ∀ k, k < n → held.getD k 0 ≠ 0 → (⟨(D.secs.getD (3 + k) []).toArray⟩ : ByteArray) = S.getD k ⟨#[]⟩
theorem keptP_zero (n : Nat) : KeptP (newDM 20) (List.replicate n 0) (List.replicate n ⟨#[]⟩) n 0 := by
  refine ⟨by simp [newDM], by simp, by simp, rfl, fun k h => by simp, fun k hk h => ?_⟩
  rw [List.getD_eq_getElem?_getD, List.getElem?_replicate, if_pos hk] at h
  exact absurd rfl h
section
variable {D : DM} {held : List Int} {S : List ByteArray} {n t : Nat}
theorem keptP_later (h : KeptP D held S n t) : KeptP D held S n (t + 1) := by
  obtain ⟨h1, h2, h3, h4, h5, h6⟩ := h
  exact ⟨h1, h2, h3, h4, fun k hk => by have := h5 k hk; omega, h6⟩
theorem keptP_reads {E : DM} (h : KeptP D held S n t) (hs : E.secs = D.secs) (hse : E.sealed_ = D.sealed_) : KeptP E held S n t := by
  obtain ⟨h1, h2, h3, h4, h5, h6⟩ := h
  exact ⟨by rw [hs]; exact h1, h2, h3, by rw [hse]; exact h4, h5, fun j hj hT => by rw [hs]; exact h6 j hj hT⟩
theorem keptP_set (h : KeptP D held S n t) {k : Nat} (hk : k < held.length) (v : Int) (h0 : held[k] ≠ 0) (hv : 0 ≤ v ∧ v ≤ held[k] + 1) : KeptP D (held.set k v) S n (t + 1) := by
  obtain ⟨h1, h2, h3, h4, h5, h6⟩ := h
  refine ⟨h1, by simpa using h2, h3, h4, fun j hj => ?_, fun j hj hT => h6 j hj ?_⟩
  · have hj' : j < held.length := by simpa using hj
    have a1 := h5 j hj'
    have a2 := h5 k hk
    rw [List.getElem_set]
    split
    · omega
    · omega
  · rw [getD_set] at hT
    split at hT
    · rename_i he
      obtain ⟨rfl, _⟩ := he
      simp only [List.getD_eq_getElem?_getD, List.getElem?_eq_getElem hk, Option.getD_some]
      exact h0
    · exact hT
theorem keptP_put (h : KeptP D held S n t) {k : Nat} (hk : k < held.length) (hn : n ≤ 16) (p : ByteArray) {z : Int} (hz : z = 3 + k) : KeptP (D.put z p) (held.set k 1) (S.set k p) n (t + 1) := by
  subst hz
  obtain ⟨h1, h2, h3, h4, h5, h6⟩ := h
  have hzn : ((3 : Int) + (k : Int)).toNat = 3 + k := by omega
  refine ⟨by simpa [DM.put] using h1, by simpa using h2, by simpa using h3, h4, fun j hj => ?_, fun j hj hT => ?_⟩
  · have hj' : j < held.length := by simpa using hj
    have a1 := h5 j hj'
    rw [List.getElem_set]
    split
    · omega
    · omega
  · simp only [DM.put, hzn]
    rw [getD_set] at hT ⊢
    rw [getD_set]
    by_cases he : k = j
    · subst he
      rw [if_pos ⟨rfl, by omega⟩, if_pos ⟨rfl, by omega⟩]
    · rw [if_neg (fun c => he c.1)] at hT
      rw [if_neg (fun c => he (by omega)), if_neg (fun c => he c.1)]
      exact h6 j hj hT
theorem KeptP.sec (h : KeptP D held S n t) {k : Nat} (hk : k < held.length) (h0 : held[k] ≠ 0) (hl : 3 + k < D.secs.length) : (⟨(D.secs[3 + k]'hl).toArray⟩ : ByteArray) = S.getD k ⟨#[]⟩ := by
  have := h.2.2.2.2.2 k (by rw [← h.2.1]; exact hk) (by simp only [List.getD_eq_getElem?_getD, List.getElem?_eq_getElem hk, Option.getD_some]; exact h0)
  rw [List.getD_eq_getElem?_getD, List.getElem?_eq_getElem hl, Option.getD_some] at this
  exact this
end
end Go.Proofs.Ytbcpnfkjncpdcaa
