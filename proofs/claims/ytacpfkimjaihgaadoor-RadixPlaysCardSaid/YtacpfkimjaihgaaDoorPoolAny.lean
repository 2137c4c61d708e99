/- Package frames: Load, Store, Copy, said of the pool as a whole. -/
import Derived.Test.YtacpfkimjaihgaaDoorCopy
namespace Go.Proofs.YtacpfkimjaihgaaDoor
open Go.RowKit

def FP.sec (F : FP) (f : Int) : List UInt8 := F.secs.getD f.toNat []
def FP.loadE (F : FP) (f a kind : Int) : Int := if asked F.held f = 0 then (if widthOf kind = 0 then 1 else if withinB a (widthOf kind) 64 = true then 0 else 14) else asked F.held f
def FP.load (F : FP) (f a kind : Int) : Int := if F.loadE f a kind = 0 then clipOf kind (leV (((F.sec f).drop a.toNat).take (widthOf kind).toNat)) else 0
def FP.store (F : FP) (f a kind x : Int) : FP := if F.loadE f a kind = 0 then ⟨F.secs.set f.toNat (splice (F.sec f) a.toNat (leL x (widthOf kind).toNat)), F.held⟩ else F
def FP.copy (F : FP) (f : Int) : Int × Int × FP :=
  if asked F.held f = 0 then (if firstFree F.held < F.held.length then (firstFree F.held, 0, ⟨F.secs.set (firstFree F.held) (F.sec f), F.held.set (firstFree F.held) 1⟩) else (0, 18, F)) else (0, asked F.held f, F)

theorem loadE_ok {F : FP} {f a kind : Int} (h : F.loadE f a kind = 0) : ∃ k at_ n : Nat, f = k ∧ a = at_ ∧ widthOf kind = n ∧ 0 < n ∧ n ≤ 8 ∧ at_ + n ≤ 64 ∧ ∃ hk : k < F.held.length, F.held[k] ≠ 0 := by
  rw [FP.loadE] at h
  by_cases ha : asked F.held f = 0
  · obtain ⟨k, rfl, hk, hz⟩ := asked_ok ha
    rw [if_pos ha] at h
    by_cases hw : widthOf kind = 0
    · rw [if_pos hw] at h; exact absurd h (by decide)
    · rw [if_neg hw] at h
      have hr := widthOf_range kind
      obtain ⟨n, hn⟩ := Int.eq_ofNat_of_zero_le hr.1
      by_cases hi : withinB a (widthOf kind) 64 = true
      · have := of_decide_eq_true hi
        obtain ⟨at_, rfl⟩ := Int.eq_ofNat_of_zero_le this.1
        exact ⟨k, at_, n, rfl, rfl, hn, by omega, by omega, by omega, hk, hz⟩
      · rw [if_neg hi] at h; exact absurd h (by decide)
  · rw [if_neg ha] at h; exact absurd h ha
theorem FP.sec_nat {F : FP} {k : Nat} (hk : k < F.secs.length) : F.sec k = F.secs[k] := by simp [FP.sec, hk]
theorem load_any (w : World) (p bb hb : Nat) (F : FP) (f a kind : Int) (hw : Wd w) (h : IsPool w p bb hb F) :
    Calls Tryd.prog 22 #[.pointer (some ⟨p, 0, none⟩), .int .i64 f, .int .i64 a, .int .i64 kind] w fun e w' => e = .returned (.tuple #[.int .u64 (F.load f a kind), .int .i64 (F.loadE f a kind)]) ∧ Below w.heap.size w w' := by
  by_cases he : F.loadE f a kind = 0
  · obtain ⟨k, at_, n, rfl, rfl, hwd, hn0, hn8, hat, hk, hz⟩ := loadE_ok he
    have hS : k < F.secs.length := by rw [h.len]; exact hk
    rw [FP.load, if_pos he, he, FP.sec_nat hS, Int.toNat_natCast, hwd, Int.toNat_natCast]
    exact load_ok w p bb hb F.secs F.held _ k at_ n kind hw hk hS hz hn0 hn8 hwd hat h
  · rw [FP.load, if_neg he]
    rw [FP.loadE] at he ⊢
    by_cases ha : asked F.held f = 0
    · obtain ⟨k, rfl, hk, hz⟩ := asked_ok ha
      rw [if_pos ha] at he ⊢
      by_cases hwd : widthOf kind = 0
      · rw [if_pos hwd]
        exact load_kind w p bb hb F.secs F.held _ k a kind hw hk hz hwd h
      · rw [if_neg hwd] at he ⊢
        by_cases hi : withinB a (widthOf kind) 64 = true
        · rw [if_pos hi] at he; exact absurd rfl he
        · rw [if_neg hi]
          exact load_far w p bb hb F.secs F.held _ k a _ kind hw hk hz hwd rfl (by simpa using hi) h
    · rw [if_neg ha]
      exact load_bad w p bb hb F.secs F.held _ f a kind ha h
theorem store_any (w : World) (p bb hb : Nat) (F : FP) (f a kind x : Int) (hw : Wd w) (hx0 : 0 ≤ x) (hx1 : x < 18446744073709551616) (h : IsPool w p bb hb F) :
    Calls Tryd.prog 21 #[.pointer (some ⟨p, 0, none⟩), .int .i64 f, .int .i64 a, .int .i64 kind, .int .u64 x] w fun e w' => e = .returned (.int .i64 (F.loadE f a kind)) ∧ IsPool w' p bb hb (F.store f a kind x) ∧ Mods [p, bb, hb] w w' := by
  by_cases he : F.loadE f a kind = 0
  · obtain ⟨k, at_, n, rfl, rfl, hwd, hn0, hn8, hat, hk, hz⟩ := loadE_ok he
    have hS : k < F.secs.length := by rw [h.len]; exact hk
    rw [FP.store, if_pos he, he, FP.sec_nat hS]
    rw [Int.toNat_natCast, Int.toNat_natCast, hwd, Int.toNat_natCast]
    exact store_ok w p bb hb F.secs F.held _ k at_ n kind x hw hx0 hx1 hk hS hz hn0 hn8 hwd hat h
  · rw [FP.store, if_neg he]
    have back : ∀ {e : Ending} {w' : World} {v : Int}, (e = .returned (.int .i64 v) ∧ Below w.heap.size w w') → e = .returned (.int .i64 v) ∧ IsPool w' p bb hb F ∧ Mods [p, bb, hb] w w' := fun hh => ⟨hh.1, h.below hh.2 (Nat.le_refl _), Mods.of_below hh.2⟩
    rw [FP.loadE] at he ⊢
    by_cases ha : asked F.held f = 0
    · obtain ⟨k, rfl, hk, hz⟩ := asked_ok ha
      rw [if_pos ha] at he ⊢
      by_cases hwd : widthOf kind = 0
      · rw [if_pos hwd]
        exact (store_kind w p bb hb F.secs F.held _ k a kind x hw hk hz hwd h).mono fun _ _ hh => back hh
      · rw [if_neg hwd] at he ⊢
        by_cases hi : withinB a (widthOf kind) 64 = true
        · rw [if_pos hi] at he; exact absurd rfl he
        · rw [if_neg hi]
          exact (store_far w p bb hb F.secs F.held _ k a _ kind x hw hk hz hwd rfl (by simpa using hi) h).mono fun _ _ hh => back hh
    · rw [if_neg ha]
      exact (store_bad w p bb hb F.secs F.held _ f a kind x ha h).mono fun _ _ hh => back hh
theorem firstFree_at {H : List Int} (hf : firstFree H < H.length) : H[firstFree H] = 0 := eq_of_beq (List.findIdx_getElem (p := fun x : Int => x == 0) (xs := H) (w := hf))
theorem firstFree_lt {H : List Int} {j : Nat} (hj : j < firstFree H) (hl : j < H.length) : H[j] ≠ 0 := by
  intro e
  have := List.not_of_lt_findIdx (p := fun x : Int => x == 0) (xs := H) hj
  simp [e] at this
theorem copy_any (w : World) (p bb hb : Nat) (F : FP) (f : Int) (h : IsPool w p bb hb F) :
    Calls Tryd.prog 20 #[.pointer (some ⟨p, 0, none⟩), .int .i64 f] w fun e w' => e = .returned (.tuple #[.int .i64 (F.copy f).1, .int .i64 (F.copy f).2.1]) ∧ IsPool w' p bb hb (F.copy f).2.2 ∧ Mods [p, bb, hb] w w' := by
  by_cases ha : asked F.held f = 0
  · obtain ⟨k, rfl, hk, hz⟩ := asked_ok ha
    have hS : k < F.secs.length := by rw [h.len]; exact hk
    rw [FP.copy, if_pos ha, FP.sec_nat hS]
    by_cases hf : firstFree F.held < F.held.length
    · rw [if_pos hf]
      have h1 := frees_pos.2 hf
      have h2 := frees_le F.held
      have h3 := h.small
      have h4 := frees_set hf 1
      rw [if_pos (firstFree_at hf), if_neg (by omega)] at h4
      refine (copy_ok w p bb hb F.secs F.held _ k _ hk hS hz hf (firstFree_at hf) (fun i hi => firstFree_lt hi (by omega)) (by omega) h).mono ?_
      rintro e w' ⟨he, hp, hm⟩
      refine ⟨he, ?_, hm⟩
      show PA _ _ _ _ _ _ _
      rw [h4]
      simpa using hp
    · rw [if_neg hf]
      have h1 : frees F.held = 0 := by
        have := frees_pos (H := F.held)
        omega
      have h' : PA w p bb hb F.secs F.held 0 := by
        have := h
        rwa [IsPool, h1] at this
      refine (copy_full w p bb hb F.secs F.held k hk hz h').mono ?_
      rintro e w' ⟨he, hm⟩
      exact ⟨he, h.below hm (Nat.le_refl _), Mods.of_below hm⟩
  · rw [FP.copy, if_neg ha]
    refine (copy_bad w p bb hb F.secs F.held _ f ha h).mono ?_
    rintro e w' ⟨he, hm⟩
    exact ⟨he, h.below hm (Nat.le_refl _), Mods.of_below hm⟩
end Go.Proofs.YtacpfkimjaihgaaDoor
