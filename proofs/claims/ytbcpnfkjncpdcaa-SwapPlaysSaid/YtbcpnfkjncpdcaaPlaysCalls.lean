/- The calls of an area beside the document's: what each answers, by what the slots hold. -/
import Derived.Test.YtbcpnfkjncpdcaaKeepsLib
import Derived.Test.YtbcpnfkjncpdcaaPlaysOpen
namespace Go.Proofs.Ytbcpnfkjncpdcaa
open Go.RowKit Go.ChangeShapes Go.WideShapes Go.ChangeAt Go.Deep

structure OpS where
  kind : Int
  n : Int
  slot : Int
  short : Bool
def OpsSAt (w : World) (a : Option Addr) (L : List OpS) : Prop :=
  ∀ i (h : i < L.length), ∃ b off, a = some ⟨b, off, none⟩ ∧ w.cell? ⟨b, off + i * 4, none⟩ = some (.int .i64 L[i].kind) ∧ w.cell? ⟨b, off + i * 4 + 1, none⟩ = some (.int .i64 L[i].n) ∧
    w.cell? ⟨b, off + i * 4 + 2, none⟩ = some (.int .i64 L[i].slot) ∧ w.cell? ⟨b, off + i * 4 + 3, none⟩ = some (.bool L[i].short)
section
variable {H : Type} {enc : TypeId × Value → H} {w : World} {base : Nat} {spare : Nat → Bool} {held : Bool}
theorem open_opsS {fuel : Nat} {a : Option Addr} {len cap : Nat} {x : DataW H × List MemPlace} (h : DataW.trod enc Try.prog w base spare held fuel 70 [.slice a len cap] = some x) :
    len ≤ cap ∧ cap ≤ maxLen ∧ ∃ L : List OpS, L.length = len ∧ OpsSAt w a L := by
  rcases open_slice_fields Try.underlying70 Try.underlying74 (by kernel_rfl) (by kernel_rfl) h with ⟨hcs, _⟩ | ⟨b, l, c, m, D, Pl, hcs, _, hl, hm, hmm, _, hi⟩
  · simp at hcs
    obtain ⟨rfl, rfl, rfl⟩ := hcs
    exact ⟨by omega, by simp [maxLen], [], rfl, fun i hi => absurd hi (by simp)⟩
  · simp at hcs
    obtain ⟨rfl, rfl, rfl⟩ := hcs
    have hlm : len ≤ m := by rw [hmm]; split <;> omega
    have hc : ∀ i, i < len → ∃ o : OpS, w.cell? (b.add (i * 4 + 0)) = some (.int .i64 o.kind) ∧ w.cell? (b.add (i * 4 + 1)) = some (.int .i64 o.n) ∧ w.cell? (b.add (i * 4 + 2)) = some (.int .i64 o.slot) ∧ w.cell? (b.add (i * 4 + 3)) = some (.bool o.short) := by
      intro i hil
      obtain ⟨ys, n, _, _, hys, hf⟩ := hi i (by omega)
      obtain ⟨v0, y0, c0, _, t0⟩ := hf 0 _ rfl
      obtain ⟨v1, y1, c1, _, t1⟩ := hf 1 _ rfl
      obtain ⟨v2, y2, c2, _, t2⟩ := hf 2 _ rfl
      obtain ⟨v3, y3, c3, _, t3⟩ := hf 3 _ rfl
      obtain ⟨n0, e0, _, _⟩ := DataW.trod_int Try.underlying3 t0
      obtain ⟨n1, e1, _, _⟩ := DataW.trod_int Try.underlying3 t1
      obtain ⟨n2, e2, _, _⟩ := DataW.trod_int Try.underlying3 t2
      obtain ⟨n3, e3, _⟩ := DataW.trod_bool Try.underlying4 t3
      simp only [List.cons.injEq, and_true] at e0 e1 e2 e3
      subst e0 e1 e2 e3
      exact ⟨⟨n0, n1, n2, n3⟩, c0, c1, c2, c3⟩
    obtain ⟨L, hL, hP⟩ := list_choose len hc
    refine ⟨hl, hm, L, hL, fun i hi => ?_⟩
    have hs := hP i hi
    have hs0 := hP 0 (by omega)
    obtain ⟨bb, off, spot⟩ := b
    have hsp : spot = none := by simpa [Addr.add] using World.cell?_spot hs0.1
    subst hsp
    have hadd : ∀ j, (⟨bb, off, none⟩ : Addr).add (i * 4 + j) = ⟨bb, off + i * 4 + j, none⟩ := by
      intro j
      unfold Addr.add
      split <;> simp_all <;> omega
    simp only [hadd] at hs
    exact ⟨bb, off, rfl, hs⟩
end

theorem askedOf_out {held : List Int} {s : Int} (h : s < 0 ∨ (held.length : Int) ≤ s) : askedOf held s = 14 := by rw [askedOf, if_pos h]
theorem askedOf_at {held : List Int} {k : Nat} (hk : k < held.length) : askedOf held k = if held[k] = 0 then 13 else 0 := by
  rw [askedOf, if_neg (by omega), Int.toNat_natCast, List.getD_eq_getElem?_getD, List.getElem?_eq_getElem hk]
  rfl
section
variable (w : World) (a hb d bb : Nat) (D : DM) (held : List Int) (S : List ByteArray) (n t : Nat)
theorem getP (s : Int) (HK : KeptP D held S n t) (hn : n ≤ 15) (hr : 0 ≤ D.reads ∧ D.reads ≤ 1000000) (h : IsArea w a hb d bb ⟨D, 3, held, usedOf held⟩) :
    Calls Try.prog 38 #[.pointer (some ⟨a, 0, none⟩), .int .i64 s] w fun e w' => ∃ E : DM, e = .returned (.tuple #[.string (if askedOf held s = 0 then S.getD s.toNat ⟨#[]⟩ else ⟨#[]⟩), .int .i64 (askedOf held s)]) ∧
      KeptP E held S n t ∧ (D.reads ≤ E.reads ∧ E.reads ≤ D.reads + 1 ∧ E.writes = D.writes) ∧ IsArea w' a hb d bb ⟨E, 3, held, usedOf held⟩ ∧ Mods [a, hb, d, bb] w w' := by
  by_cases h1 : s < 0 ∨ (held.length : Int) ≤ s
  · rw [askedOf_out h1]
    exact (get_out w a held.length held.length (some ⟨hb, 0, none⟩) s h1 h.small h.c2).mono fun e w' ⟨he, hm⟩ => ⟨D, he, HK, ⟨Int.le_refl _, by omega, rfl⟩, h.below hm (Nat.le_refl _), Mods.of_below hm⟩
  · obtain ⟨k, rfl⟩ := Int.eq_ofNat_of_zero_le (show 0 ≤ s by omega)
    have hk : k < held.length := by omega
    rw [askedOf_at hk, Int.toNat_natCast]
    by_cases hz : held[k] = 0
    · rw [if_pos hz]
      exact (get_zero w a hb d bb _ k hk hz h).mono fun e w' ⟨he, hm⟩ => ⟨D, he, HK, ⟨Int.le_refl _, by omega, rfl⟩, h.below hm (Nat.le_refl _), Mods.of_below hm⟩
    · rw [if_neg hz, if_pos rfl]
      have hlen := HK.2.1
      have hsl : 3 + k < D.secs.length := by rw [HK.1]; omega
      refine (get_good w a hb d bb _ k (3 + k) hk hz (by simp) (by simp) hsl hr h).mono fun e w' ⟨he, hA, hm⟩ => ?_
      rw [HK.sec hk hz hsl] at he
      exact ⟨D.got, he, keptP_reads HK rfl rfl, ⟨by simp only [DM.got]; omega, by simp only [DM.got]; omega, rfl⟩, hA, hm⟩
theorem holdP_no (s : Int) (hz : askedOf held s ≠ 0) (h : IsArea w a hb d bb ⟨D, 3, held, usedOf held⟩) :
    Calls Try.prog 40 #[.pointer (some ⟨a, 0, none⟩), .int .i64 s] w fun e w' => e = .returned (.int .i64 (askedOf held s)) ∧ Below w.heap.size w w' := by
  by_cases h1 : s < 0 ∨ (held.length : Int) ≤ s
  · rw [askedOf_out h1]
    exact hold_out w a held.length held.length (some ⟨hb, 0, none⟩) s h1 h.small h.c2
  · obtain ⟨k, rfl⟩ := Int.eq_ofNat_of_zero_le (show 0 ≤ s by omega)
    have hk : k < held.length := by omega
    rw [askedOf_at hk] at hz ⊢
    by_cases h0 : held[k] = 0
    · rw [if_pos h0]
      exact hold_zero w a hb d bb _ k hk h0 h
    · rw [if_neg h0] at hz
      exact absurd rfl hz
theorem freeP_no (s : Int) (hz : askedOf held s ≠ 0) (h : IsArea w a hb d bb ⟨D, 3, held, usedOf held⟩) :
    Calls Try.prog 37 #[.pointer (some ⟨a, 0, none⟩), .int .i64 s] w fun e w' => e = .returned (.int .i64 (askedOf held s)) ∧ Below w.heap.size w w' := by
  by_cases h1 : s < 0 ∨ (held.length : Int) ≤ s
  · rw [askedOf_out h1]
    exact free_out w a held.length held.length (some ⟨hb, 0, none⟩) s h1 h.small h.c2
  · obtain ⟨k, rfl⟩ := Int.eq_ofNat_of_zero_le (show 0 ≤ s by omega)
    have hk : k < held.length := by omega
    rw [askedOf_at hk] at hz ⊢
    by_cases h0 : held[k] = 0
    · rw [if_pos h0]
      exact free_zero w a hb d bb _ k hk h0 h
    · rw [if_neg h0] at hz
      exact absurd rfl hz
theorem holdP_ok (k : Nat) (hk : k < held.length) (hz : 0 < held[k] ∧ held[k] ≤ 1000000) (h : IsArea w a hb d bb ⟨D, 3, held, usedOf held⟩) :
    Calls Try.prog 40 #[.pointer (some ⟨a, 0, none⟩), .int .i64 k] w fun e w' => e = .returned (.int .i64 0) ∧ IsArea w' a hb d bb ⟨D, 3, held.set k (held[k] + 1), usedOf (held.set k (held[k] + 1))⟩ ∧ Mods [a, hb, d, bb] w w' := by
  refine (hold_ok w a hb d bb _ k hk hz h).mono fun e w' ⟨he, hA, hm⟩ => ⟨he, ?_, hm⟩
  rw [usedOf_set hk, if_pos hz.1, if_pos (by omega), show usedOf held - 1 + 1 = usedOf held by omega]
  exact hA
theorem freeP_ok (k : Nat) (hk : k < held.length) (hz : 0 < held[k] ∧ held[k] ≤ 1000000) (h : IsArea w a hb d bb ⟨D, 3, held, usedOf held⟩) :
    Calls Try.prog 37 #[.pointer (some ⟨a, 0, none⟩), .int .i64 k] w fun e w' => e = .returned (.int .i64 0) ∧ IsArea w' a hb d bb ⟨D, 3, held.set k (held[k] + -1), usedOf (held.set k (held[k] + -1))⟩ ∧ Mods [a, hb, d, bb] w w' := by
  have hu := usedOf_le held
  have hs := h.small
  refine (free_ok w a hb d bb _ k hk hz ⟨hu.1, by simp only at hs ⊢; omega⟩ h).mono fun e w' ⟨he, hA, hm⟩ => ⟨he, ?_, hm⟩
  have hus : usedOf (held.set k (held[k] + -1)) = if held[k] = 1 then usedOf held - 1 else usedOf held := by
    rw [usedOf_set hk, if_pos hz.1]
    by_cases h1 : held[k] = 1
    · rw [if_pos h1, if_neg (by omega)]; omega
    · rw [if_neg h1, if_pos (by omega)]; omega
  rw [hus]
  exact hA
theorem putP (p : ByteArray) (k : Nat) (hp : p.size = 64) (hk : k < held.length) (hz : held[k] = 0) (hall : ∀ j (h : j < k), held[j] ≠ 0) (HK : KeptP D held S n t) (hn : n ≤ 15)
    (hw : 0 ≤ D.writes ∧ D.writes ≤ 1000000) (h : IsArea w a hb d bb ⟨D, 3, held, usedOf held⟩) :
    Calls Try.prog 34 #[.pointer (some ⟨a, 0, none⟩), .string p] w fun e w' => e = .returned (.tuple #[.int .i64 k, .int .i64 0]) ∧ IsArea w' a hb d bb ⟨D.put (3 + (k : Int)) p, 3, held.set k 1, usedOf (held.set k 1)⟩ ∧ Mods [a, hb, d, bb] w w' := by
  have hu := usedOf_le held
  have hs := h.small
  have hlen := HK.2.1
  refine (put_good w a hb d bb _ p k hp hk hz hall ⟨by simp, by simp only [HK.1]; omega⟩ (by simp only [HK.2.2.2.1]; omega) hw ⟨hu.1, by simp only at hs ⊢; omega⟩ h).mono fun e w' ⟨he, hA, hm⟩ => ⟨he, ?_, hm⟩
  rw [usedOf_set hk, if_neg (by omega), if_pos (by omega), show usedOf held - 0 + 1 = usedOf held + 1 by omega]
  exact hA
theorem putP_full (p : ByteArray) (hp : p.size = 64) (hall : ∀ j (h : j < held.length), held[j] ≠ 0) (h : IsArea w a hb d bb ⟨D, 3, held, usedOf held⟩) :
    Calls Try.prog 34 #[.pointer (some ⟨a, 0, none⟩), .string p] w fun e w' => e = .returned (.tuple #[.int .i64 0, .int .i64 15]) ∧ w = w' :=
  put_full w a (some ⟨hb, 0, none⟩) held.length held.length p hp h.small h.c2 (fun k hk => ⟨hb, held[k], rfl, hall k hk, h.at (k := k) hk⟩)
end
end Go.Proofs.Ytbcpnfkjncpdcaa
