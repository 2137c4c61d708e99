/- What laws of layer 5 share: which slot is free, a put and a get that go well, the chapter's example. -/
import Derived.Test.YtbcpnfkjncpdcaaAreaPut
import Derived.Test.YtbcpnfkjncpdcaaAreaGet
import Derived.Test.YtbcpnfkjncpdcaaPage
namespace Go.Proofs.Ytbcpnfkjncpdcaa
open Go.RowKit

theorem free_cases (held : List Int) : (∃ (k : Nat) (hk : k < held.length), held[k] = 0 ∧ ∀ j (h : j < k), held[j] ≠ 0) ∨ ∀ j (h : j < held.length), held[j] ≠ 0 := by
  induction held with
  | nil => right; intro j h; exact absurd h (by simp)
  | cons a l ih =>
    by_cases ha : a = 0
    · exact .inl ⟨0, by simp, by simp [ha], fun j h => absurd h (by omega)⟩
    · rcases ih with ⟨k, hk, hz, hb⟩ | hb
      · refine .inl ⟨k + 1, by simpa using hk, by simpa using hz, fun j h => ?_⟩
        cases j with
        | zero => simpa using ha
        | succ j => simpa using hb j (by omega)
      · refine .inr fun j h => ?_
        cases j with
        | zero => simpa using ha
        | succ j => simpa using hb j (by simpa using h)

/-- The disk behind a text at a place that may be written. -/
def DM.put (D : DM) (z : Int) (p : ByteArray) : DM := { D with secs := D.secs.set z.toNat p.data.toList, writes := D.writes + 1 }
theorem DM.wr_good {D : DM} {z : Int} {p : ByteArray} (h0 : 0 ≤ z) (h1 : z < D.secs.length) (hs : D.sealed_ ≤ z) (hp : p.size = 64) : D.wr z p = (0, D.put z p) := by
  unfold DM.wr DM.put
  rw [if_neg (by omega), if_neg (by omega), if_neg (by omega)]
theorem put_good (w : World) (a hb d bb : Nat) (A : SA) (p : ByteArray) (k : Nat) (hp : p.size = 64) (hk : k < A.held.length) (hz : A.held[k] = 0) (hall : ∀ j (h : j < k), A.held[j] ≠ 0) (hf : 0 ≤ A.first ∧ A.first + k < A.D.secs.length)
    (hse : A.D.sealed_ ≤ A.first + k) (hw : 0 ≤ A.D.writes ∧ A.D.writes ≤ 1000000) (hu : 0 ≤ A.used ∧ A.used ≤ 1000000) (h : IsArea w a hb d bb A) :
    Calls Try.prog 34 #[.pointer (some ⟨a, 0, none⟩), .string p] w fun e w' => 
      e = .returned (.tuple #[.int .i64 k, .int .i64 0]) ∧ IsArea w' a hb d bb ⟨A.D.put (A.first + k) p, A.first, A.held.set k 1, A.used + 1⟩ ∧ Mods [a, hb, d, bb] w w' := by
  have hsm := h.disk.small
  refine (put_at w a hb d bb A p k hp hk hz hall ⟨hf.1, by omega⟩ hw hu h).mono fun e w' ⟨er, D2, hq, he, hA, hm⟩ => ?_
  have := hq.out
  rw [DM.wr_good (by omega) hf.2 hse hp] at this
  simp only [Prod.mk.injEq] at this
  obtain ⟨rfl, rfl⟩ := this
  rw [if_pos rfl] at he hA
  exact ⟨he, hA, hm⟩
/-- The disk behind a read. -/
def DM.got (D : DM) : DM := { D with reads := D.reads + 1 }
theorem get_good (w : World) (a hb d bb : Nat) (A : SA) (k z : Nat) (hk : k < A.held.length) (hne : A.held[k] ≠ 0) (h0 : 0 ≤ A.first) (hz : A.first + k = z) (hl : z < A.D.secs.length) (hr : 0 ≤ A.D.reads ∧ A.D.reads ≤ 1000000) (h : IsArea w a hb d bb A) :
    Calls Try.prog 38 #[.pointer (some ⟨a, 0, none⟩), .int .i64 k] w fun e w' => e = .returned (.tuple #[.string ⟨(A.D.secs[z]).toArray⟩, .int .i64 0]) ∧
      IsArea w' a hb d bb { A with D := A.D.got } ∧ Mods [a, hb, d, bb] w w' := by
  have hsm := h.disk.small
  refine (get_ok w a hb d bb A k hk hne ⟨h0, by omega⟩ hr h).mono fun e w' ⟨s, er, D2, hq, he, hA, hm⟩ => ?_
  have := hq.out
  unfold DM.rd at this
  rw [if_neg (by omega), hz, Int.toNat_natCast] at this
  have hg : A.D.secs.getD z [] = A.D.secs[z] := by simp [List.getD, hl]
  rw [hg] at this
  simp only [Prod.mk.injEq] at this
  obtain ⟨rfl, rfl, rfl⟩ := this
  exact ⟨he, hA, hm⟩

set_option maxRecDepth 100000 in
set_option maxHeartbeats 1000000 in
theorem awake5 (w : World) : Calls Try.prog 31 #[] w fun e w' => e = .returned (.bool true) ∧ Below w.heap.size w w' := by
  go_enter Try.func31, Try.ntmps31
  go_wp2_with fail
  refine (new_ok _ 10 (by omega) (by omega)).mono ?_
  rintro e w1 ⟨d, bb, rfl, hd, hbb, hD, hb1⟩
  have HD := Lib.hid hD
  have z1 := hb1.size
  clear hD
  go_wp2_with fail
  refine (area_new w1 d bb _ 2 4 (by omega) (by omega) (by simp [newDM]) HD.out).mono ?_
  rintro e w2 ⟨a, hb, rfl, ha, hhb, hA2, hb2⟩
  have HA2 := Lib.hid hA2
  have b2 : Below w.heap.size w w2 := hb1.trans (hb2.mono z1)
  have z2 := b2.size
  clear hA2 hb2 HD
  go_wp2_with fail
  refine (page_any w2 1).mono ?_
  rintro e w3 ⟨rfl, hb3⟩
  have HA3 := Lib.hid (HA2.out.below hb3 (Nat.le_refl _))
  have b3 := b2.trans (hb3.mono z2)
  clear HA2 hb3
  have hp1 := pageB_size 1
  generalize pageB 1 = p1 at *
  go_wp2_with fail
  refine (put_good w3 a hb d bb _ p1 0 hp1 (by simp) (by simp) (fun j h => absurd h (by omega)) (by simp [newDM]) (by simp [newDM]) (by simp [newDM]) (by simp) HA3.out).mono ?_
  rintro e w4 ⟨rfl, hA4, hm4⟩
  have HA4 := Lib.hid hA4
  have b4 : Below w.heap.size w w4 := below_after b3 hm4 b3.size (by simp; omega)
  have z4 := b4.size
  clear hA4 hm4 HA3
  go_wp2_with fail
  refine (page_any w4 2).mono ?_
  rintro e w5 ⟨rfl, hb5⟩
  have HA5 := Lib.hid (HA4.out.below hb5 (Nat.le_refl _))
  have b5 := b4.trans (hb5.mono z4)
  clear HA4 hb5
  have hp2 := pageB_size 2
  generalize pageB 2 = p2 at *
  go_wp2_with fail
  refine (put_good w5 a hb d bb _ p2 1 hp2 (by simp) (by simp) (fun j h => by have : j = 0 := (by omega); subst this; simp) (by simp [newDM, DM.put]) (by simp [newDM, DM.put]) (by simp [newDM, DM.put]) (by simp) HA5.out).mono ?_
  rintro e w6 ⟨rfl, hA6, hm6⟩
  have HA6 := Lib.hid hA6
  have b6 : Below w.heap.size w w6 := below_after b5 hm6 b5.size (by simp; omega)
  have z6 := b6.size
  clear hA6 hm6 HA5
  go_wp2_with fail
  refine (free_ok w6 a hb d bb _ 0 (by simp) (by simp) (by simp) HA6.out).mono ?_
  rintro e w7 ⟨rfl, hA7, hm7⟩
  have HA7 := Lib.hid hA7
  have b7 : Below w.heap.size w w7 := below_after b6 hm7 b6.size (by simp; omega)
  have z7 := b7.size
  clear hA7 hm7 HA6
  go_wp2_with fail
  refine (page_any w7 3).mono ?_
  rintro e w8 ⟨rfl, hb8⟩
  have HA8 := Lib.hid (HA7.out.below hb8 (Nat.le_refl _))
  have b8 := b7.trans (hb8.mono z7)
  clear HA7 hb8
  have hp3 := pageB_size 3
  generalize pageB 3 = p3 at *
  go_wp2_with fail
  refine (put_good w8 a hb d bb _ p3 0 hp3 (by simp) (by simp) (fun j h => absurd h (by omega)) (by simp [newDM, DM.put]) (by simp [newDM, DM.put]) (by simp [newDM, DM.put]) (by simp) HA8.out).mono ?_
  rintro e w9 ⟨rfl, hA9, hm9⟩
  have b9 : Below w.heap.size w w9 := below_after b8 hm9 b8.size (by simp; omega)
  clear hA9 hm9 HA8
  go_wp2_with fail
  go_ret
  exact ⟨rfl, b9⟩
end Go.Proofs.Ytbcpnfkjncpdcaa
