/- block.Of: a disk with these sectors, each filled or cut; flyleaflaw03.sector, short, awake. -/
import Derived.Test.YtbcpnfkjncpdcaaNew
namespace Go.Proofs.Ytbcpnfkjncpdcaa
open Go.RowKit

/-- The slice's elements are these texts. -/
def StrsAt (w : World) (a : Option Addr) (ss : List ByteArray) : Prop :=
  ∀ i (h : i < ss.length), ∃ b off, a = some ⟨b, off, none⟩ ∧ w.cell? ⟨b, off + i, none⟩ = some (.string ss[i])
theorem StrsAt.below {B : Nat} {w w' : World} {a : Option Addr} {ss : List ByteArray} (h : StrsAt w a ss) (hb : Below B w w') (hB : w.heap.size ≤ B) : StrsAt w' a ss := by
  intro i hi
  obtain ⟨b, off, ha, hc⟩ := h i hi
  refine ⟨b, off, ha, ?_⟩
  have := World.block_lt_of_cell? w _ hc
  exact (hb.cell (p := ⟨b, off + i, none⟩) (by simp at this ⊢; omega)).trans hc

def fill64 (s : ByteArray) : List UInt8 := s.data.toList.take 64 ++ zeroSec.drop (s.data.toList.take 64).length
theorem fill64_length (s : ByteArray) : (fill64 s).length = 64 := by
  simp only [fill64, zeroSec, List.length_append, List.length_drop, List.length_replicate, List.length_take]
  omega
theorem splice_part : ∀ (l : List (List UInt8)), (∀ s ∈ l, s.length = 64) → ∀ k (hk : k < l.length) (x : List UInt8), x.length ≤ 64 → splice (bv l.flatten) (k * 64) (bv x) = bv (l.set k (x ++ l[k].drop x.length)).flatten := by
  intro l
  induction l with
  | nil => intro _ k h; exact absurd h (by simp)
  | cons a l ih =>
    intro h k hk x hx
    have ha := h a (by simp)
    cases k with
    | zero =>
      simp only [splice, Nat.zero_mul, List.take_zero, List.nil_append, Nat.zero_add, bv_length, List.set_cons_zero, List.flatten_cons, bv_append, List.getElem_cons_zero]
      rw [List.drop_append_of_le_length (by rw [bv_length]; omega), ← bv_drop, List.append_assoc]
    | succ k =>
      have := ih (fun s hs => h s (by simp [hs])) k (by simpa using hk) x hx
      simp only [splice, bv_length, List.set_cons_succ, List.flatten_cons, bv_append, List.getElem_cons_succ] at this ⊢
      rw [← this, show (k + 1) * 64 = (bv a).length + k * 64 from by rw [bv_length]; omega, List.take_length_add_append, show (bv a).length + k * 64 + x.length = (bv a).length + (k * 64 + x.length) from by omega, List.drop_length_add_append, List.append_assoc]

def ofSecs (ss : List ByteArray) (k : Nat) : List (List UInt8) := (ss.take k).map fill64 ++ List.replicate (ss.length - k) zeroSec
theorem ofSecs_zero (ss : List ByteArray) : ofSecs ss 0 = List.replicate ss.length zeroSec := by simp [ofSecs]
theorem ofSecs_all (ss : List ByteArray) : ofSecs ss ss.length = ss.map fill64 := by simp [ofSecs]
theorem ofSecs_length (ss : List ByteArray) (k : Nat) (h : k ≤ ss.length) : (ofSecs ss k).length = ss.length := by simp [ofSecs]; omega
theorem ofSecs_get (ss : List ByteArray) (k : Nat) (h : k < ss.length) (h' : k < (ofSecs ss k).length) : (ofSecs ss k)[k] = zeroSec := by
  simp only [ofSecs]
  rw [List.getElem_append_right (by simp; omega)]
  simp
theorem ofSecs_succ (ss : List ByteArray) (k : Nat) (h : k < ss.length) : (ofSecs ss k).set k (fill64 ss[k]) = ofSecs ss (k + 1) := by
  simp only [ofSecs]
  rw [List.set_append_right _ _ (by simp; omega), List.take_succ_eq_append_getElem h, List.map_append, List.append_assoc]
  congr 1
  rw [show ss.length - k = (ss.length - (k + 1)) + 1 from by omega, List.replicate_succ]
  have : k - (List.map fill64 (List.take k ss)).length = 0 := by simp; omega
  rw [this]
  simp

set_option maxHeartbeats 400000 in
theorem sector_at (w : World) (d bb n k : Nat) (hk : k < n) (hn : n ≤ 16384) (h : w.cell? ⟨d, 0, none⟩ = some (.slice (some ⟨bb, 0, none⟩) (n * 64) (n * 64))) :
    Calls Try.prog 47 #[.pointer (some ⟨d, 0, none⟩), .int .i64 (k : Int)] w fun e w' => e = .returned (.slice (some ⟨bb, k * 64, none⟩) 64 64) ∧ w = w' := by
  have h1 : k * 64 + 64 ≤ n * 64 := by omega
  go_enter Try.func47, Try.ntmps47
  go_wp2
  go_ret
  refine ⟨?_, rfl⟩
  show Ending.returned (.slice (some ⟨bb, k * 64, none⟩) (k * 64 + 64 - k * 64) (k * 64 + 64 - k * 64)) = _
  rw [show k * 64 + 64 - k * 64 = 64 from by omega]

set_option maxHeartbeats 1000000 in
theorem of_ok (w : World) (a : Option Addr) (n c : Nat) (ss : List ByteArray) (hl : ss.length = n) (h0 : 1 ≤ n) (h1 : n ≤ 16384) (hs : StrsAt w a ss) :
    Calls Try.prog 17 #[.slice a n c] w fun e w' => ∃ d bb, e = .returned (.pointer (some ⟨d, 0, none⟩)) ∧ w.heap.size ≤ d ∧ w.heap.size ≤ bb ∧ IsDisk w' d bb ⟨ss.map fill64, 0, 0, 0⟩ ∧ Below w.heap.size w w' := by
  have HL := Lib.hid hl
  clear hl
  go_enter Try.func17, Try.ntmps17
  go_wp2_with fail
  refine (new_ok _ _ (by omega) (by omega)).mono ?_
  rintro e w1 ⟨d, bb, rfl, hd, hb, hD, hb1⟩
  have HD := Lib.hid hD
  clear hD
  go_wp2_with fail
  go_loopw [13] (fun i wr => ∃ k : Nat, k ≤ n ∧ i = .int .i64 k ∧ IsDisk wr d bb ⟨ofSecs ss k, 0, 0, 0⟩ ∧ Below w.heap.size w wr) (fun i _ => n - (intOf i).toNat)
  case atStart =>
    refine ⟨0, by omega, rfl, ?_, hb1⟩
    rw [ofSecs_zero, HL.out]
    exact HD.out
  case round =>
    obtain ⟨k, hk, rfl, hD, hbel⟩ := hrel
    have hsl : (ofSecs ss k).length = n := by rw [ofSecs_length _ _ (by rw [HL.out]; exact hk), HL.out]
    by_cases hlt : k < n
    · have hks : k < ss.length := by rw [HL.out]; exact hlt
      obtain ⟨b1, o1, rfl, hc⟩ := hs k hks
      have g1 := (hbel.cell (p := ⟨b1, o1 + k, none⟩) (World.block_lt_of_cell? w _ hc)).trans hc
      have c0 := hD.c0
      simp only [hsl] at c0
      have hsucc := ofSecs_succ ss k hks
      have hget := ofSecs_get ss k hks (by rw [hsl]; exact hlt)
      have hsp := splice_part (ofSecs ss k) hD.each k (by rw [hsl]; exact hlt) (ss[k].data.toList.take 64) (by rw [List.length_take]; omega)
      rw [hget] at hsp
      have hfe : ss[k].data.toList.take 64 ++ List.drop (ss[k].data.toList.take 64).length zeroSec = fill64 ss[k] := rfl
      rw [hfe, hsucc] at hsp
      clear hc hget hsucc hfe
      obtain ⟨str, hstr⟩ : ∃ str, str = ss[k] := ⟨_, rfl⟩
      rw [← hstr] at g1 hsp
      clear hstr
      have HSP := Lib.hid hsp
      have HD2 := Lib.hid hD
      have HSL := Lib.hid hsl
      clear hD hsp hsl hs
      have hdlt := lt_of_block HD2.out.head
      go_wp2_with (first | (go_at_call 47; refine (sector_at _ d bb n k hlt h1 c0).mono ?_; rintro e w' ⟨rfl, rfl⟩) | (refine wpList_copy_string (o := ⟨some 22, _, _, _, _, _⟩) _ rfl _ _ 51 9 rfl 5 Try.underlying51 Try.info5s bb (k * 64) 64 64 str rfl rfl (bv (ofSecs ss k).flatten) 5 ?_ (str.data.toList.take 64) rfl ?_ ?_; rotate_right; intro w2 hrow hmod hsz))
      · go_roundw
        case rel =>
          refine ⟨k + 1, by omega, by go_num, ⟨?_, ?_, ?_, ?_⟩, hbel.trans (hmod.below (by have := hbel.size; omega) (by simp; exact hb))⟩
          · have hl2 : (ofSecs ss (k + 1)).length = n := by rw [ofSecs_length _ _ (by rw [HL.out]; omega), HL.out]
            rw [hmod.block d (lt_of_block HD2.out.head) (by simp [HD2.out.ne]), HD2.out.head]
            simp only [HSL.out, hl2]
          · rw [hrow, HSP.out]
          · intro x hx
            simp only [ofSecs, List.mem_append, List.mem_map, List.mem_replicate] at hx
            rcases hx with ⟨y, _, rfl⟩ | ⟨_, rfl⟩
            · exact fill64_length _
            · rfl
          · show (ofSecs ss (k + 1)).length ≤ _
            rw [ofSecs_length _ _ (by rw [HL.out]; omega), HL.out]; exact h1
        case measure => simp [intOf]; omega
      · exact HD2.out.row
      · rw [bv_length, flat_length _ HD2.out.each, HSL.out, List.length_take]; omega
    · have hkn : k = n := by omega
      subst hkn
      have HD2 := Lib.hid hD
      clear hD
      go_wp2
      go_ret
      refine ⟨d, bb, rfl, hd, hb, ?_, hbel⟩
      have := HD2.out
      rw [← HL.out, ofSecs_all] at this
      exact this
theorem of_none (w : World) (a : Option Addr) (c : Nat) : Calls Try.prog 17 #[.slice a 0 c] w fun e w' => e = .returned (.pointer none) ∧ w = w' := by
  go_enter Try.func17, Try.ntmps17
  go_wp2_with fail
  refine (new_no _ _ (.inl (by omega))).mono ?_
  rintro e w1 ⟨rfl, rfl⟩
  go_wp2
  go_ret
  exact ⟨rfl, rfl⟩
end Go.Proofs.Ytbcpnfkjncpdcaa
