/- flyleafref01.Fill; rows of frames that are held from the least one on. -/
import Derived.Test.YtacpfkimjaihgaaDoorPoolAt
namespace Go.Proofs.YtacpfkimjaihgaaDoor
open Go.RowKit
theorem quiet_left {P : Program} {f : FuncId} {args : Array Value} {w : World} {n : Nat} {v : Value}
    (h : Calls P f args (w.drewN n) fun e w' => e = .returned v ∧ w.drewN n = w') : Calls P f args (w.drewN n) fun e w'' => e = .returned v ∧ ∃ m, w'' = w.drewN m :=
  h.mono fun _ _ ⟨he, hm⟩ => ⟨he, n, hm.symm⟩

def fillB (s : ByteArray) (n : Nat) : ByteArray := if n ≤ s.size then s.extract 0 n else s ++ ⟨(List.replicate (n - s.size) (0 : UInt8)).toArray⟩
theorem fillB_size {s : ByteArray} {n : Nat} : (fillB s n).size = n := by
  unfold fillB
  split
  · rename_i h
    simp [ByteArray.size_extract]; omega
  · rename_i h
    rw [ByteArray.size_append]
    show s.size + (List.replicate (n - s.size) (0 : UInt8)).toArray.size = n
    rw [List.size_toArray, List.length_replicate]
    omega
theorem fillB_none : fillB ⟨#[]⟩ 64 = ⟨zeroSec.toArray⟩ := by kernel_rfl
theorem run_string_new (W : World) (n : Nat) : (convert 64 9 (.slice (some ⟨W.heap.size, 0, none⟩) n n)).run Tryd.prog (W.alloc (.cells (madeCells #[.int .u8 0] n) 5)) = .ok (.string ⟨(List.replicate n (0 : UInt8)).toArray⟩) (W.alloc (.cells (madeCells #[.int .u8 0] n) 5)) := by
  refine run_string_of (P := Tryd.prog) Tryd.underlying64 Tryd.underlying5 Tryd.underlying9 _ W.heap.size 0 n n (List.replicate n 0) (by simp) (fun j hj => ?_)
  rw [World.cell?_alloc_at _ _ _ _ rfl, made_bytes, Nat.zero_add]
  simpa using bv_get (List.replicate n 0) j hj
set_option maxHeartbeats 400000 in
theorem rfill_any (w : World) (s : ByteArray) (n : Int) (h0 : 0 ≤ n) (h1 : n ≤ 65536) (_hs : s.size ≤ maxLen) : Calls Tryd.prog 23 #[.string s, .int .i64 n] w fun e w' => e = .returned (.string (fillB s n.toNat)) ∧ Below w.heap.size w w' := by
  obtain ⟨n, rfl⟩ := Int.eq_ofNat_of_zero_le h0
  rw [Int.toNat_natCast]
  unfold maxLen at _hs
  by_cases h : n ≤ s.size
  · have hf : fillB s n = s.extract 0 n := by simp [fillB, h]
    rw [hf]
    clear hf
    go_enter Tryd.func23, Tryd.ntmps23
    go_wp2
    go_ret
    exact ⟨rfl, Below.refl _ _⟩
  · have hf : fillB s n = s ++ ⟨(List.replicate (n - s.size) (0 : UInt8)).toArray⟩ := by simp [fillB, h]
    rw [hf]
    obtain ⟨m, hm⟩ : ∃ m, m = n - s.size := ⟨_, rfl⟩
    have hmi : (n : Int) - (s.size : Int) = (m : Int) := by omega
    have hm2 : m ≤ 65536 := by omega
    rw [← hm]
    obtain ⟨z, hz⟩ : ∃ z, z = (⟨(List.replicate m (0 : UInt8)).toArray⟩ : ByteArray) := ⟨_, rfl⟩
    have hzs : z.size = m := by rw [hz]; simp [ByteArray.size]
    have hcv : ∀ W : World, (convert 64 9 (.slice (some ⟨W.heap.size, 0, none⟩) m m)).run Tryd.prog (W.alloc (.cells (madeCells #[.int .u8 0] m) 5)) = .ok (.string z) (W.alloc (.cells (madeCells #[.int .u8 0] m) 5)) := fun W => by rw [hz]; exact run_string_new W m
    obtain ⟨i0, hi, hz0, hz1, hz2⟩ := info_parts Tryd.infoU8
    have hmk := fun W => run_make (P := Tryd.prog) W 64 5 i0 _ Tryd.underlying64 hi hz0 .i64 .i64 (m : Int) (m : Int) (by omega) (by omega) (by rw [hz2]; omega) (by omega)
    rw [hz1] at hmk
    have hzs2 : z.size ≤ 65536 := by omega
    have hsum : s.size + z.size ≤ 9223372036854775807 := by omega
    rw [← hz]
    clear hf hm hz hzs hz0 hz1 hz2 hi
    go_enter Tryd.func23, Tryd.ntmps23
    go_wp2
    go_ret
    exact ⟨rfl, (Below.refl _ _).alloc (Nat.le_refl _) _⟩

def heldT (t N : Nat) : List Int := List.replicate t 1 ++ List.replicate (N - t) 0
theorem heldT_length {t N : Nat} (h : t ≤ N) : (heldT t N).length = N := by simp [heldT]; omega
theorem heldT_at {t N : Nat} (h : t < N) : (heldT t N)[t]'(by rw [heldT_length (by omega)]; exact h) = 0 := by
  simp [heldT, List.getElem_append_right]
theorem heldT_lt {t N j : Nat} (h : t ≤ N) (hj : j < t) : (heldT t N)[j]'(by rw [heldT_length h]; omega) = 1 := by
  simp [heldT, List.getElem_append_left, hj]
theorem heldT_set {t N : Nat} (h : t < N) : (heldT t N).set t 1 = heldT (t + 1) N := by
  apply List.ext_getElem
  · simp [heldT]; omega
  · intro i h1 h2
    rw [List.getElem_set]
    simp only [heldT, List.getElem_append, List.length_replicate, List.getElem_replicate]
    by_cases e : t = i
    · rw [if_pos e, dif_pos (by omega)]
    · rw [if_neg e]
      by_cases e2 : i < t
      · rw [dif_pos e2, dif_pos (by omega)]
      · rw [dif_neg e2, dif_neg (by omega)]
theorem frees_heldT (t N : Nat) : frees (heldT t N) = N - t := by
  rw [frees, heldT, List.countP_append, List.countP_replicate, List.countP_replicate]
  simp
theorem free_heldT {t N : Nat} (h : t ≤ N) : firstFree (heldT t N) = t := by
  have hlen := heldT_length h
  by_cases hlt : t < N
  · have h1 : firstFree (heldT t N) < (heldT t N).length := frees_pos.1 (by rw [frees_heldT]; omega)
    have h2 := firstFree_at h1
    have h3 : ¬ firstFree (heldT t N) < t := fun hc => by
      rw [heldT_lt h hc] at h2
      exact absurd h2 (by decide)
    have h4 : ¬ t < firstFree (heldT t N) := fun hc => firstFree_lt hc (by omega) (heldT_at hlt)
    omega
  · have h1 : ¬ firstFree (heldT t N) < (heldT t N).length := fun hc => by
      have := frees_pos.2 hc
      rw [frees_heldT] at this
      omega
    have h2 : firstFree (heldT t N) ≤ (heldT t N).length := List.findIdx_le_length
    omega
theorem asked_heldT {t N j : Nat} (h : t ≤ N) (hj : j < t) : asked (heldT t N) j = 0 := by
  rw [asked_nat (by rw [heldT_length h]; omega), heldT_lt h hj, if_neg (by decide)]
section
variable {w0 w w' : World} {p bb hb : Nat}
theorem At.taken {S : List (List UInt8)} {t N : Nat} (h : At w0 w p bb hb ⟨S, heldT t N⟩) (ht : t < N) : Calls Tryd.prog 19 #[.pointer (some ⟨p, 0, none⟩)] w fun e w' => e = .returned (.tuple #[.int .i64 t, .int .i64 0]) ∧ At w0 w' p bb hb ⟨S.set t zeroSec, heldT (t + 1) N⟩ := by
  have e : FP.take ⟨S, heldT t N⟩ = ((t : Int), 0, ⟨S.set t zeroSec, heldT (t + 1) N⟩) := by
    rw [FP.take]
    simp only [free_heldT (Nat.le_of_lt ht), heldT_length (Nat.le_of_lt ht), if_pos ht, heldT_set ht]
  have := h.take
  rw [e] at this
  exact this
theorem At.used {S : List (List UInt8)} {N : Nat} (h : At w0 w p bb hb ⟨S, heldT N N⟩) : Calls Tryd.prog 19 #[.pointer (some ⟨p, 0, none⟩)] w fun e w' => e = .returned (.tuple #[.int .i64 0, .int .i64 18]) ∧ At w0 w' p bb hb ⟨S, heldT N N⟩ := by
  have e : FP.take ⟨S, heldT N N⟩ = (0, 18, ⟨S, heldT N N⟩) := by
    rw [FP.take]
    simp only [free_heldT (Nat.le_refl N), heldT_length (Nat.le_refl N), if_neg (Nat.lt_irrefl N)]
  have := h.take
  rw [e] at this
  exact this
theorem At.len {F : FP} (h : At w0 w p bb hb F) : F.secs.length = F.held.length := h.pool.len
theorem At.each {F : FP} (h : At w0 w p bb hb F) : ∀ s ∈ F.secs, s.length = 64 := h.pool.each
end
theorem newFP_heldT (N : Nat) : newFP N = ⟨List.replicate N zeroSec, heldT 0 N⟩ := by simp [newFP, heldT]
theorem fill_held (F : FP) (f : Int) (s : ByteArray) : ∃ S, F.fill f s = ⟨S, F.held⟩ := by
  rw [FP.fill]
  split
  · exact ⟨_, rfl⟩
  · exact ⟨_, rfl⟩
end Go.Proofs.YtacpfkimjaihgaaDoor
