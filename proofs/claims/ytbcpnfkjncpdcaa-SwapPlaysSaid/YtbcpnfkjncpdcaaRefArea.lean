/- flyleafref05: the document's area. -/
import Derived.Test.YtbcpnfkjncpdcaaArea
namespace Go.Proofs.Ytbcpnfkjncpdcaa
open Go.RowKit

structure IsRA (w : World) (r hb sb : Nat) (held : List Int) (S : List ByteArray) : Prop where
  head : w.heap[r]? = some (.cells [Value.slice (some ⟨hb, 0, none⟩) held.length held.length, .slice (some ⟨sb, 0, none⟩) held.length held.length].toArray 77 (0, 0))
  row : w.heap[hb]? = some (.cells (held.map (Value.int .i64)).toArray 3 (0, 0))
  str : w.heap[sb]? = some (.cells (S.map Value.string).toArray 9 (0, 0))
  len : S.length = held.length
  small : held.length ≤ 4096
  nrh : r ≠ hb
  nrs : r ≠ sb
  nhs : hb ≠ sb
section
variable {w w' : World} {r hb sb : Nat} {held : List Int} {S : List ByteArray}
theorem IsRA.mods {T : List Nat} (h : IsRA w r hb sb held S) (hm : Mods T w w') (h1 : r ∉ T) (h2 : hb ∉ T) (h3 : sb ∉ T) : IsRA w' r hb sb held S :=
  ⟨(hm.block r (lt_of_block h.head) h1).trans h.head, (hm.block hb (lt_of_block h.row) h2).trans h.row, (hm.block sb (lt_of_block h.str) h3).trans h.str, h.len, h.small, h.nrh, h.nrs, h.nhs⟩
theorem IsRA.below {B : Nat} (h : IsRA w r hb sb held S) (hm : Below B w w') (hB : w.heap.size ≤ B) : IsRA w' r hb sb held S :=
  ⟨(hm.block r (Nat.lt_of_lt_of_le (lt_of_block h.head) hB)).trans h.head, (hm.block hb (Nat.lt_of_lt_of_le (lt_of_block h.row) hB)).trans h.row, (hm.block sb (Nat.lt_of_lt_of_le (lt_of_block h.str) hB)).trans h.str, h.len, h.small, h.nrh, h.nrs, h.nhs⟩
theorem IsRA.lt (h : IsRA w r hb sb held S) : r < w.heap.size ∧ hb < w.heap.size ∧ sb < w.heap.size := ⟨lt_of_block h.head, lt_of_block h.row, lt_of_block h.str⟩
theorem IsRA.c0 (h : IsRA w r hb sb held S) : w.cell? ⟨r, 0, none⟩ = some (.slice (some ⟨hb, 0, none⟩) held.length held.length) := by rw [cell_of_row w r 0 _ _ _ h.head]; rfl
theorem IsRA.c1 (h : IsRA w r hb sb held S) : w.cell? ⟨r, 1, none⟩ = some (.slice (some ⟨sb, 0, none⟩) held.length held.length) := by rw [cell_of_row w r 1 _ _ _ h.head]; rfl
theorem IsRA.at (h : IsRA w r hb sb held S) {k : Nat} (hk : k < held.length) : w.cell? ⟨hb, k, none⟩ = some (.int .i64 held[k]) := by
  rw [cell_of_row w _ _ _ _ _ h.row]
  simp [hk]
theorem IsRA.strAt (h : IsRA w r hb sb held S) {k : Nat} (hk : k < S.length) : w.cell? ⟨sb, k, none⟩ = some (.string S[k]) := by
  rw [cell_of_row w _ _ _ _ _ h.str]
  simp [hk]
theorem IsRA.storeHeld (h : IsRA w r hb sb held S) {k : Nat} {v : Int} (hm : ∀ j, j < w.heap.size → w'.heap[j]? = (w.setCell ⟨hb, k, none⟩ (.int .i64 v)).heap[j]?) : IsRA w' r hb sb (held.set k v) S := by
  refine ⟨?_, ?_, ?_, by simpa using h.len, by simpa using h.small, h.nrh, h.nrs, h.nhs⟩
  · rw [hm r (lt_of_block h.head), Below.heap_setCell _ _ _ _ h.nrh, h.head]
    simp
  · rw [hm hb (lt_of_block h.row), row_setCell h.row, List.map_set]
  · rw [hm sb (lt_of_block h.str), Below.heap_setCell _ _ _ _ (Ne.symm h.nhs), h.str]
theorem IsRA.storeStr (h : IsRA w r hb sb held S) {k : Nat} {v : ByteArray} (hm : ∀ j, j < w.heap.size → w'.heap[j]? = (w.setCell ⟨sb, k, none⟩ (.string v)).heap[j]?) : IsRA w' r hb sb held (S.set k v) := by
  refine ⟨?_, ?_, ?_, by simpa using h.len, h.small, h.nrh, h.nrs, h.nhs⟩
  · rw [hm r (lt_of_block h.head), Below.heap_setCell _ _ _ _ h.nrs, h.head]
  · rw [hm hb (lt_of_block h.row), Below.heap_setCell _ _ _ _ h.nhs, h.row]
  · rw [hm sb (lt_of_block h.str), row_setCell h.str, List.map_set]
end

theorem made_strs (m : Nat) : madeCells #[.string ⟨#[]⟩] m = ((List.replicate m (⟨#[]⟩ : ByteArray)).map Value.string).toArray := by
  apply Array.ext'
  simp only [madeCells, List.map_replicate]
  rw [Array.toList_map, Array.toList_range]
  apply List.ext_getElem
  · simp
  · intro i h1 h2
    simp [Nat.mod_one]

theorem three_new (w : World) (o1 o2 o3 : Obj) : (((w.alloc o1).alloc o2).alloc o3).heap[w.heap.size]? = some o1 ∧ (((w.alloc o1).alloc o2).alloc o3).heap[w.heap.size + 1]? = some o2 ∧ (((w.alloc o1).alloc o2).alloc o3).heap[w.heap.size + 1 + 1]? = some o3 ∧
    Below w.heap.size w (((w.alloc o1).alloc o2).alloc o3) := by
  refine ⟨?_, ?_, ?_, (((Below.refl _ _).alloc (Nat.le_refl _) _).alloc (by simp) _).alloc (by simp; omega) _⟩
  · rw [Below.heap_alloc _ _ _ (by simp; omega), Below.heap_alloc _ _ _ (by simp), heap_alloc_new]
  · have := heap_alloc_new (w.alloc o1) o2
    rw [World.size_alloc] at this
    rw [Below.heap_alloc _ _ _ (by simp)]
    exact this
  · have := heap_alloc_new ((w.alloc o1).alloc o2) o3
    rw [World.size_alloc, World.size_alloc] at this
    exact this

/-! ## New -/
set_option maxHeartbeats 800000 in
theorem ra_new (w : World) (n : Nat) (hn : n ≤ 4096) :
    Calls Try.prog 42 #[.int .i64 n] w fun e w' => ∃ r hb sb, e = .returned (.pointer (some ⟨r, 0, none⟩)) ∧ w.heap.size ≤ r ∧ w.heap.size ≤ hb ∧ w.heap.size ≤ sb ∧ IsRA w' r hb sb (List.replicate n 0) (List.replicate n ⟨#[]⟩) ∧ Below w.heap.size w w' := by
  obtain ⟨i0, hi, hz0, hz1, hz2⟩ := info_parts Try.info3
  have hmk := fun W => run_make (P := Try.prog) W 36 3 i0 _ Try.underlying36 hi hz0 .i64 .i64 (n : Int) (n : Int) (by omega) (by omega) (by rw [hz2]; omega) (by omega)
  rw [hz1] at hmk
  clear hz0 hz1 hz2 hi
  obtain ⟨i9, hi, hz0, hz1, hz2⟩ := info_parts Try.info9
  have hmk9 := fun W => run_make (P := Try.prog) W 22 9 i9 _ Try.underlying22 hi hz0 .i64 .i64 (n : Int) (n : Int) (by omega) (by omega) (by rw [hz2]; omega) (by omega)
  rw [hz1] at hmk9
  clear hz0 hz1 hz2 hi
  go_enter Try.func42, Try.ntmps42
  go_wp2_with fail
  go_region
  · go_wp2
    go_ret
    obtain ⟨h0, h1, h2, h3⟩ := three_new w (Obj.cells (madeCells #[Value.int IntKind.i64 0] n) 3) (Obj.cells (madeCells #[Value.string { data := #[] }] n) 9) (Obj.cells #[Value.slice (some ⟨w.heap.size, 0, none⟩) n n, Value.slice (some ⟨w.heap.size + 1, 0, none⟩) n n] 77)
    refine ⟨w.heap.size + 1 + 1, w.heap.size, w.heap.size + 1, rfl, by omega, Nat.le_refl _, by omega, ⟨?_, ?_, ?_, by simp, by simpa using hn, by omega, by omega, by omega⟩, h3.drew⟩
    · rw [List.length_replicate]; exact h2
    · rw [← made_ints]; exact h0
    · rw [← made_strs]; exact h1
  · go_wp2
    go_ret
    obtain ⟨h0, h1, h2, h3⟩ := three_new w (Obj.cells (madeCells #[Value.string { data := #[] }] n) 9) (Obj.cells (madeCells #[Value.int IntKind.i64 0] n) 3) (Obj.cells #[Value.slice (some ⟨w.heap.size + 1, 0, none⟩) n n, Value.slice (some ⟨w.heap.size, 0, none⟩) n n] 77)
    refine ⟨w.heap.size + 1 + 1, w.heap.size + 1, w.heap.size, rfl, by omega, by omega, Nat.le_refl _, ⟨?_, ?_, ?_, by simp, by simpa using hn, by omega, by omega, by omega⟩, h3.drew⟩
    · rw [List.length_replicate]; exact h2
    · rw [← made_ints]; exact h1
    · rw [← made_strs]; exact h0

/-! ## asked -/
/-- The error of a slot. -/
def askedOf (held : List Int) (s : Int) : Int := if s < 0 ∨ (held.length : Int) ≤ s then 14 else if held.getD s.toNat 0 = 0 then 13 else 0
theorem asked_any (w : World) (r hb sb : Nat) (held : List Int) (S : List ByteArray) (s : Int) (h : IsRA w r hb sb held S) :
    Calls Try.prog 56 #[.pointer (some ⟨r, 0, none⟩), .int .i64 s] w fun e w' => e = .returned (.int .i64 (askedOf held s)) ∧ w = w' := by
  have c0 := h.c0
  have hs := h.small
  by_cases h1 : s < 0
  · have : askedOf held s = 14 := by simp [askedOf, h1]
    rw [this]
    clear h
    go_enter Try.func56, Try.ntmps56
    go_wp2
    go_ret
    exact ⟨rfl, rfl⟩
  · by_cases h2 : (held.length : Int) ≤ s
    · have : askedOf held s = 14 := by simp [askedOf, h2]
      rw [this]
      clear h
      go_enter Try.func56, Try.ntmps56
      go_wp2
      go_ret
      exact ⟨rfl, rfl⟩
    · obtain ⟨k, rfl⟩ := Int.eq_ofNat_of_zero_le (show 0 ≤ s by omega)
      have hk : k < held.length := by omega
      have hc := h.at hk
      have : askedOf held k = if held[k] = 0 then 13 else 0 := by
        simp [askedOf, hk]
        omega
      rw [this]
      clear h this
      generalize held[k] = v at *
      by_cases hv : v = 0
      · subst hv
        go_enter Try.func56, Try.ntmps56
        go_wp2
        go_ret
        exact ⟨rfl, rfl⟩
      · have hv' : (v == 0) = false := by simp [hv]
        rw [if_neg hv]
        clear hv
        go_enter Try.func56, Try.ntmps56
        go_wp2
        go_ret
        exact ⟨rfl, rfl⟩

/-! ## Get, Add, Used, Put -/
theorem askedOf_zero {held : List Int} {s : Int} (h : askedOf held s = 0) : ∃ (k : Nat) (hk : k < held.length), s = k ∧ held[k] ≠ 0 := by
  unfold askedOf at h
  split at h
  · simp at h
  · rename_i hn
    split at h
    · simp at h
    · rename_i hz
      refine ⟨s.toNat, by omega, by omega, ?_⟩
      have hl : s.toNat < held.length := by omega
      simp only [List.getD, List.getElem?_eq_getElem hl, Option.getD_some] at hz
      exact hz
theorem rget_any (w : World) (r hb sb : Nat) (held : List Int) (S : List ByteArray) (s : Int) (h : IsRA w r hb sb held S) :
    Calls Try.prog 44 #[.pointer (some ⟨r, 0, none⟩), .int .i64 s] w fun e w' => e = .returned (.tuple #[.string (if askedOf held s = 0 then S.getD s.toNat ⟨#[]⟩ else ⟨#[]⟩), .int .i64 (askedOf held s)]) ∧ w = w' := by
  by_cases hz : askedOf held s = 0
  · obtain ⟨k, hk, rfl, hne⟩ := askedOf_zero hz
    have hc := h.strAt (k := k) (by rw [h.len]; exact hk)
    have hsl : S.getD k ⟨#[]⟩ = S[k]'(by rw [h.len]; exact hk) := by simp only [List.getD, List.getElem?_eq_getElem (show k < S.length by rw [h.len]; exact hk), Option.getD_some]
    have c1 := h.c1
    have hn := h.small
    have HR := Lib.hid h
    rw [if_pos hz, Int.toNat_natCast, hsl, hz]
    generalize S[k]'(by rw [h.len]; exact hk) = sv at *
    have HZ := Lib.hid hz
    clear h hz hsl hne
    go_enter Try.func44, Try.ntmps44
    go_wp2_with fail
    refine (asked_any _ r hb sb held S k HR.out).mono ?_
    rintro e w1 ⟨rfl, rfl⟩
    rw [HZ.out]
    go_wp2_with fail
    go_ret2
    exact ⟨rfl, rfl⟩
  · rw [if_neg hz]
    have HR := Lib.hid h
    obtain ⟨q, hq⟩ : ∃ q, q = askedOf held s := ⟨_, rfl⟩
    rw [← hq] at hz ⊢
    have hz' : (q != 0) = true := by simp [hz]
    have HQ := Lib.hid hq
    clear h hz hq
    go_enter Try.func44, Try.ntmps44
    go_wp2_with fail
    refine (asked_any _ r hb sb held S s HR.out).mono ?_
    rintro e w1 ⟨rfl, rfl⟩
    rw [← HQ.out]
    go_wp2_with fail
    go_ret2
    exact ⟨rfl, rfl⟩
theorem add_no (w : World) (r hb sb : Nat) (held : List Int) (S : List ByteArray) (s n : Int) (hz : askedOf held s ≠ 0) (h : IsRA w r hb sb held S) :
    Calls Try.prog 45 #[.pointer (some ⟨r, 0, none⟩), .int .i64 s, .int .i64 n] w fun e w' => e = .returned (.int .i64 (askedOf held s)) ∧ w = w' := by
  have HR := Lib.hid h
  obtain ⟨q, hq⟩ : ∃ q, q = askedOf held s := ⟨_, rfl⟩
  rw [← hq] at hz ⊢
  have hz' : (q == 0) = false := by simp [hz]
  have HQ := Lib.hid hq
  clear h hz hq
  go_enter Try.func45, Try.ntmps45
  go_wp2_with fail
  refine (asked_any _ r hb sb held S s HR.out).mono ?_
  rintro e w1 ⟨rfl, rfl⟩
  rw [← HQ.out]
  go_wp2_with fail
  go_ret
  exact ⟨rfl, rfl⟩
set_option maxHeartbeats 800000 in
theorem add_ok (w : World) (r hb sb : Nat) (held : List Int) (S : List ByteArray) (k : Nat) (n : Int) (hk : k < held.length) (hne : held[k] ≠ 0) (hb0 : 0 ≤ held[k] ∧ held[k] ≤ 1000000) (hn1 : n = 1 ∨ n = -1) (h : IsRA w r hb sb held S) :
    Calls Try.prog 45 #[.pointer (some ⟨r, 0, none⟩), .int .i64 k, .int .i64 n] w fun e w' => e = .returned (.int .i64 0) ∧ IsRA w' r hb sb (held.set k (held[k] + n)) S ∧ Mods [r, hb, sb] w w' := by
  have hz : askedOf held k = 0 := by simp [askedOf, hk, hne] <;> omega
  have hc := h.at hk
  have c0 := h.c0
  have hn := h.small
  have fz := frozen_of_row w hb k _ _ h.row
  have HR := Lib.hid h
  have HZ := Lib.hid hz
  obtain ⟨hb1, hb2⟩ := hb0
  clear h hz hne
  obtain ⟨v, hv⟩ : ∃ v, v = held[k] := ⟨_, rfl⟩
  rw [← hv] at hc hb1 hb2 ⊢
  obtain ⟨z, hz⟩ : ∃ z, z = v + n := ⟨_, rfl⟩
  have hwr : IntKind.i64.wrap (v + n) = z := by rw [IntKind.wrap_i64, hz]; omega
  rw [← hz]
  clear hv hz
  go_enter Try.func45, Try.ntmps45
  go_wp2_with fail
  refine (asked_any _ r hb sb held S k HR.out).mono ?_
  rintro e w1 ⟨rfl, rfl⟩
  rw [HZ.out]
  go_wp2_with fail
  go_region
  all_goals
    go_wp2
    go_ret
    exact ⟨rfl, (HR.out.storeHeld (k := k) (v := z) (w' := w.setCell ⟨hb, k, none⟩ (.int .i64 z)) (fun _ _ => rfl)).below (Below.refl _ _).drew (Nat.le_refl _), ((Mods.refl _ w).setCell (.inl (by simp)) _).drew⟩
/-- How many slots are held. -/
def usedOf (held : List Int) : Int := (held.countP (fun h => decide (0 < h)) : Nat)
theorem countP_take_succ {held : List Int} {t : Nat} (h : t < held.length) (p : Int → Bool) : (held.take (t + 1)).countP p = (held.take t).countP p + if p held[t] then 1 else 0 := by
  rw [List.take_succ_eq_append_getElem h, List.countP_append]
  simp [List.countP_cons]
set_option maxHeartbeats 800000 in
theorem rused_any (w : World) (r hb sb : Nat) (held : List Int) (S : List ByteArray) (h : IsRA w r hb sb held S) :
    Calls Try.prog 46 #[.pointer (some ⟨r, 0, none⟩)] w fun e w' => e = .returned (.int .i64 (usedOf held)) ∧ w = w' := by
  have c0 := h.c0
  have hn := h.small
  have HR := Lib.hid h
  clear h
  go_enter Try.func46, Try.ntmps46
  go_wp2_with fail
  go_loopw [3, 4] (fun c i wx => ∃ (t m : Nat), t ≤ held.length ∧ i = .int .i64 t ∧ c = .int .i64 m ∧ m ≤ t ∧ Hid (m = (held.take t).countP (fun h => decide (0 < h))) ∧ wx = w) (fun _ i _ => held.length - (intOf i).toNat)
  case atStart => exact ⟨0, 0, by omega, rfl, rfl, by omega, Lib.hid rfl, rfl⟩
  case round =>
    obtain ⟨t, m, ht, rfl, rfl, hm, HM, rfl⟩ := hrel
    by_cases hlt : t < held.length
    · have hc := HR.out.at hlt
      have hs := countP_take_succ hlt (fun h => decide (0 < h))
      generalize held[t] = v at hc hs
      by_cases hv : 0 < v
      · have HS := Lib.hid hs
        clear hs
        go_wp2_with fail
        go_roundw
        case rel => exact ⟨t + 1, m + 1, by omega, by go_num, by go_num, by omega, Lib.hid (by rw [HS.out, ← HM.out]; simp [hv]), by trivial⟩
        case measure => simp [intOf]; omega
      · have HS := Lib.hid hs
        clear hs
        go_wp2_with fail
        go_roundw
        case rel => exact ⟨t + 1, m, by omega, by go_num, rfl, by omega, Lib.hid (by rw [HS.out, ← HM.out]; simp [hv]), by trivial⟩
        case measure => simp [intOf]; omega
    · have htn : t = held.length := by omega
      have hm2 : usedOf held = m := by rw [usedOf, HM.out, htn, List.take_length]
      have HM2 := Lib.hid hm2
      have HT := Lib.hid htn
      clear hm2 htn
      go_wp2_with fail
      go_ret
      exact ⟨by rw [HM2.out]; rfl, rfl⟩

set_option maxHeartbeats 800000 in
theorem rput_bad (w : World) (r : Nat) (p : ByteArray) (hp : p.size ≠ 64) :
    Calls Try.prog 43 #[.pointer (some ⟨r, 0, none⟩), .string p] w fun e w' => e = .returned (.tuple #[.int .i64 0, .int .i64 1]) ∧ w = w' := by
  have hne : ((p.size : Int) != 64) = true := by simp; omega
  go_enter Try.func43, Try.ntmps43
  go_wp2_with fail
  go_ret2
  exact ⟨rfl, rfl⟩
set_option maxHeartbeats 800000 in
theorem rput_full (w : World) (r hb sb : Nat) (held : List Int) (S : List ByteArray) (p : ByteArray) (hp : p.size = 64) (hall : ∀ j (h : j < held.length), held[j] ≠ 0) (h : IsRA w r hb sb held S) :
    Calls Try.prog 43 #[.pointer (some ⟨r, 0, none⟩), .string p] w fun e w' => e = .returned (.tuple #[.int .i64 0, .int .i64 15]) ∧ w = w' := by
  have hne : ((p.size : Int) != 64) = false := by simp; omega
  have c0 := h.c0
  have hn := h.small
  have HR := Lib.hid h
  have HA := Lib.hid hall
  have HP := Lib.hid hp
  clear h hall hp
  go_enter Try.func43, Try.ntmps43
  go_wp2_with fail
  go_loopw [6] (fun i wx => ∃ (t : Nat), t ≤ held.length ∧ i = .int .i64 t ∧ wx = w) (fun i _ => held.length - (intOf i).toNat)
  case atStart => exact ⟨0, by omega, rfl, rfl⟩
  case round =>
    obtain ⟨t, ht, rfl, rfl⟩ := hrel
    by_cases hlt : t < held.length
    · have hc := HR.out.at hlt
      have hv : (held[t] == 0) = false := by simp [HA.out t hlt]
      generalize held[t] = v at hc hv
      go_wp2_with fail
      go_roundw
      case rel => exact ⟨t + 1, by omega, by go_num, by trivial⟩
      case measure => simp [intOf]; omega
    · have htn : t = held.length := by omega
      have HT := Lib.hid htn
      clear htn
      go_wp2_with fail
      go_ret2
      exact ⟨rfl, rfl⟩
set_option maxHeartbeats 800000 in
theorem rput_at (w : World) (r hb sb : Nat) (held : List Int) (S : List ByteArray) (p : ByteArray) (k : Nat) (hp : p.size = 64) (hk : k < held.length) (hz : held[k] = 0) (hall : ∀ j (h : j < k), held[j] ≠ 0) (h : IsRA w r hb sb held S) :
    Calls Try.prog 43 #[.pointer (some ⟨r, 0, none⟩), .string p] w fun e w' => e = .returned (.tuple #[.int .i64 k, .int .i64 0]) ∧ IsRA w' r hb sb (held.set k 1) (S.set k p) ∧ Mods [r, hb, sb] w w' := by
  have hne : ((p.size : Int) != 64) = false := by simp; omega
  have c0 := h.c0
  have c1 := h.c1
  have hn := h.small
  have HR := Lib.hid h
  have HA := Lib.hid hall
  have HP := Lib.hid hp
  have HZ := Lib.hid hz
  clear h hall hp hz
  go_enter Try.func43, Try.ntmps43
  go_wp2_with fail
  go_loopw [6] (fun i wx => ∃ (t : Nat), t ≤ k ∧ i = .int .i64 t ∧ wx = w) (fun i _ => k - (intOf i).toNat)
  case atStart => exact ⟨0, by omega, rfl, rfl⟩
  case round =>
    obtain ⟨t, ht, rfl, rfl⟩ := hrel
    have htl : t < held.length := by omega
    by_cases hlt : t < k
    · have hc := HR.out.at htl
      have hv : (held[t] == 0) = false := by simp [HA.out t hlt]
      generalize held[t] = v at hc hv
      go_wp2_with fail
      go_roundw
      case rel => exact ⟨t + 1, by omega, by go_num, by trivial⟩
      case measure => simp [intOf]; omega
    · have htk : t = k := by omega
      subst htk
      have hc := HR.out.at htl
      rw [HZ.out] at hc
      have hsl : t < S.length := by rw [HR.out.len]; exact htl
      have hsc := HR.out.strAt hsl
      have fz := frozen_of_row wr hb t _ _ HR.out.row
      have fs := frozen_of_row wr sb t _ _ HR.out.str
      have n1 := HR.out.nrh
      have n2 := HR.out.nrs
      have n3 := HR.out.nhs
      have n4 := Ne.symm n3
      generalize S[t] = sv at hsc
      go_wp2_with fail
      go_ret2
      have h1 := HR.out.storeHeld (k := t) (v := 1) (w' := wr.setCell ⟨hb, t, none⟩ (.int .i64 1)) (fun _ _ => rfl)
      have h2 := h1.storeStr (k := t) (v := p) (w' := (wr.setCell ⟨hb, t, none⟩ (.int .i64 1)).setCell ⟨sb, t, none⟩ (.string p)) (fun _ _ => rfl)
      exact ⟨rfl, h2, ((Mods.refl _ wr).setCell (.inl (by simp)) _).setCell (.inl (by simp)) _⟩
end Go.Proofs.Ytbcpnfkjncpdcaa
