/- flyleafref06: the document's pool. No conditions. -/
import Derived.Test.YtacpfkimjaihgaaDoorFLib
import Derived.Test.YtacpfkimjaihgaaDoorRef01
import Derived.Deep.RegionWith
namespace Go.Proofs.YtacpfkimjaihgaaDoor
open Go.RowKit
set_option linter.unusedVariables false

structure IsRP (w : World) (r hb sb : Nat) (held : List Int) (S : List ByteArray) : Prop where
  head : w.heap[r]? = some (.cells [Value.slice (some ⟨hb, 0, none⟩) held.length held.length, .slice (some ⟨sb, 0, none⟩) held.length held.length].toArray 62 (0, 0))
  row : w.heap[hb]? = some (.cells (held.map (Value.int .i64)).toArray 3 (0, 0))
  str : w.heap[sb]? = some (.cells (S.map Value.string).toArray 9 (0, 0))
  len : S.length = held.length
  small : held.length ≤ 4096
  nrh : r ≠ hb
  nrs : r ≠ sb
  nhs : hb ≠ sb
section
variable {w w' : World} {r hb sb : Nat} {held : List Int} {S : List ByteArray}
theorem IsRP.mods {T : List Nat} (h : IsRP w r hb sb held S) (hm : Mods T w w') (h1 : r ∉ T) (h2 : hb ∉ T) (h3 : sb ∉ T) : IsRP w' r hb sb held S :=
  ⟨(hm.block r (lt_of_block h.head) h1).trans h.head, (hm.block hb (lt_of_block h.row) h2).trans h.row, (hm.block sb (lt_of_block h.str) h3).trans h.str, h.len, h.small, h.nrh, h.nrs, h.nhs⟩
theorem IsRP.below {B : Nat} (h : IsRP w r hb sb held S) (hm : Below B w w') (hB : w.heap.size ≤ B) : IsRP w' r hb sb held S :=
  ⟨(hm.block r (Nat.lt_of_lt_of_le (lt_of_block h.head) hB)).trans h.head, (hm.block hb (Nat.lt_of_lt_of_le (lt_of_block h.row) hB)).trans h.row, (hm.block sb (Nat.lt_of_lt_of_le (lt_of_block h.str) hB)).trans h.str, h.len, h.small, h.nrh, h.nrs, h.nhs⟩
theorem IsRP.lt (h : IsRP w r hb sb held S) : r < w.heap.size ∧ hb < w.heap.size ∧ sb < w.heap.size := ⟨lt_of_block h.head, lt_of_block h.row, lt_of_block h.str⟩
theorem IsRP.c0 (h : IsRP w r hb sb held S) : w.cell? ⟨r, 0, none⟩ = some (.slice (some ⟨hb, 0, none⟩) held.length held.length) := by rw [cell_of_row w r 0 _ _ _ h.head]; rfl
theorem IsRP.c1 (h : IsRP w r hb sb held S) : w.cell? ⟨r, 1, none⟩ = some (.slice (some ⟨sb, 0, none⟩) held.length held.length) := by rw [cell_of_row w r 1 _ _ _ h.head]; rfl
theorem IsRP.at (h : IsRP w r hb sb held S) {k : Nat} (hk : k < held.length) : w.cell? ⟨hb, k, none⟩ = some (.int .i64 held[k]) := by
  rw [cell_of_row w _ _ _ _ _ h.row]
  simp [hk]
theorem IsRP.strAt (h : IsRP w r hb sb held S) {k : Nat} (hk : k < S.length) : w.cell? ⟨sb, k, none⟩ = some (.string S[k]) := by
  rw [cell_of_row w _ _ _ _ _ h.str]
  simp [hk]
theorem IsRP.storeHeld (h : IsRP w r hb sb held S) {k : Nat} {v : Int} (hm : ∀ j, j < w.heap.size → w'.heap[j]? = (w.setCell ⟨hb, k, none⟩ (.int .i64 v)).heap[j]?) : IsRP w' r hb sb (held.set k v) S := by
  refine ⟨?_, ?_, ?_, by simpa using h.len, by simpa using h.small, h.nrh, h.nrs, h.nhs⟩
  · rw [hm r (lt_of_block h.head), Below.heap_setCell _ _ _ _ h.nrh, h.head]
    simp
  · rw [hm hb (lt_of_block h.row), row_setCell h.row, List.map_set]
  · rw [hm sb (lt_of_block h.str), Below.heap_setCell _ _ _ _ (Ne.symm h.nhs), h.str]
theorem IsRP.storeStr (h : IsRP w r hb sb held S) {k : Nat} {v : ByteArray} (hm : ∀ j, j < w.heap.size → w'.heap[j]? = (w.setCell ⟨sb, k, none⟩ (.string v)).heap[j]?) : IsRP w' r hb sb held (S.set k v) := by
  refine ⟨?_, ?_, ?_, by simpa using h.len, h.small, h.nrh, h.nrs, h.nhs⟩
  · rw [hm r (lt_of_block h.head), Below.heap_setCell _ _ _ _ h.nrs, h.head]
  · rw [hm hb (lt_of_block h.row), Below.heap_setCell _ _ _ _ h.nhs, h.row]
  · rw [hm sb (lt_of_block h.str), row_setCell h.str, List.map_set]
end

theorem made_strs (m : Nat) : madeCells #[.string ⟨#[]⟩] m = ((List.replicate m (⟨#[]⟩ : ByteArray)).map Value.string).toArray := by
  apply Array.ext'
  simp only [madeCells, List.map_replicate]
  rw [Array.toList_map, Array.toList_range]
  apply List.ext_getElem
  · simp
  · intro i h1 h2
    simp [Nat.mod_one]
theorem Tryd.info9 : (Tryd.prog.info? 9).map (fun i => (i.zero, i.size, i.bytes)) = some (some (.string ⟨#[]⟩), 1, 16) := by kernel_rfl

theorem three_new (w : World) (o1 o2 o3 : Obj) : (((w.alloc o1).alloc o2).alloc o3).heap[w.heap.size]? = some o1 ∧ (((w.alloc o1).alloc o2).alloc o3).heap[w.heap.size + 1]? = some o2 ∧ (((w.alloc o1).alloc o2).alloc o3).heap[w.heap.size + 1 + 1]? = some o3 ∧
    Below w.heap.size w (((w.alloc o1).alloc o2).alloc o3) := by
  refine ⟨?_, ?_, ?_, (((Below.refl _ _).alloc (Nat.le_refl _) _).alloc (by simp) _).alloc (by simp; omega) _⟩
  · rw [Below.heap_alloc _ _ _ (by simp; omega), Below.heap_alloc _ _ _ (by simp), heap_alloc_new]
  · have := heap_alloc_new (w.alloc o1) o2
    rw [World.size_alloc] at this
    rw [Below.heap_alloc _ _ _ (by simp)]
    exact this
  · have := heap_alloc_new ((w.alloc o1).alloc o2) o3
    rw [World.size_alloc, World.size_alloc] at this
    exact this

/-! ## New -/
theorem rp_new_nil (w : World) (n : Int) (hn : n < 1 ∨ 4096 < n) : Calls Tryd.prog 33 #[.int .i64 n] w fun e w' => e = .returned (.pointer none) ∧ w = w' := by
  rcases hn with hn | hn
  · go_enter Tryd.func33, Tryd.ntmps33
    go_wp2_with fail
    go_ret
    exact ⟨rfl, rfl⟩
  · go_enter Tryd.func33, Tryd.ntmps33
    go_wp2_with fail
    go_ret
    exact ⟨rfl, rfl⟩
set_option maxHeartbeats 800000 in
theorem rp_new (w : World) (n : Nat) (h1 : 1 ≤ n) (hn : n ≤ 4096) :
    Calls Tryd.prog 33 #[.int .i64 n] w fun e w' => ∃ r hb sb, e = .returned (.pointer (some ⟨r, 0, none⟩)) ∧ w.heap.size ≤ r ∧ w.heap.size ≤ hb ∧ w.heap.size ≤ sb ∧ IsRP w' r hb sb (List.replicate n 0) (List.replicate n ⟨#[]⟩) ∧ Below w.heap.size w w' := by
  obtain ⟨i0, hi, hz0, hz1, hz2⟩ := info_parts Tryd.info3
  have hmk := fun W => run_make (P := Tryd.prog) W 46 3 i0 _ Tryd.underlying46 hi hz0 .i64 .i64 (n : Int) (n : Int) (by omega) (by omega) (by rw [hz2]; omega) (by omega)
  rw [hz1] at hmk
  clear hz0 hz1 hz2 hi
  obtain ⟨i9, hi, hz0, hz1, hz2⟩ := info_parts Tryd.info9
  have hmk9 := fun W => run_make (P := Tryd.prog) W 60 9 i9 _ Tryd.underlying60 hi hz0 .i64 .i64 (n : Int) (n : Int) (by omega) (by omega) (by rw [hz2]; omega) (by omega)
  rw [hz1] at hmk9
  clear hz0 hz1 hz2 hi
  go_enter Tryd.func33, Tryd.ntmps33
  go_wp2_with fail
  go_region
  · go_wp2
    go_ret
    obtain ⟨h0, h1, h2, h3⟩ := three_new w (Obj.cells (madeCells #[Value.int IntKind.i64 0] n) 3) (Obj.cells (madeCells #[Value.string { data := #[] }] n) 9) (Obj.cells #[Value.slice (some ⟨w.heap.size, 0, none⟩) n n, Value.slice (some ⟨w.heap.size + 1, 0, none⟩) n n] 62)
    refine ⟨w.heap.size + 1 + 1, w.heap.size, w.heap.size + 1, rfl, by omega, Nat.le_refl _, by omega, ⟨?_, ?_, ?_, by simp, by simpa using hn, by omega, by omega, by omega⟩, h3.drew⟩
    · rw [List.length_replicate]; exact h2
    · rw [← made_ints]; exact h0
    · rw [← made_strs]; exact h1
  · go_wp2
    go_ret
    obtain ⟨h0, h1, h2, h3⟩ := three_new w (Obj.cells (madeCells #[Value.string { data := #[] }] n) 9) (Obj.cells (madeCells #[Value.int IntKind.i64 0] n) 3) (Obj.cells #[Value.slice (some ⟨w.heap.size + 1, 0, none⟩) n n, Value.slice (some ⟨w.heap.size, 0, none⟩) n n] 62)
    refine ⟨w.heap.size + 1 + 1, w.heap.size + 1, w.heap.size, rfl, by omega, by omega, Nat.le_refl _, ⟨?_, ?_, ?_, by simp, by simpa using hn, by omega, by omega, by omega⟩, h3.drew⟩
    · rw [List.length_replicate]; exact h2
    · rw [← made_ints]; exact h1
    · rw [← made_strs]; exact h0

/-! ## Asked, Add, Free -/
theorem rasked_any (w : World) (r hb sb : Nat) (held : List Int) (S : List ByteArray) (s : Int) (h : IsRP w r hb sb held S) :
    Calls Tryd.prog 75 #[.pointer (some ⟨r, 0, none⟩), .int .i64 s] w fun e w' => e = .returned (.int .i64 (asked held s)) ∧ w = w' := by
  have c0 := h.c0
  have hs := h.small
  by_cases h1 : s < 0
  · rw [asked_out (.inl h1)]
    clear h
    go_enter Tryd.func75, Tryd.ntmps75
    go_wp2
    go_ret
    exact ⟨rfl, rfl⟩
  · by_cases h2 : (held.length : Int) ≤ s
    · rw [asked_out (.inr h2)]
      clear h
      go_enter Tryd.func75, Tryd.ntmps75
      go_wp2
      go_ret
      exact ⟨rfl, rfl⟩
    · obtain ⟨k, rfl⟩ := Int.eq_ofNat_of_zero_le (show 0 ≤ s by omega)
      have hk : k < held.length := by omega
      have hc := h.at hk
      rw [asked_nat hk]
      clear h
      generalize held[k] = v at *
      by_cases hv : v = 0
      · subst hv
        go_enter Tryd.func75, Tryd.ntmps75
        go_wp2
        go_ret
        exact ⟨rfl, rfl⟩
      · have hv' : (v == 0) = false := by simp [hv]
        rw [if_neg hv]
        clear hv
        go_enter Tryd.func75, Tryd.ntmps75
        go_wp2
        go_ret
        exact ⟨rfl, rfl⟩
theorem radd_no (w : World) (r hb sb : Nat) (held : List Int) (S : List ByteArray) (s n : Int) (hz : asked held s ≠ 0) (h : IsRP w r hb sb held S) :
    Calls Tryd.prog 35 #[.pointer (some ⟨r, 0, none⟩), .int .i64 s, .int .i64 n] w fun e w' => e = .returned (.int .i64 (asked held s)) ∧ w = w' := by
  have HR := Lib.hid h
  obtain ⟨q, hq⟩ : ∃ q, q = asked held s := ⟨_, rfl⟩
  rw [← hq] at hz ⊢
  have hz' : (q == 0) = false := by simp [hz]
  have HQ := Lib.hid hq
  clear h hz hq
  go_enter Tryd.func35, Tryd.ntmps35
  go_wp2_with fail
  refine (rasked_any _ r hb sb held S s HR.out).mono ?_
  rintro e w1 ⟨rfl, rfl⟩
  rw [← HQ.out]
  go_wp2_with fail
  go_ret
  exact ⟨rfl, rfl⟩
set_option maxHeartbeats 800000 in
theorem radd_ok (w : World) (r hb sb : Nat) (held : List Int) (S : List ByteArray) (k : Nat) (n : Int) (hk : k < held.length) (hne : held[k] ≠ 0) (hb0 : 0 ≤ held[k] ∧ held[k] ≤ 1000000) (hn1 : n = 1 ∨ n = -1) (h : IsRP w r hb sb held S) :
    Calls Tryd.prog 35 #[.pointer (some ⟨r, 0, none⟩), .int .i64 k, .int .i64 n] w fun e w' => e = .returned (.int .i64 0) ∧ IsRP w' r hb sb (held.set k (held[k] + n)) S ∧ Mods [r, hb, sb] w w' := by
  have hz : asked held k = 0 := by rw [asked_nat hk, if_neg hne]
  have hc := h.at hk
  have c0 := h.c0
  have hn := h.small
  have fz := frozen_of_row w hb k _ _ h.row
  have HR := Lib.hid h
  have HZ := Lib.hid hz
  obtain ⟨hb1, hb2⟩ := hb0
  clear h hz hne
  obtain ⟨v, hv⟩ : ∃ v, v = held[k] := ⟨_, rfl⟩
  rw [← hv] at hc hb1 hb2 ⊢
  obtain ⟨z, hz⟩ : ∃ z, z = v + n := ⟨_, rfl⟩
  have hwr : IntKind.i64.wrap (v + n) = z := by rw [IntKind.wrap_i64, hz]; omega
  rw [← hz]
  clear hv hz
  go_enter Tryd.func35, Tryd.ntmps35
  go_wp2_with fail
  refine (rasked_any _ r hb sb held S k HR.out).mono ?_
  rintro e w1 ⟨rfl, rfl⟩
  rw [HZ.out]
  go_wp2_with fail
  go_region
  all_goals
    go_wp2
    go_ret
    exact ⟨rfl, (HR.out.storeHeld (k := k) (v := z) (w' := w.setCell ⟨hb, k, none⟩ (.int .i64 z)) (fun _ _ => rfl)).below (Below.refl _ _).drew (Nat.le_refl _), ((Mods.refl _ w).setCell (.inl (by simp)) _).drew⟩
theorem countP_take_succ {held : List Int} {t : Nat} (h : t < held.length) (p : Int → Bool) : (held.take (t + 1)).countP p = (held.take t).countP p + if p held[t] then 1 else 0 := by
  rw [List.take_succ_eq_append_getElem h, List.countP_append]
  simp [List.countP_cons]
set_option maxHeartbeats 800000 in
theorem rfree_any (w : World) (r hb sb : Nat) (held : List Int) (S : List ByteArray) (h : IsRP w r hb sb held S) :
    Calls Tryd.prog 41 #[.pointer (some ⟨r, 0, none⟩)] w fun e w' => e = .returned (.int .i64 (frees held : Int)) ∧ w = w' := by
  have c0 := h.c0
  have hn := h.small
  have HR := Lib.hid h
  clear h
  go_enter Tryd.func41, Tryd.ntmps41
  go_wp2_with fail
  go_loopw [3, 4] (fun c i wx => ∃ (t m : Nat), t ≤ held.length ∧ i = .int .i64 t ∧ c = .int .i64 m ∧ m ≤ t ∧ Hid (m = frees (held.take t)) ∧ wx = w) (fun _ i _ => held.length - (intOf i).toNat)
  case atStart => exact ⟨0, 0, by omega, rfl, rfl, by omega, Lib.hid rfl, rfl⟩
  case round =>
    obtain ⟨t, m, ht, rfl, rfl, hm, HM, rfl⟩ := hrel
    by_cases hlt : t < held.length
    · have hc := HR.out.at hlt
      have hs := countP_take_succ hlt (· == 0)
      generalize held[t] = v at hc hs
      by_cases hv : v = 0
      · have HS := Lib.hid hs
        subst hv
        clear hs
        go_wp2_with fail
        go_roundw
        case rel => exact ⟨t + 1, m + 1, by omega, by go_num, by go_num, by omega, Lib.hid (by rw [frees, HS.out, ← frees, ← HM.out]; simp), by trivial⟩
        case measure => simp [intOf]; omega
      · have HS := Lib.hid hs
        have hv' : (v == 0) = false := by simp [hv]
        clear hs hv
        go_wp2_with fail
        go_roundw
        case rel => exact ⟨t + 1, m, by omega, by go_num, rfl, by omega, Lib.hid (by rw [frees, HS.out, ← frees, ← HM.out, hv']; simp), by trivial⟩
        case measure => simp [intOf]; omega
    · have htn : t = held.length := by omega
      have hm2 : (frees held : Int) = m := by rw [HM.out, htn, List.take_length]
      have HM2 := Lib.hid hm2
      have HT := Lib.hid htn
      clear hm2 htn
      go_wp2_with fail
      go_ret
      exact ⟨by rw [HM2.out]; rfl, rfl⟩

/-! ## Take -/
set_option maxHeartbeats 800000 in
theorem rtake_full (w : World) (r hb sb : Nat) (held : List Int) (S : List ByteArray) (hall : ∀ j (h : j < held.length), held[j] ≠ 0) (h : IsRP w r hb sb held S) :
    Calls Tryd.prog 34 #[.pointer (some ⟨r, 0, none⟩)] w fun e w' => e = .returned (.tuple #[.int .i64 0, .int .i64 18]) ∧ w = w' := by
  have c0 := h.c0
  have hn := h.small
  have HR := Lib.hid h
  have HA := Lib.hid hall
  clear h hall
  go_enter Tryd.func34, Tryd.ntmps34
  go_wp2_with fail
  go_loopw [4] (fun i wx => ∃ (t : Nat), t ≤ held.length ∧ i = .int .i64 t ∧ wx = w) (fun i _ => held.length - (intOf i).toNat)
  case atStart => exact ⟨0, by omega, rfl, rfl⟩
  case round =>
    obtain ⟨t, ht, rfl, rfl⟩ := hrel
    by_cases hlt : t < held.length
    · have hc := HR.out.at hlt
      have hv : (held[t] == 0) = false := by simp [HA.out t hlt]
      generalize held[t] = v at hc hv
      go_wp2_with fail
      go_roundw
      case rel => exact ⟨t + 1, by omega, by go_num, by trivial⟩
      case measure => simp [intOf]; omega
    · have htn : t = held.length := by omega
      have HT := Lib.hid htn
      clear htn
      go_wp2_with fail
      go_ret2
      exact ⟨rfl, rfl⟩
/-- What the document's Take makes of a world: a number held, a new block or two, a text. -/
structure RTook (w w' : World) (r hb sb k : Nat) (held : List Int) (S : List ByteArray) : Prop where
  pool : IsRP w' r hb sb (held.set k 1) (S.set k ⟨zeroSec.toArray⟩)
  mods : Mods [r, hb, sb] w w'
set_option maxRecDepth 100000 in
set_option maxHeartbeats 1600000 in
theorem rtake_at (w : World) (r hb sb : Nat) (held : List Int) (S : List ByteArray) (k : Nat) (hk : k < held.length) (hz : held[k] = 0) (hall : ∀ j (h : j < k), held[j] ≠ 0) (h : IsRP w r hb sb held S) :
    Calls Tryd.prog 34 #[.pointer (some ⟨r, 0, none⟩)] w fun e w' => e = .returned (.tuple #[.int .i64 k, .int .i64 0]) ∧ RTook w w' r hb sb k held S := by
  have c0 := h.c0
  have c1 := h.c1
  have hn := h.small
  have HR := Lib.hid h
  have HA := Lib.hid hall
  have HZ := Lib.hid hz
  clear h hall hz
  go_enter Tryd.func34, Tryd.ntmps34
  go_wp2_with fail
  go_loopw [4] (fun i wx => ∃ (t : Nat), t ≤ k ∧ i = .int .i64 t ∧ wx = w) (fun i _ => k - (intOf i).toNat)
  case atStart => exact ⟨0, by omega, rfl, rfl⟩
  case round =>
    obtain ⟨t, ht, rfl, rfl⟩ := hrel
    have htl : t < held.length := by omega
    by_cases hlt : t < k
    · have hc := HR.out.at htl
      have hv : (held[t] == 0) = false := by simp [HA.out t hlt]
      generalize held[t] = v at hc hv
      go_wp2_with fail
      go_roundw
      case rel => exact ⟨t + 1, by omega, by go_num, by trivial⟩
      case measure => simp [intOf]; omega
    · have htk : t = k := by omega
      subst htk
      have hc := HR.out.at htl
      rw [HZ.out] at hc
      have hsl : t < S.length := by rw [HR.out.len]; exact htl
      have hsc := HR.out.strAt hsl
      have fz := frozen_of_row wr hb t _ _ HR.out.row
      have fs := frozen_of_row wr sb t _ _ HR.out.str
      have n1 := HR.out.nrh
      have n2 := HR.out.nrs
      have n3 := HR.out.nhs
      have n4 := Ne.symm n3
      have l3 := HR.out.lt
      obtain ⟨l1, l2, l3⟩ := l3
      generalize S[t] = sv at hsc
      go_upto_region 6 with (fail)
      have h1 := HR.out.storeHeld (k := t) (v := 1) (w' := wr.setCell ⟨hb, t, none⟩ (.int .i64 1)) (fun _ _ => rfl)
      have m1 := (Mods.refl [r, hb, sb] wr).setCell (p := ⟨hb, t, none⟩) (.inl (by simp)) (.int .i64 1)
      have HRA := Lib.hid h1
      have HMA := Lib.hid m1
      clear h1 m1
      have hsl2 : t < S.length := hsl
      have HSL := Lib.hid hsl
      clear hsl c0 c1 hc hsc fz fs
      generalize (wr.setCell ⟨hb, t, none⟩ (.int .i64 1)) = A at HRA HMA ⊢
      have a1 := HRA.out.c1
      rw [List.length_set] at a1
      go_region_with (go_at_call 23; go_must (refine (rfill_any _ ⟨#[]⟩ 64 (by decide) (by decide) (by decide)).mono ?_); rintro e w5 ⟨rfl, hb5⟩; rw [show fillB ⟨#[]⟩ (Int.toNat 64) = ⟨zeroSec.toArray⟩ from fillB_none]; have hb5 : Below A.heap.size A w5 := ⟨hb5.os, hb5.tape, hb5.output, hb5.size, hb5.block⟩; have HR5 := Lib.hid (HRA.out.below hb5 (Nat.le_refl _)); have HM5 := Lib.hid (HMA.out.trans (Mods.of_below hb5)); have a15 := HR5.out.c1; rw [List.length_set] at a15; have s15 := HR5.out.strAt HSL.out; have f15 := frozen_of_row w5 sb t _ _ HR5.out.str; clear hb5)
      all_goals
        go_wp2_with fail
        go_ret2
        exact ⟨rfl, HR5.out.storeStr (fun _ _ => rfl), HM5.out.setCell (.inl (by simp)) _⟩
end Go.Proofs.YtacpfkimjaihgaaDoor
