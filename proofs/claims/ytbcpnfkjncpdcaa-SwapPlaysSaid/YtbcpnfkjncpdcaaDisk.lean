/- Package block: what New, Sectors, Read, Write, Seal, Reads, Writes do to a disk, said of its two blocks. -/
import Derived.Test.YtbcpnfkjncpdcaaLib
namespace Go.Proofs.Ytbcpnfkjncpdcaa
open Go.RowKit

/-- A disk: its sectors' bytes, how many are sealed, how often it was read and written. -/
structure DM where
  secs : List (List UInt8)
  sealed_ : Int
  reads : Int
  writes : Int

structure IsDisk (w : World) (d bb : Nat) (D : DM) : Prop where
  head : w.heap[d]? = some (.cells [Value.slice (some ⟨bb, 0, none⟩) (D.secs.length * 64) (D.secs.length * 64), .int .i64 D.sealed_, .int .i64 D.reads, .int .i64 D.writes].toArray 53 (0, 0))
  row : w.heap[bb]? = some (.cells (bv D.secs.flatten).toArray 5 (0, 0))
  each : ∀ s ∈ D.secs, s.length = 64
  small : D.secs.length ≤ 16384

theorem IsDisk.ne {w : World} {d bb : Nat} {D : DM} (h : IsDisk w d bb D) : d ≠ bb := by
  intro e
  have h1 := h.head
  rw [e, h.row] at h1
  simp at h1
theorem IsDisk.mods {S : List Nat} {w w' : World} {d bb : Nat} {D : DM} (h : IsDisk w d bb D) (hm : Mods S w w') (h1 : d ∉ S) (h2 : bb ∉ S) : IsDisk w' d bb D :=
  ⟨(hm.block d (lt_of_block h.head) h1).trans h.head, (hm.block bb (lt_of_block h.row) h2).trans h.row, h.each, h.small⟩
theorem IsDisk.below {B : Nat} {w w' : World} {d bb : Nat} {D : DM} (h : IsDisk w d bb D) (hb : Below B w w') (hB : w.heap.size ≤ B) : IsDisk w' d bb D :=
  ⟨(hb.block d (Nat.lt_of_lt_of_le (lt_of_block h.head) hB)).trans h.head, (hb.block bb (Nat.lt_of_lt_of_le (lt_of_block h.row) hB)).trans h.row, h.each, h.small⟩

theorem flat_length : ∀ (l : List (List UInt8)), (∀ s ∈ l, s.length = 64) → l.flatten.length = l.length * 64 := by
  intro l
  induction l with
  | nil => intro _; rfl
  | cons a l ih => intro h; rw [List.flatten_cons, List.length_append, h a (by simp), ih (fun s hs => h s (by simp [hs]))]; simp; omega
theorem flat_get : ∀ (l : List (List UInt8)), (∀ s ∈ l, s.length = 64) → ∀ k j (h : k < l.length) (hj : j < l[k].length), l.flatten[k * 64 + j]? = some (l[k][j]) := by
  intro l
  induction l with
  | nil => intro _ k j h; exact absurd h (by simp)
  | cons a l ih =>
    intro h k j hk hj
    have ha := h a (by simp)
    rw [List.flatten_cons]
    cases k with
    | zero =>
      simp only [List.getElem_cons_zero] at hj ⊢
      rw [List.getElem?_append_left (by omega)]
      simp [hj]
    | succ k =>
      rw [List.getElem?_append_right (by omega), ha, show (k + 1) * 64 + j - 64 = k * 64 + j from by omega]
      exact ih (fun s hs => h s (by simp [hs])) k j (by simpa using hk) (by simpa using hj)
theorem IsDisk.cell {w : World} {d bb : Nat} {D : DM} (h : IsDisk w d bb D) {k : Nat} (hk : k < D.secs.length) {j : Nat} (hj : j < D.secs[k].length) : w.cell? ⟨bb, k * 64 + j, none⟩ = some (.int .u8 (D.secs[k][j].toNat : Int)) := by
  rw [cell_of_row w _ _ _ _ _ h.row]
  have := flat_get D.secs h.each k j hk hj
  have hlt := (List.getElem?_eq_some_iff.1 this)
  obtain ⟨hlt, he⟩ := hlt
  have := bv_get D.secs.flatten (k * 64 + j) hlt
  rw [he] at this
  simpa using this

theorem cell_far {w : World} {b o d e : Nat} (v : Value) (s : Option Nat) (h : b ≠ d) : (w.setCell ⟨d, e, s⟩ v).cell? ⟨b, o, none⟩ = w.cell? ⟨b, o, none⟩ :=
  World.cell?_of_block (Below.heap_setCell _ _ _ _ h)
/-- The disk behind a store into its head, and new blocks. -/
theorem IsDisk.store {w w' : World} {d bb : Nat} {D D' : DM} {j : Nat} {v : Value} (h : IsDisk w d bb D) (hm : ∀ k, k < w.heap.size → w'.heap[k]? = (w.setCell ⟨d, j, none⟩ v).heap[k]?) (hs : D'.secs = D.secs)
    (he : [Value.slice (some ⟨bb, 0, none⟩) (D.secs.length * 64) (D.secs.length * 64), .int .i64 D.sealed_, .int .i64 D.reads, .int .i64 D.writes].set j v = [Value.slice (some ⟨bb, 0, none⟩) (D.secs.length * 64) (D.secs.length * 64), .int .i64 D'.sealed_, .int .i64 D'.reads, .int .i64 D'.writes]) : IsDisk w' d bb D' := by
  refine ⟨?_, ?_, by rw [hs]; exact h.each, by rw [hs]; exact h.small⟩
  · rw [hm d (lt_of_block h.head), row_setCell h.head, he, hs]
  · rw [hm bb (lt_of_block h.row), Below.heap_setCell _ _ _ _ (Ne.symm h.ne), h.row, hs]

set_option maxHeartbeats 400000 in
theorem read_in (w : World) (d bb : Nat) (D : DM) (at_ : Int) (h0 : 0 ≤ at_) (h1 : at_ < D.secs.length) (hr : 0 ≤ D.reads ∧ D.reads ≤ 1000000) (h : IsDisk w d bb D) :
    Calls Try.prog 19 #[.pointer (some ⟨d, 0, none⟩), .int .i64 at_] w fun e w' =>
      e = .returned (.tuple #[.string ⟨(D.secs.getD at_.toNat []).toArray⟩, .int .i64 0]) ∧ IsDisk w' d bb { D with reads := D.reads + 1 } ∧ Mods [d] w w' := by
  obtain ⟨k, rfl⟩ := Int.eq_ofNat_of_zero_le h0
  rw [Int.toNat_natCast]
  have hk : k < D.secs.length := by omega
  obtain ⟨hr1, hr2⟩ := hr
  have hd := lt_of_block h.head
  have hb := lt_of_block h.row
  have c0 := cell_of_row w d 0 _ _ _ h.head
  have c1 := cell_of_row w d 2 _ _ _ h.head
  have f1 := frozen_of_row w d 2 _ _ h.head
  simp at c0 c1
  have hs := h.small
  have h64 : (D.secs[k]).length = 64 := h.each _ (List.getElem_mem _)
  have hcv := run_string_of (P := Try.prog) Try.underlying51 Try.underlying5 Try.underlying9 (((w.setCell ⟨d, 2, none⟩ (.int .i64 (D.reads + 1))).alloc (.cells #[.pointer (some ⟨d, 0, none⟩)] 25)).alloc (.cells #[.string ⟨#[]⟩] 9)) bb (k * 64) 64 64 (D.secs[k]) h64 (fun j hj => by
    rw [World.cell?_alloc_past _ _ _ (by simp; omega), World.cell?_alloc_past _ _ _ (by simpa using hb), cell_far _ _ (Ne.symm h.ne)]
    exact h.cell hk hj)
  have HD := Lib.hid h
  have hgd : D.secs.getD k [] = D.secs[k] := by simp [List.getD, hk]
  rw [hgd]
  clear h h64 hgd
  go_enter Try.func19, Try.ntmps19
  go_wp2_with (first | go_in)
  go_ret2
  refine ⟨rfl, HD.out.store (j := 2) (v := .int .i64 (D.reads + 1)) (fun k hk => ?_) rfl rfl, (((Mods.refl [d] w).setCell (.inl (by simp)) _).alloc _).alloc _⟩
  rw [Below.heap_alloc _ _ _ (by simp; omega), Below.heap_alloc _ _ _ (by simpa using hk)]

set_option maxHeartbeats 400000 in
/-- Outside: of a disk, whose bytes' row has a length (a zero one has none). -/
theorem read_out (w : World) (d n c : Nat) (a : Option Addr) (at_ : Int) (h1 : at_ < 0 ∨ n ≤ at_) (hn : n ≤ 16384) (h : w.cell? ⟨d, 0, none⟩ = some (.slice a (n * 64) c)) :
    Calls Try.prog 19 #[.pointer (some ⟨d, 0, none⟩), .int .i64 at_] w fun e w' => e = .returned (.tuple #[.string ⟨#[]⟩, .int .i64 14]) ∧ Below w.heap.size w w' := by
  have hd := World.block_lt_of_cell? w _ h
  simp only at hd
  rcases h1 with h1 | h1
  all_goals
    go_enter Try.func19, Try.ntmps19
    go_wp2_with (first | go_in)
    go_ret2
    exact ⟨rfl, (((Below.refl _ _).alloc (Nat.le_refl _) _).alloc (by simp) _)⟩
set_option maxHeartbeats 400000 in
theorem read_nil (w : World) (at_ : Int) : Calls Try.prog 19 #[.pointer none, .int .i64 at_] w fun e w' => e = .returned (.tuple #[.string ⟨#[]⟩, .int .i64 1]) ∧ Below w.heap.size w w' := by
  go_enter Try.func19, Try.ntmps19
  go_wp2_with (first | go_in)
  go_ret2
  exact ⟨rfl, (((Below.refl _ _).alloc (Nat.le_refl _) _).alloc (by simp) _)⟩

set_option maxHeartbeats 400000 in
theorem sectors_any (w : World) (d n c : Nat) (a : Option Addr) (hn : n ≤ 16384) (h : w.cell? ⟨d, 0, none⟩ = some (.slice a (n * 64) c)) :
    Calls Try.prog 20 #[.pointer (some ⟨d, 0, none⟩)] w fun e w' => e = .returned (.int .i64 n) ∧ w = w' := by
  go_enter Try.func20, Try.ntmps20
  go_wp2
  go_ret
  exact ⟨rfl, rfl⟩
theorem sectors_nil (w : World) : Calls Try.prog 20 #[.pointer none] w fun e w' => e = .returned (.int .i64 0) ∧ w = w' := by
  go_enter Try.func20, Try.ntmps20
  go_wp2
  go_ret
  exact ⟨rfl, rfl⟩
theorem reads_any (w : World) (d : Nat) (v : Int) (h : w.cell? ⟨d, 2, none⟩ = some (.int .i64 v)) :
    Calls Try.prog 25 #[.pointer (some ⟨d, 0, none⟩)] w fun e w' => e = .returned (.int .i64 v) ∧ w = w' := by
  go_enter Try.func25, Try.ntmps25
  go_wp2
  go_ret
  exact ⟨rfl, rfl⟩
theorem reads_nil (w : World) : Calls Try.prog 25 #[.pointer none] w fun e w' => e = .returned (.int .i64 0) ∧ w = w' := by
  go_enter Try.func25, Try.ntmps25
  go_wp2
  go_ret
  exact ⟨rfl, rfl⟩
theorem writes_any (w : World) (d : Nat) (v : Int) (h : w.cell? ⟨d, 3, none⟩ = some (.int .i64 v)) :
    Calls Try.prog 30 #[.pointer (some ⟨d, 0, none⟩)] w fun e w' => e = .returned (.int .i64 v) ∧ w = w' := by
  go_enter Try.func30, Try.ntmps30
  go_wp2
  go_ret
  exact ⟨rfl, rfl⟩
theorem writes_nil (w : World) : Calls Try.prog 30 #[.pointer none] w fun e w' => e = .returned (.int .i64 0) ∧ w = w' := by
  go_enter Try.func30, Try.ntmps30
  go_wp2
  go_ret
  exact ⟨rfl, rfl⟩
theorem IsDisk.c0 {w : World} {d bb : Nat} {D : DM} (h : IsDisk w d bb D) : w.cell? ⟨d, 0, none⟩ = some (.slice (some ⟨bb, 0, none⟩) (D.secs.length * 64) (D.secs.length * 64)) := by
  rw [cell_of_row w d 0 _ _ _ h.head]; rfl
theorem IsDisk.c1 {w : World} {d bb : Nat} {D : DM} (h : IsDisk w d bb D) : w.cell? ⟨d, 1, none⟩ = some (.int .i64 D.sealed_) := by
  rw [cell_of_row w d 1 _ _ _ h.head]; rfl
theorem IsDisk.c2 {w : World} {d bb : Nat} {D : DM} (h : IsDisk w d bb D) : w.cell? ⟨d, 2, none⟩ = some (.int .i64 D.reads) := by
  rw [cell_of_row w d 2 _ _ _ h.head]; rfl
theorem IsDisk.c3 {w : World} {d bb : Nat} {D : DM} (h : IsDisk w d bb D) : w.cell? ⟨d, 3, none⟩ = some (.int .i64 D.writes) := by
  rw [cell_of_row w d 3 _ _ _ h.head]; rfl

set_option maxHeartbeats 400000 in
theorem seal_any (w : World) (d bb : Nat) (D : DM) (n : Int) (h : IsDisk w d bb D) :
    Calls Try.prog 22 #[.pointer (some ⟨d, 0, none⟩), .int .i64 n] w fun e w' => e = .returned (.tuple #[]) ∧ IsDisk w' d bb { D with sealed_ := max D.sealed_ n } ∧ Mods [d] w w' := by
  have c1 := h.c1
  have f1 := frozen_of_row w d 1 _ _ h.head
  have HD := Lib.hid h
  clear h
  go_enter Try.func22, Try.ntmps22
  go_wp2
  · have hm : max D.sealed_ n = n := by omega
    rw [hm]
    go_end0
    exact ⟨rfl, HD.out.store (j := 1) (fun k hk => rfl) rfl rfl, (Mods.refl [d] w).setCell (.inl (by simp)) _⟩
  · have hm : max D.sealed_ n = D.sealed_ := by omega
    rw [hm]
    go_end0
    exact ⟨rfl, HD.out.store (j := 1) (fun k hk => rfl) rfl rfl, (Mods.refl [d] w).setCell (.inl (by simp)) _⟩

set_option maxHeartbeats 400000 in
theorem write_nil (w : World) (at_ : Int) (str : ByteArray) : Calls Try.prog 23 #[.pointer none, .int .i64 at_, .string str] w fun e w' => e = .returned (.int .i64 1) ∧ Below w.heap.size w w' := by
  go_enter Try.func23, Try.ntmps23
  go_wp2_with (first | go_in)
  go_ret
  exact ⟨rfl, ((((Below.refl _ _).alloc (Nat.le_refl _) _).alloc (by simp) _).alloc (by simp; omega) _)⟩
set_option maxHeartbeats 400000 in
theorem write_out (w : World) (d n c : Nat) (a : Option Addr) (at_ : Int) (str : ByteArray) (h1 : at_ < 0 ∨ n ≤ at_) (hn : n ≤ 16384) (h : w.cell? ⟨d, 0, none⟩ = some (.slice a (n * 64) c)) :
    Calls Try.prog 23 #[.pointer (some ⟨d, 0, none⟩), .int .i64 at_, .string str] w fun e w' => e = .returned (.int .i64 14) ∧ Below w.heap.size w w' := by
  have hd := World.block_lt_of_cell? w _ h
  simp only at hd
  have hd1 : d < w.heap.size + 1 := by omega
  have hd2 : d < w.heap.size + 2 := by omega
  have hd3 : d < w.heap.size + 1 + 1 := by omega
  rcases h1 with h1 | h1
  all_goals
    go_enter Try.func23, Try.ntmps23
    go_wp2_with (first | go_in)
    go_ret
    exact ⟨rfl, ((((Below.refl _ _).alloc (Nat.le_refl _) _).alloc (by simp) _).alloc (by simp; omega) _)⟩
set_option maxHeartbeats 400000 in
theorem write_short (w : World) (d n bb : Nat) (at_ : Int) (str : ByteArray) (h0 : 0 ≤ at_) (h1 : at_ < n) (hn : n ≤ 16384) (h : w.cell? ⟨d, 0, none⟩ = some (.slice (some ⟨bb, 0, none⟩) (n * 64) (n * 64))) (hs : str.size ≠ 64) :
    Calls Try.prog 23 #[.pointer (some ⟨d, 0, none⟩), .int .i64 at_, .string str] w fun e w' => e = .returned (.int .i64 1) ∧ Below w.heap.size w w' := by
  obtain ⟨k, rfl⟩ := Int.eq_ofNat_of_zero_le h0
  have hk : k < n := by omega
  have hd := World.block_lt_of_cell? w _ h
  simp only at hd
  have hd1 : d < w.heap.size + 1 := by omega
  have hd2 : d < w.heap.size + 2 := by omega
  have hd3 : d < w.heap.size + 1 + 1 := by omega
  have hne : ((str.size : Int) != 64) = true := by simp; omega
  go_enter Try.func23, Try.ntmps23
  go_wp2_with (first | go_in)
  go_ret
  exact ⟨rfl, ((((Below.refl _ _).alloc (Nat.le_refl _) _).alloc (by simp) _).alloc (by simp; omega) _)⟩
set_option maxHeartbeats 400000 in
theorem write_sealed (w : World) (d bb : Nat) (D : DM) (at_ : Int) (str : ByteArray) (h0 : 0 ≤ at_) (h1 : at_ < D.secs.length) (hse : at_ < D.sealed_) (hs : str.size = 64) (h : IsDisk w d bb D) :
    Calls Try.prog 23 #[.pointer (some ⟨d, 0, none⟩), .int .i64 at_, .string str] w fun e w' => e = .returned (.int .i64 13) ∧ Below w.heap.size w w' := by
  obtain ⟨k, rfl⟩ := Int.eq_ofNat_of_zero_le h0
  have hk : k < D.secs.length := by omega
  have c0 := h.c0
  have c1 := h.c1
  have hd := lt_of_block h.head
  have hd1 : d < w.heap.size + 1 := by omega
  have hd2 : d < w.heap.size + 2 := by omega
  have hd3 : d < w.heap.size + 1 + 1 := by omega
  have hn := h.small
  have hne : ((str.size : Int) != 64) = false := by simp; omega
  have HS := Lib.hid hs
  clear h hs
  go_enter Try.func23, Try.ntmps23
  go_wp2_with (first | go_in)
  go_quiet (fail)
  go_wp2
  go_ret
  exact ⟨rfl, below_drewN ((((Below.refl _ _).alloc (Nat.le_refl _) _).alloc (by simp) _).alloc (by simp; omega) _) _⟩
theorem splice_flat : ∀ (l : List (List UInt8)), (∀ s ∈ l, s.length = 64) → ∀ k (_ : k < l.length) (x : List UInt8), x.length = 64 → splice (bv l.flatten) (k * 64) (bv x) = bv (l.set k x).flatten := by
  intro l
  induction l with
  | nil => intro _ k h; exact absurd h (by simp)
  | cons a l ih =>
    intro h k hk x hx
    have ha := h a (by simp)
    cases k with
    | zero =>
      simp only [splice, Nat.zero_mul, List.take_zero, List.nil_append, Nat.zero_add, bv_length, hx, List.set_cons_zero, List.flatten_cons, bv_append]
      rw [List.drop_append_of_le_length (by rw [bv_length]; omega), List.drop_of_length_le (by rw [bv_length]; omega), List.nil_append]
    | succ k =>
      have := ih (fun s hs => h s (by simp [hs])) k (by simpa using hk) x hx
      simp only [splice, bv_length, hx, List.set_cons_succ, List.flatten_cons, bv_append] at this ⊢
      rw [← this, show (k + 1) * 64 = (bv a).length + k * 64 from by rw [bv_length]; omega, List.take_length_add_append, show (bv a).length + k * 64 + 64 = (bv a).length + (k * 64 + 64) from by omega, List.drop_length_add_append, List.append_assoc]

theorem Try.info5s : (Try.prog.info? 5).map (·.size) = some 1 := by kernel_rfl
set_option maxHeartbeats 400000 in
theorem write_ok (w : World) (d bb : Nat) (D : DM) (at_ : Int) (str : ByteArray) (h0 : 0 ≤ at_) (h1 : at_ < D.secs.length) (hse : D.sealed_ ≤ at_) (hs : str.size = 64) (hw : 0 ≤ D.writes ∧ D.writes ≤ 1000000) (h : IsDisk w d bb D) :
    Calls Try.prog 23 #[.pointer (some ⟨d, 0, none⟩), .int .i64 at_, .string str] w fun e w' => e = .returned (.int .i64 0) ∧ IsDisk w' d bb { D with secs := D.secs.set at_.toNat str.data.toList, writes := D.writes + 1 } ∧ Mods [d, bb] w w' := by
  obtain ⟨k, rfl⟩ := Int.eq_ofNat_of_zero_le h0
  rw [Int.toNat_natCast]
  have hk : k < D.secs.length := by omega
  obtain ⟨hw1, hw2⟩ := hw
  have c0 := h.c0
  have c1 := h.c1
  have c3 := h.c3
  have f3 := frozen_of_row w d 3 _ _ h.head
  have hd := lt_of_block h.head
  have hd1 : d < w.heap.size + 1 := by omega
  have hd2 : d < w.heap.size + 2 := by omega
  have hd3 : d < w.heap.size + 1 + 1 := by omega
  have hb := lt_of_block h.row
  have hn := h.small
  have hne : ((str.size : Int) != 64) = false := by simp; omega
  have hl64 : str.data.toList.length = 64 := by rw [Array.length_toList]; exact hs
  have hl : str.data.toList = str.data.toList.take 64 := by rw [List.take_of_length_le (by omega)]
  have HD := Lib.hid h
  have HL := Lib.hid hl
  have HL64 := Lib.hid hl64
  clear h hs hl hl64
  go_enter Try.func23, Try.ntmps23
  go_wp2_with (first | go_in)
  go_quiet (fail)
  go_wp2_with (refine wpList_copy_string (o := ⟨some 26, _, _, _, _, _⟩) _ rfl _ _ 51 9 rfl 5 Try.underlying51 Try.info5s bb (k * 64) 64 64 str rfl rfl (bv D.secs.flatten) 5 ?_ str.data.toList HL.out ?_ ?_; rotate_right; intro w2 hrow hmod hsz)
  · go_ret
    have hold : ∀ i, i < w.heap.size → ((((w.alloc (Obj.cells #[Value.pointer (some { block := d, off := 0 })] 25)).alloc (Obj.cells #[Value.int IntKind.i64 ↑k] 3)).alloc (Obj.cells #[Value.string str] 9)).drewN nq).heap[i]? = w.heap[i]? := by
      intro i hi
      show (((w.alloc _).alloc _).alloc _).heap[i]? = _
      rw [Below.heap_alloc _ _ _ (by simp; omega), Below.heap_alloc _ _ _ (by simp; omega), Below.heap_alloc _ _ _ hi]
    refine ⟨rfl, ⟨?_, ?_, ?_, ?_⟩, ?_⟩
    · rw [hmod.block d (by simp; omega) (by simp [HD.out.ne])]
      have := row_setCell (j := 3) (v := .int .i64 (D.writes + 1)) ((hold d hd).trans HD.out.head)
      rw [this]
      simp
    · rw [hrow, splice_flat _ HD.out.each k hk _ HL64.out]
    · intro x hx
      rcases List.mem_or_eq_of_mem_set hx with hx | hx
      · exact HD.out.each x hx
      · rw [hx]; exact HL64.out
    · simpa using hn
    · refine Mods.trans ?_ (hmod.mono (by simp))
      exact ((((((Mods.refl [d, bb] w).alloc _).alloc _).alloc _).drewN nq).setCell (.inl (by simp)) _)
  · rw [Below.heap_setCell _ _ _ _ (Ne.symm HD.out.ne)]
    show (((w.alloc _).alloc _).alloc _).heap[bb]? = _
    rw [Below.heap_alloc _ _ _ (by simp; omega), Below.heap_alloc _ _ _ (by simp; omega), Below.heap_alloc _ _ _ hb]
    exact HD.out.row
  · rw [bv_length, flat_length _ HD.out.each, HL64.out]; omega
theorem seal_nil (w : World) (n : Int) : Calls Try.prog 22 #[.pointer none, .int .i64 n] w fun e w' => e = .returned (.tuple #[]) ∧ w = w' := by
  go_enter Try.func22, Try.ntmps22
  go_wp2
  go_end0
  exact ⟨rfl, rfl⟩
end Go.Proofs.Ytbcpnfkjncpdcaa
