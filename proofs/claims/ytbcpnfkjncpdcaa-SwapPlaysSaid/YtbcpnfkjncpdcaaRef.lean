/- The document's disk (flyleafref03): what New, Of, Read, Write, Seal do to it, said of its two blocks. -/
import Derived.Test.YtbcpnfkjncpdcaaFill
import Derived.Test.YtbcpnfkjncpdcaaStep
namespace Go.Proofs.Ytbcpnfkjncpdcaa
open Go.RowKit

def strV (l : List (List UInt8)) : List Value := l.map fun s => .string ⟨s.toArray⟩
theorem strV_length (l : List (List UInt8)) : (strV l).length = l.length := by simp [strV]
/-- The document's disk: its head, and its sectors in a row of the call's own. -/
structure IsRef (w : World) (r rb cap : Nat) (D : DM) : Prop where
  head : w.heap[r]? = some (.cells [Value.slice (some ⟨rb, 0, none⟩) D.secs.length cap, .int .i64 D.sealed_, .int .i64 D.reads, .int .i64 D.writes].toArray 33 (0, 0))
  row : ∃ rest, w.heap[rb]? = some (.cells (strV D.secs ++ rest).toArray 9 (0, 0))
  small : D.secs.length ≤ 16384
  capOk : D.secs.length ≤ cap

theorem IsRef.ne {w : World} {r rb cap : Nat} {D : DM} (h : IsRef w r rb cap D) : r ≠ rb := by
  intro e
  have h1 := h.head
  obtain ⟨rest, hr⟩ := h.row
  rw [e, hr] at h1
  simp at h1
theorem IsRef.lt {w : World} {r rb cap : Nat} {D : DM} (h : IsRef w r rb cap D) : r < w.heap.size ∧ rb < w.heap.size := by
  obtain ⟨rest, hr⟩ := h.row
  exact ⟨lt_of_block h.head, lt_of_block hr⟩
theorem IsRef.mods {S : List Nat} {w w' : World} {r rb cap : Nat} {D : DM} (h : IsRef w r rb cap D) (hm : Mods S w w') (h1 : r ∉ S) (h2 : rb ∉ S) : IsRef w' r rb cap D := by
  obtain ⟨rest, hr⟩ := h.row
  exact ⟨(hm.block r h.lt.1 h1).trans h.head, ⟨rest, (hm.block rb h.lt.2 h2).trans hr⟩, h.small, h.capOk⟩
theorem IsRef.below {B : Nat} {w w' : World} {r rb cap : Nat} {D : DM} (h : IsRef w r rb cap D) (hb : Below B w w') (hB : w.heap.size ≤ B) : IsRef w' r rb cap D := by
  obtain ⟨rest, hr⟩ := h.row
  exact ⟨(hb.block r (Nat.lt_of_lt_of_le h.lt.1 hB)).trans h.head, ⟨rest, (hb.block rb (Nat.lt_of_lt_of_le h.lt.2 hB)).trans hr⟩, h.small, h.capOk⟩
theorem IsRef.c0 {w : World} {r rb cap : Nat} {D : DM} (h : IsRef w r rb cap D) : w.cell? ⟨r, 0, none⟩ = some (.slice (some ⟨rb, 0, none⟩) D.secs.length cap) := by rw [cell_of_row w r 0 _ _ _ h.head]; rfl
theorem IsRef.c1 {w : World} {r rb cap : Nat} {D : DM} (h : IsRef w r rb cap D) : w.cell? ⟨r, 1, none⟩ = some (.int .i64 D.sealed_) := by rw [cell_of_row w r 1 _ _ _ h.head]; rfl
theorem IsRef.c2 {w : World} {r rb cap : Nat} {D : DM} (h : IsRef w r rb cap D) : w.cell? ⟨r, 2, none⟩ = some (.int .i64 D.reads) := by rw [cell_of_row w r 2 _ _ _ h.head]; rfl
theorem IsRef.c3 {w : World} {r rb cap : Nat} {D : DM} (h : IsRef w r rb cap D) : w.cell? ⟨r, 3, none⟩ = some (.int .i64 D.writes) := by rw [cell_of_row w r 3 _ _ _ h.head]; rfl
theorem IsRef.at {w : World} {r rb cap : Nat} {D : DM} (h : IsRef w r rb cap D) {k : Nat} (hk : k < D.secs.length) : w.cell? ⟨rb, k, none⟩ = some (.string ⟨D.secs[k].toArray⟩) := by
  obtain ⟨rest, hr⟩ := h.row
  rw [cell_of_row w rb k _ _ _ hr]
  simp [strV, List.getElem?_append_left, hk]
theorem IsRef.free {w : World} {r rb cap : Nat} {D : DM} (h : IsRef w r rb cap D) (k : Nat) : w.frozen? ⟨rb, k, none⟩ = false := by
  obtain ⟨rest, hr⟩ := h.row
  exact frozen_of_row w rb k _ _ hr
/-- Behind a store into its head. -/
theorem IsRef.store {w w' : World} {r rb cap : Nat} {D D' : DM} {j : Nat} {v : Value} (h : IsRef w r rb cap D) (hm : ∀ k, k < w.heap.size → w'.heap[k]? = (w.setCell ⟨r, j, none⟩ v).heap[k]?) (hs : D'.secs = D.secs)
    (he : [Value.slice (some ⟨rb, 0, none⟩) D.secs.length cap, .int .i64 D.sealed_, .int .i64 D.reads, .int .i64 D.writes].set j v = [Value.slice (some ⟨rb, 0, none⟩) D.secs.length cap, .int .i64 D'.sealed_, .int .i64 D'.reads, .int .i64 D'.writes]) : IsRef w' r rb cap D' := by
  obtain ⟨rest, hr⟩ := h.row
  refine ⟨?_, ⟨rest, ?_⟩, by rw [hs]; exact h.small, by rw [hs]; exact h.capOk⟩
  · rw [hm r h.lt.1, row_setCell h.head, he, hs]
  · rw [hm rb h.lt.2, Below.heap_setCell _ _ _ _ (Ne.symm h.ne), hr, hs]

set_option maxHeartbeats 400000 in
theorem rread_in (w : World) (r rb cap : Nat) (D : DM) (at_ : Int) (h0 : 0 ≤ at_) (h1 : at_ < D.secs.length) (hr : 0 ≤ D.reads ∧ D.reads ≤ 1000000) (h : IsRef w r rb cap D) :
    Calls Try.prog 27 #[.pointer (some ⟨r, 0, none⟩), .int .i64 at_] w fun e w' =>
      e = .returned (.tuple #[.string ⟨(D.secs.getD at_.toNat []).toArray⟩, .int .i64 0]) ∧ IsRef w' r rb cap { D with reads := D.reads + 1 } ∧ Mods [r] w w' := by
  obtain ⟨k, rfl⟩ := Int.eq_ofNat_of_zero_le h0
  rw [Int.toNat_natCast]
  have hk : k < D.secs.length := by omega
  obtain ⟨hr1, hr2⟩ := hr
  have c0 := h.c0
  have c2 := h.c2
  have ck := (cell_far (d := r) (e := 2) (.int .i64 (D.reads + 1)) none (Ne.symm h.ne)).trans (h.at hk)
  have f2 := frozen_of_row w r 2 _ _ h.head
  have hs := h.small
  have hgd : D.secs.getD k [] = D.secs[k] := by simp [List.getD, hk]
  rw [hgd]
  have HD := Lib.hid h
  clear h hgd
  go_enter Try.func27, Try.ntmps27
  go_wp2
  go_ret2
  exact ⟨rfl, HD.out.store (j := 2) (v := .int .i64 (D.reads + 1)) (fun k hk => rfl) rfl rfl, (Mods.refl [r] w).setCell (.inl (by simp)) _⟩
set_option maxHeartbeats 400000 in
theorem rread_out (w : World) (r rb cap : Nat) (D : DM) (at_ : Int) (h1 : at_ < 0 ∨ D.secs.length ≤ at_) (h : IsRef w r rb cap D) :
    Calls Try.prog 27 #[.pointer (some ⟨r, 0, none⟩), .int .i64 at_] w fun e w' => e = .returned (.tuple #[.string ⟨#[]⟩, .int .i64 14]) ∧ w = w' := by
  have c0 := h.c0
  clear h
  rcases h1 with h1 | h1
  all_goals
    go_enter Try.func27, Try.ntmps27
    go_wp2
    go_ret2
    exact ⟨rfl, rfl⟩
set_option maxHeartbeats 400000 in
theorem rseal_any (w : World) (r rb cap : Nat) (D : DM) (n : Int) (h : IsRef w r rb cap D) :
    Calls Try.prog 28 #[.pointer (some ⟨r, 0, none⟩), .int .i64 n] w fun e w' => e = .returned (.tuple #[]) ∧ IsRef w' r rb cap { D with sealed_ := max D.sealed_ n } ∧ Mods [r] w w' := by
  have c1 := h.c1
  have f1 := frozen_of_row w r 1 _ _ h.head
  have HD := Lib.hid h
  clear h
  by_cases hlt : D.sealed_ < n
  · have hm : max D.sealed_ n = n := by omega
    rw [hm]
    clear hm
    go_enter Try.func28, Try.ntmps28
    go_wp2
    go_end0
    exact ⟨rfl, HD.out.store (j := 1) (fun k hk => rfl) rfl rfl, (Mods.refl [r] w).setCell (.inl (by simp)) _⟩
  · have hm : max D.sealed_ n = D.sealed_ := by omega
    rw [hm]
    clear hm
    go_enter Try.func28, Try.ntmps28
    go_wp2
    go_end0
    exact ⟨rfl, HD.out, Mods.refl _ _⟩
set_option maxHeartbeats 400000 in
theorem rwrite_no (w : World) (r rb cap : Nat) (D : DM) (at_ : Int) (str : ByteArray) (h : IsRef w r rb cap D) (er : Int)
    (hc : ((at_ < 0 ∨ D.secs.length ≤ at_) ∧ er = 14) ∨ (0 ≤ at_ ∧ at_ < D.secs.length ∧ str.size ≠ 64 ∧ er = 1) ∨ (0 ≤ at_ ∧ at_ < D.secs.length ∧ str.size = 64 ∧ at_ < D.sealed_ ∧ er = 13)) :
    Calls Try.prog 29 #[.pointer (some ⟨r, 0, none⟩), .int .i64 at_, .string str] w fun e w' => e = .returned (.int .i64 er) ∧ w = w' := by
  have c0 := h.c0
  have c1 := h.c1
  have hs := h.small
  clear h
  rcases hc with ⟨h1 | h1, rfl⟩ | ⟨h0, h1, h2, rfl⟩ | ⟨h0, h1, h2, h3, rfl⟩
  · go_enter Try.func29, Try.ntmps29
    go_wp2
    go_ret
    exact ⟨rfl, rfl⟩
  · go_enter Try.func29, Try.ntmps29
    go_wp2
    go_ret
    exact ⟨rfl, rfl⟩
  · have hne : ((str.size : Int) != 64) = true := by simp; omega
    go_enter Try.func29, Try.ntmps29
    go_wp2
    go_ret
    exact ⟨rfl, rfl⟩
  · have hne : ((str.size : Int) != 64) = false := by simp; omega
    have H2 := Lib.hid h2
    clear h2
    go_enter Try.func29, Try.ntmps29
    go_wp2
    go_ret
    exact ⟨rfl, rfl⟩
set_option maxHeartbeats 400000 in
theorem rwrite_ok (w : World) (r rb cap : Nat) (D : DM) (at_ : Int) (str : ByteArray) (h0 : 0 ≤ at_) (h1 : at_ < D.secs.length) (hse : D.sealed_ ≤ at_) (hs : str.size = 64) (hw : 0 ≤ D.writes ∧ D.writes ≤ 1000000) (h : IsRef w r rb cap D) :
    Calls Try.prog 29 #[.pointer (some ⟨r, 0, none⟩), .int .i64 at_, .string str] w fun e w' => e = .returned (.int .i64 0) ∧ IsRef w' r rb cap { D with secs := D.secs.set at_.toNat str.data.toList, writes := D.writes + 1 } ∧ Mods [r, rb] w w' := by
  obtain ⟨k, rfl⟩ := Int.eq_ofNat_of_zero_le h0
  rw [Int.toNat_natCast]
  have hk : k < D.secs.length := by omega
  obtain ⟨hw1, hw2⟩ := hw
  have c0 := h.c0
  have c1 := h.c1
  have c3 := h.c3
  have ck := h.at hk
  have fk := h.free k
  have f3 := frozen_of_row w r 3 _ _ h.head
  have hne : ((str.size : Int) != 64) = false := by simp; omega
  have c3' := (cell_far (b := r) (o := 3) (d := rb) (e := k) (.string str) none h.ne).trans c3
  have hsm := h.small
  have HD := Lib.hid h
  have HS := Lib.hid hs
  clear h hs
  go_enter Try.func29, Try.ntmps29
  go_wp2
  go_ret
  refine ⟨rfl, ?_, ((Mods.refl [r, rb] w).setCell (.inl (by simp)) _).setCell (.inl (by simp)) _⟩
  obtain ⟨rest, hr⟩ := HD.out.row
  refine ⟨?_, ⟨rest, ?_⟩, by simp only [List.length_set]; exact hsm, by simp only [List.length_set]; exact HD.out.capOk⟩
  · rw [row_setCell ((Below.heap_setCell _ _ _ _ HD.out.ne).trans HD.out.head)]
    simp
  · rw [Below.heap_setCell _ _ _ _ (Ne.symm HD.out.ne), row_setCell hr, List.set_append_left _ _ (by rw [strV_length]; exact hk)]
    simp only [strV, List.map_set]

theorem ownsRow_shape {w : World} {base e size n : Nat} {v : Value} {xs : List Value} (h : w.ownsRow base e size v n xs) :
    ∃ a cap, v = .slice a n cap ∧ ∀ b, a = some b → ∃ g cur, b = ⟨g, 0, none⟩ ∧ base ≤ g ∧ w.heap[g]? = some (.cells cur e (0, 0)) ∧ cur.toList.take (n * size) = xs := by
  rcases h.2 with ⟨rfl, rfl⟩ | ⟨g, cap, cur, rfl, hb, hg, _, _, _, ht⟩
  · exact ⟨none, 0, rfl, fun b hb => by cases hb⟩
  · exact ⟨some ⟨g, 0, none⟩, cap, rfl, fun b hb' => by cases hb'; exact ⟨g, cur, rfl, hb, hg, ht⟩⟩
theorem ownsRow_below {w w' : World} {base e size n : Nat} {v : Value} {xs : List Value} (h : w.ownsRow base e size v n xs) (hb : Below w.heap.size w w') : w'.ownsRow base e size v n xs :=
  h.kept (row := none) ⟨hb.os, hb.tape, hb.output, hb.size, fun k hk _ => hb.block k hk⟩ (by cases v.ownBlock <;> simp)
/-- A block of other elements is beside an owned row. -/
theorem block_beside {w w' : World} {base e size n : Nat} {v : Value} {xs : List Value} (h : w.ownsRow base e size v n xs) (hg : w.grownBy w' v.ownBlock) {r t : Nat} {cs : Array Value} {fr : Nat × Nat} (hr : w.heap[r]? = some (.cells cs t fr)) (ht : t ≠ e) : w'.heap[r]? = some (.cells cs t fr) := by
  rw [hg.block r (lt_of_block hr) ?_, hr]
  rcases h.2 with ⟨rfl, _⟩ | ⟨g, cap, cur, rfl, _, hg', _⟩
  · simp [Value.ownBlock]
  · simp only [Value.ownBlock]
    intro e'
    cases e'
    rw [hg'] at hr
    injection hr with hr
    injection hr with h1 h2 h3
    exact ht h2.symm
theorem ownsRow_store {w : World} {base e size n : Nat} {v : Value} {xs : List Value} (h : w.ownsRow base e size v n xs) {r t : Nat} {cs : Array Value} {fr : Nat × Nat} (hr : w.heap[r]? = some (.cells cs t fr)) (ht : t ≠ e) (j : Nat) (u : Value) : (w.setCell ⟨r, j, none⟩ u).ownsRow base e size v n xs := by
  refine ownsRow_setCell_other h ?_ u
  rcases h.2 with ⟨rfl, _⟩ | ⟨g, cap, cur, rfl, _, hg', _⟩
  · simp [Value.ownBlock]
  · simp only [Value.ownBlock]
    intro e'
    cases e'
    rw [hg'] at hr
    injection hr with hr
    injection hr with h1 h2 h3
    exact ht h2.symm
theorem StrsAt.made (W : World) (n : Nat) : StrsAt (W.alloc (.cells (madeCells #[.string ⟨#[]⟩] n) 9)) (some ⟨W.heap.size, 0, none⟩) (List.replicate n ⟨#[]⟩) := by
  intro i hi
  simp at hi
  refine ⟨_, 0, rfl, ?_⟩
  rw [World.cell?_alloc_at _ _ _ _ rfl]
  simp [madeCells, hi, Nat.mod_one]
theorem Try.info9 : (Try.prog.info? 9).map (fun i => (i.zero, i.size, i.bytes)) = some (some (.string ⟨#[]⟩), 1, 16) := by kernel_rfl

set_option maxHeartbeats 2000000 in
theorem rof_ok (w : World) (a : Option Addr) (n c : Nat) (ss : List ByteArray) (hl : ss.length = n) (h0 : 1 ≤ n) (h1 : n ≤ 16384) (hsz : ∀ s ∈ ss, s.size ≤ maxLen) (hs : StrsAt w a ss) :
    Calls Try.prog 18 #[.slice a n c] w fun e w' => ∃ r rb cap, e = .returned (.pointer (some ⟨r, 0, none⟩)) ∧ w.heap.size ≤ r ∧ w.heap.size ≤ rb ∧ IsRef w' r rb cap ⟨ss.map fill64, 0, 0, 0⟩ ∧ Below w.heap.size w w' := by
  have HL := Lib.hid hl
  have HSZ := Lib.hid hsz
  clear hl hsz
  obtain ⟨i0, hi, hz0, hz1, hz2⟩ := info_parts Try.info9
  go_enter Try.func18, Try.ntmps18
  go_wp2
  go_loopw [4] (fun i wr => ∃ (k : Nat) (sv : Value), k ≤ n ∧ i = .int .i64 k ∧ wr.heap[w.heap.size]? = some (.cells [sv, .int .i64 0, .int .i64 0, .int .i64 0].toArray 33 (0, 0)) ∧ wr.ownsRow w.heap.size 9 1 sv k (strV ((ss.take k).map fill64)) ∧ Below w.heap.size w wr)
    (fun i _ => n - (intOf i).toNat)
  case atStart => exact ⟨0, _, by omega, rfl, heap_alloc_new _ _, World.ownsRow_nil _ _ _ _, (Below.refl _ _).alloc (Nat.le_refl _) _⟩
  case round =>
    obtain ⟨k, sv, hk, rfl, hhead, hown, hbel⟩ := hrel
    have zr := hbel.size
    have hlt0 := lt_of_block hhead
    by_cases hlt : k < n
    · have hks : k < ss.length := by rw [HL.out]; exact hlt
      obtain ⟨b1, o1, rfl, hc⟩ := hs k hks
      have l1 := World.block_lt_of_cell? w _ hc
      simp only at l1
      have g1 := (hbel.cell (p := ⟨b1, o1 + k, none⟩) l1).trans hc
      have hts : ss.take (k + 1) = ss.take k ++ [ss[k]] := List.take_succ_eq_append_getElem hks
      have hsk := HSZ.out _ (List.getElem_mem hks)
      obtain ⟨str, hstr⟩ : ∃ str, str = ss[k] := ⟨_, rfl⟩
      rw [← hstr] at g1 hc hts hsk
      have HTS := Lib.hid hts
      obtain ⟨sa, sc, rfl, _⟩ := ownsRow_shape hown
      have c0 : wr.cell? ⟨w.heap.size, 0, none⟩ = some (.slice sa k sc) := by rw [cell_of_row wr _ 0 _ _ _ hhead]; rfl
      clear hts hstr hs hc
      have HH := Lib.hid hhead
      clear hhead
      have hf64 : fillB str 64 = ⟨(fill64 str).toArray⟩ := fillB_64 str
      have HF := Lib.hid hf64
      clear hf64
      go_wp2_with fail
      go_region_law (first | (go_simp; go_at_call 39; refine (fill_any _ str 64 (by omega) (by omega) hsk).mono ?_; rintro e w2 ⟨rfl, hb2⟩; simp only [show Int.toNat 64 = 64 from rfl, HF.out]; have hown2 : w2.ownsRow w.heap.size 9 1 (.slice sa k sc) k (strV ((ss.take k).map fill64)) := ownsRow_below (w := wr) hown ⟨hb2.os, hb2.tape, hb2.output, hb2.size, hb2.block⟩; have c02 := (hb2.cell (p := ⟨w.heap.size, 0, none⟩) hlt0).trans c0; have hlt2 : w.heap.size < w2.heap.size := Nat.lt_of_lt_of_le hlt0 hb2.size; have hlt2' : w.heap.size < w2.heap.size + 1 := (by omega); have hb3 : Below w.heap.size w w2 := (hbel.drew).trans (hb2.mono zr); have HH2 := Lib.hid ((hb2.block w.heap.size hlt0).trans HH.out); clear hb2) | (refine step_append_new w2 rfl _ _ 22 rfl w.heap.size 9 i0 _ 1 16 Try.underlying22 hi hz0 hz1 hz2 rfl (by decide) hown2 rfl 1 [.string ⟨(fill64 str).toArray⟩] rfl rfl rfl (by simp [Value.oneCell']) (by unfold maxLen; omega) (by omega) hb3.size ?_; intro v' w3 hown3 hgr3; have HH3 := Lib.hid (block_beside hown2 hgr3 HH2.out (by decide)); have hb4 : Below w.heap.size w w3 := hb3.grown hgr3 hb3.size (fun r hr => (hown2.lt r hr).1); obtain ⟨sa', sc', rfl, _⟩ := ownsRow_shape hown3; have c03 : w3.cell? ⟨w.heap.size, 0, none⟩ = some (.slice sa k sc) := (by rw [cell_of_row w3 _ 0 _ _ _ HH3.out]; rfl); have f03 : w3.frozen? ⟨w.heap.size, 0, none⟩ = false := frozen_of_row w3 _ 0 _ _ HH3.out))
      all_goals
        go_wp2
        go_roundw
        case rel =>
          refine ⟨k + 1, .slice sa' (k + 1) sc', by omega, by go_num, ?_, ?_, hb4.setCell (p := ⟨w.heap.size, 0, none⟩) (Nat.le_refl _) _⟩
          · rw [row_setCell HH3.out]; rfl
          · rw [HTS.out]
            have := ownsRow_store hown3 HH3.out (by decide) 0 (.slice sa' (k + 1) sc')
            simpa [strV] using this
        case measure => simp [intOf]; omega
    · have hkn : k = n := by omega
      subst hkn
      have HH := Lib.hid hhead
      clear hhead
      have hall : ss.take k = ss := List.take_of_length_le (by rw [HL.out]; omega)
      rw [hall] at hown
      go_wp2
      go_ret
      obtain ⟨sa, sc, hsv, hrow⟩ := ownsRow_shape hown
      rcases hown.2 with ⟨_, h0'⟩ | ⟨g, cap, cur, hv, hg, hgg, hkc, _, _, htk⟩
      · omega
      · refine ⟨w.heap.size, g, cap, rfl, Nat.le_refl _, hg, ⟨?_, ⟨cur.toList.drop k, ?_⟩, ?_, ?_⟩, hbel⟩
        · rw [HH.out, hv]; simp [HL.out]
        · rw [hgg]
          rw [Nat.mul_one] at htk
          show some (Obj.cells cur 9 (0, 0)) = some (Obj.cells (strV (ss.map fill64) ++ cur.toList.drop k).toArray 9 (0, 0))
          rw [← htk, List.take_append_drop]
        · simp [HL.out]; exact h1
        · simp [HL.out]; exact hkc
set_option maxHeartbeats 400000 in
theorem rnew_ok (w : World) (s : Int) (h0 : 1 ≤ s) (h1 : s ≤ 16384) :
    Calls Try.prog 26 #[.int .i64 s] w fun e w' => ∃ r rb cap, e = .returned (.pointer (some ⟨r, 0, none⟩)) ∧ w.heap.size ≤ r ∧ w.heap.size ≤ rb ∧ IsRef w' r rb cap (newDM s.toNat) ∧ Below w.heap.size w w' := by
  obtain ⟨n, rfl⟩ := Int.eq_ofNat_of_zero_le (show 0 ≤ s by omega)
  obtain ⟨i0, hi, hz0, hz1, hz2⟩ := info_parts Try.info9
  have hmk := fun W => run_make (P := Try.prog) W 22 9 i0 _ Try.underlying22 hi hz0 .i64 .i64 (n : Int) (n : Int) (by omega) (by omega) (by rw [hz2]; omega) (by omega)
  rw [hz1] at hmk
  clear hz0 hz1 hz2 hi
  have hst := fun W => StrsAt.made W n
  have HST := Lib.hid hst
  clear hst
  go_enter Try.func26, Try.ntmps26
  go_wp2_with fail
  refine (rof_ok _ _ n n (List.replicate n ⟨#[]⟩) (by simp) (by omega) (by omega) (fun s hs => by rw [List.eq_of_mem_replicate hs]; simp [ByteArray.size, maxLen]) (HST.out w)).mono ?_
  rintro e w1 ⟨r, rb, cap, rfl, hr, hrb, hR, hb1⟩
  go_wp2
  go_ret
  refine ⟨r, rb, cap, rfl, by simp at hr; omega, by simp at hrb; omega, ?_, ((Below.refl _ _).alloc (Nat.le_refl _) _).trans (hb1.mono (by simp))⟩
  have : (List.replicate n (⟨#[]⟩ : ByteArray)).map fill64 = List.replicate n zeroSec := by
    rw [List.map_replicate]; rfl
  rw [this] at hR
  exact hR
theorem rnew_no (w : World) (s : Int) (h : s < 1 ∨ 16384 < s) : Calls Try.prog 26 #[.int .i64 s] w fun e w' => e = .returned (.pointer none) ∧ w = w' := by
  rcases h with h | h
  all_goals
    go_enter Try.func26, Try.ntmps26
    go_wp2
    go_ret
    exact ⟨rfl, rfl⟩
theorem rof_none (w : World) (a : Option Addr) (c : Nat) : Calls Try.prog 18 #[.slice a 0 c] w fun e w' => e = .returned (.pointer none) ∧ w = w' := by
  go_enter Try.func18, Try.ntmps18
  go_wp2
  go_ret
  exact ⟨rfl, rfl⟩
end Go.Proofs.Ytbcpnfkjncpdcaa
