/- Exit. Nothing here is conditional. -/
import Derived.Test.YtjhggfpnafhonaaPlain
import Derived.StillTailTactics
namespace Go.Proofs.Ytjhggfpnafhonaa
open Go.RowKit Go.Maps

set_option maxHeartbeats 1000000 in
theorem exit_no (w : World) (t b : Nat) (T : List Pr) (hT : Tab w t b T) (k code : Int) (hk : (Lit.int .i64 k).wf = true) (e0 : Int) (he : askedV T k = e0) (hn : e0 ≠ 0) :
    Calls Try.prog 11 #[.pointer (some ⟨t, 0, none⟩), .int .i64 k, .int .i64 code] w fun e w' => e = .returned (.int .i64 e0) ∧ Below w.heap.size w w' := by
  go_enter Try.func11, Try.ntmps11
  go_wp2_with (go_at_call 17; refine (asked_is _ t b T hT k hk e0 he).mono ?_; rintro e w' ⟨rfl, hb⟩)
  go_returns
  exact ⟨rfl, hb⟩

theorem Mods.cell {S : List Nat} {w w' : World} (h : Mods S w w') {p : Addr} (hp : p.block < w.heap.size) (hn : p.block ∉ S) : w'.cell? p = w.cell? p := World.cell?_of_block (h.block _ hp hn)
theorem orph_nil (T : List Pr) : T.map (orphG []) = T := by
  have : orphG [] = id := by funext q; simp [orphG]
  rw [this, List.map_id]
theorem orph_len (T L : List Pr) : (T.map (orphG L)).length = T.length := List.length_map _

set_option maxHeartbeats 2000000 in
theorem exit_ok (w : World) (t b : Nat) (T : List Pr) (hT : Tab w t b T) (hl : T.length ≤ 99) (hwf : Wf T) (k code : Int) (hk : (Lit.int .i64 k).wf = true) (he : askedV T k = 0) :
    Calls Try.prog 11 #[.pointer (some ⟨t, 0, none⟩), .int .i64 k, .int .i64 code] w fun e w' => e = .returned (.int .i64 0) ∧ Tab w' t b (exitT T k code) ∧ Mods [b] w w' := by
  have ht := hT.lt
  have hc := hT.cell
  have hne := hT.2.2
  have hbl := hT.2.1.lt
  obtain ⟨pk, hpk, _⟩ := asked_zero he
  have hTn := find_length hpk
  have HT := Lib.hid hT
  have HW := Lib.hid hwf
  clear hT hwf
  go_enter Try.func11, Try.ntmps11
  go_wp2_with (first
    | (go_at_call 17; refine (asked_is _ t b T HT.out k hk 0 he).mono ?_; rintro e w1 ⟨rfl, hb⟩; have HT1 := Lib.hid (HT.out.below hb ht hbl); have s1 := hb.size)
    | (go_at_call 18; refine (children_any _ t b T HT1.out (by omega) HW.out hTn k).mono ?_; rintro e w2 ⟨g, gc, rfl, hg1, hg2, hpr, hb2⟩))
  have s2 := hb2.size
  have HT2 := Lib.hid (HT1.out.below hb2 (by omega) (by omega))
  have hM2 : Mods [b] w w2 := Mods.of_below (hb.trans (hb2.mono s1))
  have HP := Lib.hid hpr
  obtain ⟨S, hS⟩ : ∃ S, T.filter (keepP k) = S := ⟨_, rfl⟩
  have hSl : S.length ≤ T.length := by rw [← hS]; exact List.length_filter_le ..
  have HS := Lib.hid hS
  rw [hS] at HP ⊢
  clear hpr hS
  have ht2 : t < w2.heap.size := by omega
  have hbl2 : b < w2.heap.size := by omega
  have c2 := HT2.out.cell
  go_loopw [21] (fun i wr => ∃ m : Nat, m ≤ S.length ∧ i = .int .i64 m ∧ TMap wr b (T.map (orphG (S.take m))) ∧ Mods [b] w2 wr)
    (fun i _ => (S.length - numV i).toNat)
  case atStart => exact ⟨0, by omega, rfl, by rw [List.take_zero, orph_nil]; exact HT2.out.2.1, Mods.refl _ _⟩
  case round =>
    obtain ⟨m, hm, rfl, hmap, hmods⟩ := hrel
    have zr := hmods.size
    have htr : t < wr.heap.size := by omega
    have hblr : b < wr.heap.size := by omega
    have hgr : g < wr.heap.size := by omega
    have c3 := (hmods.cell (p := ⟨t, 0, none⟩) (by omega) (by simpa using hne)).trans c2
    by_cases hlt : m < S.length
    · obtain ⟨q1, q2, q3, q4⟩ := HP.out.four m hlt _ rfl
      have hgb : g ∉ [b] := by simp; omega
      have r1 := (hmods.cell (p := ⟨g, m * 4, none⟩) hg2 hgb).trans q1
      have r2 := (hmods.cell (p := ⟨g, m * 4 + 1, none⟩) hg2 hgb).trans q2
      have r3 := (hmods.cell (p := ⟨g, m * 4 + 2, none⟩) hg2 hgb).trans q3
      have r4 := (hmods.cell (p := ⟨g, m * 4 + 3, none⟩) hg2 hgb).trans q4
      have hsub : ∀ q ∈ S, q ∈ T := by
        rw [← HS.out]
        intro q hq
        exact (List.mem_filter.1 hq).1
      have hmem := hsub _ (List.getElem_mem hlt)
      clear hsub
      have hwp := HW.out _ hmem
      have hins := ins_orph (L := S.take m) HT2.out.2.1.2 hmem
      rw [← List.take_succ_eq_append_getElem hlt] at hins
      obtain ⟨p, hp⟩ : ∃ p, p = S[m] := ⟨_, rfl⟩
      rw [← hp] at r1 r2 r3 r4 hwp hins
      clear q1 q2 q3 q4 hp hmem
      obtain ⟨p1, p2, p3, p4⟩ := p
      simp only [toOne] at r1 r2 r3 r4 hwp hins
      have HI := Lib.hid hins
      clear hins
      obtain ⟨W, hW⟩ : ∃ W, (wr.alloc (.cells #[.int .i64 p1, .int .i64 1, .int .i64 p3, .int .i64 p4] 39)).drew = W := ⟨_, rfl⟩
      have n1 : W.heap[wr.heap.size]? = some (.cells #[.int .i64 p1, .int .i64 1, .int .i64 p3, .int .i64 p4] 39 (0, 0)) := by rw [← hW]; exact heap_alloc_new _ _
      have f1 := (cell_of_row W _ 0 _ _ _ n1)
      have f2 := (cell_of_row W _ 1 _ _ _ n1)
      have f3 := (cell_of_row W _ 2 _ _ _ n1)
      have f4 := (cell_of_row W _ 3 _ _ _ n1)
      simp only [List.getElem?_toArray, List.getElem?_cons_zero, List.getElem?_cons_succ] at f1 f2 f3 f4
      have hmW : Mods [b] w2 W := by rw [← hW]; exact (hmods.alloc _).drew
      have hTW : TMap W b (T.map (orphG (S.take m))) := by rw [← hW]; exact hmap.alloc _
      have cW : W.cell? ⟨t, 0, none⟩ = some (.map (some b)) := (hmW.cell (p := ⟨t, 0, none⟩) (by omega) (by simpa using hne)).trans c2
      go_wp2_with fail
      refine wp_region_still_tail 7 (by kernel_rfl) (by kernel_rfl) ?_
      simp only [List.take_succ_cons, List.take_zero, List.drop_succ_cons, List.drop_zero]
      change wpStill _ _ (World.drew _) (fun a' => wpList _ _ _ _ a' (World.drew _)) _ _
      rw [hW]
      repeat still_step
      try refine wpStill_nil ?_
      go_wp2_with (at_mapUpdate; refine wpList_update_t _ rfl _ _ _ rfl hTW (by rw [orph_len]; omega) ⟨p1, 1, p3, p4⟩ rfl rfl hwp rfl ?_; intro w3 hm3 hgr3)
      go_roundw
      case rel =>
        rw [HI.out] at hm3
        exact ⟨m + 1, by omega, by go_num, hm3, hmW.grown hgr3 (fun r hr => by cases hr; exact .inl (by simp))⟩
      case measure => simp [numV]; omega
    · obtain rfl : m = S.length := by omega
      rw [List.take_length] at hmap
      have hfk : find (T.map (orphG S)) k = some (orphG S pk) := by rw [find_map _ _ (orphG_pid _), hpk]; rfl
      have hex := exit_last (T := T) HT.out.2.1.2 (k := k) (p := orphG S pk) (by rw [HS.out]; exact hfk) code
      rw [HS.out] at hex
      have hkp : (orphG S pk).pid = k := (orphG_pid _ _).trans (find_pid hpk)
      obtain ⟨p, hp⟩ : ∃ p, orphG S pk = p := ⟨_, rfl⟩
      rw [hp] at hfk hex hkp
      clear hp
      obtain ⟨p1, p2, p3, p4⟩ := p
      simp only at hex hkp
      subst hkp
      have hfe : ((find (T.map (orphG S)) p1).getD Pr.zero).enc = .agg #[.int .i64 p1, .int .i64 p2, .int .i64 p3, .int .i64 p4] := by rw [hfk]; rfl
      have HX := Lib.hid hex
      clear hex hfk
      obtain ⟨W, hW⟩ : ∃ W, (wr.alloc (.cells #[.int .i64 p1, .int .i64 p2, .int .i64 2, .int .i64 code] 39)).drew = W := ⟨_, rfl⟩
      have n1 : W.heap[wr.heap.size]? = some (.cells #[.int .i64 p1, .int .i64 p2, .int .i64 2, .int .i64 code] 39 (0, 0)) := by rw [← hW]; exact heap_alloc_new _ _
      have f1 := (cell_of_row W _ 0 _ _ _ n1)
      have f2 := (cell_of_row W _ 1 _ _ _ n1)
      have f3 := (cell_of_row W _ 2 _ _ _ n1)
      have f4 := (cell_of_row W _ 3 _ _ _ n1)
      simp only [List.getElem?_toArray, List.getElem?_cons_zero, List.getElem?_cons_succ] at f1 f2 f3 f4
      have hmW : Mods [b] w2 W := by rw [← hW]; exact (hmods.alloc _).drew
      have hTW : TMap W b (T.map (orphG S)) := by rw [← hW]; exact hmap.alloc _
      have cW : W.cell? ⟨t, 0, none⟩ = some (.map (some b)) := (hmW.cell (p := ⟨t, 0, none⟩) (by omega) (by simpa using hne)).trans c2
      go_wp2_with (at_lookup; refine wpList_look_t _ rfl _ _ rfl hmap rfl rfl hk hfe ?_)
      refine wp_region_still_tail 6 (by kernel_rfl) (by kernel_rfl) ?_
      simp only [List.take_succ_cons, List.take_zero, List.drop_succ_cons, List.drop_zero]
      change wpStill _ _ (World.drew _) (fun a' => wpList _ _ _ _ a' (World.drew _)) _ _
      rw [hW]
      repeat still_step
      try refine wpStill_nil ?_
      go_wp2_with (at_mapUpdate; refine wpList_update_t _ rfl _ _ _ rfl hTW (by rw [orph_len]; omega) ⟨p1, p2, 2, code⟩ rfl rfl hk rfl ?_; intro w3 hm3 hgr3)
      go_returns
      rw [HX.out] at hm3
      have M : Mods [b] w w3 := hM2.trans (hmW.grown hgr3 (fun r hr => by cases hr; exact .inl (by simp)))
      refine ⟨rfl, ⟨?_, hm3, hne⟩, M⟩
      obtain ⟨fr, h1⟩ := HT.out.1
      exact ⟨fr, (M.block t ht (by simpa using hne)).trans h1⟩
end Go.Proofs.Ytjhggfpnafhonaa
