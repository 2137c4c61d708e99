/- Wait. Nothing here is conditional. -/
import Derived.Test.YtjhggfpnafhonaaExit
import Derived.Deep.QuietTactic
import Derived.BigQuiet
namespace Go.Proofs.Ytjhggfpnafhonaa
open Go.RowKit Go.Maps

theorem idx_find (p : Pr → Bool) (T : List Pr) :
    (Lib.idxBy (fun _ y : Pr => p y) T default = -1 ∧ T.find? p = none) ∨
    ∃ i0, ∃ h : i0 < T.length, Lib.idxBy (fun _ y : Pr => p y) T default = (i0 : Int) ∧ T.find? p = some T[i0] := by
  have key : ∀ (T : List Pr) (i : Nat), (Lib.idxByFrom (fun _ y : Pr => p y) default T i = -1 ∧ T.find? p = none) ∨
      ∃ i0, ∃ h : i0 < T.length, Lib.idxByFrom (fun _ y : Pr => p y) default T i = ((i + i0 : Nat) : Int) ∧ T.find? p = some T[i0] := by
    intro T
    induction T with
    | nil => intro i; exact .inl ⟨rfl, rfl⟩
    | cons q r ih =>
      intro i
      cases hq : p q with
      | true => exact .inr ⟨0, by simp, by simp [Lib.idxByFrom, hq], by simp [hq]⟩
      | false =>
        rcases ih (i + 1) with ⟨h1, h2⟩ | ⟨i0, h, h1, h2⟩
        · exact .inl ⟨by simp [Lib.idxByFrom, hq, h1], by simp [hq, h2]⟩
        · refine .inr ⟨i0 + 1, by simp; omega, ?_, by simp [hq, h2]⟩
          simp only [Lib.idxByFrom, hq, h1]
          simp; omega
  have := key T 0
  simpa [Lib.idxBy] using this

/-- The first of a process's children that has ended. -/
def endedOf (T : List Pr) (k : Int) : Option Pr := (T.filter (keepP k)).find? (fun y => decide (y.state = 2))

theorem index20 (w : World) (g n c : Nat) (T : List Pr) (hn : T.length = n) (hl : n ≤ 100) (hT : PrsAt w g T) (hg : g < w.heap.size) (r : Int) (hr : Lib.idxBy (fun _ y : Pr => decide (y.state = 2)) T default = r) :
    Calls Try.prog 19 #[.slice (some ⟨g, 0, none⟩) n c, .func (.func 20) #[] #[]] w fun e w' => e = .returned (.int .i64 r) ∧ Below w.heap.size w w' := by
  subst hr
  exact index_any (fun y => decide (y.state = 2)) 20 #[] (enters_of Try.func20 (by kernel_rfl) rfl) w g n c T hn hl hT hg (fun W x _ => pred20 W x)

set_option maxHeartbeats 1000000 in
theorem wait_no (w : World) (t b : Nat) (T : List Pr) (hT : Tab w t b T) (k : Int) (hk : (Lit.int .i64 k).wf = true) (e0 : Int) (he : askedV T k = e0) (hn : e0 ≠ 0) :
    Calls Try.prog 12 #[.pointer (some ⟨t, 0, none⟩), .int .i64 k] w fun e w' => e = .returned (.tuple #[.int .i64 0, .int .i64 0, .int .i64 e0]) ∧ Below w.heap.size w w' := by
  go_enter Try.func12, Try.ntmps12
  go_wp2_with (go_at_call 17; refine (asked_is _ t b T hT k hk e0 he).mono ?_; rintro e w' ⟨rfl, hb⟩)
  go_returns
  exact ⟨rfl, hb⟩

set_option maxHeartbeats 1000000 in
theorem wait_none (w : World) (t b : Nat) (T : List Pr) (hT : Tab w t b T) (hl : T.length ≤ 99) (hwf : Wf T) (k : Int) (hk : (Lit.int .i64 k).wf = true) (he : askedV T k = 0) (hS : (T.filter (keepP k)).length = 0) :
    Calls Try.prog 12 #[.pointer (some ⟨t, 0, none⟩), .int .i64 k] w fun e w' => e = .returned (.tuple #[.int .i64 0, .int .i64 0, .int .i64 20]) ∧ Below w.heap.size w w' := by
  have ht := hT.lt
  have hbl := hT.2.1.lt
  obtain ⟨pk, hpk, _⟩ := asked_zero he
  have hTn := find_length hpk
  have HT := Lib.hid hT
  have HW := Lib.hid hwf
  clear hT hwf
  go_enter Try.func12, Try.ntmps12
  go_wp2_with (first
    | (go_at_call 17; refine (asked_is _ t b T HT.out k hk 0 he).mono ?_; rintro e w1 ⟨rfl, hb⟩; have HT1 := Lib.hid (HT.out.below hb ht hbl); have s1 := hb.size)
    | (go_at_call 18; refine (children_any _ t b T HT1.out (by omega) HW.out hTn k).mono ?_; rintro e w2 ⟨g, gc, rfl, hg1, hg2, hpr, hb2⟩; rw [hS]))
  go_returns
  exact ⟨rfl, hb.trans (hb2.mono s1)⟩

set_option maxHeartbeats 1000000 in
theorem wait_runs (w : World) (t b : Nat) (T : List Pr) (hT : Tab w t b T) (hl : T.length ≤ 99) (hwf : Wf T) (k : Int) (hk : (Lit.int .i64 k).wf = true) (he : askedV T k = 0) (hS : (T.filter (keepP k)).length ≠ 0)
    (hi : Lib.idxBy (fun _ y : Pr => decide (y.state = 2)) (T.filter (keepP k)) default = -1) :
    Calls Try.prog 12 #[.pointer (some ⟨t, 0, none⟩), .int .i64 k] w fun e w' => e = .returned (.tuple #[.int .i64 0, .int .i64 0, .int .i64 13]) ∧ Below w.heap.size w w' := by
  have ht := hT.lt
  have hbl := hT.2.1.lt
  obtain ⟨pk, hpk, _⟩ := asked_zero he
  have hTn := find_length hpk
  have HT := Lib.hid hT
  have HW := Lib.hid hwf
  clear hT hwf
  have hSl : (T.filter (keepP k)).length ≤ T.length := List.length_filter_le ..
  have HI := Lib.hid hi
  clear hi
  obtain ⟨S, hSS⟩ : ∃ S, T.filter (keepP k) = S := ⟨_, rfl⟩
  rw [hSS] at hS HI hSl
  go_enter Try.func12, Try.ntmps12
  go_wp2_with (first
    | (go_at_call 17; refine (asked_is _ t b T HT.out k hk 0 he).mono ?_; rintro e w1 ⟨rfl, hb⟩; have HT1 := Lib.hid (HT.out.below hb ht hbl); have s1 := hb.size)
    | (go_at_call 18; refine (children_any _ t b T HT1.out (by omega) HW.out hTn k).mono ?_; rintro e w2 ⟨g, gc, rfl, hg1, hg2, hpr, hb2⟩; rw [hSS] at hpr ⊢; have HP := Lib.hid hpr; clear hpr; have s2 := hb2.size)
    | (go_at_call 19; refine (index20 _ g _ gc S rfl (by omega) HP.out hg2 (-1) HI.out).mono ?_; rintro e w3 ⟨rfl, hb3⟩))
  go_returns
  exact ⟨rfl, (hb.trans (hb2.mono s1)).trans (hb3.mono (by omega))⟩

set_option maxHeartbeats 2000000 in
theorem wait_ok (w : World) (t b : Nat) (T : List Pr) (hT : Tab w t b T) (hl : T.length ≤ 99) (hwf : Wf T) (k : Int) (hk : (Lit.int .i64 k).wf = true) (he : askedV T k = 0) (i : Nat) (hlt : i < (T.filter (keepP k)).length)
    (hi : Lib.idxBy (fun _ y : Pr => decide (y.state = 2)) (T.filter (keepP k)) default = (i : Int)) (p1 p2 p3 p4 : Int) (hp : (T.filter (keepP k))[i] = ⟨p1, p2, p3, p4⟩) :
    Calls Try.prog 12 #[.pointer (some ⟨t, 0, none⟩), .int .i64 k] w fun e w' => e = .returned (.tuple #[.int .i64 p1, .int .i64 p4, .int .i64 0]) ∧ Tab w' t b (del T p1) ∧ Mods [b] w w' := by
  have ht := hT.lt
  have hc := hT.cell
  have hne := hT.2.2
  have hbl := hT.2.1.lt
  obtain ⟨pk, hpk, _⟩ := asked_zero he
  have hTn := find_length hpk
  have HT := Lib.hid hT
  have HW := Lib.hid hwf
  clear hT
  have hSl : (T.filter (keepP k)).length ≤ T.length := List.length_filter_le ..
  have hwp : (Lit.int .i64 p1).wf = true := by
    have : (⟨p1, p2, p3, p4⟩ : Pr) ∈ T.filter (keepP k) := by rw [← hp]; exact List.getElem_mem hlt
    exact hwf _ (List.mem_filter.1 this).1
  clear hwf
  have HI := Lib.hid hi
  clear hi
  obtain ⟨S, hSS⟩ : ∃ S, T.filter (keepP k) = S := ⟨_, rfl⟩
  have hp' : ∃ h : i < S.length, S[i] = ⟨p1, p2, p3, p4⟩ := by subst hSS; exact ⟨hlt, hp⟩
  rw [hSS] at HI hSl hlt
  clear hp
  obtain ⟨_, hp⟩ := hp'
  go_enter Try.func12, Try.ntmps12
  go_wp2_with (first
    | (go_at_call 17; refine (asked_is _ t b T HT.out k hk 0 he).mono ?_; rintro e w1 ⟨rfl, hb⟩; have HT1 := Lib.hid (HT.out.below hb ht hbl); have s1 := hb.size)
    | (go_at_call 18; refine (children_any _ t b T HT1.out (by omega) HW.out hTn k).mono ?_; rintro e w2 ⟨g, gc, rfl, hg1, hg2, hpr, hb2⟩; rw [hSS] at hpr ⊢; have HP := Lib.hid hpr; clear hpr; have s2 := hb2.size)
    | (go_at_call 19; refine (index20 _ g _ gc S rfl (by omega) HP.out hg2 i HI.out).mono ?_; rintro e w3 ⟨rfl, hb3⟩; have s3 := hb3.size))
  obtain ⟨q1, _, _, q4⟩ := HP.out.four i hlt _ hp
  simp only [] at q1 q4
  obtain ⟨W, hW⟩ : ∃ W, w3.drew = W := ⟨_, rfl⟩
  have hM3 : Mods [b] w W := by rw [← hW]; exact (Mods.of_below ((hb.trans (hb2.mono s1)).trans (hb3.mono (by omega)))).drew
  have HTW : Tab W t b T := by rw [← hW]; exact ((HT1.out.below hb2 (by omega) (by omega)).below hb3 (by omega) (by omega)).below ((Below.refl _ _).drew) (by omega) (by omega)
  have cW := HTW.cell
  have mW := HTW.2.1
  have r1 : W.cell? ⟨g, i * 4, none⟩ = some (.int .i64 p1) := by rw [← hW]; exact (hb3.cell (p := ⟨g, i * 4, none⟩) hg2).trans q1
  have r4 : W.cell? ⟨g, i * 4 + 3, none⟩ = some (.int .i64 p4) := by rw [← hW]; exact (hb3.cell (p := ⟨g, i * 4 + 3, none⟩) hg2).trans q4
  have hgW : g < W.heap.size := by rw [← hW]; exact (Nat.lt_of_lt_of_le hg2 s3)
  have hgb : g ≠ b := by omega
  clear q1 q4
  refine wp_region_still_tail 9 (by kernel_rfl) (by kernel_rfl) ?_
  simp only [List.take_succ_cons, List.take_zero, List.drop_succ_cons, List.drop_zero]
  change wpStill _ _ (World.drew _) (fun a' => wpList _ _ _ _ a' (World.drew _)) _ _
  rw [hW]
  repeat still_step
  try refine wpStill_nil ?_
  go_wp2_with (refine wpList_delete_t _ rfl _ _ rfl mW rfl rfl hwp ?_; intro w4 hm4 hgr4; have hM4 : Mods [b] W w4 := (Mods.refl _ _).grown hgr4 (fun r hr => by cases hr; exact .inl (by simp)); have r5 := (hM4.cell (p := ⟨g, i * 4, none⟩) hgW (by simpa using hgb)).trans r1; have r6 := (hM4.cell (p := ⟨g, i * 4 + 3, none⟩) hgW (by simpa using hgb)).trans r4)
  go_quiet (fail)
  go_wp2_with fail
  go_returns
  have M : Mods [b] w w4 := hM3.trans hM4
  refine ⟨rfl, ⟨?_, hm4.block rfl, hne⟩, ?_⟩
  · obtain ⟨fr, h1⟩ := HT.out.1
    exact ⟨fr, (M.block t ht (by simpa using hne)).trans h1⟩
  · first | exact M.drew | exact M.drewN _ | exact M
end Go.Proofs.Ytjhggfpnafhonaa
