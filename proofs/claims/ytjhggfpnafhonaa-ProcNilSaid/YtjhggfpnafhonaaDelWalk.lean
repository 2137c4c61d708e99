/- slices.DeleteFunc over processes, with children's closure: the walk. Nothing here is conditional. -/
import Derived.Test.YtjhggfpnafhonaaDel2
namespace Go.Proofs.Ytjhggfpnafhonaa
open Go.RowKit Go.Maps

def numV : Value → Int
  | .int _ m => m
  | _ => 0

theorem index26 (w : World) (g n c : Nat) (T : List Pr) (hn : T.length = n) (hl : n ≤ 100) (hT : PrsAt w g T) (hg : g < w.heap.size) (B : Nat) (k : Int) (hB : w.cell? ⟨B, 0, none⟩ = some (.int .i64 k)) (r : Int) (hr : Lib.idxBy (fun _ y : Pr => !keepP k y) T default = r) :
    Calls Try.prog 19 #[.slice (some ⟨g, 0, none⟩) n c, .func (.func 26) #[] #[.pointer (some ⟨B, 0, none⟩)]] w fun e w' => e = .returned (.int .i64 r) ∧ Below w.heap.size w w' := by
  subst hr
  refine index_any (fun y => !keepP k y) 26 #[.pointer (some ⟨B, 0, none⟩)] (enters_of Try.func26 (by kernel_rfl) rfl) w g n c T hn hl hT hg ?_
  intro W x hb
  have hlt := World.block_lt_of_cell? w _ hB
  refine (pred26 k B W ((hb.cell (p := ⟨B, 0, none⟩) hlt).trans hB) x).mono ?_
  rintro e w' ⟨rfl, h⟩
  refine ⟨?_, h⟩
  simp [keepP]

set_option maxHeartbeats 2000000 in
theorem delete_none (w : World) (g c : Nat) (T : List Pr) (hl : T.length ≤ 100) (hT : PrsAt w g T) (hg : g < w.heap.size) (B : Nat) (k : Int) (hB : w.cell? ⟨B, 0, none⟩ = some (.int .i64 k)) (hr : Lib.idxBy (fun _ y : Pr => !keepP k y) T default = -1) :
    Calls Try.prog 25 #[.slice (some ⟨g, 0, none⟩) T.length c, .func (.func 26) #[] #[.pointer (some ⟨B, 0, none⟩)]] w fun e w' => e = .returned (.slice (some ⟨g, 0, none⟩) T.length c) ∧ Below w.heap.size w w' := by
  have HT := Lib.hid hT
  clear hT
  go_enter Try.func25, Try.ntmps25
  go_wp2_with (go_at_call 19; refine (index26 w g _ c T rfl hl HT.out hg B k hB _ hr).mono ?_; rintro e w' ⟨rfl, hb⟩)
  go_ret
  exact ⟨rfl, hb⟩

set_option maxHeartbeats 2000000 in
theorem delete_some (w : World) (g c : Nat) (T : List Pr) (hl : T.length ≤ 100) (hcap : T.length ≤ c) (cur0 : Array Value) (hg : w.heap[g]? = some (.cells cur0 39 (0, 0))) (hT : PrsAt w g T) (B : Nat) (k : Int) (hB : w.cell? ⟨B, 0, none⟩ = some (.int .i64 k)) (hne : B ≠ g)
    (i0 : Nat) (hi0 : i0 < T.length) (hr : Lib.idxBy (fun _ y : Pr => !keepP k y) T default = (i0 : Int)) (hM : Mid k T c (i0 + 1) cur0) (hc0 : ((T.take (i0 + 1)).filter (keepP k)).length = i0) :
    Calls Try.prog 25 #[.slice (some ⟨g, 0, none⟩) T.length c, .func (.func 26) #[] #[.pointer (some ⟨B, 0, none⟩)]] w fun e w' => e = .returned (.slice (some ⟨g, 0, none⟩) (T.filter (keepP k)).length c) ∧ PrsAt w' g (T.filter (keepP k)) ∧ Mods [g] w w' := by
  have HT := Lib.hid hT
  have HM := Lib.hid hM
  have hgl := lt_of_block hg
  have hBl := World.block_lt_of_cell? w _ hB
  clear hT hM
  go_enter Try.func25, Try.ntmps25
  go_wp2_with (go_at_call 19; refine (index26 w g _ c T rfl hl HT.out hgl B k hB _ hr).mono ?_; rintro e w1 ⟨rfl, hb⟩)
  have s1 := hb.size
  have hg1 : w1.heap[g]? = some (.cells cur0 39 (0, 0)) := (hb.block g hgl).trans hg
  have hB1 : w1.cell? ⟨B, 0, none⟩ = some (.int .i64 k) := (hb.cell (p := ⟨B, 0, none⟩) hBl).trans hB
  go_loopw [5, 6] (fun i j wr => ∃ (m : Nat) (cur : Array Value), m ≤ T.length ∧ j = .int .i64 m ∧ i = .int .i64 (((T.take m).filter (keepP k)).length : Nat) ∧ ((T.take m).filter (keepP k)).length < m ∧ wr.heap[g]? = some (.cells cur 39 (0, 0)) ∧ Mid k T c m cur ∧ wr.cell? ⟨B, 0, none⟩ = some (.int .i64 k) ∧ Mods [g] w1 wr)
    (fun _ j _ => (T.length - numV j).toNat)
  case atStart => exact ⟨i0 + 1, cur0, by omega, by go_num, by rw [hc0], by omega, hg1, HM.out, hB1, Mods.refl _ _⟩
  case round =>
    obtain ⟨m, cur, hm, rfl, rfl, hlt, hgr, hM, hBr, hmods⟩ := hrel
    have zr := hmods.size
    have hgw := lt_of_block hgr
    have hBw := World.block_lt_of_cell? wr _ hBr
    simp only [] at hBw
    by_cases hmt : m < T.length
    · have q1 : wr.cell? ⟨g, m * 4, none⟩ = some (.int .i64 T[m].pid) := by rw [cell_of_row wr _ _ _ _ _ hgr]; exact hM.at hmt 0 (by omega)
      have q2 : wr.cell? ⟨g, m * 4 + 1, none⟩ = some (.int .i64 T[m].parent) := by rw [cell_of_row wr _ _ _ _ _ hgr]; exact hM.at hmt 1 (by omega)
      have q3 : wr.cell? ⟨g, m * 4 + 2, none⟩ = some (.int .i64 T[m].state) := by rw [cell_of_row wr _ _ _ _ _ hgr]; exact hM.at hmt 2 (by omega)
      have q4 : wr.cell? ⟨g, m * 4 + 3, none⟩ = some (.int .i64 T[m].code) := by rw [cell_of_row wr _ _ _ _ _ hgr]; exact hM.at hmt 3 (by omega)
      have hnew : g ≠ wr.heap.size := by omega
      cases hk : keepP k T[m] with
      | false =>
        have HS := Lib.hid (hM.skip hmt hk)
        have hf : (T.take (m + 1)).filter (keepP k) = (T.take m).filter (keepP k) := by
          rw [List.take_succ_eq_append_getElem hmt, List.filter_append]
          simp [hk]
        have HF := Lib.hid hf
        have hdk : decide (T[m].parent ≠ k) = true := by simpa [keepP] using hk
        obtain ⟨p, hp⟩ : ∃ p, T[m] = p := ⟨_, rfl⟩
        rw [hp] at q1 q2 q3 q4 hdk
        obtain ⟨p1, p2, p3, p4⟩ := p
        simp only [] at q1 q2 q3 q4 hdk
        clear hf hk hp hM
        have hpc : ∀ W, W.cell? ⟨B, 0, none⟩ = some (.int .i64 k) → Calls Try.prog 26 #[.agg #[.int .i64 p1, .int .i64 p2, .int .i64 p3, .int .i64 p4], .pointer (some ⟨B, 0, none⟩)] W fun e w' => e = .returned (.bool true) ∧ Below W.heap.size W w' := by
          intro W hW
          have := pred26 k B W hW ⟨p1, p2, p3, p4⟩
          rw [hdk] at this
          exact this
        go_wp2_with (go_at_call 26; refine (hpc _ (Lib.cell?_alloc_some _ hBr)).mono ?_; rintro e w2 ⟨rfl, hb2⟩)
        go_roundw
        case rel =>
          have h1 := (hb2.block g (by simp; omega)).trans ((Below.heap_alloc _ _ _ hgw).trans hgr)
          have h2 := (hb2.cell (p := ⟨B, 0, none⟩) (by simp; omega)).trans (Lib.cell?_alloc_some _ hBr)
          have h3 := (hmods.alloc _).trans (Mods.of_below hb2)
          repeat apply Exists.intro
          exact ⟨⟨m + 1, cur, by omega, by go_num, by rw [HF.out], by rw [HF.out]; omega, h1, HS.out, h2, h3⟩, rfl⟩
        case measure => simp [numV]; omega
      | true =>
        obtain ⟨c', hc'⟩ : ∃ c', ((T.take m).filter (keepP k)).length = c' := ⟨_, rfl⟩
        obtain ⟨p, hp⟩ : ∃ p, T[m] = p := ⟨_, rfl⟩
        obtain ⟨hK1, hK2⟩ := hM.keep hmt hcap hk p hp hc'
        have hsz := hM.size
        have HS := Lib.hid hK1
        have HF := Lib.hid hK2
        have hdk : decide (T[m].parent ≠ k) = false := by simpa [keepP] using hk
        rw [hp] at q1 q2 q3 q4 hdk
        rw [hc'] at hlt ⊢
        obtain ⟨p1, p2, p3, p4⟩ := p
        simp only [] at q1 q2 q3 q4 hdk
        clear hk hp hM hK1 hK2
        have hpc : ∀ W, W.cell? ⟨B, 0, none⟩ = some (.int .i64 k) → Calls Try.prog 26 #[.agg #[.int .i64 p1, .int .i64 p2, .int .i64 p3, .int .i64 p4], .pointer (some ⟨B, 0, none⟩)] W fun e w' => e = .returned (.bool false) ∧ Below W.heap.size W w' := by
          intro W hW
          have := pred26 k B W hW ⟨p1, p2, p3, p4⟩
          rw [hdk] at this
          exact this
        have hcb : c' * 4 + 3 < cur.size := by omega
        obtain ⟨o1, ho1⟩ : ∃ o, cur[c' * 4]? = some o := ⟨_, Array.getElem?_eq_getElem (by omega)⟩
        obtain ⟨o2, ho2⟩ : ∃ o, cur[c' * 4 + 1]? = some o := ⟨_, Array.getElem?_eq_getElem (by omega)⟩
        obtain ⟨o3, ho3⟩ : ∃ o, cur[c' * 4 + 2]? = some o := ⟨_, Array.getElem?_eq_getElem (by omega)⟩
        obtain ⟨o4, ho4⟩ : ∃ o, cur[c' * 4 + 3]? = some o := ⟨_, Array.getElem?_eq_getElem (by omega)⟩
        go_wp2_with (
          go_at_call 26; refine (hpc _ (Lib.cell?_alloc_some _ hBr)).mono ?_; rintro e w2 ⟨rfl, hb2⟩;
          have n1 := (hb2.block wr.heap.size (by simp)).trans (heap_alloc_new _ _);
          have f1 := (cell_of_row w2 _ 0 _ _ _ n1);
          have f2 := (cell_of_row w2 _ 1 _ _ _ n1);
          have f3 := (cell_of_row w2 _ 2 _ _ _ n1);
          have f4 := (cell_of_row w2 _ 3 _ _ _ n1);
          simp only [List.getElem?_toArray, List.getElem?_cons_zero, List.getElem?_cons_succ] at f1 f2 f3 f4;
          have g0 := (hb2.block g (by simp; omega)).trans ((Below.heap_alloc _ _ _ hgw).trans hgr);
          have g1 := (cell_of_row w2 _ _ _ _ _ g0).trans ho1;
          have g2 := (cell_of_row w2 _ _ _ _ _ g0).trans ho2;
          have g3 := (cell_of_row w2 _ _ _ _ _ g0).trans ho3;
          have g4 := (cell_of_row w2 _ _ _ _ _ g0).trans ho4;
          have z1 := frozen_of_row w2 g (c' * 4) _ _ g0;
          have z2 := frozen_of_row w2 g (c' * 4 + 1) _ _ g0;
          have z3 := frozen_of_row w2 g (c' * 4 + 2) _ _ g0;
          have z4 := frozen_of_row w2 g (c' * 4 + 3) _ _ g0)
        go_roundw
        case rel =>
          have h1 := four_heap w2 g (c' * 4) cur 39 (.int .i64 p1) (.int .i64 p2) (.int .i64 p3) (.int .i64 p4) g0
          have h2 : (((((w2.setCell ⟨g, c' * 4, none⟩ (.int .i64 p1)).setCell ⟨g, c' * 4 + 1, none⟩ (.int .i64 p2)).setCell ⟨g, c' * 4 + 2, none⟩ (.int .i64 p3)).setCell ⟨g, c' * 4 + 3, none⟩ (.int .i64 p4))).cell? ⟨B, 0, none⟩ = some (.int .i64 k) := by
            rw [World.cell?_of_block (heap_setCell_other _ _ _ _ hne), World.cell?_of_block (heap_setCell_other _ _ _ _ hne), World.cell?_of_block (heap_setCell_other _ _ _ _ hne), World.cell?_of_block (heap_setCell_other _ _ _ _ hne)]
            exact (hb2.cell (p := ⟨B, 0, none⟩) (by simp; omega)).trans (Lib.cell?_alloc_some _ hBr)
          have h3 := (((((hmods.alloc _).trans (Mods.of_below hb2)).setCell (p := ⟨g, c' * 4, none⟩) (.inl (by simp)) (.int .i64 p1)).setCell (p := ⟨g, c' * 4 + 1, none⟩) (.inl (by simp)) (.int .i64 p2)).setCell (p := ⟨g, c' * 4 + 2, none⟩) (.inl (by simp)) (.int .i64 p3)).setCell (p := ⟨g, c' * 4 + 3, none⟩) (.inl (by simp)) (.int .i64 p4)
          repeat apply Exists.intro
          exact ⟨⟨m + 1, _, by omega, by go_num, by rw [HF.out]; go_num, by rw [HF.out]; omega, h1, HS.out, h2, h3⟩, rfl⟩
        case measure => simp [numV]; omega
    · obtain rfl : m = T.length := by omega
      have hf := hM.fst
      have hsz := hM.size
      rw [List.take_length] at hf hlt ⊢
      obtain ⟨c', hc'⟩ : ∃ c', (T.filter (keepP k)).length = c' := ⟨_, rfl⟩
      rw [hc'] at hf hlt ⊢
      have HF := Lib.hid hf
      clear hf
      obtain ⟨zl, z1⟩ := zeros_struct (T.length - c')
      obtain ⟨zs, hzs⟩ : ∃ zs, (Builtin.zeroCells (Pr.zero.enc).cells (T.length - c')).toList = zs := ⟨_, rfl⟩
      rw [hzs] at zl z1
      have hclr := run_clear_structs (P := Try.prog) wr 31 39 0 Pr.zero.enc Try.underlying31 zero39 g (c' * 4) (T.length - c') (c - c') (by omega) zs hzs z1
        (by
          intro j hj
          rw [cell_of_row wr _ _ _ _ _ hgr, Array.getElem?_eq_getElem (by omega)]
          rfl) (fun j _ => frozen_of_row wr g _ _ _ hgr)
      clear hzs z1
      have hout := fun i (hi : i < c' * 4) => World.cell?_setCells_out g zs (c' * 4) wr ⟨g, i, none⟩ (fun _ _ => .inl hi)
      have hm3 := mods_setCells g zs (c' * 4) wr
      go_wp2_with fail
      go_ret
      refine ⟨by rw [hc']; rfl, ?_, ?_⟩
      · intro i hi
        have hi' : i < c' * 4 := by rw [cellsOf_length, hc'] at hi; exact hi
        rw [hout i hi', cell_of_row wr _ _ _ _ _ hgr]
        have h1 : (cur.toList.take (c' * 4))[i]? = some (cellsOf (T.filter (keepP k)))[i] := by rw [HF.out]; simp [hi]
        rw [List.getElem?_take, if_pos hi'] at h1
        simpa using h1
      · exact (Mods.of_below hb).trans (((hmods.trans hm3).mono (fun _ h => h)))

theorem delete_any (w : World) (g : Nat) (c : Nat) (T : List Pr) (hl : T.length ≤ 100) (hcap : T.length ≤ c) (cur0 : Array Value) (hg : w.heap[g]? = some (.cells cur0 39 (0, 0))) (hs : cur0.size = c * 4) (ht : cur0.toList.take (T.length * 4) = cellsOf T)
    (B : Nat) (k : Int) (hB : w.cell? ⟨B, 0, none⟩ = some (.int .i64 k)) (hne : B ≠ g) :
    Calls Try.prog 25 #[.slice (some ⟨g, 0, none⟩) T.length c, .func (.func 26) #[] #[.pointer (some ⟨B, 0, none⟩)]] w fun e w' => e = .returned (.slice (some ⟨g, 0, none⟩) (T.filter (keepP k)).length c) ∧ PrsAt w' g (T.filter (keepP k)) ∧ Mods [g] w w' := by
  have hP : PrsAt w g T := by
    intro i hi
    rw [cell_of_row w _ _ _ _ _ hg]
    have : (cur0.toList.take (T.length * 4))[i]? = some (cellsOf T)[i] := by rw [ht]; simp [hi]
    rw [List.getElem?_take, if_pos (by rw [cellsOf_length] at hi; exact hi)] at this
    simpa using this
  rcases idx_split k T with ⟨h1, h2⟩ | ⟨i0, hi0, h1, h2, h3⟩
  · refine (delete_none w g c T hl hP (lt_of_block hg) B k hB h1).mono ?_
    rintro e w' ⟨rfl, hb⟩
    rw [h2]
    exact ⟨rfl, fun i hi => (hb.cell (p := ⟨g, i, none⟩) (lt_of_block hg)).trans (hP i hi), Mods.of_below hb⟩
  · obtain ⟨m1, m2⟩ := mid_first k T c cur0 hs ht i0 hi0 h2 h3
    exact delete_some w g c T hl hcap cur0 hg hP B k hB hne i0 hi0 h1 m1 m2
end Go.Proofs.Ytjhggfpnafhonaa
