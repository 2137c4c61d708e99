/- All, of a table: its processes in the order of their numbers. Nothing here is conditional. -/
import Derived.Test.YtjhggfpnafhonaaKeys
import Derived.Test.YtjhggfpnafhonaaOps
import Derived.Deep.DeepCutAuto
namespace Go.Proofs.Ytjhggfpnafhonaa
open Go.RowKit Go.Maps

/-- Processes as cells. -/
def cellsOf (T : List Pr) : List Value := T.flatMap Pr.cells
theorem cellsOf_length (T : List Pr) : (cellsOf T).length = T.length * 4 := by
  induction T with
  | nil => rfl
  | cons p r ih => simp only [cellsOf, List.flatMap_cons, List.length_append] at ih ⊢; simp [Pr.cells, ih]; omega
theorem cellsOf_append (S T : List Pr) : cellsOf (S ++ T) = cellsOf S ++ cellsOf T := by simp [cellsOf]

theorem find_mem {T : List Pr} (h : Up T) {p : Pr} (hp : p ∈ T) : find T p.pid = some p := by
  induction T with
  | nil => simp at hp
  | cons q r ih =>
    have h' := List.pairwise_cons.1 h
    rcases List.mem_cons.1 hp with rfl | hp
    · simp [find]
    · have := h'.1 p hp
      have e : (q.pid == p.pid) = false := by simp; omega
      simp only [find, List.find?_cons, e]
      exact ih h'.2 hp

/-- Numbers that are ints. -/
def Wf (T : List Pr) : Prop := ∀ p ∈ T, (Lit.int .i64 p.pid).wf = true

theorem ownsRow_shape {w : World} {base e size n : Nat} {v : Value} {xs : List Value} (h : w.ownsRow base e size v n xs) :
    ∃ a cap, v = .slice a n cap ∧ ∀ b, a = some b → ∃ g cur, b = ⟨g, 0, none⟩ ∧ base ≤ g ∧ w.heap[g]? = some (.cells cur e (0, 0)) ∧ cur.toList.take (n * size) = xs := by
  rcases h.2 with ⟨rfl, rfl⟩ | ⟨g, cap, cur, rfl, hb, hg, _, _, _, ht⟩
  · exact ⟨none, 0, rfl, fun b hb => by cases hb⟩
  · exact ⟨some ⟨g, 0, none⟩, cap, rfl, fun b hb' => by cases hb'; exact ⟨g, cur, rfl, hb, hg, ht⟩⟩
theorem ownsRow_below {w w' : World} {base e size n : Nat} {v : Value} {xs : List Value} (h : w.ownsRow base e size v n xs) (hb : Below w.heap.size w w') : w'.ownsRow base e size v n xs :=
  h.kept (row := none) ⟨hb.os, hb.tape, hb.output, hb.size, fun k hk _ => hb.block k hk⟩ (by cases v.ownBlock <;> simp)
/-- The numbers in a slice, read by place. -/
def KeysAt (w : World) (a : Option Addr) (T : List Pr) : Prop := ∀ i (h : i < T.length), ∃ g, a = some ⟨g, 0, none⟩ ∧ w.cell? ⟨g, i, none⟩ = some (.int .i64 T[i].pid)
theorem ownsRow_keys {w : World} {base e : Nat} {v : Value} {T : List Pr} (h : w.ownsRow base e 1 v T.length (T.map (fun p => encZ p.pid))) : ∃ a cap, v = .slice a T.length cap ∧ KeysAt w a T := by
  rcases h.2 with ⟨rfl, hn⟩ | ⟨g, cap, cur, rfl, hb, hg, _, _, _, ht⟩
  · exact ⟨none, 0, by rw [hn], fun i hi => by omega⟩
  · refine ⟨some ⟨g, 0, none⟩, cap, rfl, fun i hi => ⟨g, rfl, ?_⟩⟩
    rw [cell_of_row w _ _ _ _ _ hg]
    have : (cur.toList.take (T.length * 1))[i]? = some (.int .i64 T[i].pid) := by rw [ht]; simp [hi, encZ]
    rw [List.getElem?_take, if_pos (by omega)] at this
    simpa using this

theorem Try.info39 : (Try.prog.info? 39).map (fun i => (i.zero, i.size, i.bytes)) = some (some Pr.zero.enc, 4, 32) := by kernel_rfl

set_option maxHeartbeats 2000000 in
theorem all_any (w : World) (t b : Nat) (T : List Pr) (hT : Tab w t b T) (hl : T.length ≤ 100) (hwf : Wf T) :
    Calls Try.prog 13 #[.pointer (some ⟨t, 0, none⟩)] w fun e w' => ∃ v, e = .returned v ∧ w'.ownsRow w.heap.size 39 4 v T.length (cellsOf T) ∧ Below w.heap.size w w' := by
  obtain ⟨i0, hi, hz0, hz1, hz2⟩ := info_parts Try.info39
  have hc := hT.cell
  have ht := hT.lt
  have hm := hT.2.1
  have hbl := hm.lt
  have HW := Lib.hid hwf
  have HU := Lib.hid hm.2
  clear hwf
  go_enter Try.func13, Try.ntmps13
  go_wp2_with (first
    | (go_at_call 22; refine (keys_call _ _).mono ?_; rintro e w' ⟨rfl, rfl⟩)
    | (go_at_call 21; refine (sorted_call w b T hm hl).mono ?_; rintro e w1 ⟨v, rfl, hrow, _, hb⟩; obtain ⟨ka, kc, rfl, hks⟩ := ownsRow_keys hrow))

  have hB1 : Below w.heap.size w w1 := ((Below.refl _ w).alloc (Nat.le_refl _) _).trans (hb.mono (by simp))
  have hc1 : w1.cell? ⟨t, 0, none⟩ = some (.map (some b)) := (hB1.cell (p := ⟨t, 0, none⟩) ht).trans hc
  have ht1 : t < w1.heap.size := Nat.lt_of_lt_of_le ht hB1.size
  have hm1 : TMap w1 b T := hm.below hB1 hbl
  have hbl1 : b < w1.heap.size := hm1.lt
  have HK := Lib.hid hks
  have hz1' := hB1.size
  clear hks hrow hb
  go_loopw [3, 15] (fun out i wr => ∃ k : Nat, k ≤ T.length ∧ i = .int .i64 k ∧ wr.ownsRow w1.heap.size 39 4 out k (cellsOf (T.take k)) ∧ Below w1.heap.size w1 wr)
    (fun _ i _ => T.length - (intOf i).toNat)
  case atStart => exact ⟨0, by omega, rfl, World.ownsRow_nil _ _ _ _, Below.refl _ _⟩
  case round =>
    obtain ⟨k, hk, rfl, hown, hbel⟩ := hrel
    have zr := hbel.size
    by_cases hlt : k < T.length
    · obtain ⟨g, rfl, hg⟩ := HK.out k hlt
      have hgl := World.block_lt_of_cell? w1 _ hg
      have g1 := (hbel.cell (p := ⟨g, k, none⟩) hgl).trans hg
      have c1 := (hbel.cell (p := ⟨t, 0, none⟩) ht1).trans hc1
      have m1 := hm1.below hbel hbl1
      have hts : T.take (k + 1) = T.take k ++ [T[k]] := List.take_succ_eq_append_getElem hlt
      have hfp := find_mem HU.out (List.getElem_mem hlt)
      have hwp := HW.out _ (List.getElem_mem hlt)
      obtain ⟨p, hp⟩ : ∃ p, p = T[k] := ⟨_, rfl⟩
      rw [← hp] at g1 hts hfp hwp
      clear hg hp
      obtain ⟨p1, p2, p3, p4⟩ := p
      have hfe : ((find T p1).getD Pr.zero).enc = .agg #[.int .i64 p1, .int .i64 p2, .int .i64 p3, .int .i64 p4] := by
        simp only [] at hfp
        rw [hfp]; rfl
      have HTS := Lib.hid hts
      clear hts hfp
      go_wp2_with (first
        | (at_lookup; refine wpList_look_t _ rfl _ _ rfl m1 rfl rfl hwp hfe ?_)
        | (at_builtin; refine wpList_append_new wr rfl _ _ 31 rfl w1.heap.size 39 i0 _ 4 32 Try.underlying31 hi hz0 hz1 hz2 rfl (by decide) hown rfl 1 [.int .i64 p1, .int .i64 p2, .int .i64 p3, .int .i64 p4] rfl rfl rfl (by simp [Value.oneCell']) (by unfold maxLen; omega) (by omega) zr ?_; intro v' w2 hown' hgr _))
      go_roundw
      case rel =>
        refine ⟨k + 1, by omega, by go_num, ?_, hbel.grown hgr zr (fun r hr => (hown.lt r hr).1)⟩
        rw [HTS.out, cellsOf_append]
        simpa [cellsOf, Pr.cells] using hown'
      case measure => simp [intOf]; omega
    · obtain ⟨n, hn⟩ : ∃ n, n = k := ⟨_, rfl⟩
      subst hn
      obtain rfl : n = T.length := by omega
      go_wp2_with fail
      go_ret
      refine ⟨_, rfl, ?_, hB1.trans (hbel.mono hz1')⟩
      rw [List.take_length] at hown
      exact ownsRow_base_a hown hz1'
end Go.Proofs.Ytjhggfpnafhonaa
