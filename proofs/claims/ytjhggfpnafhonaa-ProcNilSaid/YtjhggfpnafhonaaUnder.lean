/- Under, on no table and on a zero one. Nothing here is conditional. -/
import Derived.Test.YtjhggfpnafhonaaNone
import Derived.Laws.EntriesVeiled
namespace Go.Proofs.Ytjhggfpnafhonaa
open Go.RowKit Go.Maps Go.Sort Go.Shelf

def Try.keysB_ren : Go.Shelf.Ren := ⟨fun | 7 => 24 | 10 => 30 | n => n, fun | 23 => 60 | 26 => 3 | 3 => 4 | 28 => 58 | 0 => 0 | 27 => 57 | 33 => 44 | 4 => 4 | n => n, fun | n => n⟩
theorem Try.keysB : Go.Proofs.SlLaysZI.n7 Try.prog Try.keysB_ren := {
  mixed := by kernel_rfl
  f7 := ⟨Try.f24.name, by decide, Try.func24.trans (congrArg some (by kernel_rfl))⟩
  f10 := ⟨Try.f30.name, by decide, Try.func30.trans (congrArg some (by kernel_rfl))⟩
  t0 := Try.underlying0
  a0 := Try.isAgg0
  z0 := Try.sizeOf0
  v0 := Try.zeroValue0
  t4 := Try.underlying4
  a4 := Try.isAgg4
  z4 := Try.sizeOf4
  v4 := Try.zeroValue4
  t23 := Try.underlying60
  a23 := Try.isAgg60
  z23 := Try.sizeOf60
  v23 := Try.zeroValue60
  t26 := Try.underlying3
  a26 := Try.isAgg3
  z26 := Try.sizeOf3
  v26 := Try.zeroValue3
  t27 := Try.underlying57
  a27 := Try.isAgg57
  z27 := Try.sizeOf57
  v27 := Try.zeroValue57
  t28 := Try.underlying58
  a28 := Try.isAgg58
  z28 := Try.sizeOf58
  v28 := Try.zeroValue58
  t33 := Try.underlying44
  a33 := Try.isAgg44
  z33 := Try.sizeOf44
  v33 := Try.zeroValue44 }

theorem keysB_call (mb : Option Nat) (W : World) : Calls Try.prog 24 #[.map mb] W fun e w' => e = .returned (.func (.func 30) #[] #[.pointer (some ⟨W.heap.size, 0, none⟩)]) ∧ w' = W.alloc (.cells #[.map mb] 60) :=
  (callsIn_wide (n := 5)).1 (AnyZI.keys_in Try.keysB Fence.wide 5 trivial rfl mb W)

/-- How an element of such a map reads. -/
def elB : Value → Option (DataW Unit × List MemPlace)
  | .bool b => some (.lit (.bool b), [])
  | _ => none

theorem sortedB_call (w : World) (b n : Nat) (hown0 : w.ownsMap Try.prog 3 elB b n (.map [])) :
    Calls Try.prog 21 #[.func (.func 30) #[] #[.pointer (some ⟨w.heap.size, 0, none⟩)]] (w.alloc (.cells #[.map (some b)] 60)) fun e w' => e = .returned (.slice none 0 0) ∧ Below (w.heap.size + 1) (w.alloc (.cells #[.map (some b)] 60)) w' := by
  have hown := World.ownsMap_tight hown0
  have hbl := hown.lt
  have hsz : Maps.size (DataW.map ([] : List (Lit × DataW Unit))) = 0 := rfl
  have hseq : SeqGives Fence.wide 2 Try.prog 30 #[.pointer (some ⟨w.heap.size, 0, none⟩)] encZ (fun ss => ss.Perm (intKeys (DataW.map ([] : List (Lit × DataW Unit))))) (Maps.size (DataW.map ([] : List (Lit × DataW Unit)))) (w.alloc (.cells #[.map (some b)] 60)) :=
    AnyZI.keys_gives (ρ := Try.keysB_ren) { Try.keysB with } Fence.wide _ trivial rfl (by omega) w.heap.size b 0 _ _ (by simp) (by simp) (by
      obtain ⟨es, clock, hb, Ft, hs, hD⟩ := hown
      exact ⟨es, clock, (Below.heap_alloc _ _ b hbl).trans hb, Ft, hs, hD⟩)
  have cS := AnyZI.sorted_in Try.sortedA Fence.wide 5 trivial trivial trivial trivial rfl (by omega) (Try.sortsA _) (enters_of Try.func28 (by kernel_rfl) rfl) 30 #[.pointer (some ⟨w.heap.size, 0, none⟩)] trivial (enters_of Try.func30 (by kernel_rfl) rfl) _ _ (by rw [hsz]; unfold maxLen; omega) (by rw [hsz]; omega) _ hseq
  change CallsIn _ _ Try.prog 21 _ _ _ at cS
  refine (callsIn_wide.1 cS).mono ?_
  rintro e w' ⟨v, ss, rfl, hS, hrow, hnil, hb⟩
  have hss : ss = [] := List.Perm.eq_nil hS
  exact ⟨by rw [hnil.2 hss], by simpa using hb⟩
section
variable (w : World) {ops : Array Oper} {rest : List Oper} {o : Oper} {a : Act} {Q : Exit → Act → World → Prop}
theorem wpList_insert_b (hg : o.guard = none) (m x v : Operand) (hop : o.op = Op.insert 60 m x v) {b n : Nat} {D : DataW Unit} (h : w.ownsMap Try.prog 3 elB b n D) (hn : n < 10) {k : Int} (hm : a.eval m = .map (some b)) (hx : a.eval x = .int .i64 k) (hk : (Lit.int .i64 k).wf = true)
    (hv : a.eval v = .bool true) (hK : ∀ w', w'.ownsMap Try.prog 3 elB b (n + 1) (D.put (.int .i64 k) (.lit (.bool true))) → w.grownBy w' (some b) → wpList Try.prog ops Q rest (a.put o.dst undef) w') : wpList Try.prog ops Q (o :: rest) a w := by
  refine wpList_plain hg fun K' hK' => ?_
  obtain ⟨w', hrun, r1, r2⟩ := h.update keyedK Try.underlying60 (by unfold maxLen; omega) (keyOf_int_mk Try.underlying3 hk) (val := .bool true) (d := .lit (.bool true)) (ps := []) rfl
  unfold Oper.wp
  simp [execOp, hop, hm, hx, hv, hrun, Result.andThen]
  exact hK' _ _ (hK w' r1 r2)
theorem wpList_delete_b (hg : o.guard = none) (m x : Operand) (hop : o.op = Op.call { callee := Callee.builtin Builtin.delete, args := #[m, x], argTypes := #[60, 3] }) {b n : Nat} {D : DataW Unit} (h : w.ownsMap Try.prog 3 elB b n D) {k : Int} (hm : a.eval m = .map (some b)) (hx : a.eval x = .int .i64 k) (hk : (Lit.int .i64 k).wf = true)
    (hK : ∀ w', w'.ownsMap Try.prog 3 elB b n (D.del (.int .i64 k)) → w.grownBy w' (some b) → wpList Try.prog ops Q rest (a.put o.dst (.tuple #[])) w') : wpList Try.prog ops Q (o :: rest) a w :=
  wpList_delete_own w hg m x 60 3 hop 4 keyedK Try.underlying60 elB b n _ hm h _ _ hx (keyOf_int_mk Try.underlying3 hk) (fun w' r1 r2 => hK w' r1 r2.grown)
end

theorem ownsMap_block {w w' : World} {b n : Nat} {D : DataW Unit} (h : w.ownsMap Try.prog 3 elB b n D) (hb : w'.heap[b]? = w.heap[b]?) : w'.ownsMap Try.prog 3 elB b n D := by
  obtain ⟨es, clock, h1, F, hs, hD⟩ := h
  exact ⟨es, clock, hb.trans h1, F, hs, hD⟩

set_option maxHeartbeats 2000000 in
theorem under_emp (w : World) (pp : Option Addr) (h : Emp w (.pointer pp)) (k : Int) (hk : (Lit.int .i64 k).wf = true) :
    Calls Try.prog 16 #[.pointer pp, .int .i64 k] w fun e w' => e = .returned (.slice none 0 0) ∧ Below w.heap.size w w' := by
  have hmm := run_makeMap (P := Try.prog) 60 (w.alloc (.cells #[.pointer pp] 23))
  have m0 := World.ownsMap_made (w.alloc (.cells #[.pointer pp] 23)) Try.prog 3 elB
  have hB1 : Below w.heap.size w (w.alloc (.cells #[.pointer pp] 23)) := (Below.refl _ w).alloc (Nat.le_refl _) _
  have hc0 := cell_of_row ((w.alloc (.cells #[.pointer pp] 23)).alloc (.map #[] 0)) w.heap.size 0 _ _ _ ((Below.heap_alloc _ _ _ (by simp)).trans (heap_alloc_new w (.cells #[.pointer pp] 23)))
  simp only [List.getElem?_toArray, List.getElem?_cons_zero] at hc0
  have hB2 : Below w.heap.size w ((w.alloc (.cells #[.pointer pp] 23)).alloc (.map #[] 0)) := hB1.alloc (by simp) _
  rw [World.size_alloc] at m0
  have hs2 : ((w.alloc (.cells #[.pointer pp] 23)).alloc (.map #[] 0)).heap.size = w.heap.size + 2 := by simp
  by_cases h0 : k = 0
  · subst h0
    go_enter Try.func16, Try.ntmps16
    go_upto_region 6 with (
      refine wpList_insert_b _ rfl _ _ _ rfl m0 (by omega) rfl rfl hk rfl ?_; intro w2 hm2 hgr;
      have s2 := hgr.size;
      rw [hs2] at s2;
      have hB3 : Below w.heap.size w w2 := hB2.grown hgr (by simp; omega) (fun r hr => by cases hr; omega);
      have hc2 : w2.cell? ⟨w.heap.size, 0, none⟩ = some (.pointer pp) := (World.cell?_of_block (hgr.block w.heap.size (by rw [hs2]; omega) (by simp))).trans hc0;
      clear hmm m0 hc0 hB1 hB2 hs2)
    obtain ⟨f, hf⟩ : ∃ f, Value.func (Fn.func 23) #[] #[.pointer (some ⟨w.heap.size, 0, none⟩), .pointer (some ⟨w2.heap.size, 0, none⟩), .pointer (some ⟨w2.heap.size + 1, 0, none⟩)] = f := ⟨_, rfl⟩
    obtain ⟨w3, hw3⟩ : ∃ w3, (w2.alloc (.cells #[.map (some (w.heap.size + 1))] 60)).alloc (.cells #[f] 61) = w3 := ⟨_, rfl⟩
    have hB : Below w2.heap.size w2 w3 := by rw [← hw3]; exact ((Below.refl _ _).alloc (Nat.le_refl _) _).alloc (by simp) _
    have hm3 : w3.ownsMap Try.prog 3 elB (w.heap.size + 1) (0 + 1) _ := ownsMap_block hm2 (hB.block _ (by omega))
    have hc3 := (hB.cell (p := ⟨w.heap.size, 0, none⟩) (by simp; omega)).trans hc2
    have hE3 : Emp w3 (.pointer pp) := (h.below hB3).below hB
    have hl3 : w3.heap.size = w2.heap.size + 2 := by rw [← hw3]; simp
    have hk3 := cell_of_row w3 w2.heap.size 0 _ _ _ (by rw [← hw3]; exact (Below.heap_alloc _ _ _ (by simp)).trans (heap_alloc_new _ _))
    simp only [List.getElem?_toArray, List.getElem?_cons_zero] at hk3
    rw [hf, hw3]
    clear hw3 hm2 hc2 hgr
    have hk4 := hk3
    have HM4 := hm3
    have hB4 : Below w.heap.size w w3 := hB3.trans (hB.mono (by omega))
    have hs4 : w2.heap.size + 2 ≤ w3.heap.size := by omega
    clear hk3 hm3 hc3 hE3
    have hd : ((DataW.map []).put (Lit.int IntKind.i64 0) (DataW.lit (Lit.bool true)) : DataW Unit).del (Lit.int IntKind.i64 0) = .map [] := by
      simp [DataW.put, DataW.del, DataW.insert, Lit.sameKey]
    have HD := Lib.hid hd
    clear hd
    go_wp2_with (first
      | (
        refine wpList_delete_b _ rfl _ _ rfl HM4 rfl rfl hk ?_; intro w5 hm5 hgr5;
        rw [HD.out] at hm5;
        have s5 := hgr5.size;
        have hk5 := (World.cell?_of_block (a := ⟨w2.heap.size, 0, none⟩) (hgr5.block w2.heap.size (by omega) (by simp; omega))).trans hk4;
        have hB5 : Below w.heap.size w w5 := hB4.grown hgr5 hB4.size (fun r hr => by cases hr; omega))
      | (go_at_call 24; refine (keysB_call _ _).mono ?_; rintro e w6 ⟨rfl, rfl⟩)
      | (go_at_call 21; refine (sortedB_call w5 _ _ hm5).mono ?_; rintro e w7 ⟨rfl, hb7⟩))
    go_ret
    exact ⟨rfl, (hB5.alloc hB5.size _).trans (hb7.mono (by have := hB5.size; omega))⟩
  · go_enter Try.func16, Try.ntmps16
    go_wp2_with (
      refine wpList_insert_b _ rfl _ _ _ rfl m0 (by omega) rfl rfl hk rfl ?_; intro w2 hm2 hgr;
      have s2 := hgr.size;
      rw [hs2] at s2;
      have hB3 : Below w.heap.size w w2 := hB2.grown hgr (by simp; omega) (fun r hr => by cases hr; omega);
      have hc2 : w2.cell? ⟨w.heap.size, 0, none⟩ = some (.pointer pp) := (World.cell?_of_block (hgr.block w.heap.size (by rw [hs2]; omega) (by simp))).trans hc0;
      clear hmm m0 hc0 hB1 hB2 hs2)
    obtain ⟨f, hf⟩ : ∃ f, Value.func (Fn.func 23) #[] #[.pointer (some ⟨w.heap.size, 0, none⟩), .pointer (some ⟨w2.heap.size, 0, none⟩), .pointer (some ⟨w2.heap.size + 1, 0, none⟩)] = f := ⟨_, rfl⟩
    obtain ⟨w3, hw3⟩ : ∃ w3, (w2.alloc (.cells #[.map (some (w.heap.size + 1))] 60)).alloc (.cells #[f] 61) = w3 := ⟨_, rfl⟩
    have hB : Below w2.heap.size w2 w3 := by rw [← hw3]; exact ((Below.refl _ _).alloc (Nat.le_refl _) _).alloc (by simp) _
    have hm3 : w3.ownsMap Try.prog 3 elB (w.heap.size + 1) (0 + 1) _ := ownsMap_block hm2 (hB.block _ (by omega))
    have hc3 := (hB.cell (p := ⟨w.heap.size, 0, none⟩) (by simp; omega)).trans hc2
    have hE3 : Emp w3 (.pointer pp) := (h.below hB3).below hB
    have hl3 : w3.heap.size = w2.heap.size + 2 := by rw [← hw3]; simp
    have hk3 := cell_of_row w3 w2.heap.size 0 _ _ _ (by rw [← hw3]; exact (Below.heap_alloc _ _ _ (by simp)).trans (heap_alloc_new _ _))
    simp only [List.getElem?_toArray, List.getElem?_cons_zero] at hk3
    rw [hf, hw3]
    clear hw3 hm2 hc2 hgr
    refine (in_emp w3 _ _ _ _ hE3 hc3 k).mono ?_
    rintro e w4 ⟨rfl, hb4⟩
    have hk4 := (hb4.cell (p := ⟨w2.heap.size, 0, none⟩) (by simp; omega)).trans hk3
    have HM4 : w4.ownsMap Try.prog 3 elB (w.heap.size + 1) (0 + 1) _ := ownsMap_block hm3 (hb4.block _ (by omega))
    have hB4 : Below w.heap.size w w4 := (hB3.trans (hB.mono (by omega))).trans (hb4.mono (by omega))
    have hs4 : w2.heap.size + 2 ≤ w4.heap.size := by have := hb4.size; omega
    clear hk3 hm3 hc3 hE3
    have hd : ((DataW.map []).put (Lit.int IntKind.i64 k) (DataW.lit (Lit.bool true)) : DataW Unit).del (Lit.int IntKind.i64 k) = .map [] := by
      simp [DataW.put, DataW.del, DataW.insert, Lit.sameKey]
    have HD := Lib.hid hd
    clear hd
    go_wp2_with (first
      | (
        refine wpList_delete_b _ rfl _ _ rfl HM4 rfl rfl hk ?_; intro w5 hm5 hgr5;
        rw [HD.out] at hm5;
        have s5 := hgr5.size;
        have hk5 := (World.cell?_of_block (a := ⟨w2.heap.size, 0, none⟩) (hgr5.block w2.heap.size (by omega) (by simp; omega))).trans hk4;
        have hB5 : Below w.heap.size w w5 := hB4.grown hgr5 hB4.size (fun r hr => by cases hr; omega))
      | (go_at_call 24; refine (keysB_call _ _).mono ?_; rintro e w6 ⟨rfl, rfl⟩)
      | (go_at_call 21; refine (sortedB_call w5 _ _ hm5).mono ?_; rintro e w7 ⟨rfl, hb7⟩))
    go_ret
    exact ⟨rfl, (hB5.alloc hB5.size _).trans (hb7.mono (by have := hB5.size; omega))⟩
end Go.Proofs.Ytjhggfpnafhonaa
