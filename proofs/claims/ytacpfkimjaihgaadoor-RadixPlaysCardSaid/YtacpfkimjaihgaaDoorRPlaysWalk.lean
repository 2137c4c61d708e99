/- The Go text of flyleaflaw07.RadixPlays returns true and writes nothing that was there. -/
import Derived.BigQuiet
import Derived.Deep.DeepCutAuto
import Derived.Deep.CutBlock
import Derived.Deep.RegionWith
import Derived.Deep.RegionHeld3
import Derived.Test.YtacpfkimjaihgaaDoorRPlaysLib
namespace Go.Proofs.YtacpfkimjaihgaaDoor
open Go.RowKit
set_option linter.unusedVariables false

section
variable {w0 w w' : World} {t p bb hb many B0 root r : Nat} {C1 C2 : Nat → Option Sl} {a : Option Addr} {c : Nat}
theorem PY.all_t (h : PY w0 w t p bb hb many B0 root r C1 C2 a c) (hw : Wd w0) (L : List (Nat × Sl)) (nn : Nat) (hL : pages C1 = L) (hn : L.length = nn) :
    Calls Tryd.prog 49 #[.pointer (some ⟨t, 0, none⟩)] w fun e w' => ∃ a c, e = .returned (.slice a nn c) ∧ SpAt w' w.heap.size (.slice a nn c) L a c ∧ Below w.heap.size w w' := by
  subst hn
  obtain ⟨F, N, hR, hT⟩ := h.tab
  refine (all_is hw hR L hL).mono ?_
  rintro e w' ⟨a, c, rfl, hs, _, hb'⟩
  exact ⟨a, c, rfl, hs, hb'⟩
theorem PY.row (h : PY w0 w t p bb hb many B0 root r C1 C2 a c) (L : List (Nat × Sl)) (nn : Nat) (hL : pages C2 = L) (hn : L.length = nn) : SpAt w B0 (.slice a nn c) L a c := by
  subst hn hL
  exact h.rt.sp
theorem RT.row {r B0 : Nat} (h : RT w r B0 (pages C2) a c) (L : List (Nat × Sl)) (nn : Nat) (hL : pages C2 = L) (hn : L.length = nn) : SpAt w B0 (.slice a nn c) L a c := by
  subst hn hL
  exact h.sp
theorem RT.cell {r B0 : Nat} (h : RT w r B0 (pages C2) a c) (L : List (Nat × Sl)) (nn : Nat) (hL : pages C2 = L) (hn : L.length = nn) : w.cell? ⟨r, 0, none⟩ = some (.slice a nn c) := by
  subst hn hL
  exact h.c0
end
/-- The slice's elements are these calls. -/
def Ops8At (w : World) (a : Option Addr) (L : List Op8) : Prop :=
  ∀ i (h : i < L.length), ∃ b off, a = some ⟨b, off, none⟩ ∧ ∀ j v, L[i].cells[j]? = some v → w.cell? ⟨b, off + i * 8 + j, none⟩ = some v
theorem page_any (w : World) (o1 o2 : Int) (o3 s1 s2 s3 s4 : Bool) (s5 : Int) (k : Int) (hk : (Op8.pg ⟨o1, o2, o3, ⟨s1, s2, s3, s4, s5⟩⟩) = k) :
    Calls Tryd.prog 57 #[.agg #[.int .i64 o1, .int .i64 o2, .bool o3, .bool s1, .bool s2, .bool s3, .bool s4, .int .i64 s5]] w fun e w' => e = .returned (.int .i64 k) ∧ Below w.heap.size w w' := by
  have h12 := and4095 o2
  have hb0 := below1 w (.cells #[.int .i64 o1, .int .i64 o2, .bool o3, .bool s1, .bool s2, .bool s3, .bool s4, .int .i64 s5] 97)
  subst hk
  cases o3
  all_goals
    simp only [Op8.pg]
    go_enter Tryd.func57, Tryd.ntmps57
    go_wp2
    go_ret
    exact ⟨rfl, hb0⟩

def fst1 : List (Nat × Sl) → (Nat × Sl) × Bool
  | [] => ((0, .zero), false)
  | x :: _ => (x, true)
theorem firstV_eq (M : List (Nat × Sl)) : firstV M = .tuple #[.agg (spotL (fst1 M).1).toArray, .bool (fst1 M).2] := by cases M <;> rfl
/-- The pages from k on, of those from the i-th on. -/
def flt (L : List (Nat × Sl)) (k : Int) (i : Nat) : List (Nat × Sl) := (L.drop i).filter (fun x => decide (k ≤ (x.1 : Int)))
theorem flt_end (L : List (Nat × Sl)) (k : Int) : flt L k L.length = [] := by simp [flt]
theorem flt_cons {L : List (Nat × Sl)} {k : Int} {i : Nat} {x : Nat × Sl} (h : L[i]? = some x) : flt L k i = if k ≤ (x.1 : Int) then x :: flt L k (i + 1) else flt L k (i + 1) := by
  obtain ⟨hi, rfl⟩ := List.getElem?_eq_some_iff.1 h
  unfold flt
  rw [List.drop_eq_getElem_cons hi, List.filter_cons]
  by_cases e : k ≤ (L[i].1 : Int)
  · simp [e]
  · simp [e]
theorem flt_from (C : Nat → Option Sl) (k : Int) : flt (pages C) k 0 = pgL C k 4 0 := by rw [from_eq, flt, List.drop_zero]
theorem pages_C0 : pages C0 = [] := pages_eq List.Pairwise.nil fun x => by simp [C0]
theorem py_new {w0 w : World} {t p bb hb many root : Nat} {F : FP} (h : Rst w0 w t p bb hb many F root (N0 root) C0) :
    PY w0 (w.alloc (.cells #[.slice none 0 0] 95)) t p bb hb many (w.heap.size + 1) root w.heap.size C0 C0 none 0 := by
  have hlt := h.tb.lt
  have hlts := h.tb.lts
  have hsz := h.tb.at_.below.size
  refine ⟨⟨F, _, h.stay (below1 w _), tight0 _⟩, ?_, ⟨by omega, by omega, by omega⟩, by simp⟩
  rw [pages_C0]
  exact ⟨heap_alloc_new w _, ⟨rfl, by simp, fun i x hx => by simp at hx⟩⟩

set_option maxRecDepth 100000 in
set_option maxHeartbeats 16000000 in
theorem rplays_walk (w : World) (hw : Wd w) (n : Int) (hn : (Lit.int IntKind.i64 n).wf = true) (a : Option Addr) (len cap : Nat) (hle : len ≤ cap) (hmx : cap ≤ maxLen) (ops : List Op8) (hol : ops.length = len) (hops : Ops8At w a ops) :
    Calls Tryd.prog 15 #[.int .i64 n, .slice a len cap] w fun e w' => e = .returned (.bool true) ∧ Below w.heap.size w w' := by
  obtain ⟨M, hM, hM1⟩ : ∃ k : Nat, bits BinOp.and IntKind.i64 n 63 = (k : Int) ∧ k < 64 := ⟨(n % 64).toNat, by rw [and63]; omega, by omega⟩
  have HW := Lib.hid hw
  have HO := Lib.hid hops
  have HOL := Lib.hid hol
  have hlen : len ≤ 9223372036854775807 := by unfold maxLen at hmx; omega
  have haw := awake07 w hw
  clear hw hops hol hmx hn
  go_enter Tryd.func15, Tryd.ntmps15
  go_wp2_with fail
  refine haw.mono ?_
  rintro e w1 ⟨rfl, hb1⟩
  clear haw
  go_wp2_with fail
  obtain ⟨mm, hmm, hmm1⟩ : ∃ mm : Nat, (1 : Int) + M = mm ∧ (1 ≤ mm ∧ mm ≤ 64) := ⟨1 + M, by omega, by omega⟩
  refine (new_at hb1 (1 + (M : Int)) (by omega) (by omega)).mono ?_
  rintro e w2 ⟨p, bb, hb, rfl, hA⟩
  rw [show ((1 : Int) + M).toNat = mm from by omega] at hA
  go_wp2_with fail
  refine (new_table hA (by omega) (by omega)).mono ?_
  rintro e w3 ⟨t, root, F1, rfl, ht0, hR⟩
  have HR := Lib.hid hR
  clear hR hA hb1 ht0
  go_wp2_with fail
  have HPY := Lib.hid (py_new HR.out)
  clear HR
  generalize w3.alloc (.cells #[.slice none 0 0] 95) = W4 at HPY ⊢
  generalize w3.heap.size = r at HPY ⊢
  obtain ⟨B0, hB0⟩ : ∃ B0, r + 1 = B0 := ⟨_, rfl⟩
  rw [hB0] at HPY
  clear hB0
  go_loopw [11] (fun iv wx => ∃ (j : Nat) (C' : Nat → Option Sl) (a' : Option Addr) (c' : Nat), j ≤ 40 ∧ iv = .int .i64 j ∧ Hid (PY w wx t p bb hb mm B0 root r C' C' a' c')) (fun i _ => 40 - (intOf i).toNat)
  case atStart => exact ⟨0, _, _, _, by omega, rfl, HPY⟩
  case round => as_aux_lemma =>
    clear HPY
    obtain ⟨j, C1, a1, c1, hj, rfl, HPY⟩ := hrel
    by_cases hlt : j < len ∧ j < 40
    · obtain ⟨hl1, hl2⟩ := hlt
      obtain ⟨b, off, rfl, hcl⟩ := HO.out j (by rw [HOL.out]; exact hl1)
      obtain ⟨o, ho⟩ : ∃ o, ops[j]'(by rw [HOL.out]; exact hl1) = o := ⟨_, rfl⟩
      rw [ho] at hcl
      obtain ⟨o1, o2, o3, s1, s2, s3, s4, s5⟩ := o
      have hcc := fun i v (h : _) => (HPY.out.below.cell (p := ⟨b, off + j * 8 + i, none⟩) (World.block_lt_of_cell? w _ (hcl i v h))).trans (hcl i v h)
      have d0 := hcc 0 _ rfl
      have d1 := hcc 1 _ rfl
      have d2 := hcc 2 _ rfl
      have d3 := hcc 3 _ rfl
      have d4 := hcc 4 _ rfl
      have d5 := hcc 5 _ rfl
      have d6 := hcc 6 _ rfl
      have d7 := hcc 7 _ rfl
      rw [Nat.add_zero] at d0
      simp only at d0 d1 d2 d3 d4 d5 d6 d7
      clear hcl hcc ho
      obtain ⟨k, hk⟩ : ∃ k, Op8.pg ⟨o1, o2, o3, ⟨s1, s2, s3, s4, s5⟩⟩ = k := ⟨_, rfl⟩
      obtain ⟨q, hqq, hq0, hq1⟩ : ∃ q, bits BinOp.and IntKind.i64 o1 7 = q ∧ 0 ≤ q ∧ q ≤ 7 := ⟨_, and7 o1, by omega, by omega⟩
      have HK := Lib.hid hk
      have HQ := Lib.hid (And.intro hq0 hq1)
      clear hk hq0 hq1
      go_upto_region 12 with (fail)
      have HP2 := Lib.hid (HPY.out.stay (below1 wr (.cells #[.int .i64 o1, .int .i64 o2, .bool o3, .bool s1, .bool s2, .bool s3, .bool s4, .int .i64 s5] 97)))
      have nO := heap_alloc_new wr (.cells #[.int .i64 o1, .int .i64 o2, .bool o3, .bool s1, .bool s2, .bool s3, .bool s4, .int .i64 s5] 97)
      generalize wr.alloc (.cells #[.int .i64 o1, .int .i64 o2, .bool o3, .bool s1, .bool s2, .bool s3, .bool s4, .int .i64 s5] 97) = A at HP2 nO ⊢
      have hob : B0 ≤ wr.heap.size := HPY.out.size
      generalize wr.heap.size = ob at nO hob ⊢
      have HOBB := Lib.hid hob
      clear hob
      clear HPY d0 d1 d2 d3 d4 d5 d6 d7
      have k0 := cell_of_row A _ 0 _ _ _ nO
      have k1 := cell_of_row A _ 1 _ _ _ nO
      have k2 := cell_of_row A _ 2 _ _ _ nO
      have k3 := cell_of_row A _ 3 _ _ _ nO
      have k4 := cell_of_row A _ 4 _ _ _ nO
      have k5 := cell_of_row A _ 5 _ _ _ nO
      have k6 := cell_of_row A _ 6 _ _ _ nO
      have k7 := cell_of_row A _ 7 _ _ _ nO
      simp only [List.getElem?_toArray, List.getElem?_cons_zero, List.getElem?_cons_succ] at k0 k1 k2 k3 k4 k5 k6 k7
      have lO := lt_of_block nO
      go_wp2_with fail
      refine (page_any _ o1 o2 o3 s1 s2 s3 s4 s5 k HK.out).mono ?_
      rintro e w5 ⟨rfl, hb5⟩
      have HP5 := Lib.hid (HP2.out.stay hb5)
      have n5 := (hb5.block ob lO).trans nO
      clear HP2 k0 k1 k2 k3 k4 k5 k6 k7 nO lO HK hb5
      have k0 := cell_of_row w5 _ 0 _ _ _ n5
      simp only [List.getElem?_toArray, List.getElem?_cons_zero] at k0
      have lO := lt_of_block n5
      have NO := Lib.hid n5
      clear n5
      go_upto_block 2 with (fail)
      clear k0 hqq
      obtain ⟨hq0, hq1⟩ := HQ.out
      go_cut [14, 16, 18, 20, 22, 24, 26, 27] (fun okv _ _ _ _ _ _ _ wx => ∃ (C' : Nat → Option Sl) (a' : Option Addr) (c' : Nat), okv = .bool true ∧ Hid (PY w wx t p bb hb mm B0 root r C' C' a' c'))
      case first =>
        have hcase : q ≤ 3 ∨ q = 4 ∨ q = 5 ∨ q = 6 ∨ q = 7 := by omega
        clear hq0 hq1
        rcases hcase with hq3 | rfl | rfl | rfl | rfl
        · as_aux_lemma =>
          have e4 : (q == 4) = false := by simp; omega
          have e5 : (q == 5) = false := by simp; omega
          have e6 : (q == 6) = false := by simp; omega
          have e7 : (q == 7) = false := by simp; omega
          obtain ⟨⟨x, C2⟩, hx⟩ : ∃ g, setP mm C1 k ⟨s1, s2, s3, s4, s5⟩ = g := ⟨_, rfl⟩
          have HX := Lib.hid hx
          have HLE := Lib.hid HP5.out.few.1
          obtain ⟨n0, hn0⟩ : ∃ n0, (pages C1).length = n0 := ⟨_, rfl⟩
          have HN := Lib.hid hn0
          obtain ⟨xn, hxn⟩ : ∃ xn, nodesL (pages C1) = xn := ⟨_, rfl⟩
          have HXN := Lib.hid hxn
          have hle := HLE.out
          rw [hxn] at hle
          have HFR := Lib.hid (show (mm : Int) - (nodesL (pages C1) : Int) = (mm : Int) - xn by rw [hxn])
          have hwr : IntKind.i64.wrap ((mm : Int) - xn) = (mm : Int) - xn := by rw [IntKind.wrap_i64]; omega
          have c0 := HP5.out.c0 n0 hn0
          have lr := HP5.out.lr
          have HPD := Lib.hid HP5.out.drew
          have hlay := HP5.out.lay.lt
          have hobb := HOBB.out
          have k3 := cell_of_row w5 _ 3 _ _ _ NO.out
          have k4 := cell_of_row w5 _ 4 _ _ _ NO.out
          have k5 := cell_of_row w5 _ 5 _ _ _ NO.out
          have k6 := cell_of_row w5 _ 6 _ _ _ NO.out
          have k7 := cell_of_row w5 _ 7 _ _ _ NO.out
          simp only [List.getElem?_toArray, List.getElem?_cons_zero, List.getElem?_cons_succ] at k3 k4 k5 k6 k7
          clear hx hn0 hxn
          go_upto_region 15 with (fail)
          refine wp_region_held_drew (S := fun w' => w'.cell? ⟨ob, 3, none⟩ = some (.bool s1) ∧ w'.cell? ⟨ob, 4, none⟩ = some (.bool s2) ∧ w'.cell? ⟨ob, 5, none⟩ = some (.bool s3) ∧ w'.cell? ⟨ob, 6, none⟩ = some (.bool s4) ∧ w'.cell? ⟨ob, 7, none⟩ = some (.int .i64 s5)) (by kernel_rfl) ⟨k3, k4, k5, k6, k7⟩ (fun hHeld => ?_)
          refine wpAnyH_take (i := 0) (v := ?_) rfl (by kernel_rfl) (by kernel_rfl) (by kernel_rfl) (fun _ _ _ h => h) (Or.inl ⟨by rfl, ?_⟩) (by assumption) ?_
          rotate_left
          · (intro w hSw; (try dsimp only at hSw); go_simp; first | done | with_reducible rfl)
          try simp only [Act.put, List.getElem_toArray, List.getElem_cons_zero, List.setIfInBounds_toArray, List.set_cons_zero, List.set_cons_succ]
          refine wpAnyH_take (i := 1) (v := ?_) rfl (by kernel_rfl) (by kernel_rfl) (by kernel_rfl) (fun _ _ _ h => h) (Or.inl ⟨by rfl, ?_⟩) (by assumption) ?_
          rotate_left
          · (intro w hSw; (try dsimp only at hSw); go_simp; first | done | with_reducible rfl)
          try simp only [Act.put, List.getElem_toArray, List.getElem_cons_zero, List.getElem_cons_succ, List.setIfInBounds_toArray, List.set_cons_zero, List.set_cons_succ]
          refine wpAnyH_take (i := 2) (v := ?_) rfl (by kernel_rfl) (by kernel_rfl) (by kernel_rfl) (fun _ _ _ h => h) (Or.inl ⟨by rfl, ?_⟩) (by assumption) ?_
          rotate_left
          · (intro w hSw; (try dsimp only at hSw); go_simp; first | done | with_reducible rfl)
          try simp only [Act.put, List.getElem_toArray, List.getElem_cons_zero, List.getElem_cons_succ, List.setIfInBounds_toArray, List.set_cons_zero, List.set_cons_succ]
          refine wpAnyH_take (i := 3) (v := ?_) rfl (by kernel_rfl) (by kernel_rfl) (by kernel_rfl) (fun _ _ _ h => h) (Or.inl ⟨by rfl, ?_⟩) (by assumption) ?_
          rotate_left
          · (intro w hSw; (try dsimp only at hSw); go_simp; first | done | with_reducible rfl)
          try simp only [Act.put, List.getElem_toArray, List.getElem_cons_zero, List.getElem_cons_succ, List.setIfInBounds_toArray, List.set_cons_zero, List.set_cons_succ]
          refine wpAnyH_take (i := 5) (v := ?_) rfl (by kernel_rfl) (by kernel_rfl) (by kernel_rfl) (fun _ _ _ h => h) (Or.inl ⟨by rfl, ?_⟩) (by assumption) ?_
          rotate_left
          · (intro w hSw; (try dsimp only at hSw); go_simp; first | done | with_reducible rfl)
          try simp only [Act.put, List.getElem_toArray, List.getElem_cons_zero, List.getElem_cons_succ, List.setIfInBounds_toArray, List.set_cons_zero, List.set_cons_succ]
          refine wpAnyH_take (i := 6) (v := ?_) rfl (by kernel_rfl) (by kernel_rfl) (by kernel_rfl) (fun _ _ _ h => h) (Or.inl ⟨by rfl, ?_⟩) (by assumption) ?_
          rotate_left
          · (intro w hSw; (try dsimp only at hSw); go_simp; first | done | with_reducible rfl)
          try simp only [Act.put, List.getElem_toArray, List.getElem_cons_zero, List.getElem_cons_succ, List.setIfInBounds_toArray, List.set_cons_zero, List.set_cons_succ]
          refine wpAnyH_take (i := 7) (v := ?_) rfl (by kernel_rfl) (by kernel_rfl) (by kernel_rfl) (fun _ _ _ h => h) (Or.inl ⟨by rfl, ?_⟩) (by assumption) ?_
          rotate_left
          · (intro w hSw; (try dsimp only at hSw); go_simp; first | done | with_reducible rfl)
          try simp only [Act.put, List.getElem_toArray, List.getElem_cons_zero, List.getElem_cons_succ, List.setIfInBounds_toArray, List.set_cons_zero, List.set_cons_succ]
          refine wpAnyH_take (i := 8) (v := ?_) rfl (by kernel_rfl) (by kernel_rfl) (by kernel_rfl) (fun _ _ _ h => h) (Or.inl ⟨by rfl, ?_⟩) (by assumption) ?_
          rotate_left
          · (intro w hSw; (try dsimp only at hSw); go_simp; first | done | with_reducible rfl)
          try simp only [Act.put, List.getElem_toArray, List.getElem_cons_zero, List.getElem_cons_succ, List.setIfInBounds_toArray, List.set_cons_zero, List.set_cons_succ]
          refine wpAnyH_take (i := 9) (v := ?_) rfl (by kernel_rfl) (by kernel_rfl) (by kernel_rfl) (fun _ _ _ h => h) (Or.inl ⟨by rfl, ?_⟩) (by assumption) ?_
          rotate_left
          · (intro w hSw; (try dsimp only at hSw); go_simp; first | done | with_reducible rfl)
          try simp only [Act.put, List.getElem_toArray, List.getElem_cons_zero, List.getElem_cons_succ, List.setIfInBounds_toArray, List.set_cons_zero, List.set_cons_succ]
          refine wpAnyH_take (i := 10) (v := ?_) rfl (by kernel_rfl) (by kernel_rfl) (by kernel_rfl) (fun _ _ _ h => h) (Or.inl ⟨by rfl, ?_⟩) (by assumption) ?_
          rotate_left
          · (intro w hSw; (try dsimp only at hSw); go_simp; first | done | with_reducible rfl)
          try simp only [Act.put, List.getElem_toArray, List.getElem_cons_zero, List.getElem_cons_succ, List.setIfInBounds_toArray, List.set_cons_zero, List.set_cons_succ]
          refine wpAnyH_take (i := 11) (v := ?_) rfl (by kernel_rfl) (by kernel_rfl) (by kernel_rfl) (fun _ _ _ h => h) (Or.inl ⟨by rfl, ?_⟩) (by assumption) ?_
          rotate_left
          · (intro w hSw; (try dsimp only at hSw); go_simp; first | done | with_reducible rfl)
          try simp only [Act.put, List.getElem_toArray, List.getElem_cons_zero, List.getElem_cons_succ, List.setIfInBounds_toArray, List.set_cons_zero, List.set_cons_succ]
          refine wpAnyH_take (i := 12) (v := ?_) rfl (by kernel_rfl) (by kernel_rfl) (by kernel_rfl) (fun _ _ _ h => h) (Or.inl ⟨by rfl, ?_⟩) (by assumption) ?_
          rotate_left
          · (intro w hSw; (try dsimp only at hSw); go_simp; first | done | with_reducible rfl)
          try simp only [Act.put, List.getElem_toArray, List.getElem_cons_zero, List.getElem_cons_succ, List.setIfInBounds_toArray, List.set_cons_zero, List.set_cons_succ]
          refine wpAnyH_ready (rs := [4, 13]) (by kernel_rfl) (by simp) ?_
          refine AllReadyH.cons rfl (fun K hK => ?_) ?_
          · try simp only [List.getElem_toArray, List.getElem_cons_zero, List.getElem_cons_succ]
            go_simp
            refine (HPD.out.set_t HW.out k ⟨s1, s2, s3, s4, s5⟩ _ rfl x HX.out).mono ?_
            rintro e wS1 ⟨rfl, hmS1, hPS1⟩
            have HPS1 := Lib.hid hPS1
            have NOS1 := Lib.hid ((hmS1.block ob lO (by simp; omega)).trans NO.out)
            have c0S1 := hPS1.c0 n0 HN.out
            have lS1 := hPS1.lr
            have loS1 := lt_of_block NOS1.out
            have k3S1 := cell_of_row wS1 _ 3 _ _ _ NOS1.out; have k4S1 := cell_of_row wS1 _ 4 _ _ _ NOS1.out; have k5S1 := cell_of_row wS1 _ 5 _ _ _ NOS1.out; have k6S1 := cell_of_row wS1 _ 6 _ _ _ NOS1.out; have k7S1 := cell_of_row wS1 _ 7 _ _ _ NOS1.out; simp only [List.getElem?_toArray, List.getElem?_cons_zero, List.getElem?_cons_succ] at k3S1 k4S1 k5S1 k6S1 k7S1
            clear hmS1 hPS1
            refine hK.out _ _ ⟨k3S1, k4S1, k5S1, k6S1, k7S1⟩ (fun hHeld => ?_)
            clear hK K
            try simp only [Act.put, List.getElem_toArray, List.getElem_cons_zero, List.getElem_cons_succ, List.setIfInBounds_toArray, List.set_cons_zero, List.set_cons_succ]
            refine wpAnyH_ready (rs := [13]) (by kernel_rfl) (by simp) ?_
            refine AllReadyH.cons rfl (fun K hK => ?_) ?_
            · try simp only [List.getElem_toArray, List.getElem_cons_zero, List.getElem_cons_succ]
              go_simp
              refine hK.out _ _ (by assumption) (fun hHeld => ?_)
              clear hK K
              try simp only [Act.put, List.getElem_toArray, List.getElem_cons_zero, List.getElem_cons_succ, List.setIfInBounds_toArray, List.set_cons_zero, List.set_cons_succ]
              refine wpAnyH_ready (rs := [14]) (by kernel_rfl) (by simp) ?_
              refine AllReadyH.cons rfl (fun K hK => ?_) ?_
              · try simp only [List.getElem_toArray, List.getElem_cons_zero, List.getElem_cons_succ]
                go_simp
                refine (HPS1.out.nodes_r n0 xn HN.out HXN.out).mono ?_
                rintro e wN2 ⟨rfl, hbN2⟩
                have HPN2 := Lib.hid (HPS1.out.stay hbN2)
                have NON2 := Lib.hid ((hbN2.block ob loS1).trans NOS1.out)
                have loN2 := lt_of_block NON2.out
                have k3N2 := cell_of_row wN2 _ 3 _ _ _ NON2.out; have k4N2 := cell_of_row wN2 _ 4 _ _ _ NON2.out; have k5N2 := cell_of_row wN2 _ 5 _ _ _ NON2.out; have k6N2 := cell_of_row wN2 _ 6 _ _ _ NON2.out; have k7N2 := cell_of_row wN2 _ 7 _ _ _ NON2.out; simp only [List.getElem?_toArray, List.getElem?_cons_zero, List.getElem?_cons_succ] at k3N2 k4N2 k5N2 k6N2 k7N2
                clear hbN2
                refine hK.out _ _ ⟨k3N2, k4N2, k5N2, k6N2, k7N2⟩ (fun hHeld => ?_)
                clear hK K
                try simp only [Act.put, List.getElem_toArray, List.getElem_cons_zero, List.getElem_cons_succ, List.setIfInBounds_toArray, List.set_cons_zero, List.set_cons_succ]
                refine wpAnyH_take (i := 15) (v := ?_) rfl (by kernel_rfl) (by kernel_rfl) (by kernel_rfl) (fun _ _ _ h => h) (Or.inl ⟨by rfl, ?_⟩) (by assumption) ?_
                rotate_left
                · (intro w hSw; (try dsimp only at hSw); go_simp; first | done | with_reducible rfl)
                try simp only [Act.put, List.getElem_toArray, List.getElem_cons_zero, List.getElem_cons_succ, List.setIfInBounds_toArray, List.set_cons_zero, List.set_cons_succ]
                refine wpAnyH_ready (rs := [16]) (by kernel_rfl) (by simp) ?_
                refine AllReadyH.cons rfl (fun K hK => ?_) ?_
                · try simp only [List.getElem_toArray, List.getElem_cons_zero, List.getElem_cons_succ]
                  go_simp
                  refine (HPN2.out.set_r k ⟨s1, s2, s3, s4, s5⟩ _ rfl x HX.out HLE.out _ HFR.out).mono ?_
                  rintro e wF1 ⟨rfl, hmF1, aF1, cF1, hPF1⟩
                  have HPF1 := Lib.hid hPF1
                  have NOF1 := Lib.hid ((hmF1.block ob loN2 (by simp; omega)).trans NON2.out)
                  have loF1 := lt_of_block NOF1.out
                  have k3F1 := cell_of_row wF1 _ 3 _ _ _ NOF1.out; have k4F1 := cell_of_row wF1 _ 4 _ _ _ NOF1.out; have k5F1 := cell_of_row wF1 _ 5 _ _ _ NOF1.out; have k6F1 := cell_of_row wF1 _ 6 _ _ _ NOF1.out; have k7F1 := cell_of_row wF1 _ 7 _ _ _ NOF1.out; simp only [List.getElem?_toArray, List.getElem?_cons_zero, List.getElem?_cons_succ] at k3F1 k4F1 k5F1 k6F1 k7F1
                  clear hmF1 hPF1
                  refine hK.out _ _ ⟨k3F1, k4F1, k5F1, k6F1, k7F1⟩ (fun hHeld => ?_)
                  clear hK K
                  try simp only [Act.put, List.getElem_toArray, List.getElem_cons_zero, List.getElem_cons_succ, List.setIfInBounds_toArray, List.set_cons_zero, List.set_cons_succ]
                  refine wpAnyH_take (i := 17) (v := ?_) rfl (by kernel_rfl) (by kernel_rfl) (by kernel_rfl) (fun _ _ _ h => h) (Or.inl ⟨by rfl, ?_⟩) (by assumption) ?_
                  rotate_left
                  · (intro w hSw; (try dsimp only at hSw); go_simp; first | done | with_reducible rfl)
                  try simp only [Act.put, List.getElem_toArray, List.getElem_cons_zero, List.getElem_cons_succ, List.setIfInBounds_toArray, List.set_cons_zero, List.set_cons_succ]
                  refine wpAnyH_take (i := 18) (v := ?_) rfl (by kernel_rfl) (by kernel_rfl) (by kernel_rfl) (fun _ _ _ h => h) (Or.inl ⟨by rfl, ?_⟩) (by assumption) ?_
                  rotate_left
                  · (intro w hSw; (try dsimp only at hSw); go_simp; first | done | with_reducible rfl)
                  try simp only [Act.put, List.getElem_toArray, List.getElem_cons_zero, List.getElem_cons_succ, List.setIfInBounds_toArray, List.set_cons_zero, List.set_cons_succ]
                  refine wpAnyH_done (by kernel_rfl) ?_ _
                  go_wp2_with fail
                  go_meet
                  exact ⟨_, _, _, rfl, HPF1⟩
                exact AllReadyH.nil
              exact AllReadyH.nil
            exact AllReadyH.nil
          refine AllReadyH.cons rfl (fun K hK => ?_) ?_
          · try simp only [List.getElem_toArray, List.getElem_cons_zero, List.getElem_cons_succ]
            go_simp
            refine hK.out _ _ (by assumption) (fun hHeld => ?_)
            clear hK K
            try simp only [Act.put, List.getElem_toArray, List.getElem_cons_zero, List.getElem_cons_succ, List.setIfInBounds_toArray, List.set_cons_zero, List.set_cons_succ]
            refine wpAnyH_ready (rs := [4]) (by kernel_rfl) (by simp) ?_
            refine AllReadyH.cons rfl (fun K hK => ?_) ?_
            · try simp only [List.getElem_toArray, List.getElem_cons_zero, List.getElem_cons_succ]
              go_simp
              refine (HPD.out.set_t HW.out k ⟨s1, s2, s3, s4, s5⟩ _ rfl x HX.out).mono ?_
              rintro e wS3 ⟨rfl, hmS3, hPS3⟩
              have HPS3 := Lib.hid hPS3
              have NOS3 := Lib.hid ((hmS3.block ob lO (by simp; omega)).trans NO.out)
              have c0S3 := hPS3.c0 n0 HN.out
              have lS3 := hPS3.lr
              have loS3 := lt_of_block NOS3.out
              have k3S3 := cell_of_row wS3 _ 3 _ _ _ NOS3.out; have k4S3 := cell_of_row wS3 _ 4 _ _ _ NOS3.out; have k5S3 := cell_of_row wS3 _ 5 _ _ _ NOS3.out; have k6S3 := cell_of_row wS3 _ 6 _ _ _ NOS3.out; have k7S3 := cell_of_row wS3 _ 7 _ _ _ NOS3.out; simp only [List.getElem?_toArray, List.getElem?_cons_zero, List.getElem?_cons_succ] at k3S3 k4S3 k5S3 k6S3 k7S3
              clear hmS3 hPS3
              refine hK.out _ _ ⟨k3S3, k4S3, k5S3, k6S3, k7S3⟩ (fun hHeld => ?_)
              clear hK K
              try simp only [Act.put, List.getElem_toArray, List.getElem_cons_zero, List.getElem_cons_succ, List.setIfInBounds_toArray, List.set_cons_zero, List.set_cons_succ]
              refine wpAnyH_ready (rs := [14]) (by kernel_rfl) (by simp) ?_
              refine AllReadyH.cons rfl (fun K hK => ?_) ?_
              · try simp only [List.getElem_toArray, List.getElem_cons_zero, List.getElem_cons_succ]
                go_simp
                refine (HPS3.out.nodes_r n0 xn HN.out HXN.out).mono ?_
                rintro e wN4 ⟨rfl, hbN4⟩
                have HPN4 := Lib.hid (HPS3.out.stay hbN4)
                have NON4 := Lib.hid ((hbN4.block ob loS3).trans NOS3.out)
                have loN4 := lt_of_block NON4.out
                have k3N4 := cell_of_row wN4 _ 3 _ _ _ NON4.out; have k4N4 := cell_of_row wN4 _ 4 _ _ _ NON4.out; have k5N4 := cell_of_row wN4 _ 5 _ _ _ NON4.out; have k6N4 := cell_of_row wN4 _ 6 _ _ _ NON4.out; have k7N4 := cell_of_row wN4 _ 7 _ _ _ NON4.out; simp only [List.getElem?_toArray, List.getElem?_cons_zero, List.getElem?_cons_succ] at k3N4 k4N4 k5N4 k6N4 k7N4
                clear hbN4
                refine hK.out _ _ ⟨k3N4, k4N4, k5N4, k6N4, k7N4⟩ (fun hHeld => ?_)
                clear hK K
                try simp only [Act.put, List.getElem_toArray, List.getElem_cons_zero, List.getElem_cons_succ, List.setIfInBounds_toArray, List.set_cons_zero, List.set_cons_succ]
                refine wpAnyH_take (i := 15) (v := ?_) rfl (by kernel_rfl) (by kernel_rfl) (by kernel_rfl) (fun _ _ _ h => h) (Or.inl ⟨by rfl, ?_⟩) (by assumption) ?_
                rotate_left
                · (intro w hSw; (try dsimp only at hSw); go_simp; first | done | with_reducible rfl)
                try simp only [Act.put, List.getElem_toArray, List.getElem_cons_zero, List.getElem_cons_succ, List.setIfInBounds_toArray, List.set_cons_zero, List.set_cons_succ]
                refine wpAnyH_ready (rs := [16]) (by kernel_rfl) (by simp) ?_
                refine AllReadyH.cons rfl (fun K hK => ?_) ?_
                · try simp only [List.getElem_toArray, List.getElem_cons_zero, List.getElem_cons_succ]
                  go_simp
                  refine (HPN4.out.set_r k ⟨s1, s2, s3, s4, s5⟩ _ rfl x HX.out HLE.out _ HFR.out).mono ?_
                  rintro e wF4 ⟨rfl, hmF4, aF4, cF4, hPF4⟩
                  have HPF4 := Lib.hid hPF4
                  have NOF4 := Lib.hid ((hmF4.block ob loN4 (by simp; omega)).trans NON4.out)
                  have loF4 := lt_of_block NOF4.out
                  have k3F4 := cell_of_row wF4 _ 3 _ _ _ NOF4.out; have k4F4 := cell_of_row wF4 _ 4 _ _ _ NOF4.out; have k5F4 := cell_of_row wF4 _ 5 _ _ _ NOF4.out; have k6F4 := cell_of_row wF4 _ 6 _ _ _ NOF4.out; have k7F4 := cell_of_row wF4 _ 7 _ _ _ NOF4.out; simp only [List.getElem?_toArray, List.getElem?_cons_zero, List.getElem?_cons_succ] at k3F4 k4F4 k5F4 k6F4 k7F4
                  clear hmF4 hPF4
                  refine hK.out _ _ ⟨k3F4, k4F4, k5F4, k6F4, k7F4⟩ (fun hHeld => ?_)
                  clear hK K
                  try simp only [Act.put, List.getElem_toArray, List.getElem_cons_zero, List.getElem_cons_succ, List.setIfInBounds_toArray, List.set_cons_zero, List.set_cons_succ]
                  refine wpAnyH_take (i := 17) (v := ?_) rfl (by kernel_rfl) (by kernel_rfl) (by kernel_rfl) (fun _ _ _ h => h) (Or.inl ⟨by rfl, ?_⟩) (by assumption) ?_
                  rotate_left
                  · (intro w hSw; (try dsimp only at hSw); go_simp; first | done | with_reducible rfl)
                  try simp only [Act.put, List.getElem_toArray, List.getElem_cons_zero, List.getElem_cons_succ, List.setIfInBounds_toArray, List.set_cons_zero, List.set_cons_succ]
                  refine wpAnyH_take (i := 18) (v := ?_) rfl (by kernel_rfl) (by kernel_rfl) (by kernel_rfl) (fun _ _ _ h => h) (Or.inl ⟨by rfl, ?_⟩) (by assumption) ?_
                  rotate_left
                  · (intro w hSw; (try dsimp only at hSw); go_simp; first | done | with_reducible rfl)
                  try simp only [Act.put, List.getElem_toArray, List.getElem_cons_zero, List.getElem_cons_succ, List.setIfInBounds_toArray, List.set_cons_zero, List.set_cons_succ]
                  refine wpAnyH_done (by kernel_rfl) ?_ _
                  go_wp2_with fail
                  go_meet
                  exact ⟨_, _, _, rfl, HPF4⟩
                exact AllReadyH.nil
              exact AllReadyH.nil
            exact AllReadyH.nil
          exact AllReadyH.nil
        · as_aux_lemma =>
          obtain ⟨⟨⟨q1, q2, q3, q4, q5⟩, x⟩, hg⟩ : ∃ g, getP C1 k = g := ⟨_, rfl⟩
          have HG := Lib.hid hg
          have heq : ∀ W, (binOp .eql 68 (.agg #[.bool q1, .bool q2, .bool q3, .bool q4, .int .i64 q5]) (.agg #[.bool q1, .bool q2, .bool q3, .bool q4, .int .i64 q5])).run Tryd.prog W = .ok (.bool true) W := fun W => by
            have := eqSl ⟨q1, q2, q3, q4, q5⟩ ⟨q1, q2, q3, q4, q5⟩ W
            rw [slEq_iff, decide_eq_true rfl] at this
            exact this
          obtain ⟨C2, hC2⟩ : ∃ C2, dropP C1 k = C2 := ⟨_, rfl⟩
          have HC2 := Lib.hid hC2
          clear hg hC2
          go_wp2_with fail
          refine (HP5.out.drop_t HW.out k _ HG.out HC2.out).mono ?_
          rintro e w6 ⟨rfl, hm6, hP6⟩
          simp only [Sl.enc]
          have HP7 := Lib.hid (hP6.stay (below1 w6 (.cells #[.bool q1, .bool q2, .bool q3, .bool q4, .int .i64 q5] 68)))
          have n7 := heap_alloc_new w6 (.cells #[.bool q1, .bool q2, .bool q3, .bool q4, .int .i64 q5] 68)
          have hr7 : r < w6.heap.size := hP6.lr
          clear HP5 hm6 hP6
          go_wp2_with fail
          generalize w6.alloc (.cells #[.bool q1, .bool q2, .bool q3, .bool q4, .int .i64 q5] 68) = W7 at HP7 n7 ⊢
          generalize w6.heap.size = B7 at n7 hr7 ⊢
          refine (HP7.out.drop_r k _ HG.out HC2.out).mono ?_
          rintro e w8 ⟨rfl, hm8, a8, c8, hP8⟩
          simp only [Sl.enc]
          have n8 := (hm8.block B7 (lt_of_block n7) (by simp; omega)).trans n7
          have n9 := ((below1 w8 (.cells #[.bool q1, .bool q2, .bool q3, .bool q4, .int .i64 q5] 68)).block B7 (lt_of_block n8)).trans n8
          have HP9 := Lib.hid (hP8.stay (below1 w8 (.cells #[.bool q1, .bool q2, .bool q3, .bool q4, .int .i64 q5] 68)))
          have m9 := heap_alloc_new w8 (.cells #[.bool q1, .bool q2, .bool q3, .bool q4, .int .i64 q5] 68)
          clear HP7 hm8 hP8 n7 n8
          go_upto_region 20 with (fail)
          generalize w8.alloc (.cells #[.bool q1, .bool q2, .bool q3, .bool q4, .int .i64 q5] 68) = W9 at HP9 n9 m9 ⊢
          generalize w8.heap.size = B9 at m9 ⊢
          have z0 := cell_of_row W9 _ 0 _ _ _ n9
          have z1 := cell_of_row W9 _ 1 _ _ _ n9
          have z2 := cell_of_row W9 _ 2 _ _ _ n9
          have z3 := cell_of_row W9 _ 3 _ _ _ n9
          have z4 := cell_of_row W9 _ 4 _ _ _ n9
          have y0 := cell_of_row W9 _ 0 _ _ _ m9
          have y1 := cell_of_row W9 _ 1 _ _ _ m9
          have y2 := cell_of_row W9 _ 2 _ _ _ m9
          have y3 := cell_of_row W9 _ 3 _ _ _ m9
          have y4 := cell_of_row W9 _ 4 _ _ _ m9
          simp only [List.getElem?_toArray, List.getElem?_cons_zero, List.getElem?_cons_succ] at z0 z1 z2 z3 z4 y0 y1 y2 y3 y4
          have l7 := lt_of_block n9
          have l9 := lt_of_block m9
          clear n9 m9
          go_wp2_with fail
          go_meet
          exact ⟨_, _, _, rfl, HP9⟩
        · as_aux_lemma =>
          obtain ⟨⟨⟨q1, q2, q3, q4, q5⟩, x⟩, hg⟩ : ∃ g, getP C1 k = g := ⟨_, rfl⟩
          have HG := Lib.hid hg
          have heq : ∀ W, (binOp .eql 68 (.agg #[.bool q1, .bool q2, .bool q3, .bool q4, .int .i64 q5]) (.agg #[.bool q1, .bool q2, .bool q3, .bool q4, .int .i64 q5])).run Tryd.prog W = .ok (.bool true) W := fun W => by
            have := eqSl ⟨q1, q2, q3, q4, q5⟩ ⟨q1, q2, q3, q4, q5⟩ W
            rw [slEq_iff, decide_eq_true rfl] at this
            exact this
          obtain ⟨C2, hC2⟩ : ∃ C2, dropP C1 k = C2 := ⟨_, rfl⟩
          have HC2 := Lib.hid hC2
          clear hg hC2
          go_wp2_with fail
          refine (HP5.out.drop_t HW.out k _ HG.out HC2.out).mono ?_
          rintro e w6 ⟨rfl, hm6, hP6⟩
          simp only [Sl.enc]
          have HP7 := Lib.hid (hP6.stay (below1 w6 (.cells #[.bool q1, .bool q2, .bool q3, .bool q4, .int .i64 q5] 68)))
          have n7 := heap_alloc_new w6 (.cells #[.bool q1, .bool q2, .bool q3, .bool q4, .int .i64 q5] 68)
          have hr7 : r < w6.heap.size := hP6.lr
          clear HP5 hm6 hP6
          go_wp2_with fail
          generalize w6.alloc (.cells #[.bool q1, .bool q2, .bool q3, .bool q4, .int .i64 q5] 68) = W7 at HP7 n7 ⊢
          generalize w6.heap.size = B7 at n7 hr7 ⊢
          refine (HP7.out.drop_r k _ HG.out HC2.out).mono ?_
          rintro e w8 ⟨rfl, hm8, a8, c8, hP8⟩
          simp only [Sl.enc]
          have n8 := (hm8.block B7 (lt_of_block n7) (by simp; omega)).trans n7
          have n9 := ((below1 w8 (.cells #[.bool q1, .bool q2, .bool q3, .bool q4, .int .i64 q5] 68)).block B7 (lt_of_block n8)).trans n8
          have HP9 := Lib.hid (hP8.stay (below1 w8 (.cells #[.bool q1, .bool q2, .bool q3, .bool q4, .int .i64 q5] 68)))
          have m9 := heap_alloc_new w8 (.cells #[.bool q1, .bool q2, .bool q3, .bool q4, .int .i64 q5] 68)
          clear HP7 hm8 hP8 n7 n8
          go_upto_region 20 with (fail)
          generalize w8.alloc (.cells #[.bool q1, .bool q2, .bool q3, .bool q4, .int .i64 q5] 68) = W9 at HP9 n9 m9 ⊢
          generalize w8.heap.size = B9 at m9 ⊢
          have z0 := cell_of_row W9 _ 0 _ _ _ n9
          have z1 := cell_of_row W9 _ 1 _ _ _ n9
          have z2 := cell_of_row W9 _ 2 _ _ _ n9
          have z3 := cell_of_row W9 _ 3 _ _ _ n9
          have z4 := cell_of_row W9 _ 4 _ _ _ n9
          have y0 := cell_of_row W9 _ 0 _ _ _ m9
          have y1 := cell_of_row W9 _ 1 _ _ _ m9
          have y2 := cell_of_row W9 _ 2 _ _ _ m9
          have y3 := cell_of_row W9 _ 3 _ _ _ m9
          have y4 := cell_of_row W9 _ 4 _ _ _ m9
          simp only [List.getElem?_toArray, List.getElem?_cons_zero, List.getElem?_cons_succ] at z0 z1 z2 z3 z4 y0 y1 y2 y3 y4
          have l7 := lt_of_block n9
          have l9 := lt_of_block m9
          clear n9 m9
          go_wp2_with fail
          go_meet
          exact ⟨_, _, _, rfl, HP9⟩
        · as_aux_lemma =>
          obtain ⟨⟨⟨q1, q2, q3, q4, q5⟩, x⟩, hg⟩ : ∃ g, getP C1 k = g := ⟨_, rfl⟩
          have HG := Lib.hid hg
          have heq : ∀ W, (binOp .eql 68 (.agg #[.bool q1, .bool q2, .bool q3, .bool q4, .int .i64 q5]) (.agg #[.bool q1, .bool q2, .bool q3, .bool q4, .int .i64 q5])).run Tryd.prog W = .ok (.bool true) W := fun W => by
            have := eqSl ⟨q1, q2, q3, q4, q5⟩ ⟨q1, q2, q3, q4, q5⟩ W
            rw [slEq_iff, decide_eq_true rfl] at this
            exact this
          clear hg
          go_wp2_with fail
          refine (HP5.out.get_t HW.out k _ HG.out).mono ?_
          rintro e w6 ⟨rfl, hb6⟩
          simp only [Sl.enc]
          have HP7 := Lib.hid ((HP5.out.stay hb6).stay (below1 w6 (.cells #[.bool q1, .bool q2, .bool q3, .bool q4, .int .i64 q5] 68)))
          have n7 := heap_alloc_new w6 (.cells #[.bool q1, .bool q2, .bool q3, .bool q4, .int .i64 q5] 68)
          clear HP5 hb6
          go_wp2_with fail
          generalize w6.alloc (.cells #[.bool q1, .bool q2, .bool q3, .bool q4, .int .i64 q5] 68) = W7 at HP7 n7 ⊢
          generalize w6.heap.size = B7 at n7 ⊢
          refine (HP7.out.get_r k _ HG.out).mono ?_
          rintro e w8 ⟨rfl, hb8⟩
          simp only [Sl.enc]
          have n8 := (hb8.block B7 (lt_of_block n7)).trans n7
          have n9 := ((below1 w8 (.cells #[.bool q1, .bool q2, .bool q3, .bool q4, .int .i64 q5] 68)).block B7 (lt_of_block n8)).trans n8
          have HP9 := Lib.hid ((HP7.out.stay hb8).stay (below1 w8 (.cells #[.bool q1, .bool q2, .bool q3, .bool q4, .int .i64 q5] 68)))
          have m9 := heap_alloc_new w8 (.cells #[.bool q1, .bool q2, .bool q3, .bool q4, .int .i64 q5] 68)
          clear HP7 hb8 n7 n8
          go_upto_region 24 with (fail)
          generalize w8.alloc (.cells #[.bool q1, .bool q2, .bool q3, .bool q4, .int .i64 q5] 68) = W9 at HP9 n9 m9 ⊢
          generalize w8.heap.size = B9 at m9 ⊢
          have z0 := cell_of_row W9 _ 0 _ _ _ n9
          have z1 := cell_of_row W9 _ 1 _ _ _ n9
          have z2 := cell_of_row W9 _ 2 _ _ _ n9
          have z3 := cell_of_row W9 _ 3 _ _ _ n9
          have z4 := cell_of_row W9 _ 4 _ _ _ n9
          have y0 := cell_of_row W9 _ 0 _ _ _ m9
          have y1 := cell_of_row W9 _ 1 _ _ _ m9
          have y2 := cell_of_row W9 _ 2 _ _ _ m9
          have y3 := cell_of_row W9 _ 3 _ _ _ m9
          have y4 := cell_of_row W9 _ 4 _ _ _ m9
          simp only [List.getElem?_toArray, List.getElem?_cons_zero, List.getElem?_cons_succ] at z0 z1 z2 z3 z4 y0 y1 y2 y3 y4
          have l7 := lt_of_block n9
          have l9 := lt_of_block m9
          clear n9 m9
          go_wp2_with fail
          go_meet
          exact ⟨_, _, _, rfl, HP9⟩
        · as_aux_lemma =>
          obtain ⟨F5, N5, hR5, hT5⟩ := HP5.out.tab
          obtain ⟨⟨⟨P, q1, q2, q3, q4, q5⟩, fb⟩, hF⟩ : ∃ g, fst1 (pgL C1 k 4 0) = g := ⟨_, rfl⟩
          have HV := Lib.hid (show firstV (pgL C1 k 4 0) = .tuple #[.agg #[.int .i64 P, .bool q1, .bool q2, .bool q3, .bool q4, .int .i64 q5], .bool fb] by rw [firstV_eq, hF]; rfl)
          have HF0 := Lib.hid (show fst1 (flt (pages C1) k 0) = ((P, ⟨q1, q2, q3, q4, q5⟩), fb) by rw [flt_from, hF])
          have hlen1 := pages_len C1
          obtain ⟨L, hL⟩ : ∃ L, pages C1 = L := ⟨_, rfl⟩
          have HL := Lib.hid hL
          rw [hL] at hlen1 HF0
          obtain ⟨nn, hnn⟩ : ∃ nn, L.length = nn := ⟨_, rfl⟩
          have HNN := Lib.hid hnn
          have HNN1 := Lib.hid (show (pages C1).length = nn by rw [hL, hnn])
          rw [hnn] at hlen1
          have heq := eqSp (P, ⟨q1, q2, q3, q4, q5⟩) (P, ⟨q1, q2, q3, q4, q5⟩)
          rw [spEq_iff, decide_eq_true rfl] at heq
          simp only [spotL] at heq
          have HEQ := Lib.hid heq
          have HFR := Lib.hid (from_t HW.out hR5.tr hR5.tb k)
          clear hL hnn hF hR5 hT5 heq
          go_wp2_with fail
          refine HFR.out.mono ?_
          rintro e w6 ⟨rfl, hb6⟩
          rw [HV.out]
          have HP6 := Lib.hid (HP5.out.stay hb6)
          clear HP5 hb6 HFR HV
          go_upto_region 28 with (fail)
          have HPY := Lib.hid (HP6.out.stay (below1 w6 (.cells #[.int .i64 P, .bool q1, .bool q2, .bool q3, .bool q4, .int .i64 q5] 82)))
          have nA := heap_alloc_new w6 (.cells #[.int .i64 P, .bool q1, .bool q2, .bool q3, .bool q4, .int .i64 q5] 82)
          have hYs : (w6.alloc (.cells #[.int .i64 P, .bool q1, .bool q2, .bool q3, .bool q4, .int .i64 q5] 82)).heap.size = w6.heap.size + 1 := by simp
          generalize w6.alloc (.cells #[.int .i64 P, .bool q1, .bool q2, .bool q3, .bool q4, .int .i64 q5] 82) = Y at HPY nA hYs ⊢
          generalize w6.heap.size = BA at nA hYs ⊢
          have hbY := below1 Y (.cells #[.int .i64 0, .bool false, .bool false, .bool false, .bool false, .int .i64 0] 82)
          have nW := heap_alloc_new Y (.cells #[.int .i64 0, .bool false, .bool false, .bool false, .bool false, .int .i64 0] 82)
          have HBY := Lib.hid hbY
          have HNA := Lib.hid nA
          have c0 := (HPY.out.stay hbY).c0 nn HNN1.out
          have lr := (HPY.out.stay hbY).lr
          generalize Y.alloc (.cells #[.int .i64 0, .bool false, .bool false, .bool false, .bool false, .int .i64 0] 82) = X at HBY nW c0 lr ⊢
          rw [hYs] at nW
          obtain ⟨BW, hBW⟩ : ∃ BW, BA + 1 = BW := ⟨_, rfl⟩
          rw [hBW] at nW hYs ⊢
          have HBW := Lib.hid hYs
          have HNW := Lib.hid nW
          clear nA hbY nW hBW hYs HP6
          go_wp2_with fail
          go_loopw [26, 27] (fun fv jv wx => ∃ i : Nat, i ≤ nn ∧ jv = .int .i64 ((i : Int) - 1) ∧ fv = .bool (fst1 (flt L k i)).2 ∧ Hid (wx.heap[BW]? = some (.cells (spotL (fst1 (flt L k i)).1).toArray 82 (0, 0))) ∧ Hid (Below Y.heap.size Y wx)) (fun _ j _ => (intOf j + 1).toNat)
          case atStart =>
            have he : flt L k nn = [] := by rw [← HNN.out]; exact flt_end L k
            exact ⟨nn, by omega, rfl, by rw [he]; rfl, Lib.hid (by rw [he]; exact HNW.out), HBY⟩
          case round =>
            clear HNW HBY c0 lr
            obtain ⟨i, hi, rfl, rfl, HW2, HB2⟩ := hrel
            have c0 := (HPY.out.stay HB2.out).c0 nn HNN1.out
            have lr := (HPY.out.stay HB2.out).lr
            cases i with
            | zero =>
              rw [HF0.out] at HW2
              rw [HF0.out]
              simp only [spotL] at HW2 ⊢
              rw [show ((0 : Nat) : Int) - 1 = -1 from rfl]
              have hnA := (HB2.out.block BA (lt_of_block HNA.out)).trans HNA.out
              have hnW := HW2.out
              have z0 := cell_of_row wr _ 0 _ _ _ hnA
              have z1 := cell_of_row wr _ 1 _ _ _ hnA
              have z2 := cell_of_row wr _ 2 _ _ _ hnA
              have z3 := cell_of_row wr _ 3 _ _ _ hnA
              have z4 := cell_of_row wr _ 4 _ _ _ hnA
              have z5 := cell_of_row wr _ 5 _ _ _ hnA
              have y0 := cell_of_row wr _ 0 _ _ _ hnW
              have y1 := cell_of_row wr _ 1 _ _ _ hnW
              have y2 := cell_of_row wr _ 2 _ _ _ hnW
              have y3 := cell_of_row wr _ 3 _ _ _ hnW
              have y4 := cell_of_row wr _ 4 _ _ _ hnW
              have y5 := cell_of_row wr _ 5 _ _ _ hnW
              simp only [List.getElem?_toArray, List.getElem?_cons_zero, List.getElem?_cons_succ] at z0 z1 z2 z3 z4 z5 y0 y1 y2 y3 y4 y5
              have lA := lt_of_block hnA
              have lW := lt_of_block hnW
              have heq := HEQ.out
              have heqb : ∀ W, (binOp .eql 4 (.bool fb) (.bool fb)).run Tryd.prog W = .ok (.bool true) W := fun W => by cases fb <;> rfl
              clear hnA hnW HW2
              go_wp2_with fail
              go_meet
              exact ⟨_, _, _, rfl, Lib.hid (HPY.out.stay HB2.out)⟩
            | succ i =>
              rw [show ((i + 1 : Nat) : Int) - 1 = (i : Int) by omega]
              obtain ⟨y, hy⟩ : ∃ y, L[i]? = some y := ⟨_, List.getElem?_eq_getElem (by rw [HNN.out]; omega)⟩
              have hfc := flt_cons (k := k) hy
              have hsp := (HPY.out.stay HB2.out).rt.sp
              rw [HL.out, HNN.out] at hsp
              obtain ⟨g, rfl, g1, g2, g3, g4, g5, g6, g7, g8⟩ := hsp.six i y hy
              have hcap := hsp.cap
              rw [HNN.out] at hcap
              have hiN : i < nn := by omega
              by_cases hky : k ≤ (y.1 : Int)
              · rw [if_pos hky] at hfc
                have HFC := Lib.hid hfc
                have hnW := HW2.out
                obtain ⟨⟨⟨P1, p1, p2, p3, p4, p5⟩, fb1⟩, hf1⟩ : ∃ g, fst1 (flt L k (i + 1)) = g := ⟨_, rfl⟩
                rw [hf1] at hnW
                simp only [spotL] at hnW
                have y0 := cell_of_row wr _ 0 _ _ _ hnW
                have y1 := cell_of_row wr _ 1 _ _ _ hnW
                have y2 := cell_of_row wr _ 2 _ _ _ hnW
                have y3 := cell_of_row wr _ 3 _ _ _ hnW
                have y4 := cell_of_row wr _ 4 _ _ _ hnW
                have y5 := cell_of_row wr _ 5 _ _ _ hnW
                simp only [List.getElem?_toArray, List.getElem?_cons_zero, List.getElem?_cons_succ] at y0 y1 y2 y3 y4 y5
                have f0 := frozen_of_row wr BW 0 _ _ hnW
                have f1 := frozen_of_row wr BW 1 _ _ hnW
                have f2 := frozen_of_row wr BW 2 _ _ hnW
                have f3 := frozen_of_row wr BW 3 _ _ hnW
                have f4 := frozen_of_row wr BW 4 _ _ hnW
                have f5 := frozen_of_row wr BW 5 _ _ hnW
                have lW := lt_of_block hnW
                obtain ⟨Q, r1, r2, r3, r4, r5⟩ := y
                simp only at g3 g4 g5 g6 g7 g8 hky
                have hset := set6_cells wr BW _ _ _ _ _ _ _ hnW (.int .i64 Q) (.bool r1) (.bool r2) (.bool r3) (.bool r4) (.int .i64 r5)
                have hb6 := below_six HB2.out BW (by have := HBW.out; omega) (.int .i64 Q) (.bool r1) (.bool r2) (.bool r3) (.bool r4) (.int .i64 r5)
                have HSET := Lib.hid hset
                have HB6 := Lib.hid hb6
                clear hy hfc hsp hset hb6 hnW hf1 HW2
                go_wp2_with fail
                go_roundw
                case rel => exact ⟨i, by omega, rfl, by rw [HFC.out]; rfl, Lib.hid (by rw [HFC.out]; exact HSET.out), HB6⟩
                case measure => simp [intOf]
              · rw [if_neg hky] at hfc
                have HFC := Lib.hid hfc
                obtain ⟨Q, r1, r2, r3, r4, r5⟩ := y
                simp only at g3 hky
                clear hy hfc hsp g4 g5 g6 g7 g8
                go_wp2_with fail
                go_roundw
                case rel => exact ⟨i, by omega, rfl, by rw [HFC.out], Lib.hid (by rw [HFC.out]; exact HW2.out), HB2⟩
                case measure => simp [intOf]
      case rest => as_aux_lemma =>
        clear HP5
        obtain ⟨C2, a2, c2, rfl, HPY⟩ := hcut
        obtain ⟨L, hL⟩ : ∃ L, pages C2 = L := ⟨_, rfl⟩
        have HL := Lib.hid hL
        obtain ⟨nn, hnn⟩ : ∃ nn, L.length = nn := ⟨_, rfl⟩
        have HNN := Lib.hid hnn
        have HNN1 := Lib.hid (show (pages C2).length = nn by rw [hL, hnn])
        have hlen2 := pages_len C2
        rw [hL, hnn] at hlen2
        obtain ⟨xn, hxn⟩ : ∃ xn, nodesL (pages C2) = xn := ⟨_, rfl⟩
        have HXN := Lib.hid hxn
        have hle := HPY.out.few.1
        rw [hxn] at hle
        have hwr : IntKind.i64.wrap ((mm : Int) - xn) = (mm : Int) - xn := by rw [IntKind.wrap_i64]; omega
        have c0 := HPY.out.c0 nn HNN1.out
        have lr := HPY.out.lr
        have HPD := Lib.hid HPY.out.drew
        clear hL hnn hxn hq0 hq1
        go_upto_region 36 with (fail)
        go_region_held3 (fun w' => w'.cell? ⟨r, 0, none⟩ = some (.slice a2 nn c2)) (first | exact c0 | exact c06 | exact c07 | go_keep) ((first | (go_at_call 51; refine (same_any _ _ _ nn nn cl c2 al a2 L L HNN.out HNN.out hlen2 hlen2 HSP.out HSP2.out).mono ?_; rintro e w7 ⟨rfl, hb7⟩; rw [decide_eq_true (rfl : L = L)]; have HP7 := Lib.hid (HP6.out.stay hb7); have c07 := HP7.out.c0 nn HNN1.out; have lr7 := HP7.out.lr; clear hb7) | (go_at_call 49; refine (HPD.out.all_t HW.out L nn HL.out HNN.out).mono ?_; rintro e w6 ⟨al, cl, rfl, hsp, hb6⟩; have HSP := Lib.hid hsp; have HP6 := Lib.hid (HPD.out.stay hb6); have HSP2 := Lib.hid (HP6.out.row L nn HL.out HNN.out); have c06 := HP6.out.c0 nn HNN1.out; have lr6 := HP6.out.lr; clear hsp hb6)))
        go_wp2_with fail
        have HPE := Lib.hid HP7.out.drew
        clear HSP HSP2 HP6 HPD HPY c0 c06 lr lr6
        go_region_held3 (fun w' => w'.cell? ⟨r, 0, none⟩ = some (.slice a2 nn c2)) (first | assumption | exact c07 | exact c08 | go_keep) ((first | (go_at_call 61; refine (HPE.out.nodes_r nn xn HNN1.out HXN.out).mono ?_; rintro e w8 ⟨rfl, hb8⟩; have HP8 := Lib.hid (HPE.out.stay hb8); have c08 := HP8.out.c0 nn HNN1.out; have lr8 := HP8.out.lr; clear hb8) | (go_at_call 31; refine (HP8.out.free_t xn HXN.out).mono ?_; rintro e w9 ⟨rfl, rfl⟩) | (go_at_call 52; first | (refine (HP8.out.nodes_t xn HXN.out).mono ?_; rintro e w9 ⟨rfl, rfl⟩) | (refine (HPE.out.nodes_t xn HXN.out).mono ?_; rintro e w9 ⟨rfl, rfl⟩))))
        go_wp2_with fail
        go_roundw
        case rel => exact ⟨j + 1, C2, a2, c2, by omega, by go_num, HP8⟩
        case measure => simp [intOf]; omega
    · obtain ⟨F5, N5, hR5, hT5⟩ := HPY.out.tab
      obtain ⟨L, hL⟩ : ∃ L, pages C1 = L := ⟨_, rfl⟩
      have HL := Lib.hid hL
      obtain ⟨nn, hnn⟩ : ∃ nn, L.length = nn := ⟨_, rfl⟩
      have HNN := Lib.hid hnn
      have hlen2 := pages_len C1
      rw [hL, hnn] at hlen2
      have HCL := Lib.hid (hR5.close HW.out hT5)
      have hlay := HPY.out.lay
      have hsz := HPY.out.size
      have HLY := Lib.hid (And.intro hlay hsz)
      clear hL hnn hR5 hT5 hlay hsz
      go_wp2_with fail
      all_goals
        refine HCL.out.mono ?_
        rintro e w6 ⟨v, al, cl, F6, rfl, hsp, hm6, ht6, hA6, hf6⟩
        obtain rfl := hsp.val
        have hrt := HPY.out.rt.mods hm6 (by have := HLY.out.1.ne; simp; omega) (by have := HLY.out.1.lt; simp; omega)
        have HRT := Lib.hid hrt
        have c0 := hrt.cell L nn HL.out HNN.out
        have lr := hrt.lt
        have hlp : (pages C1).length = nn := by rw [HL.out, HNN.out]
        rw [hlp] at hsp ⊢
        have HSP := Lib.hid (show SpAt w6 wr.heap.size (.slice al nn cl) L al cl from HL.out ▸ hsp)
        have HA6 := Lib.hid hA6
        have HT6 := Lib.hid ht6
        have HF6 := Lib.hid (show (frees F6.held : Int) = mm by rw [hf6])
        clear hsp hm6 ht6 hA6 hf6 hrt hlp HCL HPY
        go_wp2_with fail
        refine (same_any _ _ _ nn nn cl c1 al a1 L L HNN.out HNN.out hlen2 hlen2 HSP.out (HRT.out.row L nn HL.out HNN.out)).mono ?_
        rintro e w7 ⟨rfl, hb7⟩
        rw [decide_eq_true (rfl : L = L)]
        have HA7 := Lib.hid (HA6.out.stay hb7)
        have ht7 := (hb7.block t (lt_of_block HT6.out)).trans HT6.out
        have HT7 := Lib.hid ht7
        clear hb7 HSP HRT HA6 HT6 c0 lr ht7
        go_wp2_with fail
        refine (get_err w7 (some ⟨t, 0, none⟩) 0 13 (by omega) (fun W hW => asked_closed W t 0 (by omega) (by omega) ((hW.cell (p := ⟨t, 0, none⟩) (lt_of_block HT7.out)).trans (by rw [cell_of_row _ _ _ _ _ _ HT7.out]; rfl)))).mono ?_
        rintro e w8 ⟨rfl, hb8⟩
        have hb9 := hb8.trans ((below1 w8 (.cells #[.bool false, .bool false, .bool false, .bool false, .int .i64 0] 68)).mono hb8.size)
        have HA9 := Lib.hid (HA7.out.stay hb9)
        have HT9 := Lib.hid ((hb9.block t (lt_of_block HT7.out)).trans HT7.out)
        clear HA7 HT7 hb8 hb9
        go_wp2_with fail
        generalize w8.alloc (.cells #[.bool false, .bool false, .bool false, .bool false, .int .i64 0] 68) = W9 at HA9 HT9 ⊢
        refine (HA9.out.free).mono ?_
        rintro e w10 ⟨rfl, rfl⟩
        rw [HF6.out]
        go_wp2_with fail
        refine (nodes_at _ t 0 (by rw [cell_of_row _ _ _ _ _ _ HT9.out]; rfl)).mono ?_
        rintro e w10 ⟨rfl, rfl⟩
        go_wp2_with fail
        refine (all_none _ (some ⟨t, 0, none⟩) (.inr ⟨t, rfl, by rw [cell_of_row _ _ _ _ _ _ HT9.out]; rfl⟩)).mono ?_
        rintro e w11 ⟨ax, cx, rfl, hb11⟩
        go_wp2_with fail
        go_ret
        exact ⟨rfl, (HA9.out.stay hb11).below⟩
end Go.Proofs.YtacpfkimjaihgaaDoor
